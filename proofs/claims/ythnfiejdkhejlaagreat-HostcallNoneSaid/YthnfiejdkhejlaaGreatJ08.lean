/- Package audit: grow, Len, Digest. -/
import Derived.Laws.StructEq
import Derived.Test.YthnfiejdkhejlaaGreatJ07
set_option linter.all false
set_option maxRecDepth 100000
namespace Go.Proofs.YthnfiejdkhejlaaGreat
open Go.RowKit Go.Sl Go.Shelf
theorem grow_some (b : Nat) (i : Nat) (cs : Array Value) (m : AM) (k : Int) (q : Nat) (hi : cs[i]? = some (.map (some q))) (hx : (AL.get m (k : Int)).getD 0 < 9223372036854775807 ∧ 0 ≤ (AL.get m (k : Int)).getD 0) {w W : World} {h : Hl} {X : As} (s : St w h W (pts b (.cells cs 230 (0,0)) * (mI (some q) m * X))) :
    Calls Tryz.prog 152 #[.pointer (some ⟨b, i, none⟩), .int .i64 k] W fun e w' => e = .returned (.tuple #[]) ∧ St w h w' (pts b (.cells cs 230 (0,0)) * (mI (some q) (AL.set m k ((AL.get m (k : Int)).getD 0 + 1)) * X)) := by
  have hlk := s.b2.lookP (P := Tryz.prog) (T := 228) klI Tryz.underlying228 zeroI k
  obtain ⟨W9, hrun, S9⟩ := s.b2.upd (P := Tryz.prog) (T := 228) klI Tryz.underlying228 k ((AL.get m (k : Int)).getD 0 + 1)
  have hw : IntKind.i64.wrap ((AL.get m (k : Int)).getD 0 + 1) = (AL.get m (k : Int)).getD 0 + 1 := IntWalk.i64_in _ (by omega)
  have HS := Lib.hid (show St w h W9 (pts b (.cells cs 230 (0,0)) * (mI (some q) (AL.set m k ((AL.get m (k : Int)).getD 0 + 1)) * X)) from S9.b2)
  have ci := blk_cell s.blk i
  rw [hi] at ci
  have hne := fun w r => run_eql_map_nil (P := Tryz.prog) w 228 _ _ r Tryz.underlying228
  replace hlk := hlk W (Below.refl _ _)
  generalize (AL.get m (k : Int)).getD 0 = x at *
  clear S9 hx s
  go_enter Tryz.func152, Tryz.ntmps152
  go_upto_region 2 with fail
  clear hi hne
  go_wp2_with (first | (at_mapUpdate; refine wpList_mapUpdate _ _ _ rfl rfl rfl hrun ?_) | (at_lookup; refine wpList_lookup _ _ _ rfl rfl hlk ?_))
  go_end0
  exact ⟨rfl, HS.out⟩
theorem grow_none (b : Nat) (i : Nat) (cs : Array Value) (k : Int) (hi : cs[i]? = some (.map none)) {w W : World} {h : Hl} {X : As} (s : St w h W (pts b (.cells cs 230 (0,0)) * X)) :
    Calls Tryz.prog 152 #[.pointer (some ⟨b, i, none⟩), .int .i64 k] W fun e w' => ∃ q, e = .returned (.tuple #[]) ∧ St w h w' (pts b (.cells (cs.setIfInBounds i (.map (some q))) 230 (0,0)) * (mI (some q) [((k : Int), (1 : Int))] * X)) := by
  have S1 := s.set i (.map (some W.heap.size))
  have S2 := (S1.mapNew (ek := Value.int .i64) (ev := Value.int .i64) (κ := Int) (α := Int))
  rw [World.size_setCell] at S2
  have S2 : St w h ((W.setCell ⟨b, i, none⟩ (.map (some W.heap.size))).alloc (.map #[] 0)) (mI (some W.heap.size) ([] : AM) * (pts b (.cells (cs.setIfInBounds i (.map (some W.heap.size))) 230 (0,0)) * X)) := S2
  have hlk := S2.lookP (P := Tryz.prog) (T := 228) klI Tryz.underlying228 zeroI k
  obtain ⟨W9, hrun, S9⟩ := S2.upd (P := Tryz.prog) (T := 228) klI Tryz.underlying228 k 1
  have HS := Lib.hid (show St w h W9 (pts b (.cells (cs.setIfInBounds i (.map (some W.heap.size))) 230 (0,0)) * (mI (some W.heap.size) [((k : Int), (1 : Int))] * X)) from S9.b2)
  have ci := blk_cell s.blk i
  have fi := blk_free s.blk i
  rw [hi] at ci
  have hmm := @run_makeMap Tryz.prog
  have hne := fun w r => run_eql_map_nil (P := Tryz.prog) w 228 _ _ r Tryz.underlying228
  have hlk := hlk _ (Below.refl _ _)
  have hb2 := S2.b2.blk
  have c2 := blk_cell hb2 i
  have f2 := blk_free hb2 i
  have hsz := lts (blk_lt s.blk)
  rw [Array.getElem?_setIfInBounds_self_of_lt (Array.getElem?_eq_some_iff.1 hi).1] at c2
  clear S9 s S1 S2
  go_enter Tryz.func152, Tryz.ntmps152
  go_upto_region 2 with fail
  generalize World.alloc _ _ = W2 at *
  generalize W.heap.size = qq at *
  clear hi hne ci fi hmm hsz
  obtain ⟨x, hx⟩ : ∃ x : Int, x = 0 := ⟨_, rfl⟩
  have hw : IntKind.i64.wrap (x + 1) = x + 1 := IntWalk.i64_in _ (by omega)
  rw [show (1 : Int) = x + 1 from by omega] at hrun
  replace hlk : (Instr.lookup 228 (.map (some qq)) (.int .i64 k) false).run Tryz.prog W2 = .ok (.int .i64 x) W2 := by rw [hx]; exact hlk
  clear hx
  go_wp2_with (first | (at_mapUpdate; refine wpList_mapUpdate _ _ _ rfl rfl rfl hrun ?_) | (at_lookup; refine wpList_lookup _ _ _ rfl rfl hlk ?_))
  go_end0
  exact ⟨_, rfl, HS.out⟩
theorem grow_st (b : Nat) (c v1 v2 d r2 : Value) (r1 : Option Nat) (m : AM) (k : Int) (hx : (AL.get m (k : Int)).getD 0 < 9223372036854775807 ∧ 0 ≤ (AL.get m (k : Int)).getD 0) {w W : World} {h : Hl} {X : As} (s : St w h W (pts b (.cells #[c, v1, v2, d, .map r1, r2] 230 (0,0)) * (mI r1 m * X))) :
    Calls Tryz.prog 152 #[.pointer (some ⟨b, 4, none⟩), .int .i64 k] W fun e w' => ∃ q, e = .returned (.tuple #[]) ∧ St w h w' (pts b (.cells #[c, v1, v2, d, .map (some q), r2] 230 (0,0)) * (mI (some q) (AL.set m k ((AL.get m (k : Int)).getD 0 + 1)) * X)) := by
  cases r1 with
  | none =>
    have hm : m = [] := by obtain ⟨_, _, x, y, _, rfl, _, ⟨_, _, _, _, ⟨hm, _⟩, _⟩⟩ := s; exact hm
    subst hm
    have s2 : St w h W (pts b (.cells #[c, v1, v2, d, .map none, r2] 230 (0,0)) * X) := s.b2.to fun _ a => by
      obtain ⟨x, y, dd, rfl, ⟨_, hx⟩, hy⟩ := a
      have : x = Hl.emp := hx
      subst this
      rw [emp_un]; exact hy
    exact (grow_none b 4 #[c, v1, v2, d, .map none, r2] k rfl s2).mono fun e w' ⟨q, he, s'⟩ => ⟨q, he, s'⟩
  | some q => exact (grow_some b 4 #[c, v1, v2, d, .map (some q), r2] m k q rfl hx s).mono fun e w' ⟨he, s'⟩ => ⟨q, he, s'⟩
theorem Len_any (b : Nat) (c d e f g : Value) (a : Option Addr) (n cp : Nat) (w : World) (hb : w.heap[b]? = some (.cells #[c, .slice a n cp, d, e, f, g] 230 (0,0))) :
    Calls Tryz.prog 165 #[.pointer (some ⟨b, 0, none⟩)] w fun e w' => e = .returned (.int .i64 n) ∧ w' = w := by
  have c1 := blk_cell hb 1
  go_enter Tryz.func165, Tryz.ntmps165
  go_wp2
  go_ret
  exact ⟨rfl, rfl⟩
theorem Digest_any (b : Nat) (c d f g : Value) (la : Int) (a : Option Addr) (n cp : Nat) (w : World) (hb : w.heap[b]? = some (.cells #[c, .slice a n cp, d, .int .u64 la, f, g] 230 (0,0))) :
    Calls Tryz.prog 101 #[.pointer (some ⟨b, 0, none⟩)] w fun e w' => e = .returned (.int .u64 (if n = 0 then 14695981039346656037 else la)) ∧ w' = w := by
  have c3 := blk_cell hb 3
  have hl := Len_any b c d (.int .u64 la) f g a n cp w hb
  by_cases h0 : n = 0
  · subst h0
    go_enter Tryz.func101, Tryz.ntmps101
    go_wp2_with (first | (go_at_call 165; refine hl.mono ?_; rintro e w1 ⟨rfl, rfl⟩) | (go_at_call 166; refine (Sum_nil _).mono ?_; rintro e w1 ⟨rfl, rfl⟩))
    go_ret
    exact ⟨rfl, rfl⟩
  · rw [if_neg h0]
    have d0 : decide ((n : Int) = 0) = false := decide_eq_false (by omega)
    go_enter Tryz.func101, Tryz.ntmps101
    go_wp2_with (first | (go_at_call 165; refine hl.mono ?_; rintro e w1 ⟨rfl, rfl⟩) | (go_at_call 166; refine (Sum_nil _).mono ?_; rintro e w1 ⟨rfl, rfl⟩))
    go_ret
    exact ⟨rfl, rfl⟩
end Go.Proofs.YthnfiejdkhejlaaGreat
/- Package audit: Append. -/
namespace Go.Proofs.YthnfiejdkhejlaaGreat
open Go.RowKit Go.Sl Go.Shelf
theorem u64_bd (x : Int) : 0 ≤ IntKind.u64.wrap x ∧ IntKind.u64.wrap x < 18446744073709551616 := by
  simp [IntKind.wrap, IntKind.bits, IntKind.signed]; omega
theorem addI_bd (cs : List Nat) : ∀ d : Int, 0 ≤ d ∧ d < 18446744073709551616 → 0 ≤ addI d cs ∧ addI d cs < 18446744073709551616 := by
  induction cs with
  | nil => exact fun d h => h
  | cons c cs ih => exact fun d _ => ih _ (u64_bd _)
def chI (p : Nat) (bs : List Nat) : Int := addI (addI 14695981039346656037 (b8 p)) bs
theorem chI_bd (p : Nat) (bs : List Nat) : 0 ≤ chI p bs ∧ chI p bs < 18446744073709551616 := addI_bd _ _ (addI_bd _ _ (by omega))
def chN (p : Nat) (bs : List Nat) : Nat := (chI p bs).toNat
theorem chN_cast (p : Nat) (bs : List Nat) : chI p bs = (chN p bs : Int) := (Int.toNat_of_nonneg (chI_bd p bs).1).symm
theorem chN_lt (p : Nat) (bs : List Nat) : chN p bs < 18446744073709551616 := by have := chI_bd p bs; unfold chN; omega
theorem Chain_st (p n : Nat) (bs : List Nat) (hl : bs.length = n) (h0 : 0 < n) (hn : n ≤ 1000000) (hp : p < 18446744073709551616) (a : Option Addr) (cp : Nat) {w W : World} {h : Hl} {X : As} (s : St w h W (rowAs 5 1 (.slice a n cp) n (bs.map bv) * X)) :
    Calls Tryz.prog 153 #[.int .u64 p, .slice a n cp] W fun e w' => e = .returned (.int .u64 (chN p bs)) ∧ Below W.heap.size W w' := by
  obtain ⟨g, cap, hv, hc0⟩ := s.rowCell (j := 0) (u := bv (bs.getD 0 0)) (by rw [List.getElem?_map, List.getElem?_eq_getElem (by omega)]; simp [List.getD, List.getElem?_eq_getElem (show 0 < bs.length by omega)])
  cases hv
  refine (Chain_any p g n cp bs W hp (cell_lt hc0) hl hn fun j hj => ?_).mono fun e w' ⟨he, B⟩ => ⟨by rw [he, ← chN_cast]; rfl, B⟩
  obtain ⟨g2, cap2, hv2, hc⟩ := s.rowCell (j := j) (u := bv (bs.getD j 0)) (by rw [List.getElem?_map, List.getElem?_eq_getElem (by omega)]; simp [List.getD, List.getElem?_eq_getElem (show j < bs.length by omega)])
  cases hv2
  exact hc
theorem Encode_st (e : Evt) (he : e.ok) {w W : World} {h : Hl} {X : As} (s : St w h W X) :
    Calls Tryz.prog 150 #[.agg #[.int .i64 e.p, .int .i64 e.op, .int .u64 e.hd, .int .u64 e.arg, .int .i64 e.err]] W fun x w' => ∃ ad cp, x = .returned (.tuple #[.slice ad e.bytes.length cp, .int .i64 0]) ∧ St w h w' (rowAs 5 1 (.slice ad e.bytes.length cp) e.bytes.length (e.bytes.map bv) * X) := by
  obtain ⟨k, t, a⟩ := s
  refine (Encode_ok e he W k X t.has a).mono fun x w' ⟨u, h', hx, t', a'⟩ => ?_
  obtain ⟨ad, cp, rfl⟩ := rowAs_form a'
  exact ⟨ad, cp, hx, h', t.trans t', a'⟩
theorem digestBytes_st (p : Nat) (hp : p < 18446744073709551616) {w W : World} {h : Hl} {X : As} (s : St w h W X) :
    Calls Tryz.prog 155 #[.int .u64 p] W fun x w' => ∃ ad cp, x = .returned (.slice ad 8 cp) ∧ St w h w' (rowAs 5 1 (.slice ad 8 cp) 8 ((b8 p).map bv) * X) := by
  obtain ⟨k, t, a⟩ := s
  refine (digestBytes_any p hp W k X t.has a).mono fun x w' ⟨u, h', hx, t', a'⟩ => ?_
  obtain ⟨ad, cp, rfl⟩ := rowAs_form a'
  exact ⟨ad, cp, hx, h', t.trans t', a'⟩
theorem PutBytes_st (s : Value) (n : Nat) (cs : List Nat) (hn : n ≤ 90000) (h0 : 0 < n) {w W : World} {h : Hl} {X : As} (S : St w h W (rowAs 5 1 s n (cs.map bv) * X)) :
    Calls Tryz.prog 154 #[.slice none 0 0, s] W fun x w' => ∃ ad cp, x = .returned (.slice ad ((leb n).length + n) cp) ∧ St w h w' (rowAs 5 1 (.slice ad ((leb n).length + n) cp) ((leb n).length + n) ((leb n ++ cs).map bv) * (rowAs 5 1 s n (cs.map bv) * X)) := by
  obtain ⟨k, t, a⟩ := S.nil 5 1
  refine (PutBytes_row (.slice none 0 0) s 0 n [] cs X (by omega) hn h0 W k t.has a).mono fun x w' ⟨u, h', hx, t', a'⟩ => ?_
  obtain ⟨ad, cp, rfl⟩ := rowAs_form a'
  rw [Nat.zero_add, List.nil_append] at a'
  rw [Nat.zero_add] at hx
  exact ⟨ad, cp, hx, (show St w h w' _ from ⟨h', t.trans t', a'⟩).b2.dropRow⟩
/-- An append of a row to a row. -/
theorem St.app2 {w W : World} {h : Hl} {X : As} {v : Value} {n m : Nat} {a : Option Addr} {c : Nat} {xs ys : List Nat} (s : St w h W (rowAs 5 1 v n (xs.map bv) * (rowAs 5 1 (.slice a m c) m (ys.map bv) * X))) (h0 : 0 < m) (hb : n + m ≤ 100000000) :
    ∃ ad cp w', (Builtin.append_ #[49, 49] 49 #[v, .slice a m c]).run Tryz.prog W = .ok (.slice ad (n + m) cp) w' ∧ St w h w' (rowAs 5 1 (.slice ad (n + m) cp) (n + m) ((xs ++ ys).map bv) * (rowAs 5 1 (.slice a m c) m (ys.map bv) * X)) := by
  obtain ⟨i0, hi, hz0, hz1, hz2⟩ := info_parts infoByte
  have hl : ys.length = m := by have := s.b2.rv.1; simpa using this
  obtain ⟨g, cap, hv, hc0⟩ := s.b2.rowCell (j := 0) (u := bv (ys.getD 0 0)) (by rw [List.getElem?_map, List.getElem?_eq_getElem (by omega)]; simp [List.getD, List.getElem?_eq_getElem (show 0 < ys.length by omega)])
  cases hv
  obtain ⟨ad, cp, w', hrun, s'⟩ := s.append (P := Tryz.prog) (ty := 49) Tryz.underlying49 hi hz0 hz1 rfl ⟨g, 0, none⟩ m c (ys.map bv) (by simpa using hl) (fun j u hj => by
    obtain ⟨g2, cap2, hv2, hc⟩ := s.b2.rowCell hj
    cases hv2
    rw [Addr.add_lit, Nat.zero_add]; exact hc) (by simp [bv, Value.oneCell']) (by unfold maxLen; omega) (by rw [hz2]; omega)
  rw [← List.map_append] at s'
  exact ⟨ad, cp, w', hrun, s'⟩
theorem PutBytes_fr (s : Value) (n : Nat) (cs : List Nat) (hn : n ≤ 90000) (h0 : 0 < n) {W : World} (r : Rv W 1 s n (cs.map bv)) :
    Calls Tryz.prog 154 #[.slice none 0 0, s] W fun x w' => ∃ ad cp, x = .returned (.slice ad ((leb n).length + n) cp) ∧ Fresh W w' (rowAs 5 1 (.slice ad ((leb n).length + n) cp) ((leb n).length + n) ((leb n ++ cs).map bv)) := by
  obtain ⟨k, t, a⟩ := (S1' W).one.nil 5 1
  have hpu := PutUint_row (.slice none 0 0) 0 n [] _ (by omega) (by omega) W k t.has a
  have hlb := leb_len 9 n (by omega)
  obtain ⟨i0, hi, hz0, hz1, hz2⟩ := info_parts infoByte
  obtain ⟨g, o, cap, rfl⟩ : ∃ g o cap, s = .slice (some ⟨g, o, none⟩) n cap := by
    rcases r.2 with ⟨_, h1⟩ | ⟨g, o, cap, rfl, _⟩
    · omega
    · exact ⟨_, _, _, rfl⟩
  have happ : Hid (∀ w1 h1 u, Tr W w1 k h1 → (rowAs 5 1 u (0 + (leb n).length) (([] ++ leb n).map bv) * (rowAs 5 1 (.slice none 0 0) 0 (([] : List Nat).map bv) * (1 * 1))) h1 →
      ∃ ad cp w2, (Builtin.append_ #[49, 49] 49 #[u, .slice (some ⟨g, o, none⟩) n cap]).run Tryz.prog w1 = .ok (.slice ad ((leb n).length + n) cp) w2 ∧ Fresh W w2 (rowAs 5 1 (.slice ad ((leb n).length + n) cp) ((leb n).length + n) ((leb n ++ cs).map bv))) := Lib.hid fun w1 h1 u t1 a1 => by
    have S1 : St W Hl.emp w1 _ := ⟨h1, t.trans t1, a1⟩
    have r1 := r.below (S1.below_all rfl)
    obtain ⟨ad, cp, w2, hrun, S2⟩ := S1.append (P := Tryz.prog) (ty := 49) Tryz.underlying49 hi hz0 hz1 rfl ⟨g, o, none⟩ n cap (cs.map bv) r1.1 (fun j u hj => by
      obtain ⟨g2, o2, he, hc⟩ := r1.cell hj
      cases he
      rw [Addr.add_lit]; exact hc) (by simp [bv, Value.oneCell']) (by unfold maxLen; omega) (by rw [hz2]; omega)
    rw [Nat.zero_add] at hrun S2
    rw [← List.map_append] at S2
    exact ⟨ad, cp, w2, hrun, (S2.b2.dropRow.eq (by rw [As.mul_one, As.mul_one, List.nil_append]))⟩
  clear r a t
  go_enter Tryz.func154, Tryz.ntmps154
  go_upto_region 99 with (first | (go_at_call 193; refine hpu.mono ?_; clear hpu; rintro e w1 ⟨u, h1, rfl, T1, A1⟩; obtain ⟨ad2, cp2, w2, hrun, F2⟩ := happ.out w1 h1 u T1 A1) | (at_builtin; refine wpList_append _ _ _ rfl rfl hrun ?_))
  go_ret
  exact ⟨_, _, rfl, F2⟩
theorem digestBytes_fr (p : Nat) (hp : p < 18446744073709551616) (W : World) :
    Calls Tryz.prog 155 #[.int .u64 p] W fun x w' => ∃ ad cp, x = .returned (.slice ad 8 cp) ∧ Fresh W w' (rowAs 5 1 (.slice ad 8 cp) 8 ((b8 p).map bv)) :=
  (digestBytes_st p hp (S1' W)).mono fun _ _ ⟨ad, cp, hx, s⟩ => ⟨ad, cp, hx, Fresh.of_st s.m1⟩
def Evt.cnt (e : Evt) : Bool := decide (e.op ≠ 32 ∧ e.op ≠ 33)
def Lm.prev (l : Lm) : Nat := if l.evs.length = 0 then 14695981039346656037 else l.last
def Lm.add (l : Lm) (e : Evt) : Lm := { l with evs := l.evs ++ [e], bys := l.bys ++ (leb e.bytes.length ++ e.bytes) ++ b8 (chN l.prev e.bytes), last := chN l.prev e.bytes, recs := if e.cnt then AL.set l.recs e.p ((AL.get l.recs e.p).getD 0 + 1) else l.recs }
theorem leb_bd (n : Nat) : 0 < (leb n).length := by
  unfold leb; split <;> simp
theorem ev_len (e : Evt) (he : e.ok) : 0 < e.bytes.length ∧ e.bytes.length ≤ 50 := by
  obtain ⟨a1, a2, a3, a4, a5, a6, a7⟩ := he
  refine ⟨?_, bytes_len e.nums ?_⟩
  · have := leb_bd e.p.toNat
    unfold Evt.bytes Evt.nums; simp; omega
  · unfold Evt.nums U64 at *
    intro x hx
    simp at hx
    omega
end Go.Proofs.YthnfiejdkhejlaaGreat
/- Package audit: Append. -/
namespace Go.Sl
open Go.RowKit
theorem St.b5 {w W : World} {h : Hl} {A B C D E F : As} (s : St w h W (A * (B * (C * (D * (E * F)))))) : St w h W (E * (A * (B * (C * (D * F))))) := s.eq (by ac_rfl)
theorem St.b6 {w W : World} {h : Hl} {A B C D E F G : As} (s : St w h W (A * (B * (C * (D * (E * (F * G))))))) : St w h W (F * (A * (B * (C * (D * (E * G)))))) := s.eq (by ac_rfl)
theorem St.b7 {w W : World} {h : Hl} {A B C D E F G H : As} (s : St w h W (A * (B * (C * (D * (E * (F * (G * H)))))))) : St w h W (G * (A * (B * (C * (D * (E * (F * H))))))) := s.eq (by ac_rfl)
end Go.Sl
namespace Go.Proofs.YthnfiejdkhejlaaGreat
open Go.RowKit Go.Sl Go.Shelf
theorem info_ev : (Tryz.prog.info? 118).map (fun i => (i.zero, i.size, i.bytes)) = some (some (.agg #[.int .i64 0, .int .i64 0, .int .u64 0, .int .u64 0, .int .i64 0]), 5, 40) := by kernel_rfl
def evObj (e : Evt) : Obj := .cells #[.int .i64 e.p, .int .i64 e.op, .int .u64 e.hd, .int .u64 e.arg, .int .i64 e.err] 118 (0,0)
structure Lm.fit (l : Lm) : Prop where
  ne : l.evs.length ≤ 1000000
  nb : l.bys.length ≤ 90000000
  la : l.last < 18446744073709551616
  cap : l.cap ≤ 65536
  rec0 : ∀ k, 0 ≤ (AL.get l.recs k).getD 0
theorem Lm.prev_lt (l : Lm) (h : l.fit) : l.prev < 18446744073709551616 := by
  unfold Lm.prev; split
  · decide
  · exact h.la
set_option maxHeartbeats 400000 in
theorem Append_full (b : Nat) (l : Lm) (e : Evt) (he : e.ok) (hc : e.cnt = true) (hfull : l.cap ≤ (AL.get l.recs e.p).getD 0) {w W : World} {h : Hl} {X : As} (s : St w h W (Lg b l * X)) :
    Calls Tryz.prog 73 #[.pointer (some ⟨b, 0, none⟩), .agg #[.int .i64 e.p, .int .i64 e.op, .int .u64 e.hd, .int .u64 e.arg, .int .i64 e.err]] W fun x w' => x = .returned (.int .i64 19) ∧ St w h w' (Lg b l * X) := by
  have S0 := s.alloc (evObj e)
  have hen := fun {w W h X} (s : St w h W X) => Encode_st e he s
  have hct := fun w => counts_any e w
  have hroom : decide ((AL.get l.recs e.p).getD 0 < l.cap) = false := decide_eq_false (by omega)
  have hcnt : decide (e.op ≠ 32 ∧ e.op ≠ 33) = true := hc
  rw [hcnt] at hct
  clear hcnt hc hfull he
  obtain ⟨p, op, hd, ar, er⟩ := e
  simp only at *
  go_enter Tryz.func73, Tryz.ntmps73
  go_upto_region 1 with fail
  change Code.wp _ _ _ _ (W.alloc (evObj ⟨p, op, hd, ar, er⟩))
  generalize W.alloc _ = W0 at *
  generalize W.heap.size = q at S0 ⊢
  have hb0 := S0.blk
  have H1 := hen S0
  have c0 := blk_cell hb0 0
  have c1 := blk_cell hb0 1
  have c2 := blk_cell hb0 2
  have c3 := blk_cell hb0 3
  have c4 := blk_cell hb0 4
  go_wp2_with fail
  refine H1.mono ?_
  clear H1
  rintro x w1 ⟨ad, cp, rfl, S1⟩
  have hb1 := S1.b2.blk
  clear c0 c1 c2 c3 c4 hb0
  have c0 := blk_cell hb1 0
  have c1 := blk_cell hb1 1
  have c2 := blk_cell hb1 2
  have c3 := blk_cell hb1 3
  have c4 := blk_cell hb1 4
  go_wp2_with fail
  refine (hct w1).mono ?_
  rintro x w2 ⟨rfl, B2⟩
  have S2 := S1.below B2
  obtain ⟨a1, d1, a2, d2, r1, r2, S3⟩ := Lg.open S2.b3
  have hlk := S3.b4.lookP (P := Tryz.prog) (T := 228) klI Tryz.underlying228 zeroI p
  have hro := Room_any b _ _ _ _ r1 p _ l.cap w2 S3.blk hlk
  rw [hroom] at hro
  clear c0 c1 c2 c3 c4
  have c0 := blk_cell S2.b2.blk 0
  clear hlk
  go_wp2_with fail
  refine hro.mono ?_
  clear hro
  rintro x w3 ⟨rfl, B3⟩
  have S4 := S3.below B3
  go_wp2
  go_ret
  exact ⟨rfl, (Lg.mk S4).b2.dropRow.b2.drop⟩
set_option maxHeartbeats 1600000 in
theorem Append_cnt (b : Nat) (l : Lm) (e : Evt) (he : e.ok) (hf : l.fit) (hc : e.cnt = true) (hroom : (AL.get l.recs e.p).getD 0 < l.cap) {w W : World} {h : Hl} {X : As} (s : St w h W (Lg b l * X)) :
    Calls Tryz.prog 73 #[.pointer (some ⟨b, 0, none⟩), .agg #[.int .i64 e.p, .int .i64 e.op, .int .u64 e.hd, .int .u64 e.arg, .int .i64 e.err]] W fun x w' => x = .returned (.int .i64 0) ∧ St w h w' (Lg b (l.add e) * X) := by
  have S0 := s.alloc (evObj e)
  have hen := fun {w W h X} (s : St w h W X) => Encode_st e he s
  have hct := fun w => counts_any e w
  have hroom2 : decide ((AL.get l.recs e.p).getD 0 < l.cap) = true := decide_eq_true hroom
  have hcnt : decide (e.op ≠ 32 ∧ e.op ≠ 33) = true := hc
  rw [hcnt] at hct
  have hfit1 := hf.ne; have hfit2 := hf.nb
  have hprev := l.prev_lt hf
  have hgr := fun {b c v1 v2 d r2 r1 w W h X} (s : St w h W (pts b (.cells #[c, v1, v2, d, .map r1, r2] 230 (0,0)) * (mI r1 l.recs * X))) => grow_st b c v1 v2 d r2 r1 l.recs e.p ⟨by have := hf.cap; omega, hf.rec0 _⟩ s
  have hbl := ev_len e he
  have hch := fun {a cp w W h X} (s : St w h W (rowAs 5 1 (.slice a e.bytes.length cp) e.bytes.length (e.bytes.map bv) * X)) => Chain_st l.prev e.bytes.length e.bytes rfl hbl.1 (by omega) hprev a cp s
  have hpb := fun {s W} (r : Rv W 1 s e.bytes.length (e.bytes.map bv)) => PutBytes_fr s e.bytes.length e.bytes (by omega) hbl.1 r
  have hdb := fun W => digestBytes_fr (chN l.prev e.bytes) (chN_lt _ _) W
  have hlb : 0 < (leb e.bytes.length).length + e.bytes.length ∧ (leb e.bytes.length).length + e.bytes.length ≤ 60 := by
    have := leb_len 0 e.bytes.length (by omega)
    omega
  have HADD := Lib.hid (show l.add e = ({ cap := l.cap, evs := l.evs ++ [e], bys := l.bys ++ (leb e.bytes.length ++ e.bytes) ++ b8 (chN l.prev e.bytes), last := chN l.prev e.bytes, recs := AL.set l.recs e.p ((AL.get l.recs e.p).getD 0 + 1), mis := l.mis } : Lm) from by unfold Lm.add; rw [hc]; rfl)
  have HPREV := Lib.hid (show l.prev = if l.evs.length = 0 then 14695981039346656037 else l.last from rfl)
  have HNE := Lib.hid hfit1; have HNB := Lib.hid hfit2; have HLB := Lib.hid hlb
  clear hcnt hc hroom he hf hfit1 hfit2 hprev hbl hlb
  obtain ⟨p, op, hd, ar, er⟩ := e
  simp only at *
  generalize (Evt.bytes ⟨p, op, hd, ar, er⟩) = eb at *
  generalize AL.set l.recs p _ = rcs at *
  generalize chN l.prev eb = ch at *
  go_enter Tryz.func73, Tryz.ntmps73
  go_upto_region 1 with fail
  change Code.wp _ _ _ _ (W.alloc (evObj ⟨p, op, hd, ar, er⟩))
  generalize W.alloc _ = W0 at *
  generalize W.heap.size = q at S0 ⊢
  have hb0 := S0.blk
  have H1 := hen S0
  have c0 := blk_cell hb0 0
  have c1 := blk_cell hb0 1
  have c2 := blk_cell hb0 2
  have c3 := blk_cell hb0 3
  have c4 := blk_cell hb0 4
  go_wp2_with fail
  refine H1.mono ?_
  clear H1 hen
  rintro x w1 ⟨ad, cp, rfl, S1⟩
  have hb1 := S1.b2.blk
  clear c0 c1 c2 c3 c4 hb0
  have c0 := blk_cell hb1 0
  have c1 := blk_cell hb1 1
  have c2 := blk_cell hb1 2
  have c3 := blk_cell hb1 3
  have c4 := blk_cell hb1 4
  go_wp2_with fail
  refine (hct w1).mono ?_
  clear hct
  rintro x w2 ⟨rfl, B2⟩
  have S2 := S1.below B2
  obtain ⟨a1, d1, a2, d2, r1, r2, S3⟩ := Lg.open S2.b3
  have hlk := S3.b4.lookP (P := Tryz.prog) (T := 228) klI Tryz.underlying228 zeroI p
  have hro := Room_any b _ _ _ _ r1 p _ l.cap w2 S3.blk hlk
  rw [hroom2] at hro
  clear c0 c1 c2 c3 c4
  have c0 := blk_cell S2.b2.blk 0
  clear hlk
  go_wp2_with fail
  refine hro.mono ?_
  clear hro
  rintro x w3 ⟨rfl, B3⟩
  clear c0
  have S4 := S3.below B3
  go_upto_region 9 with fail
  have hbe := (S2.below B3).b2.blk
  have g0 := bcells hbe 0
  refine wp_region_sb [(0, 0), (0, 1), (0, 2), (0, 3), (1, 4), (2, 5)] (by kernel_rfl) (by kernel_rfl) (fun V BV => ?_)
  repeat (first | (refine sch_q0 (by rfl) ?_; go_big_quiet_step (fail); refine wpQuiet_nil ?_) | (refine sch_q1 (by rfl) ?_; go_big_quiet_step (fail); refine wpQuiet_nil ?_))
  refine sch_e2 (by rfl) ?_
  have hg := hgr (S4.below BV).b4.b2
  go_wp2_with fail
  refine hg.mono ?_
  clear hg hgr
  rintro x w4 ⟨q5, rfl, S5⟩
  go_wp2_with fail
  refine onlyN_mk (sch_nil ?_)
  have S6 := S5.eq (show _ = pts b (.cells #[.int .i64 l.cap, .slice a1 l.evs.length d1, .slice a2 l.bys.length d2, .int .u64 l.last, .map (some q5), .map r2] 230 (0,0)) * (rowAs 118 5 (.slice a1 l.evs.length d1) l.evs.length (l.evs.flatMap Evt.enc) * (rowAs 5 1 (.slice a2 l.bys.length d2) l.bys.length (l.bys.map bv) * (rowAs 5 1 (.slice ad eb.length cp) eb.length (eb.map bv) * (pts q (evObj ⟨p, op, hd, ar, er⟩) * (mI (some q5) rcs * (mI r2 l.mis * X)))))) from by ac_rfl)
  clear S5 S4 S3 S2 S1 S0 B2 B3 hbe g0 hb1 BV
  generalize (some q5) = r5 at *
  -- the tail
  have hb6 := S6.blk
  have hd6 := Digest_any b _ _ _ _ (l.last : Int) a1 l.evs.length d1 w4 hb6
  have hpv : (if l.evs.length = 0 then (14695981039346656037 : Int) else (l.last : Int)) = ((l.prev : Nat) : Int) := by
    rw [HPREV.out]; split <;> rfl
  rw [hpv] at hd6
  have hc6 := hch S6.b4
  clear hpv hch
  generalize l.prev = pv at *
  go_upto_region 11 with (first | (go_at_call 101; refine hd6.mono ?_; clear hd6; rintro x w5 ⟨rfl, rfl⟩) | (go_at_call 153; refine hc6.mono ?_; clear hc6; rintro x w6 ⟨rfl, B6⟩; have S6b := S6.below B6; have f3 := blk_free S6b.blk 3; have c3 := blk_cell S6b.blk 3; have S7 := S6b.set 3 (.int .u64 ch); clear S6b))
  have S7 := (show St w h (w6.setCell ⟨b, 3, none⟩ (.int .u64 ch)) (pts b (.cells #[.int .i64 l.cap, .slice a1 l.evs.length d1, .slice a2 l.bys.length d2, .int .u64 ch, .map r5, .map r2] 230 (0,0)) * (rowAs 118 5 (.slice a1 l.evs.length d1) l.evs.length (l.evs.flatMap Evt.enc) * (rowAs 5 1 (.slice a2 l.bys.length d2) l.bys.length (l.bys.map bv) * (rowAs 5 1 (.slice ad eb.length cp) eb.length (eb.map bv) * (pts q (evObj ⟨p, op, hd, ar, er⟩) * (mI r5 rcs * (mI r2 l.mis * X))))))) from S7)
  clear f3 c3 hb6 S6 B6
  generalize World.setCell _ _ _ = w7 at *
  obtain ⟨i0, hinf, hz0, hz1, hz2⟩ := info_parts info_ev
  have hb7 := S7.blk
  have hq7 := S7.b5.blk
  refine wp_region_sb [(0, 0), (0, 1), (0, 2), (0, 3), (1, 4), (1, 5), (3, 6), (2, 7), (0, 8), (0, 9), (2, 10)] (by kernel_rfl) (by kernel_rfl) (fun V BV => ?_)
  have g0 := bcells hb7 1
  have g1 := bcells hq7 0
  have g2 := bcells hq7 1
  have g3 := bcells hq7 2
  have g4 := bcells hq7 3
  have g5 := bcells hq7 4
  repeat (first | (refine sch_q0 (by rfl) ?_; go_big_quiet_step (fail); refine wpQuiet_nil ?_) | (refine sch_q1 (by rfl) ?_; go_big_quiet_step (fail); refine wpQuiet_nil ?_))
  refine sch_e3 (by rfl) ?_
  have T0 := (S7.below BV).skip (evObj ⟨p, op, hd, ar, er⟩)
  have hnb := heap_alloc_new V (evObj ⟨p, op, hd, ar, er⟩)
  obtain ⟨ad5, cp5, w8, hrun, S8⟩ := (T0.b2).append (P := Tryz.prog) (ty := 73) Tryz.underlying73 hinf hz0 hz1 rfl ⟨V.heap.size, 0, none⟩ 1 1 [.int .i64 p, .int .i64 op, .int .u64 hd, .int .u64 ar, .int .i64 er] rfl
    (fun j u hj => by rw [Addr.add_lit, Nat.zero_add, blk_cell hnb, ← hj]; simp) (by simp [Value.oneCell']) (by have := HNE.out; unfold maxLen; omega) (by have := HNE.out; rw [hz2]; omega)
  go_wp2_with fail
  refine onlyN_mk ⟨BV.al _, ?_⟩
  repeat (first | (refine sch_q0 (by rfl) ?_; go_big_quiet_step (fail); refine wpQuiet_nil ?_) | (refine sch_q1 (by rfl) ?_; go_big_quiet_step (fail); refine wpQuiet_nil ?_))
  refine sch_e2 (by rfl) ?_
  go_wp2_with (at_builtin; refine wpList_append _ _ _ rfl rfl hrun ?_)
  refine onlyN_mk ?_
  go_frame
  repeat (first | (refine sch_q0 (by rfl) ?_; go_big_quiet_step (fail); refine wpQuiet_nil ?_) | (refine sch_q1 (by rfl) ?_; go_big_quiet_step (fail); refine wpQuiet_nil ?_))
  refine sch_e2 (by rfl) ?_
  have S9 := S8.b2
  have hb9 := S9.blk
  have c9 := blk_cell hb9 1
  have f9 := blk_free hb9 1
  have S10 := S9.set 1 (.slice ad5 (l.evs.length + 1) cp5)
  go_wp2_with fail
  refine onlyN_mk (sch_nil ?_)
  have S10 := (show St w h (w8.setCell ⟨b, 1, none⟩ (.slice ad5 (l.evs.length + 1) cp5)) (pts b (.cells #[.int .i64 l.cap, .slice ad5 (l.evs.length + 1) cp5, .slice a2 l.bys.length d2, .int .u64 ch, .map r5, .map r2] 230 (0,0)) * (rowAs 118 5 (.slice ad5 (l.evs.length + 1) cp5) (l.evs.length + 1) (l.evs.flatMap Evt.enc ++ [.int .i64 p, .int .i64 op, .int .u64 hd, .int .u64 ar, .int .i64 er]) * (rowAs 5 1 (.slice a2 l.bys.length d2) l.bys.length (l.bys.map bv) * (rowAs 5 1 (.slice ad eb.length cp) eb.length (eb.map bv) * (pts q (evObj ⟨p, op, hd, ar, er⟩) * (mI r5 rcs * (mI r2 l.mis * X))))))) from S10)
  generalize World.setCell _ _ _ = w10 at *
  clear g0 g1 g2 g3 g4 g5 S9 S8 c9 f9 hb9 hnb T0 hq7 hb7 hrun BV S7
  go_upto_region 12 with fail
  have hb10 := S10.blk
  refine wp_region_sb [(0, 0), (0, 1), (0, 2), (0, 3), (1, 4), (0, 5), (3, 6), (2, 7), (0, 8), (0, 9), (2, 10)] (by kernel_rfl) (by kernel_rfl) (fun V BV => ?_)
  have g0 := bcells hb10 2
  repeat (first | (refine sch_q0 (by rfl) ?_; go_big_quiet_step (fail); refine wpQuiet_nil ?_) | (refine sch_q1 (by rfl) ?_; go_big_quiet_step (fail); refine wpQuiet_nil ?_))
  refine sch_e3 (by rfl) ?_
  have hp := hpb (S10.below BV).b4.rv
  go_wp2_with fail
  refine hp.mono ?_
  clear hp hpb
  rintro x w11 ⟨adp, cpp, rfl, F11⟩
  have B11 := BV.trans' F11.below
  have S11 := F11.st (S10.below BV)
  go_wp2_with fail
  refine onlyN_mk ⟨B11, ?_⟩
  repeat (first | (refine sch_q0 (by rfl) ?_; go_big_quiet_step (fail); refine wpQuiet_nil ?_) | (refine sch_q1 (by rfl) ?_; go_big_quiet_step (fail); refine wpQuiet_nil ?_))
  refine sch_e2 (by rfl) ?_
  obtain ⟨ad6, cp6, w12, hrun, S12⟩ := St.app2 S11.b4 HLB.out.1 (by have := HNB.out; have := HLB.out.2; omega)
  go_wp2_with (at_builtin; refine wpList_append _ _ _ rfl rfl hrun ?_)
  refine onlyN_mk ?_
  go_frame
  repeat (first | (refine sch_q0 (by rfl) ?_; go_big_quiet_step (fail); refine wpQuiet_nil ?_) | (refine sch_q1 (by rfl) ?_; go_big_quiet_step (fail); refine wpQuiet_nil ?_))
  refine sch_e2 (by rfl) ?_
  have S13 := S12.b2.dropRow.b2
  have hb13 := S13.blk
  have c13 := blk_cell hb13 2
  have f13 := blk_free hb13 2
  have S14 := S13.set 2 (.slice ad6 (l.bys.length + ((leb eb.length).length + eb.length)) cp6)
  go_wp2_with fail
  refine onlyN_mk (sch_nil ?_)
  have S14 := (show St w h (w12.setCell ⟨b, 2, none⟩ (.slice ad6 (l.bys.length + ((leb eb.length).length + eb.length)) cp6)) (pts b (.cells #[.int .i64 l.cap, .slice ad5 (l.evs.length + 1) cp5, .slice ad6 (l.bys.length + ((leb eb.length).length + eb.length)) cp6, .int .u64 ch, .map r5, .map r2] 230 (0,0)) *
    (rowAs 5 1 (.slice ad6 (l.bys.length + ((leb eb.length).length + eb.length)) cp6) (l.bys.length + ((leb eb.length).length + eb.length)) ((l.bys ++ (leb eb.length ++ eb)).map bv) * (rowAs 118 5 (.slice ad5 (l.evs.length + 1) cp5) (l.evs.length + 1) (l.evs.flatMap Evt.enc ++ [.int .i64 p, .int .i64 op, .int .u64 hd, .int .u64 ar, .int .i64 er]) * (rowAs 5 1 (.slice ad eb.length cp) eb.length (eb.map bv) * (pts q (evObj ⟨p, op, hd, ar, er⟩) * (mI r5 rcs * (mI r2 l.mis * X))))))) from S14)
  generalize World.setCell _ _ _ = w14 at *
  have S14 := S14.b4.dropRow.b4.drop
  have hm : l.bys.length + ((leb eb.length).length + eb.length) ≤ 90000060 := by have := HNB.out; have := HLB.out.2; omega
  have HNL := Lib.hid (show l.bys.length + ((leb eb.length).length + eb.length) = (l.bys ++ (leb eb.length ++ eb)).length from by rw [List.length_append, List.length_append])
  generalize l.bys.length + ((leb eb.length).length + eb.length) = nb at *
  generalize l.bys ++ (leb eb.length ++ eb) = bys1 at *
  clear g0 S13 S12 S11 c13 f13 hb13 hb10 hrun BV F11 B11 S10
  go_upto_region 13 with fail
  have hb14 := S14.blk
  refine wp_region_sb [(0, 0), (0, 1), (0, 2), (0, 3), (1, 4), (0, 5), (0, 6), (0, 7), (1, 8), (3, 9), (2, 10), (0, 11), (0, 12), (2, 13)] (by kernel_rfl) (by kernel_rfl) (fun V BV => ?_)
  have g0 := bcells hb14 2
  have g1 := bcells hb14 3
  repeat (first | (refine sch_q0 (by rfl) ?_; go_big_quiet_step (fail); refine wpQuiet_nil ?_) | (refine sch_q1 (by rfl) ?_; go_big_quiet_step (fail); refine wpQuiet_nil ?_))
  refine sch_e3 (by rfl) ?_
  have hd := hdb V
  go_wp2_with fail
  refine hd.mono ?_
  clear hd hdb
  rintro x w15 ⟨adq, cpq, rfl, F15⟩
  have B15 := BV.trans' F15.below
  have S15 := F15.st (S14.below BV)
  go_wp2_with fail
  refine onlyN_mk ⟨B15, ?_⟩
  repeat (first | (refine sch_q0 (by rfl) ?_; go_big_quiet_step (fail); refine wpQuiet_nil ?_) | (refine sch_q1 (by rfl) ?_; go_big_quiet_step (fail); refine wpQuiet_nil ?_))
  refine sch_e2 (by rfl) ?_
  obtain ⟨ad7, cp7, w16, hrun, S16⟩ := St.app2 S15.b3 (by omega) (by omega)
  go_wp2_with (at_builtin; refine wpList_append _ _ _ rfl rfl hrun ?_)
  refine onlyN_mk ?_
  go_frame
  repeat (first | (refine sch_q0 (by rfl) ?_; go_big_quiet_step (fail); refine wpQuiet_nil ?_) | (refine sch_q1 (by rfl) ?_; go_big_quiet_step (fail); refine wpQuiet_nil ?_))
  refine sch_e2 (by rfl) ?_
  have S17 := S16.b2.dropRow.b2
  have hb17 := S17.blk
  have c17 := blk_cell hb17 2
  have f17 := blk_free hb17 2
  have S18 := S17.set 2 (.slice ad7 (nb + 8) cp7)
  go_wp2_with fail
  refine onlyN_mk (sch_nil ?_)
  go_wp2_with fail
  go_ret
  refine ⟨rfl, ?_⟩
  rw [HADD.out]
  refine Lg.mk (v1 := .slice ad5 (l.evs.length + 1) cp5) (v2 := .slice ad7 (nb + 8) cp7) (r1 := r5) (r2 := r2) ?_
  simp only
  rw [List.length_append, List.length_append, ← HNL.out, List.flatMap_append]
  exact S18.b3.b2
set_option maxHeartbeats 1600000 in
theorem Append_free (b : Nat) (l : Lm) (e : Evt) (he : e.ok) (hf : l.fit) (hc : e.cnt = false) {w W : World} {h : Hl} {X : As} (s : St w h W (Lg b l * X)) :
    Calls Tryz.prog 73 #[.pointer (some ⟨b, 0, none⟩), .agg #[.int .i64 e.p, .int .i64 e.op, .int .u64 e.hd, .int .u64 e.arg, .int .i64 e.err]] W fun x w' => x = .returned (.int .i64 0) ∧ St w h w' (Lg b (l.add e) * X) := by
  have S0 := s.alloc (evObj e)
  have hen := fun {w W h X} (s : St w h W X) => Encode_st e he s
  have hct := fun w => counts_any e w
  have hcnt : decide (e.op ≠ 32 ∧ e.op ≠ 33) = false := hc
  rw [hcnt] at hct
  have hfit1 := hf.ne; have hfit2 := hf.nb
  have hprev := l.prev_lt hf
  have hbl := ev_len e he
  have hch := fun {a cp w W h X} (s : St w h W (rowAs 5 1 (.slice a e.bytes.length cp) e.bytes.length (e.bytes.map bv) * X)) => Chain_st l.prev e.bytes.length e.bytes rfl hbl.1 (by omega) hprev a cp s
  have hpb := fun {s W} (r : Rv W 1 s e.bytes.length (e.bytes.map bv)) => PutBytes_fr s e.bytes.length e.bytes (by omega) hbl.1 r
  have hdb := fun W => digestBytes_fr (chN l.prev e.bytes) (chN_lt _ _) W
  have hlb : 0 < (leb e.bytes.length).length + e.bytes.length ∧ (leb e.bytes.length).length + e.bytes.length ≤ 60 := by
    have := leb_len 0 e.bytes.length (by omega)
    omega
  have HADD := Lib.hid (show l.add e = ({ cap := l.cap, evs := l.evs ++ [e], bys := l.bys ++ (leb e.bytes.length ++ e.bytes) ++ b8 (chN l.prev e.bytes), last := chN l.prev e.bytes, recs := l.recs, mis := l.mis } : Lm) from by unfold Lm.add; rw [hc]; rfl)
  have HPREV := Lib.hid (show l.prev = if l.evs.length = 0 then 14695981039346656037 else l.last from rfl)
  have HNE := Lib.hid hfit1; have HNB := Lib.hid hfit2; have HLB := Lib.hid hlb
  clear hcnt hc he hf hfit1 hfit2 hprev hbl hlb
  obtain ⟨p, op, hd, ar, er⟩ := e
  simp only at *
  generalize (Evt.bytes ⟨p, op, hd, ar, er⟩) = eb at *
  generalize chN l.prev eb = ch at *
  go_enter Tryz.func73, Tryz.ntmps73
  go_upto_region 1 with fail
  change Code.wp _ _ _ _ (W.alloc (evObj ⟨p, op, hd, ar, er⟩))
  generalize W.alloc _ = W0 at *
  generalize W.heap.size = q at S0 ⊢
  have hb0 := S0.blk
  have H1 := hen S0
  have c0 := blk_cell hb0 0
  have c1 := blk_cell hb0 1
  have c2 := blk_cell hb0 2
  have c3 := blk_cell hb0 3
  have c4 := blk_cell hb0 4
  go_wp2_with fail
  refine H1.mono ?_
  clear H1 hen
  rintro x w1 ⟨ad, cp, rfl, S1⟩
  have hb1 := S1.b2.blk
  clear c0 c1 c2 c3 c4 hb0
  have c0 := blk_cell hb1 0
  have c1 := blk_cell hb1 1
  have c2 := blk_cell hb1 2
  have c3 := blk_cell hb1 3
  have c4 := blk_cell hb1 4
  go_wp2_with fail
  refine (hct w1).mono ?_
  clear hct
  rintro x w4 ⟨rfl, B2⟩
  have S2 := S1.below B2
  obtain ⟨a1, d1, a2, d2, r5, r2, S3⟩ := Lg.open S2.b3
  clear c0 c1 c2 c3 c4
  have S6 := S3.eq (show _ = pts b (.cells #[.int .i64 l.cap, .slice a1 l.evs.length d1, .slice a2 l.bys.length d2, .int .u64 l.last, .map r5, .map r2] 230 (0,0)) * (rowAs 118 5 (.slice a1 l.evs.length d1) l.evs.length (l.evs.flatMap Evt.enc) * (rowAs 5 1 (.slice a2 l.bys.length d2) l.bys.length (l.bys.map bv) * (rowAs 5 1 (.slice ad eb.length cp) eb.length (eb.map bv) * (pts q (evObj ⟨p, op, hd, ar, er⟩) * (mI r5 l.recs * (mI r2 l.mis * X)))))) from by ac_rfl)
  clear S3 S2 S1 S0 B2 hb1
  generalize l.recs = rcs at *
  -- the tail
  have hb6 := S6.blk
  have hd6 := Digest_any b _ _ _ _ (l.last : Int) a1 l.evs.length d1 w4 hb6
  have hpv : (if l.evs.length = 0 then (14695981039346656037 : Int) else (l.last : Int)) = ((l.prev : Nat) : Int) := by
    rw [HPREV.out]; split <;> rfl
  rw [hpv] at hd6
  have hc6 := hch S6.b4
  clear hpv hch
  generalize l.prev = pv at *
  go_upto_region 11 with (first | (go_at_call 101; refine hd6.mono ?_; clear hd6; rintro x w5 ⟨rfl, rfl⟩) | (go_at_call 153; refine hc6.mono ?_; clear hc6; rintro x w6 ⟨rfl, B6⟩; have S6b := S6.below B6; have f3 := blk_free S6b.blk 3; have c3 := blk_cell S6b.blk 3; have S7 := S6b.set 3 (.int .u64 ch); clear S6b))
  have S7 := (show St w h (w6.setCell ⟨b, 3, none⟩ (.int .u64 ch)) (pts b (.cells #[.int .i64 l.cap, .slice a1 l.evs.length d1, .slice a2 l.bys.length d2, .int .u64 ch, .map r5, .map r2] 230 (0,0)) * (rowAs 118 5 (.slice a1 l.evs.length d1) l.evs.length (l.evs.flatMap Evt.enc) * (rowAs 5 1 (.slice a2 l.bys.length d2) l.bys.length (l.bys.map bv) * (rowAs 5 1 (.slice ad eb.length cp) eb.length (eb.map bv) * (pts q (evObj ⟨p, op, hd, ar, er⟩) * (mI r5 rcs * (mI r2 l.mis * X))))))) from S7)
  clear f3 c3 hb6 S6 B6
  generalize World.setCell _ _ _ = w7 at *
  obtain ⟨i0, hinf, hz0, hz1, hz2⟩ := info_parts info_ev
  have hb7 := S7.blk
  have hq7 := S7.b5.blk
  refine wp_region_sb [(0, 0), (0, 1), (0, 2), (0, 3), (1, 4), (1, 5), (3, 6), (2, 7), (0, 8), (0, 9), (2, 10)] (by kernel_rfl) (by kernel_rfl) (fun V BV => ?_)
  have g0 := bcells hb7 1
  have g1 := bcells hq7 0
  have g2 := bcells hq7 1
  have g3 := bcells hq7 2
  have g4 := bcells hq7 3
  have g5 := bcells hq7 4
  repeat (first | (refine sch_q0 (by rfl) ?_; go_big_quiet_step (fail); refine wpQuiet_nil ?_) | (refine sch_q1 (by rfl) ?_; go_big_quiet_step (fail); refine wpQuiet_nil ?_))
  refine sch_e3 (by rfl) ?_
  have T0 := (S7.below BV).skip (evObj ⟨p, op, hd, ar, er⟩)
  have hnb := heap_alloc_new V (evObj ⟨p, op, hd, ar, er⟩)
  obtain ⟨ad5, cp5, w8, hrun, S8⟩ := (T0.b2).append (P := Tryz.prog) (ty := 73) Tryz.underlying73 hinf hz0 hz1 rfl ⟨V.heap.size, 0, none⟩ 1 1 [.int .i64 p, .int .i64 op, .int .u64 hd, .int .u64 ar, .int .i64 er] rfl
    (fun j u hj => by rw [Addr.add_lit, Nat.zero_add, blk_cell hnb, ← hj]; simp) (by simp [Value.oneCell']) (by have := HNE.out; unfold maxLen; omega) (by have := HNE.out; rw [hz2]; omega)
  go_wp2_with fail
  refine onlyN_mk ⟨BV.al _, ?_⟩
  repeat (first | (refine sch_q0 (by rfl) ?_; go_big_quiet_step (fail); refine wpQuiet_nil ?_) | (refine sch_q1 (by rfl) ?_; go_big_quiet_step (fail); refine wpQuiet_nil ?_))
  refine sch_e2 (by rfl) ?_
  go_wp2_with (at_builtin; refine wpList_append _ _ _ rfl rfl hrun ?_)
  refine onlyN_mk ?_
  go_frame
  repeat (first | (refine sch_q0 (by rfl) ?_; go_big_quiet_step (fail); refine wpQuiet_nil ?_) | (refine sch_q1 (by rfl) ?_; go_big_quiet_step (fail); refine wpQuiet_nil ?_))
  refine sch_e2 (by rfl) ?_
  have S9 := S8.b2
  have hb9 := S9.blk
  have c9 := blk_cell hb9 1
  have f9 := blk_free hb9 1
  have S10 := S9.set 1 (.slice ad5 (l.evs.length + 1) cp5)
  go_wp2_with fail
  refine onlyN_mk (sch_nil ?_)
  have S10 := (show St w h (w8.setCell ⟨b, 1, none⟩ (.slice ad5 (l.evs.length + 1) cp5)) (pts b (.cells #[.int .i64 l.cap, .slice ad5 (l.evs.length + 1) cp5, .slice a2 l.bys.length d2, .int .u64 ch, .map r5, .map r2] 230 (0,0)) * (rowAs 118 5 (.slice ad5 (l.evs.length + 1) cp5) (l.evs.length + 1) (l.evs.flatMap Evt.enc ++ [.int .i64 p, .int .i64 op, .int .u64 hd, .int .u64 ar, .int .i64 er]) * (rowAs 5 1 (.slice a2 l.bys.length d2) l.bys.length (l.bys.map bv) * (rowAs 5 1 (.slice ad eb.length cp) eb.length (eb.map bv) * (pts q (evObj ⟨p, op, hd, ar, er⟩) * (mI r5 rcs * (mI r2 l.mis * X))))))) from S10)
  generalize World.setCell _ _ _ = w10 at *
  clear g0 g1 g2 g3 g4 g5 S9 S8 c9 f9 hb9 hnb T0 hq7 hb7 hrun BV S7
  go_upto_region 12 with fail
  have hb10 := S10.blk
  refine wp_region_sb [(0, 0), (0, 1), (0, 2), (0, 3), (1, 4), (0, 5), (3, 6), (2, 7), (0, 8), (0, 9), (2, 10)] (by kernel_rfl) (by kernel_rfl) (fun V BV => ?_)
  have g0 := bcells hb10 2
  repeat (first | (refine sch_q0 (by rfl) ?_; go_big_quiet_step (fail); refine wpQuiet_nil ?_) | (refine sch_q1 (by rfl) ?_; go_big_quiet_step (fail); refine wpQuiet_nil ?_))
  refine sch_e3 (by rfl) ?_
  have hp := hpb (S10.below BV).b4.rv
  go_wp2_with fail
  refine hp.mono ?_
  clear hp hpb
  rintro x w11 ⟨adp, cpp, rfl, F11⟩
  have B11 := BV.trans' F11.below
  have S11 := F11.st (S10.below BV)
  go_wp2_with fail
  refine onlyN_mk ⟨B11, ?_⟩
  repeat (first | (refine sch_q0 (by rfl) ?_; go_big_quiet_step (fail); refine wpQuiet_nil ?_) | (refine sch_q1 (by rfl) ?_; go_big_quiet_step (fail); refine wpQuiet_nil ?_))
  refine sch_e2 (by rfl) ?_
  obtain ⟨ad6, cp6, w12, hrun, S12⟩ := St.app2 S11.b4 HLB.out.1 (by have := HNB.out; have := HLB.out.2; omega)
  go_wp2_with (at_builtin; refine wpList_append _ _ _ rfl rfl hrun ?_)
  refine onlyN_mk ?_
  go_frame
  repeat (first | (refine sch_q0 (by rfl) ?_; go_big_quiet_step (fail); refine wpQuiet_nil ?_) | (refine sch_q1 (by rfl) ?_; go_big_quiet_step (fail); refine wpQuiet_nil ?_))
  refine sch_e2 (by rfl) ?_
  have S13 := S12.b2.dropRow.b2
  have hb13 := S13.blk
  have c13 := blk_cell hb13 2
  have f13 := blk_free hb13 2
  have S14 := S13.set 2 (.slice ad6 (l.bys.length + ((leb eb.length).length + eb.length)) cp6)
  go_wp2_with fail
  refine onlyN_mk (sch_nil ?_)
  have S14 := (show St w h (w12.setCell ⟨b, 2, none⟩ (.slice ad6 (l.bys.length + ((leb eb.length).length + eb.length)) cp6)) (pts b (.cells #[.int .i64 l.cap, .slice ad5 (l.evs.length + 1) cp5, .slice ad6 (l.bys.length + ((leb eb.length).length + eb.length)) cp6, .int .u64 ch, .map r5, .map r2] 230 (0,0)) *
    (rowAs 5 1 (.slice ad6 (l.bys.length + ((leb eb.length).length + eb.length)) cp6) (l.bys.length + ((leb eb.length).length + eb.length)) ((l.bys ++ (leb eb.length ++ eb)).map bv) * (rowAs 118 5 (.slice ad5 (l.evs.length + 1) cp5) (l.evs.length + 1) (l.evs.flatMap Evt.enc ++ [.int .i64 p, .int .i64 op, .int .u64 hd, .int .u64 ar, .int .i64 er]) * (rowAs 5 1 (.slice ad eb.length cp) eb.length (eb.map bv) * (pts q (evObj ⟨p, op, hd, ar, er⟩) * (mI r5 rcs * (mI r2 l.mis * X))))))) from S14)
  generalize World.setCell _ _ _ = w14 at *
  have S14 := S14.b4.dropRow.b4.drop
  have hm : l.bys.length + ((leb eb.length).length + eb.length) ≤ 90000060 := by have := HNB.out; have := HLB.out.2; omega
  have HNL := Lib.hid (show l.bys.length + ((leb eb.length).length + eb.length) = (l.bys ++ (leb eb.length ++ eb)).length from by rw [List.length_append, List.length_append])
  generalize l.bys.length + ((leb eb.length).length + eb.length) = nb at *
  generalize l.bys ++ (leb eb.length ++ eb) = bys1 at *
  clear g0 S13 S12 S11 c13 f13 hb13 hb10 hrun BV F11 B11 S10
  go_upto_region 13 with fail
  have hb14 := S14.blk
  refine wp_region_sb [(0, 0), (0, 1), (0, 2), (0, 3), (1, 4), (0, 5), (0, 6), (0, 7), (1, 8), (3, 9), (2, 10), (0, 11), (0, 12), (2, 13)] (by kernel_rfl) (by kernel_rfl) (fun V BV => ?_)
  have g0 := bcells hb14 2
  have g1 := bcells hb14 3
  repeat (first | (refine sch_q0 (by rfl) ?_; go_big_quiet_step (fail); refine wpQuiet_nil ?_) | (refine sch_q1 (by rfl) ?_; go_big_quiet_step (fail); refine wpQuiet_nil ?_))
  refine sch_e3 (by rfl) ?_
  have hd := hdb V
  go_wp2_with fail
  refine hd.mono ?_
  clear hd hdb
  rintro x w15 ⟨adq, cpq, rfl, F15⟩
  have B15 := BV.trans' F15.below
  have S15 := F15.st (S14.below BV)
  go_wp2_with fail
  refine onlyN_mk ⟨B15, ?_⟩
  repeat (first | (refine sch_q0 (by rfl) ?_; go_big_quiet_step (fail); refine wpQuiet_nil ?_) | (refine sch_q1 (by rfl) ?_; go_big_quiet_step (fail); refine wpQuiet_nil ?_))
  refine sch_e2 (by rfl) ?_
  obtain ⟨ad7, cp7, w16, hrun, S16⟩ := St.app2 S15.b3 (by omega) (by omega)
  go_wp2_with (at_builtin; refine wpList_append _ _ _ rfl rfl hrun ?_)
  refine onlyN_mk ?_
  go_frame
  repeat (first | (refine sch_q0 (by rfl) ?_; go_big_quiet_step (fail); refine wpQuiet_nil ?_) | (refine sch_q1 (by rfl) ?_; go_big_quiet_step (fail); refine wpQuiet_nil ?_))
  refine sch_e2 (by rfl) ?_
  have S17 := S16.b2.dropRow.b2
  have hb17 := S17.blk
  have c17 := blk_cell hb17 2
  have f17 := blk_free hb17 2
  have S18 := S17.set 2 (.slice ad7 (nb + 8) cp7)
  go_wp2_with fail
  refine onlyN_mk (sch_nil ?_)
  go_wp2_with fail
  go_ret
  refine ⟨rfl, ?_⟩
  rw [HADD.out]
  refine Lg.mk (v1 := .slice ad5 (l.evs.length + 1) cp5) (v2 := .slice ad7 (nb + 8) cp7) (r1 := r5) (r2 := r2) ?_
  simp only
  rw [List.length_append, List.length_append, ← HNL.out, List.flatMap_append]
  exact S18.b3.b2
end Go.Proofs.YthnfiejdkhejlaaGreat
/- Package heap: the state, works, Alive, CheckConfig. -/
namespace Go.Proofs.YthnfiejdkhejlaaGreat
open Go.RowKit Go.Sl Go.Shelf
theorem inRange_any (n a b : Int) (w : World) : Calls Tryz.prog 74 #[.int .i64 n, .int .i64 a, .int .i64 b] w fun e w' => e = .returned (.bool (decide (a ≤ n ∧ n ≤ b))) ∧ w' = w := by
  by_cases h1 : a ≤ n
  · by_cases h2 : n ≤ b
    · rw [show decide (a ≤ n ∧ n ≤ b) = true from decide_eq_true ⟨h1, h2⟩]
      have d1 : decide (a ≤ n) = true := decide_eq_true h1
      have d2 : decide (n ≤ b) = true := decide_eq_true h2
      clear h1 h2
      go_enter Tryz.func74, Tryz.ntmps74
      go_wp2
      go_ret
      exact ⟨rfl, rfl⟩
    · rw [show decide (a ≤ n ∧ n ≤ b) = false from decide_eq_false fun h => h2 h.2]
      have d1 : decide (a ≤ n) = true := decide_eq_true h1
      have d2 : decide (n ≤ b) = false := decide_eq_false h2
      clear h1 h2
      go_enter Tryz.func74, Tryz.ntmps74
      go_wp2
      go_ret
      exact ⟨rfl, rfl⟩
  · rw [show decide (a ≤ n ∧ n ≤ b) = false from decide_eq_false fun h => h1 h.1]
    have d1 : decide (a ≤ n) = false := decide_eq_false h1
    clear h1
    go_enter Tryz.func74, Tryz.ntmps74
    go_wp2
    go_ret
    exact ⟨rfl, rfl⟩
theorem two_new (w : World) (o1 o2 : Obj) : ∃ W, W = (w.alloc o1).alloc o2 ∧ Below w.heap.size w W ∧ W.heap[w.heap.size]? = some o1 ∧ W.heap[w.heap.size + 1]? = some o2 :=
  ⟨_, rfl, ((Below.refl w.heap.size w).al o1).al o2, (Below.heap_alloc (w.alloc o1) o2 w.heap.size (by simp)).trans (heap_alloc_new w o1), by have := heap_alloc_new (w.alloc o1) o2; rwa [World.size_alloc] at this⟩
structure Cfg where (slots ar fg log qb qo qr frames stack : Int)
def Cfg.v (c : Cfg) : Value := .agg #[.int .i64 c.slots, .int .i64 c.ar, .int .u32 c.fg, .int .i64 c.log, .int .i64 c.qb, .int .i64 c.qo, .int .i64 c.qr, .int .i64 c.frames, .int .i64 c.stack]
def Cfg.obj (c : Cfg) : Obj := .cells #[.int .i64 c.slots, .int .i64 c.ar, .int .u32 c.fg, .int .i64 c.log, .int .i64 c.qb, .int .i64 c.qo, .int .i64 c.qr, .int .i64 c.frames, .int .i64 c.stack] 81 (0,0)
def chk9 (b1 b2 b3 b4 b5 b6 b7 b8 b9 : Bool) : Int := if b1 && b2 && !b3 && b4 && !b5 && !b6 && !b7 && b8 && b9 then 0 else 1
def Cfg.chk (c : Cfg) : Int := chk9 (decide (0 ≤ c.slots ∧ c.slots ≤ 4096)) (decide (0 ≤ c.ar ∧ c.ar ≤ 1048576)) (c.fg == 0) (decide (0 ≤ c.log ∧ c.log ≤ 65536)) (decide (c.qb < 0)) (decide (c.qo < 0)) (decide (c.qr < 0)) (decide (1 ≤ c.frames ∧ c.frames ≤ 256)) (decide (0 ≤ c.stack ∧ c.stack ≤ 16384))
set_option maxHeartbeats 1600000 in
theorem CheckConfig_any (c : Cfg) (w : World) : Calls Tryz.prog 37 #[.agg #[.int .i64 c.slots, .int .i64 c.ar, .int .u32 c.fg, .int .i64 c.log, .int .i64 c.qb, .int .i64 c.qo, .int .i64 c.qr, .int .i64 c.frames, .int .i64 c.stack]] w fun e w' => e = .returned (.int .i64 c.chk) ∧ Below w.heap.size w w' := by
  have h1 := fun w => inRange_any c.slots 0 4096 w
  have h2 := fun w => inRange_any c.ar 0 1048576 w
  have h4 := fun w => inRange_any c.log 0 65536 w
  have h8 := fun w => inRange_any c.frames 1 256 w
  have h9 := fun w => inRange_any c.stack 0 16384 w
  unfold Cfg.chk
  generalize decide (0 ≤ c.slots ∧ c.slots ≤ 4096) = b1 at *
  generalize decide (0 ≤ c.ar ∧ c.ar ≤ 1048576) = b2 at *
  generalize d3 : (c.fg == 0) = b3
  generalize decide (0 ≤ c.log ∧ c.log ≤ 65536) = b4 at *
  generalize d5 : decide (c.qb < 0) = b5
  generalize d6 : decide (c.qo < 0) = b6
  generalize d7 : decide (c.qr < 0) = b7
  generalize decide (1 ≤ c.frames ∧ c.frames ≤ 256) = b8 at *
  generalize decide (0 ≤ c.stack ∧ c.stack ≤ 16384) = b9 at *
  obtain ⟨slots, ar, fg, log, qb, qo, qr, frames, stack⟩ := c
  simp only at *
  obtain ⟨W, hW, B, hc, hq⟩ := two_new w (.cells #[.int .i64 slots, .int .i64 ar, .int .u32 fg, .int .i64 log, .int .i64 qb, .int .i64 qo, .int .i64 qr, .int .i64 frames, .int .i64 stack] 81 (0,0)) (.cells #[.int .i64 qb, .int .i64 qo, .int .i64 qr] 79 (0,0))
  have HB := Lib.hid B
  clear B
  go_enter Tryz.func37, Tryz.ntmps37
  go_upto_region 2 with fail
  rw [← hW]
  clear hW
  generalize w.heap.size = b at hc hq ⊢
  have c0 := blk_cell hc 0
  have c1 := blk_cell hc 1
  have c2 := blk_cell hc 2
  have c3 := blk_cell hc 3
  have c7 := blk_cell hc 7
  have c8 := blk_cell hc 8
  have q0 := blk_cell hq 0
  have q1 := blk_cell hq 1
  have q2 := blk_cell hq 2
  clear hc hq
  cases b1 with
  | false =>
    go_wp2_with (first | (go_at_call 74; refine (h1 _).mono ?_; clear h1; rintro e w1 ⟨rfl, rfl⟩) | (go_at_call 74; refine (h2 _).mono ?_; clear h2; rintro e w1 ⟨rfl, rfl⟩) | (go_at_call 74; refine (h4 _).mono ?_; clear h4; rintro e w1 ⟨rfl, rfl⟩) | (go_at_call 74; refine (h8 _).mono ?_; clear h8; rintro e w1 ⟨rfl, rfl⟩) | (go_at_call 74; refine (h9 _).mono ?_; clear h9; rintro e w1 ⟨rfl, rfl⟩))
    go_ret
    exact ⟨rfl, HB.out⟩
  | true =>
    cases b2 with
    | false =>
      go_wp2_with (first | (go_at_call 74; refine (h1 _).mono ?_; clear h1; rintro e w1 ⟨rfl, rfl⟩) | (go_at_call 74; refine (h2 _).mono ?_; clear h2; rintro e w1 ⟨rfl, rfl⟩) | (go_at_call 74; refine (h4 _).mono ?_; clear h4; rintro e w1 ⟨rfl, rfl⟩) | (go_at_call 74; refine (h8 _).mono ?_; clear h8; rintro e w1 ⟨rfl, rfl⟩) | (go_at_call 74; refine (h9 _).mono ?_; clear h9; rintro e w1 ⟨rfl, rfl⟩))
      go_ret
      exact ⟨rfl, HB.out⟩
    | true =>
      cases b3 with
      | true =>
        go_wp2_with (first | (go_at_call 74; refine (h1 _).mono ?_; clear h1; rintro e w1 ⟨rfl, rfl⟩) | (go_at_call 74; refine (h2 _).mono ?_; clear h2; rintro e w1 ⟨rfl, rfl⟩) | (go_at_call 74; refine (h4 _).mono ?_; clear h4; rintro e w1 ⟨rfl, rfl⟩) | (go_at_call 74; refine (h8 _).mono ?_; clear h8; rintro e w1 ⟨rfl, rfl⟩) | (go_at_call 74; refine (h9 _).mono ?_; clear h9; rintro e w1 ⟨rfl, rfl⟩))
        go_ret
        exact ⟨rfl, HB.out⟩
      | false =>
        cases b4 with
        | false =>
          go_wp2_with (first | (go_at_call 74; refine (h1 _).mono ?_; clear h1; rintro e w1 ⟨rfl, rfl⟩) | (go_at_call 74; refine (h2 _).mono ?_; clear h2; rintro e w1 ⟨rfl, rfl⟩) | (go_at_call 74; refine (h4 _).mono ?_; clear h4; rintro e w1 ⟨rfl, rfl⟩) | (go_at_call 74; refine (h8 _).mono ?_; clear h8; rintro e w1 ⟨rfl, rfl⟩) | (go_at_call 74; refine (h9 _).mono ?_; clear h9; rintro e w1 ⟨rfl, rfl⟩))
          go_ret
          exact ⟨rfl, HB.out⟩
        | true =>
          cases b5 with
          | true =>
            go_wp2_with (first | (go_at_call 74; refine (h1 _).mono ?_; clear h1; rintro e w1 ⟨rfl, rfl⟩) | (go_at_call 74; refine (h2 _).mono ?_; clear h2; rintro e w1 ⟨rfl, rfl⟩) | (go_at_call 74; refine (h4 _).mono ?_; clear h4; rintro e w1 ⟨rfl, rfl⟩) | (go_at_call 74; refine (h8 _).mono ?_; clear h8; rintro e w1 ⟨rfl, rfl⟩) | (go_at_call 74; refine (h9 _).mono ?_; clear h9; rintro e w1 ⟨rfl, rfl⟩))
            go_ret
            exact ⟨rfl, HB.out⟩
          | false =>
            cases b6 with
            | true =>
              go_wp2_with (first | (go_at_call 74; refine (h1 _).mono ?_; clear h1; rintro e w1 ⟨rfl, rfl⟩) | (go_at_call 74; refine (h2 _).mono ?_; clear h2; rintro e w1 ⟨rfl, rfl⟩) | (go_at_call 74; refine (h4 _).mono ?_; clear h4; rintro e w1 ⟨rfl, rfl⟩) | (go_at_call 74; refine (h8 _).mono ?_; clear h8; rintro e w1 ⟨rfl, rfl⟩) | (go_at_call 74; refine (h9 _).mono ?_; clear h9; rintro e w1 ⟨rfl, rfl⟩))
              go_ret
              exact ⟨rfl, HB.out⟩
            | false =>
              cases b7 with
              | true =>
                go_wp2_with (first | (go_at_call 74; refine (h1 _).mono ?_; clear h1; rintro e w1 ⟨rfl, rfl⟩) | (go_at_call 74; refine (h2 _).mono ?_; clear h2; rintro e w1 ⟨rfl, rfl⟩) | (go_at_call 74; refine (h4 _).mono ?_; clear h4; rintro e w1 ⟨rfl, rfl⟩) | (go_at_call 74; refine (h8 _).mono ?_; clear h8; rintro e w1 ⟨rfl, rfl⟩) | (go_at_call 74; refine (h9 _).mono ?_; clear h9; rintro e w1 ⟨rfl, rfl⟩))
                go_ret
                exact ⟨rfl, HB.out⟩
              | false =>
                cases b8 with
                | false =>
                  go_wp2_with (first | (go_at_call 74; refine (h1 _).mono ?_; clear h1; rintro e w1 ⟨rfl, rfl⟩) | (go_at_call 74; refine (h2 _).mono ?_; clear h2; rintro e w1 ⟨rfl, rfl⟩) | (go_at_call 74; refine (h4 _).mono ?_; clear h4; rintro e w1 ⟨rfl, rfl⟩) | (go_at_call 74; refine (h8 _).mono ?_; clear h8; rintro e w1 ⟨rfl, rfl⟩) | (go_at_call 74; refine (h9 _).mono ?_; clear h9; rintro e w1 ⟨rfl, rfl⟩))
                  go_ret
                  exact ⟨rfl, HB.out⟩
                | true =>
                  cases b9 with
                  | false =>
                    go_wp2_with (first | (go_at_call 74; refine (h1 _).mono ?_; clear h1; rintro e w1 ⟨rfl, rfl⟩) | (go_at_call 74; refine (h2 _).mono ?_; clear h2; rintro e w1 ⟨rfl, rfl⟩) | (go_at_call 74; refine (h4 _).mono ?_; clear h4; rintro e w1 ⟨rfl, rfl⟩) | (go_at_call 74; refine (h8 _).mono ?_; clear h8; rintro e w1 ⟨rfl, rfl⟩) | (go_at_call 74; refine (h9 _).mono ?_; clear h9; rintro e w1 ⟨rfl, rfl⟩))
                    go_ret
                    exact ⟨rfl, HB.out⟩
                  | true =>
                    go_wp2_with (first | (go_at_call 74; refine (h1 _).mono ?_; clear h1; rintro e w1 ⟨rfl, rfl⟩) | (go_at_call 74; refine (h2 _).mono ?_; clear h2; rintro e w1 ⟨rfl, rfl⟩) | (go_at_call 74; refine (h4 _).mono ?_; clear h4; rintro e w1 ⟨rfl, rfl⟩) | (go_at_call 74; refine (h8 _).mono ?_; clear h8; rintro e w1 ⟨rfl, rfl⟩) | (go_at_call 74; refine (h9 _).mono ?_; clear h9; rintro e w1 ⟨rfl, rfl⟩))
                    go_ret
                    exact ⟨rfl, HB.out⟩
end Go.Proofs.YthnfiejdkhejlaaGreat
/- slices.Equal on fields; package typereg: reading. -/
namespace Go.Proofs.YthnfiejdkhejlaaGreat
open Go.RowKit Go.Sl
theorem neqFld (w : World) (a b c d : Int) : (binOp .neq 102 (.agg #[.int .i64 a, .int .i64 b]) (.agg #[.int .i64 c, .int .i64 d])).run Tryz.prog w = .ok (.bool (!(a == c && b == d))) w := by
  have hp : Tryz.prog.stoodInHeld 102 = false := by kernel_rfl
  have hu := Tryz.underlying102
  have hi := Tryz.underlying3
  have hf : Tryz.prog.underlying 102 = some (.struct (Tryz.prog.fieldsOf 102)) := by kernel_rfl
  simp [binOp, Op.equal, Op.maxDepth, go_sem, run_equalIn_struct w _ _ _ _ hf hp, Program.fieldsOf, hu, Op.eqFields, part]
  by_cases h1 : a = c <;> by_cases h2 : b = d <;> simp [h1, h2]
theorem guardFld : Tryz.prog.eqGuardType Tryz.prog.depth 102 = false := by kernel_rfl
def feq (a b : Fd) : Bool := a.1 == b.1 && a.2 == b.2
theorem feq_eq {a b : Fd} : feq a b = decide (a = b) := by
  obtain ⟨a1, a2⟩ := a; obtain ⟨b1, b2⟩ := b
  simp only [feq, Prod.mk.injEq]
  by_cases h1 : a1 = b1 <;> by_cases h2 : a2 = b2 <;> simp [h1, h2]
theorem list_eq_of {l m : List Fd} (hl : l.length = m.length) (h : ∀ j (h1 : j < l.length) (h2 : j < m.length), l[j] = m[j]) : l = m := List.ext_getElem hl h
set_option maxHeartbeats 400000 in
theorem Equal_any (v1 v2 : Value) (l m : List Fd) (w : World) (h1 : Rv w 2 v1 l.length (l.flatMap fenc)) (h2 : Rv w 2 v2 m.length (m.flatMap fenc)) (hl : l.length ≤ 1000000) (hm : m.length ≤ 1000000) :
    Calls Tryz.prog 119 #[v1, v2] w fun e w' => e = .returned (.bool (decide (l = m))) ∧ Below w.heap.size w w' := by
  obtain ⟨ad1, cp1, rfl⟩ := h1.form
  obtain ⟨ad2, cp2, rfl⟩ := h2.form
  by_cases hn : l.length = m.length
  · have q : ((l.length : Int) != (m.length : Int)) = false := by rw [bne_eq_false_iff_eq]; omega
    have hne := neqFld
    have hgd := guardFld
    obtain ⟨n, hnn⟩ : ∃ n, m.length = n := ⟨_, rfl⟩
    rw [hnn] at q h2 hm hn ⊢
    have HN := Lib.hid hn; have HNN := Lib.hid hnn; clear hn hnn
    go_enter Tryz.func119, Tryz.ntmps119
    go_wp2
    go_loopw [13] (fun i wr => ∃ k : Nat, k ≤ l.length ∧ i = .int .i64 k ∧ (∀ j (h1 : j < l.length) (h2 : j < m.length), j < k → l[j] = m[j]) ∧ Below w.heap.size w wr) (fun i wr => l.length - (intOf i).toNat)
    case atStart => exact ⟨0, by omega, rfl, fun _ _ _ h => by omega, Below.refl _ _⟩
    case round =>
      obtain ⟨k, hk, rfl, hpre, B1⟩ := hrel
      have R1 := h1.below B1
      have R2 := h2.below B1
      by_cases hkl : k = l.length
      · subst hkl
        have hfin : decide (l = m) = true := decide_eq_true (list_eq_of (by rw [HN.out, HNN.out]) fun j a b => hpre j a b a)
        have HF := Lib.hid hfin; clear hfin hpre
        go_wp2
        go_ret
        exact ⟨by rw [HF.out]; rfl, B1⟩
      · have hk3 : k < l.length := by omega
        have hk4 : k < m.length := by rw [HNN.out, ← HN.out]; exact hk3
        have hk5 : k < n := by rw [← HNN.out]; exact hk4
        obtain ⟨g1, o1, rfl, a0, a1⟩ := R1.two (fun _ => rfl) hk3 rfl
        rw [← HNN.out] at R2
        obtain ⟨g2, o2, rfl, b0, b1⟩ := R2.two (fun _ => rfl) hk4 rfl
        have hw1 := w64 ((k : Int) + 1) (by omega)
        generalize hlk : l[k] = lk at *
        generalize hmk : m[k] = mk at *
        have HLK := Lib.hid hlk; have HMK := Lib.hid hmk; have HPRE := Lib.hid hpre
        clear hlk hmk hpre R1 R2
        obtain ⟨x, y⟩ := lk
        obtain ⟨x2, y2⟩ := mk
        simp only at a0 a1 b0 b1
        have g0 := gcell a0
        have g1' := gcell a1
        have g2' := gcell b0
        have g3 := gcell b1
        cases hb : (x == x2 && y == y2)
        · have hnel : decide (l = m) = false := decide_eq_false fun e => by
            have := HLK.out; simp only [e] at this; rw [HMK.out] at this; cases this; simp at hb
          have HF := Lib.hid hnel; clear hnel
          go_upto_region 6 with fail
          refine wp_region_gr (by kernel_rfl) (by kernel_rfl) ?_
          repeat (go_big_quiet_step (fail))
          refine wpQuiet_nil ?_
          intro W2 hW2
          go_wp2
          go_ret
          exact ⟨by rw [HF.out]; rfl, B1.trans' hW2.below⟩
        · have hxy : (x, y) = (x2, y2) := by simp at hb; rw [hb.1, hb.2]
          have HXY := Lib.hid hxy; clear hxy
          go_upto_region 6 with fail
          refine wp_region_gr (by kernel_rfl) (by kernel_rfl) ?_
          repeat (go_big_quiet_step (fail))
          refine wpQuiet_nil ?_
          intro W2 hW2
          go_wp2
          go_roundw
          case rel =>
            refine ⟨k + 1, by omega, rfl, fun j a b hj => ?_, B1.trans' hW2.below⟩
            by_cases e : j = k
            · subst e; rw [HLK.out, HMK.out]; exact HXY.out
            · exact HPRE.out j a b (by omega)
          case measure => simp [intOf]; omega
  · have q : ((l.length : Int) != (m.length : Int)) = true := by rw [bne_iff_ne]; omega
    have hd : decide (l = m) = false := decide_eq_false fun e => hn (by rw [e])
    rw [hd]
    clear hn hd
    go_enter Tryz.func119, Tryz.ntmps119
    go_wp2
    go_ret
    exact ⟨rfl, Below.refl _ _⟩
end Go.Proofs.YthnfiejdkhejlaaGreat
