/- wire.PutBytes, digest.*. -/
import Derived.Laws.CopyRow
import Derived.Laws.IdiomCopy
import Derived.Laws.CopyOwn
import Derived.Test.YthnfiejdkhejlaaGreatJ06
set_option linter.all false
set_option maxRecDepth 100000
namespace Go.Proofs.YthnfiejdkhejlaaGreat
open Go.RowKit Go.Sl Go.Shelf
theorem PutBytes_row (v s : Value) (m n : Nat) (bs cs : List Nat) (X : As) (hm : m ≤ 900000) (hn : n ≤ 90000) (h0 : 0 < n) (w : World) (h : Hl) (H : Has w h) (hA : (rowAs 5 1 v m (bs.map bv) * (rowAs 5 1 s n (cs.map bv) * X)) h) :
    Calls Tryz.prog 154 #[v, s] w fun e w' => ∃ u h', e = .returned u ∧ Tr w w' h h' ∧ (rowAs 5 1 u (m + (leb n).length + n) ((bs ++ leb n ++ cs).map bv) * (rowAs 5 1 v m (bs.map bv) * (rowAs 5 1 s n (cs.map bv) * X))) h' := by
  obtain ⟨hlc, hcc⟩ := rowAs_cases (br2 hA)
  rcases hcc with ⟨_, h1, _⟩ | ⟨g, cap, cur, rfl, _⟩
  · omega
  have hpu := PutUint_row v m n bs _ (by omega) (by omega) w h H hA
  have hlb := leb_len 9 n (by omega)
  obtain ⟨i0, hi, hz0, hz1, hz2⟩ := info_parts infoByte
  have happ : Hid (∀ w1 h1 u, Tr w w1 h h1 → (rowAs 5 1 u (m + (leb n).length) ((bs ++ leb n).map bv) * (rowAs 5 1 v m (bs.map bv) * (rowAs 5 1 (.slice (some ⟨g, 0, none⟩) n cap) n (cs.map bv) * X))) h1 →
      ∃ ad cp w2 h2, (Builtin.append_ #[49, 49] 49 #[u, .slice (some ⟨g, 0, none⟩) n cap]).run Tryz.prog w1 = .ok (.slice ad (m + (leb n).length + n) cp) w2 ∧ Tr w w2 h h2 ∧
        (rowAs 5 1 (.slice ad (m + (leb n).length + n) cp) (m + (leb n).length + n) ((bs ++ leb n ++ cs).map bv) * (rowAs 5 1 v m (bs.map bv) * (rowAs 5 1 (.slice (some ⟨g, 0, none⟩) n cap) n (cs.map bv) * X))) h2) := Lib.hid fun w1 h1 u t a => by
    obtain ⟨_, hc⟩ := rowAs_cases (br3 a)
    rcases hc with ⟨hcc, _⟩ | ⟨g', cap', cur', hcc, _, _, _, htk, hp⟩
    · cases hcc
    cases hcc
    obtain ⟨v', w2, h2, hrun, t2, a2⟩ := row_append (P := Tryz.prog) (w := w1) (ty := 49) t.has a Tryz.underlying49 hi hz0 hz1 rfl ⟨g, 0, none⟩ n cap (cs.map bv) hlc (fun j u hj => by rw [Addr.add_lit, Nat.zero_add]; exact rowAs_cell (cap := cap) (pts_get t.has hp) htk hj) (by simp [bv, Value.oneCell']) (by unfold maxLen; omega) (by rw [hz2]; omega)
    obtain ⟨ad, cp, rfl⟩ := rowAs_form a2
    refine ⟨ad, cp, w2, h2, hrun, t.trans t2, ?_⟩
    rw [← List.map_append] at a2
    exact a2
  clear hA hlc
  go_enter Tryz.func154, Tryz.ntmps154
  go_upto_region 99 with (first | (go_at_call 193; refine hpu.mono ?_; clear hpu; rintro e w1 ⟨u, h1, rfl, T1, A1⟩; obtain ⟨ad2, cp2, w2, h2, hrun, T2, A2⟩ := happ.out w1 h1 u T1 A1) | (at_builtin; refine wpList_append _ _ _ rfl rfl hrun ?_))
  go_ret
  exact ⟨_, h2, rfl, T2, A2⟩
/-- The digest's fold. -/
def addI (d : Int) (cs : List Nat) : Int := cs.foldl (fun (d : Int) (c : Nat) => IntKind.u64.wrap (bits .xor .u64 d (IntKind.u64.wrap (c : Int)) * 1099511628211)) d
theorem add_same (d : Int) (g n cap : Nat) (cs : List Nat) (w : World) (hl : cs.length = n) (hn : n ≤ 1000000) (hc : ∀ j, j < n → w.cell? ⟨g, j, none⟩ = some (bv (cs.getD j 0))) :
    Calls Tryz.prog 194 #[.int .u64 d, .slice (some ⟨g, 0, none⟩) n cap] w fun e w' => e = .returned (.int .u64 (addI d cs)) ∧ w' = w := by
  have HC := Lib.hid hc; have HL := Lib.hid hl; clear hc hl
  go_enter Tryz.func194, Tryz.ntmps194
  go_wp2
  go_loopw [0, 9] (fun x i wr => wr = w ∧ ∃ k : Nat, k ≤ n ∧ i = .int .i64 k ∧ x = .int .u64 (addI d (cs.take k))) (fun x i wr => n - (intOf i).toNat)
  case atStart => exact ⟨rfl, 0, by omega, rfl, by simp [addI]⟩
  case round =>
    obtain ⟨rfl, k, hk, rfl, rfl⟩ := hrel
    by_cases hkn : k = n
    · subst hkn
      go_wp2
      go_ret
      have : cs.take k = cs := List.take_of_length_le (by rw [HL.out]; omega)
      simp [this]
    · have hk3 : k < n := by omega
      have hw1 := w64 ((k : Int) + 1) (by omega)
      have c0 := HC.out k hk3
      have hstep : addI d (cs.take (k + 1)) = IntKind.u64.wrap (bits .xor .u64 (addI d (cs.take k)) (IntKind.u64.wrap ((cs.getD k 0 : Nat) : Int)) * 1099511628211) := by
        have hk4 : k < cs.length := by rw [HL.out]; exact hk3
        have hg : cs.getD k 0 = cs[k] := by simp [List.getD, List.getElem?_eq_getElem hk4]
        rw [hg, List.take_succ_eq_append_getElem hk4]
        unfold addI
        rw [List.foldl_append]
        rfl
      unfold bv at c0
      have HS := Lib.hid hstep; clear hstep
      generalize cs.getD k 0 = c at *
      go_wp2
      go_roundw
      case rel => exact ⟨trivial, k + 1, by omega, rfl, by rw [HS.out]⟩
      case measure => simp [intOf]; omega
theorem add_nil (d : Int) (w : World) : Calls Tryz.prog 194 #[.int .u64 d, .slice none 0 0] w fun e w' => e = .returned (.int .u64 d) ∧ w' = w := by
  go_enter Tryz.func194, Tryz.ntmps194
  go_wp2
  go_loopw [0, 9] (fun x i wr => wr = w ∧ x = .int .u64 d ∧ i = .int .i64 0) (fun x i wr => 0)
  case atStart => exact ⟨rfl, rfl, rfl⟩
  case round =>
    obtain ⟨rfl, rfl, rfl⟩ := hrel
    go_wp2
    go_ret
    exact ⟨rfl, rfl⟩
theorem Sum_nil (w : World) : Calls Tryz.prog 166 #[.slice none 0 0] w fun e w' => e = .returned (.int .u64 14695981039346656037) ∧ w' = w := by
  go_enter Tryz.func166, Tryz.ntmps166
  go_wp2_with (first | (go_at_call 194; refine (add_nil _ _).mono ?_; rintro e w' ⟨rfl, rfl⟩))
  go_ret
  exact ⟨rfl, rfl⟩
end Go.Proofs.YthnfiejdkhejlaaGreat
/- Package event: Check, Encode of a valid event. -/
namespace Go.Proofs.YthnfiejdkhejlaaGreat
open Go.RowKit Go.Sl Go.Shelf
structure Evt where (p : Int) (op : Int) (hd : Int) (arg : Int) (err : Int)
def Evt.v (e : Evt) : Value := .agg #[.int .i64 e.p, .int .i64 e.op, .int .u64 e.hd, .int .u64 e.arg, .int .i64 e.err]
def Evt.enc (e : Evt) : List Value := [.int .i64 e.p, .int .i64 e.op, .int .u64 e.hd, .int .u64 e.arg, .int .i64 e.err]
structure Evt.ok (e : Evt) : Prop where
  p1 : 1 ≤ e.p
  p2 : e.p ≤ 64
  op : 1 ≤ e.op ∧ e.op ≤ 11 ∨ e.op = 32 ∨ e.op = 33
  hd : U64 e.hd
  arg : U64 e.arg
  e1 : 0 ≤ e.err
  e2 : e.err ≤ 29
theorem Check_ok (e : Evt) (he : e.ok) (w : World) : Calls Tryz.prog 192 #[.agg #[.int .i64 e.p, .int .i64 e.op, .int .u64 e.hd, .int .u64 e.arg, .int .i64 e.err]] w fun x w' => x = .returned (.int .i64 0) ∧ Below w.heap.size w w' := by
  obtain ⟨p, op, hd, ar, er⟩ := e
  obtain ⟨a1, a2, a3, a4, a5, a6, a7⟩ := he
  simp only at *
  have b1 : decide (p < 1) = false := decide_eq_false (by omega)
  have b2 : decide (64 < p) = false := decide_eq_false (by omega)
  have b3 : decide (er < 0) = false := decide_eq_false (by omega)
  have b4 : decide (29 < er) = false := decide_eq_false (by omega)
  clear a4 a5 a1 a2 a6 a7
  rcases a3 with ⟨c1, c2⟩ | c | c
  · have d1 : decide (1 ≤ op) = true := decide_eq_true c1
    have d2 : decide (op ≤ 11) = true := decide_eq_true c2
    clear c1 c2
    go_enter Tryz.func192, Tryz.ntmps192
    go_wp2
    go_ret
    exact ⟨rfl, (Below.refl _ _).al _⟩
  · subst c
    go_enter Tryz.func192, Tryz.ntmps192
    go_wp2
    go_ret
    exact ⟨rfl, (Below.refl _ _).al _⟩
  · subst c
    go_enter Tryz.func192, Tryz.ntmps192
    go_wp2
    go_ret
    exact ⟨rfl, (Below.refl _ _).al _⟩
theorem counts_any (e : Evt) (w : World) : Calls Tryz.prog 151 #[.agg #[.int .i64 e.p, .int .i64 e.op, .int .u64 e.hd, .int .u64 e.arg, .int .i64 e.err]] w fun x w' => x = .returned (.bool (decide (e.op ≠ 32 ∧ e.op ≠ 33))) ∧ Below w.heap.size w w' := by
  obtain ⟨p, op, hd, ar, er⟩ := e
  simp only
  by_cases h1 : op = 32
  · subst h1
    go_enter Tryz.func151, Tryz.ntmps151
    go_wp2
    go_ret
    exact ⟨rfl, (Below.refl _ _).al _⟩
  · by_cases h2 : op = 33
    · subst h2
      go_enter Tryz.func151, Tryz.ntmps151
      go_wp2
      go_ret
      exact ⟨rfl, (Below.refl _ _).al _⟩
    · have d1 : (op != 32) = true := by simpa using h1
      have d2 : (op != 33) = true := by simpa using h2
      rw [decide_eq_true (p := op ≠ 32 ∧ op ≠ 33) ⟨h1, h2⟩]
      have H1 := Lib.hid h1; have H2 := Lib.hid h2; clear h1 h2
      go_enter Tryz.func151, Tryz.ntmps151
      go_wp2
      go_ret
      exact ⟨rfl, (Below.refl _ _).al _⟩
end Go.Proofs.YthnfiejdkhejlaaGreat
/- Package event: Encode of a valid event. -/
namespace Go.Proofs.YthnfiejdkhejlaaGreat
open Go.RowKit Go.Sl Go.Shelf
def Evt.nums (e : Evt) : List Nat := [e.p.toNat, e.op.toNat, e.hd.toNat, e.arg.toNat, e.err.toNat]
/-- The bytes of an event. -/
def Evt.bytes (e : Evt) : List Nat := e.nums.flatMap leb
theorem bytes_len (l : List Nat) (h : ∀ x ∈ l, x < 18446744073709551616) : (l.flatMap leb).length ≤ 10 * l.length := by
  induction l with
  | nil => simp
  | cons a l ih =>
    have h1 := leb_len 9 a (by have := h a (by simp); omega)
    have h2 := ih fun x hx => h x (by simp [hx])
    simp only [List.flatMap_cons, List.length_append, List.length_cons]
    omega
theorem Encode_ok (e : Evt) (he : e.ok) (w : World) (h : Hl) (X : As) (H : Has w h) (hX : X h) :
    Calls Tryz.prog 150 #[.agg #[.int .i64 e.p, .int .i64 e.op, .int .u64 e.hd, .int .u64 e.arg, .int .i64 e.err]] w fun x w' => ∃ u h', x = .returned (.tuple #[u, .int .i64 0]) ∧ Tr w w' h h' ∧ (rowAs 5 1 u e.bytes.length (e.bytes.map bv) * X) h' := by
  have hck := fun w => Check_ok e he w
  have hp := he.p1; have hp2 := he.p2; have hop := he.op; have hh := he.hd; have ha := he.arg; have h1 := he.e1; have h2 := he.e2
  unfold U64 at hh ha
  obtain ⟨n0, k0⟩ : ∃ n : Nat, e.p = n := ⟨e.p.toNat, by omega⟩
  obtain ⟨n1, k1⟩ : ∃ n : Nat, e.op = n := ⟨e.op.toNat, by omega⟩
  obtain ⟨n2, k2⟩ : ∃ n : Nat, e.hd = n := ⟨e.hd.toNat, by omega⟩
  obtain ⟨n3, k3⟩ : ∃ n : Nat, e.arg = n := ⟨e.arg.toNat, by omega⟩
  obtain ⟨n4, k4⟩ : ∃ n : Nat, e.err = n := ⟨e.err.toNat, by omega⟩
  have hb : e.bytes = [n0, n1, n2, n3, n4].flatMap leb := by simp [Evt.bytes, Evt.nums, k0, k1, k2, k3, k4]
  rw [hb, k0, k1, k2, k3, k4]
  rw [k0, k1, k2, k3, k4] at hck
  have q0 : n0 < 18446744073709551616 := by omega
  have q1 : n1 < 18446744073709551616 := by omega
  have q2 : n2 < 18446744073709551616 := by omega
  have q3 : n3 < 18446744073709551616 := by omega
  have q4 : n4 < 18446744073709551616 := by omega
  clear hb k0 k1 k2 k3 k4 hp hp2 hop hh ha h1 h2 he
  have hx0 := heap_alloc_new w (.cells #[.int .i64 n0, .int .i64 n1, .int .u64 n2, .int .u64 n3, .int .i64 n4] 118)
  have B0 := (Below.refl w.heap.size w).al (.cells #[.int .i64 n0, .int .i64 n1, .int .u64 n2, .int .u64 n3, .int .i64 n4] 118)
  go_enter Tryz.func150, Tryz.ntmps150
  go_upto_region 5 with (first | (go_at_call 192; refine (hck _).mono ?_; clear hck; rintro x w1 ⟨rfl, B1⟩; have hx1 := (B1.block _ (blk_lt hx0)).trans hx0; have c0 := blk_cell hx1 0; have c1 := blk_cell hx1 1; have c2 := blk_cell hx1 2; have c3 := blk_cell hx1 3; have c4 := blk_cell hx1 4))
  have T1 := Tr.of_below H (B0.trans' B1)
  clear B0 B1 hx0 hx1
  obtain ⟨ns, hns⟩ : ∃ ns : List Nat, [n0, n1, n2, n3, n4] = ns := ⟨_, rfl⟩
  have hnum : ∀ k (x : Nat), ns[k]? = some x → x < 18446744073709551616 := fun k x hx => by
    rw [← hns] at hx
    have : x ∈ [n0, n1, n2, n3, n4] := List.mem_of_getElem? hx
    simp at this
    rcases this with rfl | rfl | rfl | rfl | rfl <;> assumption
  have hlen5 : ns.length = 5 := by rw [← hns]; rfl
  have HL := Lib.hid hlen5; have HNS := Lib.hid hns; have HNUM := Lib.hid hnum
  clear hlen5 hns hnum
  have i0 : ∀ w, (Instr.index 106 (.agg #[.int .u64 n0, .int .u64 n1, .int .u64 n2, .int .u64 n3, .int .u64 n4]) (.int .i64 0)).run Tryz.prog w = .ok (.int .u64 n0) w := fun _ => by kernel_rfl
  have i1 : ∀ w, (Instr.index 106 (.agg #[.int .u64 n0, .int .u64 n1, .int .u64 n2, .int .u64 n3, .int .u64 n4]) (.int .i64 1)).run Tryz.prog w = .ok (.int .u64 n1) w := fun _ => by kernel_rfl
  have i2 : ∀ w, (Instr.index 106 (.agg #[.int .u64 n0, .int .u64 n1, .int .u64 n2, .int .u64 n3, .int .u64 n4]) (.int .i64 2)).run Tryz.prog w = .ok (.int .u64 n2) w := fun _ => by kernel_rfl
  have i3 : ∀ w, (Instr.index 106 (.agg #[.int .u64 n0, .int .u64 n1, .int .u64 n2, .int .u64 n3, .int .u64 n4]) (.int .i64 3)).run Tryz.prog w = .ok (.int .u64 n3) w := fun _ => by kernel_rfl
  have i4 : ∀ w, (Instr.index 106 (.agg #[.int .u64 n0, .int .u64 n1, .int .u64 n2, .int .u64 n3, .int .u64 n4]) (.int .i64 4)).run Tryz.prog w = .ok (.int .u64 n4) w := fun _ => by kernel_rfl
  go_wp2_with fail
  go_loopw [5, 27] (fun y i wr => ∃ k : Nat, k ≤ 5 ∧ i = .int .i64 k ∧ ∃ h', Tr w wr h h' ∧ (rowAs 5 1 y ((ns.take k).flatMap leb).length (((ns.take k).flatMap leb).map bv) * X) h') (fun y i wr => 5 - (intOf i).toNat)
  case atStart => exact ⟨0, by omega, rfl, h, T1, by simpa using rowAs.nil 5 1 X hX⟩
  case round =>
    obtain ⟨k, hk, rfl, h', T2, A2⟩ := hrel
    have hlt50 : ((ns.take k).flatMap leb).length ≤ 50 := by
      have := bytes_len (ns.take k) (fun x hx => by obtain ⟨j, hj⟩ := List.mem_iff_getElem?.1 (List.mem_of_mem_take hx); exact HNUM.out j x hj)
      rw [List.length_take] at this
      omega
    obtain ⟨ad, cp, rfl⟩ := rowAs_form A2
    have hstep : ∀ x, ns[k]? = some x → (ns.take (k + 1)).flatMap leb = (ns.take k).flatMap leb ++ leb x := fun x hx => by
      obtain ⟨hlt, hx'⟩ := List.getElem?_eq_some_iff.1 hx
      rw [List.take_succ_eq_append_getElem hlt, hx', List.flatMap_append]
      simp
    have HS := Lib.hid hstep; clear hstep
    have hput := fun x (hx : x < 18446744073709551616) => PutUint_row _ _ x _ X (Nat.le_trans hlt50 (by decide)) hx wr h' T2.has A2
    generalize hpre : ((ns.take k).flatMap leb) = pre at *
    have HP := Lib.hid hpre; clear hpre
    rcases (show k = 0 ∨ k = 1 ∨ k = 2 ∨ k = 3 ∨ k = 4 ∨ k = 5 by omega) with rfl | rfl | rfl | rfl | rfl | rfl
    · have hs := HS.out n0 (by rw [← HNS.out]; rfl)
      have hc := hput n0 q0
      have H1 := Lib.hid hs
      clear hs hput
      go_wp2_with (first | (go_at_call 193; refine hc.mono ?_; clear hc; rintro x w3 ⟨u3, h3, rfl, T3, A3⟩; obtain ⟨y3, hy3, ty3⟩ := row_drop (br2 A3) (T2.trans T3)))
      go_roundw
      case rel => exact ⟨1, by omega, rfl, y3, ty3, by rw [H1.out, List.length_append]; exact hy3⟩
      case measure => simp [intOf]
    · have hs := HS.out n1 (by rw [← HNS.out]; rfl)
      have hc := hput n1 q1
      have H1 := Lib.hid hs
      clear hs hput
      go_wp2_with (first | (go_at_call 193; refine hc.mono ?_; clear hc; rintro x w3 ⟨u3, h3, rfl, T3, A3⟩; obtain ⟨y3, hy3, ty3⟩ := row_drop (br2 A3) (T2.trans T3)))
      go_roundw
      case rel => exact ⟨2, by omega, rfl, y3, ty3, by rw [H1.out, List.length_append]; exact hy3⟩
      case measure => simp [intOf]
    · have hs := HS.out n2 (by rw [← HNS.out]; rfl)
      have hc := hput n2 q2
      have H1 := Lib.hid hs
      clear hs hput
      go_wp2_with (first | (go_at_call 193; refine hc.mono ?_; clear hc; rintro x w3 ⟨u3, h3, rfl, T3, A3⟩; obtain ⟨y3, hy3, ty3⟩ := row_drop (br2 A3) (T2.trans T3)))
      go_roundw
      case rel => exact ⟨3, by omega, rfl, y3, ty3, by rw [H1.out, List.length_append]; exact hy3⟩
      case measure => simp [intOf]
    · have hs := HS.out n3 (by rw [← HNS.out]; rfl)
      have hc := hput n3 q3
      have H1 := Lib.hid hs
      clear hs hput
      go_wp2_with (first | (go_at_call 193; refine hc.mono ?_; clear hc; rintro x w3 ⟨u3, h3, rfl, T3, A3⟩; obtain ⟨y3, hy3, ty3⟩ := row_drop (br2 A3) (T2.trans T3)))
      go_roundw
      case rel => exact ⟨4, by omega, rfl, y3, ty3, by rw [H1.out, List.length_append]; exact hy3⟩
      case measure => simp [intOf]
    · have hs := HS.out n4 (by rw [← HNS.out]; rfl)
      have hc := hput n4 q4
      have H1 := Lib.hid hs
      clear hs hput
      go_wp2_with (first | (go_at_call 193; refine hc.mono ?_; clear hc; rintro x w3 ⟨u3, h3, rfl, T3, A3⟩; obtain ⟨y3, hy3, ty3⟩ := row_drop (br2 A3) (T2.trans T3)))
      go_roundw
      case rel => exact ⟨5, by omega, rfl, y3, ty3, by rw [H1.out, List.length_append]; exact hy3⟩
      case measure => simp [intOf]
    · have hfin : pre = [n0, n1, n2, n3, n4].flatMap leb := by
        rw [← HP.out, HNS.out, List.take_of_length_le (by rw [HL.out]; omega)]
      have HF := Lib.hid hfin; clear hfin hput
      go_wp2
      go_ret2
      refine ⟨_, h', rfl, T2, ?_⟩
      rw [← HF.out]; exact A2
end Go.Proofs.YthnfiejdkhejlaaGreat
/- digest.Chain, audit.digestBytes. -/
namespace Go.Proofs.YthnfiejdkhejlaaGreat
open Go.RowKit Go.Sl Go.Shelf
/-- The eight bytes of a number, the least one first. -/
def b8 (p : Nat) : List Nat := (List.range 8).map fun i => p / 2 ^ (8 * i) % 256
def b8k (p k : Nat) : List Nat := (List.range 8).map fun i => if i < k then p / 2 ^ (8 * i) % 256 else 0
def b8obj (p k : Nat) (T : TypeId) : Obj := .cells ((b8k p k).map bv).toArray T (0,0)
theorem b8_set (p k : Nat) (hk : k < 8) (T : TypeId) (w : World) (b : Nat) (hx : w.heap[b]? = some (b8obj p k T)) : (w.setCell ⟨b, k, none⟩ (.int .u8 ((p : Int) / 2 ^ (8 * k) % 256))).heap[b]? = some (b8obj p (k + 1) T) := by
  rw [heap_setCell hx]
  unfold b8obj
  congr 2
  rcases (show k = 0 ∨ k = 1 ∨ k = 2 ∨ k = 3 ∨ k = 4 ∨ k = 5 ∨ k = 6 ∨ k = 7 by omega) with rfl | rfl | rfl | rfl | rfl | rfl | rfl | rfl <;>
    simp [b8k, bv, List.range, List.range.loop]
theorem Chain_any (p : Nat) (g n cap : Nat) (cs : List Nat) (w : World) (hp : p < 18446744073709551616) (hg : g < w.heap.size) (hl : cs.length = n) (hn : n ≤ 1000000) (hc : ∀ j, j < n → w.cell? ⟨g, j, none⟩ = some (bv (cs.getD j 0))) :
    Calls Tryz.prog 153 #[.int .u64 p, .slice (some ⟨g, 0, none⟩) n cap] w fun e w' => e = .returned (.int .u64 (addI (addI 14695981039346656037 (b8 p)) cs)) ∧ Below w.heap.size w w' := by
  have HC := Lib.hid hc; have HL := Lib.hid hl; clear hc hl
  go_enter Tryz.func153, Tryz.ntmps153
  go_upto_region 2 with fail
  have B0 := (Below.refl w.heap.size w).al (b8obj p 0 275)
  have hW := heap_alloc_new w (b8obj p 0 275)
  change Code.wp _ _ _ _ (w.alloc (b8obj p 0 275))
  generalize w.alloc (b8obj p 0 275) = W at *
  generalize hb : w.heap.size = b at *
  have HB := Lib.hid hb; clear hb
  go_wp2
  go_loopw [7] (fun i wr => ∃ k : Nat, k ≤ 8 ∧ i = .int .i64 k ∧ Below b w wr ∧ wr.heap[b]? = some (b8obj p k 275)) (fun i wr => 8 - (intOf i).toNat)
  case atStart => exact ⟨0, by omega, rfl, B0, hW⟩
  case round =>
    obtain ⟨k, hk, rfl, B, hx⟩ := hrel
    by_cases hk8 : k = 8
    · subst hk8
      have hbo := HB.out
      have ha1 := add_same 14695981039346656037 b 8 8 (b8 p) wr rfl (by decide) (fun j hj => by
        rw [blk_cell hx]
        have : ((b8k p 8).map bv).toArray[j]? = some (bv ((b8 p).getD j 0)) := by
          rcases (show j = 0 ∨ j = 1 ∨ j = 2 ∨ j = 3 ∨ j = 4 ∨ j = 5 ∨ j = 6 ∨ j = 7 by omega) with rfl | rfl | rfl | rfl | rfl | rfl | rfl | rfl <;> rfl
        exact this)
      have ha2 := add_same (addI 14695981039346656037 (b8 p)) g n cap cs wr HL.out hn (fun j hj => by
        rw [World.cell?_of_block (w := w) (w' := wr) (a := ⟨g, j, none⟩) (B.block g (by omega))]
        exact HC.out j hj)
      have BB := Lib.hid B
      clear hbo hp hg
      go_wp2_with (first | (go_at_call 194; refine ha1.mono ?_; clear ha1; rintro e wr ⟨rfl, rfl⟩) | (go_at_call 194; refine ha2.mono ?_; clear ha2; rintro e wr ⟨rfl, rfl⟩))
      go_ret
      exact ⟨rfl, by first | exact BB.out | (rw [HB.out]; exact BB.out)⟩
    · have hk3 : k < 8 := by omega
      have hw1 := w64 ((k : Int) + 1) (by omega)
      have hw2 := w64 (8 * (k : Int)) (by omega)
      have hc : ∃ u, wr.cell? ⟨b, k, none⟩ = some u := by
        rw [blk_cell hx]
        exact ⟨_, Array.getElem?_eq_getElem (by simp [b8k]; omega)⟩
      obtain ⟨u, hu⟩ := hc
      have hf := blk_free hx k
      have hset := b8_set p k hk3 275 wr b hx
      have HS := Lib.hid hset; clear hset
      go_wp2
      go_roundw
      case rel => exact ⟨k + 1, by omega, rfl, B.setCell (p := ⟨b, k, none⟩) (Nat.le_refl _) _, HS.out⟩
      case measure => simp [intOf]; omega
theorem b8_arr (p k : Nat) (hk : k < 8) : (((b8k p k).map bv).toArray.setIfInBounds k (.int .u8 ((p : Int) / 2 ^ (8 * k) % 256))) = ((b8k p (k + 1)).map bv).toArray := by
  rcases (show k = 0 ∨ k = 1 ∨ k = 2 ∨ k = 3 ∨ k = 4 ∨ k = 5 ∨ k = 6 ∨ k = 7 by omega) with rfl | rfl | rfl | rfl | rfl | rfl | rfl | rfl <;>
    simp [b8k, bv, List.range, List.range.loop]
theorem digestBytes_any (p : Nat) (hp : p < 18446744073709551616) (w : World) (h : Hl) (X : As) (H : Has w h) (hX : X h) :
    Calls Tryz.prog 155 #[.int .u64 p] w fun e w' => ∃ u h', e = .returned u ∧ Tr w w' h h' ∧ (rowAs 5 1 u 8 ((b8 p).map bv) * X) h' := by
  obtain ⟨i0, hi, hz0, hz1, hz2⟩ := info_parts infoByte
  have hmk := run_makeSlice (P := Tryz.prog) (w := w) 49 5 i0 _ Tryz.underlying49 hi hz0 .i64 .i64 8 8 (by omega) (by omega) (by rw [hz1]; decide) (by rw [hz2]; decide) (by omega)
  simp only [hz1] at hmk
  obtain ⟨h1, T1, A1⟩ := (Tr.refl H).allocA hX (b8obj p 0 5)
  have hob : w.alloc (.cells (madeCells (Value.cells (.int .u8 0)) (Int.toNat 8 * 1)) 5) = w.alloc (b8obj p 0 5) := by
    have e1 := made_flat (enc := fun x : Nat => [bv x]) (sz := 1) (fun _ => rfl) 0 #[.int .u8 0] rfl rfl (by decide) 8
    have e2 : madeCells (Value.cells (.int .u8 0)) (Int.toNat 8 * 1) = ((b8k p 0).map bv).toArray := by
      have e3 : madeCells (Value.cells (.int .u8 0)) (Int.toNat 8 * 1) = madeCells #[.int .u8 0] (8 * 1) := rfl
      rw [e3, ← Array.toList_inj, e1]
      simp [b8k, List.range, List.range.loop, List.replicate]
    rw [e2]; rfl
  rw [hob] at hmk
  clear hob
  generalize w.alloc (b8obj p 0 5) = W at *
  generalize w.heap.size = b at *
  go_enter Tryz.func155, Tryz.ntmps155
  go_wp2
  go_loopw [8] (fun i wr => ∃ k : Nat, k ≤ 8 ∧ i = .int .i64 k ∧ ∃ h', Tr w wr h h' ∧ (pts b (b8obj p k 5) * X) h') (fun i wr => 8 - (intOf i).toNat)
  case atStart => exact ⟨0, by omega, rfl, h1, T1, A1⟩
  case round =>
    obtain ⟨k, hk, rfl, h', T2, A2⟩ := hrel
    have hx := pts_get T2.has A2
    by_cases hk8 : k = 8
    · subst hk8
      go_wp2
      go_ret
      exact ⟨_, h', rfl, T2, rowAs_mk (by simp [b8]) (Nat.le_refl 8) (by decide) (by simp [b8k]) (by rfl) A2⟩
    · have hk3 : k < 8 := by omega
      have hw1 := w64 ((k : Int) + 1) (by omega)
      have hw2 := w64 (8 * (k : Int)) (by omega)
      have hc : ∃ u, wr.cell? ⟨b, k, none⟩ = some u := by
        rw [blk_cell hx]
        exact ⟨_, Array.getElem?_eq_getElem (by simp [b8k]; omega)⟩
      obtain ⟨u, hu⟩ := hc
      have hf := blk_free hx k
      obtain ⟨k3, T3, A3⟩ := T2.setA A2 k (.int .u8 ((p : Int) / 2 ^ (8 * k) % 256))
      rw [b8_arr p k hk3] at A3
      have HT := Lib.hid T3; have HA := Lib.hid A3; clear T3 A3 A2
      go_wp2
      go_roundw
      case rel => exact ⟨k + 1, by omega, rfl, k3, HT.out, HA.out⟩
      case measure => simp [intOf]; omega
end Go.Proofs.YthnfiejdkhejlaaGreat
/- Package arena: New, Alloc, slice, Read, Write, FreeList. -/
namespace Go.Sl
open Go.RowKit
/-- 'copy(dst, src)' into an owned row of one-cell elements. -/
theorem St.copy {P : Program} {w W : World} {h : Hl} {X : As} {T sT ty e : TypeId} {g n cp : Nat} {xs : List Value} (s : St w h W (rowAs e 1 (.slice (some ⟨g, 0, none⟩) n cp) n xs * X)) (hu : P.underlying T = some (.slice e)) (hs : (P.info? e).map (·.size) = some 1)
    (off : Nat) (dp sp : Option Addr) (dLen dCap sLen sCap : Nat) (cs : List Value) (hn : cs.length = Nat.min sLen dLen) (hpos : 0 < cs.length → dp = some ⟨g, off, none⟩ ∧ ∃ ad, sp = some ad ∧ ∀ j v, cs[j]? = some v → W.cell? (ad.add j) = some v)
    (hfit : off + cs.length ≤ n) (h1 : ∀ v ∈ cs, v.oneCell' = true) :
    ∃ W', (Builtin.copy_ #[T, sT] ty #[.slice dp dLen dCap, .slice sp sLen sCap]).run P W = .ok (goInt cs.length) W' ∧ St w h W' (rowAs e 1 (.slice (some ⟨g, 0, none⟩) n cp) n (xs.take off ++ cs ++ xs.drop (off + cs.length)) * X) := by
  by_cases h0 : cs.length = 0
  · obtain rfl : cs = [] := List.eq_nil_of_length_eq_zero h0
    refine ⟨W, ?_, ?_⟩
    · have := run_copy_none (P := P) W T sT ty e dp sp dLen dCap sLen sCap hu hs (by simpa using hn.symm)
      simpa using this
    · simpa using s
  · obtain ⟨rfl, ad, rfl, hsrc⟩ := hpos (by omega)
    obtain ⟨k, t, a⟩ := s
    obtain ⟨hl, hc⟩ := rowAs_cases a
    rcases hc with ⟨hcc, _⟩ | ⟨g', cap, cur, hcc, h3, h4, h5, htk, hp⟩
    · cases hcc
    cases hcc
    have hg := pts_get t.has hp
    have hcs : cur.size = cp := by rw [h5, Nat.mul_one]
    rw [Nat.mul_one] at htk hl
    have hfit2 : off + cs.length ≤ cur.size := by omega
    refine ⟨_, run_copy_row P W T sT ty e g off dLen dCap ad sLen sCap cur e cs hu hs hg hn hsrc hfit2 h1, ?_⟩
    have hsz : (cur.toList.take off ++ cs ++ cur.toList.drop (off + cs.length)).toArray.size = cp * 1 := by
      simp only [List.size_toArray, List.length_append, List.length_take, List.length_drop, Array.length_toList]; omega
    refine ⟨_, t.trans (Tr.of_grown t.has (pts_at hp) ⟨rfl, rfl, rfl, by simp, fun k _ hk => setRow_other W g k _ (fun e => hk (by simp [e]))⟩ (setRow_heap W g cur _ e _ hg)), rowAs_mk (by simp; omega) h3 h4 hsz ?_ (pts_set _ hp)⟩
    rw [Nat.mul_one, ← htk]
    simp only [List.take_take, List.drop_take]
    have e1 : min off n = off := by omega
    rw [e1, List.append_assoc, List.take_append, List.length_take, Array.length_toList, Nat.min_eq_left (by omega : off ≤ cur.size), List.take_of_length_le (by simp; omega), List.take_append, List.take_of_length_le (l := cs) (by omega), List.append_assoc]
    congr 3
    omega
/-- A part of a slice that is read. -/
theorem Rv.part {W : World} {n cp o m k : Nat} {g : Nat} {xs : List Value} (r : Rv W 1 (.slice (some ⟨g, o, none⟩) n cp) n xs) (hm : m + k ≤ n) (a : Addr) (c : Nat) (ha : 0 < k → a = ⟨g, o + m, none⟩) (hk : k ≤ c) (hc : c ≤ maxLen) (hb : a.block < W.heap.size ∧ ∃ b o, a = ⟨b, o, none⟩) : Rv W 1 (.slice (some a) k c) k ((xs.drop m).take k) := by
  obtain ⟨hl, hcc⟩ := r
  rcases hcc with ⟨h, _⟩ | ⟨g', o', cap, h, h1, h2, h3, h4⟩
  · cases h
  · cases h
    obtain ⟨hb1, b, ob, rfl⟩ := hb
    refine ⟨by rw [List.length_take, List.length_drop, hl]; omega, .inr ⟨b, ob, c, rfl, hk, hc, hb1, fun j u hj => ?_⟩⟩
    rw [List.getElem?_take] at hj
    split at hj
    · have ha := ha (by omega)
      cases ha
      rw [List.getElem?_drop] at hj
      have := h4 _ u hj
      rwa [← Nat.add_assoc] at this
    · cases hj
end Go.Sl
namespace Go.Proofs.YthnfiejdkhejlaaGreat
open Go.RowKit Go.Sl Go.Shelf
def Ar (bA : Nat) (fr : List Ex) (tk : AM) (bs : List Nat) : As := fun h => ∃ (v : Value) (ba : Nat), (pts bA (.cells #[.pointer (some ⟨ba, 0, none⟩), v] 245 (0,0)) * (Al ba fr tk * rowAs 5 1 v bs.length (bs.map bv))) h
theorem Ar.open {w W : World} {h : Hl} {bA : Nat} {fr : List Ex} {tk : AM} {bs : List Nat} {X : As} (s : St w h W (Ar bA fr tk bs * X)) : ∃ ad cp ba, St w h W (pts bA (.cells #[.pointer (some ⟨ba, 0, none⟩), .slice ad bs.length cp] 245 (0,0)) * (Al ba fr tk * (rowAs 5 1 (.slice ad bs.length cp) bs.length (bs.map bv) * X))) := by
  obtain ⟨v, s⟩ := s.ex
  obtain ⟨ba, s⟩ := s.ex
  rw [As.assoc, As.assoc] at s
  obtain ⟨ad, cp, rfl⟩ := s.b3.form
  exact ⟨ad, cp, ba, s⟩
theorem Ar.mk {w W : World} {h : Hl} {bA : Nat} {fr : List Ex} {tk : AM} {bs : List Nat} {X : As} {v : Value} {ba : Nat}
    (s : St w h W (pts bA (.cells #[.pointer (some ⟨ba, 0, none⟩), v] 245 (0,0)) * (Al ba fr tk * (rowAs 5 1 v bs.length (bs.map bv) * X)))) : St w h W (Ar bA fr tk bs * X) := by
  have s : St w h W ((pts bA (.cells #[.pointer (some ⟨ba, 0, none⟩), v] 245 (0,0)) * (Al ba fr tk * rowAs 5 1 v bs.length (bs.map bv))) * X) := by rw [As.assoc, As.assoc]; exact s
  exact s.mL fun _ a => ⟨v, ba, a⟩
theorem parts_any (bA ba : Nat) (v : Value) (w : World) (hb : w.heap[bA]? = some (.cells #[.pointer (some ⟨ba, 0, none⟩), v] 245 (0,0))) : Calls Tryz.prog 128 #[.pointer (some ⟨bA, 0, none⟩)] w fun e w' => e = .returned (.pointer (some ⟨ba, 0, none⟩)) ∧ w' = w := by
  have c0 := blk_cell hb 0
  go_enter Tryz.func128, Tryz.ntmps128
  go_wp2
  go_ret
  exact ⟨rfl, rfl⟩
def withinB (off k n : Int) : Bool := decide (0 ≤ off ∧ k ≤ n ∧ off ≤ n - k)
theorem within_any (a : Option Addr) (n c : Nat) (off k : Int) (hn : n ≤ 1048576) (hk : 0 ≤ k) (w : World) : Calls Tryz.prog 140 #[.slice a n c, .int .i64 off, .int .i64 k] w fun e w' => e = .returned (.bool (withinB off k n)) ∧ w' = w := by
  by_cases h1 : 0 ≤ off
  · by_cases h2 : k ≤ n
    · have hw := w64 ((n : Int) - k) (by omega)
      by_cases h3 : off ≤ n - k
      · rw [show withinB off k n = true from decide_eq_true ⟨h1, h2, h3⟩]
        go_enter Tryz.func140, Tryz.ntmps140
        go_wp2
        go_ret
        exact ⟨rfl, rfl⟩
      · rw [show withinB off k n = false from decide_eq_false fun h => h3 h.2.2]
        have d3 : decide (off ≤ n - k) = false := decide_eq_false h3
        clear h3
        go_enter Tryz.func140, Tryz.ntmps140
        go_wp2
        go_ret
        exact ⟨rfl, rfl⟩
    · rw [show withinB off k n = false from decide_eq_false fun h => h2 h.2.1]
      have d2 : decide (k ≤ (n : Int)) = false := decide_eq_false h2
      clear h2
      go_enter Tryz.func140, Tryz.ntmps140
      go_wp2
      go_ret
      exact ⟨rfl, rfl⟩
  · rw [show withinB off k n = false from decide_eq_false fun h => h1 h.1]
    have d1 : decide (0 ≤ off) = false := decide_eq_false h1
    clear h1
    go_enter Tryz.func140, Tryz.ntmps140
    go_wp2
    go_ret
    exact ⟨rfl, rfl⟩
theorem slice_yes (bA ba : Nat) (g cp : Nat) (fr : List Ex) (tk : AM) (n o m : Nat) (hg : AL.get tk o = some (m : Int)) (hm : 0 < m) (hom : o + m ≤ n) (hn : n ≤ 1048576) {w W : World} {h : Hl} {X : As}
    (s : St w h W (pts bA (.cells #[.pointer (some ⟨ba, 0, none⟩), .slice (some ⟨g, 0, none⟩) n cp] 245 (0,0)) * (Al ba fr tk * X))) (hcp : n ≤ cp) :
    Calls Tryz.prog 139 #[.pointer (some ⟨bA, 0, none⟩), .agg #[.int .i64 o, .int .i64 m]] W fun e w' => e = .returned (.tuple #[.slice (some ⟨g, o, none⟩) m (cp - o), .int .i64 0]) ∧ Below W.heap.size W w' := by
  have B0 := (Below.refl W.heap.size W).al (.cells #[.int .i64 o, .int .i64 m] 96)
  have s0 := s.below B0
  have hb := s0.blk
  have hx := heap_alloc_new W (.cells #[.int .i64 o, .int .i64 m] 96)
  have hpa := fun w hb => parts_any bA ba (.slice (some ⟨g, 0, none⟩) n cp) w hb
  have hha := fun {w W h X} (s : St w h W (Al ba fr tk * X)) => Has_st ba fr tk o m s
  rw [hg] at hha
  rw [show decide (some (m : Int) = some (m : Int)) = true from by simp] at hha
  have hlo : ¬ (cp = o) := by omega
  have e1 : o ≤ o + m := Nat.le_add_right _ _
  have e2 : o + m ≤ cp := Nat.le_trans hom hcp
  have e3 : o + m - o = m := by omega
  clear hg
  go_enter Tryz.func139, Tryz.ntmps139
  go_upto_region 1 with fail
  generalize W.alloc _ = W0 at *
  generalize W.heap.size = q at hx ⊢
  have g0 := bcells hx 0
  have g1 := bcells hx 1
  refine wp_region_sb [(0, 0), (1, 2), (3, 1), (2, 3), (0, 4)] (by kernel_rfl) (by kernel_rfl) (fun V BV => ?_)
  repeat (first | (refine sch_q0 (by rfl) ?_; go_big_quiet_step (fail); refine wpQuiet_nil ?_) | (refine sch_q1 (by rfl) ?_; go_big_quiet_step (fail); refine wpQuiet_nil ?_))
  refine sch_e3 (by rfl) ?_
  have hbV := blkB BV hb
  go_wp2_with (go_at_call 128; refine (hpa _ hbV).mono ?_; rintro e w1 ⟨rfl, rfl⟩)
  refine onlyN_mk ⟨BV, ?_⟩
  repeat (first | (refine sch_q0 (by rfl) ?_; go_big_quiet_step (fail); refine wpQuiet_nil ?_) | (refine sch_q1 (by rfl) ?_; go_big_quiet_step (fail); refine wpQuiet_nil ?_))
  refine sch_e2 (by rfl) ?_
  have h2 := hha ((s0.below BV).b2)
  go_wp2_with (go_at_call 186; refine h2.mono ?_; clear h2; rintro e w2 ⟨rfl, B2⟩)
  refine onlyN_mk ?_
  repeat (first | (refine sch_q0 (by rfl) ?_; go_big_quiet_step (fail); refine wpQuiet_nil ?_) | (refine sch_q1 (by rfl) ?_; go_big_quiet_step (fail); refine wpQuiet_nil ?_))
  refine sch_nil ?_
  clear g0 g1 hha hpa
  have hb2 := blkB B2 hbV
  have hx2 := blkB B2 (blkB BV hx)
  go_upto_region 3 with fail
  have g0 := bcells hb2 1
  have g1 := bcells hx2 0
  have g2 := bcells hx2 1
  have i1 : (0 : Int) ≤ (o : Int) + m := by omega
  have i2 : (o : Int) + m ≤ (cp : Int) := by omega
  have i3 : (o : Int) ≤ (o : Int) + m := by omega
  have i4 : ((o : Int) + m).toNat = o + m := by omega
  have i5 : IntKind.i64.wrap ((o : Int) + m) = (o : Int) + m := IntWalk.i64_in _ (by omega)
  refine wp_region_sb [(0, 0), (0, 1), (0, 2), (1, 3), (0, 4), (1, 5), (0, 6), (1, 7), (0, 8), (1, 9), (0, 10), (0, 11), (0, 12), (0, 13)] (by kernel_rfl) (by kernel_rfl) (fun V3 BV3 => ?_)
  repeat (first | (refine sch_q0 (by rfl) ?_; go_big_quiet_step (fail); refine wpQuiet_nil ?_) | (refine sch_q1 (by rfl) ?_; go_big_quiet_step (fail); refine wpQuiet_nil ?_))
  refine sch_nil ?_
  clear g0 g1 g2 i1 i2 i3 i4 i5
  go_wp2
  go_ret2
  exact ⟨rfl, B0.trans' (BV.trans' (B2.trans' BV3))⟩
end Go.Proofs.YthnfiejdkhejlaaGreat
/- Package arena: Read, Write, Alloc, New. -/
namespace Go.Proofs.YthnfiejdkhejlaaGreat
open Go.RowKit Go.Sl Go.Shelf
theorem bv_one (l : List Nat) : ∀ u ∈ l.map bv, u.oneCell' = true := by
  intro u hu; obtain ⟨x, _, rfl⟩ := List.mem_map.1 hu; rfl
/-- The arena's parts, where something lies in it. -/
theorem Ar.open' {w W : World} {h : Hl} {bA : Nat} {fr : List Ex} {tk : AM} {bs : List Nat} {X : As} (s : St w h W (Ar bA fr tk bs * X)) (hp : 0 < bs.length) : ∃ g cp ba, bs.length ≤ cp ∧ cp ≤ maxLen ∧ St w h W (pts bA (.cells #[.pointer (some ⟨ba, 0, none⟩), .slice (some ⟨g, 0, none⟩) bs.length cp] 245 (0,0)) * (Al ba fr tk * (rowAs 5 1 (.slice (some ⟨g, 0, none⟩) bs.length cp) bs.length (bs.map bv) * X))) := by
  obtain ⟨ad, cp, ba, s⟩ := Ar.open s
  obtain ⟨k, t, a⟩ := s.b3
  rcases (rowAs_cases a).2 with ⟨_, h0, _⟩ | ⟨g, cap, cur, hh, h1, h2, _, _, _⟩
  · omega
  · cases hh; exact ⟨g, cp, ba, h1, h2, s⟩
theorem part_len (bs : List Nat) (a k : Nat) : ((bs.map bv).drop a).take k = ((bs.drop a).take k).map bv := by rw [← List.map_drop, ← List.map_take]
theorem drop_drop_take (bs : List Nat) (o m off k : Nat) (h : off + k ≤ m) : (((bs.drop o).take m).drop off).take k = (bs.drop (o + off)).take k := by
  rw [List.drop_take, List.take_take, List.drop_drop, Nat.min_eq_left (by omega)]
set_option maxHeartbeats 400000 in
theorem Read_yes (bA : Nat) (fr : List Ex) (tk : AM) (bs : List Nat) (o m off k : Nat) (hg : AL.get tk o = some (m : Int)) (hm : 0 < m) (hom : o + m ≤ bs.length) (hn : bs.length ≤ 1048576) (hok : off + k ≤ m) {w W : World} {h : Hl} {X : As}
    (s : St w h W (Ar bA fr tk bs * X)) :
    Calls Tryz.prog 66 #[.pointer (some ⟨bA, 0, none⟩), .agg #[.int .i64 o, .int .i64 m], .int .i64 off, .int .i64 k] W fun e w' => ∃ ad cp, e = .returned (.tuple #[.slice ad k cp, .int .i64 0]) ∧ Fresh W w' (rowAs 5 1 (.slice ad k cp) k (((bs.drop (o + off)).take k).map bv)) := by
  obtain ⟨g, cp, ba, hcp, hcm, s⟩ := Ar.open' s (by omega)
  have B0 := (Below.refl W.heap.size W).al (.cells #[.int .i64 o, .int .i64 m] 96)
  have s0 := s.below B0
  have hx := heap_alloc_new W (.cells #[.int .i64 o, .int .i64 m] 96)
  have hsl := slice_yes bA ba g cp fr tk bs.length o m hg hm hom hn s0 hcp
  have hwi := fun a c w => within_any a m c off k (by omega) (by omega) w
  rw [show withinB off k m = true from decide_eq_true ⟨by omega, by omega, by omega⟩] at hwi
  have hrv := fun w1 (B1 : Below _ _ w1) => ((s0.below B1).b3.rv).part (m := o) (k := m) (by omega) ⟨g, o, none⟩ (cp - o) (fun _ => by rw [Nat.zero_add]) (by omega) (by omega)
    ⟨by rcases ((s0.below B1).b3.rv).2 with ⟨hh, _⟩ | ⟨_, _, _, hh, _, _, hl, _⟩; cases hh; cases hh; exact hl, g, o, rfl⟩
  have d1 : decide ((k : Int) < 0) = false := decide_eq_false (by omega)
  have hb1 : k ≤ 1048576 := by omega
  have hle : off + k ≤ cp - o := by omega
  have hww : off + k ≤ 9223372036854775807 := by omega
  have HP := Lib.hid (show ∀ bs : List Nat, (((bs.map bv).drop o).take m |>.drop off).take k = ((bs.drop (o + off)).take k).map bv from fun bs => by rw [List.drop_take, List.take_take, List.drop_drop, Nat.min_eq_left (by omega), part_len])
  have HB0 := Lib.hid B0
  have hpre : off ≤ m := by omega
  have hcap2 : cp - o ≤ maxLen := by omega
  have hcap3 : k ≤ cp - o - off := by omega
  clear hg hm hom hn hcp hcm s B0
  go_enter Tryz.func66, Tryz.ntmps66
  go_upto_region 1 with fail
  generalize W.alloc _ = W0 at *
  generalize W.heap.size = q at hx ⊢
  have c0 := blk_cell hx 0
  have c1 := blk_cell hx 1
  go_wp2_with fail
  refine hsl.mono ?_
  clear hsl
  rintro e w1 ⟨rfl, B1⟩
  have hrv1 := hrv w1 B1
  clear hrv c0 c1 hx s0
  go_upto_region 8 with (go_at_call 140; refine (hwi _ _ _).mono ?_; clear hwi; rintro e w2 ⟨rfl, rfl⟩)
  have i1 : (0 : Int) ≤ (off : Int) + k := by omega
  have i2 : (off : Int) + k ≤ ((cp - o : Nat) : Int) := by omega
  have i3 : (off : Int) ≤ (off : Int) + k := by omega
  have i4 : ((off : Int) + k).toNat = off + k := by omega
  have hadd : off + k - off = k := by omega
  generalize hcq : cp - o = cq at *
  by_cases hcap : cq = off
  · have hk0 : k = 0 := by omega
    subst hk0
    have hcl := CloneByte_fr (.slice (some ⟨g, o, none⟩) 0 0) 0 [] w2 (hrv1.part (m := off) (k := 0) (by omega) ⟨g, o, none⟩ 0 (fun h => by omega) (by omega) (by decide) ⟨by rcases hrv1.2 with ⟨hh, _⟩ | ⟨_, _, _, hh, _, _, hl, _⟩; cases hh; cases hh; exact hl, g, o, rfl⟩) (by decide) (by simp)
    have HCQ := Lib.hid hcq
    clear hcq
    go_wp2_with (go_at_call 141; refine hcl.mono ?_; clear hcl; rintro e w3 ⟨ad3, cp3, rfl, F3⟩)
    go_ret2
    refine ⟨ad3, cp3, rfl, ?_⟩
    rw [List.take_zero]
    exact (F3.st ((St.start (Has.emp W) (show (1 : As) Hl.emp from rfl)).below (HB0.out.trans' B1))).m1
  · have hcl := CloneByte_fr (.slice (some ⟨g, o + off, none⟩) k (cq - off)) k _ w2 (hrv1.part (m := off) (k := k) (by omega) ⟨g, o + off, none⟩ (cq - off) (fun _ => rfl) (by omega) (by omega) ⟨by rcases hrv1.2 with ⟨hh, _⟩ | ⟨_, _, _, hh, _, _, hl, _⟩; cases hh; cases hh; exact hl, g, _, rfl⟩) (by omega) (by rw [HP.out bs]; exact bv_one _)
    rw [HP.out bs] at hcl
    have HCQ := Lib.hid hcq
    clear hcq
    go_wp2_with (go_at_call 141; refine hcl.mono ?_; clear hcl; rintro e w3 ⟨ad3, cp3, rfl, F3⟩)
    go_ret2
    exact ⟨ad3, cp3, rfl, (F3.st ((St.start (Has.emp W) (show (1 : As) Hl.emp from rfl)).below (HB0.out.trans' B1))).m1⟩
/-- The bytes with s written at a place. -/
def patch (bs : List Nat) (at' : Nat) (s : List Nat) : List Nat := bs.take at' ++ s ++ bs.drop (at' + s.length)
theorem patch_len (bs : List Nat) (a : Nat) (s : List Nat) (h : a + s.length ≤ bs.length) : (patch bs a s).length = bs.length := by
  simp [patch]; omega
theorem patch_map (bs : List Nat) (a : Nat) (s : List Nat) : (bs.map bv).take a ++ s.map bv ++ (bs.map bv).drop (a + (s.map bv).length) = (patch bs a s).map bv := by
  simp [patch]
set_option maxHeartbeats 400000 in
theorem Write_yes (bA : Nat) (fr : List Ex) (tk : AM) (bs : List Nat) (o m off : Nat) (v : Value) (ss : List Nat) (hg : AL.get tk o = some (m : Int)) (hm : 0 < m) (hom : o + m ≤ bs.length) (hn : bs.length ≤ 1048576) (hok : off + ss.length ≤ m) {w W : World} {h : Hl} {X : As}
    (s : St w h W (Ar bA fr tk bs * X)) (hR : Rv W 1 v ss.length (ss.map bv)) :
    Calls Tryz.prog 80 #[.pointer (some ⟨bA, 0, none⟩), .agg #[.int .i64 o, .int .i64 m], .int .i64 off, v] W fun e w' => e = .returned (.int .i64 0) ∧ St w h w' (Ar bA fr tk (patch bs (o + off) ss) * X) := by
  obtain ⟨g, cp, ba, hcp, hcm, s⟩ := Ar.open' s (by omega)
  obtain ⟨adv, cpv, rfl⟩ := hR.form
  have B0 := (Below.refl W.heap.size W).al (.cells #[.int .i64 o, .int .i64 m] 96)
  have s0 := s.below B0
  have hR0 := hR.below B0
  have hx := heap_alloc_new W (.cells #[.int .i64 o, .int .i64 m] 96)
  have hsl := slice_yes bA ba g cp fr tk bs.length o m hg hm hom hn s0 hcp
  obtain ⟨k, hk⟩ : ∃ k, ss.length = k := ⟨_, rfl⟩
  rw [hk] at hok hR hR0
  rw [hk]
  have hwi := fun a c w => within_any a m c off k (by omega) (by omega) w
  rw [show withinB off k m = true from decide_eq_true ⟨by omega, by omega, by omega⟩] at hwi
  have hu := Tryz.underlying49
  have hfit : o + off + (ss.map bv).length ≤ bs.length := by rw [List.length_map, hk]; omega
  have hmin : (ss.map bv).length = Nat.min k (m - off) := by rw [List.length_map, hk]; exact (Nat.min_eq_left (by omega)).symm
  have hcpy := fun (w1 : World) (B1 : Below _ _ w1) (dp : Option Addr) (dCap : Nat) (hdp : 0 < (ss.map bv).length → dp = some ⟨g, o + off, none⟩) => ((s0.below B1).b3).copy (P := Tryz.prog) (T := 49) (sT := 49) (ty := 3) hu (by kernel_rfl) (o + off) dp adv (m - off) dCap k cpv (ss.map bv) hmin
    (fun hp => ⟨hdp hp, by
      rcases (hR0.below B1).2 with ⟨hh, h0⟩ | ⟨g2, o2, c2, hh, _, _, _, hc⟩
      · rw [List.length_map, hk] at hp; omega
      · cases hh; exact ⟨_, rfl, fun j u hj => by rw [Addr.add_lit]; exact hc j u hj⟩⟩) hfit (bv_one _)
  have hpm : off ≤ m := by omega
  have hoc : off ≤ cp - o := by omega
  have hmc : m ≤ cp - o := by omega
  have hlen : (patch bs (o + off) ss).length = bs.length := patch_len _ _ _ (by omega)
  have hfin := patch_map bs (o + off) ss
  have HLEN := Lib.hid hlen; have HFIN := Lib.hid hfin; have HK := Lib.hid hk
  have HCPY := Lib.hid hcpy
  have HB0 := Lib.hid B0
  have HOFF := Lib.hid (show 0 < (ss.map bv).length → ¬ (cp - o = off) from fun hp => by rw [List.length_map, hk] at hp; omega)
  clear hg hm hom hn hok hcp hcm s B0 hlen hfin hfit hmin hk hcpy
  go_enter Tryz.func80, Tryz.ntmps80
  go_upto_region 1 with fail
  generalize W.alloc _ = W0 at *
  generalize W.heap.size = q at hx ⊢
  have c0 := blk_cell hx 0
  have c1 := blk_cell hx 1
  go_wp2_with fail
  refine hsl.mono ?_
  clear hsl
  rintro e w1 ⟨rfl, B1⟩
  clear c0 c1 hx
  go_upto_region 6 with (go_at_call 140; refine (hwi _ _ _).mono ?_; clear hwi; rintro e w2 ⟨rfl, rfl⟩)
  have HB01 := Lib.hid (HB0.out.trans' B1)
  generalize hcq : cp - o = cq at *
  by_cases hcap : cq = off
  · have hk0 : k = 0 := by
      rcases Nat.eq_zero_or_pos k with h | h
      · exact h
      · exact absurd hcap (HOFF.out (by rw [List.length_map, HK.out]; exact h))
    have hss : ss = [] := List.eq_nil_of_length_eq_zero (by rw [HK.out, hk0])
    subst hk0
    have hpt : patch bs (o + off) ss = bs := by rw [hss]; simp [patch]
    have hrun := run_copy_none (P := Tryz.prog) w2 49 49 3 5 (some ⟨g, o, none⟩) adv (m - off) 0 0 cpv hu (by kernel_rfl) (Nat.zero_min _)
    have HS := Lib.hid (s0.below B1)
    have HCQ := Lib.hid hcq
    have HPT := Lib.hid hpt
    clear hcq hpt hss
    go_wp2_with fail
    go_ret
    refine ⟨rfl, ?_⟩
    rw [HPT.out]
    exact Ar.mk HS.out
  · obtain ⟨w3, hrun, s3⟩ := HCPY.out w2 B1 (some ⟨g, o + off, none⟩) (cq - off) (fun _ => rfl)
    rw [HFIN.out] at s3
    have HS := Lib.hid s3
    have HCQ := Lib.hid hcq
    clear hcq s3
    go_wp2_with fail
    go_ret
    refine ⟨rfl, ?_⟩
    apply Ar.mk (ba := ba)
    rw [HLEN.out]
    exact HS.out.b3.b3
end Go.Proofs.YthnfiejdkhejlaaGreat
/- Package arena: Alloc; allocator.New, arena.New. -/
namespace Go.Proofs.YthnfiejdkhejlaaGreat
open Go.RowKit Go.Sl Go.Shelf
set_option maxHeartbeats 400000 in
theorem arAlloc_no (bA : Nat) (fr : List Ex) (tk : AM) (bs : List Nat) (n : Int) (hm : fr.length ≤ 1000000) (he : (findE fr n).2 ≠ 0) {w W : World} {h : Hl} {X : As} (s : St w h W (Ar bA fr tk bs * X)) :
    Calls Tryz.prog 57 #[.pointer (some ⟨bA, 0, none⟩), .int .i64 n] W fun e w' => e = .returned (.tuple #[.agg #[.int .i64 0, .int .i64 0], .int .i64 (findE fr n).2]) ∧ St w h w' (Ar bA fr tk bs * X) := by
  have S0 := s.alloc (xobj ⟨0, 0⟩)
  have hal := fun {w W h X ba} (s : St w h W (Al ba fr tk * X)) => Alloc_no ba fr tk n hm he s
  generalize (findE fr n).2 = fe at *
  clear hm he
  go_enter Tryz.func57, Tryz.ntmps57
  go_upto_region 1 with fail
  change Code.wp _ _ _ _ (W.alloc (xobj ⟨0, 0⟩))
  generalize W.alloc _ = W0 at *
  generalize W.heap.size = b4 at S0 ⊢
  obtain ⟨ad, cp, ba, S1⟩ := Ar.open S0.b2
  have hbA := S1.blk
  have H2 := hal S1.b2
  go_wp2_with fail
  refine (parts_any bA ba _ W0 hbA).mono ?_
  rintro e w1 ⟨rfl, rfl⟩
  go_wp2_with fail
  refine H2.mono ?_
  clear H2
  rintro e w2 ⟨rfl, B2⟩
  have S2 := S0.below B2
  have hb := S2.blk
  have e0 := blk_cell hb 0
  have e1 := blk_cell hb 1
  have f0 := blk_free hb 0
  have f1 := blk_free hb 1
  have S3 := (S2.set 0 (.int .i64 0)).set 1 (.int .i64 0)
  clear S0 S1 S2
  go_wp2_with fail
  have hb2 := S3.blk
  have p0 := blk_cell hb2 0
  have p1 := blk_cell hb2 1
  unfold xobj at p0 p1
  refine bodyPost_ret (v := .tuple #[.agg #[.int .i64 0, .int .i64 0], .int .i64 fe]) (by simp [results, Tryz.results57, go_sem, p0, p1]) rfl ⟨rfl, ?_⟩
  exact S3.drop
set_option maxHeartbeats 400000 in
theorem arAlloc_yes (bA : Nat) (fr : List Ex) (tk : AM) (bs : List Nat) (n : Int) (hm : fr.length ≤ 1000000) (hv : ValidP fr) (he : (findE fr n).2 = 0) {w W : World} {h : Hl} {X : As} (s : St w h W (Ar bA fr tk bs * X)) :
    Calls Tryz.prog 57 #[.pointer (some ⟨bA, 0, none⟩), .int .i64 n] W fun e w' => ∃ i, (i < fr.length ∧ fr.getD i Ex.z = best fr (rnd n).1 ∧ (rnd n).1 ≤ (best fr (rnd n).1).len ∧ (rnd n).2 = 0) ∧
      e = .returned (.tuple #[.agg #[.int .i64 (best fr (rnd n).1).off, .int .i64 (rnd n).1], .int .i64 0]) ∧ St w h w' (Ar bA (cutL fr i (rnd n).1) (AL.set tk (best fr (rnd n).1).off (rnd n).1) bs * X) := by
  have S0 := s.alloc (xobj ⟨0, 0⟩)
  have hal := fun {w W h X ba} (s : St w h W (Al ba fr tk * X)) => Alloc_yes ba fr tk n hm hv he s
  generalize best fr (rnd n).1 = be at *
  generalize (rnd n).2 = r2 at *
  generalize (rnd n).1 = sz at *
  obtain ⟨bo, bl⟩ := be
  simp only at *
  clear hm he hv
  go_enter Tryz.func57, Tryz.ntmps57
  go_upto_region 1 with fail
  change Code.wp _ _ _ _ (W.alloc (xobj ⟨0, 0⟩))
  generalize W.alloc _ = W0 at *
  generalize W.heap.size = b4 at S0 ⊢
  obtain ⟨ad, cp, ba, S1⟩ := Ar.open S0.b2
  have hbA := S1.blk
  have H2 := hal S1.b2
  go_wp2_with fail
  refine (parts_any bA ba _ W0 hbA).mono ?_
  rintro e w1 ⟨rfl, rfl⟩
  go_wp2_with fail
  refine H2.mono ?_
  clear H2
  rintro e w2 ⟨i, hi, rfl, S2⟩
  have S3 := S2.b4
  have hb := S3.blk
  have e0 := blk_cell hb 0
  have e1 := blk_cell hb 1
  have f0 := blk_free hb 0
  have f1 := blk_free hb 1
  have S4 := (S3.set 0 (.int .i64 bo)).set 1 (.int .i64 sz)
  have HI := Lib.hid hi
  clear S0 S1 S2 S3 hi
  go_wp2_with fail
  generalize World.setCell _ _ _ = W12 at *
  have hb2 := S4.blk
  have p0 := blk_cell hb2 0
  have p1 := blk_cell hb2 1
  refine bodyPost_ret (v := .tuple #[.agg #[.int .i64 bo, .int .i64 sz], .int .i64 0]) (by simp [results, Tryz.results57, go_sem, p0, p1]) rfl ⟨i, HI.out, rfl, ?_⟩
  exact Ar.mk S4.drop.b2
end Go.Proofs.YthnfiejdkhejlaaGreat
/- allocator.New, arena.New, typereg.New, borrow.New, audit.New. -/
namespace Go.Proofs.YthnfiejdkhejlaaGreat
open Go.RowKit Go.Sl Go.Shelf
theorem S1' (W : World) : St W Hl.emp W 1 := St.start (Has.emp W) rfl
set_option maxHeartbeats 400000 in
theorem alNew (size : Int) (h0 : 0 ≤ size) (h1 : size ≤ 1048576) (W : World) :
    Calls Tryz.prog 168 #[.int .i64 size] W fun e w' => ∃ ba, e = .returned (.tuple #[.pointer (some ⟨ba, 0, none⟩), .int .i64 0]) ∧ Fresh W w' (Al ba (compL size) []) := by
  have hco := fun w => Complement_nil size h0 h1 w
  have hmm := @run_makeMap Tryz.prog
  generalize compL size = cl at *
  clear h0 h1
  go_enter Tryz.func168, Tryz.ntmps168
  go_wp2_with fail
  refine (hco W).mono ?_
  rintro e w1 ⟨ad, cp, rfl, F1⟩
  have S1 := F1.sst
  have S2 : St W Hl.emp (w1.alloc (.map #[] 0)) (mapAs (Value.int .i64) (Value.int .i64) w1.heap.size ([] : AM) * rowAs 96 2 (.slice ad cl.length cp) cl.length (cl.flatMap Ex.enc)) := S1.mapNew
  go_wp2
  have S3 := S2.alloc (.cells #[.slice ad cl.length cp, .map (some w1.heap.size)] 261)
  go_ret2
  have S4 := (Al.mk (ba := (w1.alloc (.map #[] 0)).heap.size) (v := .slice ad cl.length cp) (b := w1.heap.size) (fr := cl) (tk := []) (X := 1) (S3.eq (by rw [As.mul_one]; exact congrArg _ (As.comm _ _)))).m1
  rw [World.size_alloc] at S4
  exact ⟨_, rfl, S4⟩
theorem boxNew1 (W : World) : Calls Tryz.prog 103 #[] W fun e w' => ∃ b, e = .returned (.pointer (some ⟨b, 0, none⟩)) ∧ Fresh W w' (pts b (.cells #[.slice none 0 0] 194 (0,0))) := by
  go_enter Tryz.func103, Tryz.ntmps103
  go_wp2
  go_ret
  exact ⟨_, rfl, ((S1' W).alloc _).m1⟩
theorem boxNew2 (W : World) : Calls Tryz.prog 104 #[] W fun e w' => ∃ b, e = .returned (.pointer (some ⟨b, 0, none⟩)) ∧ Fresh W w' (pts b (.cells #[.map none, .map none] 237 (0,0))) := by
  go_enter Tryz.func104, Tryz.ntmps104
  go_wp2
  go_ret
  exact ⟨_, rfl, ((S1' W).alloc _).m1⟩
theorem auNew (m : Int) (h0 : 0 ≤ m) (h1 : m ≤ 65536) (W : World) : Calls Tryz.prog 108 #[.int .i64 m] W fun e w' => ∃ b, e = .returned (.tuple #[.pointer (some ⟨b, 0, none⟩), .int .i64 0]) ∧ Fresh W w' (pts b (.cells #[.int .i64 m, .slice none 0 0, .slice none 0 0, .int .u64 0, .map none, .map none] 230 (0,0))) := by
  have d0 : decide (m < 0) = false := decide_eq_false (by omega)
  have d1 : decide (65536 < m) = false := decide_eq_false (by omega)
  go_enter Tryz.func108, Tryz.ntmps108
  go_wp2
  go_ret2
  exact ⟨_, rfl, ((S1' W).alloc _).m1⟩
theorem info_u8 : (Tryz.prog.info? 5).map (fun i => (i.zero, i.size, i.bytes)) = some (some (.int .u8 0), 1, 1) := by kernel_rfl
theorem made_u8 (n : Nat) : (madeCells #[.int .u8 0] n).toList = (List.replicate n 0).map bv := by
  refine List.ext_getElem? fun k => ?_
  simp only [madeCells, Array.getElem?_toList, List.getElem?_map, List.getElem?_replicate]
  by_cases h : k < n <;> simp [h, bv, Nat.mod_one]
set_option maxHeartbeats 400000 in
theorem arNew (n : Nat) (h1 : n ≤ 1048576) (W : World) :
    Calls Tryz.prog 106 #[.int .i64 n] W fun e w' => ∃ bA, e = .returned (.tuple #[.pointer (some ⟨bA, 0, none⟩), .int .i64 0]) ∧ Fresh W w' (Ar bA (compL n) [] (List.replicate n 0)) := by
  have hco := fun w => alNew n (by omega) (by omega) w
  obtain ⟨i0, hi, hz0, hz1, hz2⟩ := info_parts info_u8
  have hmk := fun w => run_makeSlice (P := Tryz.prog) (w := w) 49 5 i0 _ Tryz.underlying49 hi hz0 .i64 .i64 n n (by omega) (by omega) (by rw [hz1]; simp; omega) (by rw [hz2]; simp; omega) (by omega)
  simp only [hz1, Int.toNat_natCast] at hmk
  generalize compL n = cl at *
  have HN := Lib.hid h1
  clear h1
  go_enter Tryz.func106, Tryz.ntmps106
  go_wp2_with fail
  refine (hco W).mono ?_
  rintro e w1 ⟨ba, rfl, F1⟩
  go_wp2
  have S2 := F1.sst.one.alloc (.cells (madeCells #[.int .u8 0] n) 5)
  have S3 : St W Hl.emp (w1.alloc (.cells (madeCells #[.int .u8 0] n) 5)) (rowAs 5 1 (.slice (some ⟨w1.heap.size, 0, none⟩) n n) n ((List.replicate n 0).map bv) * (Al ba cl [] * 1)) := S2.to fun _ a => rowAs_mk (by simp) (Nat.le_refl n) (by have := HN.out; unfold maxLen; omega) (by rw [size_madeCells, Nat.mul_one]) (by rw [made_u8, List.take_of_length_le (by simp)]) a
  have S4 := S3.alloc (.cells #[.pointer (some ⟨ba, 0, none⟩), .slice (some ⟨w1.heap.size, 0, none⟩) n n] 245)
  have S5 := Ar.mk (bs := List.replicate n 0) (by rw [List.length_replicate]; exact S4.b3.b2)
  rw [World.size_alloc] at S5
  go_ret2
  exact ⟨_, rfl, Fresh.of_st S5.m1⟩
end Go.Proofs.YthnfiejdkhejlaaGreat
/- Package audit: Records, Room, grow, Digest. -/
namespace Go.Sl
open Go.RowKit
theorem St.lookP {κ α : Type} [DecidableEq κ] {P : Program} {K E T : TypeId} {ek : κ → Value} {ev : α → Value} {r : Option Nat} {m : List (κ × α)} {w W : World} {h : Hl} {X : As}
    (kl : KL P K ek) (hu : P.underlying T = some (.map K E)) {z : α} (hz : ∀ w, (zeroValue E).run P w = .ok (ev z) w) (s : St w h W (mapP ek ev r m * X)) (k : κ) :
    ∀ V, Below W.heap.size W V → (Instr.lookup T (.map r) (ek k) false).run P V = .ok (ev ((AL.get m k).getD z)) V := fun V B => by
  cases r with
  | none =>
    obtain ⟨_, _, x, y, _, rfl, ⟨rfl, _⟩, _⟩ := s
    exact run_lookup_nil kl hu (hz V) k false
  | some b => simpa using St.look kl hu hz s k false V B
end Go.Sl
namespace Go.Proofs.YthnfiejdkhejlaaGreat
open Go.RowKit Go.Sl Go.Shelf
structure Lm where (cap : Int) (evs : List Evt) (bys : List Nat) (last : Nat) (recs : AM) (mis : AM)
abbrev mI (r : Option Nat) (m : AM) : As := mapP (Value.int .i64) (Value.int .i64) r m
def Lg (b : Nat) (l : Lm) : As := fun h => ∃ (v1 v2 : Value) (r1 r2 : Option Nat), (pts b (.cells #[.int .i64 l.cap, v1, v2, .int .u64 l.last, .map r1, .map r2] 230 (0,0)) * (rowAs 118 5 v1 l.evs.length (l.evs.flatMap Evt.enc) * (rowAs 5 1 v2 l.bys.length (l.bys.map bv) * (mI r1 l.recs * mI r2 l.mis)))) h
theorem Lg.open {w W : World} {h : Hl} {b : Nat} {l : Lm} {X : As} (s : St w h W (Lg b l * X)) : ∃ a1 c1 a2 c2 r1 r2, St w h W (pts b (.cells #[.int .i64 l.cap, .slice a1 l.evs.length c1, .slice a2 l.bys.length c2, .int .u64 l.last, .map r1, .map r2] 230 (0,0)) *
    (rowAs 118 5 (.slice a1 l.evs.length c1) l.evs.length (l.evs.flatMap Evt.enc) * (rowAs 5 1 (.slice a2 l.bys.length c2) l.bys.length (l.bys.map bv) * (mI r1 l.recs * (mI r2 l.mis * X))))) := by
  obtain ⟨v1, s⟩ := s.ex
  obtain ⟨v2, s⟩ := s.ex
  obtain ⟨r1, s⟩ := s.ex
  obtain ⟨r2, s⟩ := s.ex
  rw [As.assoc, As.assoc, As.assoc, As.assoc] at s
  obtain ⟨a1, c1, rfl⟩ := s.b2.form
  obtain ⟨a2, c2, rfl⟩ := s.b3.form
  exact ⟨a1, c1, a2, c2, r1, r2, s⟩
theorem Lg.mk {w W : World} {h : Hl} {b : Nat} {l : Lm} {X : As} {v1 v2 : Value} {r1 r2 : Option Nat} (s : St w h W (pts b (.cells #[.int .i64 l.cap, v1, v2, .int .u64 l.last, .map r1, .map r2] 230 (0,0)) *
    (rowAs 118 5 v1 l.evs.length (l.evs.flatMap Evt.enc) * (rowAs 5 1 v2 l.bys.length (l.bys.map bv) * (mI r1 l.recs * (mI r2 l.mis * X)))))) : St w h W (Lg b l * X) := by
  have s : St w h W ((pts b (.cells #[.int .i64 l.cap, v1, v2, .int .u64 l.last, .map r1, .map r2] 230 (0,0)) *
    (rowAs 118 5 v1 l.evs.length (l.evs.flatMap Evt.enc) * (rowAs 5 1 v2 l.bys.length (l.bys.map bv) * (mI r1 l.recs * mI r2 l.mis)))) * X) := by rw [As.assoc, As.assoc, As.assoc, As.assoc]; exact s
  exact s.mL fun _ a => ⟨v1, v2, r1, r2, a⟩
theorem Records_any (b : Nat) (c v1 v2 d r2 : Value) (r1 : Option Nat) (k x : Int) (w : World) (hb : w.heap[b]? = some (.cells #[c, v1, v2, d, .map r1, r2] 230 (0,0)))
    (hlk : (Instr.lookup 228 (.map r1) (.int .i64 k) false).run Tryz.prog w = .ok (.int .i64 x) w) :
    Calls Tryz.prog 93 #[.pointer (some ⟨b, 0, none⟩), .int .i64 k] w fun e w' => e = .returned (.int .i64 x) ∧ w' = w := by
  have c4 := blk_cell hb 4
  go_enter Tryz.func93, Tryz.ntmps93
  go_wp2_with (first | (at_lookup; refine wpList_lookup _ _ _ rfl rfl hlk ?_))
  go_ret
  exact ⟨rfl, rfl⟩
theorem Room_any (b : Nat) (v1 v2 d r2 : Value) (r1 : Option Nat) (k x c : Int) (w : World) (hb : w.heap[b]? = some (.cells #[.int .i64 c, v1, v2, d, .map r1, r2] 230 (0,0)))
    (hlk : ∀ V, Below w.heap.size w V → (Instr.lookup 228 (.map r1) (.int .i64 k) false).run Tryz.prog V = .ok (.int .i64 x) V) :
    Calls Tryz.prog 122 #[.pointer (some ⟨b, 0, none⟩), .int .i64 k] w fun e w' => e = .returned (.bool (decide (x < c))) ∧ Below w.heap.size w w' := by
  have hr := fun V (B : Below w.heap.size w V) => Records_any b (.int .i64 c) v1 v2 d r2 r1 k x V (blkB B hb) (hlk V B)
  have g0 := bcells hb 0
  clear hlk
  go_enter Tryz.func122, Tryz.ntmps122
  go_upto_region 1 with fail
  refine wp_region_sb [(0, 0), (0, 1), (0, 2), (0, 3), (0, 4), (0, 6), (0, 7), (0, 8), (1, 9), (3, 5), (0, 10), (0, 11), (0, 12)]  (by kernel_rfl) (by kernel_rfl) (fun V BV => ?_)
  repeat (first | (refine sch_q0 (by rfl) ?_; go_big_quiet_step (fail); refine wpQuiet_nil ?_) | (refine sch_q1 (by rfl) ?_; go_big_quiet_step (fail); refine wpQuiet_nil ?_))
  refine sch_e3 (by rfl) ?_
  go_wp2_with (go_at_call 93; refine (hr V BV).mono ?_; rintro e w1 ⟨rfl, rfl⟩)
  refine onlyN_mk ⟨BV, ?_⟩
  repeat (first | (refine sch_q0 (by rfl) ?_; go_big_quiet_step (fail); refine wpQuiet_nil ?_) | (refine sch_q1 (by rfl) ?_; go_big_quiet_step (fail); refine wpQuiet_nil ?_))
  refine sch_nil ?_
  go_wp2
  go_ret
  exact ⟨rfl, BV⟩
end Go.Proofs.YthnfiejdkhejlaaGreat
