/- Package typereg. -/
import Derived.Test.YthnfiejdkhejlaaGreatJ08
set_option linter.all false
set_option maxRecDepth 100000
namespace Go.Proofs.YthnfiejdkhejlaaGreat
open Go.RowKit Go.Sl
structure Ty where
  len : Int
  fs : List Fd
deriving DecidableEq
abbrev Tp := Value × Ty
def tenc (p : Tp) : List Value := [.int .i64 p.2.len, p.1]
def tyRows : List Tp → As
  | [] => 1
  | p :: r => rowAs 102 2 p.1 p.2.fs.length (p.2.fs.flatMap fenc) * tyRows r
theorem tyRows_snoc (ps : List Tp) (p : Tp) : tyRows (ps ++ [p]) = rowAs 102 2 p.1 p.2.fs.length (p.2.fs.flatMap fenc) * tyRows ps := by
  induction ps with
  | nil => rfl
  | cons q r ih =>
    show rowAs _ _ _ _ _ * tyRows (r ++ [p]) = rowAs _ _ _ _ _ * (rowAs _ _ _ _ _ * tyRows r)
    rw [ih]; ac_rfl
def Reg (bp : Nat) (ts : List Ty) : As := fun h => ∃ (v : Value) (ps : List Tp), ps.map (·.2) = ts ∧ (pts bp (.cells #[v] 194 (0,0)) * (rowAs 27 2 v ps.length (ps.flatMap tenc) * tyRows ps)) h
theorem Reg.open {w W : World} {h : Hl} {bp : Nat} {ts : List Ty} {X : As} (s : St w h W (Reg bp ts * X)) : ∃ (v : Value) (ps : List Tp), ps.map (·.2) = ts ∧
    St w h W (pts bp (.cells #[v] 194 (0,0)) * (rowAs 27 2 v ps.length (ps.flatMap tenc) * (tyRows ps * X))) := by
  obtain ⟨v, s⟩ := s.ex
  obtain ⟨ps, s⟩ := s.ex
  obtain ⟨hp, s⟩ := s.an
  rw [As.assoc, As.assoc] at s
  exact ⟨v, ps, hp, s⟩
theorem Reg.mk {w W : World} {h : Hl} {bp : Nat} {ts : List Ty} {X : As} {v : Value} {ps : List Tp} (hp : ps.map (·.2) = ts)
    (s : St w h W (pts bp (.cells #[v] 194 (0,0)) * (rowAs 27 2 v ps.length (ps.flatMap tenc) * (tyRows ps * X)))) : St w h W (Reg bp ts * X) := by
  rw [← As.assoc, ← As.assoc] at s
  have s : St w h W ((pts bp (.cells #[v] 194 (0,0)) * (rowAs 27 2 v ps.length (ps.flatMap tenc) * tyRows ps)) * X) := by rw [As.assoc (pts _ _)] at s; exact s
  exact s.mL fun _ a => ⟨v, ps, hp, a⟩
theorem tyRows_rv {w W : World} {h : Hl} : ∀ (ps : List Tp) (X : As), St w h W (tyRows ps * X) → ∀ k (hk : k < ps.length), Rv W 2 ps[k].1 ps[k].2.fs.length (ps[k].2.fs.flatMap fenc)
  | [], _, _, k, hk => absurd hk (by simp)
  | p :: r, X, s, 0, _ => by
    have s : St w h W (rowAs 102 2 p.1 p.2.fs.length (p.2.fs.flatMap fenc) * (tyRows r * X)) := s.as
    exact s.rv
  | p :: r, X, s, k + 1, hk => by
    have s : St w h W (rowAs 102 2 p.1 p.2.fs.length (p.2.fs.flatMap fenc) * (tyRows r * X)) := s.as
    exact tyRows_rv r _ s.b2 k (by simpa using hk)
theorem list_any (bp : Nat) (v : Value) (w : World) (hb : w.heap[bp]? = some (.cells #[v] 194 (0,0))) : Calls Tryz.prog 124 #[.pointer (some ⟨bp, 0, none⟩)] w fun e w' => e = .returned v ∧ w' = w := by
  have c0 := blk_cell hb 0
  go_enter Tryz.func124, Tryz.ntmps124
  go_wp2
  go_ret
  exact ⟨rfl, rfl⟩
theorem copied_fr (v : Value) (t : Ty) (w : World) (hR : Rv w 2 v t.fs.length (t.fs.flatMap fenc)) (hm : t.fs.length ≤ 1000000) :
    Calls Tryz.prog 121 #[.agg #[.int .i64 t.len, v]] w fun e w' => ∃ ad cp, e = .returned (.agg #[.int .i64 t.len, .slice ad t.fs.length cp]) ∧ Fresh w w' (rowAs 102 2 (.slice ad t.fs.length cp) t.fs.length (t.fs.flatMap fenc)) := by
  obtain ⟨len, l⟩ := t
  simp only at *
  obtain ⟨ad0, cp0, rfl⟩ := hR.form
  have S0 := ((St.start (w := w) (Has.emp w) (show (1 : As) Hl.emp from rfl)).alloc (.cells #[.int .i64 len, .slice ad0 l.length cp0] 27)).alloc (.cells #[.int .i64 0, .slice none 0 0] 27)
  rw [World.size_alloc] at S0
  have RW := hR.below (S0.below_all rfl)
  go_enter Tryz.func121, Tryz.ntmps121
  go_upto_region 1 with fail
  generalize (w.alloc _).alloc _ = W at *
  generalize hb : w.heap.size = b at *
  have HB := Lib.hid hb; clear hb
  have hbt := S0.b2.blk
  have hb2 := S0.blk
  have c0 := blk_cell hbt 0
  have c1 := blk_cell hbt 1
  have hcl := CloneFld_fr _ _ _ W RW (by omega) (by intro u hu; obtain ⟨e, _, he⟩ := List.mem_flatMap.1 hu; simp [fenc] at he; rcases he with rfl | rfl <;> rfl)
  go_wp2_with fail
  refine hcl.mono ?_
  rintro e w1 ⟨ad, cp, rfl, F1⟩
  have S1 := (F1.st S0).b3
  have hx := S1.blk
  have f1 := blk_free hx 1
  have k1 := blk_cell hx 1
  have S2 := S1.set 1 (.slice ad l.length cp)
  go_upto_region 2 with fail
  generalize w1.setCell _ _ = W2 at *
  have hx2 := S2.blk
  have S3 := S2.b3
  have hx3 := S3.blk
  have j0 := blk_cell hx2 0
  have j1 := blk_cell hx2 1
  have m0 := blk_cell hx3 0
  have m1 := blk_cell hx3 1
  have n0 := blk_free hx3 0
  have n1 := blk_free hx3 1
  have S4 := (S3.set 0 (.int .i64 len)).set 1 (.slice ad l.length cp)
  clear hbt hb2 c0 c1 hx f1 k1
  go_wp2_with fail
  generalize World.setCell _ _ _ = W3 at *
  have hx4 := S4.blk
  have p0 := blk_cell hx4 0
  have p1 := blk_cell hx4 1
  refine bodyPost_ret (v := .agg #[.int .i64 len, .slice ad l.length cp]) (by simp [results, Tryz.results121, go_sem, p0, p1]) rfl ⟨ad, cp, rfl, ?_⟩
  exact Fresh.of_st S4.drop.drop.m1
def tyz : Ty := ⟨0, []⟩
theorem tenc_rv {W : World} {ad : Option Addr} {m cp : Nat} {ps : List Tp} (r : Rv W 2 (.slice ad m cp) ps.length (ps.flatMap tenc)) {k : Nat} (hk : k < ps.length) :
    ∃ g o, ad = some ⟨g, o, none⟩ ∧ W.cell? ⟨g, o + k * 2, none⟩ = some (.int .i64 ps[k].2.len) ∧ W.cell? ⟨g, o + k * 2 + 1, none⟩ = some ps[k].1 := r.two (fun _ => rfl) hk rfl
/-- What Lookup hands back. -/
theorem Lookup_no (bp : Nat) (ts : List Ty) (tag : Int) (ht : tag < 1 ∨ (ts.length : Int) < tag) (hm : ts.length ≤ 1000) {w W : World} {h : Hl} {X : As} (s : St w h W (Reg bp ts * X)) :
    Calls Tryz.prog 52 #[.pointer (some ⟨bp, 0, none⟩), .int .i64 tag] W fun e w' => e = .returned (.tuple #[.agg #[.int .i64 0, .slice none 0 0], .int .i64 20]) ∧ Below W.heap.size W w' := by
  obtain ⟨v, ps, hp, s⟩ := Reg.open s
  have hlp : ps.length = ts.length := by rw [← hp, List.length_map]
  have hb := s.blk
  obtain ⟨ad, cp, rfl⟩ := s.b2.form
  have S0 := (St.start (w := W) (Has.emp W) (show (1 : As) Hl.emp from rfl)).alloc (.cells #[.int .i64 0, .slice none 0 0] 27)
  have hb1 := blkB (S0.below_all rfl) hb
  have hli := list_any bp _ _ hb1
  have hbz := S0.blk
  have e0 := blk_cell hbz 0
  have e1 := blk_cell hbz 1
  have f0 := blk_free hbz 0
  have f1 := blk_free hbz 1
  have hm' : ps.length ≤ 1000 := by omega
  rw [← hlp] at ht
  clear hp hlp s hb hb1
  go_enter Tryz.func52, Tryz.ntmps52
  by_cases h1 : tag < 1
  · have d1 : decide (tag < 1) = true := decide_eq_true h1
    clear ht h1
    go_wp2_with (go_at_call 124; refine hli.mono ?_; clear hli; rintro e w' ⟨rfl, rfl⟩)
    refine bodyPost_ret (v := .tuple #[.agg #[.int .i64 0, .slice none 0 0], .int .i64 20]) (by simp [results, Tryz.results52, go_sem, e0, e1]) rfl ⟨rfl, S0.below_all rfl⟩
  · have d1 : decide (tag < 1) = false := decide_eq_false h1
    have d2 : decide ((ps.length : Int) < tag) = true := decide_eq_true (by omega)
    clear ht h1
    go_wp2_with (go_at_call 124; refine hli.mono ?_; clear hli; rintro e w' ⟨rfl, rfl⟩)
    refine bodyPost_ret (v := .tuple #[.agg #[.int .i64 0, .slice none 0 0], .int .i64 20]) (by simp [results, Tryz.results52, go_sem, e0, e1]) rfl ⟨rfl, S0.below_all rfl⟩
theorem Lookup_yes (bp : Nat) (ts : List Ty) (k : Nat) (hk : k < ts.length) (hm : ts.length ≤ 1000) (hf : ∀ t ∈ ts, t.fs.length ≤ 1000) {w W : World} {h : Hl} {X : As} (s : St w h W (Reg bp ts * X)) :
    Calls Tryz.prog 52 #[.pointer (some ⟨bp, 0, none⟩), .int .i64 ((k : Int) + 1)] W fun e w' => ∃ ad cp, e = .returned (.tuple #[.agg #[.int .i64 ts[k].len, .slice ad ts[k].fs.length cp], .int .i64 0]) ∧
      Fresh W w' (rowAs 102 2 (.slice ad ts[k].fs.length cp) ts[k].fs.length (ts[k].fs.flatMap fenc)) := by
  obtain ⟨v, ps, hp, s⟩ := Reg.open s
  have hlp : ps.length = ts.length := by rw [← hp, List.length_map]
  have hkp : k < ps.length := by omega
  have hpk : ps[k].2 = ts[k] := by simp [← hp]
  have hfk := hf _ (List.getElem_mem hk)
  generalize ts[k] = t at *
  have hb := s.blk
  obtain ⟨ad, cp, rfl⟩ := s.b2.form
  have rv0 := s.b2.rv
  have rvk := tyRows_rv ps _ s.b3 k hkp
  have S0 := (St.start (w := W) (Has.emp W) (show (1 : As) Hl.emp from rfl)).alloc (.cells #[.int .i64 0, .slice none 0 0] 27)
  have B0 := S0.below_all rfl
  have hb1 := blkB B0 hb
  have hli := list_any bp _ _ hb1
  obtain ⟨g, o, rfl, c0, c1⟩ := tenc_rv (rv0.below B0) hkp
  have rvk := rvk.below B0
  rw [hpk] at rvk c0
  generalize ps[k].1 = vk at *
  have hco := copied_fr vk t _ rvk (by omega)
  have hm' : ps.length ≤ 1000 := by omega
  have hw1 := w64 ((k : Int) + 1 - 1) (by omega)
  have hkk : ((k : Int) + 1 - 1).toNat = k := by omega
  have hkz : ((k : Int) + 1 - 1) = k := by omega
  obtain ⟨len, l⟩ := t
  simp only at *
  rw [hkz] at hw1
  have HP := Lib.hid hp; have HLP := Lib.hid hlp; have HPK := Lib.hid hpk
  clear hp hlp hpk s rv0 rvk hb hb1 hf
  have d1 : decide ((k : Int) + 1 < 1) = false := decide_eq_false (by omega)
  have d2 : decide ((ps.length : Int) < (k : Int) + 1) = false := decide_eq_false (by omega)
  go_enter Tryz.func52, Tryz.ntmps52
  go_wp2_with (first | (go_at_call 124; refine hli.mono ?_; clear hli; rintro e w' ⟨rfl, rfl⟩) | (go_at_call 121; refine hco.mono ?_; clear hco; rintro e w1 ⟨ad1, cp1, rfl, F1⟩; have S1 := (F1.st S0).b2; have hz := S1.blk; have f0 := blk_free hz 0; have f1 := blk_free hz 1; have e0 := blk_cell hz 0; have e1 := blk_cell hz 1; have S2 := (S1.set 0 (.int .i64 len)).set 1 (.slice ad1 l.length cp1)))
  generalize World.setCell _ _ _ = W3 at *
  have hz := S2.blk
  have p0 := blk_cell hz 0
  have p1 := blk_cell hz 1
  refine bodyPost_ret (v := .tuple #[.agg #[.int .i64 len, .slice ad1 l.length cp1], .int .i64 0]) (by simp [results, Tryz.results52, go_sem, p0, p1]) rfl ⟨ad1, cp1, rfl, Fresh.of_st S2.drop.m1⟩
end Go.Proofs.YthnfiejdkhejlaaGreat
/- typereg.Register. -/
namespace Go.Proofs.YthnfiejdkhejlaaGreat
open Go.RowKit Go.Sl Go.Shelf
theorem Reg1_any (v1 v2 : Value) (x t : Ty) (b3 : Nat) (w : World) (h1 : Rv w 2 v1 x.fs.length (x.fs.flatMap fenc)) (h2 : Rv w 2 v2 t.fs.length (t.fs.flatMap fenc)) (hl : x.fs.length ≤ 1000000) (hm : t.fs.length ≤ 1000000)
    (hb : w.heap[b3]? = some (.cells #[.int .i64 t.len, v2] 27 (0,0))) :
    Calls Tryz.prog 118 #[.agg #[.int .i64 x.len, v1], .pointer (some ⟨b3, 0, none⟩)] w fun e w' => e = .returned (.bool (decide (x = t))) ∧ Below w.heap.size w w' := by
  have B0 := (Below.refl w.heap.size w).al (.cells #[.int .i64 x.len, v1] 27)
  have heq := Equal_any v1 v2 x.fs t.fs _ (h1.below B0) (h2.below B0) hl hm
  obtain ⟨len1, l1⟩ := x
  obtain ⟨len2, l2⟩ := t
  obtain ⟨ad1, cp1, rfl⟩ := h1.form
  obtain ⟨ad2, cp2, rfl⟩ := h2.form
  simp only at *
  have hlts := lts (blk_lt hb)
  have c0 := blk_cell hb 0
  have c1 := blk_cell hb 1
  by_cases hlen : len1 = len2
  · have hd : decide ((⟨len1, l1⟩ : Ty) = ⟨len2, l2⟩) = decide (l1 = l2) := by simp [hlen]
    rw [hd]
    have q : (len1 == len2) = true := by simpa using hlen
    generalize decide (l1 = l2) = r at *
    clear hlen hd
    go_enter Tryz.func118, Tryz.ntmps118
    go_wp2_with (go_at_call 119; refine heq.mono ?_; clear heq; rintro e w1 ⟨rfl, B1⟩)
    go_ret
    exact ⟨rfl, B0.trans' B1⟩
  · have hd : decide ((⟨len1, l1⟩ : Ty) = ⟨len2, l2⟩) = false := by simp [hlen]
    rw [hd]
    have q : (len1 == len2) = false := by simpa using hlen
    clear hlen hd
    go_enter Tryz.func118, Tryz.ntmps118
    go_wp2
    go_ret
    exact ⟨rfl, B0⟩
theorem IndexFunc_any (v : Value) (ps : List Tp) (f : Nat) (lb : Array Value) (p : Nat → Bool) (w : World) (eg : ∀ args w, (callFunc f args).run Tryz.prog w = .ok (.enter f args) w) (hm : ps.length ≤ 1000)
    (hR : Rv w 2 v ps.length (ps.flatMap tenc))
    (hf : ∀ W, Below w.heap.size w W → ∀ (i : Nat) (hi : i < ps.length), Calls Tryz.prog f (#[.agg #[.int .i64 ps[i].2.len, ps[i].1]] ++ lb) W fun e W' => e = .returned (.bool (p i)) ∧ Below W.heap.size W W') :
    Calls Tryz.prog 120 #[v, .func (.func f) #[] lb] w fun e w' => ∃ r : Int, e = .returned (.int .i64 r) ∧ Below w.heap.size w w' ∧ ((r = -1 ∧ ∀ i, i < ps.length → p i = false) ∨ (∃ i : Nat, r = i ∧ i < ps.length ∧ p i = true ∧ ∀ j, j < i → p j = false)) := by
  obtain ⟨ad, cp, rfl⟩ := hR.form
  go_enter Tryz.func120, Tryz.ntmps120
  go_wp2
  go_loopw [8] (fun i wr => ∃ k : Nat, k ≤ ps.length ∧ i = .int .i64 k ∧ (∀ j, j < k → p j = false) ∧ Below w.heap.size w wr) (fun i wr => ps.length - (intOf i).toNat)
  case atStart => exact ⟨0, by omega, rfl, fun _ h => by omega, Below.refl _ _⟩
  case round =>
    obtain ⟨k, hk, rfl, hpre, B1⟩ := hrel
    by_cases hkl : k = ps.length
    · subst hkl
      have HP := Lib.hid hpre; clear hpre
      go_wp2
      go_ret
      exact ⟨-1, rfl, B1, .inl ⟨rfl, HP.out⟩⟩
    · have hk3 : k < ps.length := by omega
      obtain ⟨g, o, rfl, c0, c1⟩ := tenc_rv (hR.below B1) hk3
      have hcall := hf wr B1 k hk3
      have hw1 := w64 ((k : Int) + 1) (by omega)
      generalize ps[k].2.len = len at *
      generalize ps[k].1 = vk at *
      have HPRE := Lib.hid hpre; clear hpre hf
      cases hpk : p k
      all_goals
        rw [hpk] at hcall
        have HPK := Lib.hid hpk; clear hpk
        go_wp2
        refine hcall.mono ?_
        clear hcall
        rintro e W ⟨rfl, BW⟩
        go_wp2
      · go_roundw
        case rel =>
          refine ⟨k + 1, by omega, rfl, fun j hj => ?_, B1.trans' BW⟩
          by_cases e : j = k
          · subst e; exact HPK.out
          · exact HPRE.out j (by omega)
        case measure => simp [intOf]; omega
      · go_ret
        exact ⟨k, rfl, B1.trans' BW, .inr ⟨k, rfl, hk3, HPK.out, HPRE.out⟩⟩
/-- What Register hands back, and the list behind it. -/
def regT (ts : List Ty) (t : Ty) : (Int × Int) × List Ty :=
  if chkT t.len t.fs ≠ 0 then ((0, chkT t.len t.fs), ts) else
  match ts.findIdx? (fun x => decide (x = t)) with
  | some i => (((i : Int) + 1, 0), ts)
  | none => if 255 ≤ ts.length then ((0, 4), ts) else (((ts.length : Int) + 1, 0), ts ++ [t])
theorem regT_le (ts : List Ty) (t : Ty) (h : ts.length ≤ 255) : (regT ts t).2.length ≤ 255 := by
  unfold regT; split
  · exact h
  · split
    · exact h
    · split
      · exact h
      · simp; omega
end Go.Proofs.YthnfiejdkhejlaaGreat
/- typereg.Register, the call itself; New. -/
namespace Go.Proofs.YthnfiejdkhejlaaGreat
open Go.RowKit Go.Sl Go.Shelf
theorem info_ty : (Tryz.prog.info? 27).map (fun i => (i.zero, i.size, i.bytes)) = some (some (.agg #[.int .i64 0, .slice none 0 0]), 2, 32) := by kernel_rfl
theorem tpsl {ps : List Tp} {ts : List Ty} (h : ps.map (·.2) = ts) : ps.length = ts.length := by rw [← h, List.length_map]
theorem find_of {ts : List Ty} {t : Ty} {i : Nat} (hi : i < ts.length) (h1 : ts[i] = t) (h2 : ∀ j (hj : j < ts.length), j < i → ts[j] ≠ t) : ts.findIdx? (fun x => decide (x = t)) = some i :=
  List.findIdx?_eq_some_iff_getElem.2 ⟨hi, by simpa using h1, fun j hj => by have := h2 j (by omega) hj; simpa using this⟩
theorem find_no {ts : List Ty} {t : Ty} (h : ∀ j (hj : j < ts.length), ts[j] ≠ t) : ts.findIdx? (fun x => decide (x = t)) = none := by
  rw [List.findIdx?_eq_none_iff]
  intro x hx
  obtain ⟨j, hj, rfl⟩ := List.mem_iff_getElem.1 hx
  simpa using h j hj
set_option maxHeartbeats 800000 in
theorem Register_st (bp : Nat) (ts : List Ty) (t : Ty) (v : Value) {w W : World} {h : Hl} {X : As} (s : St w h W (Reg bp ts * X)) (hR : Rv W 2 v t.fs.length (t.fs.flatMap fenc)) (hm : ts.length ≤ 255) (hf : ∀ t ∈ ts, t.fs.length ≤ 1000) (hl : t.fs.length ≤ 1000000) :
    Calls Tryz.prog 49 #[.pointer (some ⟨bp, 0, none⟩), .agg #[.int .i64 t.len, v]] W fun e w' => e = .returned (.tuple #[.int .i64 (regT ts t).1.1, .int .i64 (regT ts t).1.2]) ∧ St w h w' (Reg bp (regT ts t).2 * X) := by
  obtain ⟨vr, ps, hp, s0⟩ := Reg.open s
  have hlp := tpsl hp
  have s1 := s0.alloc (.cells #[.int .i64 t.len, v] 27)
  obtain ⟨adr, cpr, rfl⟩ := s0.b2.form
  obtain ⟨adv, cpv, rfl⟩ := hR.form
  have B0 := (Below.refl W.heap.size W).al (.cells #[.int .i64 t.len, .slice adv t.fs.length cpv] 27)
  have hR1 := hR.below B0
  have hbx := heap_alloc_new W (.cells #[.int .i64 t.len, .slice adv t.fs.length cpv] 27)
  have hch := Check_any' (.slice adv t.fs.length cpv) t.len t.fs _ hR1 hl
  have hreg : regT ts t = if chkT t.len t.fs ≠ 0 then ((0, chkT t.len t.fs), ts) else match ts.findIdx? (fun x => decide (x = t)) with | some i => (((i : Int) + 1, 0), ts) | none => if 255 ≤ ts.length then ((0, 4), ts) else (((ts.length : Int) + 1, 0), ts ++ [t]) := rfl
  have hpk : ∀ i (hi : i < ps.length) (h2 : i < ts.length), ps[i].2 = ts[i] := fun i hi h2 => by simp [← hp]
  have hpf : ∀ i (hi : i < ps.length), ps[i].2.fs.length ≤ 1000 := fun i hi => hf _ (by rw [hpk i hi (by omega)]; exact List.getElem_mem _)
  generalize hck : chkT t.len t.fs = ck at *
  have HCK := Lib.hid hck; clear hck
  have HPK := Lib.hid hpk; have HPF := Lib.hid hpf; have HP := Lib.hid hp; have HLP := Lib.hid hlp; have HF := Lib.hid hf
  have hmp : ps.length ≤ 255 := by omega
  clear hpk hpf hp hf s hm hlp
  have hbp := s1.b2.blk
  obtain ⟨tl, tf⟩ := t
  simp only at *
  go_enter Tryz.func49, Tryz.ntmps49
  go_upto_region 1 with fail
  generalize W.alloc _ = W0 at *
  generalize W.heap.size = b3 at *
  have c0 := blk_cell hbx 0
  have c1 := blk_cell hbx 1
  have d0 := blk_cell hbp 0
  by_cases hc : ck = 0
  · subst hc
    have hidx := fun w (B : Below W0.heap.size W0 w) => IndexFunc_any (.slice adr ps.length cpr) ps 118 #[.pointer (some ⟨b3, 0, none⟩)] (fun i => decide ((ps.getD i (.slice none 0 0, tyz)).2 = ⟨tl, tf⟩)) w (enters_of Tryz.func118 (by kernel_rfl) rfl) (by omega) ((s1.b3.rv).below B)
      (fun W' BW i hi => by
        rw [show ps.getD i (.slice none 0 0, tyz) = ps[i] from by simp [List.getD, List.getElem?_eq_getElem hi]]
        exact Reg1_any ps[i].1 _ ps[i].2 ⟨tl, tf⟩ b3 W' ((tyRows_rv ps _ s1.b4 i hi).below (B.trans' BW)) (hR1.below (B.trans' BW)) (by have := HPF.out i hi; omega) hl ((((B.trans' BW)).block _ (blk_lt hbx)).trans hbx))
    rw [if_neg (by simp)] at hreg
    have HREG := Lib.hid hreg; clear hreg
    have hgd : ∀ i (hi : i < ps.length), ps.getD i (.slice none 0 0, tyz) = ps[i] := fun i hi => by simp [List.getD, List.getElem?_eq_getElem hi]
    have HGD := Lib.hid hgd; clear hgd
    go_wp2_with fail
    refine hch.mono ?_
    clear hch
    rintro e w1 ⟨rfl, B1⟩
    have hidx := hidx w1 B1
    have d01 := blk_cell (blkB B1 hbp) 0
    have hltb := lts (blk_lt hbp)
    clear d0
    go_wp2_with fail
    refine hidx.mono ?_
    clear hidx
    rintro e w2 ⟨r, rfl, B2, hr⟩
    have s2 := (s1.below B1).below B2
    have HS2 := Lib.hid s2
    have hbp2 := s2.b2.blk
    have hbt2 := s2.blk
    have d02 := blk_cell hbp2 0
    clear d01 c0 c1 hbx hbp
    rcases hr with ⟨rfl, hno⟩ | ⟨i, rfl, hi, hyes, hno⟩
    · have hnone : ts.findIdx? (fun x => decide (x = ⟨tl, tf⟩)) = none := find_no fun j hj e => by
        have hj2 : j < ps.length := by rw [HLP.out]; exact hj
        have := of_decide_eq_false (hno j hj2)
        rw [HGD.out j hj2, HPK.out j hj2 hj] at this
        exact this e
      have hreg := HREG.out
      rw [hnone] at hreg
      simp only at hreg
      clear hno hnone
      by_cases hfull : 255 ≤ ps.length
      · have hfl : 255 ≤ ts.length := by rw [← HLP.out]; exact hfull
        rw [if_pos hfl] at hreg
        have HREG := Lib.hid hreg
        clear hfl hreg
        go_wp2_with fail
        go_ret2
        exact ⟨by rw [HREG.out]; rfl, by rw [HREG.out]; exact Reg.mk HP.out HS2.out.drop⟩
      · have hfl : ¬ 255 ≤ ts.length := by rw [← HLP.out]; exact hfull
        rw [if_neg hfl, ← HLP.out] at hreg
        have HREG := Lib.hid hreg
        clear hfl hreg
        go_upto_region 12 with fail
        obtain ⟨i0, hinf, hz0, hz1, hz2⟩ := info_parts info_ty
        refine wp_region_sb [(0, 0), (0, 1), (0, 2), (0, 3), (1, 4), (1, 5), (3, 6), (3, 7), (2, 8), (0, 9), (0, 10), (2, 11)] (by kernel_rfl) (by kernel_rfl) (fun V BV => ?_)
        have g0 := bcells hbp2 0
        have g1 := bcells hbt2 0
        have g2 := bcells hbt2 1
        have hco := copied_fr (.slice adv tf.length cpv) ⟨tl, tf⟩ V (((hR1.below B1).below B2).below BV) hl
        simp only at hco
        clear d02
        repeat (first | (refine sch_q0 (by rfl) ?_; go_big_quiet_step (fail); refine wpQuiet_nil ?_) | (refine sch_q1 (by rfl) ?_; go_big_quiet_step (fail); refine wpQuiet_nil ?_))
        refine sch_e3 (by rfl) ?_
        go_wp2_with fail
        refine hco.mono ?_
        clear hco
        rintro e w3 ⟨ad3, cp3, rfl, F3⟩
        have B3 := BV.trans' F3.below
        have s3 := F3.st (HS2.out.below BV)
        go_wp2_with fail
        refine onlyN_mk ⟨B3, ?_⟩
        repeat (first | (refine sch_q0 (by rfl) ?_; go_big_quiet_step (fail); refine wpQuiet_nil ?_) | (refine sch_q1 (by rfl) ?_; go_big_quiet_step (fail); refine wpQuiet_nil ?_))
        refine sch_e3 (by rfl) ?_
        have s4 := s3.skip (.cells #[.int .i64 tl, .slice ad3 tf.length cp3] 27)
        have hnb := heap_alloc_new w3 (.cells #[.int .i64 tl, .slice ad3 tf.length cp3] 27)
        obtain ⟨ad5, cp5, w5, hrun, s5⟩ := (s4.b4).append (P := Tryz.prog) (ty := 90) Tryz.underlying90 hinf hz0 hz1 rfl ⟨w3.heap.size, 0, none⟩ 1 1 [.int .i64 tl, .slice ad3 tf.length cp3] rfl
          (fun j u hj => by rw [Addr.add_lit, Nat.zero_add, blk_cell hnb, ← hj]; simp) (by simp [Value.oneCell']) (by unfold maxLen; omega) (by rw [hz2]; omega)
        go_wp2_with fail
        refine onlyN_mk ⟨B3.al _, ?_⟩
        repeat (first | (refine sch_q0 (by rfl) ?_; go_big_quiet_step (fail); refine wpQuiet_nil ?_) | (refine sch_q1 (by rfl) ?_; go_big_quiet_step (fail); refine wpQuiet_nil ?_))
        refine sch_e2 (by rfl) ?_
        go_wp2_with (at_builtin; refine wpList_append _ _ _ rfl rfl hrun ?_)
        refine onlyN_mk ?_
        go_frame
        repeat (first | (refine sch_q0 (by rfl) ?_; go_big_quiet_step (fail); refine wpQuiet_nil ?_) | (refine sch_q1 (by rfl) ?_; go_big_quiet_step (fail); refine wpQuiet_nil ?_))
        refine sch_e2 (by rfl) ?_
        have s6 := s5.b4
        have hb6 := s6.blk
        have c6 := blk_cell hb6 0
        have f6 := blk_free hb6 0
        have s7 := s6.set 0 (.slice ad5 (ps.length + 1) cp5)
        go_wp2_with fail
        refine onlyN_mk (sch_nil ?_)
        generalize World.setCell _ _ _ = w7 at *
        have hb7 := s7.blk
        have c7 := blk_cell hb7 0
        have hw7 := w64 ((ps.length : Int) + 1) (by omega)
        clear c6 f6
        go_wp2_with fail
        go_ret2
        refine ⟨by rw [HREG.out]; rfl, ?_⟩
        rw [HREG.out]
        refine Reg.mk (v := .slice ad5 (ps.length + 1) cp5) (ps := ps ++ [(.slice ad3 tf.length cp3, ⟨tl, tf⟩)]) (by rw [List.map_append, HP.out]; rfl) ?_
        refine (s7.b4.drop).eq ?_
        rw [tyRows_snoc, List.length_append, List.flatMap_append, As.assoc]
        rfl
    · have hfound : ts.findIdx? (fun x => decide (x = ⟨tl, tf⟩)) = some i := by
        have hit : i < ts.length := by rw [← HLP.out]; exact hi
        refine find_of hit ?_ fun j hj hlt => ?_
        · have := of_decide_eq_true hyes
          rwa [HGD.out i hi, HPK.out i hi hit] at this
        · have := of_decide_eq_false (hno j hlt)
          have hj2 : j < ps.length := by rw [HLP.out]; exact hj
          rw [HGD.out j hj2, HPK.out j hj2 hj] at this
          exact this
      have hreg := HREG.out
      rw [hfound] at hreg
      simp only at hreg
      have HREG := Lib.hid hreg
      clear hno hyes hfound hreg
      have hw1 := w64 ((i : Int) + 1) (by omega)
      go_wp2_with fail
      go_ret2
      exact ⟨by rw [HREG.out]; rfl, by rw [HREG.out]; exact Reg.mk HP.out HS2.out.drop⟩
  · have hc2 : (ck != 0) = true := by rw [bne_iff_ne]; exact hc
    rw [if_pos hc] at hreg
    have HREG := Lib.hid hreg
    clear hc hreg
    go_wp2_with (go_at_call 48; refine hch.mono ?_; clear hch; rintro e w1 ⟨rfl, B1⟩)
    go_ret2
    exact ⟨by rw [HREG.out]; rfl, by rw [HREG.out]; exact Reg.mk HP.out (s1.below B1).drop⟩
end Go.Proofs.YthnfiejdkhejlaaGreat
/- Package heap: the state, works, Alive. -/
namespace Go.Proofs.YthnfiejdkhejlaaGreat
open Go.RowKit Go.Sl Go.Shelf
structure Bw where (o h m c : Int)
def Bw.v (b : Bw) : Value := .agg #[.int .i64 b.o, .int .i64 b.h, .int .i64 b.m, .int .i64 b.c]
def kB (k : Int × Int) : Value := .agg #[.int .i64 k.1, .int .i64 k.2]
structure Ldg where (bor : List ((Int × Int) × Bw)) (obj : AM)
def Ld (bl : Nat) (l : Ldg) : As := fun h => ∃ (r1 r2 : Option Nat), (pts bl (.cells #[.map r1, .map r2] 237 (0,0)) * (mapP kB Bw.v r1 l.bor * mI r2 l.obj)) h
theorem Ld.open {w W : World} {h : Hl} {bl : Nat} {l : Ldg} {X : As} (s : St w h W (Ld bl l * X)) : ∃ r1 r2, St w h W (pts bl (.cells #[.map r1, .map r2] 237 (0,0)) * (mapP kB Bw.v r1 l.bor * (mI r2 l.obj * X))) := by
  obtain ⟨r1, s⟩ := s.ex
  obtain ⟨r2, s⟩ := s.ex
  rw [As.assoc, As.assoc] at s
  exact ⟨r1, r2, s⟩
theorem Ld.mk {w W : World} {h : Hl} {bl : Nat} {l : Ldg} {X : As} {r1 r2 : Option Nat} (s : St w h W (pts bl (.cells #[.map r1, .map r2] 237 (0,0)) * (mapP kB Bw.v r1 l.bor * (mI r2 l.obj * X)))) : St w h W (Ld bl l * X) := by
  have s : St w h W ((pts bl (.cells #[.map r1, .map r2] 237 (0,0)) * (mapP kB Bw.v r1 l.bor * mI r2 l.obj)) * X) := by rw [As.assoc, As.assoc]; exact s
  exact s.mL fun _ a => ⟨r1, r2, a⟩
/-- The state of a heap. -/
structure Hs where (fr : List Ex) (tk : AM) (bs : List Nat) (ts : List Ty) (tb : Tb) (ld : Ldg) (mt : Met) (lg : Lm) (st : List (Int × Bool))
abbrev stAs (b : Nat) (m : List (Int × Bool)) : As := mapAs (Value.int .i64) Value.bool b m
def hpObj (bA bp bt bl bm bg b7 : Nat) : Obj := .cells #[.pointer (some ⟨bA, 0, none⟩), .pointer (some ⟨bp, 0, none⟩), .pointer (some ⟨bt, 0, none⟩), .pointer (some ⟨bl, 0, none⟩), .pointer (some ⟨bm, 0, none⟩), .pointer (some ⟨bg, 0, none⟩), .map (some b7)] 40 (0,0)
def Hp (bh : Nat) (s : Hs) : As := fun h => ∃ (bA bp bt bl bm bg b7 : Nat), (pts bh (hpObj bA bp bt bl bm bg b7) * (Ar bA s.fr s.tk s.bs * (Reg bp s.ts * (s.tb.as bt * (Ld bl s.ld * (s.mt.as bm * (Lg bg s.lg * stAs b7 s.st))))))) h
theorem Hp.open {w W : World} {h : Hl} {bh : Nat} {s : Hs} {X : As} (S : St w h W (Hp bh s * X)) : ∃ bA bp bt bl bm bg b7, St w h W (pts bh (hpObj bA bp bt bl bm bg b7) * (Ar bA s.fr s.tk s.bs * (Reg bp s.ts * (s.tb.as bt * (Ld bl s.ld * (s.mt.as bm * (Lg bg s.lg * (stAs b7 s.st * X)))))))) := by
  obtain ⟨bA, S⟩ := S.ex
  obtain ⟨bp, S⟩ := S.ex
  obtain ⟨bt, S⟩ := S.ex
  obtain ⟨bl, S⟩ := S.ex
  obtain ⟨bm, S⟩ := S.ex
  obtain ⟨bg, S⟩ := S.ex
  obtain ⟨b7, S⟩ := S.ex
  rw [As.assoc, As.assoc, As.assoc, As.assoc, As.assoc, As.assoc, As.assoc] at S
  exact ⟨bA, bp, bt, bl, bm, bg, b7, S⟩
theorem Hp.mk {w W : World} {h : Hl} {bh : Nat} {s : Hs} {X : As} {bA bp bt bl bm bg b7 : Nat} (S : St w h W (pts bh (hpObj bA bp bt bl bm bg b7) * (Ar bA s.fr s.tk s.bs * (Reg bp s.ts * (s.tb.as bt * (Ld bl s.ld * (s.mt.as bm * (Lg bg s.lg * (stAs b7 s.st * X))))))))) : St w h W (Hp bh s * X) := by
  have S : St w h W ((pts bh (hpObj bA bp bt bl bm bg b7) * (Ar bA s.fr s.tk s.bs * (Reg bp s.ts * (s.tb.as bt * (Ld bl s.ld * (s.mt.as bm * (Lg bg s.lg * stAs b7 s.st))))))) * X) := by
    rw [As.assoc, As.assoc, As.assoc, As.assoc, As.assoc, As.assoc, As.assoc]; exact S
  exact S.mL fun _ a => ⟨bA, bp, bt, bl, bm, bg, b7, a⟩
theorem works_any (bh bA bp bt bl bm bg b7 : Nat) (w : World) (hb : w.heap[bh]? = some (hpObj bA bp bt bl bm bg b7)) : Calls Tryz.prog 47 #[.pointer (some ⟨bh, 0, none⟩)] w fun e w' => e = .returned (.bool true) ∧ w' = w := by
  have c6 := blk_cell hb 6
  have hne := run_neq_map_nil (P := Tryz.prog) w 38 _ _ (some b7) Tryz.underlying38
  go_enter Tryz.func47, Tryz.ntmps47
  go_wp2
  go_ret
  exact ⟨rfl, rfl⟩
theorem works_nil (w : World) : Calls Tryz.prog 47 #[.pointer none] w fun e w' => e = .returned (.bool false) ∧ w' = w := by
  go_enter Tryz.func47, Tryz.ntmps47
  go_wp2
  go_ret
  exact ⟨rfl, rfl⟩
theorem zeroB (w : World) : (zeroValue 4).run Tryz.prog w = .ok (.bool false) w := by kernel_rfl
theorem Alive_nil (p : Int) (w : World) : Calls Tryz.prog 16 #[.pointer none, .int .i64 p] w fun e w' => e = .returned (.bool false) ∧ w' = w := by
  go_enter Tryz.func16, Tryz.ntmps16
  go_wp2_with (go_at_call 47; refine (works_nil w).mono ?_; rintro e w1 ⟨rfl, rfl⟩)
  go_ret
  exact ⟨rfl, rfl⟩
def Hs.alive (s : Hs) (p : Int) : Bool := (AL.get s.st p).getD false
theorem Alive_st (bh : Nat) (s : Hs) (p : Int) {w W : World} {h : Hl} {X : As} (S : St w h W (Hp bh s * X)) : Calls Tryz.prog 16 #[.pointer (some ⟨bh, 0, none⟩), .int .i64 p] W fun e w' => e = .returned (.bool (s.alive p)) ∧ w' = W := by
  obtain ⟨bA, bp, bt, bl, bm, bg, b7, S⟩ := Hp.open S
  have hb := S.blk
  have hwk := works_any bh bA bp bt bl bm bg b7 W hb
  have c6 := blk_cell hb 6
  have hlk := ((S.eq (show _ = stAs b7 s.st * (pts bh (hpObj bA bp bt bl bm bg b7) * (Ar bA s.fr s.tk s.bs * (Reg bp s.ts * (s.tb.as bt * (Ld bl s.ld * (s.mt.as bm * (Lg bg s.lg * X))))))) from by ac_rfl)).look (P := Tryz.prog) (T := 38) klI Tryz.underlying38 zeroB p false W (Below.refl _ _))
  rw [if_neg (by decide)] at hlk
  change _ = Result.ok (Value.bool (s.alive p)) W at hlk
  generalize s.alive p = al at *
  clear hb S
  go_enter Tryz.func16, Tryz.ntmps16
  go_wp2_with (first | (go_at_call 47; refine hwk.mono ?_; rintro e w1 ⟨rfl, rfl⟩) | (at_lookup; refine wpList_lookup _ _ _ rfl rfl hlk ?_))
  go_ret
  exact ⟨rfl, rfl⟩
end Go.Proofs.YthnfiejdkhejlaaGreat
/- A region that draws its order, where two acting operations are not ordered: walked in a tree of orders. -/
namespace Go.Sl
open Go.RowKit
inductive Sc where
  | leaf (s : List (Nat × Nat))
  | fork (s : List (Nat × Nat)) (i : Nat) (t : Sc) (j : Nat) (u : Sc)
def Sc.len : Sc → Nat
  | .leaf s => s.length
  | .fork s _ t _ _ => s.length + (t.len + 1)
/-- The walk in the tree. -/
def wpT (P : Program) (l : List Oper) (S : World → Prop) (K : Act → World → Prop) : Sc → Act → World → Prop
  | .leaf s => wpSch P l S K s
  | .fork s i t j u => wpSch P l S (fun a w => wpSch P l S (wpT P l S K t) [(3, i)] a w ∧ wpSch P l S (wpT P l S K u) [(3, j)] a w) s
def segB (md : Region.Mode) (ops : Array Oper) : List (Nat × Nat) → Array Bool → Bool
  | [], _ => true
  | (k, i) :: r, listed => (match ops[i]? with
    | none => false
    | some o =>
      (match k with
        | 0 => (Region.ready md ops listed).contains i && Region.free md ops listed i && plainO o
        | 1 => (Region.ready md ops listed).contains i && Region.free md ops listed i && plainO o
        | 2 => false
        | _ => Region.ready md ops listed == [i])) && segB md ops r (listed.setIfInBounds i true)
def segL : List (Nat × Nat) → Array Bool → Array Bool
  | [], listed => listed
  | (_, i) :: r, listed => segL r (listed.setIfInBounds i true)
def scB (md : Region.Mode) (ops : Array Oper) : Sc → Array Bool → Bool
  | .leaf s, listed => segB md ops s listed && (Region.ready md ops (segL s listed)).isEmpty
  | .fork s i t j u, listed => segB md ops s listed && (let L := segL s listed
    (Region.ready md ops L == [i, j]) && (ops[i]?).isSome && (ops[j]?).isSome && (t.len == u.len) && scB md ops t (L.setIfInBounds i true) && scB md ops u (L.setIfInBounds j true))
section
variable {P : Program} {l : List Oper} {K : Act → World → Prop} {md : Region.Mode} {S : World → Prop}
theorem wpN_of_seg (hs : Region.noSelect l.toArray = true) {Q : Act → World → Prop} {Kc : Act → World → Prop} {n : Nat} :
    ∀ (r : List (Nat × Nat)) (listed : Array Bool) (a : Act) (w : World), segB md l.toArray r listed = true → S w →
      (∀ a w, S w → Kc a w → wpN P md l.toArray (onlyN Q) S (fun _ => 3) n (segL r listed) a w) →
      wpSch P l S Kc r a w → wpN P md l.toArray (onlyN Q) S (fun _ => 3) (r.length + n) listed a w
  | [], listed, a, w, _, hS, hK, h => by
    rw [List.length_nil, Nat.zero_add]; exact hK a w hS h
  | (k, i) :: r, listed, a, w, hB, hS, hK, h => by
    rw [List.length_cons, Nat.add_right_comm]
    unfold segB at hB
    unfold wpSch at h
    cases ho : l[i]? with
    | none => rw [ho] at h; exact h.elim
    | some o =>
      have ho' : l.toArray[i]? = some o := by simpa using ho
      rw [ho'] at hB
      rw [ho] at h
      have hsel : ∀ (j : Nat) (o : Oper) cs b, l.toArray[j]? = some o → o.op ≠ .select cs b := fun j o cs b hj => Region.noSelect_spec hs j o cs b hj
      rcases (show k = 0 ∨ k = 1 ∨ k = 2 ∨ ∃ m, k = m + 3 by
        match k with
        | 0 => exact .inl rfl
        | 1 => exact .inr (.inl rfl)
        | 2 => exact .inr (.inr (.inl rfl))
        | m + 3 => exact .inr (.inr (.inr ⟨m, rfl⟩))) with rfl | rfl | rfl | ⟨m, rfl⟩
      · simp only [Bool.and_eq_true] at hB
        obtain ⟨⟨⟨hr, hf⟩, hp⟩, hB⟩ := hB
        obtain ⟨v, hy, hk⟩ := yields_of_quiet ho' hp h
        have hy2 : YieldsIf P l.toArray (fun _ => True) o v a := by
          rcases hy with ⟨h1, h2⟩ | h2
          · exact .inl ⟨h1, fun w _ => h2 w ⟨⟨w, trivial⟩, rfl⟩⟩
          · exact .inr h2
        exact wpN_first (Si := fun _ => True) (B := []) ho' hsel (fun _ _ _ h => h.elim) rfl (fun _ _ => trivial) (.inl fun _ => trivial) (r.length + n) listed a w (Region.free_spec ho' hf) (by simpa using hr) (by simp) hy2 trivial
          (wpN_of_seg hs r _ _ w hB hS hK hk)
      · simp only [Bool.and_eq_true] at hB
        obtain ⟨⟨⟨hr, hf⟩, hp⟩, hB⟩ := hB
        obtain ⟨v, hy, hk⟩ := yields_of_quiet ho' hp h
        have hy2 : YieldsIf P l.toArray S o v a := by
          rcases hy with ⟨h1, h2⟩ | h2
          · exact .inl ⟨h1, fun w hw => h2 w ⟨⟨w, hw⟩, rfl⟩⟩
          · exact .inr h2
        exact wpN_first (Si := S) (B := []) ho' hsel (fun _ _ _ h => h.elim) rfl (fun _ h => h) (.inr ⟨rfl, fun j hj hk2 => absurd hk2 (by decide)⟩) (r.length + n) listed a w (Region.free_spec ho' hf) (by simpa using hr) (by simp) hy2 hS
          (wpN_of_seg hs r _ _ w hB hS hK hk)
      · simp at hB
      · simp only [Bool.and_eq_true, beq_iff_eq] at hB
        obtain ⟨hr, hB⟩ := hB
        refine ⟨fun h0 => (by rw [h0] at hr; cases hr), fun j hj => ?_⟩
        rw [hr] at hj
        have : j = i := by simpa using hj
        subst this
        have hw := one_step (K2 := Q) ho' (show wpList P l.toArray (onlyN fun a' w' => S w' ∧ wpSch P l S Kc r a' w') [o] a w from h)
        exact wpOp_mono (fun a' w' h' => ⟨fun _ _ => h'.1, wpN_of_seg hs r _ a' w' hB h'.1 hK h'.2⟩) hw
theorem wpN_of_tree (hs : Region.noSelect l.toArray = true) : ∀ (t : Sc) (listed : Array Bool) (a : Act) (w : World), scB md l.toArray t listed = true → S w → wpT P l S K t a w → wpN P md l.toArray (onlyN K) S (fun _ => 3) t.len listed a w := by
  intro t
  induction t with
  | leaf s =>
    intro listed a w hB hS h
    simp only [scB, Bool.and_eq_true] at hB
    exact wpN_of_seg (n := 0) hs s listed a w hB.1 hS (fun a w _ hk => ⟨by simpa using hB.2, hk⟩) h
  | fork s i t j u iht ihu =>
    intro listed a w hB hS h
    simp only [scB, Bool.and_eq_true, beq_iff_eq] at hB
    obtain ⟨hB1, ⟨⟨⟨⟨hr, hi⟩, hj⟩, hl⟩, hB2⟩, hB3⟩ := hB
    refine wpN_of_seg (n := t.len + 1) hs s listed a w hB1 hS (fun a w hSw hk => ?_) h
    refine ⟨fun h0 => (by rw [h0] at hr; cases hr), fun k hk2 => ?_⟩
    rw [hr] at hk2
    have key : ∀ (m : Nat) (x : Sc), (l.toArray[m]?).isSome = true → x.len = t.len → (∀ (listed : Array Bool) (a : Act) (w : World), scB md l.toArray x listed = true → S w → wpT P l S K x a w → wpN P md l.toArray (onlyN K) S (fun _ => 3) x.len listed a w) → scB md l.toArray x ((segL s listed).setIfInBounds m true) = true → wpSch P l S (wpT P l S K x) [(3, m)] a w →
        wpOp P l.toArray (onlyN K) m (fun a' w' => ((3 : Nat) ≠ 2 → S w → S w') ∧ wpN P md l.toArray (onlyN K) S (fun _ => 3) t.len ((segL s listed).setIfInBounds m true) a' w') a w := fun m x hm hxl ihx hxB hx => by
      obtain ⟨o, ho⟩ := Option.isSome_iff_exists.1 hm
      have ho2 : l[m]? = some o := by simpa using ho
      unfold wpSch at hx
      rw [ho2] at hx
      have hw := one_step (K2 := K) ho (show wpList P l.toArray (onlyN fun a' w' => S w' ∧ wpSch P l S (wpT P l S K x) [] a' w') [o] a w from hx)
      refine wpOp_mono (fun a' w' h' => ⟨fun _ _ => h'.1, ?_⟩) hw
      have := ihx _ a' w' hxB h'.1 h'.2
      rwa [hxl] at this
    rcases (by simpa using hk2 : k = i ∨ k = j) with rfl | rfl
    · exact key k t hi rfl iht hB2 hk.1
    · exact key k u hj hl.symm ihu hB3 hk.2
def scAll (l : List Oper) (t : Sc) : Bool := Region.noSelect l.toArray && scB .any l.toArray t (Array.replicate l.toArray.size false) && (t.len == l.toArray.size)
theorem wp_region_tb {id : Nat} {Q : Exit → Act → World → Prop} {a : Act} {w : World} (t : Sc) (hm : P.follows .mixedOrders = true) (hB : scAll l t = true)
    (h : ∀ V, Below w.heap.size w V → wpT P l (fun V' => Below w.heap.size w V') (Q .normal) t a V) : (Code.region id l.toArray true).wp P Q a w := by
  simp only [scAll, Bool.and_eq_true, beq_iff_eq] at hB
  obtain ⟨⟨h1, h2⟩, h4⟩ := hB
  refine Code.wp_mono (Q := onlyN (Q .normal)) (fun e a w he => by cases e <;> first | exact he | exact he.elim) ?_
  refine wp_region_any hm (wpAny_of_wpN _ _ _ _ (kd := fun _ => 3) (S := fun V' => Below w.heap.size w V') ?_)
  have B0 : Below w.heap.size w { w with drawn := w.drawn + 1 } := ⟨rfl, rfl, rfl, Nat.le_refl _, fun _ _ => rfl⟩
  have := wpN_of_tree (md := .any) (P := P) (l := l) (K := Q .normal) (S := fun V' => Below w.heap.size w V') h1 t _ a _ h2 B0 (h _ B0)
  rwa [h4] at this
end
end Go.Sl
/- Package heap: New. -/
namespace Go.Sl
open Go.RowKit
section
variable {P : Program} {l : List Oper} {K : Act → World → Prop} {S : World → Prop} {a : Act} {w : World}
theorem tr_leaf {s : List (Nat × Nat)} (h : wpSch P l S K s a w) : wpT P l S K (.leaf s) a w := h
theorem tr_fork {s : List (Nat × Nat)} {i j : Nat} {t u : Sc} (h : wpSch P l S (fun a w => wpSch P l S (wpT P l S K t) [(3, i)] a w ∧ wpSch P l S (wpT P l S K u) [(3, j)] a w) s a w) : wpT P l S K (.fork s i t j u) a w := h
end
end Go.Sl
namespace Go.Proofs.YthnfiejdkhejlaaGreat
open Go.RowKit Go.Sl Go.Shelf
def Cfg.q (c : Cfg) : Qt := ⟨c.qb, c.qo, c.qr⟩
theorem quotaNew_fr (qb qo qr : Int) (W : World) : Calls Tryz.prog 105 #[.agg #[.int .i64 qb, .int .i64 qo, .int .i64 qr]] W fun e w' => ∃ bm, e = .returned (.pointer (some ⟨bm, 0, none⟩)) ∧ Fresh W w' (Met.as bm ⟨⟨qb, qo, qr⟩, []⟩) :=
  (Sp.st (quotaNew_sp ⟨qb, qo, qr⟩) (S1' W).one).mono fun _ _ ⟨_, he, S⟩ => by
    obtain ⟨k, t, a⟩ := S.m1
    obtain ⟨bm, rfl, hm⟩ := a
    exact ⟨bm, he, k, t, hm⟩
def hpObj0 (bp bl bm b7 : Nat) : Obj := .cells #[.pointer none, .pointer (some ⟨bp, 0, none⟩), .pointer none, .pointer (some ⟨bl, 0, none⟩), .pointer (some ⟨bm, 0, none⟩), .pointer none, .map (some b7)] 40 (0,0)
theorem stNew (W : World) : ∃ b7 w1, (∀ t, (Instr.makeMap t none).run Tryz.prog W = .ok (.map (some b7)) w1) ∧ (∀ {w h X}, St w h W X → St w h w1 (stAs b7 [] * X)) ∧ Below W.heap.size W w1 :=
  ⟨W.heap.size, W.alloc (.map #[] 0), fun t => run_makeMap t W, fun S => S.mapNew, (Below.refl _ W).al _⟩
/-- What region 4 leaves. -/
def hnR (w : World) (h : Hl) (X : As) (qb qo qr : Int) (s5 : Value) (wx : World) : Prop := ∃ bp bl bm b7 bh, s5 = .pointer (some ⟨bh, 0, none⟩) ∧ St w h wx (pts bh (hpObj0 bp bl bm b7) * (Reg bp [] * (Ld bl ⟨[], []⟩ * (Met.as bm ⟨⟨qb, qo, qr⟩, []⟩ * (stAs b7 [] * X)))))
theorem regNew_fr (W : World) : Calls Tryz.prog 103 #[] W fun e w' => ∃ bp, e = .returned (.pointer (some ⟨bp, 0, none⟩)) ∧ Fresh W w' (Reg bp []) :=
  (boxNew1 W).mono fun _ _ ⟨bp, he, F⟩ => ⟨bp, he, by
    have S2 : St W Hl.emp _ (pts bp (.cells #[.slice none 0 0] 194 (0,0)) * (rowAs 27 2 (.slice none 0 0) 0 [] * (tyRows [] * 1))) := ((F.sst.one.nil 27 2).b2).eq (by simp [tyRows, As.mul_one])
    exact (Reg.mk (ps := []) rfl S2).m1⟩
theorem ldNew_fr (W : World) : Calls Tryz.prog 104 #[] W fun e w' => ∃ bl, e = .returned (.pointer (some ⟨bl, 0, none⟩)) ∧ Fresh W w' (Ld bl ⟨[], []⟩) :=
  (boxNew2 W).mono fun _ _ ⟨bl, he, F⟩ => ⟨bl, he, by
    refine (Ld.mk (r1 := none) (r2 := none) (l := ⟨[], []⟩) (X := 1) ?_).m1
    refine F.sst.to fun k a => ?_
    have e1 : mapP kB Bw.v none ([] : List ((Int × Int) × Bw)) = 1 := by funext h; simp [mapP]
    have e2 : mI none ([] : AM) = 1 := by funext h; simp [mapP]
    rw [e1, e2, As.mul_one, As.mul_one, As.mul_one]
    exact a⟩
set_option maxHeartbeats 3200000 in
theorem hpNew_no (c : Cfg) (hc : c.chk ≠ 0) (W : World) : Calls Tryz.prog 36 #[.agg #[.int .i64 c.slots, .int .i64 c.ar, .int .u32 c.fg, .int .i64 c.log, .int .i64 c.qb, .int .i64 c.qo, .int .i64 c.qr, .int .i64 c.frames, .int .i64 c.stack]] W fun e w' => e = .returned (.tuple #[.pointer none, .int .i64 c.chk]) ∧ Below W.heap.size W w' := by
  have B0 := (Below.refl W.heap.size W).al c.obj
  have hx := heap_alloc_new W c.obj
  have hck := fun w => CheckConfig_any c w
  have q : (c.chk != 0) = true := by rw [bne_iff_ne]; exact hc
  generalize c.chk = ck at *
  clear hc
  have HB0 := Lib.hid B0
  clear B0
  obtain ⟨slots, ar, fg, log, qb, qo, qr, frames, stack⟩ := c
  simp only at *
  go_enter Tryz.func36, Tryz.ntmps36
  go_upto_region 1 with fail
  change Code.wp _ _ _ _ (W.alloc (Cfg.obj ⟨slots, ar, fg, log, qb, qo, qr, frames, stack⟩))
  generalize W.alloc _ = W1 at *
  generalize W.heap.size = bx at hx ⊢
  have c0 := blk_cell hx 0
  have c1 := blk_cell hx 1
  have c2 := blk_cell hx 2
  have c3 := blk_cell hx 3
  have c4 := blk_cell hx 4
  have c5 := blk_cell hx 5
  have c6 := blk_cell hx 6
  have c7 := blk_cell hx 7
  have c8 := blk_cell hx 8
  go_wp2_with fail
  refine (hck W1).mono ?_
  rintro e w2 ⟨rfl, B2⟩
  go_wp2
  go_ret2
  exact ⟨rfl, HB0.out.trans' B2⟩
theorem chk_bd (c : Cfg) (hc : c.chk = 0) : (0 ≤ c.slots ∧ c.slots ≤ 4096) ∧ (0 ≤ c.ar ∧ c.ar ≤ 1048576) ∧ c.fg ≠ 0 ∧ (0 ≤ c.log ∧ c.log ≤ 65536) := by
  unfold Cfg.chk chk9 at hc
  split at hc
  · rename_i hh
    simp only [Bool.and_eq_true, decide_eq_true_eq, Bool.not_eq_true', decide_eq_false_iff_not, beq_eq_false_iff_ne] at hh
    obtain ⟨⟨⟨⟨⟨⟨⟨⟨h1, h2⟩, h3⟩, h4⟩, _⟩, _⟩, _⟩, _⟩, _⟩ := hh
    exact ⟨h1, h2, h3, h4⟩
  · cases hc
def newHs (c : Cfg) : Hs := ⟨compL c.ar, [], List.replicate c.ar.toNat 0, [], newTb c.fg c.slots.toNat, ⟨[], []⟩, ⟨⟨c.qb, c.qo, c.qr⟩, []⟩, ⟨c.log, [], [], 0, [], []⟩, []⟩
theorem lgNew_fr (m : Int) (h0 : 0 ≤ m) (h1 : m ≤ 65536) (W : World) : Calls Tryz.prog 108 #[.int .i64 m] W fun e w' => ∃ b, e = .returned (.tuple #[.pointer (some ⟨b, 0, none⟩), .int .i64 0]) ∧ Fresh W w' (Lg b ⟨m, [], [], 0, [], []⟩) :=
  (auNew m h0 h1 W).mono fun _ _ ⟨b, he, F⟩ => ⟨b, he, by
    refine (Lg.mk (v1 := .slice none 0 0) (v2 := .slice none 0 0) (r1 := none) (r2 := none) (l := ⟨m, [], [], 0, [], []⟩) (X := 1) ?_).m1
    have e2 : mI none ([] : AM) = 1 := by funext h; simp [mapP]
    rw [e2, As.one_mul, As.one_mul]
    exact ((F.sst.one.nil 5 1).nil 118 5).b3⟩
theorem tbNew_fr (n : Nat) (f : Int) (hn : n ≤ 4096) (h1 : 1 ≤ f) (h2 : f ≤ 4294967295) (W : World) : Calls Tryz.prog 107 #[.int .i64 n, .int .i64 f] W fun e w' => ∃ bt, e = .returned (.tuple #[.pointer (some ⟨bt, 0, none⟩), .int .i64 0]) ∧ Fresh W w' ((newTb f n).as bt) :=
  (tbNew_any n f hn h1 h2 W Hl.emp 1 (Has.emp W) rfl).mono fun _ _ ⟨bt, h', he, t, a⟩ => ⟨bt, he, Fresh.of_st (show St W Hl.emp _ _ from ⟨h', t, a⟩).m1⟩
set_option maxHeartbeats 3200000 in
theorem hpNew_st (c : Cfg) (hc : c.chk = 0) (hfg : 0 ≤ c.fg ∧ c.fg ≤ 4294967295) {w W : World} {h : Hl} {X : As} (S : St w h W X) :
    Calls Tryz.prog 36 #[.agg #[.int .i64 c.slots, .int .i64 c.ar, .int .u32 c.fg, .int .i64 c.log, .int .i64 c.qb, .int .i64 c.qo, .int .i64 c.qr, .int .i64 c.frames, .int .i64 c.stack]] W fun e w' => ∃ bh, e = .returned (.tuple #[.pointer (some ⟨bh, 0, none⟩), .int .i64 0]) ∧ St w h w' (Hp bh (newHs c) * X) := by
  have S0 := S.alloc c.obj
  have hck := fun w => CheckConfig_any c w
  rw [hc] at hck
  obtain ⟨h1, h2, h3, h4⟩ := chk_bd c hc
  have HB := Lib.hid (And.intro h1 (And.intro h2 (And.intro h3 (And.intro h4 hfg))))
  clear h1 h2 h3 h4 hfg
  obtain ⟨slots, ar, fg, log, qb, qo, qr, frames, stack⟩ := c
  have hqn := fun w => quotaNew_fr qb qo qr w
  simp only at *
  clear hc
  go_enter Tryz.func36, Tryz.ntmps36
  go_upto_region 1 with fail
  change Code.wp _ _ _ _ (W.alloc (Cfg.obj ⟨slots, ar, fg, log, qb, qo, qr, frames, stack⟩))
  generalize W.alloc _ = W1 at *
  generalize W.heap.size = bx at S0 ⊢
  have hx := S0.blk
  have c0 := blk_cell hx 0
  have c1 := blk_cell hx 1
  have c2 := blk_cell hx 2
  have c3 := blk_cell hx 3
  have c4 := blk_cell hx 4
  have c5 := blk_cell hx 5
  have c6 := blk_cell hx 6
  have c7 := blk_cell hx 7
  have c8 := blk_cell hx 8
  go_upto_region 4 with (first | (go_at_call 37; refine (hck W1).mono ?_; clear hck; rintro e w2 ⟨rfl, B2⟩))
  replace S0 := S0.below B2
  clear c0 c1 c2 c3 c4 c5 c6 c7 c8 hx B2
  go_cut [5] (fun s5 wx => hnR w h (pts bx (Cfg.obj ⟨slots, ar, fg, log, qb, qo, qr, frames, stack⟩) * X) qb qo qr s5 wx)
  case first =>
    have g4 := bcells S0.blk 4
    have g5 := bcells S0.blk 5
    have g6 := bcells S0.blk 6
    refine wp_region_tb (.fork [(0, 2), (1, 3)] 0 (.fork [] 1 (.fork [] 4 (.leaf [(3, 5), (0, 6), (3, 7), (0, 8)]) 5 (.leaf [(3, 4), (0, 6), (3, 7), (0, 8)])) 5 (.leaf [(3, 1), (3, 4), (0, 6), (3, 7), (0, 8)])) 5 (.leaf [(3, 0), (3, 1), (3, 4), (0, 6), (3, 7), (0, 8)])) (by kernel_rfl) (by kernel_rfl) (fun W0 B0 => ?_)
    replace S0 := S0.below B0
    refine tr_fork ?_
    repeat (first | (refine sch_q0 (by rfl) ?_; go_big_quiet_step (fail); refine wpQuiet_nil ?_) | (refine sch_q1 (by rfl) ?_; go_big_quiet_step (fail); refine wpQuiet_nil ?_))
    refine sch_nil ⟨?_, ?_⟩
    · refine sch_e3 (by rfl) ?_
      go_wp2_with fail
      refine (regNew_fr _).mono ?_
      rintro e W0 ⟨bp, rfl, F1⟩
      have B1 := B0.trans' F1.below
      have S1 := F1.st S0
      go_wp2_with fail
      refine onlyN_mk ⟨B1, ?_⟩
      replace S0 := S1
      replace B0 := B1
      clear S1 B1 F1
      refine sch_nil ?_
      refine tr_fork ?_
      refine sch_nil ⟨?_, ?_⟩
      · refine sch_e3 (by rfl) ?_
        go_wp2_with fail
        refine (ldNew_fr _).mono ?_
        rintro e W0 ⟨bl, rfl, F1⟩
        have B1 := B0.trans' F1.below
        have S1 := F1.st S0
        go_wp2_with fail
        refine onlyN_mk ⟨B1, ?_⟩
        replace S0 := S1
        replace B0 := B1
        clear S1 B1 F1
        refine sch_nil ?_
        refine tr_fork ?_
        refine sch_nil ⟨?_, ?_⟩
        · refine sch_e3 (by rfl) ?_
          go_wp2_with fail
          refine (hqn _).mono ?_
          rintro e W0 ⟨bm, rfl, F1⟩
          have B1 := B0.trans' F1.below
          have S1 := F1.st S0
          go_wp2_with fail
          refine onlyN_mk ⟨B1, ?_⟩
          replace S0 := S1
          replace B0 := B1
          clear S1 B1 F1
          refine sch_nil ?_
          refine tr_leaf ?_
          refine sch_e3 (by rfl) ?_
          obtain ⟨b7, W0, hmm, hmS, hmB⟩ := stNew W0
          have B1 := B0.trans' hmB
          have S1 := hmS S0
          go_wp2_with fail
          refine onlyN_mk ⟨B1, ?_⟩
          replace S0 := S1
          replace B0 := B1
          clear S1 B1
          repeat (first | (refine sch_q0 (by rfl) ?_; go_big_quiet_step (fail); refine wpQuiet_nil ?_) | (refine sch_q1 (by rfl) ?_; go_big_quiet_step (fail); refine wpQuiet_nil ?_))
          refine sch_e3 (by rfl) ?_
          have S1 := S0.alloc (hpObj0 bp bl bm b7)
          have B1 := B0.al (hpObj0 bp bl bm b7)
          go_wp2_with fail
          refine onlyN_mk ⟨B1, ?_⟩
          replace S0 := S1
          replace B0 := B1
          clear S1 B1
          repeat (first | (refine sch_q0 (by rfl) ?_; go_big_quiet_step (fail); refine wpQuiet_nil ?_) | (refine sch_q1 (by rfl) ?_; go_big_quiet_step (fail); refine wpQuiet_nil ?_))
          refine sch_nil ?_
          go_wp2
          go_meet
          case rel => exact ⟨_, _, _, _, _, rfl, S0.eq (by ac_rfl)⟩
        · refine sch_e3 (by rfl) ?_
          obtain ⟨b7, W0, hmm, hmS, hmB⟩ := stNew W0
          have B1 := B0.trans' hmB
          have S1 := hmS S0
          go_wp2_with fail
          refine onlyN_mk ⟨B1, ?_⟩
          replace S0 := S1
          replace B0 := B1
          clear S1 B1
          refine sch_nil ?_
          refine tr_leaf ?_
          refine sch_e3 (by rfl) ?_
          go_wp2_with fail
          refine (hqn _).mono ?_
          rintro e W0 ⟨bm, rfl, F1⟩
          have B1 := B0.trans' F1.below
          have S1 := F1.st S0
          go_wp2_with fail
          refine onlyN_mk ⟨B1, ?_⟩
          replace S0 := S1
          replace B0 := B1
          clear S1 B1 F1
          repeat (first | (refine sch_q0 (by rfl) ?_; go_big_quiet_step (fail); refine wpQuiet_nil ?_) | (refine sch_q1 (by rfl) ?_; go_big_quiet_step (fail); refine wpQuiet_nil ?_))
          refine sch_e3 (by rfl) ?_
          have S1 := S0.alloc (hpObj0 bp bl bm b7)
          have B1 := B0.al (hpObj0 bp bl bm b7)
          go_wp2_with fail
          refine onlyN_mk ⟨B1, ?_⟩
          replace S0 := S1
          replace B0 := B1
          clear S1 B1
          repeat (first | (refine sch_q0 (by rfl) ?_; go_big_quiet_step (fail); refine wpQuiet_nil ?_) | (refine sch_q1 (by rfl) ?_; go_big_quiet_step (fail); refine wpQuiet_nil ?_))
          refine sch_nil ?_
          go_wp2
          go_meet
          case rel => exact ⟨_, _, _, _, _, rfl, S0.eq (by ac_rfl)⟩
      · refine sch_e3 (by rfl) ?_
        obtain ⟨b7, W0, hmm, hmS, hmB⟩ := stNew W0
        have B1 := B0.trans' hmB
        have S1 := hmS S0
        go_wp2_with fail
        refine onlyN_mk ⟨B1, ?_⟩
        replace S0 := S1
        replace B0 := B1
        clear S1 B1
        refine sch_nil ?_
        refine tr_leaf ?_
        refine sch_e3 (by rfl) ?_
        go_wp2_with fail
        refine (ldNew_fr _).mono ?_
        rintro e W0 ⟨bl, rfl, F1⟩
        have B1 := B0.trans' F1.below
        have S1 := F1.st S0
        go_wp2_with fail
        refine onlyN_mk ⟨B1, ?_⟩
        replace S0 := S1
        replace B0 := B1
        clear S1 B1 F1
        refine sch_e3 (by rfl) ?_
        go_wp2_with fail
        refine (hqn _).mono ?_
        rintro e W0 ⟨bm, rfl, F1⟩
        have B1 := B0.trans' F1.below
        have S1 := F1.st S0
        go_wp2_with fail
        refine onlyN_mk ⟨B1, ?_⟩
        replace S0 := S1
        replace B0 := B1
        clear S1 B1 F1
        repeat (first | (refine sch_q0 (by rfl) ?_; go_big_quiet_step (fail); refine wpQuiet_nil ?_) | (refine sch_q1 (by rfl) ?_; go_big_quiet_step (fail); refine wpQuiet_nil ?_))
        refine sch_e3 (by rfl) ?_
        have S1 := S0.alloc (hpObj0 bp bl bm b7)
        have B1 := B0.al (hpObj0 bp bl bm b7)
        go_wp2_with fail
        refine onlyN_mk ⟨B1, ?_⟩
        replace S0 := S1
        replace B0 := B1
        clear S1 B1
        repeat (first | (refine sch_q0 (by rfl) ?_; go_big_quiet_step (fail); refine wpQuiet_nil ?_) | (refine sch_q1 (by rfl) ?_; go_big_quiet_step (fail); refine wpQuiet_nil ?_))
        refine sch_nil ?_
        go_wp2
        go_meet
        case rel => exact ⟨_, _, _, _, _, rfl, S0.eq (by ac_rfl)⟩
    · refine sch_e3 (by rfl) ?_
      obtain ⟨b7, W0, hmm, hmS, hmB⟩ := stNew W0
      have B1 := B0.trans' hmB
      have S1 := hmS S0
      go_wp2_with fail
      refine onlyN_mk ⟨B1, ?_⟩
      replace S0 := S1
      replace B0 := B1
      clear S1 B1
      refine sch_nil ?_
      refine tr_leaf ?_
      refine sch_e3 (by rfl) ?_
      go_wp2_with fail
      refine (regNew_fr _).mono ?_
      rintro e W0 ⟨bp, rfl, F1⟩
      have B1 := B0.trans' F1.below
      have S1 := F1.st S0
      go_wp2_with fail
      refine onlyN_mk ⟨B1, ?_⟩
      replace S0 := S1
      replace B0 := B1
      clear S1 B1 F1
      refine sch_e3 (by rfl) ?_
      go_wp2_with fail
      refine (ldNew_fr _).mono ?_
      rintro e W0 ⟨bl, rfl, F1⟩
      have B1 := B0.trans' F1.below
      have S1 := F1.st S0
      go_wp2_with fail
      refine onlyN_mk ⟨B1, ?_⟩
      replace S0 := S1
      replace B0 := B1
      clear S1 B1 F1
      refine sch_e3 (by rfl) ?_
      go_wp2_with fail
      refine (hqn _).mono ?_
      rintro e W0 ⟨bm, rfl, F1⟩
      have B1 := B0.trans' F1.below
      have S1 := F1.st S0
      go_wp2_with fail
      refine onlyN_mk ⟨B1, ?_⟩
      replace S0 := S1
      replace B0 := B1
      clear S1 B1 F1
      repeat (first | (refine sch_q0 (by rfl) ?_; go_big_quiet_step (fail); refine wpQuiet_nil ?_) | (refine sch_q1 (by rfl) ?_; go_big_quiet_step (fail); refine wpQuiet_nil ?_))
      refine sch_e3 (by rfl) ?_
      have S1 := S0.alloc (hpObj0 bp bl bm b7)
      have B1 := B0.al (hpObj0 bp bl bm b7)
      go_wp2_with fail
      refine onlyN_mk ⟨B1, ?_⟩
      replace S0 := S1
      replace B0 := B1
      clear S1 B1
      repeat (first | (refine sch_q0 (by rfl) ?_; go_big_quiet_step (fail); refine wpQuiet_nil ?_) | (refine sch_q1 (by rfl) ?_; go_big_quiet_step (fail); refine wpQuiet_nil ?_))
      refine sch_nil ?_
      go_wp2
      go_meet
      case rel => exact ⟨_, _, _, _, _, rfl, S0.eq (by ac_rfl)⟩
  case rest =>
    obtain ⟨bp, bl, bm, b7, bh, rfl, S1⟩ := hcut
    clear S0 S
    obtain ⟨na, hna⟩ : ∃ n : Nat, ar = n := ⟨ar.toNat, by have := HB.out; omega⟩
    obtain ⟨ns, hns⟩ : ∃ n : Nat, slots = n := ⟨slots.toNat, by have := HB.out; omega⟩
    subst hna hns
    have ha := fun w => arNew na (by have := HB.out; omega) w
    have ht := fun w => tbNew_fr ns fg (by have := HB.out; omega) (by have := HB.out; omega) (by have := HB.out; omega) w
    have hl := fun w => lgNew_fr log (by have := HB.out; omega) (by have := HB.out; omega) w
    have hw : IntKind.i64.wrap fg = fg := IntWalk.i64_in _ (by have := HB.out; omega)
    have S2 := S1.eq (show _ = pts bh (hpObj0 bp bl bm b7) * (pts bx (Cfg.obj ⟨ns, na, fg, log, qb, qo, qr, frames, stack⟩) * (Reg bp [] * (Ld bl ⟨[], []⟩ * (Met.as bm ⟨⟨qb, qo, qr⟩, []⟩ * (stAs b7 [] * X))))) from by ac_rfl)
    clear S1
    have c1 := blk_cell S2.b2.blk 1
    go_upto_region 6 with (go_at_call 106; refine (ha _).mono ?_; clear ha; rintro e w3 ⟨bA, rfl, F3⟩; have S3 := F3.st S2; have hb := S3.b2.blk; have d0 := blk_cell hb 0; have f0 := blk_free hb 0)
    have S4 := S3.b2.set 0 (.pointer (some ⟨bA, 0, none⟩))
    clear d0 f0 hb c1 S3 S2 F3
    generalize World.setCell _ _ _ = w4 at *
    have c0 := blk_cell S4.b3.blk 0
    have c2 := blk_cell S4.b3.blk 2
    go_upto_region 7 with (go_at_call 107; refine (ht _).mono ?_; clear ht; rintro e w5 ⟨bt, rfl, F5⟩; have S5 := F5.st S4; have hb := S5.b2.blk; have d0 := blk_cell hb 2; have f0 := blk_free hb 2)
    have S6 := S5.b2.set 2 (.pointer (some ⟨bt, 0, none⟩))
    clear d0 f0 hb c0 c2 S4 S5 F5
    generalize World.setCell _ _ _ = w6 at *
    have c3 := blk_cell S6.b4.blk 3
    go_upto_region 8 with (go_at_call 108; refine (hl _).mono ?_; clear hl; rintro e w7 ⟨bg, rfl, F7⟩; have S7 := F7.st S6; have hb := S7.b2.blk; have d0 := blk_cell hb 5; have f0 := blk_free hb 5)
    have S8 := S7.b2.set 5 (.pointer (some ⟨bg, 0, none⟩))
    clear d0 f0 hb c3 S6 S7 F7
    generalize World.setCell _ _ _ = w8 at *
    have S9 := S8.b5.drop
    go_wp2
    go_ret2
    rw [show newHs ⟨ns, na, fg, log, qb, qo, qr, frames, stack⟩ = ⟨compL na, [], List.replicate na 0, [], newTb fg ns, ⟨[], []⟩, ⟨⟨qb, qo, qr⟩, []⟩, ⟨log, [], [], 0, [], []⟩, []⟩ from rfl]
    have S10 : St w h w8 (pts bh (hpObj bA bp bt bl bm bg b7) * (Lg bg ⟨log, [], [], 0, [], []⟩ * ((newTb fg ns).as bt * (Ar bA (compL na) [] (List.replicate na 0) * (Reg bp [] * (Ld bl ⟨[], []⟩ * (Met.as bm ⟨⟨qb, qo, qr⟩, []⟩ * (stAs b7 [] * X)))))))) := S9
    refine ⟨bh, rfl, Hp.mk (bA := bA) (bp := bp) (bt := bt) (bl := bl) (bm := bm) (bg := bg) (b7 := b7) ?_⟩
    exact S10.eq (by ac_rfl)
end Go.Proofs.YthnfiejdkhejlaaGreat
