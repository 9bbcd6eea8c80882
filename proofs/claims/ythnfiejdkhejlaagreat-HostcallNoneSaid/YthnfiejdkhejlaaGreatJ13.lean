/- The states of layer 24's awake: plain law. -/
import Derived.Laws.BytesArg
import Derived.Test.YthnfiejdkhejlaaGreatJ12
set_option linter.all false
set_option maxRecDepth 100000
namespace Go.Proofs.YthnfiejdkhejlaaGreat
open Go.RowKit Go.Sl Go.Shelf
deriving instance DecidableEq for Ent
def c24 : Cfg := ⟨1, 64, 1, 20, 64, 2, 0, 1, 0⟩
def t24 : Ty := ⟨0, [(6, 4)]⟩
def z24 : Hs := { newHs c24 with ts := [t24] }
def e24 : Evt := ⟨1, 32, 0, 0, 0⟩
def a24 : Hs := { z24 with st := AL.set z24.st 1 true, lg := z24.lg.add e24 }
theorem c24_chk : c24.chk = 0 := by decide
theorem t24_reg : regT [] t24 = ((1, 0), [t24]) := by decide +kernel
theorem t24_size : tsize t24.len t24.fs = 4 := by decide +kernel
theorem t24_chk : chkT t24.len t24.fs = 0 := by decide +kernel
theorem r24 : rnd 4 = (16, 0) := by decide +kernel
theorem e24_ok : e24.ok := ⟨by decide, by decide, .inr (.inl rfl), ⟨by decide, by decide⟩, ⟨by decide, by decide⟩, by decide, by decide⟩
theorem z24_at : z24.lg.at 0 := ⟨by decide, by decide, by decide, fun k => ⟨Int.le_refl 0, Int.le_refl 0⟩⟩
theorem a24_at : a24.lg.at 1 := Lm.at_add _ 0 _ e24_ok z24_at
theorem live_at (s : Hs) (n : Nat) (p : Int) (ha : s.alive p = true) (hp : 1 ≤ p ∧ p ≤ 64) (h : s.lg.at n) (hn : n ≤ 10) (hc : s.lg.cap = 20) : Live s p :=
  ⟨ha, hp, Lm.at_fit _ n h (by omega) (by omega), by have := (h.rc p).2; omega⟩
theorem a24_live : Live a24 1 := live_at a24 1 1 (by decide +kernel) (by decide) a24_at (by decide) rfl
theorem a24_can : CanA a24 1 0 t24 0 0 ⟨0, false⟩ where
  ek := ⟨by decide, rfl⟩
  k255 := by decide
  m := by decide
  f := by intro t ht; have : t = t24 := by simpa [a24, z24] using ht
          rw [this]; decide
  c := t24_chk
  p1 := by decide
  r := by rw [t24_size, r24]
  mt := ⟨⟨by decide, by decide, by decide, by decide, by decide, by decide⟩, fun p => by
    have : a24.mt.get p = ⟨0, 0, 0⟩ := rfl
    rw [this]; decide⟩
  fits := by rw [t24_size, r24]; decide +kernel
  fl := by decide +kernel
  fv := by decide +kernel
  fe := by rw [t24_size]; decide +kernel
  ed := by decide
  free := by decide
  ei := by decide
  ex := rfl
  xg := by decide
  sl := by decide
  f2 := by decide
  en := by decide
  g := by decide
def p24 : Int := packI 0 (a24.tb.s.gen' 0) 1
theorem p24_eq : p24 = 72057594054705152 := by decide
def b24 : Hs := (a24.al 1 0 0 0 0 4).log ⟨1, 1, p24, u64i 1, 0⟩
theorem b24_ev : (⟨1, 1, p24, u64i 1, 0⟩ : Evt).ok := ⟨by decide, by decide, .inl (by decide), ⟨by rw [p24_eq]; decide, by rw [p24_eq]; decide⟩, u64i_ok _, by decide, by decide⟩
theorem b24_at : b24.lg.at 2 := Lm.at_add _ 1 _ b24_ev a24_at
theorem b24_live : Live b24 1 := live_at b24 2 1 (by decide +kernel) (by decide) b24_at (by decide) rfl
def n24 : Ent := ⟨p24, 1, 1, 0, 16⟩
theorem own24 (s : Hs) (h1 : s.tb = b24.tb) (h2 : s.ld = b24.ld) (h3 : s.ts = b24.ts) (h4 : s.tk = b24.tk) (h5 : s.bs.length = 64) : Own s p24 1 t24 n24 0 16 where
  hx := ⟨by rw [p24_eq]; decide, by rw [p24_eq]; decide⟩
  fit := by rw [h1]; exact ⟨by decide +kernel, by decide +kernel⟩
  r := by rw [h1]; decide +kernel
  ow := rfl
  lent := by rw [h2]; rfl
  ok := ⟨⟨0, by rw [h3]; decide, by rw [show n24.tag = 1 from rfl]; rfl, by simp only [h3]; rfl⟩, by rw [h3]; decide, by rw [h3]; exact a24_can.f, t24_chk⟩
  eo := rfl
  em := rfl
  tk := by rw [h4]; decide +kernel
  m0 := by decide
  om := by rw [h5]; decide
  n := by rw [h5]; decide
  sz := by rw [t24_size]; decide
def d24 : Hs := (b24.wr 1 (bnn 66051 2)).log ⟨1, 6, p24, u64i 1, 0⟩
theorem d24_ev : (⟨1, 6, p24, u64i 1, 0⟩ : Evt).ok := ⟨by decide, by decide, .inl (by decide), ⟨by rw [p24_eq]; decide, by rw [p24_eq]; decide⟩, u64i_ok _, by decide, by decide⟩
theorem d24_at : d24.lg.at 3 := Lm.at_add _ 2 _ d24_ev b24_at
theorem d24_live : Live d24 1 := live_at d24 3 1 (by decide +kernel) (by decide) d24_at (by decide) rfl
theorem b24_own : Own b24 p24 1 t24 n24 0 16 := own24 b24 rfl rfl rfl rfl (by decide +kernel)
theorem d24_own : Own d24 p24 1 t24 n24 0 16 := own24 d24 rfl rfl rfl rfl (by decide +kernel)
theorem d24_bytes : (d24.bs.drop 0).take 4 = [0, 3, 2, 0] := by decide +kernel
end Go.Proofs.YthnfiejdkhejlaaGreat
/- Layer 24's awake. -/
namespace Go.Proofs.YthnfiejdkhejlaaGreat
open Go.RowKit Go.Sl Go.Shelf
set_option maxHeartbeats 3200000 in
theorem awake24 (w : World) : Calls Tryz.prog 42 #[] w fun e w' => e = .returned (.bool true) ∧ Below w.heap.size w w' := by
  have H1 := hpNew_st c24 c24_chk ⟨by decide, by decide⟩ (S1' w)
  go_enter Tryz.func42, Tryz.ntmps42
  go_wp2_with fail
  refine H1.mono ?_
  clear H1
  rintro e w1 ⟨bh, rfl, S1⟩
  have S2 := S1.alloc (.cells #[.int .i64 6, .int .i64 4] 102 (0,0))
  have R2 : Rv (w1.alloc (.cells #[.int .i64 6, .int .i64 4] 102 (0,0))) 2 (.slice (some ⟨w1.heap.size, 0, none⟩) t24.fs.length 1) t24.fs.length (t24.fs.flatMap fenc) := by
    have S3 : St w Hl.emp (w1.alloc (.cells #[.int .i64 6, .int .i64 4] 102 (0,0))) (rowAs 102 2 (.slice (some ⟨w1.heap.size, 0, none⟩) 1 1) 1 [.int .i64 6, .int .i64 4] * (Hp bh (newHs c24) * 1)) := S2.to fun _ a => rowAs_mk rfl (Nat.le_refl 1) (by decide) rfl rfl a
    exact S3.rv
  have H2 := Define_st bh (newHs c24) t24 _ S2.b2 R2 (by decide) (by intro t ht; cases ht) (by decide)
  rw [show (newHs c24).ts = [] from rfl, t24_reg] at H2
  clear R2 S1
  go_wp2_with fail
  refine H2.mono ?_
  clear H2 S2
  rintro e w2 ⟨rfl, S3⟩
  have S4 : St w Hl.emp w2 (Hp bh z24 * 1) := S3.b2.drop
  have H4 := Start_st bh z24 1 (by decide) rfl (Lm.at_fit _ 0 z24_at (by decide) (by decide)) S4
  clear S3 S4
  go_upto_region 6 with (go_at_call 15; refine H4.mono ?_; clear H4; rintro e w3 ⟨rfl, S5⟩)
  have S5 : St w Hl.emp w3 (Hp bh a24 * 1) := S5
  have S6 := (S5.alloc (.cells #[.int .i64 1] 3 (0,0))).alloc (.cells #[.int .u64 0] 22 (0,0))
  rw [World.size_alloc] at S6
  generalize hW6 : (w3.alloc (.cells #[.int .i64 1] 3 (0,0))).alloc (.cells #[.int .u64 0] 22 (0,0)) = w6 at S6
  generalize hq6 : w3.heap.size = q6 at S6
  have Rt : Rv w6 1 (.slice (some ⟨q6, 0, none⟩) 1 1) 1 ([(1 : Int)].map iv) := (show St w Hl.emp w6 (rowAs 3 1 (.slice (some ⟨q6, 0, none⟩) 1 1) 1 ([(1 : Int)].map iv) * _) from S6.b2.to fun _ a => rowAs_mk rfl (Nat.le_refl 1) (by decide) rfl rfl a).rv
  have Ra : Rv w6 1 (.slice (some ⟨q6 + 1, 0, none⟩) 1 1) 1 ([(0 : Int)].map uv) := (show St w Hl.emp w6 (rowAs 22 1 (.slice (some ⟨q6 + 1, 0, none⟩) 1 1) 1 ([(0 : Int)].map uv) * _) from S6.to fun _ a => rowAs_mk rfl (Nat.le_refl 1) (by decide) rfl rfl a).rv
  have S7 := S6.b3
  have B7 := (Below.refl w6.heap.size w6).al (clObj (.pointer (some ⟨bh, 0, none⟩)) 1 (.slice (some ⟨q6, 0, none⟩) 1 1) (.slice (some ⟨q6 + 1, 0, none⟩) 1 1) 0)
  have H7 := Do_run1 (some ⟨bh, 0, none⟩) 1 (some ⟨q6, 0, none⟩) 1 [1] (some ⟨q6 + 1, 0, none⟩) 1 0 0 w6 Ra (fun v r w' => v = p24 ∧ r = 0 ∧ ∃ Y, St w Hl.emp w' (Hp bh b24 * Y)) ((do_al w6.heap.size bh 1 (some ⟨q6, 0, none⟩) 1 [1] (some ⟨q6 + 1, 0, none⟩) 1 0 0 a24 0 t24 0 ⟨0, false⟩ (by decide) a24_can a24_live (S7.below B7)
    ⟨heap_alloc_new w6 _, Ra.below B7, Rt.below B7, by intro x hx; simp at hx; subst hx; exact ⟨by decide, by decide⟩⟩).mono fun _ _ ⟨v, r, he, hv, hr, j, hj, S8⟩ => ⟨v, r, he, hv, hr, _, by
      have h1 : j < 1 := hj.1
      obtain rfl : j = 0 := by omega
      rw [t24_size] at S8
      exact S8⟩)
  clear Rt Ra S7 S6 B7 S5
  have HH7 := Lib.hid H7
  clear H7
  go_wp2_with fail
  subst hq6
  refine HH7.out.mono ?_
  clear HH7 hW6
  rintro e w7 ⟨v, r, v', rfl, hv, rfl, rfl, Y, S8⟩
  obtain rfl : v' = p24 := by
    rcases hv with ⟨_, h⟩ | ⟨h, _⟩
    · exact h
    · exact absurd rfl h
  clear hv
  generalize hp24 : p24 = pk at *
  have S9 := S8.alloc (.cells #[.int .u64 pk, .int .u64 1, .int .u64 2, .int .u64 66051] 22 (0,0))
  generalize hW9 : w7.alloc (.cells #[.int .u64 pk, .int .u64 1, .int .u64 2, .int .u64 66051] 22 (0,0)) = w9 at S9
  generalize hq9 : w7.heap.size = q9 at S9
  have Ra : Rv w9 1 (.slice (some ⟨q9, 0, none⟩) 4 4) 4 ([pk, 1, ((2 : Nat) : Int), ((66051 : Nat) : Int)].map uv) := (show St w Hl.emp w9 (rowAs 22 1 (.slice (some ⟨q9, 0, none⟩) 4 4) 4 ([pk, 1, ((2 : Nat) : Int), ((66051 : Nat) : Int)].map uv) * _) from S9.to fun _ a => rowAs_mk rfl (Nat.le_refl 4) (by decide) rfl rfl a).rv
  have Rt : Rv w9 1 (.slice none ([] : List Int).length 0) ([] : List Int).length (([] : List Int).map iv) := ⟨rfl, .inl ⟨rfl, rfl⟩⟩
  have B9 := (Below.refl w9.heap.size w9).al (clObj (.pointer (some ⟨bh, 0, none⟩)) 1 (.slice none 0 0) (.slice (some ⟨q9, 0, none⟩) 4 4) 0)
  have S10 := S9.b2
  have H9 := Do_run6 (some ⟨bh, 0, none⟩) 1 none 0 [] (some ⟨q9, 0, none⟩) 4 0 pk 1 2 66051 (by decide) w9 Ra (fun v r w' => v = 0 ∧ r = 0 ∧ ∃ Y, St w Hl.emp w' (Hp bh d24 * Y)) ((do_st w9.heap.size bh 1 none 0 [] (some ⟨q9, 0, none⟩) 4 0 pk 1 2 66051 (by decide) b24 t24 n24 0 16 (by rw [← hp24]; exact b24_own) b24_live (S10.below B9)
    ⟨heap_alloc_new w9 _, Ra.below B9, Rt.below B9, by
      intro x hx
      simp at hx
      rcases hx with rfl | rfl | rfl | rfl
      · rw [← hp24]; exact b24_own.hx
      · exact ⟨by decide, by decide⟩
      · exact ⟨by decide, by decide⟩
      · exact ⟨by decide, by decide⟩⟩).mono fun _ _ ⟨v, r, he, hv, hr, S8⟩ => ⟨v, r, he, hv, by rw [hr, t24_size]; decide, _, by
        rw [t24_size, ← hp24] at S8
        exact S8⟩)
  clear Rt Ra S10 S9 B9 S8
  have HH9 := Lib.hid H9
  clear H9
  go_wp2_with fail
  subst hq9
  refine HH9.out.mono ?_
  clear HH9 hW9
  rintro e w10 ⟨v, r, v2, rfl, hv, rfl, rfl, Y2, S11⟩
  obtain rfl : v2 = 0 := by
    rcases hv with ⟨_, h⟩ | ⟨_, h⟩ <;> exact h
  clear hv
  have H12 := Load_in bh d24 pk 1 0 t24 n24 0 16 4 (by rw [← hp24]; exact d24_own) d24_live (by rw [t24_size]; decide) S11
  rw [show d24.bs.drop (0 + 0) = d24.bs.drop 0 from rfl, d24_bytes] at H12
  clear S11
  have HH12 := Lib.hid H12
  clear H12
  go_wp2_with fail
  refine HH12.out.mono ?_
  clear HH12
  rintro e w11 ⟨ad, cp, rfl, S13⟩
  obtain ⟨g, cap, hv, _⟩ := S13.b2.rowCell (j := 0) (u := bv 0) rfl
  cases hv
  have hcv := run_convert_bytes_arg (P := Tryz.prog) w11 49 5 Tryz.underlying49 Tryz.underlying5 g 0 4 cp [0, 3, 2, 0] rfl (fun i hi => by
    obtain ⟨g2, c2, hv2, hc⟩ := S13.b2.rowCell (j := i) (u := .int .u8 (([0, 3, 2, 0] : List Int).getD i 0)) (by
      rcases (show i = 0 ∨ i = 1 ∨ i = 2 ∨ i = 3 by omega) with rfl | rfl | rfl | rfl <;> rfl)
    cases hv2
    rw [Nat.zero_add]; exact hc) 9 Tryz.underlying9
  rw [show strOfNums [0, 3, 2, 0] = { data := #[0, 3, 2, 0] } from by decide] at hcv
  have HB := Lib.hid (S13.below_all rfl)
  clear S13
  go_wp2
  go_ret
  exact ⟨rfl, HB.out⟩
end Go.Proofs.YthnfiejdkhejlaaGreat
/- The law HostcallNone. (Printed by genno.py.) -/
namespace Go.Proofs.YthnfiejdkhejlaaGreat
open Go.RowKit Go.Sl Go.Shelf
theorem RArity1 (w : World) : Calls Tryz.prog 43 #[.int .i64 1] w fun e w' => e = .returned (.tuple #[.int .i64 1, .bool true]) ∧ Below w.heap.size w w' := by
  have B0 := Lib.hid ((Below.refl w.heap.size w).al (.cells #[.int .i64 0, .int .i64 1, .int .i64 1, .int .i64 2, .int .i64 3, .int .i64 3, .int .i64 4, .int .i64 5, .int .i64 2, .int .i64 2, .int .i64 2, .int .i64 1] 3 (0,0)))
  go_enter Tryz.func43, Tryz.ntmps43
  go_wp2
  go_ret2
  exact ⟨rfl, B0.out⟩
theorem RArity2 (w : World) : Calls Tryz.prog 43 #[.int .i64 2] w fun e w' => e = .returned (.tuple #[.int .i64 1, .bool true]) ∧ Below w.heap.size w w' := by
  have B0 := Lib.hid ((Below.refl w.heap.size w).al (.cells #[.int .i64 0, .int .i64 1, .int .i64 1, .int .i64 2, .int .i64 3, .int .i64 3, .int .i64 4, .int .i64 5, .int .i64 2, .int .i64 2, .int .i64 2, .int .i64 1] 3 (0,0)))
  go_enter Tryz.func43, Tryz.ntmps43
  go_wp2
  go_ret2
  exact ⟨rfl, B0.out⟩
theorem RArity3 (w : World) : Calls Tryz.prog 43 #[.int .i64 3] w fun e w' => e = .returned (.tuple #[.int .i64 2, .bool true]) ∧ Below w.heap.size w w' := by
  have B0 := Lib.hid ((Below.refl w.heap.size w).al (.cells #[.int .i64 0, .int .i64 1, .int .i64 1, .int .i64 2, .int .i64 3, .int .i64 3, .int .i64 4, .int .i64 5, .int .i64 2, .int .i64 2, .int .i64 2, .int .i64 1] 3 (0,0)))
  go_enter Tryz.func43, Tryz.ntmps43
  go_wp2
  go_ret2
  exact ⟨rfl, B0.out⟩
theorem RArity4 (w : World) : Calls Tryz.prog 43 #[.int .i64 4] w fun e w' => e = .returned (.tuple #[.int .i64 3, .bool true]) ∧ Below w.heap.size w w' := by
  have B0 := Lib.hid ((Below.refl w.heap.size w).al (.cells #[.int .i64 0, .int .i64 1, .int .i64 1, .int .i64 2, .int .i64 3, .int .i64 3, .int .i64 4, .int .i64 5, .int .i64 2, .int .i64 2, .int .i64 2, .int .i64 1] 3 (0,0)))
  go_enter Tryz.func43, Tryz.ntmps43
  go_wp2
  go_ret2
  exact ⟨rfl, B0.out⟩
theorem RArity5 (w : World) : Calls Tryz.prog 43 #[.int .i64 5] w fun e w' => e = .returned (.tuple #[.int .i64 3, .bool true]) ∧ Below w.heap.size w w' := by
  have B0 := Lib.hid ((Below.refl w.heap.size w).al (.cells #[.int .i64 0, .int .i64 1, .int .i64 1, .int .i64 2, .int .i64 3, .int .i64 3, .int .i64 4, .int .i64 5, .int .i64 2, .int .i64 2, .int .i64 2, .int .i64 1] 3 (0,0)))
  go_enter Tryz.func43, Tryz.ntmps43
  go_wp2
  go_ret2
  exact ⟨rfl, B0.out⟩
theorem RArity6 (w : World) : Calls Tryz.prog 43 #[.int .i64 6] w fun e w' => e = .returned (.tuple #[.int .i64 4, .bool true]) ∧ Below w.heap.size w w' := by
  have B0 := Lib.hid ((Below.refl w.heap.size w).al (.cells #[.int .i64 0, .int .i64 1, .int .i64 1, .int .i64 2, .int .i64 3, .int .i64 3, .int .i64 4, .int .i64 5, .int .i64 2, .int .i64 2, .int .i64 2, .int .i64 1] 3 (0,0)))
  go_enter Tryz.func43, Tryz.ntmps43
  go_wp2
  go_ret2
  exact ⟨rfl, B0.out⟩
theorem RArity7 (w : World) : Calls Tryz.prog 43 #[.int .i64 7] w fun e w' => e = .returned (.tuple #[.int .i64 5, .bool true]) ∧ Below w.heap.size w w' := by
  have B0 := Lib.hid ((Below.refl w.heap.size w).al (.cells #[.int .i64 0, .int .i64 1, .int .i64 1, .int .i64 2, .int .i64 3, .int .i64 3, .int .i64 4, .int .i64 5, .int .i64 2, .int .i64 2, .int .i64 2, .int .i64 1] 3 (0,0)))
  go_enter Tryz.func43, Tryz.ntmps43
  go_wp2
  go_ret2
  exact ⟨rfl, B0.out⟩
theorem RArity8 (w : World) : Calls Tryz.prog 43 #[.int .i64 8] w fun e w' => e = .returned (.tuple #[.int .i64 2, .bool true]) ∧ Below w.heap.size w w' := by
  have B0 := Lib.hid ((Below.refl w.heap.size w).al (.cells #[.int .i64 0, .int .i64 1, .int .i64 1, .int .i64 2, .int .i64 3, .int .i64 3, .int .i64 4, .int .i64 5, .int .i64 2, .int .i64 2, .int .i64 2, .int .i64 1] 3 (0,0)))
  go_enter Tryz.func43, Tryz.ntmps43
  go_wp2
  go_ret2
  exact ⟨rfl, B0.out⟩
theorem RArity9 (w : World) : Calls Tryz.prog 43 #[.int .i64 9] w fun e w' => e = .returned (.tuple #[.int .i64 2, .bool true]) ∧ Below w.heap.size w w' := by
  have B0 := Lib.hid ((Below.refl w.heap.size w).al (.cells #[.int .i64 0, .int .i64 1, .int .i64 1, .int .i64 2, .int .i64 3, .int .i64 3, .int .i64 4, .int .i64 5, .int .i64 2, .int .i64 2, .int .i64 2, .int .i64 1] 3 (0,0)))
  go_enter Tryz.func43, Tryz.ntmps43
  go_wp2
  go_ret2
  exact ⟨rfl, B0.out⟩
theorem RArity10 (w : World) : Calls Tryz.prog 43 #[.int .i64 10] w fun e w' => e = .returned (.tuple #[.int .i64 2, .bool true]) ∧ Below w.heap.size w w' := by
  have B0 := Lib.hid ((Below.refl w.heap.size w).al (.cells #[.int .i64 0, .int .i64 1, .int .i64 1, .int .i64 2, .int .i64 3, .int .i64 3, .int .i64 4, .int .i64 5, .int .i64 2, .int .i64 2, .int .i64 2, .int .i64 1] 3 (0,0)))
  go_enter Tryz.func43, Tryz.ntmps43
  go_wp2
  go_ret2
  exact ⟨rfl, B0.out⟩
theorem RArity11 (w : World) : Calls Tryz.prog 43 #[.int .i64 11] w fun e w' => e = .returned (.tuple #[.int .i64 1, .bool true]) ∧ Below w.heap.size w w' := by
  have B0 := Lib.hid ((Below.refl w.heap.size w).al (.cells #[.int .i64 0, .int .i64 1, .int .i64 1, .int .i64 2, .int .i64 3, .int .i64 3, .int .i64 4, .int .i64 5, .int .i64 2, .int .i64 2, .int .i64 2, .int .i64 1] 3 (0,0)))
  go_enter Tryz.func43, Tryz.ntmps43
  go_wp2
  go_ret2
  exact ⟨rfl, B0.out⟩
theorem RIndex_any (x : Int) (hx : U64 x) (w : World) : Calls Tryz.prog 115 #[.int .u64 x] w fun e w' => e = .returned (.int .i64 (idxI x)) ∧ w' = w := by
  unfold idxI
  by_cases h : 1048576 < x
  · rw [if_pos h]
    have d : decide (1048576 < x) = true := decide_eq_true h
    clear h hx
    go_enter Tryz.func115, Tryz.ntmps115
    go_wp2
    go_ret
    exact ⟨rfl, rfl⟩
  · rw [if_neg h]
    have d : decide (1048576 < x) = false := decide_eq_false h
    have hw : IntKind.i64.wrap x = x := IntWalk.i64_in _ (by unfold U64 at hx; omega)
    clear h hx
    go_enter Tryz.func115, Tryz.ntmps115
    go_wp2
    go_ret
    exact ⟨rfl, rfl⟩
set_option maxHeartbeats 800000 in
theorem RCheck5 (aa : Option Addr) (ac : Nat) (x0 x1 x2 : Int) (hw : 8 < x2) (hu : U64 x2) (w : World) (hR : Rv w 1 (.slice aa 3 ac) 3 ([x0, x1, x2].map uv)) :
    Calls Tryz.prog 44 #[.int .i64 5, .slice aa 3 ac] w fun e w' => e = .returned (.int .i64 1) ∧ Below w.heap.size w w' := by
  have hc := fun V (B : Below w.heap.size w V) => (hR.below B).cell (j := 2) (u := uv x2) rfl
  obtain ⟨g, o, rfl, _⟩ := hc w (Below.refl _ _)
  have hc2 : ∀ V, Below w.heap.size w V → V.cell? ⟨g, o + 2, none⟩ = some (.int .u64 x2) := fun V B => by
    obtain ⟨g', o', he, hh⟩ := hc V B
    cases he; exact hh
  have hix := fun w => RIndex_any x2 hu w
  have hi : decide (idxI x2 < 0) = true ∨ decide (idxI x2 < 0) = false ∧ decide (8 < idxI x2) = true := by
    unfold idxI
    by_cases h : 1048576 < x2
    · rw [if_pos h]; exact .inl (by decide)
    · rw [if_neg h]; exact .inr ⟨decide_eq_false (by have := hu.1; omega), decide_eq_true hw⟩
  generalize idxI x2 = ix at *
  clear hc hR hw
  rcases hi with d | ⟨d1, d2⟩
  all_goals
    go_enter Tryz.func44, Tryz.ntmps44
    go_upto_region 6 with (go_at_call 43; refine (RArity5 w).mono ?_; rintro e w1 ⟨rfl, B1⟩)
    have c2 := hc2 w1 B1
    go_wp2_with (go_at_call 115; refine (hix _).mono ?_; rintro e w2 ⟨rfl, rfl⟩)
    go_ret
    exact ⟨rfl, B1⟩
set_option maxHeartbeats 800000 in
theorem RCheck6 (aa : Option Addr) (ac : Nat) (x0 x1 x2 x3 : Int) (hw : 8 < x2) (hu : U64 x2) (w : World) (hR : Rv w 1 (.slice aa 4 ac) 4 ([x0, x1, x2, x3].map uv)) :
    Calls Tryz.prog 44 #[.int .i64 6, .slice aa 4 ac] w fun e w' => e = .returned (.int .i64 1) ∧ Below w.heap.size w w' := by
  have hc := fun V (B : Below w.heap.size w V) => (hR.below B).cell (j := 2) (u := uv x2) rfl
  obtain ⟨g, o, rfl, _⟩ := hc w (Below.refl _ _)
  have hc2 : ∀ V, Below w.heap.size w V → V.cell? ⟨g, o + 2, none⟩ = some (.int .u64 x2) := fun V B => by
    obtain ⟨g', o', he, hh⟩ := hc V B
    cases he; exact hh
  have hix := fun w => RIndex_any x2 hu w
  have hi : decide (idxI x2 < 0) = true ∨ decide (idxI x2 < 0) = false ∧ decide (8 < idxI x2) = true := by
    unfold idxI
    by_cases h : 1048576 < x2
    · rw [if_pos h]; exact .inl (by decide)
    · rw [if_neg h]; exact .inr ⟨decide_eq_false (by have := hu.1; omega), decide_eq_true hw⟩
  generalize idxI x2 = ix at *
  clear hc hR hw
  rcases hi with d | ⟨d1, d2⟩
  all_goals
    go_enter Tryz.func44, Tryz.ntmps44
    go_upto_region 6 with (go_at_call 43; refine (RArity6 w).mono ?_; rintro e w1 ⟨rfl, B1⟩)
    have c2 := hc2 w1 B1
    go_wp2_with (go_at_call 115; refine (hix _).mono ?_; rintro e w2 ⟨rfl, rfl⟩)
    go_ret
    exact ⟨rfl, B1⟩
set_option maxHeartbeats 400000 in
theorem law1 (p c x0 x1 x2 x3 x4 : Int) (u0 : U64 x0) (u1 : U64 x1) (u2 : U64 x2) (u3 : U64 x3) (u4 : U64 x4) (hc : wrap64 (1 + wrap64 (c.tmod 11)) = 1) (w : World) : Calls Tryz.prog 7 #[.int .i64 p, .int .u8 c, .agg #[.int .u64 x0, .int .u64 x1, .int .u64 x2, .int .u64 x3, .int .u64 x4]] w fun e w' => e = .returned (.bool true) ∧ Below w.heap.size w w' := by
  have S0 := (S1' w).alloc (.cells #[.int .u64 x0, .int .u64 x1, .int .u64 x2, .int .u64 x3, .int .u64 x4] 106 (0,0))
  generalize hW : w.alloc (.cells #[.int .u64 x0, .int .u64 x1, .int .u64 x2, .int .u64 x3, .int .u64 x4] 106 (0,0)) = W at S0
  generalize hq : w.heap.size = q at S0
  have hb := S0.blk
  have hR : ∀ V, Below W.heap.size W V → Rv V 1 (.slice (some ⟨q, 0, none⟩) 1 5) 1 ([x0].map uv) := fun V B => ⟨rfl, .inr ⟨q, 0, 5, rfl, by decide, by decide, blk_lt (blkB B hb), fun j u hj => by
    have hb2 := blkB B hb
    rcases (show j = 0 by
      have := (List.getElem?_eq_some_iff.1 hj).1
      simp at this; omega) with rfl <;> (cases hj; rw [blk_cell hb2]; rfl)⟩⟩
  have HW := Lib.hid hW
  have HQ := Lib.hid hq
  have BW := Lib.hid (S0.below_all rfl)
  have HK := Lib.hid hc
  clear hb S0 hq hc
  · skip
    have hdo := fun w1 (B1 : Below W.heap.size W w1) => Do_run1 none p none 0 [] (some ⟨q, 0, none⟩) 5 0 x0 w1 (hR w1 B1) (fun v r w' => v = 0 ∧ r = 15 ∧ Below w1.heap.size w1 w')
      ((do_nil1 w1.heap.size p none 0 [] (some ⟨q, 0, none⟩) 5 0 x0 _ ⟨heap_alloc_new w1 _, (hR w1 B1).below ((Below.refl _ w1).al _), ⟨rfl, .inl ⟨rfl, rfl⟩⟩, by intro x hx; simp at hx; subst hx; exact u0⟩).mono fun _ _ ⟨he, B⟩ => ⟨0, 15, he, rfl, rfl, ((Below.refl _ w1).al _).trans' B⟩)
    go_enter Tryz.func7, Tryz.ntmps7
    go_upto_region 1 with fail
    rw [HQ.out]
    go_upto_region 2 with fail
    rw [HK.out]
    generalize wrap64 (c.tmod 11) = gg
    generalize c.tmod 11 = gt
    clear hW
    go_upto_region 3 with (go_at_call 43; refine (RArity1 _).mono ?_; rintro e w1 ⟨rfl, B1⟩)
    have H := hdo w1 B1
    go_wp2_with fail
    refine H.mono ?_
    clear H hdo
    rintro e w2 ⟨v, r, v', rfl, hv, rfl, rfl, B2⟩
    obtain rfl : v' = 0 := by
      rcases hv with ⟨_, h⟩ | ⟨_, h⟩ <;> exact h
    clear hv
    have HF := Lib.hid (show ∀ w3, Below w2.heap.size w2 w3 → Below w.heap.size w w3 from fun w3 B3 => BW.out.trans' (B1.trans' (B2.trans' B3)))
    clear hR B1 B2
    go_wp2_with fail
    refine (awake24 _).mono ?_
    rintro e w3 ⟨rfl, B3⟩

    go_wp2
    go_ret
    exact ⟨rfl, by rw [← HQ.out]; exact HF.out w3 B3⟩
set_option maxHeartbeats 400000 in
theorem law2 (p c x0 x1 x2 x3 x4 : Int) (u0 : U64 x0) (u1 : U64 x1) (u2 : U64 x2) (u3 : U64 x3) (u4 : U64 x4) (hc : wrap64 (1 + wrap64 (c.tmod 11)) = 2) (w : World) : Calls Tryz.prog 7 #[.int .i64 p, .int .u8 c, .agg #[.int .u64 x0, .int .u64 x1, .int .u64 x2, .int .u64 x3, .int .u64 x4]] w fun e w' => e = .returned (.bool true) ∧ Below w.heap.size w w' := by
  have S0 := (S1' w).alloc (.cells #[.int .u64 x0, .int .u64 x1, .int .u64 x2, .int .u64 x3, .int .u64 x4] 106 (0,0))
  generalize hW : w.alloc (.cells #[.int .u64 x0, .int .u64 x1, .int .u64 x2, .int .u64 x3, .int .u64 x4] 106 (0,0)) = W at S0
  generalize hq : w.heap.size = q at S0
  have hb := S0.blk
  have hR : ∀ V, Below W.heap.size W V → Rv V 1 (.slice (some ⟨q, 0, none⟩) 1 5) 1 ([x0].map uv) := fun V B => ⟨rfl, .inr ⟨q, 0, 5, rfl, by decide, by decide, blk_lt (blkB B hb), fun j u hj => by
    have hb2 := blkB B hb
    rcases (show j = 0 by
      have := (List.getElem?_eq_some_iff.1 hj).1
      simp at this; omega) with rfl <;> (cases hj; rw [blk_cell hb2]; rfl)⟩⟩
  have HW := Lib.hid hW
  have HQ := Lib.hid hq
  have BW := Lib.hid (S0.below_all rfl)
  have HK := Lib.hid hc
  clear hb S0 hq hc
  · skip
    have hdo := fun w1 (B1 : Below W.heap.size W w1) => Do_run2 none p none 0 [] (some ⟨q, 0, none⟩) 5 0 x0 w1 (hR w1 B1) (fun v r w' => v = 0 ∧ r = 15 ∧ Below w1.heap.size w1 w')
      ((do_nil2 w1.heap.size p none 0 [] (some ⟨q, 0, none⟩) 5 0 x0 _ ⟨heap_alloc_new w1 _, (hR w1 B1).below ((Below.refl _ w1).al _), ⟨rfl, .inl ⟨rfl, rfl⟩⟩, by intro x hx; simp at hx; subst hx; exact u0⟩).mono fun _ _ ⟨he, B⟩ => ⟨0, 15, he, rfl, rfl, ((Below.refl _ w1).al _).trans' B⟩)
    go_enter Tryz.func7, Tryz.ntmps7
    go_upto_region 1 with fail
    rw [HQ.out]
    go_upto_region 2 with fail
    rw [HK.out]
    generalize wrap64 (c.tmod 11) = gg
    generalize c.tmod 11 = gt
    clear hW
    go_upto_region 3 with (go_at_call 43; refine (RArity2 _).mono ?_; rintro e w1 ⟨rfl, B1⟩)
    have H := hdo w1 B1
    go_wp2_with fail
    refine H.mono ?_
    clear H hdo
    rintro e w2 ⟨v, r, v', rfl, hv, rfl, rfl, B2⟩
    obtain rfl : v' = 0 := by
      rcases hv with ⟨_, h⟩ | ⟨_, h⟩ <;> exact h
    clear hv
    have HF := Lib.hid (show ∀ w3, Below w2.heap.size w2 w3 → Below w.heap.size w w3 from fun w3 B3 => BW.out.trans' (B1.trans' (B2.trans' B3)))
    clear hR B1 B2
    go_wp2_with fail
    refine (awake24 _).mono ?_
    rintro e w3 ⟨rfl, B3⟩

    go_wp2
    go_ret
    exact ⟨rfl, by rw [← HQ.out]; exact HF.out w3 B3⟩
set_option maxHeartbeats 400000 in
theorem law3 (p c x0 x1 x2 x3 x4 : Int) (u0 : U64 x0) (u1 : U64 x1) (u2 : U64 x2) (u3 : U64 x3) (u4 : U64 x4) (hc : wrap64 (1 + wrap64 (c.tmod 11)) = 3) (w : World) : Calls Tryz.prog 7 #[.int .i64 p, .int .u8 c, .agg #[.int .u64 x0, .int .u64 x1, .int .u64 x2, .int .u64 x3, .int .u64 x4]] w fun e w' => e = .returned (.bool true) ∧ Below w.heap.size w w' := by
  have S0 := (S1' w).alloc (.cells #[.int .u64 x0, .int .u64 x1, .int .u64 x2, .int .u64 x3, .int .u64 x4] 106 (0,0))
  generalize hW : w.alloc (.cells #[.int .u64 x0, .int .u64 x1, .int .u64 x2, .int .u64 x3, .int .u64 x4] 106 (0,0)) = W at S0
  generalize hq : w.heap.size = q at S0
  have hb := S0.blk
  have hR : ∀ V, Below W.heap.size W V → Rv V 1 (.slice (some ⟨q, 0, none⟩) 2 5) 2 ([x0, x1].map uv) := fun V B => ⟨rfl, .inr ⟨q, 0, 5, rfl, by decide, by decide, blk_lt (blkB B hb), fun j u hj => by
    have hb2 := blkB B hb
    rcases (show j = 0 ∨ j = 1 by
      have := (List.getElem?_eq_some_iff.1 hj).1
      simp at this; omega) with rfl | rfl <;> (cases hj; rw [blk_cell hb2]; rfl)⟩⟩
  have HW := Lib.hid hW
  have HQ := Lib.hid hq
  have BW := Lib.hid (S0.below_all rfl)
  have HK := Lib.hid hc
  clear hb S0 hq hc
  · skip
    have hdo := fun w1 (B1 : Below W.heap.size W w1) => Do_run3 none p none 0 [] (some ⟨q, 0, none⟩) 5 0 x0 x1 w1 (hR w1 B1) (fun v r w' => v = 0 ∧ r = 15 ∧ Below w1.heap.size w1 w')
      ((do_nil3 w1.heap.size p none 0 [] (some ⟨q, 0, none⟩) 5 0 x0 x1 _ ⟨heap_alloc_new w1 _, (hR w1 B1).below ((Below.refl _ w1).al _), ⟨rfl, .inl ⟨rfl, rfl⟩⟩, by intro x hx; simp at hx; rcases hx with rfl | rfl <;> assumption⟩).mono fun _ _ ⟨he, B⟩ => ⟨0, 15, he, rfl, rfl, ((Below.refl _ w1).al _).trans' B⟩)
    go_enter Tryz.func7, Tryz.ntmps7
    go_upto_region 1 with fail
    rw [HQ.out]
    go_upto_region 2 with fail
    rw [HK.out]
    generalize wrap64 (c.tmod 11) = gg
    generalize c.tmod 11 = gt
    clear hW
    go_upto_region 3 with (go_at_call 43; refine (RArity3 _).mono ?_; rintro e w1 ⟨rfl, B1⟩)
    have H := hdo w1 B1
    go_wp2_with fail
    refine H.mono ?_
    clear H hdo
    rintro e w2 ⟨v, r, v', rfl, hv, rfl, rfl, B2⟩
    obtain rfl : v' = 0 := by
      rcases hv with ⟨_, h⟩ | ⟨_, h⟩ <;> exact h
    clear hv
    have HF := Lib.hid (show ∀ w3, Below w2.heap.size w2 w3 → Below w.heap.size w w3 from fun w3 B3 => BW.out.trans' (B1.trans' (B2.trans' B3)))
    clear hR B1 B2
    go_wp2_with fail
    refine (awake24 _).mono ?_
    rintro e w3 ⟨rfl, B3⟩

    go_wp2
    go_ret
    exact ⟨rfl, by rw [← HQ.out]; exact HF.out w3 B3⟩
set_option maxHeartbeats 400000 in
theorem law4 (p c x0 x1 x2 x3 x4 : Int) (u0 : U64 x0) (u1 : U64 x1) (u2 : U64 x2) (u3 : U64 x3) (u4 : U64 x4) (hc : wrap64 (1 + wrap64 (c.tmod 11)) = 4) (w : World) : Calls Tryz.prog 7 #[.int .i64 p, .int .u8 c, .agg #[.int .u64 x0, .int .u64 x1, .int .u64 x2, .int .u64 x3, .int .u64 x4]] w fun e w' => e = .returned (.bool true) ∧ Below w.heap.size w w' := by
  have S0 := (S1' w).alloc (.cells #[.int .u64 x0, .int .u64 x1, .int .u64 x2, .int .u64 x3, .int .u64 x4] 106 (0,0))
  generalize hW : w.alloc (.cells #[.int .u64 x0, .int .u64 x1, .int .u64 x2, .int .u64 x3, .int .u64 x4] 106 (0,0)) = W at S0
  generalize hq : w.heap.size = q at S0
  have hb := S0.blk
  have hR : ∀ V, Below W.heap.size W V → Rv V 1 (.slice (some ⟨q, 0, none⟩) 3 5) 3 ([x0, x1, x2].map uv) := fun V B => ⟨rfl, .inr ⟨q, 0, 5, rfl, by decide, by decide, blk_lt (blkB B hb), fun j u hj => by
    have hb2 := blkB B hb
    rcases (show j = 0 ∨ j = 1 ∨ j = 2 by
      have := (List.getElem?_eq_some_iff.1 hj).1
      simp at this; omega) with rfl | rfl | rfl <;> (cases hj; rw [blk_cell hb2]; rfl)⟩⟩
  have HW := Lib.hid hW
  have HQ := Lib.hid hq
  have BW := Lib.hid (S0.below_all rfl)
  have HK := Lib.hid hc
  clear hb S0 hq hc
  · skip
    have hdo := fun w1 (B1 : Below W.heap.size W w1) => Do_run4 none p none 0 [] (some ⟨q, 0, none⟩) 5 0 x0 x1 x2 w1 (hR w1 B1) (fun v r w' => v = 0 ∧ r = 15 ∧ Below w1.heap.size w1 w')
      ((do_nil4 w1.heap.size p none 0 [] (some ⟨q, 0, none⟩) 5 0 x0 x1 x2 _ ⟨heap_alloc_new w1 _, (hR w1 B1).below ((Below.refl _ w1).al _), ⟨rfl, .inl ⟨rfl, rfl⟩⟩, by intro x hx; simp at hx; rcases hx with rfl | rfl | rfl <;> assumption⟩).mono fun _ _ ⟨he, B⟩ => ⟨0, 15, he, rfl, rfl, ((Below.refl _ w1).al _).trans' B⟩)
    go_enter Tryz.func7, Tryz.ntmps7
    go_upto_region 1 with fail
    rw [HQ.out]
    go_upto_region 2 with fail
    rw [HK.out]
    generalize wrap64 (c.tmod 11) = gg
    generalize c.tmod 11 = gt
    clear hW
    go_upto_region 3 with (go_at_call 43; refine (RArity4 _).mono ?_; rintro e w1 ⟨rfl, B1⟩)
    have H := hdo w1 B1
    go_wp2_with fail
    refine H.mono ?_
    clear H hdo
    rintro e w2 ⟨v, r, v', rfl, hv, rfl, rfl, B2⟩
    obtain rfl : v' = 0 := by
      rcases hv with ⟨_, h⟩ | ⟨_, h⟩ <;> exact h
    clear hv
    have HF := Lib.hid (show ∀ w3, Below w2.heap.size w2 w3 → Below w.heap.size w w3 from fun w3 B3 => BW.out.trans' (B1.trans' (B2.trans' B3)))
    clear hR B1 B2
    go_wp2_with fail
    refine (awake24 _).mono ?_
    rintro e w3 ⟨rfl, B3⟩

    go_wp2
    go_ret
    exact ⟨rfl, by rw [← HQ.out]; exact HF.out w3 B3⟩
set_option maxHeartbeats 400000 in
theorem law5 (p c x0 x1 x2 x3 x4 : Int) (u0 : U64 x0) (u1 : U64 x1) (u2 : U64 x2) (u3 : U64 x3) (u4 : U64 x4) (hc : wrap64 (1 + wrap64 (c.tmod 11)) = 5) (w : World) : Calls Tryz.prog 7 #[.int .i64 p, .int .u8 c, .agg #[.int .u64 x0, .int .u64 x1, .int .u64 x2, .int .u64 x3, .int .u64 x4]] w fun e w' => e = .returned (.bool true) ∧ Below w.heap.size w w' := by
  have S0 := (S1' w).alloc (.cells #[.int .u64 x0, .int .u64 x1, .int .u64 x2, .int .u64 x3, .int .u64 x4] 106 (0,0))
  generalize hW : w.alloc (.cells #[.int .u64 x0, .int .u64 x1, .int .u64 x2, .int .u64 x3, .int .u64 x4] 106 (0,0)) = W at S0
  generalize hq : w.heap.size = q at S0
  have hb := S0.blk
  have hR : ∀ V, Below W.heap.size W V → Rv V 1 (.slice (some ⟨q, 0, none⟩) 3 5) 3 ([x0, x1, x2].map uv) := fun V B => ⟨rfl, .inr ⟨q, 0, 5, rfl, by decide, by decide, blk_lt (blkB B hb), fun j u hj => by
    have hb2 := blkB B hb
    rcases (show j = 0 ∨ j = 1 ∨ j = 2 by
      have := (List.getElem?_eq_some_iff.1 hj).1
      simp at this; omega) with rfl | rfl | rfl <;> (cases hj; rw [blk_cell hb2]; rfl)⟩⟩
  have HW := Lib.hid hW
  have HQ := Lib.hid hq
  have BW := Lib.hid (S0.below_all rfl)
  have HK := Lib.hid hc
  clear hb S0 hq hc
  by_cases hw : x2 ≤ 8
  · skip
    have hdo := fun w1 (B1 : Below W.heap.size W w1) => Do_run5 none p none 0 [] (some ⟨q, 0, none⟩) 5 0 x0 x1 x2 hw w1 (hR w1 B1) (fun v r w' => v = 0 ∧ r = 15 ∧ Below w1.heap.size w1 w')
      ((do_nil5 w1.heap.size p none 0 [] (some ⟨q, 0, none⟩) 5 0 x0 x1 x2 _ ⟨heap_alloc_new w1 _, (hR w1 B1).below ((Below.refl _ w1).al _), ⟨rfl, .inl ⟨rfl, rfl⟩⟩, by intro x hx; simp at hx; rcases hx with rfl | rfl | rfl <;> assumption⟩).mono fun _ _ ⟨he, B⟩ => ⟨0, 15, he, rfl, rfl, ((Below.refl _ w1).al _).trans' B⟩)
    go_enter Tryz.func7, Tryz.ntmps7
    go_upto_region 1 with fail
    rw [HQ.out]
    go_upto_region 2 with fail
    rw [HK.out]
    generalize wrap64 (c.tmod 11) = gg
    generalize c.tmod 11 = gt
    clear hW
    go_upto_region 3 with (go_at_call 43; refine (RArity5 _).mono ?_; rintro e w1 ⟨rfl, B1⟩)
    have H := hdo w1 B1
    go_wp2_with fail
    refine H.mono ?_
    clear H hdo
    rintro e w2 ⟨v, r, v', rfl, hv, rfl, rfl, B2⟩
    obtain rfl : v' = 0 := by
      rcases hv with ⟨_, h⟩ | ⟨_, h⟩ <;> exact h
    clear hv
    have HF := Lib.hid (show ∀ w3, Below w2.heap.size w2 w3 → Below w.heap.size w w3 from fun w3 B3 => BW.out.trans' (B1.trans' (B2.trans' B3)))
    clear hR B1 B2
    go_wp2_with fail
    refine (awake24 _).mono ?_
    rintro e w3 ⟨rfl, B3⟩

    go_wp2
    go_ret
    exact ⟨rfl, by rw [← HQ.out]; exact HF.out w3 B3⟩
  · have hw : 8 < x2 := by omega
    have hdo := fun w1 (B1 : Below W.heap.size W w1) => Do_wide5 none p none 0 [] (some ⟨q, 0, none⟩) 5 0 x0 x1 x2 hw w1 (hR w1 B1)
    go_enter Tryz.func7, Tryz.ntmps7
    go_upto_region 1 with fail
    rw [HQ.out]
    go_upto_region 2 with fail
    rw [HK.out]
    generalize wrap64 (c.tmod 11) = gg
    generalize c.tmod 11 = gt
    clear hW
    go_upto_region 3 with (go_at_call 43; refine (RArity5 _).mono ?_; rintro e w1 ⟨rfl, B1⟩)
    have H := hdo w1 B1
    go_wp2_with fail
    refine H.mono ?_
    clear H hdo
    rintro e w2 ⟨rfl, rfl⟩
    have HF := Lib.hid (show ∀ w3, Below w2.heap.size w2 w3 → Below w.heap.size w w3 from fun w3 B3 => BW.out.trans' (B1.trans' B3))
    have hck := fun w3 (B3 : Below w2.heap.size w2 w3) => RCheck5 (some ⟨q, 0, none⟩) 5 x0 x1 x2 hw u2 w3 (hR w3 (B1.trans' B3))
    clear hR B1
    go_wp2_with fail
    refine (awake24 _).mono ?_
    rintro e w3 ⟨rfl, B3⟩
    have H := hck w3 B3
    go_wp2_with (go_at_call 44; refine H.mono ?_; clear H hck; rintro e w4 ⟨rfl, B4⟩)
    have B3 := B3.trans' B4
    go_ret
    exact ⟨rfl, by rw [← HQ.out]; exact HF.out w4 B3⟩
set_option maxHeartbeats 400000 in
theorem law6 (p c x0 x1 x2 x3 x4 : Int) (u0 : U64 x0) (u1 : U64 x1) (u2 : U64 x2) (u3 : U64 x3) (u4 : U64 x4) (hc : wrap64 (1 + wrap64 (c.tmod 11)) = 6) (w : World) : Calls Tryz.prog 7 #[.int .i64 p, .int .u8 c, .agg #[.int .u64 x0, .int .u64 x1, .int .u64 x2, .int .u64 x3, .int .u64 x4]] w fun e w' => e = .returned (.bool true) ∧ Below w.heap.size w w' := by
  have S0 := (S1' w).alloc (.cells #[.int .u64 x0, .int .u64 x1, .int .u64 x2, .int .u64 x3, .int .u64 x4] 106 (0,0))
  generalize hW : w.alloc (.cells #[.int .u64 x0, .int .u64 x1, .int .u64 x2, .int .u64 x3, .int .u64 x4] 106 (0,0)) = W at S0
  generalize hq : w.heap.size = q at S0
  have hb := S0.blk
  have hR : ∀ V, Below W.heap.size W V → Rv V 1 (.slice (some ⟨q, 0, none⟩) 4 5) 4 ([x0, x1, x2, x3].map uv) := fun V B => ⟨rfl, .inr ⟨q, 0, 5, rfl, by decide, by decide, blk_lt (blkB B hb), fun j u hj => by
    have hb2 := blkB B hb
    rcases (show j = 0 ∨ j = 1 ∨ j = 2 ∨ j = 3 by
      have := (List.getElem?_eq_some_iff.1 hj).1
      simp at this; omega) with rfl | rfl | rfl | rfl <;> (cases hj; rw [blk_cell hb2]; rfl)⟩⟩
  have HW := Lib.hid hW
  have HQ := Lib.hid hq
  have BW := Lib.hid (S0.below_all rfl)
  have HK := Lib.hid hc
  clear hb S0 hq hc
  by_cases hw : x2 ≤ 8
  · skip
    obtain ⟨m2, rfl⟩ := Int.eq_ofNat_of_zero_le u2.1
    obtain ⟨m3, rfl⟩ := Int.eq_ofNat_of_zero_le u3.1
    have hdo := fun w1 (B1 : Below W.heap.size W w1) => Do_run6 none p none 0 [] (some ⟨q, 0, none⟩) 5 0 x0 x1 (m2 : Int) (m3 : Int) hw w1 (hR w1 B1) (fun v r w' => v = 0 ∧ r = 15 ∧ Below w1.heap.size w1 w')
      ((do_nil6 w1.heap.size p none 0 [] (some ⟨q, 0, none⟩) 5 0 x0 x1 m2 m3 (by omega) _ ⟨heap_alloc_new w1 _, (hR w1 B1).below ((Below.refl _ w1).al _), ⟨rfl, .inl ⟨rfl, rfl⟩⟩, by intro x hx; simp at hx; rcases hx with rfl | rfl | rfl | rfl <;> assumption⟩).mono fun _ _ ⟨he, B⟩ => ⟨0, 15, he, rfl, rfl, ((Below.refl _ w1).al _).trans' B⟩)
    go_enter Tryz.func7, Tryz.ntmps7
    go_upto_region 1 with fail
    rw [HQ.out]
    go_upto_region 2 with fail
    rw [HK.out]
    generalize wrap64 (c.tmod 11) = gg
    generalize c.tmod 11 = gt
    clear hW
    go_upto_region 3 with (go_at_call 43; refine (RArity6 _).mono ?_; rintro e w1 ⟨rfl, B1⟩)
    have H := hdo w1 B1
    go_wp2_with fail
    refine H.mono ?_
    clear H hdo
    rintro e w2 ⟨v, r, v', rfl, hv, rfl, rfl, B2⟩
    obtain rfl : v' = 0 := by
      rcases hv with ⟨_, h⟩ | ⟨_, h⟩ <;> exact h
    clear hv
    have HF := Lib.hid (show ∀ w3, Below w2.heap.size w2 w3 → Below w.heap.size w w3 from fun w3 B3 => BW.out.trans' (B1.trans' (B2.trans' B3)))
    clear hR B1 B2
    go_wp2_with fail
    refine (awake24 _).mono ?_
    rintro e w3 ⟨rfl, B3⟩

    go_wp2
    go_ret
    exact ⟨rfl, by rw [← HQ.out]; exact HF.out w3 B3⟩
  · have hw : 8 < x2 := by omega
    have hdo := fun w1 (B1 : Below W.heap.size W w1) => Do_wide6 none p none 0 [] (some ⟨q, 0, none⟩) 5 0 x0 x1 x2 x3 hw w1 (hR w1 B1)
    go_enter Tryz.func7, Tryz.ntmps7
    go_upto_region 1 with fail
    rw [HQ.out]
    go_upto_region 2 with fail
    rw [HK.out]
    generalize wrap64 (c.tmod 11) = gg
    generalize c.tmod 11 = gt
    clear hW
    go_upto_region 3 with (go_at_call 43; refine (RArity6 _).mono ?_; rintro e w1 ⟨rfl, B1⟩)
    have H := hdo w1 B1
    go_wp2_with fail
    refine H.mono ?_
    clear H hdo
    rintro e w2 ⟨rfl, rfl⟩
    have HF := Lib.hid (show ∀ w3, Below w2.heap.size w2 w3 → Below w.heap.size w w3 from fun w3 B3 => BW.out.trans' (B1.trans' B3))
    have hck := fun w3 (B3 : Below w2.heap.size w2 w3) => RCheck6 (some ⟨q, 0, none⟩) 5 x0 x1 x2 x3 hw u2 w3 (hR w3 (B1.trans' B3))
    clear hR B1
    go_wp2_with fail
    refine (awake24 _).mono ?_
    rintro e w3 ⟨rfl, B3⟩
    have H := hck w3 B3
    go_wp2_with (go_at_call 44; refine H.mono ?_; clear H hck; rintro e w4 ⟨rfl, B4⟩)
    have B3 := B3.trans' B4
    go_ret
    exact ⟨rfl, by rw [← HQ.out]; exact HF.out w4 B3⟩
set_option maxHeartbeats 400000 in
theorem law7 (p c x0 x1 x2 x3 x4 : Int) (u0 : U64 x0) (u1 : U64 x1) (u2 : U64 x2) (u3 : U64 x3) (u4 : U64 x4) (hc : wrap64 (1 + wrap64 (c.tmod 11)) = 7) (w : World) : Calls Tryz.prog 7 #[.int .i64 p, .int .u8 c, .agg #[.int .u64 x0, .int .u64 x1, .int .u64 x2, .int .u64 x3, .int .u64 x4]] w fun e w' => e = .returned (.bool true) ∧ Below w.heap.size w w' := by
  have S0 := (S1' w).alloc (.cells #[.int .u64 x0, .int .u64 x1, .int .u64 x2, .int .u64 x3, .int .u64 x4] 106 (0,0))
  generalize hW : w.alloc (.cells #[.int .u64 x0, .int .u64 x1, .int .u64 x2, .int .u64 x3, .int .u64 x4] 106 (0,0)) = W at S0
  generalize hq : w.heap.size = q at S0
  have hb := S0.blk
  have hR : ∀ V, Below W.heap.size W V → Rv V 1 (.slice (some ⟨q, 0, none⟩) 5 5) 5 ([x0, x1, x2, x3, x4].map uv) := fun V B => ⟨rfl, .inr ⟨q, 0, 5, rfl, by decide, by decide, blk_lt (blkB B hb), fun j u hj => by
    have hb2 := blkB B hb
    rcases (show j = 0 ∨ j = 1 ∨ j = 2 ∨ j = 3 ∨ j = 4 by
      have := (List.getElem?_eq_some_iff.1 hj).1
      simp at this; omega) with rfl | rfl | rfl | rfl | rfl <;> (cases hj; rw [blk_cell hb2]; rfl)⟩⟩
  have HW := Lib.hid hW
  have HQ := Lib.hid hq
  have BW := Lib.hid (S0.below_all rfl)
  have HK := Lib.hid hc
  clear hb S0 hq hc
  · skip
    have hdo := fun w1 (B1 : Below W.heap.size W w1) => Do_run7 none p none 0 [] (some ⟨q, 0, none⟩) 5 0 x0 x1 x2 x3 x4 w1 (hR w1 B1) (fun v r w' => v = 0 ∧ r = 15 ∧ Below w1.heap.size w1 w')
      ((do_nil7 w1.heap.size p none 0 [] (some ⟨q, 0, none⟩) 5 0 x0 x1 x2 x3 x4 _ ⟨heap_alloc_new w1 _, (hR w1 B1).below ((Below.refl _ w1).al _), ⟨rfl, .inl ⟨rfl, rfl⟩⟩, by intro x hx; simp at hx; rcases hx with rfl | rfl | rfl | rfl | rfl <;> assumption⟩).mono fun _ _ ⟨he, B⟩ => ⟨0, 15, he, rfl, rfl, ((Below.refl _ w1).al _).trans' B⟩)
    go_enter Tryz.func7, Tryz.ntmps7
    go_upto_region 1 with fail
    rw [HQ.out]
    go_upto_region 2 with fail
    rw [HK.out]
    generalize wrap64 (c.tmod 11) = gg
    generalize c.tmod 11 = gt
    clear hW
    go_upto_region 3 with (go_at_call 43; refine (RArity7 _).mono ?_; rintro e w1 ⟨rfl, B1⟩)
    have H := hdo w1 B1
    go_wp2_with fail
    refine H.mono ?_
    clear H hdo
    rintro e w2 ⟨v, r, v', rfl, hv, rfl, rfl, B2⟩
    obtain rfl : v' = 0 := by
      rcases hv with ⟨_, h⟩ | ⟨_, h⟩ <;> exact h
    clear hv
    have HF := Lib.hid (show ∀ w3, Below w2.heap.size w2 w3 → Below w.heap.size w w3 from fun w3 B3 => BW.out.trans' (B1.trans' (B2.trans' B3)))
    clear hR B1 B2
    go_wp2_with fail
    refine (awake24 _).mono ?_
    rintro e w3 ⟨rfl, B3⟩

    go_wp2
    go_ret
    exact ⟨rfl, by rw [← HQ.out]; exact HF.out w3 B3⟩
set_option maxHeartbeats 400000 in
theorem law8 (p c x0 x1 x2 x3 x4 : Int) (u0 : U64 x0) (u1 : U64 x1) (u2 : U64 x2) (u3 : U64 x3) (u4 : U64 x4) (hc : wrap64 (1 + wrap64 (c.tmod 11)) = 8) (w : World) : Calls Tryz.prog 7 #[.int .i64 p, .int .u8 c, .agg #[.int .u64 x0, .int .u64 x1, .int .u64 x2, .int .u64 x3, .int .u64 x4]] w fun e w' => e = .returned (.bool true) ∧ Below w.heap.size w w' := by
  have S0 := (S1' w).alloc (.cells #[.int .u64 x0, .int .u64 x1, .int .u64 x2, .int .u64 x3, .int .u64 x4] 106 (0,0))
  generalize hW : w.alloc (.cells #[.int .u64 x0, .int .u64 x1, .int .u64 x2, .int .u64 x3, .int .u64 x4] 106 (0,0)) = W at S0
  generalize hq : w.heap.size = q at S0
  have hb := S0.blk
  have hR : ∀ V, Below W.heap.size W V → Rv V 1 (.slice (some ⟨q, 0, none⟩) 2 5) 2 ([x0, x1].map uv) := fun V B => ⟨rfl, .inr ⟨q, 0, 5, rfl, by decide, by decide, blk_lt (blkB B hb), fun j u hj => by
    have hb2 := blkB B hb
    rcases (show j = 0 ∨ j = 1 by
      have := (List.getElem?_eq_some_iff.1 hj).1
      simp at this; omega) with rfl | rfl <;> (cases hj; rw [blk_cell hb2]; rfl)⟩⟩
  have HW := Lib.hid hW
  have HQ := Lib.hid hq
  have BW := Lib.hid (S0.below_all rfl)
  have HK := Lib.hid hc
  clear hb S0 hq hc
  · skip
    have hdo := fun w1 (B1 : Below W.heap.size W w1) => Do_run8 none p none 0 [] (some ⟨q, 0, none⟩) 5 0 x0 x1 w1 (hR w1 B1) (fun v r w' => v = 0 ∧ r = 15 ∧ Below w1.heap.size w1 w')
      ((do_nil8 w1.heap.size p none 0 [] (some ⟨q, 0, none⟩) 5 0 x0 x1 _ ⟨heap_alloc_new w1 _, (hR w1 B1).below ((Below.refl _ w1).al _), ⟨rfl, .inl ⟨rfl, rfl⟩⟩, by intro x hx; simp at hx; rcases hx with rfl | rfl <;> assumption⟩).mono fun _ _ ⟨he, B⟩ => ⟨0, 15, he, rfl, rfl, ((Below.refl _ w1).al _).trans' B⟩)
    go_enter Tryz.func7, Tryz.ntmps7
    go_upto_region 1 with fail
    rw [HQ.out]
    go_upto_region 2 with fail
    rw [HK.out]
    generalize wrap64 (c.tmod 11) = gg
    generalize c.tmod 11 = gt
    clear hW
    go_upto_region 3 with (go_at_call 43; refine (RArity8 _).mono ?_; rintro e w1 ⟨rfl, B1⟩)
    have H := hdo w1 B1
    go_wp2_with fail
    refine H.mono ?_
    clear H hdo
    rintro e w2 ⟨v, r, v', rfl, hv, rfl, rfl, B2⟩
    obtain rfl : v' = 0 := by
      rcases hv with ⟨_, h⟩ | ⟨_, h⟩ <;> exact h
    clear hv
    have HF := Lib.hid (show ∀ w3, Below w2.heap.size w2 w3 → Below w.heap.size w w3 from fun w3 B3 => BW.out.trans' (B1.trans' (B2.trans' B3)))
    clear hR B1 B2
    go_wp2_with fail
    refine (awake24 _).mono ?_
    rintro e w3 ⟨rfl, B3⟩

    go_wp2
    go_ret
    exact ⟨rfl, by rw [← HQ.out]; exact HF.out w3 B3⟩
set_option maxHeartbeats 400000 in
theorem law9 (p c x0 x1 x2 x3 x4 : Int) (u0 : U64 x0) (u1 : U64 x1) (u2 : U64 x2) (u3 : U64 x3) (u4 : U64 x4) (hc : wrap64 (1 + wrap64 (c.tmod 11)) = 9) (w : World) : Calls Tryz.prog 7 #[.int .i64 p, .int .u8 c, .agg #[.int .u64 x0, .int .u64 x1, .int .u64 x2, .int .u64 x3, .int .u64 x4]] w fun e w' => e = .returned (.bool true) ∧ Below w.heap.size w w' := by
  have S0 := (S1' w).alloc (.cells #[.int .u64 x0, .int .u64 x1, .int .u64 x2, .int .u64 x3, .int .u64 x4] 106 (0,0))
  generalize hW : w.alloc (.cells #[.int .u64 x0, .int .u64 x1, .int .u64 x2, .int .u64 x3, .int .u64 x4] 106 (0,0)) = W at S0
  generalize hq : w.heap.size = q at S0
  have hb := S0.blk
  have hR : ∀ V, Below W.heap.size W V → Rv V 1 (.slice (some ⟨q, 0, none⟩) 2 5) 2 ([x0, x1].map uv) := fun V B => ⟨rfl, .inr ⟨q, 0, 5, rfl, by decide, by decide, blk_lt (blkB B hb), fun j u hj => by
    have hb2 := blkB B hb
    rcases (show j = 0 ∨ j = 1 by
      have := (List.getElem?_eq_some_iff.1 hj).1
      simp at this; omega) with rfl | rfl <;> (cases hj; rw [blk_cell hb2]; rfl)⟩⟩
  have HW := Lib.hid hW
  have HQ := Lib.hid hq
  have BW := Lib.hid (S0.below_all rfl)
  have HK := Lib.hid hc
  clear hb S0 hq hc
  · skip
    have hdo := fun w1 (B1 : Below W.heap.size W w1) => Do_run9 none p none 0 [] (some ⟨q, 0, none⟩) 5 0 x0 x1 w1 (hR w1 B1) (fun v r w' => v = 0 ∧ r = 15 ∧ Below w1.heap.size w1 w')
      ((do_nil9 w1.heap.size p none 0 [] (some ⟨q, 0, none⟩) 5 0 x0 x1 _ ⟨heap_alloc_new w1 _, (hR w1 B1).below ((Below.refl _ w1).al _), ⟨rfl, .inl ⟨rfl, rfl⟩⟩, by intro x hx; simp at hx; rcases hx with rfl | rfl <;> assumption⟩).mono fun _ _ ⟨he, B⟩ => ⟨0, 15, he, rfl, rfl, ((Below.refl _ w1).al _).trans' B⟩)
    go_enter Tryz.func7, Tryz.ntmps7
    go_upto_region 1 with fail
    rw [HQ.out]
    go_upto_region 2 with fail
    rw [HK.out]
    generalize wrap64 (c.tmod 11) = gg
    generalize c.tmod 11 = gt
    clear hW
    go_upto_region 3 with (go_at_call 43; refine (RArity9 _).mono ?_; rintro e w1 ⟨rfl, B1⟩)
    have H := hdo w1 B1
    go_wp2_with fail
    refine H.mono ?_
    clear H hdo
    rintro e w2 ⟨v, r, v', rfl, hv, rfl, rfl, B2⟩
    obtain rfl : v' = 0 := by
      rcases hv with ⟨_, h⟩ | ⟨_, h⟩ <;> exact h
    clear hv
    have HF := Lib.hid (show ∀ w3, Below w2.heap.size w2 w3 → Below w.heap.size w w3 from fun w3 B3 => BW.out.trans' (B1.trans' (B2.trans' B3)))
    clear hR B1 B2
    go_wp2_with fail
    refine (awake24 _).mono ?_
    rintro e w3 ⟨rfl, B3⟩

    go_wp2
    go_ret
    exact ⟨rfl, by rw [← HQ.out]; exact HF.out w3 B3⟩
set_option maxHeartbeats 400000 in
theorem law10 (p c x0 x1 x2 x3 x4 : Int) (u0 : U64 x0) (u1 : U64 x1) (u2 : U64 x2) (u3 : U64 x3) (u4 : U64 x4) (hc : wrap64 (1 + wrap64 (c.tmod 11)) = 10) (w : World) : Calls Tryz.prog 7 #[.int .i64 p, .int .u8 c, .agg #[.int .u64 x0, .int .u64 x1, .int .u64 x2, .int .u64 x3, .int .u64 x4]] w fun e w' => e = .returned (.bool true) ∧ Below w.heap.size w w' := by
  have S0 := (S1' w).alloc (.cells #[.int .u64 x0, .int .u64 x1, .int .u64 x2, .int .u64 x3, .int .u64 x4] 106 (0,0))
  generalize hW : w.alloc (.cells #[.int .u64 x0, .int .u64 x1, .int .u64 x2, .int .u64 x3, .int .u64 x4] 106 (0,0)) = W at S0
  generalize hq : w.heap.size = q at S0
  have hb := S0.blk
  have hR : ∀ V, Below W.heap.size W V → Rv V 1 (.slice (some ⟨q, 0, none⟩) 2 5) 2 ([x0, x1].map uv) := fun V B => ⟨rfl, .inr ⟨q, 0, 5, rfl, by decide, by decide, blk_lt (blkB B hb), fun j u hj => by
    have hb2 := blkB B hb
    rcases (show j = 0 ∨ j = 1 by
      have := (List.getElem?_eq_some_iff.1 hj).1
      simp at this; omega) with rfl | rfl <;> (cases hj; rw [blk_cell hb2]; rfl)⟩⟩
  have HW := Lib.hid hW
  have HQ := Lib.hid hq
  have BW := Lib.hid (S0.below_all rfl)
  have HK := Lib.hid hc
  clear hb S0 hq hc
  · skip
    have hdo := fun w1 (B1 : Below W.heap.size W w1) => Do_run10 none p none 0 [] (some ⟨q, 0, none⟩) 5 0 x0 x1 w1 (hR w1 B1) (fun v r w' => v = 0 ∧ r = 15 ∧ Below w1.heap.size w1 w')
      ((do_nil10 w1.heap.size p none 0 [] (some ⟨q, 0, none⟩) 5 0 x0 x1 _ ⟨heap_alloc_new w1 _, (hR w1 B1).below ((Below.refl _ w1).al _), ⟨rfl, .inl ⟨rfl, rfl⟩⟩, by intro x hx; simp at hx; rcases hx with rfl | rfl <;> assumption⟩).mono fun _ _ ⟨he, B⟩ => ⟨0, 15, he, rfl, rfl, ((Below.refl _ w1).al _).trans' B⟩)
    go_enter Tryz.func7, Tryz.ntmps7
    go_upto_region 1 with fail
    rw [HQ.out]
    go_upto_region 2 with fail
    rw [HK.out]
    generalize wrap64 (c.tmod 11) = gg
    generalize c.tmod 11 = gt
    clear hW
    go_upto_region 3 with (go_at_call 43; refine (RArity10 _).mono ?_; rintro e w1 ⟨rfl, B1⟩)
    have H := hdo w1 B1
    go_wp2_with fail
    refine H.mono ?_
    clear H hdo
    rintro e w2 ⟨v, r, v', rfl, hv, rfl, rfl, B2⟩
    obtain rfl : v' = 0 := by
      rcases hv with ⟨_, h⟩ | ⟨_, h⟩ <;> exact h
    clear hv
    have HF := Lib.hid (show ∀ w3, Below w2.heap.size w2 w3 → Below w.heap.size w w3 from fun w3 B3 => BW.out.trans' (B1.trans' (B2.trans' B3)))
    clear hR B1 B2
    go_wp2_with fail
    refine (awake24 _).mono ?_
    rintro e w3 ⟨rfl, B3⟩

    go_wp2
    go_ret
    exact ⟨rfl, by rw [← HQ.out]; exact HF.out w3 B3⟩
set_option maxHeartbeats 400000 in
theorem law11 (p c x0 x1 x2 x3 x4 : Int) (u0 : U64 x0) (u1 : U64 x1) (u2 : U64 x2) (u3 : U64 x3) (u4 : U64 x4) (hc : wrap64 (1 + wrap64 (c.tmod 11)) = 11) (w : World) : Calls Tryz.prog 7 #[.int .i64 p, .int .u8 c, .agg #[.int .u64 x0, .int .u64 x1, .int .u64 x2, .int .u64 x3, .int .u64 x4]] w fun e w' => e = .returned (.bool true) ∧ Below w.heap.size w w' := by
  have S0 := (S1' w).alloc (.cells #[.int .u64 x0, .int .u64 x1, .int .u64 x2, .int .u64 x3, .int .u64 x4] 106 (0,0))
  generalize hW : w.alloc (.cells #[.int .u64 x0, .int .u64 x1, .int .u64 x2, .int .u64 x3, .int .u64 x4] 106 (0,0)) = W at S0
  generalize hq : w.heap.size = q at S0
  have hb := S0.blk
  have hR : ∀ V, Below W.heap.size W V → Rv V 1 (.slice (some ⟨q, 0, none⟩) 1 5) 1 ([x0].map uv) := fun V B => ⟨rfl, .inr ⟨q, 0, 5, rfl, by decide, by decide, blk_lt (blkB B hb), fun j u hj => by
    have hb2 := blkB B hb
    rcases (show j = 0 by
      have := (List.getElem?_eq_some_iff.1 hj).1
      simp at this; omega) with rfl <;> (cases hj; rw [blk_cell hb2]; rfl)⟩⟩
  have HW := Lib.hid hW
  have HQ := Lib.hid hq
  have BW := Lib.hid (S0.below_all rfl)
  have HK := Lib.hid hc
  clear hb S0 hq hc
  · skip
    have hdo := fun w1 (B1 : Below W.heap.size W w1) => Do_run11 none p none 0 [] (some ⟨q, 0, none⟩) 5 0 x0 w1 (hR w1 B1) (fun v r w' => v = 0 ∧ r = 15 ∧ Below w1.heap.size w1 w')
      ((do_nil11 w1.heap.size p none 0 [] (some ⟨q, 0, none⟩) 5 0 x0 _ ⟨heap_alloc_new w1 _, (hR w1 B1).below ((Below.refl _ w1).al _), ⟨rfl, .inl ⟨rfl, rfl⟩⟩, by intro x hx; simp at hx; subst hx; exact u0⟩).mono fun _ _ ⟨he, B⟩ => ⟨0, 15, he, rfl, rfl, ((Below.refl _ w1).al _).trans' B⟩)
    go_enter Tryz.func7, Tryz.ntmps7
    go_upto_region 1 with fail
    rw [HQ.out]
    go_upto_region 2 with fail
    rw [HK.out]
    generalize wrap64 (c.tmod 11) = gg
    generalize c.tmod 11 = gt
    clear hW
    go_upto_region 3 with (go_at_call 43; refine (RArity11 _).mono ?_; rintro e w1 ⟨rfl, B1⟩)
    have H := hdo w1 B1
    go_wp2_with fail
    refine H.mono ?_
    clear H hdo
    rintro e w2 ⟨v, r, v', rfl, hv, rfl, rfl, B2⟩
    obtain rfl : v' = 0 := by
      rcases hv with ⟨_, h⟩ | ⟨_, h⟩ <;> exact h
    clear hv
    have HF := Lib.hid (show ∀ w3, Below w2.heap.size w2 w3 → Below w.heap.size w w3 from fun w3 B3 => BW.out.trans' (B1.trans' (B2.trans' B3)))
    clear hR B1 B2
    go_wp2_with fail
    refine (awake24 _).mono ?_
    rintro e w3 ⟨rfl, B3⟩

    go_wp2
    go_ret
    exact ⟨rfl, by rw [← HQ.out]; exact HF.out w3 B3⟩
end Go.Proofs.YthnfiejdkhejlaaGreat
