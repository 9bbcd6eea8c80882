/- Package heap: Load. -/
import Derived.Test.YthnfiejdkhejlaaGreatJ10
set_option linter.all false
set_option maxRecDepth 100000
namespace Go.Proofs.YthnfiejdkhejlaaGreat
open Go.RowKit Go.Sl Go.Shelf
set_option maxHeartbeats 1600000 in
theorem Load_in (bh : Nat) (s : Hs) (x p : Int) (off : Nat) (t : Ty) (e : Ent) (o m n : Nat) (ow : Own s x p t e o m) (lv : Live s p) (hw : withinB off n (tsize t.len t.fs) = true) {w W : World} {h : Hl} {X : As}
    (S : St w h W (Hp bh s * X)) :
    Calls Tryz.prog 13 #[.pointer (some ⟨bh, 0, none⟩), .int .i64 p, .int .u64 x, .int .i64 off, .int .i64 n] W fun e' W' => ∃ ad cp, e' = .returned (.tuple #[.slice ad n cp, .int .i64 0]) ∧ St w h W' (Hp bh s * (rowAs 5 1 (.slice ad n cp) n (((s.bs.drop (o + off)).take n).map bv) * X)) := by
  obtain ⟨W0, hW0, S0⟩ := S.al5 (.cells #[.pointer (some ⟨bh, 0, none⟩)] 31 (0,0)) (.cells #[.int .i64 p] 3 (0,0)) (.cells #[.int .u64 x] 23 (0,0)) (.cells #[.int .i64 off] 3 (0,0)) (.cells #[.int .i64 n] 3 (0,0))
  have hlg : ({ p := p, op := 5, hd := x, arg := u64i off, err := 0 } : Evt).ok :=
    ⟨lv.p1.1, lv.p1.2, .inl ⟨(by decide : (1:Int) ≤ 5), (by decide : (5:Int) ≤ 11)⟩, ow.hx, u64i_ok _, (by decide : (0:Int) ≤ 0), (by decide : (0:Int) ≤ 29)⟩
  have hact := fun {b1 b2 b3 b4 b5 b6 be W} (S : St w h W (Hp bh s * (pts be (evObj ⟨p, 5, x, u64i off, 0⟩) * (bxH b1 bh * (bxI b2 p * (bxU b3 x * (bxI b4 n * (bxI b5 off * (bxS b6 (.slice none 0 0) * X))))))))) =>
    act_get bh be 63 #[.pointer (some ⟨b1, 0, none⟩), .pointer (some ⟨b2, 0, none⟩), .pointer (some ⟨b3, 0, none⟩), .pointer (some ⟨b4, 0, none⟩), .pointer (some ⟨b5, 0, none⟩), .pointer (some ⟨b6, 0, none⟩)] s ⟨p, 5, x, u64i off, 0⟩
      (fun er s' hd X' => ∃ ad cp, hd = x ∧ er = 0 ∧ s' = s ∧ X' = (bxH b1 bh * (bxI b2 p * (bxU b3 x * (bxI b4 n * (bxI b5 off * (bxS b6 (.slice ad n cp) * (rowAs 5 1 (.slice ad n cp) n (((s.bs.drop (o + off)).take n).map bv) * X))))))))
      (enters_of Tryz.func63 (by kernel_rfl) rfl) lv.a (.inr rfl) lv.room lv.fit
      (fun W1 S1 => (Load1_in bh be b1 b2 b3 b4 b5 b6 s ⟨p, 5, x, u64i off, 0⟩ x p off t e o m n ow hw S1).mono fun _ _ ⟨ad, cp, he, S'⟩ => ⟨0, _, x, _, ⟨ad, cp, rfl, rfl, rfl, rfl⟩, he, S'⟩)
      (fun er s' hd X' hq => by obtain ⟨_, _, h1, h2, h3, _⟩ := hq; rw [h1, h2, h3]; exact ⟨rfl, hlg⟩) S
  clear ow lv hlg S hw
  go_enter Tryz.func13, Tryz.ntmps13
  go_upto_region 1 with fail
  rw [← hW0]
  clear hW0
  generalize W.heap.size + 1 + 1 + 1 + 1 = q5 at *
  generalize W.heap.size + 1 + 1 + 1 = q4 at *
  generalize W.heap.size + 1 + 1 = q3 at *
  generalize W.heap.size + 1 = q2 at *
  generalize W.heap.size = q1 at *
  have S1 := S0.alloc (.cells #[.slice none 0 0] 49 (0,0))
  clear S0
  go_upto_region 2 with fail
  change Code.wp _ _ _ _ (W0.alloc (.cells #[.slice none 0 0] 49 (0,0)))
  generalize W0.alloc _ = W1 at *
  generalize W0.heap.size = q6 at *
  have c1 := blk_cell S1.b2.blk 0
  have c2 := blk_cell S1.b3.blk 0
  have c3 := blk_cell S1.b4.blk 0
  have c4 := blk_cell S1.b5.blk 0
  have S2 := (S1.alloc (evObj ⟨p, 5, x, u64i off, 0⟩)).eq (show _ = Hp bh s * (pts W1.heap.size (evObj ⟨p, 5, x, u64i off, 0⟩) * (bxH q1 bh * (bxI q2 p * (bxU q3 x * (bxI q5 n * (bxI q4 off * (bxS q6 (.slice none 0 0) * X))))))) from by unfold bxH bxI bxU bxS; ac_rfl)
  have H := hact S2
  clear hact S1 S2
  go_wp2_with fail
  refine H.mono ?_
  clear H c1 c2 c3 c4
  rintro e' w4 ⟨er, s', hd, X', ⟨ad, cp, rfl, rfl, rfl, rfl⟩, rfl, S4⟩
  have S6 := S4.b8
  have c6 := blk_cell S6.blk 0
  have S5 := Lib.hid S4.b2.drop.b2.drop.b2.drop.b2.drop.b2.drop.b2.drop.b2.drop
  clear S4 S6
  go_wp2
  go_ret2
  exact ⟨ad, cp, rfl, S5.out⟩
set_option maxHeartbeats 1600000 in
theorem Load_out (bh : Nat) (s : Hs) (x p : Int) (off : Int) (t : Ty) (e : Ent) (o m n : Nat) (ow : Own s x p t e o m) (lv : Live s p) (hw : withinB off n (tsize t.len t.fs) = false) {w W : World} {h : Hl} {X : As}
    (S : St w h W (Hp bh s * X)) :
    Calls Tryz.prog 13 #[.pointer (some ⟨bh, 0, none⟩), .int .i64 p, .int .u64 x, .int .i64 off, .int .i64 n] W fun e' W' => e' = .returned (.tuple #[.slice none 0 0, .int .i64 7]) ∧ St w h W' (Hp bh (s.log ⟨p, 5, x, u64i off, 7⟩) * X) := by
  obtain ⟨W0, hW0, S0⟩ := S.al5 (.cells #[.pointer (some ⟨bh, 0, none⟩)] 31 (0,0)) (.cells #[.int .i64 p] 3 (0,0)) (.cells #[.int .u64 x] 23 (0,0)) (.cells #[.int .i64 off] 3 (0,0)) (.cells #[.int .i64 n] 3 (0,0))
  have hlg : ({ p := p, op := 5, hd := x, arg := u64i off, err := 7 } : Evt).ok :=
    ⟨lv.p1.1, lv.p1.2, .inl ⟨(by decide : (1:Int) ≤ 5), (by decide : (5:Int) ≤ 11)⟩, ow.hx, u64i_ok _, (by decide : (0:Int) ≤ 7), (by decide : (7:Int) ≤ 29)⟩
  have hact := fun {b1 b2 b3 b4 b5 b6 be W} (S : St w h W (Hp bh s * (pts be (evObj ⟨p, 5, x, u64i off, 0⟩) * (bxH b1 bh * (bxI b2 p * (bxU b3 x * (bxI b4 n * (bxI b5 off * (bxS b6 (.slice none 0 0) * X))))))))) =>
    act_get bh be 63 #[.pointer (some ⟨b1, 0, none⟩), .pointer (some ⟨b2, 0, none⟩), .pointer (some ⟨b3, 0, none⟩), .pointer (some ⟨b4, 0, none⟩), .pointer (some ⟨b5, 0, none⟩), .pointer (some ⟨b6, 0, none⟩)] s ⟨p, 5, x, u64i off, 0⟩
      (fun er s' hd X' => hd = x ∧ er = 7 ∧ s' = s ∧ X' = (bxH b1 bh * (bxI b2 p * (bxU b3 x * (bxI b4 n * (bxI b5 off * (bxS b6 (.slice none 0 0) * X)))))))
      (enters_of Tryz.func63 (by kernel_rfl) rfl) lv.a (.inr rfl) lv.room lv.fit
      (fun W1 S1 => (Load1_out bh be b1 b2 b3 b4 b5 b6 s ⟨p, 5, x, u64i off, 0⟩ x p off t e o m n ow hw S1).mono fun _ _ ⟨he, S'⟩ => ⟨7, _, x, _, ⟨rfl, rfl, rfl, rfl⟩, he, S'⟩)
      (fun er s' hd X' hq => by obtain ⟨h1, h2, h3, _⟩ := hq; rw [h1, h2, h3]; exact ⟨rfl, hlg⟩) S
  clear ow lv hlg S hw
  go_enter Tryz.func13, Tryz.ntmps13
  go_upto_region 1 with fail
  rw [← hW0]
  clear hW0
  generalize W.heap.size + 1 + 1 + 1 + 1 = q5 at *
  generalize W.heap.size + 1 + 1 + 1 = q4 at *
  generalize W.heap.size + 1 + 1 = q3 at *
  generalize W.heap.size + 1 = q2 at *
  generalize W.heap.size = q1 at *
  have S1 := S0.alloc (.cells #[.slice none 0 0] 49 (0,0))
  clear S0
  go_upto_region 2 with fail
  change Code.wp _ _ _ _ (W0.alloc (.cells #[.slice none 0 0] 49 (0,0)))
  generalize W0.alloc _ = W1 at *
  generalize W0.heap.size = q6 at *
  have c1 := blk_cell S1.b2.blk 0
  have c2 := blk_cell S1.b3.blk 0
  have c3 := blk_cell S1.b4.blk 0
  have c4 := blk_cell S1.b5.blk 0
  have S2 := (S1.alloc (evObj ⟨p, 5, x, u64i off, 0⟩)).eq (show _ = Hp bh s * (pts W1.heap.size (evObj ⟨p, 5, x, u64i off, 0⟩) * (bxH q1 bh * (bxI q2 p * (bxU q3 x * (bxI q5 n * (bxI q4 off * (bxS q6 (.slice none 0 0) * X))))))) from by unfold bxH bxI bxU bxS; ac_rfl)
  have H := hact S2
  clear hact S1 S2
  go_wp2_with fail
  refine H.mono ?_
  clear H c1 c2 c3 c4
  rintro e' w4 ⟨er, s', hd, X', ⟨rfl, rfl, rfl, rfl⟩, rfl, S4⟩
  have S6 := S4.b8
  have c6 := blk_cell S6.blk 0
  have S5 := Lib.hid S4.b2.drop.b2.drop.b2.drop.b2.drop.b2.drop.b2.drop.b2.drop
  clear S4 S6
  go_wp2
  go_ret2
  exact ⟨rfl, S5.out⟩
end Go.Proofs.YthnfiejdkhejlaaGreat
/- Package heap: Alloc$1. -/
namespace Go.Proofs.YthnfiejdkhejlaaGreat
open Go.RowKit Go.Sl Go.Shelf
abbrev bxD (b : Nat) (x : Int) : As := pts b (.cells #[.int .u64 x] 22 (0,0))
abbrev bxE (b be : Nat) : As := pts b (.cells #[.pointer (some ⟨be, 0, none⟩)] 116 (0,0))
/-- An allocation that goes through. -/
structure CanA (s : Hs) (p : Int) (k : Nat) (t : Ty) (d i : Nat) (x : Sl1) : Prop where
  ek : ∃ hk : k < s.ts.length, s.ts[k] = t
  k255 : k < 255
  m : s.ts.length ≤ 1000
  f : ∀ t ∈ s.ts, t.fs.length ≤ 1000
  c : chkT t.len t.fs = 0
  p1 : 1 ≤ p ∧ p ≤ 64
  r : (rnd (tsize t.len t.fs)).2 = 0
  mt : s.mt.ok
  fits : s.mt.fits p ⟨(rnd (tsize t.len t.fs)).1, 1, 0⟩ = 0
  fl : s.fr.length ≤ 1000000
  fv : ValidP s.fr
  fe : (findE s.fr (tsize t.len t.fs)).2 = 0
  ed : (d : Int) < 18446744073709551616
  free : s.tb.s.free ≠ []
  ei : s.tb.s.free.getD (d % s.tb.s.free.length) 0 = i
  ex : s.tb.s.sl[i]? = some x
  xg : 0 ≤ x.gen ∧ x.gen ≤ 4294967295
  sl : s.tb.s.sl.length ≤ 1048576
  f2 : s.tb.s.free.length ≤ 1048576
  en : s.tb.en.length = s.tb.s.sl.length
  g : 1 ≤ s.tb.s.gen' i ∧ s.tb.s.gen' i < 4294967296
/-- The state behind an allocation. -/
def Hs.al (s : Hs) (p : Int) (k : Nat) (d i j : Nat) (n : Int) : Hs := { s with
  fr := cutL s.fr j (rnd n).1, tk := AL.set s.tk (best s.fr (rnd n).1).off (rnd n).1, mt := s.mt.add p ⟨(rnd n).1, 1, 0⟩,
  tb := s.tb.issue d ⟨packI i (s.tb.s.gen' i) (k + 1), p, k + 1, (best s.fr (rnd n).1).off, (rnd n).1⟩ }
set_option maxHeartbeats 3200000 in
theorem Alloc1_yes (bh be b1 b2 b3 b4 b5 : Nat) (s : Hs) (ev : Evt) (p : Int) (k : Nat) (t : Ty) (d i : Nat) (x : Sl1) (ca : CanA s p k t d i x) {w W : World} {h : Hl} {X : As}
    (S : St w h W (Hp bh s * (pts be (evObj ev) * (bxH b1 bh * (bxI b2 ((k : Int) + 1) * (bxI b3 p * (bxD b4 d * (bxE b5 be * X)))))))) :
    Calls Tryz.prog 51 #[.pointer (some ⟨b1, 0, none⟩), .pointer (some ⟨b2, 0, none⟩), .pointer (some ⟨b3, 0, none⟩), .pointer (some ⟨b4, 0, none⟩), .pointer (some ⟨b5, 0, none⟩)] W
      fun e' W' => ∃ j, (j < s.fr.length ∧ s.fr.getD j Ex.z = best s.fr (rnd (tsize t.len t.fs)).1 ∧ (rnd (tsize t.len t.fs)).1 ≤ (best s.fr (rnd (tsize t.len t.fs)).1).len) ∧ e' = .returned (.int .i64 0) ∧
        St w h W' (Hp bh (s.al p k d i j (tsize t.len t.fs)) * (pts be (evObj { ev with hd := packI i (s.tb.s.gen' i) (k + 1) }) * (bxH b1 bh * (bxI b2 ((k : Int) + 1) * (bxI b3 p * (bxD b4 d * (bxE b5 be * X))))))) := by
  obtain ⟨bA, bp, bt, bl, bm, bg, b7, S0⟩ := Hp.open S
  obtain ⟨⟨hk, hkt⟩, hk255, hm, hf, hc, hp1, hr, hmt, hfits, hfl, hfv, hfe, hd, hfree, hi, hx, hxg, hsl, hf2, hen, hg⟩ := ca
  have hlo := fun {W X} (S : St w h W (Reg bp s.ts * X)) => Lookup_yes bp s.ts k hk hm hf S
  have hsz := fun v w (hR : Rv w 2 v t.fs.length (t.fs.flatMap fenc)) => Size_any' v t.len t.fs w hR hc
  have hrn := fun w => Round_any (tsize t.len t.fs) w
  have hbd := rnd_bd _ hr
  have hqo : Qt.ok ⟨(rnd (tsize t.len t.fs)).1, 1, 0⟩ := ⟨by simp only; omega, (by decide : (0:Int) ≤ 1), (by decide : (0:Int) ≤ 0), by simp only; omega, (by decide : (1:Int) ≤ 9223372036854775807), (by decide : (0:Int) ≤ 9223372036854775807)⟩
  have hfi := fun {W X} (S : St w h W (s.mt.as bm * X)) => Rd.st (Fits_rd bm s.mt p _ hqo hmt) S
  have had := fun {W X} (S : St w h W (s.mt.as bm * X)) => Sp.st (Add_yes bm s.mt p _ hqo hmt hfits) S
  have hfu := fun {W X} (S : St w h W (s.tb.as bt * X)) => Sp.st (tbFull_sp bt s.tb hf2) S
  have hal := fun {W X} (S : St w h W (Ar bA s.fr s.tk s.bs * X)) => arAlloc_yes bA s.fr s.tk s.bs (tsize t.len t.fs) hfl hfv hfe S
  have his := fun o l {W X} (S : St w h W (s.tb.as bt * X)) => Sp.st (tbIssue_sp bt s.tb p (k + 1) o l d i x hp1 (by omega) hd hfree hi hx hxg hsl hf2 hen hg) S
  have hfe2 : s.tb.s.free.isEmpty = false := by cases hh : s.tb.s.free with
    | nil => exact absurd hh hfree
    | cons a l => rfl
  rw [hkt] at hlo
  rw [hfits] at hfi
  rw [hfe2] at hfu
  rw [hr] at hrn
  have HAL := Lib.hid (show ∀ j, s.al p k d i j (tsize t.len t.fs) = { s with
    fr := cutL s.fr j (rnd (tsize t.len t.fs)).1, tk := AL.set s.tk (best s.fr (rnd (tsize t.len t.fs)).1).off (rnd (tsize t.len t.fs)).1, mt := s.mt.add p ⟨(rnd (tsize t.len t.fs)).1, 1, 0⟩,
    tb := s.tb.issue d ⟨packI i (s.tb.s.gen' i) (k + 1), p, k + 1, (best s.fr (rnd (tsize t.len t.fs)).1).off, (rnd (tsize t.len t.fs)).1⟩ } from fun _ => rfl)
  clear hk hkt hk255 hm hf hc hp1 hmt hfits hfl hfv hfe hd hfree hi hx hxg hsl hf2 hen hg hfe2 hbd hqo hr
  generalize tsize t.len t.fs = n at *
  generalize hbe : best s.fr (rnd n).1 = bex at *
  generalize hpk : packI i (s.tb.s.gen' i) (k + 1) = pk at *
  generalize hsz0 : (rnd n).1 = sz at *
  obtain ⟨bo, blen⟩ := bex
  obtain ⟨len, l⟩ := t
  simp only at *
  clear hbe hpk hsz0
  have S0 := S0.b3
  have g1 := bcells S0.b2.blk 1
  have g2 := bcells (S.b3).blk 0
  have g3 := bcells (S.b4).blk 0
  have g2' := g2
  obtain ⟨RR, hRR⟩ : ∃ RR, RR = Reg bp s.ts * (pts bh (hpObj bA bp bt bl bm bg b7) * (Ar bA s.fr s.tk s.bs * (s.tb.as bt * (Ld bl s.ld * (s.mt.as bm * (Lg bg s.lg * (stAs b7 s.st * (pts be (evObj ev) * (bxH b1 bh * (bxI b2 ((k : Int) + 1) * (bxI b3 p * (bxD b4 d * (bxE b5 be * X))))))))))))) := ⟨_, rfl⟩
  have S0 : St w h W RR := by rw [hRR]; exact S0
  have hlo2 := fun {W} (S : St w h W RR) => hlo (show St w h W (Reg bp s.ts * _) by rw [hRR] at S; exact S)
  clear hlo
  go_enter Tryz.func51, Tryz.ntmps51
  go_upto_region 1 with fail
  go_cut [6, 7] (fun s6 s7 wx => ∃ b6 ad cp, s6 = .pointer (some ⟨b6, 0, none⟩) ∧ s7 = .int .i64 0 ∧ St w h wx (pts b6 (tyObj len (.slice ad l.length cp)) * (rowAs 102 2 (.slice ad l.length cp) l.length (l.flatMap fenc) * RR)))
  case first =>
    refine wp_region_tb (.fork [(1, 0), (0, 1), (0, 2), (1, 3), (1, 4)] 5 (.leaf [(0, 6), (0, 7), (0, 8), (3, 9), (3, 10), (0, 11)]) 9 (.leaf [(3, 5), (0, 6), (0, 7), (0, 8), (3, 10), (0, 11)])) (by kernel_rfl) (by kernel_rfl) (fun W0 B0 => ?_)
    have S0 := S0.below B0
    refine tr_fork ?_
    repeat (first | (refine sch_q0 (by rfl) ?_; go_big_quiet_step (fail); refine wpQuiet_nil ?_) | (refine sch_q1 (by rfl) ?_; go_big_quiet_step (fail); refine wpQuiet_nil ?_))
    refine sch_nil ⟨?_, ?_⟩
    · refine sch_e3 (by rfl) ?_
      have H := hlo2 S0
      go_wp2_with (go_at_call 52; refine H.mono ?_; clear H hlo2; rintro e w2 ⟨ad, cp, rfl, F2⟩)
      have B2 := B0.trans' F2.below
      have T2 := F2.st S0
      refine onlyN_mk ⟨B2, ?_⟩
      refine sch_nil ?_
      refine tr_leaf ?_
      repeat (first | (refine sch_q0 (by rfl) ?_; go_big_quiet_step (fail); refine wpQuiet_nil ?_) | (refine sch_q1 (by rfl) ?_; go_big_quiet_step (fail); refine wpQuiet_nil ?_))
      refine sch_e3 (by rfl) ?_
      have T3 := T2.alloc (tyObj 0 (.slice none 0 0))
      have B3 := B2.al (tyObj 0 (.slice none 0 0))
      go_wp2_with fail
      refine onlyN_mk ⟨B3, ?_⟩
      have hb6 : W.heap.size ≤ w2.heap.size := B2.size
      clear T2 B2 F2 S0
      change wpSch _ _ _ _ _ _ (w2.alloc (tyObj 0 (.slice none 0 0)))
      generalize w2.alloc _ = WV at *
      generalize w2.heap.size = b6 at *
      refine sch_e3 (by rfl) ?_
      have hx := T3.blk
      have k0 := blk_cell hx 0
      have k1 := blk_cell hx 1
      have m0 := blk_free hx 0
      have m1 := blk_free hx 1
      have T4 := (show St w h ((WV.setCell ⟨b6, 0, none⟩ (.int .i64 len)).setCell ⟨b6, 1, none⟩ (.slice ad l.length cp)) (pts b6 (tyObj len (.slice ad l.length cp)) * (rowAs 102 2 (.slice ad l.length cp) l.length (l.flatMap fenc) * RR)) from (T3.set 0 (.int .i64 len)).set 1 (.slice ad l.length cp))
      have B4 : Below W.heap.size W ((WV.setCell ⟨b6, 0, none⟩ (.int .i64 len)).setCell ⟨b6, 1, none⟩ (.slice ad l.length cp)) := (B3.setCell (p := ⟨b6, 0, none⟩) hb6 _).setCell (p := ⟨b6, 1, none⟩) hb6 _
      clear T3
      go_wp2_with fail
      refine onlyN_mk ⟨B4, ?_⟩
      repeat (first | (refine sch_q0 (by rfl) ?_; go_big_quiet_step (fail); refine wpQuiet_nil ?_) | (refine sch_q1 (by rfl) ?_; go_big_quiet_step (fail); refine wpQuiet_nil ?_))
      refine sch_nil ?_
      clear hx k0 k1 m0 m1
      generalize World.setCell _ _ _ = WW at *
      go_wp2
      go_meet
      case rel => exact ⟨_, _, _, rfl, rfl, T4⟩
    · refine sch_e3 (by rfl) ?_
      have T2 := S0.alloc (tyObj 0 (.slice none 0 0))
      have S2 := S0.skip (tyObj 0 (.slice none 0 0))
      have B2 := B0.al (tyObj 0 (.slice none 0 0))
      go_wp2_with fail
      refine onlyN_mk ⟨B2, ?_⟩
      have hb6 : W.heap.size ≤ W0.heap.size := B0.size
      clear S0
      change wpSch _ _ _ _ _ _ (W0.alloc (tyObj 0 (.slice none 0 0)))
      generalize W0.alloc _ = W1 at *
      generalize W0.heap.size = b6 at *
      refine sch_nil ?_
      refine tr_leaf ?_
      repeat (first | (refine sch_q0 (by rfl) ?_; go_big_quiet_step (fail); refine wpQuiet_nil ?_) | (refine sch_q1 (by rfl) ?_; go_big_quiet_step (fail); refine wpQuiet_nil ?_))
      refine sch_e3 (by rfl) ?_
      have H := hlo2 S2
      go_wp2_with (go_at_call 52; refine H.mono ?_; clear H hlo2; rintro e WV ⟨ad, cp, rfl, F2⟩)
      have B3 := B2.trans' F2.below
      have T3 := (F2.st T2).b2
      refine onlyN_mk ⟨B3, ?_⟩
      clear T2 S2 F2 B2
      repeat (first | (refine sch_q0 (by rfl) ?_; go_big_quiet_step (fail); refine wpQuiet_nil ?_) | (refine sch_q1 (by rfl) ?_; go_big_quiet_step (fail); refine wpQuiet_nil ?_))
      refine sch_e3 (by rfl) ?_
      have hx := T3.blk
      have k0 := blk_cell hx 0
      have k1 := blk_cell hx 1
      have m0 := blk_free hx 0
      have m1 := blk_free hx 1
      have T4 := (show St w h ((WV.setCell ⟨b6, 0, none⟩ (.int .i64 len)).setCell ⟨b6, 1, none⟩ (.slice ad l.length cp)) (pts b6 (tyObj len (.slice ad l.length cp)) * (rowAs 102 2 (.slice ad l.length cp) l.length (l.flatMap fenc) * RR)) from (T3.set 0 (.int .i64 len)).set 1 (.slice ad l.length cp))
      have B4 : Below W.heap.size W ((WV.setCell ⟨b6, 0, none⟩ (.int .i64 len)).setCell ⟨b6, 1, none⟩ (.slice ad l.length cp)) := (B3.setCell (p := ⟨b6, 0, none⟩) hb6 _).setCell (p := ⟨b6, 1, none⟩) hb6 _
      clear T3
      go_wp2_with fail
      refine onlyN_mk ⟨B4, ?_⟩
      repeat (first | (refine sch_q0 (by rfl) ?_; go_big_quiet_step (fail); refine wpQuiet_nil ?_) | (refine sch_q1 (by rfl) ?_; go_big_quiet_step (fail); refine wpQuiet_nil ?_))
      refine sch_nil ?_
      clear hx k0 k1 m0 m1
      generalize World.setCell _ _ _ = WW at *
      go_wp2
      go_meet
      case rel => exact ⟨_, _, _, rfl, rfl, T4⟩
  case rest =>
    obtain ⟨b6, ad, cp, rfl, rfl, S1⟩ := hcut
    clear S0 hlo2 g1 g2 g3 g2' S
    have c0 := blk_cell S1.blk 0
    have c1 := blk_cell S1.blk 1
    have hs := hsz _ _ S1.b2.rv
    go_upto_region 5 with (go_at_call 53; refine hs.mono ?_; clear hs hsz; rintro e w2 ⟨rfl, B2⟩)
    have S2 := (S1.below B2).drop.dropRow
    clear S1 B2 c0 c1
    go_upto_region 6 with (go_at_call 54; refine (hrn _).mono ?_; clear hrn; rintro e w3 ⟨rfl, B3⟩)
    have S3 := (S2.below B3).alloc (.cells #[.int .i64 sz, .int .i64 1, .int .i64 0] 79)
    clear S2 B3
    go_upto_region 7 with fail
    change Code.wp _ _ _ _ (w3.alloc (.cells #[.int .i64 sz, .int .i64 1, .int .i64 0] 79))
    generalize w3.alloc _ = w4 at *
    generalize w3.heap.size = q at *
    have S4 := S3.eq (show _ = pts bh (hpObj bA bp bt bl bm bg b7) * (bxH b1 bh * (bxI b3 p * (pts q (.cells #[.int .i64 sz, .int .i64 1, .int .i64 0] 79) * (s.mt.as bm * (s.tb.as bt * (Ar bA s.fr s.tk s.bs * (bxI b2 ((k : Int) + 1) * (bxD b4 d * (bxE b5 be * (pts be (evObj ev) * (Reg bp s.ts * (Ld bl s.ld * (Lg bg s.lg * (stAs b7 s.st * X)))))))))))))) from by rw [hRR]; ac_rfl)
    clear S3 hRR
    generalize hZ : Reg bp s.ts * (Ld bl s.ld * (Lg bg s.lg * (stAs b7 s.st * X))) = Z at *
    have HZ := Lib.hid hZ
    clear hZ
    have g1 := bcells S4.b2.blk 0
    have gh := bcells S4.blk 4
    have g3 := bcells S4.b3.blk 0
    have k0 := bcells S4.b4.blk 0
    have k1 := bcells S4.b4.blk 1
    have k2 := bcells S4.b4.blk 2
    refine wp_region_sb [(1, 0), (0, 1), (0, 2), (1, 3), (1, 4), (1, 5), (2, 6), (0, 7)] (by kernel_rfl) (by kernel_rfl) (fun V BV => ?_)
    repeat (first | (refine sch_q0 (by rfl) ?_; go_big_quiet_step (fail); refine wpQuiet_nil ?_) | (refine sch_q1 (by rfl) ?_; go_big_quiet_step (fail); refine wpQuiet_nil ?_))
    refine sch_e2 (by rfl) ?_
    have S5 := S4.below BV
    have H := hfi S5.b5
    clear g1 gh g3 k0 k1 k2 S4 hfi
    unfold Qt.v at H
    go_wp2_with fail
    refine H.mono ?_
    clear H
    rintro e w5 ⟨rfl, B5⟩
    have S6 := S5.below B5
    clear S5 B5
    go_wp2_with fail
    refine onlyN_mk ?_
    repeat (first | (refine sch_q0 (by rfl) ?_; go_big_quiet_step (fail); refine wpQuiet_nil ?_) | (refine sch_q1 (by rfl) ?_; go_big_quiet_step (fail); refine wpQuiet_nil ?_))
    refine sch_nil ?_
    have c1 := blk_cell S6.b2.blk 0
    have ch := blk_cell S6.blk 2
    have H := hfu S6.b6
    clear hfu
    go_upto_region 12 with (go_at_call 56; refine H.mono ?_; clear H; rintro e w6 ⟨v6, rfl, S7⟩; obtain ⟨rfl, S8⟩ := St.an (p := v6 = _) (A := s.tb.as bt) S7)
    clear c1 ch S6 S7
    have c1 := blk_cell S8.b3.blk 0
    have ch := blk_cell S8.b2.blk 0
    have H := hal S8.b7
    clear hal
    go_wp2_with fail
    refine H.mono ?_
    clear H c1 ch S8
    rintro e w7 ⟨j, hj, rfl, S9⟩
    have HJ := Lib.hid hj
    clear hj
    have S10 := S9.alloc (xobj ⟨bo, sz⟩)
    clear S9
    go_upto_region 15 with fail
    change Code.wp _ _ _ _ (w7.alloc (xobj ⟨bo, sz⟩))
    generalize w7.alloc _ = w8 at *
    generalize w7.heap.size = a at *
    have S4 := S10.eq (show _ = pts bh (hpObj bA bp bt bl bm bg b7) * (bxH b1 bh * (bxI b3 p * (pts q (.cells #[.int .i64 sz, .int .i64 1, .int .i64 0] 79) * (s.mt.as bm * (s.tb.as bt * (pts a (xobj ⟨bo, sz⟩) * (bxI b2 ((k : Int) + 1) * (bxD b4 d * (bxE b5 be * (pts be (evObj ev) * (Ar bA (cutL s.fr j sz) (AL.set s.tk bo sz) s.bs * Z))))))))))) from by ac_rfl)
    clear S10
    generalize hZ1 : Ar bA (cutL s.fr j sz) (AL.set s.tk bo sz) s.bs * Z = Z1 at *
    have HZ1 := Lib.hid hZ1
    clear hZ1
    have g1 := bcells S4.b2.blk 0
    have gh := bcells S4.blk 4
    have g3 := bcells S4.b3.blk 0
    have k0 := bcells S4.b4.blk 0
    have k1 := bcells S4.b4.blk 1
    have k2 := bcells S4.b4.blk 2
    refine wp_region_sb [(1, 0), (0, 1), (0, 2), (1, 3), (1, 4), (1, 5), (2, 6)] (by kernel_rfl) (by kernel_rfl) (fun V BV => ?_)
    repeat (first | (refine sch_q0 (by rfl) ?_; go_big_quiet_step (fail); refine wpQuiet_nil ?_) | (refine sch_q1 (by rfl) ?_; go_big_quiet_step (fail); refine wpQuiet_nil ?_))
    refine sch_e2 (by rfl) ?_
    have H := had (S4.below BV).b5
    clear g1 gh g3 k0 k1 k2 S4 had
    unfold Qt.v at H
    go_wp2_with fail
    refine H.mono ?_
    clear H
    rintro e w9 ⟨v9, rfl, S5⟩
    obtain ⟨rfl, S6⟩ := St.an (p := v9 = _) (A := (s.mt.add p ⟨sz, 1, 0⟩).as bm) S5
    clear S5
    go_wp2_with fail
    refine onlyN_mk ?_
    repeat (first | (refine sch_q0 (by rfl) ?_; go_big_quiet_step (fail); refine wpQuiet_nil ?_) | (refine sch_q1 (by rfl) ?_; go_big_quiet_step (fail); refine wpQuiet_nil ?_))
    refine sch_nil ?_
    have S7 := S6.eq (show _ = pts bh (hpObj bA bp bt bl bm bg b7) * (bxH b1 bh * (bxI b3 p * (bxI b2 ((k : Int) + 1) * (bxD b4 d * (bxE b5 be * (pts a (xobj ⟨bo, sz⟩) * (s.tb.as bt * (pts be (evObj ev) * ((s.mt.add p ⟨sz, 1, 0⟩).as bm * (pts q (.cells #[.int .i64 sz, .int .i64 1, .int .i64 0] 79) * Z1)))))))))) from by ac_rfl)
    clear S6
    go_upto_region 16 with fail
    let SS : World → Prop := fun V => ∃ T : As, St w h V (pts bh (hpObj bA bp bt bl bm bg b7) * (bxH b1 bh * (bxI b3 p * (bxI b2 ((k : Int) + 1) * (bxD b4 d * (bxE b5 be * (pts a (xobj ⟨bo, sz⟩) * T)))))))
    haveI : Inhabited (InC SS) := ⟨⟨w9, ⟨_, S7⟩⟩⟩
    have gh : ∀ p : InC SS, p.W.cell? ⟨bh, 2, none⟩ = some (.pointer (some ⟨bt, 0, none⟩)) := fun p => by obtain ⟨T, s⟩ := p.ok; exact blk_cell s.blk 2
    have g1 : ∀ p : InC SS, p.W.cell? ⟨b1, 0, none⟩ = some (.pointer (some ⟨bh, 0, none⟩)) := fun p => by obtain ⟨T, s⟩ := p.ok; exact blk_cell s.b2.blk 0
    have g3 : ∀ q : InC SS, q.W.cell? ⟨b3, 0, none⟩ = some (.int .i64 p) := fun q => by obtain ⟨T, s⟩ := q.ok; exact blk_cell s.b3.blk 0
    have g2 : ∀ p : InC SS, p.W.cell? ⟨b2, 0, none⟩ = some (.int .i64 ((k : Int) + 1)) := fun p => by obtain ⟨T, s⟩ := p.ok; exact blk_cell s.b4.blk 0
    have g4 : ∀ p : InC SS, p.W.cell? ⟨b4, 0, none⟩ = some (.int .u64 d) := fun p => by obtain ⟨T, s⟩ := p.ok; exact blk_cell s.b5.blk 0
    have g5 : ∀ p : InC SS, p.W.cell? ⟨b5, 0, none⟩ = some (.pointer (some ⟨be, 0, none⟩)) := fun p => by obtain ⟨T, s⟩ := p.ok; exact blk_cell s.b6.blk 0
    have ga0 : ∀ p : InC SS, p.W.cell? ⟨a, 0, none⟩ = some (.int .i64 bo) := fun p => by obtain ⟨T, s⟩ := p.ok; exact blk_cell s.b7.blk 0
    have ga1 : ∀ p : InC SS, p.W.cell? ⟨a, 1, none⟩ = some (.int .i64 sz) := fun p => by obtain ⟨T, s⟩ := p.ok; exact blk_cell s.b7.blk 1
    refine wp_region_sch [(1, 0), (1, 1), (0, 2), (0, 3), (1, 4), (1, 5), (1, 6), (1, 7), (1, 8), (3, 9), (0, 10), (0, 11), (0, 12), (0, 13), (0, 14), (2, 15)] (by kernel_rfl) (by kernel_rfl) SS ⟨_, S7.drew⟩ ?_
    have S8 : St w h { w9 with drawn := w9.drawn + 1 } _ := S7.drew
    clear S7
    generalize ({ w9 with drawn := w9.drawn + 1 } : World) = w10 at *
    repeat (first | (refine sch_q0 (by rfl) ?_; go_big_quiet_step (fail); refine wpQuiet_nil ?_) | (refine sch_q1 (by rfl) ?_; go_big_quiet_step (fail); refine wpQuiet_nil ?_))
    refine sch_e3 (by rfl) ?_
    have H := his bo sz S8.b8
    clear S8 his
    go_wp2_with fail
    refine H.mono ?_
    clear H
    rintro e w11 ⟨v11, rfl, S9⟩
    obtain ⟨rfl, S10⟩ := St.an (p := v11 = _) (A := (s.tb.issue d ⟨pk, p, k + 1, bo, sz⟩).as bt) S9
    clear S9
    have S11 := S10.eq (show _ = pts bh (hpObj bA bp bt bl bm bg b7) * (bxH b1 bh * (bxI b3 p * (bxI b2 ((k : Int) + 1) * (bxD b4 d * (bxE b5 be * (pts a (xobj ⟨bo, sz⟩) * (pts be (evObj ev) * ((s.tb.issue d ⟨pk, p, k + 1, bo, sz⟩).as bt * ((s.mt.add p ⟨sz, 1, 0⟩).as bm * (pts q (.cells #[.int .i64 sz, .int .i64 1, .int .i64 0] 79) * Z1)))))))))) from by ac_rfl)
    clear S10
    go_wp2_with fail
    refine onlyN_mk ⟨⟨_, S11⟩, ?_⟩
    repeat (first | (refine sch_q0 (by rfl) ?_; go_big_quiet_step (fail); refine wpQuiet_nil ?_) | (refine sch_q1 (by rfl) ?_; go_big_quiet_step (fail); refine wpQuiet_nil ?_))
    refine sch_e2 (by rfl) ?_
    have S12 := S11.b8
    have e2 := blk_cell S12.blk 2
    have f2 := blk_free S12.blk 2
    have S13 : St w h (w11.setCell ⟨be, 2, none⟩ (.int .u64 pk)) (pts be (evObj { ev with hd := pk }) * _) := S12.set 2 (.int .u64 pk)
    clear S12 S11 gh g1 g2 g3 g4 g5 ga0 ga1
    go_wp2_with fail
    refine onlyN_mk ?_
    refine sch_nil ?_
    clear e2 f2
    generalize World.setCell _ _ _ = w12 at *
    go_wp2
    go_ret
    refine ⟨j, ⟨HJ.out.1, HJ.out.2.1, HJ.out.2.2.1⟩, rfl, ?_⟩
    rw [HAL.out j]
    have S14 := S13.b8.drop
    have S15 := S14.eq (show _ = pts q (.cells #[.int .i64 sz, .int .i64 1, .int .i64 0] 79) * (pts bh (hpObj bA bp bt bl bm bg b7) * (Ar bA (cutL s.fr j sz) (AL.set s.tk bo sz) s.bs * (Reg bp s.ts * ((s.tb.issue d ⟨pk, p, k + 1, bo, sz⟩).as bt * (Ld bl s.ld * ((s.mt.add p ⟨sz, 1, 0⟩).as bm * (Lg bg s.lg * (stAs b7 s.st * (pts be (evObj { ev with hd := pk }) * (bxH b1 bh * (bxI b2 ((k : Int) + 1) * (bxI b3 p * (bxD b4 d * (bxE b5 be * X)))))))))))))) from by rw [← HZ1.out, ← HZ.out]; ac_rfl)
    exact Hp.mk (bA := bA) (bp := bp) (bt := bt) (bl := bl) (bm := bm) (bg := bg) (b7 := b7) S15.drop
end Go.Proofs.YthnfiejdkhejlaaGreat
/- Package heap: Alloc; the operations of a nil heap. -/
namespace Go.Sl
open Go.RowKit
theorem St.al4 {w W : World} {h : Hl} {A : As} (S : St w h W A) (o1 o2 o3 o4 : Obj) : ∃ W0, W0 = (((W.alloc o1).alloc o2).alloc o3).alloc o4 ∧
    St w h W0 (pts W.heap.size o1 * (pts (W.heap.size + 1) o2 * (pts (W.heap.size + 1 + 1) o3 * (pts (W.heap.size + 1 + 1 + 1) o4 * A)))) := by
  have S0 := (((S.alloc o1).alloc o2).alloc o3).alloc o4
  simp only [World.size_alloc] at S0
  exact ⟨_, rfl, S0.eq (by ac_rfl)⟩
end Go.Sl
namespace Go.Proofs.YthnfiejdkhejlaaGreat
open Go.RowKit Go.Sl Go.Shelf
theorem CanA.pk {s : Hs} {p : Int} {k : Nat} {t : Ty} {d i : Nat} {x : Sl1} (ca : CanA s p k t d i x) : U64 (packI i (s.tb.s.gen' i) (k + 1)) := by
  have h1 := ca.g; have h2 := ca.k255; have h3 := ca.sl
  have h4 : i < s.tb.s.sl.length := (List.getElem?_eq_some_iff.1 ca.ex).1
  unfold U64 packI
  generalize s.tb.s.gen' i = g at *
  omega
set_option maxHeartbeats 1600000 in
theorem Alloc_ok (bh : Nat) (s : Hs) (p : Int) (k : Nat) (t : Ty) (d i : Nat) (x : Sl1) (ca : CanA s p k t d i x) (lv : Live s p) {w W : World} {h : Hl} {X : As} (S : St w h W (Hp bh s * X)) :
    Calls Tryz.prog 11 #[.pointer (some ⟨bh, 0, none⟩), .int .i64 p, .int .i64 ((k : Int) + 1), .int .u64 d] W
      fun e' W' => ∃ j, (j < s.fr.length ∧ s.fr.getD j Ex.z = best s.fr (rnd (tsize t.len t.fs)).1 ∧ (rnd (tsize t.len t.fs)).1 ≤ (best s.fr (rnd (tsize t.len t.fs)).1).len) ∧ e' = .returned (.tuple #[.int .u64 (packI i (s.tb.s.gen' i) (k + 1)), .int .i64 0]) ∧
        St w h W' (Hp bh ((s.al p k d i j (tsize t.len t.fs)).log ⟨p, 1, packI i (s.tb.s.gen' i) (k + 1), u64i ((k : Int) + 1), 0⟩) * X) := by
  obtain ⟨W0, hW0, S0⟩ := S.al4 (.cells #[.pointer (some ⟨bh, 0, none⟩)] 31 (0,0)) (.cells #[.int .i64 p] 3 (0,0)) (.cells #[.int .i64 ((k : Int) + 1)] 3 (0,0)) (.cells #[.int .u64 d] 22 (0,0))
  have hlg : ({ p := p, op := 1, hd := packI i (s.tb.s.gen' i) (k + 1), arg := u64i ((k : Int) + 1), err := 0 } : Evt).ok :=
    ⟨lv.p1.1, lv.p1.2, .inl ⟨(by decide : (1:Int) ≤ 1), (by decide : (1:Int) ≤ 11)⟩, ca.pk, u64i_ok _, (by decide : (0:Int) ≤ 0), (by decide : (0:Int) ≤ 29)⟩
  have hact := fun {b1 b2 b3 b4 b5 be W} (S : St w h W (Hp bh s * (pts be (evObj ⟨p, 1, 0, u64i ((k : Int) + 1), 0⟩) * (bxH b1 bh * (bxI b2 ((k : Int) + 1) * (bxI b3 p * (bxD b4 d * (bxE b5 be * X)))))))) =>
    act_rec bh be 51 #[.pointer (some ⟨b1, 0, none⟩), .pointer (some ⟨b2, 0, none⟩), .pointer (some ⟨b3, 0, none⟩), .pointer (some ⟨b4, 0, none⟩), .pointer (some ⟨b5, 0, none⟩)] s ⟨p, 1, 0, u64i ((k : Int) + 1), 0⟩
      (fun er s' hd X' => ∃ j, (j < s.fr.length ∧ s.fr.getD j Ex.z = best s.fr (rnd (tsize t.len t.fs)).1 ∧ (rnd (tsize t.len t.fs)).1 ≤ (best s.fr (rnd (tsize t.len t.fs)).1).len) ∧ er = 0 ∧ hd = packI i (s.tb.s.gen' i) (k + 1) ∧ s' = s.al p k d i j (tsize t.len t.fs) ∧
        X' = (bxH b1 bh * (bxI b2 ((k : Int) + 1) * (bxI b3 p * (bxD b4 d * (bxE b5 be * X))))))
      (enters_of Tryz.func51 (by kernel_rfl) rfl) lv.a ⟨⟨(by decide : (1:Int) ≠ 3), (by decide : (1:Int) ≠ 5)⟩, (by decide : (1:Int) ≠ 32), (by decide : (1:Int) ≠ 33)⟩ lv.room lv.fit
      (fun W1 S1 => (Alloc1_yes bh be b1 b2 b3 b4 b5 s ⟨p, 1, 0, u64i ((k : Int) + 1), 0⟩ p k t d i x ca S1).mono fun _ _ ⟨j, hj, he, S'⟩ => ⟨0, _, _, _, ⟨j, hj, rfl, rfl, rfl, rfl⟩, he, S'⟩)
      (fun er s' hd X' hq => by obtain ⟨j, _, h1, h2, h3, _⟩ := hq; rw [h1, h2, h3]; exact ⟨rfl, hlg⟩) S
  clear ca lv hlg S
  generalize packI i (s.tb.s.gen' i) (k + 1) = pk at *
  go_enter Tryz.func11, Tryz.ntmps11
  go_upto_region 1 with fail
  rw [← hW0]
  clear hW0
  generalize W.heap.size + 1 + 1 + 1 = q4 at *
  generalize W.heap.size + 1 + 1 = q3 at *
  generalize W.heap.size + 1 = q2 at *
  generalize W.heap.size = q1 at *
  have c1 := blk_cell S0.blk 0
  have c2 := blk_cell S0.b2.blk 0
  have c3 := blk_cell S0.b3.blk 0
  have S1 := (S0.alloc (evObj ⟨p, 1, 0, u64i ((k : Int) + 1), 0⟩)).alloc (.cells #[.pointer (some ⟨W0.heap.size, 0, none⟩)] 116 (0,0))
  rw [World.size_alloc] at S1
  clear S0
  go_upto_region 2 with fail
  change Code.wp _ _ _ _ ((W0.alloc (evObj ⟨p, 1, 0, u64i ((k : Int) + 1), 0⟩)).alloc (.cells #[.pointer (some ⟨W0.heap.size, 0, none⟩)] 116 (0,0)))
  generalize World.alloc _ _ = W1 at *
  generalize W0.heap.size + 1 = q6 at *
  generalize W0.heap.size = q5 at *
  have S2 := S1.eq (show _ = Hp bh s * (pts q5 (evObj ⟨p, 1, 0, u64i ((k : Int) + 1), 0⟩) * (bxH q1 bh * (bxI q3 ((k : Int) + 1) * (bxI q2 p * (bxD q4 d * (bxE q6 q5 * X)))))) from by unfold bxH bxI bxD bxE; ac_rfl)
  clear S1 c1 c2 c3
  have c1 := blk_cell S2.b3.blk 0
  have c6 := blk_cell S2.b7.blk 0
  have H := hact S2
  clear hact S2
  go_wp2_with fail
  refine H.mono ?_
  clear H c1 c6
  rintro e' w4 ⟨er, s', hd, X', ⟨j, hj, rfl, rfl, rfl, rfl⟩, rfl, S4⟩
  have c6 := blk_cell S4.b7.blk 0
  have c2 := blk_cell S4.b2.blk 2
  have S5 := Lib.hid S4.b2.drop.b2.drop.b2.drop.b2.drop.b2.drop.b2.drop
  have HJ := Lib.hid hj
  clear S4 hj
  go_wp2
  go_ret2
  exact ⟨j, HJ.out, rfl, S5.out⟩
end Go.Proofs.YthnfiejdkhejlaaGreat
/- Package heap: the operations of a nil heap. (Printed by gennil.py.) -/
namespace Go.Sl
open Go.RowKit
theorem St.xl3 {w W : World} {h : Hl} {A : As} (S : St w h W A) (o1 o2 o3 : Obj) : ∃ W0, W0 = (((W.alloc o1).alloc o2).alloc o3) ∧ St w h W0 (pts (W.heap.size) o1 * (pts (W.heap.size + 1) o2 * (pts (W.heap.size + 1 + 1) o3 * (A)))) := by
  have S0 := (((S.alloc o1).alloc o2).alloc o3)
  simp only [World.size_alloc] at S0
  exact ⟨_, rfl, S0.eq (by ac_rfl)⟩
theorem St.xl4 {w W : World} {h : Hl} {A : As} (S : St w h W A) (o1 o2 o3 o4 : Obj) : ∃ W0, W0 = ((((W.alloc o1).alloc o2).alloc o3).alloc o4) ∧ St w h W0 (pts (W.heap.size) o1 * (pts (W.heap.size + 1) o2 * (pts (W.heap.size + 1 + 1) o3 * (pts (W.heap.size + 1 + 1 + 1) o4 * (A))))) := by
  have S0 := ((((S.alloc o1).alloc o2).alloc o3).alloc o4)
  simp only [World.size_alloc] at S0
  exact ⟨_, rfl, S0.eq (by ac_rfl)⟩
theorem St.xl5 {w W : World} {h : Hl} {A : As} (S : St w h W A) (o1 o2 o3 o4 o5 : Obj) : ∃ W0, W0 = (((((W.alloc o1).alloc o2).alloc o3).alloc o4).alloc o5) ∧ St w h W0 (pts (W.heap.size) o1 * (pts (W.heap.size + 1) o2 * (pts (W.heap.size + 1 + 1) o3 * (pts (W.heap.size + 1 + 1 + 1) o4 * (pts (W.heap.size + 1 + 1 + 1 + 1) o5 * (A)))))) := by
  have S0 := (((((S.alloc o1).alloc o2).alloc o3).alloc o4).alloc o5)
  simp only [World.size_alloc] at S0
  exact ⟨_, rfl, S0.eq (by ac_rfl)⟩
theorem St.xl6 {w W : World} {h : Hl} {A : As} (S : St w h W A) (o1 o2 o3 o4 o5 o6 : Obj) : ∃ W0, W0 = ((((((W.alloc o1).alloc o2).alloc o3).alloc o4).alloc o5).alloc o6) ∧ St w h W0 (pts (W.heap.size) o1 * (pts (W.heap.size + 1) o2 * (pts (W.heap.size + 1 + 1) o3 * (pts (W.heap.size + 1 + 1 + 1) o4 * (pts (W.heap.size + 1 + 1 + 1 + 1) o5 * (pts (W.heap.size + 1 + 1 + 1 + 1 + 1) o6 * (A))))))) := by
  have S0 := ((((((S.alloc o1).alloc o2).alloc o3).alloc o4).alloc o5).alloc o6)
  simp only [World.size_alloc] at S0
  exact ⟨_, rfl, S0.eq (by ac_rfl)⟩
theorem St.xl7 {w W : World} {h : Hl} {A : As} (S : St w h W A) (o1 o2 o3 o4 o5 o6 o7 : Obj) : ∃ W0, W0 = (((((((W.alloc o1).alloc o2).alloc o3).alloc o4).alloc o5).alloc o6).alloc o7) ∧ St w h W0 (pts (W.heap.size) o1 * (pts (W.heap.size + 1) o2 * (pts (W.heap.size + 1 + 1) o3 * (pts (W.heap.size + 1 + 1 + 1) o4 * (pts (W.heap.size + 1 + 1 + 1 + 1) o5 * (pts (W.heap.size + 1 + 1 + 1 + 1 + 1) o6 * (pts (W.heap.size + 1 + 1 + 1 + 1 + 1 + 1) o7 * (A)))))))) := by
  have S0 := (((((((S.alloc o1).alloc o2).alloc o3).alloc o4).alloc o5).alloc o6).alloc o7)
  simp only [World.size_alloc] at S0
  exact ⟨_, rfl, S0.eq (by ac_rfl)⟩
end Go.Sl
namespace Go.Proofs.YthnfiejdkhejlaaGreat
open Go.RowKit Go.Sl Go.Shelf
set_option maxHeartbeats 400000 in
theorem Free_nil (p x : Int) (w : World) : Calls Tryz.prog 17 #[.pointer none, .int .i64 p, .int .u64 x] w fun e w' => e = .returned (.int .i64 15) ∧ Below w.heap.size w w' := by
  obtain ⟨W0, hW0, S0⟩ := (S1' w).xl3 (.cells #[.pointer none] 31 (0,0)) (.cells #[.int .i64 p] 3 (0,0)) (.cells #[.int .u64 x] 23 (0,0))
  have hact := fun fn lb W hb => act_nil W0.heap.size fn lb ⟨p, 2, x, 0, 0⟩ W hb
  go_enter Tryz.func17, Tryz.ntmps17
  go_upto_region 1 with fail
  rw [← hW0]
  clear hW0
  generalize w.heap.size + 1 + 1 = q3 at S0 ⊢
  generalize w.heap.size + 1 = q2 at S0 ⊢
  generalize w.heap.size = q1 at S0 ⊢
  have S1 := S0.alloc (evObj ⟨p, 2, x, 0, 0⟩)
  have c1 := blk_cell S0.blk 0
  have c2 := blk_cell S0.b2.blk 0
  have c3 := blk_cell S0.b3.blk 0
  have hb := S1.blk
  have HB := Lib.hid (S1.below_all rfl)
  clear S0 S1
  go_wp2_with (go_at_call 50; refine (hact _ _ _ hb).mono ?_; clear hact; rintro e w1 ⟨rfl, rfl⟩)
  go_ret
  exact ⟨rfl, HB.out⟩
set_option maxHeartbeats 400000 in
theorem Release_nil (p x : Int) (w : World) : Calls Tryz.prog 24 #[.pointer none, .int .i64 p, .int .u64 x] w fun e w' => e = .returned (.int .i64 15) ∧ Below w.heap.size w w' := by
  obtain ⟨W0, hW0, S0⟩ := (S1' w).xl3 (.cells #[.pointer none] 31 (0,0)) (.cells #[.int .i64 p] 3 (0,0)) (.cells #[.int .u64 x] 23 (0,0))
  have hact := fun fn lb W hb => act_nil W0.heap.size fn lb ⟨p, 11, x, 0, 0⟩ W hb
  go_enter Tryz.func24, Tryz.ntmps24
  go_upto_region 1 with fail
  rw [← hW0]
  clear hW0
  generalize w.heap.size + 1 + 1 = q3 at S0 ⊢
  generalize w.heap.size + 1 = q2 at S0 ⊢
  generalize w.heap.size = q1 at S0 ⊢
  have S1 := S0.alloc (evObj ⟨p, 11, x, 0, 0⟩)
  have c1 := blk_cell S0.blk 0
  have c2 := blk_cell S0.b2.blk 0
  have c3 := blk_cell S0.b3.blk 0
  have hb := S1.blk
  have HB := Lib.hid (S1.below_all rfl)
  clear S0 S1
  go_wp2_with (go_at_call 50; refine (hact _ _ _ hb).mono ?_; clear hact; rintro e w1 ⟨rfl, rfl⟩)
  go_ret
  exact ⟨rfl, HB.out⟩
set_option maxHeartbeats 400000 in
theorem Get_nil (p x f : Int) (w : World) : Calls Tryz.prog 12 #[.pointer none, .int .i64 p, .int .u64 x, .int .i64 f] w fun e w' => e = .returned (.tuple #[.int .u64 0, .int .i64 15]) ∧ Below w.heap.size w w' := by
  obtain ⟨W0, hW0, S0⟩ := (S1' w).xl4 (.cells #[.pointer none] 31 (0,0)) (.cells #[.int .i64 p] 3 (0,0)) (.cells #[.int .u64 x] 23 (0,0)) (.cells #[.int .i64 f] 3 (0,0))
  have hact := fun fn lb W hb => act_nil W0.heap.size fn lb ⟨p, 3, x, u64i f, 0⟩ W hb
  go_enter Tryz.func12, Tryz.ntmps12
  go_upto_region 1 with fail
  rw [← hW0]
  clear hW0
  generalize w.heap.size + 1 + 1 + 1 = q4 at S0 ⊢
  generalize w.heap.size + 1 + 1 = q3 at S0 ⊢
  generalize w.heap.size + 1 = q2 at S0 ⊢
  generalize w.heap.size = q1 at S0 ⊢
  have S0 := S0.alloc (.cells #[.int .u64 0] 22 (0,0))
  go_upto_region 2 with fail
  change Code.wp _ _ _ _ (W0.alloc (.cells #[.int .u64 0] 22 (0,0)))
  generalize W0.alloc _ = W1 at *
  generalize W0.heap.size = q0 at *
  clear hact
  have hact := fun fn lb W hb => act_nil W1.heap.size fn lb ⟨p, 3, x, u64i f, 0⟩ W hb
  have S1 := S0.alloc (evObj ⟨p, 3, x, u64i f, 0⟩)
  have hx := S1.b2.blk
  have d0 := blk_cell hx 0
  have c1 := blk_cell S0.b2.blk 0
  have c2 := blk_cell S0.b3.blk 0
  have c3 := blk_cell S0.b4.blk 0
  have c4 := blk_cell S0.b5.blk 0
  have hb := S1.blk
  have HB := Lib.hid (S1.below_all rfl)
  clear S0 S1
  go_wp2_with (go_at_call 50; refine (hact _ _ _ hb).mono ?_; clear hact; rintro e w1 ⟨rfl, rfl⟩)
  go_ret2
  exact ⟨rfl, HB.out⟩
set_option maxHeartbeats 400000 in
theorem Set_nil (p x f v : Int) (w : World) : Calls Tryz.prog 18 #[.pointer none, .int .i64 p, .int .u64 x, .int .i64 f, .int .u64 v] w fun e w' => e = .returned (.int .i64 15) ∧ Below w.heap.size w w' := by
  obtain ⟨W0, hW0, S0⟩ := (S1' w).xl5 (.cells #[.pointer none] 31 (0,0)) (.cells #[.int .i64 p] 3 (0,0)) (.cells #[.int .u64 x] 23 (0,0)) (.cells #[.int .i64 f] 3 (0,0)) (.cells #[.int .u64 v] 22 (0,0))
  have hact := fun fn lb W hb => act_nil W0.heap.size fn lb ⟨p, 4, x, u64i f, 0⟩ W hb
  go_enter Tryz.func18, Tryz.ntmps18
  go_upto_region 1 with fail
  rw [← hW0]
  clear hW0
  generalize w.heap.size + 1 + 1 + 1 + 1 = q5 at S0 ⊢
  generalize w.heap.size + 1 + 1 + 1 = q4 at S0 ⊢
  generalize w.heap.size + 1 + 1 = q3 at S0 ⊢
  generalize w.heap.size + 1 = q2 at S0 ⊢
  generalize w.heap.size = q1 at S0 ⊢
  have S1 := S0.alloc (evObj ⟨p, 4, x, u64i f, 0⟩)
  have c1 := blk_cell S0.blk 0
  have c2 := blk_cell S0.b2.blk 0
  have c3 := blk_cell S0.b3.blk 0
  have c4 := blk_cell S0.b4.blk 0
  have hb := S1.blk
  have HB := Lib.hid (S1.below_all rfl)
  clear S0 S1
  go_wp2_with (go_at_call 50; refine (hact _ _ _ hb).mono ?_; clear hact; rintro e w1 ⟨rfl, rfl⟩)
  go_ret
  exact ⟨rfl, HB.out⟩
set_option maxHeartbeats 400000 in
theorem Load_nil (p x o n : Int) (w : World) : Calls Tryz.prog 13 #[.pointer none, .int .i64 p, .int .u64 x, .int .i64 o, .int .i64 n] w fun e w' => e = .returned (.tuple #[.slice none 0 0, .int .i64 15]) ∧ Below w.heap.size w w' := by
  obtain ⟨W0, hW0, S0⟩ := (S1' w).xl5 (.cells #[.pointer none] 31 (0,0)) (.cells #[.int .i64 p] 3 (0,0)) (.cells #[.int .u64 x] 23 (0,0)) (.cells #[.int .i64 o] 3 (0,0)) (.cells #[.int .i64 n] 3 (0,0))
  have hact := fun fn lb W hb => act_nil W0.heap.size fn lb ⟨p, 5, x, u64i o, 0⟩ W hb
  go_enter Tryz.func13, Tryz.ntmps13
  go_upto_region 1 with fail
  rw [← hW0]
  clear hW0
  generalize w.heap.size + 1 + 1 + 1 + 1 = q5 at S0 ⊢
  generalize w.heap.size + 1 + 1 + 1 = q4 at S0 ⊢
  generalize w.heap.size + 1 + 1 = q3 at S0 ⊢
  generalize w.heap.size + 1 = q2 at S0 ⊢
  generalize w.heap.size = q1 at S0 ⊢
  have S0 := S0.alloc (.cells #[.slice none 0 0] 49 (0,0))
  go_upto_region 2 with fail
  change Code.wp _ _ _ _ (W0.alloc (.cells #[.slice none 0 0] 49 (0,0)))
  generalize W0.alloc _ = W1 at *
  generalize W0.heap.size = q0 at *
  clear hact
  have hact := fun fn lb W hb => act_nil W1.heap.size fn lb ⟨p, 5, x, u64i o, 0⟩ W hb
  have S1 := S0.alloc (evObj ⟨p, 5, x, u64i o, 0⟩)
  have hx := S1.b2.blk
  have d0 := blk_cell hx 0
  have c1 := blk_cell S0.b2.blk 0
  have c2 := blk_cell S0.b3.blk 0
  have c3 := blk_cell S0.b4.blk 0
  have c4 := blk_cell S0.b5.blk 0
  have c5 := blk_cell S0.b6.blk 0
  have hb := S1.blk
  have HB := Lib.hid (S1.below_all rfl)
  clear S0 S1
  go_wp2_with (go_at_call 50; refine (hact _ _ _ hb).mono ?_; clear hact; rintro e w1 ⟨rfl, rfl⟩)
  go_ret2
  exact ⟨rfl, HB.out⟩
set_option maxHeartbeats 400000 in
theorem Store_nil (p x o : Int) (va : Option Addr) (vn vc : Nat) (w : World) : Calls Tryz.prog 19 #[.pointer none, .int .i64 p, .int .u64 x, .int .i64 o, .slice va vn vc] w fun e w' => e = .returned (.int .i64 15) ∧ Below w.heap.size w w' := by
  obtain ⟨W0, hW0, S0⟩ := (S1' w).xl5 (.cells #[.pointer none] 31 (0,0)) (.cells #[.int .i64 p] 3 (0,0)) (.cells #[.int .u64 x] 23 (0,0)) (.cells #[.int .i64 o] 3 (0,0)) (.cells #[.slice va vn vc] 49 (0,0))
  have hact := fun fn lb W hb => act_nil W0.heap.size fn lb ⟨p, 6, x, u64i o, 0⟩ W hb
  go_enter Tryz.func19, Tryz.ntmps19
  go_upto_region 1 with fail
  rw [← hW0]
  clear hW0
  generalize w.heap.size + 1 + 1 + 1 + 1 = q5 at S0 ⊢
  generalize w.heap.size + 1 + 1 + 1 = q4 at S0 ⊢
  generalize w.heap.size + 1 + 1 = q3 at S0 ⊢
  generalize w.heap.size + 1 = q2 at S0 ⊢
  generalize w.heap.size = q1 at S0 ⊢
  have S1 := S0.alloc (evObj ⟨p, 6, x, u64i o, 0⟩)
  have c1 := blk_cell S0.blk 0
  have c2 := blk_cell S0.b2.blk 0
  have c3 := blk_cell S0.b3.blk 0
  have c4 := blk_cell S0.b4.blk 0
  have hb := S1.blk
  have HB := Lib.hid (S1.below_all rfl)
  clear S0 S1
  go_wp2_with (go_at_call 50; refine (hact _ _ _ hb).mono ?_; clear hact; rintro e w1 ⟨rfl, rfl⟩)
  go_ret
  exact ⟨rfl, HB.out⟩
set_option maxHeartbeats 400000 in
theorem Copy_nil (p x o y q n : Int) (w : World) : Calls Tryz.prog 20 #[.pointer none, .int .i64 p, .int .u64 x, .int .i64 o, .int .u64 y, .int .i64 q, .int .i64 n] w fun e w' => e = .returned (.int .i64 15) ∧ Below w.heap.size w w' := by
  obtain ⟨W0, hW0, S0⟩ := (S1' w).xl7 (.cells #[.pointer none] 31 (0,0)) (.cells #[.int .i64 p] 3 (0,0)) (.cells #[.int .u64 x] 23 (0,0)) (.cells #[.int .i64 o] 3 (0,0)) (.cells #[.int .u64 y] 23 (0,0)) (.cells #[.int .i64 q] 3 (0,0)) (.cells #[.int .i64 n] 3 (0,0))
  have hact := fun fn lb W hb => act_nil W0.heap.size fn lb ⟨p, 7, x, y, 0⟩ W hb
  go_enter Tryz.func20, Tryz.ntmps20
  go_upto_region 1 with fail
  rw [← hW0]
  clear hW0
  generalize w.heap.size + 1 + 1 + 1 + 1 + 1 + 1 = q7 at S0 ⊢
  generalize w.heap.size + 1 + 1 + 1 + 1 + 1 = q6 at S0 ⊢
  generalize w.heap.size + 1 + 1 + 1 + 1 = q5 at S0 ⊢
  generalize w.heap.size + 1 + 1 + 1 = q4 at S0 ⊢
  generalize w.heap.size + 1 + 1 = q3 at S0 ⊢
  generalize w.heap.size + 1 = q2 at S0 ⊢
  generalize w.heap.size = q1 at S0 ⊢
  have S1 := S0.alloc (evObj ⟨p, 7, x, y, 0⟩)
  have c1 := blk_cell S0.blk 0
  have c2 := blk_cell S0.b2.blk 0
  have c3 := blk_cell S0.b3.blk 0
  have c4 := blk_cell S0.b4.blk 0
  have c5 := blk_cell S0.b5.blk 0
  have c6 := blk_cell S0.b6.blk 0
  have c7 := blk_cell S0.b7.blk 0
  have hb := S1.blk
  have HB := Lib.hid (S1.below_all rfl)
  clear S0 S1
  go_wp2_with (go_at_call 50; refine (hact _ _ _ hb).mono ?_; clear hact; rintro e w1 ⟨rfl, rfl⟩)
  go_ret
  exact ⟨rfl, HB.out⟩
set_option maxHeartbeats 400000 in
theorem Transfer_nil (p x q : Int) (w : World) : Calls Tryz.prog 21 #[.pointer none, .int .i64 p, .int .u64 x, .int .i64 q] w fun e w' => e = .returned (.int .i64 15) ∧ Below w.heap.size w w' := by
  obtain ⟨W0, hW0, S0⟩ := (S1' w).xl4 (.cells #[.pointer none] 31 (0,0)) (.cells #[.int .i64 p] 3 (0,0)) (.cells #[.int .u64 x] 23 (0,0)) (.cells #[.int .i64 q] 3 (0,0))
  have hact := fun fn lb W hb => act_nil W0.heap.size fn lb ⟨p, 8, x, u64i q, 0⟩ W hb
  go_enter Tryz.func21, Tryz.ntmps21
  go_upto_region 1 with fail
  rw [← hW0]
  clear hW0
  generalize w.heap.size + 1 + 1 + 1 = q4 at S0 ⊢
  generalize w.heap.size + 1 + 1 = q3 at S0 ⊢
  generalize w.heap.size + 1 = q2 at S0 ⊢
  generalize w.heap.size = q1 at S0 ⊢
  have S1 := S0.alloc (evObj ⟨p, 8, x, u64i q, 0⟩)
  have c1 := blk_cell S0.blk 0
  have c2 := blk_cell S0.b2.blk 0
  have c3 := blk_cell S0.b3.blk 0
  have c4 := blk_cell S0.b4.blk 0
  have hb := S1.blk
  have HB := Lib.hid (S1.below_all rfl)
  clear S0 S1
  go_wp2_with (go_at_call 50; refine (hact _ _ _ hb).mono ?_; clear hact; rintro e w1 ⟨rfl, rfl⟩)
  go_ret
  exact ⟨rfl, HB.out⟩
set_option maxHeartbeats 400000 in
theorem lend_nil (p x q op ac mo : Int) (w : World) : Calls Tryz.prog 86 #[.pointer none, .int .i64 p, .int .u64 x, .int .i64 q, .int .i64 op, .int .i64 ac, .int .i64 mo] w fun e w' => e = .returned (.int .i64 15) ∧ Below w.heap.size w w' := by
  obtain ⟨W0, hW0, S0⟩ := (S1' w).xl6 (.cells #[.pointer none] 31 (0,0)) (.cells #[.int .i64 p] 3 (0,0)) (.cells #[.int .u64 x] 23 (0,0)) (.cells #[.int .i64 q] 3 (0,0)) (.cells #[.int .i64 ac] 3 (0,0)) (.cells #[.int .i64 mo] 3 (0,0))
  have hact := fun fn lb W hb => act_nil W0.heap.size fn lb ⟨p, op, x, u64i q, 0⟩ W hb
  go_enter Tryz.func86, Tryz.ntmps86
  go_upto_region 1 with fail
  rw [← hW0]
  clear hW0
  generalize w.heap.size + 1 + 1 + 1 + 1 + 1 = q6 at S0 ⊢
  generalize w.heap.size + 1 + 1 + 1 + 1 = q5 at S0 ⊢
  generalize w.heap.size + 1 + 1 + 1 = q4 at S0 ⊢
  generalize w.heap.size + 1 + 1 = q3 at S0 ⊢
  generalize w.heap.size + 1 = q2 at S0 ⊢
  generalize w.heap.size = q1 at S0 ⊢
  have S1 := S0.alloc (evObj ⟨p, op, x, u64i q, 0⟩)
  have c1 := blk_cell S0.blk 0
  have c2 := blk_cell S0.b2.blk 0
  have c3 := blk_cell S0.b3.blk 0
  have c4 := blk_cell S0.b4.blk 0
  have c5 := blk_cell S0.b5.blk 0
  have c6 := blk_cell S0.b6.blk 0
  have hb := S1.blk
  have HB := Lib.hid (S1.below_all rfl)
  clear S0 S1
  go_wp2_with (go_at_call 50; refine (hact _ _ _ hb).mono ?_; clear hact; rintro e w1 ⟨rfl, rfl⟩)
  go_ret
  exact ⟨rfl, HB.out⟩
theorem Share_nil (p x q : Int) (w : World) : Calls Tryz.prog 22 #[.pointer none, .int .i64 p, .int .u64 x, .int .i64 q] w fun e w' => e = .returned (.int .i64 15) ∧ Below w.heap.size w w' := by
  have hl := lend_nil p x q 9 4 1 w
  go_enter Tryz.func22, Tryz.ntmps22
  go_wp2_with (go_at_call 86; refine hl.mono ?_; clear hl; rintro e w1 ⟨rfl, B1⟩)
  go_ret
  exact ⟨rfl, B1⟩
theorem Lend_nil (p x q : Int) (w : World) : Calls Tryz.prog 23 #[.pointer none, .int .i64 p, .int .u64 x, .int .i64 q] w fun e w' => e = .returned (.int .i64 15) ∧ Below w.heap.size w w' := by
  have hl := lend_nil p x q 10 3 2 w
  go_enter Tryz.func23, Tryz.ntmps23
  go_wp2_with (go_at_call 86; refine hl.mono ?_; clear hl; rintro e w1 ⟨rfl, B1⟩)
  go_ret
  exact ⟨rfl, B1⟩
end Go.Proofs.YthnfiejdkhejlaaGreat
/- heap.Alloc of a nil heap; package hostcall: Index, index, handle, tag. -/
namespace Go.Proofs.YthnfiejdkhejlaaGreat
open Go.RowKit Go.Sl Go.Shelf
set_option maxHeartbeats 400000 in
theorem Alloc_nil (p tg d : Int) (w : World) : Calls Tryz.prog 11 #[.pointer none, .int .i64 p, .int .i64 tg, .int .u64 d] w fun e w' => e = .returned (.tuple #[.int .u64 0, .int .i64 15]) ∧ Below w.heap.size w w' := by
  obtain ⟨W0, hW0, S0⟩ := (S1' w).xl4 (.cells #[.pointer none] 31 (0,0)) (.cells #[.int .i64 p] 3 (0,0)) (.cells #[.int .i64 tg] 3 (0,0)) (.cells #[.int .u64 d] 22 (0,0))
  have hact := fun fn lb W hb => act_nil W0.heap.size fn lb ⟨p, 1, 0, u64i tg, 0⟩ W hb
  go_enter Tryz.func11, Tryz.ntmps11
  go_upto_region 1 with fail
  rw [← hW0]
  clear hW0
  generalize w.heap.size + 1 + 1 + 1 = q4 at S0 ⊢
  generalize w.heap.size + 1 + 1 = q3 at S0 ⊢
  generalize w.heap.size + 1 = q2 at S0 ⊢
  generalize w.heap.size = q1 at S0 ⊢
  have c1 := blk_cell S0.blk 0
  have c2 := blk_cell S0.b2.blk 0
  have c3 := blk_cell S0.b3.blk 0
  have S1 := (S0.alloc (evObj ⟨p, 1, 0, u64i tg, 0⟩)).alloc (.cells #[.pointer (some ⟨W0.heap.size, 0, none⟩)] 116 (0,0))
  rw [World.size_alloc] at S1
  clear S0
  go_upto_region 2 with fail
  change Code.wp _ _ _ _ ((W0.alloc (evObj ⟨p, 1, 0, u64i tg, 0⟩)).alloc (.cells #[.pointer (some ⟨W0.heap.size, 0, none⟩)] 116 (0,0)))
  generalize World.alloc _ _ = W1 at *
  generalize W0.heap.size + 1 = q6 at *
  generalize W0.heap.size = q5 at *
  clear c1 c2 c3
  have c1 := blk_cell S1.b3.blk 0
  have c6 := blk_cell S1.blk 0
  have hb := S1.b2.blk
  have HB := Lib.hid (S1.below_all rfl)
  clear S1
  go_wp2_with (go_at_call 50; refine (hact _ _ _ hb).mono ?_; clear hact; rintro e w1 ⟨rfl, rfl⟩)
  go_ret2
  exact ⟨rfl, HB.out⟩
def idxI (x : Int) : Int := if 1048576 < x then -1 else x
theorem Index_any (x : Int) (hx : U64 x) (w : World) : Calls Tryz.prog 203 #[.int .u64 x] w fun e w' => e = .returned (.int .i64 (idxI x)) ∧ w' = w := by
  unfold idxI
  by_cases h : 1048576 < x
  · rw [if_pos h]
    have d : decide (1048576 < x) = true := decide_eq_true h
    clear h hx
    go_enter Tryz.func203, Tryz.ntmps203
    go_wp2
    go_ret
    exact ⟨rfl, rfl⟩
  · rw [if_neg h]
    have d : decide (1048576 < x) = false := decide_eq_false h
    have hw : IntKind.i64.wrap x = x := IntWalk.i64_in _ (by unfold U64 at hx; omega)
    clear h hx
    go_enter Tryz.func203, Tryz.ntmps203
    go_wp2
    go_ret
    exact ⟨rfl, rfl⟩
/-- The caller's block. -/
def clObj (hp : Value) (p : Int) (tags args : Value) (d : Int) : Obj := .cells #[hp, .int .i64 p, tags, args, .int .u64 d] 185 (0,0)
def uv (x : Int) : Value := .int .u64 x
theorem index_any (cb : Nat) (hp : Option Addr) (p : Int) (ta : Option Addr) (tn tc : Nat) (aa : Option Addr) (ac : Nat) (d : Int) (l : List Int) (i : Nat) (hi : i < l.length) (hU : ∀ x ∈ l, U64 x) (w : World)
    (hb : w.heap[cb]? = some (clObj (.pointer hp) p (.slice ta tn tc) (.slice aa l.length ac) d)) (hR : Rv w 1 (.slice aa l.length ac) l.length (l.map uv)) :
    Calls Tryz.prog 173 #[.pointer (some ⟨cb, 0, none⟩), .int .i64 i] w fun e w' => e = .returned (.int .i64 (idxI l[i])) ∧ w' = w := by
  obtain ⟨g, o, rfl, hc⟩ := hR.cell (j := i) (u := uv l[i]) (by rw [List.getElem?_map, List.getElem?_eq_getElem hi]; rfl)
  have hix := Index_any l[i] (hU _ (List.getElem_mem hi)) w
  have c3 := blk_cell hb 3
  unfold uv at hc
  generalize l[i] = x at *
  generalize l.length = n at *
  clear hU hR hb
  go_enter Tryz.func173, Tryz.ntmps173
  go_wp2_with (go_at_call 203; refine hix.mono ?_; rintro e w1 ⟨rfl, rfl⟩)
  go_ret
  exact ⟨rfl, rfl⟩
theorem handle_any (cb : Nat) (hp : Option Addr) (p : Int) (ta : Option Addr) (tn tc : Nat) (aa : Option Addr) (ac : Nat) (d : Int) (l : List Int) (i : Nat) (hi : i < l.length) (w : World)
    (hb : w.heap[cb]? = some (clObj (.pointer hp) p (.slice ta tn tc) (.slice aa l.length ac) d)) (hR : Rv w 1 (.slice aa l.length ac) l.length (l.map uv)) :
    Calls Tryz.prog 172 #[.pointer (some ⟨cb, 0, none⟩), .int .i64 i] w fun e w' => e = .returned (.int .u64 l[i]) ∧ w' = w := by
  obtain ⟨g, o, rfl, hc⟩ := hR.cell (j := i) (u := uv l[i]) (by rw [List.getElem?_map, List.getElem?_eq_getElem hi]; rfl)
  have c3 := blk_cell hb 3
  unfold uv at hc
  generalize l[i] = x at *
  generalize l.length = n at *
  clear hR hb
  go_enter Tryz.func172, Tryz.ntmps172
  go_wp2
  go_ret
  exact ⟨rfl, rfl⟩
/-- The tag that a call of Alloc names. -/
def tagI (tags : List Int) (x : Int) : Int := if 0 ≤ idxI x ∧ idxI x < tags.length then tags.getD (idxI x).toNat 0 else 0
theorem tag_any (cb : Nat) (hp : Option Addr) (p : Int) (ta : Option Addr) (tc : Nat) (tags : List Int) (aa : Option Addr) (ac : Nat) (d : Int) (l : List Int) (hi : 0 < l.length) (hU : ∀ x ∈ l, U64 x) (w : World)
    (hb : w.heap[cb]? = some (clObj (.pointer hp) p (.slice ta tags.length tc) (.slice aa l.length ac) d)) (hR : Rv w 1 (.slice aa l.length ac) l.length (l.map uv)) (hT : Rv w 1 (.slice ta tags.length tc) tags.length (tags.map iv)) :
    Calls Tryz.prog 171 #[.pointer (some ⟨cb, 0, none⟩)] w fun e w' => e = .returned (.int .i64 (tagI tags l[0])) ∧ w' = w := by
  have hix := index_any cb hp p ta tags.length tc aa ac d l 0 hi hU w hb hR
  have c2 := blk_cell hb 2
  generalize l[0] = x at *
  unfold tagI
  generalize idxI x = ix at *
  by_cases h0 : 0 ≤ ix
  · by_cases h1 : ix < tags.length
    · rw [if_pos ⟨h0, h1⟩]
      obtain ⟨k, rfl⟩ : ∃ k : Nat, ix = k := ⟨ix.toNat, by omega⟩
      have hk : k < tags.length := by omega
      obtain ⟨g, o, rfl, hc⟩ := hT.cell (j := k) (u := iv tags[k]) (by rw [List.getElem?_map, List.getElem?_eq_getElem hk]; rfl)
      rw [Int.toNat_natCast, show tags.getD k 0 = tags[k] from by simp [List.getD, List.getElem?_eq_getElem hk]]
      unfold iv at hc
      generalize tags[k] = y at *
      have d1 : decide ((k : Int) < tags.length) = true := decide_eq_true h1
      generalize tags.length = n at *
      have d0 : decide ((0 : Int) ≤ k) = true := decide_eq_true h0
      clear h0 h1 hU hR hb hT
      go_enter Tryz.func171, Tryz.ntmps171
      go_wp2_with (go_at_call 173; refine hix.mono ?_; rintro e w1 ⟨rfl, rfl⟩)
      go_ret
      exact ⟨rfl, rfl⟩
    · rw [if_neg fun h => h1 h.2]
      have d1 : decide (ix < tags.length) = false := decide_eq_false h1
      have d0 : decide (0 ≤ ix) = true := decide_eq_true h0
      generalize tags.length = n at *
      clear h0 h1 hU hR hb hT
      go_enter Tryz.func171, Tryz.ntmps171
      go_wp2_with (go_at_call 173; refine hix.mono ?_; rintro e w1 ⟨rfl, rfl⟩)
      go_ret
      exact ⟨rfl, rfl⟩
  · rw [if_neg fun h => h0 h.1]
    have d0 : decide (0 ≤ ix) = false := decide_eq_false h0
    generalize tags.length = n at *
    clear h0 hU hR hb hT
    go_enter Tryz.func171, Tryz.ntmps171
    go_wp2_with (go_at_call 173; refine hix.mono ?_; rintro e w1 ⟨rfl, rfl⟩)
    go_ret
    exact ⟨rfl, rfl⟩
end Go.Proofs.YthnfiejdkhejlaaGreat
