/- Package hostcall: store, load of a nil heap. -/
import Derived.Test.YthnfiejdkhejlaaGreatJ11
set_option linter.all false
set_option maxRecDepth 100000
namespace Go.Proofs.YthnfiejdkhejlaaGreat
open Go.RowKit Go.Sl Go.Shelf
/-- The n least significant bytes of a word, of which k are set. -/
def bnk (x n k : Nat) : List Nat := (List.range n).map fun i => if i < k then x / 2 ^ (8 * i) % 256 else 0
def bnn (x n : Nat) : List Nat := (List.range n).map fun i => x / 2 ^ (8 * i) % 256
theorem bnk_full (x n : Nat) : bnk x n n = bnn x n := by
  unfold bnk bnn
  refine List.map_congr_left fun i hi => ?_
  rw [if_pos (List.mem_range.1 hi)]
theorem bnk_len (x n k : Nat) : (bnk x n k).length = n := by simp [bnk]
theorem bnn_len (x n : Nat) : (bnn x n).length = n := by simp [bnn]
theorem bnk_zero (x n : Nat) : bnk x n 0 = List.replicate n 0 := by
  refine List.ext_getElem (by simp [bnk]) fun i h1 h2 => by simp [bnk]
theorem bnk_arr (x n k : Nat) : (((bnk x n k).map bv).toArray.setIfInBounds k (.int .u8 ((x : Int) / 2 ^ (8 * k) % 256))) = ((bnk x n (k + 1)).map bv).toArray := by
  rw [← Array.toList_inj, Array.toList_setIfInBounds]
  refine List.ext_getElem (by simp [bnk]) fun i h1 h2 => ?_
  simp only [List.getElem_set]
  split
  · rename_i h
    subst h
    simp [bnk, bv]
  · rename_i h
    have h3 : (i < k) = (i < k + 1) := by apply propext; omega
    simp [bnk, h3]
def bnObj (x n k : Nat) : Obj := .cells ((bnk x n k).map bv).toArray 5 (0,0)
set_option maxHeartbeats 1600000 in
theorem store_run (cb : Nat) (hp : Option Addr) (p : Int) (ta : Option Addr) (tn tc : Nat) (aa : Option Addr) (ac : Nat) (d : Int) (x0 x1 : Int) (n x3 : Nat) (hn : n ≤ 8) (h0 : U64 x0) (h1 : U64 x1) (h3 : x3 < 18446744073709551616) (w : World)
    (hb : w.heap[cb]? = some (clObj (.pointer hp) p (.slice ta tn tc) (.slice aa 4 ac) d)) (hR : Rv w 1 (.slice aa 4 ac) 4 ([x0, x1, (n : Int), (x3 : Int)].map uv)) (R : Int → World → Prop)
    (hst : ∀ V q, Fresh w V (rowAs 5 1 (.slice (some ⟨q, 0, none⟩) n n) n ((bnn x3 n).map bv)) → Calls Tryz.prog 19 #[.pointer hp, .int .i64 p, .int .u64 x0, .int .i64 (idxI x1), .slice (some ⟨q, 0, none⟩) n n] V fun e w' => ∃ r, e = .returned (.int .i64 r) ∧ R r w') :
    Calls Tryz.prog 175 #[.pointer (some ⟨cb, 0, none⟩)] w fun e w' => ∃ r, e = .returned (.int .i64 r) ∧ R r w' := by
  have hU : ∀ x ∈ [x0, x1, (n : Int), (x3 : Int)], U64 x := by
    intro x hx
    simp only [List.mem_cons, List.not_mem_nil, or_false] at hx
    rcases hx with rfl | rfl | rfl | rfl
    · exact h0
    · exact h1
    · exact ⟨by omega, by omega⟩
    · exact ⟨by omega, by omega⟩
  have hi2 := index_any cb hp p ta tn tc aa ac d [x0, x1, (n : Int), (x3 : Int)] 2 (by simp) hU w hb hR
  have hi1 := fun V (B : Below w.heap.size w V) => index_any cb hp p ta tn tc aa ac d [x0, x1, (n : Int), (x3 : Int)] 1 (by simp) hU V (blkB B hb) (hR.below B)
  have hh0 := fun V (B : Below w.heap.size w V) => handle_any cb hp p ta tn tc aa ac d [x0, x1, (n : Int), (x3 : Int)] 0 (by simp) V (blkB B hb) (hR.below B)
  simp only [List.getElem_cons_zero, List.getElem_cons_succ] at hi2 hi1 hh0
  have e2 : idxI (n : Int) = (n : Int) := by unfold idxI; rw [if_neg (by omega)]
  rw [e2] at hi2
  obtain ⟨i0, hi, hz0, hz1, hz2⟩ := info_parts info_u8
  have hmk := run_makeSlice (P := Tryz.prog) (w := w) 49 5 i0 _ Tryz.underlying49 hi hz0 .i64 .i64 n n (by omega) (by omega) (by rw [hz1]; simp; omega) (by rw [hz2]; simp; omega) (by omega)
  simp only [hz1, Int.toNat_natCast] at hmk
  have hob : w.alloc (.cells (madeCells (Value.cells (.int .u8 0)) (n * 1)) 5) = w.alloc (bnObj x3 n 0) := by
    have e2 : madeCells (Value.cells (.int .u8 0)) (n * 1) = ((bnk x3 n 0).map bv).toArray := by
      have e3 : madeCells (Value.cells (.int .u8 0)) (n * 1) = madeCells #[.int .u8 0] (n * 1) := rfl
      rw [e3, Nat.mul_one, ← Array.toList_inj, made_u8, bnk_zero]
    rw [e2]; rfl
  rw [hob] at hmk
  clear hob
  have T1 := (S1' w).alloc (bnObj x3 n 0)
  obtain ⟨g, o, rfl, hc3⟩ := hR.cell (j := 3) (u := uv (x3 : Int)) rfl
  unfold uv at hc3
  generalize w.alloc (bnObj x3 n 0) = W at *
  generalize hq : w.heap.size = q at T1 hmk
  have HQ := Lib.hid hq
  clear hq
  go_enter Tryz.func175, Tryz.ntmps175
  go_wp2_with (go_at_call 173; refine hi2.mono ?_; clear hi2; rintro e w1 ⟨rfl, rfl⟩)
  go_loopw [10] (fun i wr => ∃ k : Nat, k ≤ n ∧ i = .int .i64 k ∧ St w1 Hl.emp wr (pts q (bnObj x3 n k) * 1)) (fun i wr => n - (intOf i).toNat)
  case atStart => exact ⟨0, by omega, rfl, T1⟩
  case round =>
    obtain ⟨k, hk, rfl, T2⟩ := hrel
    have B2 := T2.below_all rfl
    by_cases hkn : k = n
    · subst hkn
      have F2 : Fresh w1 wr (rowAs 5 1 (.slice (some ⟨q, 0, none⟩) k k) k ((bnn x3 k).map bv)) := by
        refine Fresh.of_st (St.m1 (T2.to fun _ a => rowAs_mk (by simp [bnn]) (Nat.le_refl k) (by unfold maxLen; omega) (by simp [bnk]) (by rw [← bnk_full, Nat.mul_one, List.take_of_length_le (by simp [bnk])]) a))
      have hs := fun V (B : Below wr.heap.size wr V) => hst V q ((F2.sst.below B))
      have b0 := blkB B2 hb
      have g0 := bcells b0 0
      have g1 := bcells b0 1
      have hh := fun V (B : Below wr.heap.size wr V) => hh0 V (B2.trans' B)
      have hi := fun V (B : Below wr.heap.size wr V) => hi1 V (B2.trans' B)
      clear hst hh0 hi1 T2 hmk T1 F2 hc3 hR hb b0 hn
      go_upto_region 7 with fail
      refine wp_region_sb [(0, 0), (0, 1), (0, 2), (1, 3), (0, 4), (0, 5), (0, 6), (1, 7), (0, 8), (0, 10), (0, 12), (3, 9), (3, 11), (2, 13), (0, 14)] (by kernel_rfl) (by kernel_rfl) (fun V BV => ?_)
      repeat (first | (refine sch_q0 (by rfl) ?_; go_big_quiet_step (fail); refine wpQuiet_nil ?_) | (refine sch_q1 (by rfl) ?_; go_big_quiet_step (fail); refine wpQuiet_nil ?_))
      refine sch_e3 (by rfl) ?_
      go_wp2_with (go_at_call 172; refine (hh _ BV).mono ?_; clear hh; rintro e w3 ⟨rfl, rfl⟩)
      refine onlyN_mk ⟨BV, ?_⟩
      refine sch_e3 (by rfl) ?_
      go_wp2_with (go_at_call 173; refine (hi _ BV).mono ?_; clear hi; rintro e w4 ⟨rfl, rfl⟩)
      refine onlyN_mk ⟨BV, ?_⟩
      refine sch_e2 (by rfl) ?_
      have H := hs _ BV
      clear hs
      go_wp2_with fail
      refine H.mono ?_
      clear H
      rintro e w5 ⟨r, rfl, hr⟩
      go_wp2_with fail
      refine onlyN_mk ?_
      repeat (first | (refine sch_q0 (by rfl) ?_; go_big_quiet_step (fail); refine wpQuiet_nil ?_) | (refine sch_q1 (by rfl) ?_; go_big_quiet_step (fail); refine wpQuiet_nil ?_))
      refine sch_nil ?_
      have HR := Lib.hid hr
      clear hr
      go_wp2
      go_ret
      exact ⟨r, rfl, HR.out⟩
    · have hk3 : k < n := by omega
      have hw1 : IntKind.i64.wrap ((k : Int) + 1) = (k : Int) + 1 := IntWalk.i64_in _ (by omega)
      have hw2 : IntKind.i64.wrap (8 * (k : Int)) = 8 * (k : Int) := IntWalk.i64_in _ (by omega)
      have hx := T2.blk
      have hc : ∃ u, wr.cell? ⟨q, k, none⟩ = some u := by
        rw [blk_cell hx]
        exact ⟨_, Array.getElem?_eq_getElem (by simp [bnk]; omega)⟩
      obtain ⟨u, hu⟩ := hc
      have hf := blk_free hx k
      have T3 := T2.set k (.int .u8 ((x3 : Int) / 2 ^ (8 * k) % 256))
      rw [bnk_arr] at T3
      have HT := Lib.hid T3
      have c3 := blk_cell (blkB B2 hb) 3
      have cc := cellB B2 hc3
      clear T3 T2 hx hst hh0 hi1 hR hb hc3 hmk T1 B2
      go_wp2
      go_roundw
      case rel => exact ⟨k + 1, by omega, rfl, HT.out⟩
      case measure => simp [intOf]; omega
end Go.Proofs.YthnfiejdkhejlaaGreat
/- Package hostcall: load, do of a nil heap. (Printed by gendo.py.) -/
namespace Go.Proofs.YthnfiejdkhejlaaGreat
open Go.RowKit Go.Sl Go.Shelf
/-- What do reads of its caller. -/
structure ClW (cb : Nat) (hp : Option Addr) (p : Int) (ta : Option Addr) (tc : Nat) (tags : List Int) (aa : Option Addr) (ac : Nat) (d : Int) (l : List Int) (w : World) : Prop where
  b : w.heap[cb]? = some (clObj (.pointer hp) p (.slice ta tags.length tc) (.slice aa l.length ac) d)
  r : Rv w 1 (.slice aa l.length ac) l.length (l.map uv)
  t : Rv w 1 (.slice ta tags.length tc) tags.length (tags.map iv)
  u : ∀ x ∈ l, U64 x
theorem ClW.below {cb : Nat} {hp : Option Addr} {p : Int} {ta : Option Addr} {tc : Nat} {tags : List Int} {aa : Option Addr} {ac : Nat} {d : Int} {l : List Int} {w V : World} (c : ClW cb hp p ta tc tags aa ac d l w) (B : Below w.heap.size w V) : ClW cb hp p ta tc tags aa ac d l V := ⟨blkB B c.b, c.r.below B, c.t.below B, c.u⟩
theorem ClW.ix {cb : Nat} {hp : Option Addr} {p : Int} {ta : Option Addr} {tc : Nat} {tags : List Int} {aa : Option Addr} {ac : Nat} {d : Int} {l : List Int} {w : World} (c : ClW cb hp p ta tc tags aa ac d l w) (i : Nat) (hi : i < l.length) : Calls Tryz.prog 173 #[.pointer (some ⟨cb, 0, none⟩), .int .i64 i] w fun e w' => e = .returned (.int .i64 (idxI l[i])) ∧ w' = w := index_any cb hp p ta tags.length tc aa ac d l i hi c.u w c.b c.r
theorem ClW.hd {cb : Nat} {hp : Option Addr} {p : Int} {ta : Option Addr} {tc : Nat} {tags : List Int} {aa : Option Addr} {ac : Nat} {d : Int} {l : List Int} {w : World} (c : ClW cb hp p ta tc tags aa ac d l w) (i : Nat) (hi : i < l.length) : Calls Tryz.prog 172 #[.pointer (some ⟨cb, 0, none⟩), .int .i64 i] w fun e w' => e = .returned (.int .u64 l[i]) ∧ w' = w := handle_any cb hp p ta tags.length tc aa ac d l i hi w c.b c.r
theorem ClW.tg {cb : Nat} {hp : Option Addr} {p : Int} {ta : Option Addr} {tc : Nat} {tags : List Int} {aa : Option Addr} {ac : Nat} {d : Int} {l : List Int} {w : World} (c : ClW cb hp p ta tc tags aa ac d l w) (hi : 0 < l.length) : Calls Tryz.prog 171 #[.pointer (some ⟨cb, 0, none⟩)] w fun e w' => e = .returned (.int .i64 (tagI tags l[0])) ∧ w' = w := tag_any cb hp p ta tc tags aa ac d l hi c.u w c.b c.r c.t
set_option maxHeartbeats 800000 in
theorem do_nil1 (cb : Nat) (p : Int) (ta : Option Addr) (tc : Nat) (tags : List Int) (aa : Option Addr) (ac : Nat) (d : Int) (x0 : Int) (w : World) (cl : ClW cb none p ta tc tags aa ac d [x0] w) :
    Calls Tryz.prog 114 #[.pointer (some ⟨cb, 0, none⟩), .int .i64 1] w fun e w' => e = .returned (.tuple #[.int .u64 0, .int .i64 15]) ∧ Below w.heap.size w w' := by
  have a0 := fun V (B : Below w.heap.size w V) => (cl.below B).tg (by simp)
  simp only [List.getElem_cons_zero, List.getElem_cons_succ] at a0
  have hop := fun V => Alloc_nil p (tagI tags x0) d V
  have g0 := bcells cl.b 0
  have g1 := bcells cl.b 1
  have g4 := bcells cl.b 4
  clear cl
  go_enter Tryz.func114, Tryz.ntmps114
  go_upto_region 3 with fail
  refine wp_region_sb [(0, 0), (0, 1), (0, 2), (1, 3), (0, 4), (0, 5), (0, 6), (1, 7), (0, 8), (0, 10), (0, 11), (0, 12), (1, 13), (3, 9), (2, 14), (0, 15), (0, 16), (0, 17), (0, 18), (0, 19)] (by kernel_rfl) (by kernel_rfl) (fun V BV => ?_)
  repeat (first | (refine sch_q0 (by rfl) ?_; go_big_quiet_step (fail); refine wpQuiet_nil ?_) | (refine sch_q1 (by rfl) ?_; go_big_quiet_step (fail); refine wpQuiet_nil ?_))
  refine sch_e3 (by rfl) ?_
  go_wp2_with (go_at_call 171; refine (a0 _ BV).mono ?_; clear a0; rintro e w1 ⟨rfl, rfl⟩)
  refine onlyN_mk ⟨BV, ?_⟩
  refine sch_e2 (by rfl) ?_
  go_wp2_with (go_at_call 11; refine (hop _).mono ?_; clear hop; rintro e wz ⟨rfl, BZ⟩)
  refine onlyN_mk ?_
  repeat (first | (refine sch_q0 (by rfl) ?_; go_big_quiet_step (fail); refine wpQuiet_nil ?_) | (refine sch_q1 (by rfl) ?_; go_big_quiet_step (fail); refine wpQuiet_nil ?_))
  refine sch_nil ?_
  go_wp2
  go_ret2
  exact ⟨rfl, BV.trans' BZ⟩
set_option maxHeartbeats 800000 in
theorem do_nil2 (cb : Nat) (p : Int) (ta : Option Addr) (tc : Nat) (tags : List Int) (aa : Option Addr) (ac : Nat) (d : Int) (x0 : Int) (w : World) (cl : ClW cb none p ta tc tags aa ac d [x0] w) :
    Calls Tryz.prog 114 #[.pointer (some ⟨cb, 0, none⟩), .int .i64 2] w fun e w' => e = .returned (.tuple #[.int .u64 0, .int .i64 15]) ∧ Below w.heap.size w w' := by
  have a0 := fun V (B : Below w.heap.size w V) => (cl.below B).hd 0 (by simp)
  simp only [List.getElem_cons_zero, List.getElem_cons_succ] at a0
  have hop := fun V => Free_nil p x0 V
  have g0 := bcells cl.b 0
  have g1 := bcells cl.b 1
  clear cl
  go_enter Tryz.func114, Tryz.ntmps114
  go_upto_region 6 with fail
  refine wp_region_sb [(0, 0), (0, 1), (0, 2), (1, 3), (0, 4), (0, 5), (0, 6), (1, 7), (0, 8), (3, 9), (2, 10), (0, 11), (0, 12)] (by kernel_rfl) (by kernel_rfl) (fun V BV => ?_)
  repeat (first | (refine sch_q0 (by rfl) ?_; go_big_quiet_step (fail); refine wpQuiet_nil ?_) | (refine sch_q1 (by rfl) ?_; go_big_quiet_step (fail); refine wpQuiet_nil ?_))
  refine sch_e3 (by rfl) ?_
  go_wp2_with (go_at_call 172; refine (a0 _ BV).mono ?_; clear a0; rintro e w1 ⟨rfl, rfl⟩)
  refine onlyN_mk ⟨BV, ?_⟩
  refine sch_e2 (by rfl) ?_
  go_wp2_with (go_at_call 17; refine (hop _).mono ?_; clear hop; rintro e wz ⟨rfl, BZ⟩)
  refine onlyN_mk ?_
  repeat (first | (refine sch_q0 (by rfl) ?_; go_big_quiet_step (fail); refine wpQuiet_nil ?_) | (refine sch_q1 (by rfl) ?_; go_big_quiet_step (fail); refine wpQuiet_nil ?_))
  refine sch_nil ?_
  go_wp2
  go_ret2
  exact ⟨rfl, BV.trans' BZ⟩
set_option maxHeartbeats 800000 in
theorem do_nil3 (cb : Nat) (p : Int) (ta : Option Addr) (tc : Nat) (tags : List Int) (aa : Option Addr) (ac : Nat) (d : Int) (x0 x1 : Int) (w : World) (cl : ClW cb none p ta tc tags aa ac d [x0, x1] w) :
    Calls Tryz.prog 114 #[.pointer (some ⟨cb, 0, none⟩), .int .i64 3] w fun e w' => e = .returned (.tuple #[.int .u64 0, .int .i64 15]) ∧ Below w.heap.size w w' := by
  have a0 := fun V (B : Below w.heap.size w V) => (cl.below B).hd 0 (by simp)
  have a1 := fun V (B : Below w.heap.size w V) => (cl.below B).ix 1 (by simp)
  simp only [List.getElem_cons_zero, List.getElem_cons_succ] at a0 a1
  have hop := fun V => Get_nil p x0 (idxI x1) V
  have g0 := bcells cl.b 0
  have g1 := bcells cl.b 1
  clear cl
  go_enter Tryz.func114, Tryz.ntmps114
  go_upto_region 8 with fail
  refine wp_region_sb [(0, 0), (0, 1), (0, 2), (1, 3), (0, 4), (0, 5), (0, 6), (1, 7), (0, 8), (0, 10), (3, 9), (3, 11), (2, 12), (0, 13), (0, 14), (0, 15), (0, 16)] (by kernel_rfl) (by kernel_rfl) (fun V BV => ?_)
  repeat (first | (refine sch_q0 (by rfl) ?_; go_big_quiet_step (fail); refine wpQuiet_nil ?_) | (refine sch_q1 (by rfl) ?_; go_big_quiet_step (fail); refine wpQuiet_nil ?_))
  refine sch_e3 (by rfl) ?_
  go_wp2_with (go_at_call 172; refine (a0 _ BV).mono ?_; clear a0; rintro e w1 ⟨rfl, rfl⟩)
  refine onlyN_mk ⟨BV, ?_⟩
  refine sch_e3 (by rfl) ?_
  go_wp2_with (go_at_call 173; refine (a1 _ BV).mono ?_; clear a1; rintro e w2 ⟨rfl, rfl⟩)
  refine onlyN_mk ⟨BV, ?_⟩
  refine sch_e2 (by rfl) ?_
  go_wp2_with (go_at_call 12; refine (hop _).mono ?_; clear hop; rintro e wz ⟨rfl, BZ⟩)
  refine onlyN_mk ?_
  repeat (first | (refine sch_q0 (by rfl) ?_; go_big_quiet_step (fail); refine wpQuiet_nil ?_) | (refine sch_q1 (by rfl) ?_; go_big_quiet_step (fail); refine wpQuiet_nil ?_))
  refine sch_nil ?_
  go_wp2
  go_ret2
  exact ⟨rfl, BV.trans' BZ⟩
set_option maxHeartbeats 800000 in
theorem do_nil4 (cb : Nat) (p : Int) (ta : Option Addr) (tc : Nat) (tags : List Int) (aa : Option Addr) (ac : Nat) (d : Int) (x0 x1 x2 : Int) (w : World) (cl : ClW cb none p ta tc tags aa ac d [x0, x1, x2] w) :
    Calls Tryz.prog 114 #[.pointer (some ⟨cb, 0, none⟩), .int .i64 4] w fun e w' => e = .returned (.tuple #[.int .u64 0, .int .i64 15]) ∧ Below w.heap.size w w' := by
  have a0 := fun V (B : Below w.heap.size w V) => (cl.below B).hd 0 (by simp)
  have a1 := fun V (B : Below w.heap.size w V) => (cl.below B).ix 1 (by simp)
  simp only [List.getElem_cons_zero, List.getElem_cons_succ] at a0 a1
  have hop := fun V => Set_nil p x0 (idxI x1) x2 V
  have g0 := bcells cl.b 0
  have g1 := bcells cl.b 1
  have g3 := bcells cl.b 3
  obtain ⟨g, o, rfl, hc2⟩ := cl.r.cell (j := 2) (u := uv x2) rfl
  unfold uv at hc2
  have gc := bcell hc2
  clear hc2
  clear cl
  go_enter Tryz.func114, Tryz.ntmps114
  go_upto_region 10 with fail
  refine wp_region_sb [(0, 0), (0, 1), (0, 2), (1, 3), (0, 4), (0, 5), (0, 6), (1, 7), (0, 8), (0, 10), (0, 12), (0, 13), (0, 14), (1, 15), (0, 16), (1, 17), (3, 9), (3, 11), (2, 18), (0, 19), (0, 20)] (by kernel_rfl) (by kernel_rfl) (fun V BV => ?_)
  repeat (first | (refine sch_q0 (by rfl) ?_; go_big_quiet_step (fail); refine wpQuiet_nil ?_) | (refine sch_q1 (by rfl) ?_; go_big_quiet_step (fail); refine wpQuiet_nil ?_))
  refine sch_e3 (by rfl) ?_
  go_wp2_with (go_at_call 172; refine (a0 _ BV).mono ?_; clear a0; rintro e w1 ⟨rfl, rfl⟩)
  refine onlyN_mk ⟨BV, ?_⟩
  refine sch_e3 (by rfl) ?_
  go_wp2_with (go_at_call 173; refine (a1 _ BV).mono ?_; clear a1; rintro e w2 ⟨rfl, rfl⟩)
  refine onlyN_mk ⟨BV, ?_⟩
  refine sch_e2 (by rfl) ?_
  go_wp2_with (go_at_call 18; refine (hop _).mono ?_; clear hop; rintro e wz ⟨rfl, BZ⟩)
  refine onlyN_mk ?_
  repeat (first | (refine sch_q0 (by rfl) ?_; go_big_quiet_step (fail); refine wpQuiet_nil ?_) | (refine sch_q1 (by rfl) ?_; go_big_quiet_step (fail); refine wpQuiet_nil ?_))
  refine sch_nil ?_
  go_wp2
  go_ret2
  exact ⟨rfl, BV.trans' BZ⟩
set_option maxHeartbeats 800000 in
theorem do_nil7 (cb : Nat) (p : Int) (ta : Option Addr) (tc : Nat) (tags : List Int) (aa : Option Addr) (ac : Nat) (d : Int) (x0 x1 x2 x3 x4 : Int) (w : World) (cl : ClW cb none p ta tc tags aa ac d [x0, x1, x2, x3, x4] w) :
    Calls Tryz.prog 114 #[.pointer (some ⟨cb, 0, none⟩), .int .i64 7] w fun e w' => e = .returned (.tuple #[.int .u64 0, .int .i64 15]) ∧ Below w.heap.size w w' := by
  have a0 := fun V (B : Below w.heap.size w V) => (cl.below B).hd 0 (by simp)
  have a1 := fun V (B : Below w.heap.size w V) => (cl.below B).ix 1 (by simp)
  have a2 := fun V (B : Below w.heap.size w V) => (cl.below B).hd 2 (by simp)
  have a3 := fun V (B : Below w.heap.size w V) => (cl.below B).ix 3 (by simp)
  have a4 := fun V (B : Below w.heap.size w V) => (cl.below B).ix 4 (by simp)
  simp only [List.getElem_cons_zero, List.getElem_cons_succ] at a0 a1 a2 a3 a4
  have hop := fun V => Copy_nil p x0 (idxI x1) x2 (idxI x3) (idxI x4) V
  have g0 := bcells cl.b 0
  have g1 := bcells cl.b 1
  clear cl
  go_enter Tryz.func114, Tryz.ntmps114
  go_upto_region 16 with fail
  refine wp_region_sb [(0, 0), (0, 1), (0, 2), (1, 3), (0, 4), (0, 5), (0, 6), (1, 7), (0, 8), (0, 10), (0, 12), (0, 14), (0, 16), (3, 9), (3, 11), (3, 13), (3, 15), (3, 17), (2, 18), (0, 19), (0, 20)] (by kernel_rfl) (by kernel_rfl) (fun V BV => ?_)
  repeat (first | (refine sch_q0 (by rfl) ?_; go_big_quiet_step (fail); refine wpQuiet_nil ?_) | (refine sch_q1 (by rfl) ?_; go_big_quiet_step (fail); refine wpQuiet_nil ?_))
  refine sch_e3 (by rfl) ?_
  go_wp2_with (go_at_call 172; refine (a0 _ BV).mono ?_; clear a0; rintro e w1 ⟨rfl, rfl⟩)
  refine onlyN_mk ⟨BV, ?_⟩
  refine sch_e3 (by rfl) ?_
  go_wp2_with (go_at_call 173; refine (a1 _ BV).mono ?_; clear a1; rintro e w2 ⟨rfl, rfl⟩)
  refine onlyN_mk ⟨BV, ?_⟩
  refine sch_e3 (by rfl) ?_
  go_wp2_with (go_at_call 172; refine (a2 _ BV).mono ?_; clear a2; rintro e w3 ⟨rfl, rfl⟩)
  refine onlyN_mk ⟨BV, ?_⟩
  refine sch_e3 (by rfl) ?_
  go_wp2_with (go_at_call 173; refine (a3 _ BV).mono ?_; clear a3; rintro e w4 ⟨rfl, rfl⟩)
  refine onlyN_mk ⟨BV, ?_⟩
  refine sch_e3 (by rfl) ?_
  go_wp2_with (go_at_call 173; refine (a4 _ BV).mono ?_; clear a4; rintro e w5 ⟨rfl, rfl⟩)
  refine onlyN_mk ⟨BV, ?_⟩
  refine sch_e2 (by rfl) ?_
  go_wp2_with (go_at_call 20; refine (hop _).mono ?_; clear hop; rintro e wz ⟨rfl, BZ⟩)
  refine onlyN_mk ?_
  repeat (first | (refine sch_q0 (by rfl) ?_; go_big_quiet_step (fail); refine wpQuiet_nil ?_) | (refine sch_q1 (by rfl) ?_; go_big_quiet_step (fail); refine wpQuiet_nil ?_))
  refine sch_nil ?_
  go_wp2
  go_ret2
  exact ⟨rfl, BV.trans' BZ⟩
set_option maxHeartbeats 800000 in
theorem do_nil8 (cb : Nat) (p : Int) (ta : Option Addr) (tc : Nat) (tags : List Int) (aa : Option Addr) (ac : Nat) (d : Int) (x0 x1 : Int) (w : World) (cl : ClW cb none p ta tc tags aa ac d [x0, x1] w) :
    Calls Tryz.prog 114 #[.pointer (some ⟨cb, 0, none⟩), .int .i64 8] w fun e w' => e = .returned (.tuple #[.int .u64 0, .int .i64 15]) ∧ Below w.heap.size w w' := by
  have a0 := fun V (B : Below w.heap.size w V) => (cl.below B).hd 0 (by simp)
  have a1 := fun V (B : Below w.heap.size w V) => (cl.below B).ix 1 (by simp)
  simp only [List.getElem_cons_zero, List.getElem_cons_succ] at a0 a1
  have hop := fun V => Transfer_nil p x0 (idxI x1) V
  have g0 := bcells cl.b 0
  have g1 := bcells cl.b 1
  clear cl
  go_enter Tryz.func114, Tryz.ntmps114
  go_upto_region 18 with fail
  refine wp_region_sb [(0, 0), (0, 1), (0, 2), (1, 3), (0, 4), (0, 5), (0, 6), (1, 7), (0, 8), (0, 10), (3, 9), (3, 11), (2, 12), (0, 13), (0, 14)] (by kernel_rfl) (by kernel_rfl) (fun V BV => ?_)
  repeat (first | (refine sch_q0 (by rfl) ?_; go_big_quiet_step (fail); refine wpQuiet_nil ?_) | (refine sch_q1 (by rfl) ?_; go_big_quiet_step (fail); refine wpQuiet_nil ?_))
  refine sch_e3 (by rfl) ?_
  go_wp2_with (go_at_call 172; refine (a0 _ BV).mono ?_; clear a0; rintro e w1 ⟨rfl, rfl⟩)
  refine onlyN_mk ⟨BV, ?_⟩
  refine sch_e3 (by rfl) ?_
  go_wp2_with (go_at_call 173; refine (a1 _ BV).mono ?_; clear a1; rintro e w2 ⟨rfl, rfl⟩)
  refine onlyN_mk ⟨BV, ?_⟩
  refine sch_e2 (by rfl) ?_
  go_wp2_with (go_at_call 21; refine (hop _).mono ?_; clear hop; rintro e wz ⟨rfl, BZ⟩)
  refine onlyN_mk ?_
  repeat (first | (refine sch_q0 (by rfl) ?_; go_big_quiet_step (fail); refine wpQuiet_nil ?_) | (refine sch_q1 (by rfl) ?_; go_big_quiet_step (fail); refine wpQuiet_nil ?_))
  refine sch_nil ?_
  go_wp2
  go_ret2
  exact ⟨rfl, BV.trans' BZ⟩
set_option maxHeartbeats 800000 in
theorem do_nil9 (cb : Nat) (p : Int) (ta : Option Addr) (tc : Nat) (tags : List Int) (aa : Option Addr) (ac : Nat) (d : Int) (x0 x1 : Int) (w : World) (cl : ClW cb none p ta tc tags aa ac d [x0, x1] w) :
    Calls Tryz.prog 114 #[.pointer (some ⟨cb, 0, none⟩), .int .i64 9] w fun e w' => e = .returned (.tuple #[.int .u64 0, .int .i64 15]) ∧ Below w.heap.size w w' := by
  have a0 := fun V (B : Below w.heap.size w V) => (cl.below B).hd 0 (by simp)
  have a1 := fun V (B : Below w.heap.size w V) => (cl.below B).ix 1 (by simp)
  simp only [List.getElem_cons_zero, List.getElem_cons_succ] at a0 a1
  have hop := fun V => Share_nil p x0 (idxI x1) V
  have g0 := bcells cl.b 0
  have g1 := bcells cl.b 1
  clear cl
  go_enter Tryz.func114, Tryz.ntmps114
  go_upto_region 20 with fail
  refine wp_region_sb [(0, 0), (0, 1), (0, 2), (1, 3), (0, 4), (0, 5), (0, 6), (1, 7), (0, 8), (0, 10), (3, 9), (3, 11), (2, 12), (0, 13), (0, 14)] (by kernel_rfl) (by kernel_rfl) (fun V BV => ?_)
  repeat (first | (refine sch_q0 (by rfl) ?_; go_big_quiet_step (fail); refine wpQuiet_nil ?_) | (refine sch_q1 (by rfl) ?_; go_big_quiet_step (fail); refine wpQuiet_nil ?_))
  refine sch_e3 (by rfl) ?_
  go_wp2_with (go_at_call 172; refine (a0 _ BV).mono ?_; clear a0; rintro e w1 ⟨rfl, rfl⟩)
  refine onlyN_mk ⟨BV, ?_⟩
  refine sch_e3 (by rfl) ?_
  go_wp2_with (go_at_call 173; refine (a1 _ BV).mono ?_; clear a1; rintro e w2 ⟨rfl, rfl⟩)
  refine onlyN_mk ⟨BV, ?_⟩
  refine sch_e2 (by rfl) ?_
  go_wp2_with (go_at_call 22; refine (hop _).mono ?_; clear hop; rintro e wz ⟨rfl, BZ⟩)
  refine onlyN_mk ?_
  repeat (first | (refine sch_q0 (by rfl) ?_; go_big_quiet_step (fail); refine wpQuiet_nil ?_) | (refine sch_q1 (by rfl) ?_; go_big_quiet_step (fail); refine wpQuiet_nil ?_))
  refine sch_nil ?_
  go_wp2
  go_ret2
  exact ⟨rfl, BV.trans' BZ⟩
set_option maxHeartbeats 800000 in
theorem do_nil10 (cb : Nat) (p : Int) (ta : Option Addr) (tc : Nat) (tags : List Int) (aa : Option Addr) (ac : Nat) (d : Int) (x0 x1 : Int) (w : World) (cl : ClW cb none p ta tc tags aa ac d [x0, x1] w) :
    Calls Tryz.prog 114 #[.pointer (some ⟨cb, 0, none⟩), .int .i64 10] w fun e w' => e = .returned (.tuple #[.int .u64 0, .int .i64 15]) ∧ Below w.heap.size w w' := by
  have a0 := fun V (B : Below w.heap.size w V) => (cl.below B).hd 0 (by simp)
  have a1 := fun V (B : Below w.heap.size w V) => (cl.below B).ix 1 (by simp)
  simp only [List.getElem_cons_zero, List.getElem_cons_succ] at a0 a1
  have hop := fun V => Lend_nil p x0 (idxI x1) V
  have g0 := bcells cl.b 0
  have g1 := bcells cl.b 1
  clear cl
  go_enter Tryz.func114, Tryz.ntmps114
  go_upto_region 22 with fail
  refine wp_region_sb [(0, 0), (0, 1), (0, 2), (1, 3), (0, 4), (0, 5), (0, 6), (1, 7), (0, 8), (0, 10), (3, 9), (3, 11), (2, 12), (0, 13), (0, 14)] (by kernel_rfl) (by kernel_rfl) (fun V BV => ?_)
  repeat (first | (refine sch_q0 (by rfl) ?_; go_big_quiet_step (fail); refine wpQuiet_nil ?_) | (refine sch_q1 (by rfl) ?_; go_big_quiet_step (fail); refine wpQuiet_nil ?_))
  refine sch_e3 (by rfl) ?_
  go_wp2_with (go_at_call 172; refine (a0 _ BV).mono ?_; clear a0; rintro e w1 ⟨rfl, rfl⟩)
  refine onlyN_mk ⟨BV, ?_⟩
  refine sch_e3 (by rfl) ?_
  go_wp2_with (go_at_call 173; refine (a1 _ BV).mono ?_; clear a1; rintro e w2 ⟨rfl, rfl⟩)
  refine onlyN_mk ⟨BV, ?_⟩
  refine sch_e2 (by rfl) ?_
  go_wp2_with (go_at_call 23; refine (hop _).mono ?_; clear hop; rintro e wz ⟨rfl, BZ⟩)
  refine onlyN_mk ?_
  repeat (first | (refine sch_q0 (by rfl) ?_; go_big_quiet_step (fail); refine wpQuiet_nil ?_) | (refine sch_q1 (by rfl) ?_; go_big_quiet_step (fail); refine wpQuiet_nil ?_))
  refine sch_nil ?_
  go_wp2
  go_ret2
  exact ⟨rfl, BV.trans' BZ⟩
set_option maxHeartbeats 800000 in
theorem do_nil11 (cb : Nat) (p : Int) (ta : Option Addr) (tc : Nat) (tags : List Int) (aa : Option Addr) (ac : Nat) (d : Int) (x0 : Int) (w : World) (cl : ClW cb none p ta tc tags aa ac d [x0] w) :
    Calls Tryz.prog 114 #[.pointer (some ⟨cb, 0, none⟩), .int .i64 11] w fun e w' => e = .returned (.tuple #[.int .u64 0, .int .i64 15]) ∧ Below w.heap.size w w' := by
  have a0 := fun V (B : Below w.heap.size w V) => (cl.below B).hd 0 (by simp)
  simp only [List.getElem_cons_zero, List.getElem_cons_succ] at a0
  have hop := fun V => Release_nil p x0 V
  have g0 := bcells cl.b 0
  have g1 := bcells cl.b 1
  clear cl
  go_enter Tryz.func114, Tryz.ntmps114
  go_upto_region 23 with fail
  refine wp_region_sb [(0, 0), (0, 1), (0, 2), (1, 3), (0, 4), (0, 5), (0, 6), (1, 7), (0, 8), (3, 9), (2, 10), (0, 11), (0, 12)] (by kernel_rfl) (by kernel_rfl) (fun V BV => ?_)
  repeat (first | (refine sch_q0 (by rfl) ?_; go_big_quiet_step (fail); refine wpQuiet_nil ?_) | (refine sch_q1 (by rfl) ?_; go_big_quiet_step (fail); refine wpQuiet_nil ?_))
  refine sch_e3 (by rfl) ?_
  go_wp2_with (go_at_call 172; refine (a0 _ BV).mono ?_; clear a0; rintro e w1 ⟨rfl, rfl⟩)
  refine onlyN_mk ⟨BV, ?_⟩
  refine sch_e2 (by rfl) ?_
  go_wp2_with (go_at_call 24; refine (hop _).mono ?_; clear hop; rintro e wz ⟨rfl, BZ⟩)
  refine onlyN_mk ?_
  repeat (first | (refine sch_q0 (by rfl) ?_; go_big_quiet_step (fail); refine wpQuiet_nil ?_) | (refine sch_q1 (by rfl) ?_; go_big_quiet_step (fail); refine wpQuiet_nil ?_))
  refine sch_nil ?_
  go_wp2
  go_ret2
  exact ⟨rfl, BV.trans' BZ⟩
set_option maxHeartbeats 800000 in
theorem load_nil (cb : Nat) (p : Int) (ta : Option Addr) (tc : Nat) (tags : List Int) (aa : Option Addr) (ac : Nat) (d : Int) (x0 x1 x2 : Int) (w : World) (cl : ClW cb none p ta tc tags aa ac d [x0, x1, x2] w) :
    Calls Tryz.prog 174 #[.pointer (some ⟨cb, 0, none⟩)] w fun e w' => e = .returned (.tuple #[.int .u64 0, .int .i64 15]) ∧ Below w.heap.size w w' := by
  have a0 := fun V (B : Below w.heap.size w V) => (cl.below B).hd 0 (by simp)
  have a1 := fun V (B : Below w.heap.size w V) => (cl.below B).ix 1 (by simp)
  have a2 := fun V (B : Below w.heap.size w V) => (cl.below B).ix 2 (by simp)
  simp only [List.getElem_cons_zero, List.getElem_cons_succ] at a0 a1 a2
  have hop := fun V => Load_nil p x0 (idxI x1) (idxI x2) V
  have g0 := bcells cl.b 0
  have g1 := bcells cl.b 1
  clear cl
  go_enter Tryz.func174, Tryz.ntmps174
  go_upto_region 1 with fail
  refine wp_region_sb [(0, 0), (0, 1), (0, 2), (1, 3), (0, 4), (0, 5), (0, 6), (1, 7), (0, 8), (0, 10), (0, 12), (3, 9), (3, 11), (3, 13), (2, 14), (0, 15), (0, 16), (0, 17), (0, 18), (0, 19)] (by kernel_rfl) (by kernel_rfl) (fun V BV => ?_)
  repeat (first | (refine sch_q0 (by rfl) ?_; go_big_quiet_step (fail); refine wpQuiet_nil ?_) | (refine sch_q1 (by rfl) ?_; go_big_quiet_step (fail); refine wpQuiet_nil ?_))
  refine sch_e3 (by rfl) ?_
  go_wp2_with (go_at_call 172; refine (a0 _ BV).mono ?_; clear a0; rintro e w1 ⟨rfl, rfl⟩)
  refine onlyN_mk ⟨BV, ?_⟩
  refine sch_e3 (by rfl) ?_
  go_wp2_with (go_at_call 173; refine (a1 _ BV).mono ?_; clear a1; rintro e w2 ⟨rfl, rfl⟩)
  refine onlyN_mk ⟨BV, ?_⟩
  refine sch_e3 (by rfl) ?_
  go_wp2_with (go_at_call 173; refine (a2 _ BV).mono ?_; clear a2; rintro e w3 ⟨rfl, rfl⟩)
  refine onlyN_mk ⟨BV, ?_⟩
  refine sch_e2 (by rfl) ?_
  go_wp2_with (go_at_call 13; refine (hop _).mono ?_; clear hop; rintro e wz ⟨rfl, BZ⟩)
  refine onlyN_mk ?_
  repeat (first | (refine sch_q0 (by rfl) ?_; go_big_quiet_step (fail); refine wpQuiet_nil ?_) | (refine sch_q1 (by rfl) ?_; go_big_quiet_step (fail); refine wpQuiet_nil ?_))
  refine sch_nil ?_
  have BB := Lib.hid (BV.trans' BZ)
  clear BV BZ g0 g1
  go_wp2
  go_loopw [6, 29] (fun v i wr => wr = wz ∧ v = .int .u64 0 ∧ i = .int .i64 0) (fun v i wr => 0)
  case atStart => exact ⟨rfl, rfl, rfl⟩
  case round =>
    obtain ⟨rfl, rfl, rfl⟩ := hrel
    go_wp2
    go_ret2
    exact ⟨rfl, BB.out⟩
theorem do_nil5 (cb : Nat) (p : Int) (ta : Option Addr) (tc : Nat) (tags : List Int) (aa : Option Addr) (ac : Nat) (d : Int) (x0 x1 x2 : Int) (w : World) (cl : ClW cb none p ta tc tags aa ac d [x0, x1, x2] w) :
    Calls Tryz.prog 114 #[.pointer (some ⟨cb, 0, none⟩), .int .i64 5] w fun e w' => e = .returned (.tuple #[.int .u64 0, .int .i64 15]) ∧ Below w.heap.size w w' := by
  have hl := load_nil cb p ta tc tags aa ac d x0 x1 x2 w cl
  clear cl
  go_enter Tryz.func114, Tryz.ntmps114
  go_wp2_with (go_at_call 174; refine hl.mono ?_; clear hl; rintro e w1 ⟨rfl, B1⟩)
  go_ret2
  exact ⟨rfl, B1⟩
theorem do_nil6 (cb : Nat) (p : Int) (ta : Option Addr) (tc : Nat) (tags : List Int) (aa : Option Addr) (ac : Nat) (d : Int) (x0 x1 : Int) (n x3 : Nat) (hn : n ≤ 8) (w : World) (cl : ClW cb none p ta tc tags aa ac d [x0, x1, (n : Int), (x3 : Int)] w) :
    Calls Tryz.prog 114 #[.pointer (some ⟨cb, 0, none⟩), .int .i64 6] w fun e w' => e = .returned (.tuple #[.int .u64 0, .int .i64 15]) ∧ Below w.heap.size w w' := by
  have hl := store_run cb none p ta tags.length tc aa ac d x0 x1 n x3 hn (cl.u _ (by simp)) (cl.u _ (by simp)) (by have := (cl.u (x3 : Int) (by simp)).2; omega) w cl.b cl.r (fun r w' => r = 15 ∧ Below w.heap.size w w') (fun V q F => (Store_nil p x0 (idxI x1) _ n n V).mono fun _ _ ⟨he, B⟩ => ⟨15, he, rfl, F.below.trans' B⟩)
  clear cl
  go_enter Tryz.func114, Tryz.ntmps114
  go_wp2_with (go_at_call 175; refine hl.mono ?_; clear hl; rintro e w1 ⟨r, rfl, rfl, B1⟩)
  go_ret2
  exact ⟨rfl, B1⟩
end Go.Proofs.YthnfiejdkhejlaaGreat
/- instr.Arity, the reference's Arity, hostcall.Do. (Printed by gendo2.py.) -/
namespace Go.Proofs.YthnfiejdkhejlaaGreat
open Go.RowKit Go.Sl Go.Shelf
theorem Arity1 (w : World) : Calls Tryz.prog 113 #[.int .i64 1] w fun e w' => e = .returned (.tuple #[.int .i64 1, .bool true]) ∧ w' = w := by
  go_enter Tryz.func113, Tryz.ntmps113
  go_wp2
  go_ret2
  exact ⟨rfl, rfl⟩
theorem Arity2 (w : World) : Calls Tryz.prog 113 #[.int .i64 2] w fun e w' => e = .returned (.tuple #[.int .i64 1, .bool true]) ∧ w' = w := by
  go_enter Tryz.func113, Tryz.ntmps113
  go_wp2
  go_ret2
  exact ⟨rfl, rfl⟩
theorem Arity3 (w : World) : Calls Tryz.prog 113 #[.int .i64 3] w fun e w' => e = .returned (.tuple #[.int .i64 2, .bool true]) ∧ w' = w := by
  go_enter Tryz.func113, Tryz.ntmps113
  go_wp2
  go_ret2
  exact ⟨rfl, rfl⟩
theorem Arity4 (w : World) : Calls Tryz.prog 113 #[.int .i64 4] w fun e w' => e = .returned (.tuple #[.int .i64 3, .bool true]) ∧ w' = w := by
  go_enter Tryz.func113, Tryz.ntmps113
  go_wp2
  go_ret2
  exact ⟨rfl, rfl⟩
theorem Arity5 (w : World) : Calls Tryz.prog 113 #[.int .i64 5] w fun e w' => e = .returned (.tuple #[.int .i64 3, .bool true]) ∧ w' = w := by
  go_enter Tryz.func113, Tryz.ntmps113
  go_wp2
  go_ret2
  exact ⟨rfl, rfl⟩
theorem Arity6 (w : World) : Calls Tryz.prog 113 #[.int .i64 6] w fun e w' => e = .returned (.tuple #[.int .i64 4, .bool true]) ∧ w' = w := by
  go_enter Tryz.func113, Tryz.ntmps113
  go_wp2
  go_ret2
  exact ⟨rfl, rfl⟩
theorem Arity7 (w : World) : Calls Tryz.prog 113 #[.int .i64 7] w fun e w' => e = .returned (.tuple #[.int .i64 5, .bool true]) ∧ w' = w := by
  go_enter Tryz.func113, Tryz.ntmps113
  go_wp2
  go_ret2
  exact ⟨rfl, rfl⟩
theorem Arity8 (w : World) : Calls Tryz.prog 113 #[.int .i64 8] w fun e w' => e = .returned (.tuple #[.int .i64 2, .bool true]) ∧ w' = w := by
  go_enter Tryz.func113, Tryz.ntmps113
  go_wp2
  go_ret2
  exact ⟨rfl, rfl⟩
theorem Arity9 (w : World) : Calls Tryz.prog 113 #[.int .i64 9] w fun e w' => e = .returned (.tuple #[.int .i64 2, .bool true]) ∧ w' = w := by
  go_enter Tryz.func113, Tryz.ntmps113
  go_wp2
  go_ret2
  exact ⟨rfl, rfl⟩
theorem Arity10 (w : World) : Calls Tryz.prog 113 #[.int .i64 10] w fun e w' => e = .returned (.tuple #[.int .i64 2, .bool true]) ∧ w' = w := by
  go_enter Tryz.func113, Tryz.ntmps113
  go_wp2
  go_ret2
  exact ⟨rfl, rfl⟩
theorem Arity11 (w : World) : Calls Tryz.prog 113 #[.int .i64 11] w fun e w' => e = .returned (.tuple #[.int .i64 1, .bool true]) ∧ w' = w := by
  go_enter Tryz.func113, Tryz.ntmps113
  go_wp2
  go_ret2
  exact ⟨rfl, rfl⟩
set_option maxHeartbeats 800000 in
theorem Do_run1 (hp : Option Addr) (p : Int) (ta : Option Addr) (tc : Nat) (tags : List Int) (aa : Option Addr) (ac : Nat) (d : Int) (x0 : Int) (w : World) (hR : Rv w 1 (.slice aa 1 ac) 1 ([x0].map uv)) (R : Int → Int → World → Prop)
    (hdo : Calls Tryz.prog 114 #[.pointer (some ⟨w.heap.size, 0, none⟩), .int .i64 1] (w.alloc (clObj (.pointer hp) p (.slice ta tags.length tc) (.slice aa 1 ac) d)) fun e w' => ∃ v r, e = .returned (.tuple #[.int .u64 v, .int .i64 r]) ∧ R v r w') :
    Calls Tryz.prog 41 #[.pointer hp, .int .i64 p, .slice ta tags.length tc, .int .i64 1, .slice aa 1 ac, .int .u64 d] w fun e w' => ∃ v r v', e = .returned (.tuple #[.int .u64 v', .int .i64 r]) ∧ (r = 0 ∧ v' = v ∨ r ≠ 0 ∧ v' = 0) ∧ R v r w' := by
  clear hR
  go_enter Tryz.func41, Tryz.ntmps41
  go_wp2_with (go_at_call 113; refine (Arity1 _).mono ?_; rintro e w1 ⟨rfl, rfl⟩)
  refine hdo.mono ?_
  clear hdo
  rintro e w2 ⟨v, r, rfl, hr⟩
  have HR := Lib.hid hr
  clear hr
  by_cases h0 : r = 0
  · subst h0
    go_wp2
    go_ret2
    exact ⟨v, 0, v, rfl, .inl ⟨rfl, rfl⟩, HR.out⟩
  · have q0 : (r != 0) = true := by rw [bne_iff_ne]; exact h0
    have H0 := Lib.hid h0
    clear h0
    go_wp2
    go_ret2
    exact ⟨v, r, 0, rfl, .inr ⟨H0.out, rfl⟩, HR.out⟩
set_option maxHeartbeats 800000 in
theorem Do_run2 (hp : Option Addr) (p : Int) (ta : Option Addr) (tc : Nat) (tags : List Int) (aa : Option Addr) (ac : Nat) (d : Int) (x0 : Int) (w : World) (hR : Rv w 1 (.slice aa 1 ac) 1 ([x0].map uv)) (R : Int → Int → World → Prop)
    (hdo : Calls Tryz.prog 114 #[.pointer (some ⟨w.heap.size, 0, none⟩), .int .i64 2] (w.alloc (clObj (.pointer hp) p (.slice ta tags.length tc) (.slice aa 1 ac) d)) fun e w' => ∃ v r, e = .returned (.tuple #[.int .u64 v, .int .i64 r]) ∧ R v r w') :
    Calls Tryz.prog 41 #[.pointer hp, .int .i64 p, .slice ta tags.length tc, .int .i64 2, .slice aa 1 ac, .int .u64 d] w fun e w' => ∃ v r v', e = .returned (.tuple #[.int .u64 v', .int .i64 r]) ∧ (r = 0 ∧ v' = v ∨ r ≠ 0 ∧ v' = 0) ∧ R v r w' := by
  clear hR
  go_enter Tryz.func41, Tryz.ntmps41
  go_wp2_with (go_at_call 113; refine (Arity2 _).mono ?_; rintro e w1 ⟨rfl, rfl⟩)
  refine hdo.mono ?_
  clear hdo
  rintro e w2 ⟨v, r, rfl, hr⟩
  have HR := Lib.hid hr
  clear hr
  by_cases h0 : r = 0
  · subst h0
    go_wp2
    go_ret2
    exact ⟨v, 0, v, rfl, .inl ⟨rfl, rfl⟩, HR.out⟩
  · have q0 : (r != 0) = true := by rw [bne_iff_ne]; exact h0
    have H0 := Lib.hid h0
    clear h0
    go_wp2
    go_ret2
    exact ⟨v, r, 0, rfl, .inr ⟨H0.out, rfl⟩, HR.out⟩
set_option maxHeartbeats 800000 in
theorem Do_run3 (hp : Option Addr) (p : Int) (ta : Option Addr) (tc : Nat) (tags : List Int) (aa : Option Addr) (ac : Nat) (d : Int) (x0 x1 : Int) (w : World) (hR : Rv w 1 (.slice aa 2 ac) 2 ([x0, x1].map uv)) (R : Int → Int → World → Prop)
    (hdo : Calls Tryz.prog 114 #[.pointer (some ⟨w.heap.size, 0, none⟩), .int .i64 3] (w.alloc (clObj (.pointer hp) p (.slice ta tags.length tc) (.slice aa 2 ac) d)) fun e w' => ∃ v r, e = .returned (.tuple #[.int .u64 v, .int .i64 r]) ∧ R v r w') :
    Calls Tryz.prog 41 #[.pointer hp, .int .i64 p, .slice ta tags.length tc, .int .i64 3, .slice aa 2 ac, .int .u64 d] w fun e w' => ∃ v r v', e = .returned (.tuple #[.int .u64 v', .int .i64 r]) ∧ (r = 0 ∧ v' = v ∨ r ≠ 0 ∧ v' = 0) ∧ R v r w' := by
  clear hR
  go_enter Tryz.func41, Tryz.ntmps41
  go_wp2_with (go_at_call 113; refine (Arity3 _).mono ?_; rintro e w1 ⟨rfl, rfl⟩)
  refine hdo.mono ?_
  clear hdo
  rintro e w2 ⟨v, r, rfl, hr⟩
  have HR := Lib.hid hr
  clear hr
  by_cases h0 : r = 0
  · subst h0
    go_wp2
    go_ret2
    exact ⟨v, 0, v, rfl, .inl ⟨rfl, rfl⟩, HR.out⟩
  · have q0 : (r != 0) = true := by rw [bne_iff_ne]; exact h0
    have H0 := Lib.hid h0
    clear h0
    go_wp2
    go_ret2
    exact ⟨v, r, 0, rfl, .inr ⟨H0.out, rfl⟩, HR.out⟩
set_option maxHeartbeats 800000 in
theorem Do_run4 (hp : Option Addr) (p : Int) (ta : Option Addr) (tc : Nat) (tags : List Int) (aa : Option Addr) (ac : Nat) (d : Int) (x0 x1 x2 : Int) (w : World) (hR : Rv w 1 (.slice aa 3 ac) 3 ([x0, x1, x2].map uv)) (R : Int → Int → World → Prop)
    (hdo : Calls Tryz.prog 114 #[.pointer (some ⟨w.heap.size, 0, none⟩), .int .i64 4] (w.alloc (clObj (.pointer hp) p (.slice ta tags.length tc) (.slice aa 3 ac) d)) fun e w' => ∃ v r, e = .returned (.tuple #[.int .u64 v, .int .i64 r]) ∧ R v r w') :
    Calls Tryz.prog 41 #[.pointer hp, .int .i64 p, .slice ta tags.length tc, .int .i64 4, .slice aa 3 ac, .int .u64 d] w fun e w' => ∃ v r v', e = .returned (.tuple #[.int .u64 v', .int .i64 r]) ∧ (r = 0 ∧ v' = v ∨ r ≠ 0 ∧ v' = 0) ∧ R v r w' := by
  clear hR
  go_enter Tryz.func41, Tryz.ntmps41
  go_wp2_with (go_at_call 113; refine (Arity4 _).mono ?_; rintro e w1 ⟨rfl, rfl⟩)
  refine hdo.mono ?_
  clear hdo
  rintro e w2 ⟨v, r, rfl, hr⟩
  have HR := Lib.hid hr
  clear hr
  by_cases h0 : r = 0
  · subst h0
    go_wp2
    go_ret2
    exact ⟨v, 0, v, rfl, .inl ⟨rfl, rfl⟩, HR.out⟩
  · have q0 : (r != 0) = true := by rw [bne_iff_ne]; exact h0
    have H0 := Lib.hid h0
    clear h0
    go_wp2
    go_ret2
    exact ⟨v, r, 0, rfl, .inr ⟨H0.out, rfl⟩, HR.out⟩
set_option maxHeartbeats 800000 in
theorem Do_run5 (hp : Option Addr) (p : Int) (ta : Option Addr) (tc : Nat) (tags : List Int) (aa : Option Addr) (ac : Nat) (d : Int) (x0 x1 x2 : Int) (hw : x2 ≤ 8) (w : World) (hR : Rv w 1 (.slice aa 3 ac) 3 ([x0, x1, x2].map uv)) (R : Int → Int → World → Prop)
    (hdo : Calls Tryz.prog 114 #[.pointer (some ⟨w.heap.size, 0, none⟩), .int .i64 5] (w.alloc (clObj (.pointer hp) p (.slice ta tags.length tc) (.slice aa 3 ac) d)) fun e w' => ∃ v r, e = .returned (.tuple #[.int .u64 v, .int .i64 r]) ∧ R v r w') :
    Calls Tryz.prog 41 #[.pointer hp, .int .i64 p, .slice ta tags.length tc, .int .i64 5, .slice aa 3 ac, .int .u64 d] w fun e w' => ∃ v r v', e = .returned (.tuple #[.int .u64 v', .int .i64 r]) ∧ (r = 0 ∧ v' = v ∨ r ≠ 0 ∧ v' = 0) ∧ R v r w' := by
  obtain ⟨g, o, rfl, hc2⟩ := hR.cell (j := 2) (u := uv x2) rfl
  unfold uv at hc2
  have dw : decide (8 < x2) = false := decide_eq_false (by omega)
  clear hw
  clear hR
  go_enter Tryz.func41, Tryz.ntmps41
  go_wp2_with (go_at_call 113; refine (Arity5 _).mono ?_; rintro e w1 ⟨rfl, rfl⟩)
  refine hdo.mono ?_
  clear hdo
  rintro e w2 ⟨v, r, rfl, hr⟩
  have HR := Lib.hid hr
  clear hr
  by_cases h0 : r = 0
  · subst h0
    go_wp2
    go_ret2
    exact ⟨v, 0, v, rfl, .inl ⟨rfl, rfl⟩, HR.out⟩
  · have q0 : (r != 0) = true := by rw [bne_iff_ne]; exact h0
    have H0 := Lib.hid h0
    clear h0
    go_wp2
    go_ret2
    exact ⟨v, r, 0, rfl, .inr ⟨H0.out, rfl⟩, HR.out⟩
set_option maxHeartbeats 800000 in
theorem Do_wide5 (hp : Option Addr) (p : Int) (ta : Option Addr) (tc : Nat) (tags : List Int) (aa : Option Addr) (ac : Nat) (d : Int) (x0 x1 x2 : Int) (hw : 8 < x2) (w : World) (hR : Rv w 1 (.slice aa 3 ac) 3 ([x0, x1, x2].map uv)) :
    Calls Tryz.prog 41 #[.pointer hp, .int .i64 p, .slice ta tags.length tc, .int .i64 5, .slice aa 3 ac, .int .u64 d] w fun e w' => e = .returned (.tuple #[.int .u64 0, .int .i64 1]) ∧ w' = w := by
  obtain ⟨g, o, rfl, hc2⟩ := hR.cell (j := 2) (u := uv x2) rfl
  unfold uv at hc2
  have dw : decide (8 < x2) = true := decide_eq_true (by omega)
  clear hw hR
  go_enter Tryz.func41, Tryz.ntmps41
  go_wp2_with (go_at_call 113; refine (Arity5 _).mono ?_; rintro e w1 ⟨rfl, rfl⟩)
  go_ret2
  exact ⟨rfl, rfl⟩
set_option maxHeartbeats 800000 in
theorem Do_run6 (hp : Option Addr) (p : Int) (ta : Option Addr) (tc : Nat) (tags : List Int) (aa : Option Addr) (ac : Nat) (d : Int) (x0 x1 x2 x3 : Int) (hw : x2 ≤ 8) (w : World) (hR : Rv w 1 (.slice aa 4 ac) 4 ([x0, x1, x2, x3].map uv)) (R : Int → Int → World → Prop)
    (hdo : Calls Tryz.prog 114 #[.pointer (some ⟨w.heap.size, 0, none⟩), .int .i64 6] (w.alloc (clObj (.pointer hp) p (.slice ta tags.length tc) (.slice aa 4 ac) d)) fun e w' => ∃ v r, e = .returned (.tuple #[.int .u64 v, .int .i64 r]) ∧ R v r w') :
    Calls Tryz.prog 41 #[.pointer hp, .int .i64 p, .slice ta tags.length tc, .int .i64 6, .slice aa 4 ac, .int .u64 d] w fun e w' => ∃ v r v', e = .returned (.tuple #[.int .u64 v', .int .i64 r]) ∧ (r = 0 ∧ v' = v ∨ r ≠ 0 ∧ v' = 0) ∧ R v r w' := by
  obtain ⟨g, o, rfl, hc2⟩ := hR.cell (j := 2) (u := uv x2) rfl
  unfold uv at hc2
  have dw : decide (8 < x2) = false := decide_eq_false (by omega)
  clear hw
  clear hR
  go_enter Tryz.func41, Tryz.ntmps41
  go_wp2_with (go_at_call 113; refine (Arity6 _).mono ?_; rintro e w1 ⟨rfl, rfl⟩)
  refine hdo.mono ?_
  clear hdo
  rintro e w2 ⟨v, r, rfl, hr⟩
  have HR := Lib.hid hr
  clear hr
  by_cases h0 : r = 0
  · subst h0
    go_wp2
    go_ret2
    exact ⟨v, 0, v, rfl, .inl ⟨rfl, rfl⟩, HR.out⟩
  · have q0 : (r != 0) = true := by rw [bne_iff_ne]; exact h0
    have H0 := Lib.hid h0
    clear h0
    go_wp2
    go_ret2
    exact ⟨v, r, 0, rfl, .inr ⟨H0.out, rfl⟩, HR.out⟩
set_option maxHeartbeats 800000 in
theorem Do_wide6 (hp : Option Addr) (p : Int) (ta : Option Addr) (tc : Nat) (tags : List Int) (aa : Option Addr) (ac : Nat) (d : Int) (x0 x1 x2 x3 : Int) (hw : 8 < x2) (w : World) (hR : Rv w 1 (.slice aa 4 ac) 4 ([x0, x1, x2, x3].map uv)) :
    Calls Tryz.prog 41 #[.pointer hp, .int .i64 p, .slice ta tags.length tc, .int .i64 6, .slice aa 4 ac, .int .u64 d] w fun e w' => e = .returned (.tuple #[.int .u64 0, .int .i64 1]) ∧ w' = w := by
  obtain ⟨g, o, rfl, hc2⟩ := hR.cell (j := 2) (u := uv x2) rfl
  unfold uv at hc2
  have dw : decide (8 < x2) = true := decide_eq_true (by omega)
  clear hw hR
  go_enter Tryz.func41, Tryz.ntmps41
  go_wp2_with (go_at_call 113; refine (Arity6 _).mono ?_; rintro e w1 ⟨rfl, rfl⟩)
  go_ret2
  exact ⟨rfl, rfl⟩
set_option maxHeartbeats 800000 in
theorem Do_run7 (hp : Option Addr) (p : Int) (ta : Option Addr) (tc : Nat) (tags : List Int) (aa : Option Addr) (ac : Nat) (d : Int) (x0 x1 x2 x3 x4 : Int) (w : World) (hR : Rv w 1 (.slice aa 5 ac) 5 ([x0, x1, x2, x3, x4].map uv)) (R : Int → Int → World → Prop)
    (hdo : Calls Tryz.prog 114 #[.pointer (some ⟨w.heap.size, 0, none⟩), .int .i64 7] (w.alloc (clObj (.pointer hp) p (.slice ta tags.length tc) (.slice aa 5 ac) d)) fun e w' => ∃ v r, e = .returned (.tuple #[.int .u64 v, .int .i64 r]) ∧ R v r w') :
    Calls Tryz.prog 41 #[.pointer hp, .int .i64 p, .slice ta tags.length tc, .int .i64 7, .slice aa 5 ac, .int .u64 d] w fun e w' => ∃ v r v', e = .returned (.tuple #[.int .u64 v', .int .i64 r]) ∧ (r = 0 ∧ v' = v ∨ r ≠ 0 ∧ v' = 0) ∧ R v r w' := by
  clear hR
  go_enter Tryz.func41, Tryz.ntmps41
  go_wp2_with (go_at_call 113; refine (Arity7 _).mono ?_; rintro e w1 ⟨rfl, rfl⟩)
  refine hdo.mono ?_
  clear hdo
  rintro e w2 ⟨v, r, rfl, hr⟩
  have HR := Lib.hid hr
  clear hr
  by_cases h0 : r = 0
  · subst h0
    go_wp2
    go_ret2
    exact ⟨v, 0, v, rfl, .inl ⟨rfl, rfl⟩, HR.out⟩
  · have q0 : (r != 0) = true := by rw [bne_iff_ne]; exact h0
    have H0 := Lib.hid h0
    clear h0
    go_wp2
    go_ret2
    exact ⟨v, r, 0, rfl, .inr ⟨H0.out, rfl⟩, HR.out⟩
set_option maxHeartbeats 800000 in
theorem Do_run8 (hp : Option Addr) (p : Int) (ta : Option Addr) (tc : Nat) (tags : List Int) (aa : Option Addr) (ac : Nat) (d : Int) (x0 x1 : Int) (w : World) (hR : Rv w 1 (.slice aa 2 ac) 2 ([x0, x1].map uv)) (R : Int → Int → World → Prop)
    (hdo : Calls Tryz.prog 114 #[.pointer (some ⟨w.heap.size, 0, none⟩), .int .i64 8] (w.alloc (clObj (.pointer hp) p (.slice ta tags.length tc) (.slice aa 2 ac) d)) fun e w' => ∃ v r, e = .returned (.tuple #[.int .u64 v, .int .i64 r]) ∧ R v r w') :
    Calls Tryz.prog 41 #[.pointer hp, .int .i64 p, .slice ta tags.length tc, .int .i64 8, .slice aa 2 ac, .int .u64 d] w fun e w' => ∃ v r v', e = .returned (.tuple #[.int .u64 v', .int .i64 r]) ∧ (r = 0 ∧ v' = v ∨ r ≠ 0 ∧ v' = 0) ∧ R v r w' := by
  clear hR
  go_enter Tryz.func41, Tryz.ntmps41
  go_wp2_with (go_at_call 113; refine (Arity8 _).mono ?_; rintro e w1 ⟨rfl, rfl⟩)
  refine hdo.mono ?_
  clear hdo
  rintro e w2 ⟨v, r, rfl, hr⟩
  have HR := Lib.hid hr
  clear hr
  by_cases h0 : r = 0
  · subst h0
    go_wp2
    go_ret2
    exact ⟨v, 0, v, rfl, .inl ⟨rfl, rfl⟩, HR.out⟩
  · have q0 : (r != 0) = true := by rw [bne_iff_ne]; exact h0
    have H0 := Lib.hid h0
    clear h0
    go_wp2
    go_ret2
    exact ⟨v, r, 0, rfl, .inr ⟨H0.out, rfl⟩, HR.out⟩
set_option maxHeartbeats 800000 in
theorem Do_run9 (hp : Option Addr) (p : Int) (ta : Option Addr) (tc : Nat) (tags : List Int) (aa : Option Addr) (ac : Nat) (d : Int) (x0 x1 : Int) (w : World) (hR : Rv w 1 (.slice aa 2 ac) 2 ([x0, x1].map uv)) (R : Int → Int → World → Prop)
    (hdo : Calls Tryz.prog 114 #[.pointer (some ⟨w.heap.size, 0, none⟩), .int .i64 9] (w.alloc (clObj (.pointer hp) p (.slice ta tags.length tc) (.slice aa 2 ac) d)) fun e w' => ∃ v r, e = .returned (.tuple #[.int .u64 v, .int .i64 r]) ∧ R v r w') :
    Calls Tryz.prog 41 #[.pointer hp, .int .i64 p, .slice ta tags.length tc, .int .i64 9, .slice aa 2 ac, .int .u64 d] w fun e w' => ∃ v r v', e = .returned (.tuple #[.int .u64 v', .int .i64 r]) ∧ (r = 0 ∧ v' = v ∨ r ≠ 0 ∧ v' = 0) ∧ R v r w' := by
  clear hR
  go_enter Tryz.func41, Tryz.ntmps41
  go_wp2_with (go_at_call 113; refine (Arity9 _).mono ?_; rintro e w1 ⟨rfl, rfl⟩)
  refine hdo.mono ?_
  clear hdo
  rintro e w2 ⟨v, r, rfl, hr⟩
  have HR := Lib.hid hr
  clear hr
  by_cases h0 : r = 0
  · subst h0
    go_wp2
    go_ret2
    exact ⟨v, 0, v, rfl, .inl ⟨rfl, rfl⟩, HR.out⟩
  · have q0 : (r != 0) = true := by rw [bne_iff_ne]; exact h0
    have H0 := Lib.hid h0
    clear h0
    go_wp2
    go_ret2
    exact ⟨v, r, 0, rfl, .inr ⟨H0.out, rfl⟩, HR.out⟩
set_option maxHeartbeats 800000 in
theorem Do_run10 (hp : Option Addr) (p : Int) (ta : Option Addr) (tc : Nat) (tags : List Int) (aa : Option Addr) (ac : Nat) (d : Int) (x0 x1 : Int) (w : World) (hR : Rv w 1 (.slice aa 2 ac) 2 ([x0, x1].map uv)) (R : Int → Int → World → Prop)
    (hdo : Calls Tryz.prog 114 #[.pointer (some ⟨w.heap.size, 0, none⟩), .int .i64 10] (w.alloc (clObj (.pointer hp) p (.slice ta tags.length tc) (.slice aa 2 ac) d)) fun e w' => ∃ v r, e = .returned (.tuple #[.int .u64 v, .int .i64 r]) ∧ R v r w') :
    Calls Tryz.prog 41 #[.pointer hp, .int .i64 p, .slice ta tags.length tc, .int .i64 10, .slice aa 2 ac, .int .u64 d] w fun e w' => ∃ v r v', e = .returned (.tuple #[.int .u64 v', .int .i64 r]) ∧ (r = 0 ∧ v' = v ∨ r ≠ 0 ∧ v' = 0) ∧ R v r w' := by
  clear hR
  go_enter Tryz.func41, Tryz.ntmps41
  go_wp2_with (go_at_call 113; refine (Arity10 _).mono ?_; rintro e w1 ⟨rfl, rfl⟩)
  refine hdo.mono ?_
  clear hdo
  rintro e w2 ⟨v, r, rfl, hr⟩
  have HR := Lib.hid hr
  clear hr
  by_cases h0 : r = 0
  · subst h0
    go_wp2
    go_ret2
    exact ⟨v, 0, v, rfl, .inl ⟨rfl, rfl⟩, HR.out⟩
  · have q0 : (r != 0) = true := by rw [bne_iff_ne]; exact h0
    have H0 := Lib.hid h0
    clear h0
    go_wp2
    go_ret2
    exact ⟨v, r, 0, rfl, .inr ⟨H0.out, rfl⟩, HR.out⟩
set_option maxHeartbeats 800000 in
theorem Do_run11 (hp : Option Addr) (p : Int) (ta : Option Addr) (tc : Nat) (tags : List Int) (aa : Option Addr) (ac : Nat) (d : Int) (x0 : Int) (w : World) (hR : Rv w 1 (.slice aa 1 ac) 1 ([x0].map uv)) (R : Int → Int → World → Prop)
    (hdo : Calls Tryz.prog 114 #[.pointer (some ⟨w.heap.size, 0, none⟩), .int .i64 11] (w.alloc (clObj (.pointer hp) p (.slice ta tags.length tc) (.slice aa 1 ac) d)) fun e w' => ∃ v r, e = .returned (.tuple #[.int .u64 v, .int .i64 r]) ∧ R v r w') :
    Calls Tryz.prog 41 #[.pointer hp, .int .i64 p, .slice ta tags.length tc, .int .i64 11, .slice aa 1 ac, .int .u64 d] w fun e w' => ∃ v r v', e = .returned (.tuple #[.int .u64 v', .int .i64 r]) ∧ (r = 0 ∧ v' = v ∨ r ≠ 0 ∧ v' = 0) ∧ R v r w' := by
  clear hR
  go_enter Tryz.func41, Tryz.ntmps41
  go_wp2_with (go_at_call 113; refine (Arity11 _).mono ?_; rintro e w1 ⟨rfl, rfl⟩)
  refine hdo.mono ?_
  clear hdo
  rintro e w2 ⟨v, r, rfl, hr⟩
  have HR := Lib.hid hr
  clear hr
  by_cases h0 : r = 0
  · subst h0
    go_wp2
    go_ret2
    exact ⟨v, 0, v, rfl, .inl ⟨rfl, rfl⟩, HR.out⟩
  · have q0 : (r != 0) = true := by rw [bne_iff_ne]; exact h0
    have H0 := Lib.hid h0
    clear h0
    go_wp2
    go_ret2
    exact ⟨v, r, 0, rfl, .inr ⟨H0.out, rfl⟩, HR.out⟩
end Go.Proofs.YthnfiejdkhejlaaGreat
/- hostcall.do of a heap that works: Alloc, Store. The log's measure. -/
namespace Go.Proofs.YthnfiejdkhejlaaGreat
open Go.RowKit Go.Sl Go.Shelf
set_option maxHeartbeats 800000 in
theorem do_al (cb bh : Nat) (p : Int) (ta : Option Addr) (tc : Nat) (tags : List Int) (aa : Option Addr) (ac : Nat) (d : Nat) (x0 : Int) (s : Hs) (k : Nat) (t : Ty) (i : Nat) (x : Sl1) (htag : tagI tags x0 = (k : Int) + 1) (ca : CanA s p k t d i x) (lv : Live s p) {w W : World} {h : Hl} {X : As} (S : St w h W (Hp bh s * X))
    (cl : ClW cb (some ⟨bh, 0, none⟩) p ta tc tags aa ac d [x0] W) :
    Calls Tryz.prog 114 #[.pointer (some ⟨cb, 0, none⟩), .int .i64 1] W fun e w' => ∃ v r, e = .returned (.tuple #[.int .u64 v, .int .i64 r]) ∧ (v = packI i (s.tb.s.gen' i) (k + 1) ∧ r = 0 ∧ ∃ j, (j < s.fr.length ∧ s.fr.getD j Ex.z = best s.fr (rnd (tsize t.len t.fs)).1 ∧ (rnd (tsize t.len t.fs)).1 ≤ (best s.fr (rnd (tsize t.len t.fs)).1).len) ∧
      St w h w' (Hp bh ((s.al p k d i j (tsize t.len t.fs)).log ⟨p, 1, packI i (s.tb.s.gen' i) (k + 1), u64i ((k : Int) + 1), 0⟩) * X)) := by
  have a0 := fun V (B : Below W.heap.size W V) => (cl.below B).tg (by simp)
  simp only [List.getElem_cons_zero, List.getElem_cons_succ] at a0
  rw [htag] at a0
  have hop := fun {V} (S : St w h V (Hp bh s * X)) => Alloc_ok bh s p k t d i x ca lv S
  have g0 := bcells cl.b 0
  have g1 := bcells cl.b 1
  have g4 := bcells cl.b 4
  clear cl ca lv htag
  go_enter Tryz.func114, Tryz.ntmps114
  go_upto_region 3 with fail
  refine wp_region_sb [(0, 0), (0, 1), (0, 2), (1, 3), (0, 4), (0, 5), (0, 6), (1, 7), (0, 8), (0, 10), (0, 11), (0, 12), (1, 13), (3, 9), (2, 14), (0, 15), (0, 16), (0, 17), (0, 18), (0, 19)] (by kernel_rfl) (by kernel_rfl) (fun V BV => ?_)
  repeat (first | (refine sch_q0 (by rfl) ?_; go_big_quiet_step (fail); refine wpQuiet_nil ?_) | (refine sch_q1 (by rfl) ?_; go_big_quiet_step (fail); refine wpQuiet_nil ?_))
  refine sch_e3 (by rfl) ?_
  go_wp2_with (go_at_call 171; refine (a0 _ BV).mono ?_; clear a0; rintro e w1 ⟨rfl, rfl⟩)
  refine onlyN_mk ⟨BV, ?_⟩
  refine sch_e2 (by rfl) ?_
  have H := hop (S.below BV)
  clear hop S
  go_wp2_with fail
  refine H.mono ?_
  clear H
  rintro e w2 ⟨j, hj, rfl, S2⟩
  have HS := Lib.hid S2
  have HJ := Lib.hid hj
  clear S2 hj
  go_wp2_with fail
  refine onlyN_mk ?_
  repeat (first | (refine sch_q0 (by rfl) ?_; go_big_quiet_step (fail); refine wpQuiet_nil ?_) | (refine sch_q1 (by rfl) ?_; go_big_quiet_step (fail); refine wpQuiet_nil ?_))
  refine sch_nil ?_
  go_wp2
  go_ret2
  exact ⟨_, _, rfl, rfl, rfl, j, HJ.out, HS.out⟩
theorem do_st (cb bh : Nat) (p : Int) (ta : Option Addr) (tc : Nat) (tags : List Int) (aa : Option Addr) (ac : Nat) (d : Int) (x0 x1 : Int) (n x3 : Nat) (hn : n ≤ 8) (s : Hs) (t : Ty) (e : Ent) (o m : Nat) (ow : Own s x0 p t e o m) (lv : Live s p) {w W : World} {h : Hl} {X : As} (S : St w h W (Hp bh s * X))
    (cl : ClW cb (some ⟨bh, 0, none⟩) p ta tc tags aa ac d [x0, x1, (n : Int), (x3 : Int)] W) :
    Calls Tryz.prog 114 #[.pointer (some ⟨cb, 0, none⟩), .int .i64 6] W fun e' w' => ∃ v r, e' = .returned (.tuple #[.int .u64 v, .int .i64 r]) ∧ (v = 0 ∧ r = stErr (withinB (idxI x1) n (tsize t.len t.fs)) ∧
      St w h w' (Hp bh (stHs (withinB (idxI x1) n (tsize t.len t.fs)) s p x0 (idxI x1) (o + (idxI x1).toNat) (bnn x3 n)) * X)) := by
  have hl := store_run cb (some ⟨bh, 0, none⟩) p ta tags.length tc aa ac d x0 x1 n x3 hn (cl.u _ (by simp)) (cl.u _ (by simp)) (by have := (cl.u (x3 : Int) (by simp)).2; omega) W cl.b cl.r
    (fun r w' => r = stErr (withinB (idxI x1) n (tsize t.len t.fs)) ∧ St w h w' (Hp bh (stHs (withinB (idxI x1) n (tsize t.len t.fs)) s p x0 (idxI x1) (o + (idxI x1).toNat) (bnn x3 n)) * X))
    (fun V q F => by
      have S2 := (F.st S).b2
      have e1 : (bnn x3 n).length = n := bnn_len _ _
      rw [show rowAs 5 1 (.slice (some ⟨q, 0, none⟩) n n) n ((bnn x3 n).map bv) = rowAs 5 1 (.slice (some ⟨q, 0, none⟩) n n) (bnn x3 n).length ((bnn x3 n).map bv) from by rw [e1]] at S2
      have H := Store_own bh s x0 p (idxI x1) t e o m _ (bnn x3 n) ow lv S2
      rw [e1] at H
      exact H.mono fun _ _ ⟨he, S3⟩ => ⟨_, he, rfl, S3.b2.dropRow⟩)
  clear cl ow lv S
  go_enter Tryz.func114, Tryz.ntmps114
  go_wp2_with (go_at_call 175; refine hl.mono ?_; clear hl; rintro e w1 ⟨r, rfl, hr⟩; have HR := Lib.hid hr; clear hr)
  go_ret2
  exact ⟨0, r, rfl, rfl, HR.out⟩
/-- The log's measure. -/
structure Lm.at (l : Lm) (n : Nat) : Prop where
  ne : l.evs.length ≤ n
  nb : l.bys.length ≤ 100 * n
  la : l.last < 18446744073709551616
  rc : ∀ k, 0 ≤ (AL.get l.recs k).getD 0 ∧ (AL.get l.recs k).getD 0 ≤ n
theorem Lm.at_add (l : Lm) (n : Nat) (e : Evt) (he : e.ok) (h : l.at n) : (l.add e).at (n + 1) := by
  have hb := ev_len e he
  have hl := leb_len 9 e.bytes.length (by omega)
  refine ⟨?_, ?_, chN_lt _ _, fun k => ?_⟩
  · show (l.evs ++ [e]).length ≤ _
    rw [List.length_append]; have := h.ne; simp; omega
  · show (l.bys ++ (leb e.bytes.length ++ e.bytes) ++ b8 _).length ≤ _
    rw [List.length_append, List.length_append, List.length_append]
    have := h.nb
    have h8 : (b8 (chN l.prev e.bytes)).length = 8 := rfl
    omega
  · show 0 ≤ (AL.get (if e.cnt then AL.set l.recs e.p ((AL.get l.recs e.p).getD 0 + 1) else l.recs) k).getD 0 ∧ (AL.get (if e.cnt then AL.set l.recs e.p ((AL.get l.recs e.p).getD 0 + 1) else l.recs) k).getD 0 ≤ ((n + 1 : Nat) : Int)
    have hk := h.rc k
    have hp := h.rc e.p
    split
    · by_cases hpk : e.p = k
      · rw [AL.get_set]; rw [if_pos (by rw [hpk])]; simp; omega
      · rw [AL.get_set]; rw [if_neg (by first | exact hpk | exact fun h => hpk h.symm)]; omega
    · omega
theorem Lm.at_fit (l : Lm) (n : Nat) (h : l.at n) (hn : n ≤ 1000) (hc : l.cap ≤ 65536) : l.fit := ⟨by have := h.ne; omega, by have := h.nb; omega, h.la, hc, fun k => (h.rc k).1⟩
end Go.Proofs.YthnfiejdkhejlaaGreat
