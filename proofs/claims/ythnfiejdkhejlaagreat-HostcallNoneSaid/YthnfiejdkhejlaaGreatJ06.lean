/- Package layout: contracts, third part. -/
import Derived.Test.YthnfiejdkhejlaaGreatJ05
set_option linter.all false
set_option maxRecDepth 100000
namespace Go.Proofs.YthnfiejdkhejlaaGreat
open Go.RowKit Go.Sl
def tsize (len : Int) (l : List Fd) : Int := if 0 < len then len * width (l.getD 0 (0, 0)) else recSize l
def bad (f : Fd) : Bool := decide (chkF f ≠ 0)
/-- The error of a type. -/
def chkT (len : Int) (l : List Fd) : Int :=
  if len < 0 then 3 else if 65536 < len then 4 else if len = 0 ∧ l.length = 0 ∨ 0 < len ∧ l.length ≠ 1 then 3 else if 32 < l.length then 4 else
  match l.find? bad with
  | some f => chkF f
  | none => if 65536 < tsize len l then 4 else 0
structure TOk (len : Int) (l : List Fd) : Prop where
  l0 : 0 ≤ len
  l1 : len ≤ 65536
  form : (len = 0 ∧ l.length ≠ 0) ∨ (0 < len ∧ l.length = 1)
  many : l.length ≤ 32
  fs : ∀ f ∈ l, FOk f
theorem find_bad {l : List Fd} (h : l.find? bad = none) : ∀ f ∈ l, FOk f := fun f hf => by
  have := List.find?_eq_none.1 h f hf
  exact chkF_ok (by simpa [bad] using this)
theorem tsize_bd {len : Int} {l : List Fd} (h : TOk len l) : 0 ≤ tsize len l ∧ tsize len l ≤ 4294967296 := by
  unfold tsize
  split
  · rename_i hp
    obtain ⟨f, rfl⟩ : ∃ f, l = [f] := by
      have : l.length = 1 := by have := h.form; omega
      exact List.length_eq_one_iff.1 this
    have hw := width_bd (h.fs f (by simp))
    simp only [List.getD_cons_zero]
    refine ⟨Int.mul_nonneg (by omega) (by omega), ?_⟩
    have := Int.mul_le_mul h.l1 hw.2 (by omega) (by omega)
    omega
  · have hb := pend_bd l h.fs
    have := h.many
    have := upI_bd hb.1 hb.2.2.1 hb.2.2.2
    unfold recSize
    omega
theorem lsize_any (v : Value) (len : Int) (l : List Fd) (w : World) (hR : Rv w 2 v l.length (l.flatMap fenc)) (hok : TOk len l) :
    Calls Tryz.prog 117 #[.agg #[.int .i64 len, v]] w fun e w' => e = .returned (.int .i64 (tsize len l)) ∧ Below w.heap.size w w' := by
  have hbd := tsize_bd hok
  have B0 := (Below.refl w.heap.size w).al (.cells #[.int .i64 len, v] 27)
  have hx := heap_alloc_new w (.cells #[.int .i64 len, v] 27)
  obtain ⟨ad, cp, rfl⟩ := hR.form
  have RW := hR.below B0
  by_cases hp : 0 < len
  · have h1 : l.length = 1 := by have := hok.form; omega
    have htz : tsize len l = len * width (l.getD 0 (0, 0)) := if_pos hp
    rw [htz] at hbd ⊢
    obtain ⟨f, rfl⟩ := List.length_eq_one_iff.1 h1
    obtain ⟨g, o, rfl, k0, k1⟩ := RW.two (fun _ => rfl) (k := 0) (by simp) rfl
    have hwa := fun w => width_any f w
    have hwb := width_bd (hok.fs f (by simp))
    simp only [List.getD_cons_zero, List.getElem_cons_zero, Nat.zero_mul, Nat.add_zero] at *
    generalize width f = wd at *
    obtain ⟨fk, fc⟩ := f
    simp only at *
    have hw := w64 (len * wd) (by omega)
    have e1 : ([((fk, fc) : Fd)].length) = 1 := rfl
    simp only [e1] at *
    clear hR RW h1 htz hok
    go_enter Tryz.func117, Tryz.ntmps117
    go_upto_region 2 with fail
    generalize w.alloc _ = W at *
    have g0 := gcells hx 0
    have g1 := gcells hx 1
    have g2 := gcell k0
    have g3 := gcell k1
    refine wp_region_gr (by kernel_rfl) (by kernel_rfl) ?_
    repeat (go_big_quiet_step (with_reducible exact Calls.gr_of (hwa _)))
    refine wpQuiet_nil ?_
    intro W4 hW4
    go_wp2
    go_ret
    exact ⟨rfl, B0.trans' hW4.below⟩
  · have e1 : decide (0 < len) = false := decide_eq_false hp
    have htz : tsize len l = recSize l := if_neg hp
    rw [htz] at hbd ⊢
    have hpl := fun w (hR : Rv w _ _ _ _) => places_any (.slice ad l.length cp) l (-1) w hR (by have := hok.many; omega) hok.fs
    have hz : placeAt l l.length (-1) = (0, 0, 0) := if_neg (by omega)
    rw [hz] at hpl
    simp only at hpl
    generalize recSize l = rs at *
    have HOK := Lib.hid hok
    clear hp hz htz hok
    go_enter Tryz.func117, Tryz.ntmps117
    go_wp2_with (go_at_call 177; refine (hpl _ RW).mono ?_; rintro e w1 ⟨rfl, B1⟩)
    go_ret
    exact ⟨rfl, (B0.trans' B1).al _⟩
theorem find_snoc {l : List Fd} {k : Nat} (hk : k < l.length) (h : ∀ f ∈ l.take k, bad f = false) : l.find? bad = if bad l[k] then some l[k] else (l.drop (k + 1)).find? bad := by
  conv => lhs; rw [← List.take_append_drop k l]
  rw [List.find?_append, List.find?_eq_none.2 (fun f hf => by simp [h f hf]), List.drop_eq_getElem_cons hk, List.find?_cons]
  cases bad l[k] <;> simp
theorem chkT_form {len : Int} {l : List Fd} (h0 : ¬ len < 0) (h1 : ¬ 65536 < len) (h2 : ¬ (len = 0 ∧ l.length = 0 ∨ 0 < len ∧ l.length ≠ 1)) (h3 : ¬ 32 < l.length) :
    chkT len l = match l.find? bad with | some f => chkF f | none => if 65536 < tsize len l then 4 else 0 := by
  unfold chkT; rw [if_neg h0, if_neg h1, if_neg h2, if_neg h3]
theorem TOk.mk' {len : Int} {l : List Fd} (h0 : ¬ len < 0) (h1 : ¬ 65536 < len) (h2 : ¬ (len = 0 ∧ l.length = 0 ∨ 0 < len ∧ l.length ≠ 1)) (h3 : ¬ 32 < l.length) (h4 : l.find? bad = none) : TOk len l :=
  ⟨by omega, by omega, by omega, by omega, find_bad h4⟩
theorem chkT_ok {len : Int} {l : List Fd} (h : chkT len l = 0) : TOk len l ∧ tsize len l ≤ 65536 := by
  unfold chkT at h
  split at h
  · cases h
  split at h
  · cases h
  split at h
  · cases h
  split at h
  · cases h
  split at h
  · rename_i f hf
    have := List.find?_some hf
    simp [bad, h] at this
  · split at h
    · cases h
    · exact ⟨TOk.mk' ‹_› ‹_› ‹_› ‹_› ‹_›, by omega⟩
set_option maxHeartbeats 800000 in
theorem Check_any' (v : Value) (len : Int) (l : List Fd) (w : World) (hR : Rv w 2 v l.length (l.flatMap fenc)) (hm : l.length ≤ 1000000) :
    Calls Tryz.prog 48 #[.agg #[.int .i64 len, v]] w fun e w' => e = .returned (.int .i64 (chkT len l)) ∧ Below w.heap.size w w' := by
  have B0 := (Below.refl w.heap.size w).al (.cells #[.int .i64 len, v] 27)
  obtain ⟨ad, cp, rfl⟩ := hR.form
  have RW := hR.below B0
  have hsz := fun w (hR : Rv w _ _ _ _) hok => lsize_any (.slice ad l.length cp) len l w hR hok
  by_cases h0 : len < 0
  · rw [show chkT len l = 3 from if_pos h0]
    go_enter Tryz.func48, Tryz.ntmps48; go_wp2; go_ret; exact ⟨rfl, B0⟩
  have d0 : decide (len < 0) = false := decide_eq_false h0
  by_cases h1 : 65536 < len
  · rw [show chkT len l = 4 by unfold chkT; rw [if_neg h0, if_pos h1]]
    clear h0
    go_enter Tryz.func48, Tryz.ntmps48; go_wp2; go_ret; exact ⟨rfl, B0⟩
  have d1 : decide (65536 < len) = false := decide_eq_false h1
  have form := fun h2 h3 => chkT_form (l := l) h0 h1 h2 h3
  have hok := fun h2 h3 h4 => TOk.mk' (l := l) h0 h1 h2 h3 h4
  have hne3 : (len = 0 ∧ l.length = 0 ∨ 0 < len ∧ l.length ≠ 1) → chkT len l = 3 := fun h => by unfold chkT; rw [if_neg h0, if_neg h1, if_pos h]
  by_cases hf : len = 0 ∧ l.length = 0 ∨ 0 < len ∧ l.length ≠ 1
  · rw [hne3 hf]
    clear hne3 form hok hsz
    rcases hf with ⟨rfl, hn⟩ | ⟨hp, hn⟩
    · have q : ((l.length : Int) == 0) = true := by simp [hn]
      clear hn h0 h1 d0 d1
      go_enter Tryz.func48, Tryz.ntmps48; go_wp2; go_ret; exact ⟨rfl, B0⟩
    · have q : ((l.length : Int) != 1) = true := by rw [bne_iff_ne]; omega
      have q2 : (len == 0) = false := by rw [beq_eq_false_iff_ne]; omega
      clear hn h0 h1
      go_enter Tryz.func48, Tryz.ntmps48; go_wp2; go_ret; exact ⟨rfl, B0⟩
  by_cases h3 : 32 < l.length
  · rw [show chkT len l = 4 by unfold chkT; rw [if_neg h0, if_neg h1, if_neg hf, if_pos h3]]
    have hz : len = 0 := by omega
    subst hz
    have q : ((l.length : Int) == 0) = false := by rw [beq_eq_false_iff_ne]; omega
    clear hf hne3 form hok hsz d0 d1 h0 h1
    go_enter Tryz.func48, Tryz.ntmps48; go_wp2; go_ret; exact ⟨rfl, B0⟩
  have form := form hf h3
  have hok := hok hf h3
  have hpos : 0 < l.length := by omega
  have H3 := Nat.not_lt.1 h3
  have HF := Lib.hid form; have HOK := Lib.hid hok; have HS := Lib.hid hsz
  clear form hok hsz hne3 h3
  obtain hlen | hlen : len = 0 ∨ 0 < len := by omega
  · subst hlen
    have q : ((l.length : Int) == 0) = false := by rw [beq_eq_false_iff_ne]; omega
    clear hf h0 h1 d0 d1
    go_enter Tryz.func48, Tryz.ntmps48
    go_wp2
    have hW := heap_alloc_new w (.cells #[.int .i64 0, .slice ad l.length cp] 27)
    generalize w.alloc _ = W at *
    have HB := Lib.hid B0; clear B0
    generalize w.heap.size = b at hW ⊢
    go_loopw [43] (fun i wr => ∃ k : Nat, k ≤ l.length ∧ i = .int .i64 k ∧ (∀ f ∈ l.take k, bad f = false) ∧ Below W.heap.size W wr) (fun i wr => l.length - (intOf i).toNat)
    case atStart => exact ⟨0, by omega, rfl, by simp, Below.refl _ _⟩
    case round =>
      obtain ⟨k, hk, rfl, hpre, B2⟩ := hrel
      have RW2 := RW.below B2
      have hx := (B2.block _ (blk_lt hW)).trans hW
      have c0 := blk_cell hx 0
      have c1 := blk_cell hx 1
      by_cases hkl : k = l.length
      · subst hkl
        rw [List.take_length] at hpre
        have hnone : l.find? bad = none := List.find?_eq_none.2 fun f hf => by simp [hpre f hf]
        have hok := HOK.out hnone
        have hsz := HS.out wr RW2 hok
        have hfin := HF.out
        rw [hnone] at hfin
        simp only at hfin
        have hbd := tsize_bd hok
        generalize tsize 0 l = ts at *
        have HFIN := Lib.hid hfin
        clear hfin hok hnone hpre
        go_wp2_with (go_at_call 117; refine hsz.mono ?_; clear hsz; rintro e w1 ⟨rfl, B3⟩)
        all_goals
          go_ret
          refine ⟨?_, HB.out.trans' (B2.trans' B3)⟩
          rw [HFIN.out]
          first | (rw [if_pos ‹_›]; rfl) | (rw [if_neg (Int.not_lt.2 ‹_›)]; rfl)
      · have hk3 : k < l.length := by omega
        obtain ⟨g, o, rfl, k0, k1⟩ := RW2.two (fun _ => rfl) hk3 rfl
        have hw1 := w64 ((k : Int) + 1) (by omega)
        have hcf := fun w => checkField_any l[k] w
        have hfs := find_snoc hk3 hpre
        have htk := take_snoc' hk3
        have hbk : bad l[k] = decide (chkF l[k] ≠ 0) := rfl
        generalize hlk : l[k] = lk at *
        obtain ⟨fk, fc⟩ := lk
        simp only at k0 k1 hcf
        generalize hce : chkF (fk, fc) = ce at *
        have HCE := Lib.hid hce; have HLK := Lib.hid hlk; have HPRE := Lib.hid hpre; have HTK := Lib.hid htk; have HFS := Lib.hid hfs; have HBK := Lib.hid hbk
        clear hce hlk hpre htk hfs hbk
        by_cases hc : ce = 0
        · subst hc
          go_wp2_with (go_at_call 116; refine (hcf _).mono ?_; rintro e w1 ⟨rfl, B3⟩)
          go_roundw
          case rel =>
            refine ⟨k + 1, by omega, rfl, ?_, (B2.al _).trans' B3⟩
            rw [HTK.out]
            intro f hf
            rcases List.mem_append.1 hf with h | h
            · exact HPRE.out f h
            · rw [List.mem_singleton.1 h, HBK.out]; rfl
          case measure => simp [intOf]; omega
        · have hc2 : (ce != 0) = true := by rw [bne_iff_ne]; exact hc
          have HC := Lib.hid hc; clear hc
          go_wp2_with (go_at_call 116; refine (hcf _).mono ?_; rintro e w1 ⟨rfl, B3⟩)
          go_ret
          refine ⟨?_, HB.out.trans' ((B2.al _).trans' B3)⟩
          rw [HF.out, HFS.out, HBK.out, decide_eq_true HC.out]
          simp only [if_true]
          rw [HCE.out]
          rfl
  · have q : ((l.length : Int) != 1) = false := by rw [bne_eq_false_iff_eq]; omega
    have q2 : (len == 0) = false := by rw [beq_eq_false_iff_ne]; omega
    clear hf h0 h1
    go_enter Tryz.func48, Tryz.ntmps48
    go_wp2
    have hW := heap_alloc_new w (.cells #[.int .i64 len, .slice ad l.length cp] 27)
    generalize w.alloc _ = W at *
    have HB := Lib.hid B0; clear B0
    generalize w.heap.size = b at hW ⊢
    go_loopw [43] (fun i wr => ∃ k : Nat, k ≤ l.length ∧ i = .int .i64 k ∧ (∀ f ∈ l.take k, bad f = false) ∧ Below W.heap.size W wr) (fun i wr => l.length - (intOf i).toNat)
    case atStart => exact ⟨0, by omega, rfl, by simp, Below.refl _ _⟩
    case round =>
      obtain ⟨k, hk, rfl, hpre, B2⟩ := hrel
      have RW2 := RW.below B2
      have hx := (B2.block _ (blk_lt hW)).trans hW
      have c0 := blk_cell hx 0
      have c1 := blk_cell hx 1
      by_cases hkl : k = l.length
      · subst hkl
        rw [List.take_length] at hpre
        have hnone : l.find? bad = none := List.find?_eq_none.2 fun f hf => by simp [hpre f hf]
        have hok := HOK.out hnone
        have hsz := HS.out wr RW2 hok
        have hfin := HF.out
        rw [hnone] at hfin
        simp only at hfin
        have hbd := tsize_bd hok
        generalize tsize len l = ts at *
        have HFIN := Lib.hid hfin
        clear hfin hok hnone hpre
        go_wp2_with (go_at_call 117; refine hsz.mono ?_; clear hsz; rintro e w1 ⟨rfl, B3⟩)
        all_goals
          go_ret
          refine ⟨?_, HB.out.trans' (B2.trans' B3)⟩
          rw [HFIN.out]
          first | (rw [if_pos ‹_›]; rfl) | (rw [if_neg (Int.not_lt.2 ‹_›)]; rfl)
      · have hk3 : k < l.length := by omega
        obtain ⟨g, o, rfl, k0, k1⟩ := RW2.two (fun _ => rfl) hk3 rfl
        have hw1 := w64 ((k : Int) + 1) (by omega)
        have hcf := fun w => checkField_any l[k] w
        have hfs := find_snoc hk3 hpre
        have htk := take_snoc' hk3
        have hbk : bad l[k] = decide (chkF l[k] ≠ 0) := rfl
        generalize hlk : l[k] = lk at *
        obtain ⟨fk, fc⟩ := lk
        simp only at k0 k1 hcf
        generalize hce : chkF (fk, fc) = ce at *
        have HCE := Lib.hid hce; have HLK := Lib.hid hlk; have HPRE := Lib.hid hpre; have HTK := Lib.hid htk; have HFS := Lib.hid hfs; have HBK := Lib.hid hbk
        clear hce hlk hpre htk hfs hbk
        by_cases hc : ce = 0
        · subst hc
          go_wp2_with (go_at_call 116; refine (hcf _).mono ?_; rintro e w1 ⟨rfl, B3⟩)
          go_roundw
          case rel =>
            refine ⟨k + 1, by omega, rfl, ?_, (B2.al _).trans' B3⟩
            rw [HTK.out]
            intro f hf
            rcases List.mem_append.1 hf with h | h
            · exact HPRE.out f h
            · rw [List.mem_singleton.1 h, HBK.out]; rfl
          case measure => simp [intOf]; omega
        · have hc2 : (ce != 0) = true := by rw [bne_iff_ne]; exact hc
          have HC := Lib.hid hc; clear hc
          go_wp2_with (go_at_call 116; refine (hcf _).mono ?_; rintro e w1 ⟨rfl, B3⟩)
          go_ret
          refine ⟨?_, HB.out.trans' ((B2.al _).trans' B3)⟩
          rw [HF.out, HFS.out, HBK.out, decide_eq_true HC.out]
          simp only [if_true]
          rw [HCE.out]
          rfl
theorem Count_any (v : Value) (len : Int) (l : List Fd) (w : World) (hR : Rv w 2 v l.length (l.flatMap fenc)) (hok : chkT len l = 0) :
    Calls Tryz.prog 184 #[.agg #[.int .i64 len, v]] w fun e w' => e = .returned (.int .i64 (if 0 < len then len else l.length)) ∧ Below w.heap.size w w' := by
  have htk := (chkT_ok hok).1
  have hch := fun w hR => Check_any' v len l w hR (by have := htk.many; omega)
  rw [hok] at hch
  have B0 := (Below.refl w.heap.size w).al (.cells #[.int .i64 len, v] 27)
  have hx := heap_alloc_new w (.cells #[.int .i64 len, v] 27)
  obtain ⟨ad, cp, rfl⟩ := hR.form
  have hch := hch _ (hR.below B0)
  have hm := htk.many
  clear hok htk
  by_cases hp : 0 < len
  · rw [if_pos hp]
    go_enter Tryz.func184, Tryz.ntmps184
    go_wp2_with (go_at_call 48; refine hch.mono ?_; clear hch; rintro e w1 ⟨rfl, B1⟩; have hx1 := (B1.block _ (blk_lt hx)).trans hx; have c0 := blk_cell hx1 0; have c1 := blk_cell hx1 1)
    go_ret
    exact ⟨rfl, B0.trans' B1⟩
  · rw [if_neg hp]
    have e1 : decide (0 < len) = false := decide_eq_false hp
    clear hp
    go_enter Tryz.func184, Tryz.ntmps184
    go_wp2_with (go_at_call 48; refine hch.mono ?_; clear hch; rintro e w1 ⟨rfl, B1⟩; have hx1 := (B1.block _ (blk_lt hx)).trans hx; have c0 := blk_cell hx1 0; have c1 := blk_cell hx1 1)
    go_ret
    exact ⟨rfl, B0.trans' B1⟩
theorem Size_any' (v : Value) (len : Int) (l : List Fd) (w : World) (hR : Rv w 2 v l.length (l.flatMap fenc)) (hok : chkT len l = 0) :
    Calls Tryz.prog 53 #[.agg #[.int .i64 len, v]] w fun e w' => e = .returned (.tuple #[.int .i64 (tsize len l), .int .i64 0]) ∧ Below w.heap.size w w' := by
  have htk := (chkT_ok hok).1
  have hch := fun w hR => Check_any' v len l w hR (by have := htk.many; omega)
  have hsz := fun w hR => lsize_any v len l w hR htk
  rw [hok] at hch
  have B0 := (Below.refl w.heap.size w).al (.cells #[.int .i64 len, v] 27)
  have hx := heap_alloc_new w (.cells #[.int .i64 len, v] 27)
  obtain ⟨ad, cp, rfl⟩ := hR.form
  have RW := hR.below B0
  have hch := hch _ RW
  generalize tsize len l = ts at *
  clear hok htk
  go_enter Tryz.func53, Tryz.ntmps53
  go_wp2_with (first | (go_at_call 48; refine hch.mono ?_; clear hch; rintro e w1 ⟨rfl, B1⟩; have hx1 := (B1.block _ (blk_lt hx)).trans hx; have c0 := blk_cell hx1 0; have c1 := blk_cell hx1 1) |
    (go_at_call 117; refine (hsz _ (RW.below B1)).mono ?_; clear hsz; rintro e w2 ⟨rfl, B2⟩))
  go_ret2
  exact ⟨rfl, B0.trans' (B1.trans' B2)⟩
/-- The place of a field or an element, and the error. -/
def plT (len : Int) (l : List Fd) (i : Int) : (Int × Int × Int) × Int :=
  if i < 0 ∨ (if 0 < len then len else (l.length : Int)) ≤ i then ((0, 0, 0), 6) else
  if 0 < len then ((i * width (l.getD 0 (0, 0)), width (l.getD 0 (0, 0)), (l.getD 0 (0, 0)).1), 0) else (placeAt l l.length i, 0)
end Go.Proofs.YthnfiejdkhejlaaGreat
/- layout.Place. -/
namespace Go.Proofs.YthnfiejdkhejlaaGreat
open Go.RowKit Go.Sl
theorem upI_le' {l : List Fd} (h : ∀ f ∈ l, FOk f) {k : Nat} (hk : k < l.length) : 0 ≤ (placeOf l k).1 ∧ 1 ≤ (placeOf l k).2.1 := by
  have hb := pend_bd (l.take k) fun f hf => h f (List.mem_of_mem_take hf)
  have hf := h l[k] (List.getElem_mem hk)
  have ha := align_bd hf
  have hw := width_bd hf
  have hu := upI_bd hb.1 ha.1 ha.2
  simp only [placeOf, List.getD, List.getElem?_eq_getElem hk, Option.getD_some]
  omega
set_option maxHeartbeats 400000 in
theorem Place_any (v : Value) (len : Int) (l : List Fd) (i : Int) (w : World) (hR : Rv w 2 v l.length (l.flatMap fenc)) (hok : chkT len l = 0) :
    Calls Tryz.prog 134 #[.agg #[.int .i64 len, v], .int .i64 i] w fun e w' => e = .returned (.tuple #[.agg #[.int .i64 (plT len l i).1.1, .int .i64 (plT len l i).1.2.1, .int .i64 (plT len l i).1.2.2], .int .i64 (plT len l i).2]) ∧ Below w.heap.size w w' := by
  have htk := chkT_ok hok
  have hch := fun w hR => Check_any' v len l w hR (by have := htk.1.many; omega)
  have hco := fun w hR => Count_any v len l w hR hok
  have hpl := fun w hR => places_any v l i w hR (by have := htk.1.many; omega) htk.1.fs
  rw [hok] at hch
  have hx := (Below.heap_alloc _ (pobj (0,0,0)) w.heap.size (by simp)).trans (heap_alloc_new w (.cells #[.int .i64 len, v] 27))
  obtain ⟨ad, cp, rfl⟩ := hR.form
  have S0 := ((St.start (w := w) (Has.emp w) (show (1 : As) Hl.emp from rfl)).skip (.cells #[.int .i64 len, .slice ad l.length cp] 27)).alloc (pobj (0,0,0))
  rw [World.size_alloc] at S0
  have B0 := S0.below_all rfl
  have RW := hR.below B0
  have hm := htk.1.many
  go_enter Tryz.func134, Tryz.ntmps134
  go_upto_region 1 with fail
  change Code.wp _ _ _ _ ((w.alloc _).alloc (pobj (0,0,0)))
  generalize ((w.alloc (.cells #[.int .i64 len, .slice ad l.length cp] 27)).alloc (pobj (0,0,0))) = W0 at *
  have hch := hch W0 RW
  have HB0 := Lib.hid B0; clear B0
  generalize w.heap.size = b at hx S0 ⊢
  have fin : ∀ (W : World) (p : Int × Int × Int) (X : As), St w Hl.emp W (pts (b + 1) (pobj p) * X) → W.cell? ⟨b + 1, 0, none⟩ = some (.int .i64 p.1) ∧ W.cell? ⟨b + 1, 1, none⟩ = some (.int .i64 p.2.1) ∧ W.cell? ⟨b + 1, 2, none⟩ = some (.int .i64 p.2.2) := fun W p X S => by
    have h := S.blk
    exact ⟨blk_cell h 0, blk_cell h 1, blk_cell h 2⟩
  have cl := fun (W : World) (hxW : W.heap[b]? = some (.cells #[.int .i64 len, .slice ad l.length cp] 27 (0, 0))) => And.intro (blk_cell hxW 0) (blk_cell hxW 1)
  have HFIN := Lib.hid fin; have HCL := Lib.hid cl; clear fin cl
  have HT := Lib.hid htk; have HOK := Lib.hid hok; clear htk hok
  have hplt : plT len l i = if i < 0 ∨ (if 0 < len then len else (l.length : Int)) ≤ i then ((0, 0, 0), 6) else
    if 0 < len then ((i * width (l.getD 0 (0, 0)), width (l.getD 0 (0, 0)), (l.getD 0 (0, 0)).1), 0) else (placeAt l l.length i, 0) := rfl
  have hcnt : ∃ n : Int, (if 0 < len then len else (l.length : Int)) = n := ⟨_, rfl⟩
  obtain ⟨n, hn⟩ := hcnt
  rw [hn] at hplt hco
  have HN := Lib.hid hn; clear hn
  have c0 := blk_cell hx 0
  have c1 := blk_cell hx 1
  by_cases hi : i < 0 ∨ n ≤ i
  · rw [if_pos hi] at hplt
    have HPV := Lib.hid hplt; clear hplt hpl
    obtain hi | ⟨hi0, hi⟩ : i < 0 ∨ (¬ i < 0 ∧ n ≤ i) := by omega
    · have di : decide (i < 0) = true := decide_eq_true hi
      clear hi hco
      go_wp2_with fail
      refine hch.mono ?_
      rintro e w1 ⟨rfl, B1⟩
      have S1 := S0.below B1
      have c4 := S1.blk
      have e0 := blk_cell c4 0
      have e1 := blk_cell c4 1
      have e2 := blk_cell c4 2
      have f0 := blk_free c4 0
      have f1 := blk_free c4 1
      have f2 := blk_free c4 2
      have S2 := ((S1.set 0 (.int .i64 0)).set 1 (.int .i64 0)).set 2 (.int .i64 0)
      go_wp2_with fail
      obtain ⟨r0, r1, r2⟩ := HFIN.out _ (0, 0, 0) _ S2
      simp only at r0 r1 r2
      generalize World.setCell _ _ _ = W2 at *
      refine bodyPost_ret (v := .tuple #[.agg #[.int .i64 0, .int .i64 0, .int .i64 0], .int .i64 6]) (by simp [results, Tryz.results134, go_sem, r0, r1, r2]) rfl ⟨by rw [HPV.out], S2.below_all rfl⟩
    · have di : decide (i < 0) = false := decide_eq_false hi0
      have dn : decide (n ≤ i) = true := decide_eq_true hi
      clear hi hi0
      go_wp2_with fail
      refine hch.mono ?_
      rintro e w1 ⟨rfl, B1⟩
      have hx1 := (B1.block _ (blk_lt hx)).trans hx
      have hco := hco _ (RW.below B1)
      have k0 := blk_cell hx1 0
      have k1 := blk_cell hx1 1
      go_wp2_with fail
      refine hco.mono ?_
      rintro e w2 ⟨rfl, B2⟩
      have S1 := (S0.below B1).below B2
      clear k0 k1
      have c4 := S1.blk
      have e0 := blk_cell c4 0
      have e1 := blk_cell c4 1
      have e2 := blk_cell c4 2
      have f0 := blk_free c4 0
      have f1 := blk_free c4 1
      have f2 := blk_free c4 2
      have S2 := ((S1.set 0 (.int .i64 0)).set 1 (.int .i64 0)).set 2 (.int .i64 0)
      go_wp2_with fail
      obtain ⟨r0, r1, r2⟩ := HFIN.out _ (0, 0, 0) _ S2
      simp only at r0 r1 r2
      generalize World.setCell _ _ _ = W2 at *
      refine bodyPost_ret (v := .tuple #[.agg #[.int .i64 0, .int .i64 0, .int .i64 0], .int .i64 6]) (by simp [results, Tryz.results134, go_sem, r0, r1, r2]) rfl ⟨by rw [HPV.out], S2.below_all rfl⟩
  · rw [if_neg hi] at hplt
    have di : decide (i < 0) = false := decide_eq_false (by omega)
    have dn : decide (n ≤ i) = false := decide_eq_false (by omega)
    have hi0 : 0 ≤ i := by omega
    have hin : i < n := by omega
    clear hi
    by_cases hp : 0 < len
    · rw [if_pos hp] at hplt
      have hnl : n = len := by rw [← HN.out, if_pos hp]
      have h1 : l.length = 1 := by have := HT.out.1.form; omega
      have htz := HT.out.2
      have hl1 := HT.out.1.l1
      have hok1 := HT.out.1.fs
      unfold tsize at htz
      rw [if_pos hp] at htz
      obtain ⟨f, rfl⟩ := List.length_eq_one_iff.1 h1
      have hwb := width_bd (hok1 f (by simp))
      have hwa := fun w => width_any f w
      obtain ⟨g, o, rfl, q0, q1⟩ := RW.two (fun _ => rfl) (k := 0) (by simp) rfl
      simp only [List.getD_cons_zero, List.getElem_cons_zero, Nat.zero_mul, Nat.add_zero] at *
      generalize width f = wd at *
      obtain ⟨fk, fc⟩ := f
      simp only at *
      have hmul : 0 ≤ i * wd ∧ i * wd ≤ 65536 * 65536 := ⟨Int.mul_nonneg hi0 (by omega), Int.mul_le_mul (by omega) hwb.2 (by omega) (by omega)⟩
      have hw := w64 (i * wd) (by omega)
      have e1 : ([((fk, fc) : Fd)].length) = 1 := rfl
      simp only [e1] at *
      have HPV := Lib.hid hplt
      clear hplt hpl htz h1 hm hnl hok1
      go_wp2_with fail
      refine hch.mono ?_
      rintro e w1 ⟨rfl, B1⟩
      have hx1 := (B1.block _ (blk_lt hx)).trans hx
      have hco := hco _ (RW.below B1)
      have k0 := blk_cell hx1 0
      have k1 := blk_cell hx1 1
      go_wp2_with fail
      refine hco.mono ?_
      rintro e w2 ⟨rfl, B2⟩
      have hx2 := (B2.block _ (blk_lt hx1)).trans hx1
      clear k0 k1 hco hch
      have k0 := blk_cell hx2 0
      have k1 := blk_cell hx2 1
      have q02 := cellB B2 (cellB B1 q0)
      have q12 := cellB B2 (cellB B1 q1)
      go_wp2_with fail
      refine (hwa _).mono ?_
      rintro e w3 ⟨rfl, B3⟩
      have hx3 := (B3.block _ (blk_lt hx2)).trans hx2
      have j0 := cellB B3 q02
      have j1 := cellB B3 q12
      have k0' := blk_cell hx3 0
      have k1' := blk_cell hx3 1
      have S1 := ((S0.below B1).below B2).below B3
      have c4 := S1.blk
      have e0 := blk_cell c4 0
      have e1 := blk_cell c4 1
      have e2 := blk_cell c4 2
      have f0 := blk_free c4 0
      have f1 := blk_free c4 1
      have f2 := blk_free c4 2
      have S2 := ((S1.set 0 (.int .i64 (i * wd))).set 1 (.int .i64 wd)).set 2 (.int .i64 fk)
      go_wp2_with fail
      obtain ⟨r0, r1, r2⟩ := HFIN.out _ (i * wd, wd, fk) _ S2
      simp only at r0 r1 r2
      generalize World.setCell _ _ _ = W2 at *
      refine bodyPost_ret (v := .tuple #[.agg #[.int .i64 (i * wd), .int .i64 wd, .int .i64 fk], .int .i64 0]) (by simp [results, Tryz.results134, go_sem, r0, r1, r2]) rfl ⟨by rw [HPV.out], S2.below_all rfl⟩
    · rw [if_neg hp] at hplt
      have dp : decide (0 < len) = false := decide_eq_false hp
      generalize placeAt l l.length i = pl at *
      obtain ⟨p0, p1, p2⟩ := pl
      simp only at hpl
      have HPV := Lib.hid hplt
      clear hplt hp
      go_wp2_with fail
      refine hch.mono ?_
      rintro e w1 ⟨rfl, B1⟩
      have hx1 := (B1.block _ (blk_lt hx)).trans hx
      have hco := hco _ (RW.below B1)
      have k0 := blk_cell hx1 0
      have k1 := blk_cell hx1 1
      go_wp2_with fail
      refine hco.mono ?_
      rintro e w2 ⟨rfl, B2⟩
      have hx2 := (B2.block _ (blk_lt hx1)).trans hx1
      have hpl := hpl _ ((RW.below B1).below B2)
      clear k0 k1 hco hch
      have k0 := blk_cell hx2 0
      have k1 := blk_cell hx2 1
      generalize recSize l = rs at *
      go_wp2_with fail
      refine hpl.mono ?_
      rintro e w3 ⟨rfl, B3⟩
      have S1 := ((S0.below B1).below B2).below B3
      have c4' := S1.blk
      have hlts := lts (blk_lt c4')
      have e0 := blk_cell c4' 0
      have e1 := blk_cell c4' 1
      have e2 := blk_cell c4' 2
      have f0 := blk_free c4' 0
      have f1 := blk_free c4' 1
      have f2 := blk_free c4' 2
      have S2 := (((S1.set 0 (.int .i64 p0)).set 1 (.int .i64 p1)).set 2 (.int .i64 p2)).skip (.cells #[.int .i64 p0, .int .i64 p1, .int .i64 p2] 130)
      generalize b + 1 = b1 at *
      go_wp2_with fail
      obtain ⟨r0, r1, r2⟩ := HFIN.out _ (p0, p1, p2) _ S2
      simp only at r0 r1 r2
      generalize World.alloc _ _ = W2 at *
      refine bodyPost_ret (v := .tuple #[.agg #[.int .i64 p0, .int .i64 p1, .int .i64 p2], .int .i64 0]) (by simp [results, Tryz.results134, go_sem, r0, r1, r2]) rfl ⟨by rw [HPV.out], S2.below_all rfl⟩
end Go.Proofs.YthnfiejdkhejlaaGreat
/- Maps in a walk's state. -/
namespace Go.Sl
open Go.RowKit Go.Proofs.YthnfiejdkhejlaaGreat
section
variable {κ α : Type} [DecidableEq κ] {P : Program} {K E T : TypeId} {ek : κ → Value} {ev : α → Value} {m : List (κ × α)} {w W : World} {h : Hl} {b : Nat} {X : As}
theorem St.look (kl : KL P K ek) (hu : P.underlying T = some (.map K E)) {z : α} (hz : ∀ w, (zeroValue E).run P w = .ok (ev z) w) (s : St w h W (mapAs ek ev b m * X)) (k : κ) (ok : Bool) :
    ∀ V, Below W.heap.size W V → (Instr.lookup T (.map (some b)) (ek k) ok).run P V = .ok (if ok then .tuple #[ev ((AL.get m k).getD z), .bool (AL.get m k).isSome] else ev ((AL.get m k).getD z)) V := fun V B => by
  obtain ⟨q, t, x, y, d, rfl, ⟨es, c, hE, hp⟩, _⟩ := s
  have hb : W.heap[b]? = some (.map es c) := pts_get1 t.has.unL hp
  exact run_lookup kl hu (blkB B hb) hE (hz V) k ok
theorem St.mapOpen (s : St w h W (mapAs ek ev b m * X)) : ∃ es c, Ents ek ev es c m ∧ St w h W (pts b (.map es c) * X) := by
  obtain ⟨q, t, a⟩ := s
  obtain ⟨es, c, hE, hp⟩ := mapP_some (m := m) a
  exact ⟨es, c, hE, q, t, hp⟩
theorem St.mapShut {es : Array MapEntry} {c : Nat} (hE : Ents ek ev es c m) (s : St w h W (pts b (.map es c) * X)) : St w h W (mapAs ek ev b m * X) := by
  obtain ⟨q, t, a⟩ := s
  exact ⟨q, t, mapP_mk hE a⟩
theorem St.upd (kl : KL P K ek) (hu : P.underlying T = some (.map K E)) (s : St w h W (mapAs ek ev b m * X)) (k : κ) (v : α) :
    ∃ W', (Instr.mapUpdate T (.map (some b)) (ek k) (ev v)).run P W = .ok () W' ∧ St w h W' (mapAs ek ev b (AL.set m k v) * X) := by
  obtain ⟨es, c, hE, s⟩ := s.mapOpen
  obtain ⟨es', c', hrun, hE'⟩ := run_mapUpdate kl hu s.blk hE k v
  exact ⟨_, hrun, (s.put _).mapShut hE'⟩
theorem St.del (kl : KL P K ek) (ty : TypeId) (at2 : Array TypeId) (h0 : at2[0]? = some T) (hu : P.underlying T = some (.map K E)) (s : St w h W (mapAs ek ev b m * X)) (k : κ) :
    ∃ W', (Builtin.delete_ at2 ty #[.map (some b), ek k]).run P W = .ok (.tuple #[]) W' ∧ St w h W' (mapAs ek ev b (AL.del m k) * X) := by
  obtain ⟨es, c, hE, s⟩ := s.mapOpen
  obtain ⟨es', c', hrun, hE'⟩ := run_delete kl ty at2 hu s.blk hE k h0
  exact ⟨_, hrun, (s.put _).mapShut hE'⟩
theorem St.mapNew (s : St w h W X) : St w h (W.alloc (.map #[] 0)) (mapAs ek ev W.heap.size ([] : List (κ × α)) * X) := (s.alloc (.map #[] 0)).mapShut (Ents.nil _ _)
end
end Go.Sl
/- Package allocator: find, Has. -/
namespace Go.Proofs.YthnfiejdkhejlaaGreat
open Go.RowKit Go.Sl Go.Shelf
def iV (x : Int) : Value := .int .i64 x
abbrev AM := List (Int × Int)
/-- The allocator at block ba. -/
def Al (ba : Nat) (fr : List Ex) (tk : AM) : As := fun h => ∃ (v : Value) (b : Nat), (pts ba (.cells #[v, .map (some b)] 261 (0,0)) * (rowAs 96 2 v fr.length (fr.flatMap Ex.enc) * mapAs (Value.int .i64) (Value.int .i64) b tk)) h
theorem Al.open {w W : World} {h : Hl} {ba : Nat} {fr : List Ex} {tk : AM} {X : As} (s : St w h W (Al ba fr tk * X)) : ∃ ad cp b, St w h W (pts ba (.cells #[.slice ad fr.length cp, .map (some b)] 261 (0,0)) * (rowAs 96 2 (.slice ad fr.length cp) fr.length (fr.flatMap Ex.enc) * (mapAs (Value.int .i64) (Value.int .i64) b tk * X))) := by
  obtain ⟨v, s⟩ := s.ex
  obtain ⟨b, s⟩ := s.ex
  rw [As.assoc, As.assoc] at s
  obtain ⟨ad, cp, rfl⟩ := s.b2.form
  exact ⟨ad, cp, b, s⟩
theorem Al.mk {w W : World} {h : Hl} {ba : Nat} {fr : List Ex} {tk : AM} {X : As} {v : Value} {b : Nat}
    (s : St w h W (pts ba (.cells #[v, .map (some b)] 261 (0,0)) * (rowAs 96 2 v fr.length (fr.flatMap Ex.enc) * (mapAs (Value.int .i64) (Value.int .i64) b tk * X)))) : St w h W (Al ba fr tk * X) := by
  have s : St w h W ((pts ba (.cells #[v, .map (some b)] 261 (0,0)) * (rowAs 96 2 v fr.length (fr.flatMap Ex.enc) * mapAs (Value.int .i64) (Value.int .i64) b tk)) * X) := by rw [As.assoc, As.assoc]; exact s
  exact s.mL fun _ a => ⟨v, b, a⟩
theorem zeroI (w : World) : (zeroValue 3).run Tryz.prog w = .ok (.int .i64 0) w := by kernel_rfl
/-- The extent that an allocation takes. -/
def bstep (size : Int) (b x : Ex) : Ex := if size ≤ x.len ∧ (b.len = 0 ∨ x.len < b.len) then x else b
def best (l : List Ex) (size : Int) : Ex := l.foldl (bstep size) ⟨0, 0⟩
theorem best_snoc (l : List Ex) (x : Ex) (size : Int) : best (l ++ [x]) size = bstep size (best l size) x := by simp [best, List.foldl_append]
def findE (fr : List Ex) (n : Int) : (Int × Int) × Int :=
  if (rnd n).2 ≠ 0 then ((0, 0), (rnd n).2) else if (best fr (rnd n).1).len = 0 then ((0, 0), 18) else (((best fr (rnd n).1).off, (rnd n).1), 0)
theorem ex_rv {W : World} {ad : Option Addr} {m cp : Nat} {l : List Ex} (r : Rv W 2 (.slice ad m cp) l.length (l.flatMap Ex.enc)) {k : Nat} (hk : k < l.length) :
    ∃ g o, ad = some ⟨g, o, none⟩ ∧ W.cell? ⟨g, o + k * 2, none⟩ = some (.int .i64 l[k].off) ∧ W.cell? ⟨g, o + k * 2 + 1, none⟩ = some (.int .i64 l[k].len) := r.two (fun _ => rfl) hk rfl
def xobj (e : Ex) : Obj := .cells #[.int .i64 e.off, .int .i64 e.len] 96 (0,0)
theorem Has_st (ba : Nat) (fr : List Ex) (tk : AM) (o n : Int) {w W : World} {h : Hl} {X : As} (s : St w h W (Al ba fr tk * X)) :
    Calls Tryz.prog 186 #[.pointer (some ⟨ba, 0, none⟩), .agg #[.int .i64 o, .int .i64 n]] W fun e w' => e = .returned (.bool (decide (AL.get tk o = some n))) ∧ Below W.heap.size W w' := by
  obtain ⟨ad, cp, b, s⟩ := Al.open s
  have B0 := (Below.refl W.heap.size W).al (.cells #[.int .i64 o, .int .i64 n] 96)
  have hb := blkB B0 s.blk
  have hx := heap_alloc_new W (.cells #[.int .i64 o, .int .i64 n] 96)
  have hlk := fun V BV => s.b3.look (P := Tryz.prog) (T := 228) klI Tryz.underlying228 zeroI o true V (B0.trans' BV)
  go_enter Tryz.func186, Tryz.ntmps186
  go_upto_region 3 with fail
  generalize W.alloc _ = W0 at *
  generalize W.heap.size = q at hx ⊢
  have g0 := bcells hb 1
  have g1 := bcells hx 0
  have g2 := bcells hx 1
  have glk : ∀ p : InC (fun V => Below W0.heap.size W0 V), (Instr.lookup 228 (.map (some b)) (.int .i64 o) true).run Tryz.prog p.W = .ok (.tuple #[.int .i64 ((AL.get tk o).getD 0), .bool (AL.get tk o).isSome]) p.W := fun p => hlk p.W p.ok
  cases hg : AL.get tk o with
  | none =>
    rw [hg] at glk
    simp only [Option.getD_none, Option.isSome_none] at glk
    have HG := Lib.hid hg
    clear hlk hg
    refine wp_region_sb [(0, 0), (0, 1), (0, 2), (1, 3), (0, 4), (1, 5), (1, 6), (0, 7), (0, 8), (0, 9), (0, 10), (0, 11)] (by kernel_rfl) (by kernel_rfl) (fun V BV => ?_)
    repeat (first | (refine sch_q0 (by rfl) ?_; go_big_quiet_step (fail); refine wpQuiet_nil ?_) | (refine sch_q1 (by rfl) ?_; go_big_quiet_step (fail); refine wpQuiet_nil ?_))
    refine sch_nil ?_
    clear g0 g1 g2 glk
    go_wp2
    go_ret
    exact ⟨by rw [HG.out]; rfl, B0.trans' BV⟩
  | some m =>
    rw [hg] at glk
    simp only [Option.getD_some, Option.isSome_some] at glk
    have HG := Lib.hid hg
    clear hlk hg
    refine wp_region_sb [(0, 0), (0, 1), (0, 2), (1, 3), (0, 4), (1, 5), (1, 6), (0, 7), (0, 8), (0, 9), (0, 10), (0, 11)] (by kernel_rfl) (by kernel_rfl) (fun V BV => ?_)
    repeat (first | (refine sch_q0 (by rfl) ?_; go_big_quiet_step (fail); refine wpQuiet_nil ?_) | (refine sch_q1 (by rfl) ?_; go_big_quiet_step (fail); refine wpQuiet_nil ?_))
    refine sch_nil ?_
    clear g0 g1 g2 glk
    have hx' := blkB BV hx
    have c1 := blk_cell hx' 1
    go_wp2
    go_ret
    refine ⟨?_, B0.trans' BV⟩
    rw [HG.out]
    show Ending.returned (.bool (m == n)) = _
    congr 2
    by_cases e : m = n <;> simp [e]
theorem findE_eq (fr : List Ex) (n : Int) : findE fr n = if (rnd n).2 ≠ 0 then ((0, 0), (rnd n).2) else if (best fr (rnd n).1).len = 0 then ((0, 0), 18) else (((best fr (rnd n).1).off, (rnd n).1), 0) := rfl
set_option maxHeartbeats 800000 in
theorem find_st (ba : Nat) (fr : List Ex) (tk : AM) (n : Int) (hm : fr.length ≤ 1000000) {w W : World} {h : Hl} {X : As} (s : St w h W (Al ba fr tk * X)) :
    Calls Tryz.prog 180 #[.pointer (some ⟨ba, 0, none⟩), .int .i64 n] W fun e w' => e = .returned (.tuple #[.agg #[.int .i64 (findE fr n).1.1, .int .i64 (findE fr n).1.2], .int .i64 (findE fr n).2]) ∧ Below W.heap.size W w' := by
  obtain ⟨ad, cp, b, s⟩ := Al.open s
  have S0 := (St.start (w := W) (Has.emp W) (show (1 : As) Hl.emp from rfl)).alloc (xobj ⟨0, 0⟩)
  have hba := blkB (S0.below_all rfl) s.blk
  have RVW := s.b2.rv
  have hro := fun w => Round_any n w
  have hfe := findE_eq fr n
  generalize hsz : (rnd n).1 = sz at *
  generalize her : (rnd n).2 = er at *
  clear hsz her
  have hb4 := S0.blk
  have e0 := blk_cell hb4 0
  have e1 := blk_cell hb4 1
  have f0 := blk_free hb4 0
  have f1 := blk_free hb4 1
  by_cases he : er = 0
  · subst he
    rw [if_neg (by simp)] at hfe
    have HFE := Lib.hid hfe; clear hfe
    go_enter Tryz.func180, Tryz.ntmps180
    go_upto_region 1 with fail
    change Code.wp _ _ _ _ (W.alloc (xobj ⟨0, 0⟩))
    generalize W.alloc _ = W0 at *
    generalize W.heap.size = b4 at S0 hb4 e0 e1 f0 f1 ⊢
    go_wp2_with fail
    refine (hro _).mono ?_
    rintro e w1 ⟨rfl, B1⟩
    have S1 := (S0.below B1).alloc (xobj ⟨0, 0⟩)
    have hlts := lts (blk_lt (S0.below B1).blk)
    have hba1 := blkB B1 hba
    have hltb := lts (blk_lt hba1)
    have c0 := blk_cell hba1 0
    have hbaA := (Below.heap_alloc w1 (xobj ⟨0, 0⟩) ba (blk_lt hba1)).trans hba1
    clear e0 e1 f0 f1 hb4 hba S0 hro
    go_wp2_with fail
    change Code.wp _ _ _ _ (w1.alloc (xobj ⟨0, 0⟩))
    generalize w1.alloc _ = W1 at *
    generalize w1.heap.size = b8 at *
    have B01 := S1.below_all rfl
    go_loopw [28] (fun i wr => ∃ k : Nat, k ≤ fr.length ∧ i = .int .i64 k ∧ St W Hl.emp wr (pts b8 (xobj (best (fr.take k) sz)) * (pts b4 (xobj ⟨0, 0⟩) * 1))) (fun i wr => fr.length - (intOf i).toNat)
    case atStart => exact ⟨0, by omega, rfl, S1⟩
    case round =>
      obtain ⟨k, hk, rfl, S2⟩ := hrel
      have RV2 := RVW.below (S2.below_all rfl)
      have hb8 := S2.blk
      have hb4 := S2.b2.blk
      have u0 := blk_cell hb8 0
      have u1 := blk_cell hb8 1
      have v0 := blk_free hb8 0
      have v1 := blk_free hb8 1
      have hl8 := lts (blk_lt hb8)
      have hl4 := lts (blk_lt hb4)
      have HB01 := Lib.hid B01
      by_cases hkl : k = fr.length
      · subst hkl
        rw [List.take_length] at S2 u0 u1
        have HFE' := HFE.out
        generalize best fr sz = be at *
        obtain ⟨bo, bl⟩ := be
        simp only at HFE' u0 u1
        have S3 := S2.b2
        have x0 := blk_cell hb4 0
        have x1 := blk_cell hb4 1
        have y0 := blk_free hb4 0
        have y1 := blk_free hb4 1
        have hne := S3.ne
        by_cases hbl : bl = 0
        · rw [if_pos hbl] at HFE'
          have HF := Lib.hid HFE'
          have q : (bl == 0) = true := by simpa using hbl
          have S4 := (S3.set 0 (.int .i64 0)).set 1 (.int .i64 0)
          clear hbl HFE'
          go_wp2_with fail
          generalize World.setCell _ _ _ = W2 at *
          have hb2 := S4.blk
          have p0 := blk_cell hb2 0
          have p1 := blk_cell hb2 1
          refine bodyPost_ret (v := .tuple #[.agg #[.int .i64 0, .int .i64 0], .int .i64 18]) (by simp [results, Tryz.results180, go_sem, p0, p1]) rfl ⟨by rw [HF.out], S4.below_all rfl⟩
        · rw [if_neg hbl] at HFE'
          have HF := Lib.hid HFE'
          have q : (bl == 0) = false := by simpa using hbl
          have S4 := (S3.set 0 (.int .i64 bo)).set 1 (.int .i64 sz)
          clear hbl HFE'
          go_wp2_with fail
          generalize World.setCell _ _ _ = W2 at *
          have hb2 := S4.blk
          have p0 := blk_cell hb2 0
          have p1 := blk_cell hb2 1
          refine bodyPost_ret (v := .tuple #[.agg #[.int .i64 bo, .int .i64 sz], .int .i64 0]) (by simp [results, Tryz.results180, go_sem, p0, p1]) rfl ⟨by rw [HF.out], S4.below_all rfl⟩
      · have hk3 : k < fr.length := by omega
        obtain ⟨g, o, rfl, c0, c1⟩ := ex_rv RV2 hk3
        have hw1 := w64 ((k : Int) + 1) (by omega)
        have hbs : best (fr.take (k + 1)) sz = bstep sz (best (fr.take k) sz) fr[k] := by rw [take_snoc' hk3, best_snoc]
        generalize best (fr.take k) sz = be at *
        generalize fr[k] = x at *
        obtain ⟨bo, bl⟩ := be
        obtain ⟨xo, xl⟩ := x
        simp only at u0 u1 c0 c1
        simp only [bstep] at hbs
        have hlg := lts (cell_lt c0)
        simp only at hlg
        by_cases h1 : sz ≤ xl ∧ (bl = 0 ∨ xl < bl)
        · rw [if_pos h1] at hbs
          have HBS := Lib.hid hbs; clear hbs
          have S4 := ((S2.set 0 (.int .i64 xo)).set 1 (.int .i64 xl)).skip (xobj ⟨xo, xl⟩)
          have hsz : sz ≤ xl := h1.1
          by_cases hz : bl = 0
          · subst hz
            clear h1
            go_wp2_with fail
            go_roundw
            case rel => exact ⟨k + 1, by omega, rfl, by rw [HBS.out]; exact S4⟩
            case measure => simp [intOf]; omega
          · have q : (bl == 0) = false := by simpa using hz
            have hlt : xl < bl := by omega
            clear h1 hz
            go_wp2_with fail
            go_roundw
            case rel => exact ⟨k + 1, by omega, rfl, by rw [HBS.out]; exact S4⟩
            case measure => simp [intOf]; omega
        · rw [if_neg h1] at hbs
          have HBS := Lib.hid hbs; clear hbs
          by_cases hsz : sz ≤ xl
          · have hz : ¬ bl = 0 := by omega
            have q : (bl == 0) = false := by simpa using hz
            have hlt : decide (xl < bl) = false := decide_eq_false (by omega)
            clear h1 hz
            go_wp2_with fail
            go_roundw
            case rel => exact ⟨k + 1, by omega, rfl, by rw [HBS.out]; exact S2.skip _⟩
            case measure => simp [intOf]; omega
          · have q : decide (sz ≤ xl) = false := decide_eq_false hsz
            clear h1 hsz
            go_wp2_with fail
            go_roundw
            case rel => exact ⟨k + 1, by omega, rfl, by rw [HBS.out]; exact S2.skip _⟩
            case measure => simp [intOf]; omega
  · rw [if_pos he] at hfe
    have hc2 : (er != 0) = true := by rw [bne_iff_ne]; exact he
    have HFE := Lib.hid hfe; clear hfe he
    go_enter Tryz.func180, Tryz.ntmps180
    go_upto_region 1 with fail
    change Code.wp _ _ _ _ (W.alloc (xobj ⟨0, 0⟩))
    generalize W.alloc _ = W0 at *
    generalize W.heap.size = b4 at S0 hb4 e0 e1 f0 f1 ⊢
    go_wp2_with fail
    refine (hro _).mono ?_
    rintro e w1 ⟨rfl, B1⟩
    have S1 := S0.below B1
    have hb1 := S1.blk
    have k0 := blk_cell hb1 0
    have k1 := blk_cell hb1 1
    have j0 := blk_free hb1 0
    have j1 := blk_free hb1 1
    have S2 := (S1.set 0 (.int .i64 0)).set 1 (.int .i64 0)
    go_wp2_with fail
    generalize World.setCell _ _ _ = W2 at *
    have hb2 := S2.blk
    have p0 := blk_cell hb2 0
    have p1 := blk_cell hb2 1
    refine bodyPost_ret (v := .tuple #[.agg #[.int .i64 0, .int .i64 0], .int .i64 er]) (by simp [results, Tryz.results180, go_sem, p0, p1]) rfl ⟨by rw [HFE.out], S2.below_all rfl⟩
end Go.Proofs.YthnfiejdkhejlaaGreat
/- Package allocator: Alloc. -/
namespace Go.Proofs.YthnfiejdkhejlaaGreat
open Go.RowKit Go.Sl Go.Shelf
theorem best_mem (sz : Int) (l : List Ex) : best l sz = ⟨0, 0⟩ ∨ ∃ i, i < l.length ∧ l.getD i Ex.z = best l sz ∧ sz ≤ (best l sz).len := by
  induction l using snocInd with
  | h0 => exact .inl rfl
  | h1 l x ih =>
    rw [best_snoc]
    unfold bstep
    split
    · rename_i hh
      exact .inr ⟨l.length, by simp, by simp [List.getD], hh.1⟩
    · rcases ih with ih | ⟨i, hi, h1, h2⟩
      · exact .inl ih
      · exact .inr ⟨i, by simp; omega, by rw [List.getD, List.getElem?_append_left hi]; exact h1, h2⟩
theorem rnd_bd (n : Int) (h : (rnd n).2 = 0) : 16 ≤ (rnd n).1 ∧ (rnd n).1 ≤ 65536 ∧ n ≤ (rnd n).1 := by
  unfold rnd at *
  split at h
  · cases h
  · rename_i hn
    rw [if_neg hn]
    cases hf : cls.find? (sizeOk n) with
    | none => rw [hf] at h; cases h
    | some x =>
      have hm := List.mem_of_find?_eq_some hf
      have hp := List.find?_some hf
      obtain ⟨k, hk, rfl⟩ := List.mem_map.1 hm
      have := szs_le k (List.mem_range.1 hk)
      simp only [sizeOk, decide_eq_true_eq] at hp
      simp only
      omega
theorem Alloc_no (ba : Nat) (fr : List Ex) (tk : AM) (n : Int) (hm : fr.length ≤ 1000000) (he : (findE fr n).2 ≠ 0) {w W : World} {h : Hl} {X : As} (s : St w h W (Al ba fr tk * X)) :
    Calls Tryz.prog 129 #[.pointer (some ⟨ba, 0, none⟩), .int .i64 n] W fun e w' => e = .returned (.tuple #[.agg #[.int .i64 0, .int .i64 0], .int .i64 (findE fr n).2]) ∧ Below W.heap.size W w' := by
  have S0 := (St.start (w := W) (Has.emp W) (show (1 : As) Hl.emp from rfl)).alloc (xobj ⟨0, 0⟩)
  have hfi := find_st ba fr tk n hm (s.skip (xobj ⟨0, 0⟩))
  obtain ⟨⟨⟨fo, fl⟩, fe⟩, hfe⟩ : ∃ x, findE fr n = x := ⟨_, rfl⟩
  rw [hfe] at hfi he ⊢
  simp only at hfi he ⊢
  have q : (fe != 0) = true := by rw [bne_iff_ne]; exact he
  clear hfe he
  go_enter Tryz.func129, Tryz.ntmps129
  go_upto_region 1 with fail
  change Code.wp _ _ _ _ (W.alloc (xobj ⟨0, 0⟩))
  generalize W.alloc _ = W0 at *
  generalize W.heap.size = b4 at S0 ⊢
  go_wp2_with fail
  refine hfi.mono ?_
  clear hfi
  rintro e w1 ⟨rfl, B1⟩
  have S1 := (S0.below B1).skip (xobj ⟨fo, fl⟩)
  have hlts := lts (blk_lt (S0.below B1).blk)
  have hb4 := S1.blk
  have hb4' := (S0.below B1).blk
  have e0 := blk_cell hb4' 0
  have e1 := blk_cell hb4' 1
  have f0 := blk_free hb4' 0
  have f1 := blk_free hb4' 1
  have S2 := (((S0.below B1).set 0 (.int .i64 0)).set 1 (.int .i64 0)).skip (xobj ⟨fo, fl⟩)
  go_wp2_with fail
  have hb2 := S2.blk
  have p0 := blk_cell hb2 0
  have p1 := blk_cell hb2 1
  unfold xobj at p0 p1
  refine bodyPost_ret (v := .tuple #[.agg #[.int .i64 0, .int .i64 0], .int .i64 fe]) (by simp [results, Tryz.results129, go_sem, p0, p1]) rfl ⟨rfl, ?_⟩
  exact S2.below_all rfl
set_option maxHeartbeats 400000 in
theorem Alloc_yes (ba : Nat) (fr : List Ex) (tk : AM) (n : Int) (hm : fr.length ≤ 1000000) (hv : ValidP fr) (he : (findE fr n).2 = 0) {w W : World} {h : Hl} {X : As} (s : St w h W (Al ba fr tk * X)) :
    Calls Tryz.prog 129 #[.pointer (some ⟨ba, 0, none⟩), .int .i64 n] W fun e w' => ∃ i, (i < fr.length ∧ fr.getD i Ex.z = best fr (rnd n).1 ∧ (rnd n).1 ≤ (best fr (rnd n).1).len ∧ (rnd n).2 = 0) ∧
      e = .returned (.tuple #[.agg #[.int .i64 (best fr (rnd n).1).off, .int .i64 (rnd n).1], .int .i64 0]) ∧ St w h w' (Al ba (cutL fr i (rnd n).1) (AL.set tk (best fr (rnd n).1).off (rnd n).1) * X) := by
  have hfi := fun {w W h X} (s : St w h W (Al ba fr tk * X)) => find_st ba fr tk n hm s
  have hr0 : (rnd n).2 = 0 := by
    by_cases h : (rnd n).2 = 0
    · exact h
    · rw [findE_eq, if_pos h] at he; exact absurd he h
  have hbl : (best fr (rnd n).1).len ≠ 0 := by
    intro h
    rw [findE_eq, if_neg (by simpa using hr0), if_pos h] at he; cases he
  have hfe : findE fr n = (((best fr (rnd n).1).off, (rnd n).1), 0) := by rw [findE_eq, if_neg (by simpa using hr0), if_neg hbl]
  rw [hfe] at hfi
  simp only at hfi
  have hbd := rnd_bd n hr0
  obtain ⟨i, hi, hbi, hle⟩ := (best_mem (rnd n).1 fr).resolve_left (fun h => hbl (by rw [h]))
  have hre := fun {w W h X} (v : Value) (s : St w h W (rowAs 96 2 v fr.length (fr.flatMap Ex.enc) * X)) => Remove_st v fr i (rnd n).1 hv hm hi (by omega) (by rw [hbi]; exact hle) s
  rw [hbi] at hre
  have HPOST := Lib.hid (And.intro hi (And.intro hbi (And.intro hle hr0)))
  generalize best fr (rnd n).1 = be at *
  generalize (rnd n).1 = sz at *
  obtain ⟨bo, bl⟩ := be
  simp only at *
  clear hfe hbl hr0 he hbi hi hle hv
  have S0 := s.alloc (xobj ⟨0, 0⟩)
  have F0 := hfi S0.b2
  go_enter Tryz.func129, Tryz.ntmps129
  go_upto_region 1 with fail
  change Code.wp _ _ _ _ (W.alloc (xobj ⟨0, 0⟩))
  generalize W.alloc _ = W0 at *
  generalize W.heap.size = b4 at S0 ⊢
  go_wp2_with fail
  refine F0.mono ?_
  clear F0
  rintro e w1 ⟨rfl, B1⟩
  have S1 := (S0.below B1).alloc (xobj ⟨bo, sz⟩)
  have hlts := lts (blk_lt (S0.below B1).blk)
  go_upto_region 4 with fail
  change Code.wp _ _ _ _ (w1.alloc (xobj ⟨bo, sz⟩))
  generalize w1.alloc _ = W1 at *
  generalize w1.heap.size = b6 at *
  obtain ⟨ad, cp, b, S2⟩ := Al.open (S1.b3)
  have hb6 := S1.blk
  have hba := S2.blk
  have g0 := bcells hba 0
  have g1 := bcells hb6 0
  have g2 := bcells hb6 1
  refine wp_region_sb [(0, 0), (0, 1), (0, 2), (0, 3), (1, 4), (1, 5), (2, 6), (0, 7), (0, 8), (0, 9), (0, 10), (0, 11), (2, 12)] (by kernel_rfl) (by kernel_rfl) (fun V BV => ?_)
  repeat (first | (refine sch_q0 (by rfl) ?_; go_big_quiet_step (fail); refine wpQuiet_nil ?_) | (refine sch_q1 (by rfl) ?_; go_big_quiet_step (fail); refine wpQuiet_nil ?_))
  refine sch_e2 (by rfl) ?_
  have S3 := (S2.below BV).b2
  have H1 := hre _ S3
  go_wp2_with fail
  refine H1.mono ?_
  clear H1
  rintro e w2 ⟨u, rfl, S4⟩
  obtain ⟨ad2, cp2, rfl⟩ := S4.form
  go_wp2_with fail
  refine onlyN_mk ?_
  repeat (first | (refine sch_q0 (by rfl) ?_; go_big_quiet_step (fail); refine wpQuiet_nil ?_) | (refine sch_q1 (by rfl) ?_; go_big_quiet_step (fail); refine wpQuiet_nil ?_))
  refine sch_e2 (by rfl) ?_
  have S5 := S4.b3
  have hba5 := S5.blk
  have c5 := blk_cell hba5 0
  have f5 := blk_free hba5 0
  have S6 := S5.set 0 (.slice ad2 (cutL fr i sz).length cp2)
  go_wp2_with fail
  refine onlyN_mk (sch_nil ?_)
  generalize World.setCell _ _ _ = W6 at *
  have S7 := S6.b3.dropRow
  clear S6 S5 S4 S3 S2 c5 f5 g0 g1 g2
  have S8 : St w h W6 (pts ba (.cells #[.slice ad2 (cutL fr i sz).length cp2, .map (some b)] 261 (0,0)) * (rowAs 96 2 (.slice ad2 (cutL fr i sz).length cp2) (cutL fr i sz).length ((cutL fr i sz).flatMap Ex.enc) * (mapAs (Value.int .i64) (Value.int .i64) b tk * (pts b6 (xobj ⟨bo, sz⟩) * (pts b4 (xobj ⟨0, 0⟩) * X))))) := S7
  clear S7
  go_upto_region 5 with fail
  have hba8 := S8.blk
  have hb68 := S8.b4.blk
  have g0 := bcells hba8 1
  have g1 := bcells hb68 0
  have g2 := bcells hb68 1
  refine wp_region_sb [(0, 0), (0, 1), (0, 2), (1, 3), (0, 4), (1, 5), (0, 6), (1, 7), (2, 8)] (by kernel_rfl) (by kernel_rfl) (fun V BV => ?_)
  repeat (first | (refine sch_q0 (by rfl) ?_; go_big_quiet_step (fail); refine wpQuiet_nil ?_) | (refine sch_q1 (by rfl) ?_; go_big_quiet_step (fail); refine wpQuiet_nil ?_))
  refine sch_e2 (by rfl) ?_
  obtain ⟨W9, hrun, S9⟩ := (S8.below BV).b3.upd (P := Tryz.prog) (T := 228) klI Tryz.underlying228 bo sz
  go_wp2_with (at_mapUpdate; refine wpList_mapUpdate _ _ _ rfl rfl rfl hrun ?_)
  refine onlyN_mk (sch_nil ?_)
  have hb69 := S9.b4.blk
  have S10 := (show St w h W9 (mapAs (Value.int .i64) (Value.int .i64) b (AL.set tk bo sz) * (pts ba (.cells #[.slice ad2 (cutL fr i sz).length cp2, .map (some b)] 261 (0,0)) * (rowAs 96 2 (.slice ad2 (cutL fr i sz).length cp2) (cutL fr i sz).length ((cutL fr i sz).flatMap Ex.enc) * (pts b6 (xobj ⟨bo, sz⟩) * (pts b4 (xobj ⟨0, 0⟩) * X))))) from S9)
  have S11 : St w h W9 (pts b4 (xobj ⟨0, 0⟩) * (pts b6 (xobj ⟨bo, sz⟩) * (pts ba (.cells #[.slice ad2 (cutL fr i sz).length cp2, .map (some b)] 261 (0,0)) * (rowAs 96 2 (.slice ad2 (cutL fr i sz).length cp2) (cutL fr i sz).length ((cutL fr i sz).flatMap Ex.enc) * (mapAs (Value.int .i64) (Value.int .i64) b (AL.set tk bo sz) * X))))) := S10.eq (by ac_rfl)
  have hb4 := S11.blk
  have hb6' := S11.b2.blk
  have k0 := blk_cell hb6' 0
  have k1 := blk_cell hb6' 1
  have e0 := blk_cell hb4 0
  have e1 := blk_cell hb4 1
  have f0 := blk_free hb4 0
  have f1 := blk_free hb4 1
  have S12 := (S11.set 0 (.int .i64 bo)).set 1 (.int .i64 sz)
  clear S9 S10 g0 g1 g2 hb6 hba hba5 hba8 hb68 hb69
  go_wp2_with fail
  generalize World.setCell _ _ _ = W12 at *
  have hb12 := S12.blk
  have p0 := blk_cell hb12 0
  have p1 := blk_cell hb12 1
  refine bodyPost_ret (v := .tuple #[.agg #[.int .i64 bo, .int .i64 sz], .int .i64 0]) (by simp [results, Tryz.results129, go_sem, p0, p1]) rfl ⟨i, HPOST.out, rfl, Al.mk S12.drop.drop⟩
end Go.Proofs.YthnfiejdkhejlaaGreat
/- Package wire: PutUint, PutBytes. -/
namespace Go.Proofs.YthnfiejdkhejlaaGreat
open Go.RowKit Go.Sl Go.Shelf
def bv (x : Nat) : Value := .int .u8 x
/-- The encoding of a number. -/
def leb (n : Nat) : List Nat := if h : n < 128 then [n] else (n % 128 + 128) :: leb (n / 128)
termination_by n
decreasing_by omega
theorem leb_len (k : Nat) : ∀ n, n < 128 ^ (k + 1) → (leb n).length ≤ k + 1 := by
  induction k with
  | zero => intro n hn; unfold leb; rw [dif_pos (by simpa using hn)]; simp
  | succ k ih =>
    intro n hn
    unfold leb
    split
    · simp
    · have := ih (n / 128) (by rw [Nat.div_lt_iff_lt_mul (by decide)]; rw [Nat.pow_succ] at hn; exact hn)
      simpa using this
theorem or128 : ∀ x : Fin 256, bits .or .u8 (x.1 : Int) 128 = (x.1 : Int) % 128 + 128 := by decide +kernel
theorem PutUint_row (v : Value) (m n : Nat) (bs : List Nat) (X : As) (hm : m ≤ 1000000) (hn : n < 18446744073709551616) (w : World) (h : Hl) (H : Has w h) (hA : (rowAs 5 1 v m (bs.map bv) * X) h) :
    Calls Tryz.prog 193 #[v, .int .u64 n] w fun e w' => ∃ u h', e = .returned u ∧ Tr w w' h h' ∧ (rowAs 5 1 u (m + (leb n).length) ((bs ++ leb n).map bv) * (rowAs 5 1 v m (bs.map bv) * X)) h' := by
  have hcl := CloneByte_row v m (bs.map bv) X _ (by omega) (by simp [bv, Value.oneCell']) w h h H hA H hA
  obtain ⟨i0, hi, hz0, hz1, hz2⟩ := info_parts infoByte
  obtain ⟨ad, cp, rfl⟩ := rowAs_form hA
  have HN := Lib.hid hn; clear hn
  go_enter Tryz.func193, Tryz.ntmps193
  go_wp2_with (first | (go_at_call 141; refine hcl.mono ?_; clear hcl; rintro e w1 ⟨u, h1, rfl, T1, A1⟩))
  go_loopw [1, 5] (fun x y wr => ∃ (k : Nat) (pre : List Nat), k < 18446744073709551616 ∧ x = .int .u64 k ∧ bs ++ leb n = pre ++ leb k ∧ (pre.length + (leb k).length ≤ m + 10) ∧ ∃ h', Tr w wr h h' ∧ (rowAs 5 1 y pre.length (pre.map bv) * (rowAs 5 1 (.slice ad m cp) m (bs.map bv) * X)) h') (fun x y wr => (intOf x).toNat)
  case atStart =>
    refine ⟨n, bs, HN.out, rfl, rfl, ?_, h1, T1, ?_⟩
    · have := leb_len 9 n (by have := HN.out; omega)
      have := (rowAs_cases A1).1
      simp at this
      omega
    · have := (rowAs_cases A1).1
      simp at this
      rw [this]
      exact A1
  case round =>
    obtain ⟨k, pre, hk, rfl, hpre, hle, h', T2, A2⟩ := hrel
    obtain ⟨ad5, cp5, rfl⟩ := rowAs_form A2
    have hlb : 0 < (leb k).length := by unfold leb; split <;> simp
    by_cases hk1 : k < 128
    · have d1 : decide ((128 : Int) ≤ k) = false := decide_eq_false (by omega)
      have hlk : leb k = [k] := by unfold leb; rw [dif_pos hk1]
      rw [hlk] at hpre
      have B := (Below.refl wr.heap.size wr).al (.cells #[.int .u8 k] 5)
      obtain ⟨v', w', h2, hrun, T3, A3⟩ := row_append (P := Tryz.prog) (w := wr.alloc (.cells #[.int .u8 k] 5)) (ty := 49) (T2.has.below B) A2 Tryz.underlying49 hi hz0 hz1 rfl ⟨wr.heap.size, 0, none⟩ 1 1 [.int .u8 k] rfl (cell_one_new _ _ _) (by simp [Value.oneCell']) (by unfold maxLen; omega) (by rw [hz2]; omega)
      obtain ⟨ad6, cp6, rfl⟩ := rowAs_form A3
      have T4 := T2.trans ((Tr.of_below T2.has B).trans T3)
      have hl2 : m + (leb n).length = pre.length + 1 := by
        have h1 := congrArg List.length hpre
        have h2 := (rowAs_cases hA).1
        simp at h1 h2
        omega
      have HFIN : Hid (∃ u h', Ending.returned (.slice ad6 (pre.length + 1) cp6) = .returned u ∧ Tr w w' h h' ∧ (rowAs 5 1 u (m + (leb n).length) ((bs ++ leb n).map bv) * (rowAs 5 1 (.slice ad m cp) m (bs.map bv) * X)) h') :=
        Lib.hid ⟨_, h2, rfl, T4, by rw [hl2, hpre, List.map_append]; exact A3⟩
      clear hpre hl2 T4 A3 A2 T3 hlk hlb hle
      go_wp2_with (at_builtin; refine wpList_append _ _ _ rfl rfl hrun ?_)
      go_ret
      exact HFIN.out
    · have d1 : decide ((128 : Int) ≤ k) = true := decide_eq_true (by omega)
      have hlk : leb k = (k % 128 + 128) :: leb (k / 128) := by rw [leb, dif_neg hk1]
      rw [hlk] at hpre hle
      have hor : bits .or .u8 ((k : Int) % 256) 128 = ((k % 128 + 128 : Nat) : Int) := by
        have := or128 ⟨k % 256, Nat.mod_lt _ (by decide)⟩
        simp only at this
        rw [show ((k : Int) % 256) = ((k % 256 : Nat) : Int) by omega, this]
        omega
      have B := (Below.refl wr.heap.size wr).al (.cells #[.int .u8 (bits .or .u8 ((k : Int) % 256) 128)] 5)
      obtain ⟨v', w', h2, hrun, T3, A3⟩ := row_append (P := Tryz.prog) (w := wr.alloc (.cells #[.int .u8 (bits .or .u8 ((k : Int) % 256) 128)] 5)) (ty := 49) (T2.has.below B) A2 Tryz.underlying49 hi hz0 hz1 rfl ⟨wr.heap.size, 0, none⟩ 1 1 [.int .u8 (bits .or .u8 ((k : Int) % 256) 128)] rfl (cell_one_new _ _ _) (by simp [Value.oneCell']) (by unfold maxLen; simp at hle; omega) (by rw [hz2]; simp at hle; omega)
      obtain ⟨ad6, cp6, rfl⟩ := rowAs_form A3
      have T4 := T2.trans ((Tr.of_below T2.has B).trans T3)
      have HT := Lib.hid T4; have HA3 := Lib.hid A3; have HP := Lib.hid hpre; have HLE := Lib.hid hle; have HOR := Lib.hid hor
      clear hpre T4 A3 A2 T3 hlk hlb hle hor
      go_wp2_with (at_builtin; refine wpList_append _ _ _ rfl rfl hrun ?_)
      go_roundw
      case rel =>
        refine ⟨k / 128, pre ++ [k % 128 + 128], by omega, ?_, ?_, ?_, h2, HT.out, ?_⟩
        · simp
        · rw [HP.out]; simp
        · have := HLE.out; simp at this ⊢; omega
        · rw [List.length_append, List.map_append]
          have := HA3.out
          rw [HOR.out] at this
          exact this
      case measure => simp [intOf]; omega
end Go.Proofs.YthnfiejdkhejlaaGreat
