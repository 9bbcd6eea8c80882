/- slices.Clone: contracts (printed by gencl.py). -/
import Derived.OrdersHeld
import Derived.Test.YthnfiejdkhejlaaGreatJ02
set_option linter.all false
set_option maxRecDepth 100000
namespace Go.Proofs.YthnfiejdkhejlaaGreat
open Go.RowKit Go.Sl Go.Shelf
theorem infoInt : (Tryz.prog.info? 3).map (fun i => (i.zero, i.size, i.bytes)) = some (some (.int .i64 0), 1, 8) := by kernel_rfl
theorem CloneInt_any (g o m c : Nat) (xs : List Value) (w : World) (h : Hl) (X : As) (H : Has w h) (hX : X h) (hl : xs.length = m * 1) (hm : m ≤ 1048576) (hcells : ∀ j u, xs[j]? = some u → w.cell? ⟨g, o + j, none⟩ = some u) (hlt : g < w.heap.size) (h1 : ∀ u ∈ xs, u.oneCell' = true) :
    Calls Tryz.prog 221 #[.slice (some ⟨g, o, none⟩) m c] w fun e w' => ∃ v h', e = .returned v ∧ Tr w w' h h' ∧ (rowAs 3 1 v m xs * X) h' := by
  obtain ⟨i0, hi, hz0, hz1, hz2⟩ := info_parts infoInt
  have qT : ∀ (w : World) (a : Option Addr) (n c n' c' : Nat), (binOp .eql 67 (.slice a n c) (.slice none n' c')).run Tryz.prog w = .ok (.bool a.isNone) w := fun w a n c n' c' => Lib.run_eql_slice_nil w _ _ a n c n' c' Tryz.underlying67
  obtain ⟨k1, T1, A1⟩ := (Tr.refl H).allocA hX (.cells #[] 3)
  have R1 : (rowAs 3 1 (.slice (some ⟨w.heap.size, 0, none⟩) 0 0) 0 [] * X) k1 := rowAs_mk rfl (Nat.le_refl _) (by decide) rfl rfl A1
  have hcells' : ∀ j u, xs[j]? = some u → (w.alloc (.cells #[] 3)).cell? ((⟨g, o, none⟩ : Addr).add j) = some u := fun j u hj => by
    rw [Addr.add_lit]
    rw [World.cell?_of_block (w := w) (w' := w.alloc (.cells #[] 3)) (a := ⟨g, o + j, none⟩) (Below.heap_alloc w _ _ hlt)]; exact hcells j u hj
  obtain ⟨v', w', h', hrun, T, hA'⟩ := row_append (P := Tryz.prog) (w := w.alloc (.cells #[] 3)) (ty := 67) T1.has R1 Tryz.underlying67 hi hz0 hz1 rfl ⟨g, o, none⟩ m c xs hl hcells' h1 (by unfold maxLen; omega) (by rw [hz2]; omega)
  obtain ⟨ad, cp, rfl⟩ := rowAs_form hA'
  rw [Nat.zero_add] at hrun hA'
  rw [List.nil_append] at hA'
  clear hcells hcells' h1
  go_enter Tryz.func221, Tryz.ntmps221
  go_wp2_with (at_builtin; refine wpList_append _ _ _ rfl rfl hrun ?_)
  go_ret
  exact ⟨_, h', rfl, T1.trans T, hA'⟩
theorem CloneInt_nil (w : World) : Calls Tryz.prog 221 #[.slice none 0 0] w fun e w' => e = .returned (.slice none 0 0) ∧ w' = w := by
  have qT : ∀ (w : World) (a : Option Addr) (n c n' c' : Nat), (binOp .eql 67 (.slice a n c) (.slice none n' c')).run Tryz.prog w = .ok (.bool a.isNone) w := fun w a n c n' c' => Lib.run_eql_slice_nil w _ _ a n c n' c' Tryz.underlying67
  go_enter Tryz.func221, Tryz.ntmps221
  go_wp2
  go_ret
  exact ⟨rfl, rfl⟩
/-- A clone of an owned row, whatever it is (h: what is read; c: what is owned). -/
theorem CloneInt_row (v : Value) (n : Nat) (xs : List Value) (X Y : As) (hm : n ≤ 1048576) (h1 : ∀ u ∈ xs, u.oneCell' = true) (w : World) (h c : Hl) (H : Has w h) (hA : (rowAs 3 1 v n xs * X) h) (Hc : Has w c) (hY : Y c) :
    Calls Tryz.prog 221 #[v] w fun e w' => ∃ u h', e = .returned u ∧ Tr w w' c h' ∧ (rowAs 3 1 u n xs * Y) h' := by
  obtain ⟨hl, hc⟩ := rowAs_cases hA
  rcases hc with ⟨rfl, rfl, hX⟩ | ⟨g, cap, cur, rfl, hnc, hcm, hcs, htk, hp⟩
  · refine (CloneInt_nil w).mono ?_
    rintro e w' ⟨rfl, rfl⟩
    have hx : xs = [] := List.eq_nil_of_length_eq_zero (by simpa using hl)
    subst hx
    exact ⟨_, c, rfl, Tr.refl Hc, rowAs.nil _ _ _ hY⟩
  · have hg := pts_get H hp
    refine (CloneInt_any g 0 n cap xs w c _ Hc hY hl hm (fun j u hj => by rw [Nat.zero_add]; exact rowAs_cell (cap := cap) hg htk hj) (blk_lt hg) h1).mono ?_
    rintro e w' ⟨u, h', rfl, T, hA'⟩
    exact ⟨u, h', rfl, T, hA'⟩
theorem infoByte : (Tryz.prog.info? 5).map (fun i => (i.zero, i.size, i.bytes)) = some (some (.int .u8 0), 1, 1) := by kernel_rfl
theorem CloneByte_any (g o m c : Nat) (xs : List Value) (w : World) (h : Hl) (X : As) (H : Has w h) (hX : X h) (hl : xs.length = m * 1) (hm : m ≤ 1048576) (hcells : ∀ j u, xs[j]? = some u → w.cell? ⟨g, o + j, none⟩ = some u) (hlt : g < w.heap.size) (h1 : ∀ u ∈ xs, u.oneCell' = true) :
    Calls Tryz.prog 141 #[.slice (some ⟨g, o, none⟩) m c] w fun e w' => ∃ v h', e = .returned v ∧ Tr w w' h h' ∧ (rowAs 5 1 v m xs * X) h' := by
  obtain ⟨i0, hi, hz0, hz1, hz2⟩ := info_parts infoByte
  have qT : ∀ (w : World) (a : Option Addr) (n c n' c' : Nat), (binOp .eql 49 (.slice a n c) (.slice none n' c')).run Tryz.prog w = .ok (.bool a.isNone) w := fun w a n c n' c' => Lib.run_eql_slice_nil w _ _ a n c n' c' Tryz.underlying49
  obtain ⟨k1, T1, A1⟩ := (Tr.refl H).allocA hX (.cells #[] 5)
  have R1 : (rowAs 5 1 (.slice (some ⟨w.heap.size, 0, none⟩) 0 0) 0 [] * X) k1 := rowAs_mk rfl (Nat.le_refl _) (by decide) rfl rfl A1
  have hcells' : ∀ j u, xs[j]? = some u → (w.alloc (.cells #[] 5)).cell? ((⟨g, o, none⟩ : Addr).add j) = some u := fun j u hj => by
    rw [Addr.add_lit]
    rw [World.cell?_of_block (w := w) (w' := w.alloc (.cells #[] 5)) (a := ⟨g, o + j, none⟩) (Below.heap_alloc w _ _ hlt)]; exact hcells j u hj
  obtain ⟨v', w', h', hrun, T, hA'⟩ := row_append (P := Tryz.prog) (w := w.alloc (.cells #[] 5)) (ty := 49) T1.has R1 Tryz.underlying49 hi hz0 hz1 rfl ⟨g, o, none⟩ m c xs hl hcells' h1 (by unfold maxLen; omega) (by rw [hz2]; omega)
  obtain ⟨ad, cp, rfl⟩ := rowAs_form hA'
  rw [Nat.zero_add] at hrun hA'
  rw [List.nil_append] at hA'
  clear hcells hcells' h1
  go_enter Tryz.func141, Tryz.ntmps141
  go_wp2_with (at_builtin; refine wpList_append _ _ _ rfl rfl hrun ?_)
  go_ret
  exact ⟨_, h', rfl, T1.trans T, hA'⟩
theorem CloneByte_nil (w : World) : Calls Tryz.prog 141 #[.slice none 0 0] w fun e w' => e = .returned (.slice none 0 0) ∧ w' = w := by
  have qT : ∀ (w : World) (a : Option Addr) (n c n' c' : Nat), (binOp .eql 49 (.slice a n c) (.slice none n' c')).run Tryz.prog w = .ok (.bool a.isNone) w := fun w a n c n' c' => Lib.run_eql_slice_nil w _ _ a n c n' c' Tryz.underlying49
  go_enter Tryz.func141, Tryz.ntmps141
  go_wp2
  go_ret
  exact ⟨rfl, rfl⟩
/-- A clone of an owned row, whatever it is (h: what is read; c: what is owned). -/
theorem CloneByte_row (v : Value) (n : Nat) (xs : List Value) (X Y : As) (hm : n ≤ 1048576) (h1 : ∀ u ∈ xs, u.oneCell' = true) (w : World) (h c : Hl) (H : Has w h) (hA : (rowAs 5 1 v n xs * X) h) (Hc : Has w c) (hY : Y c) :
    Calls Tryz.prog 141 #[v] w fun e w' => ∃ u h', e = .returned u ∧ Tr w w' c h' ∧ (rowAs 5 1 u n xs * Y) h' := by
  obtain ⟨hl, hc⟩ := rowAs_cases hA
  rcases hc with ⟨rfl, rfl, hX⟩ | ⟨g, cap, cur, rfl, hnc, hcm, hcs, htk, hp⟩
  · refine (CloneByte_nil w).mono ?_
    rintro e w' ⟨rfl, rfl⟩
    have hx : xs = [] := List.eq_nil_of_length_eq_zero (by simpa using hl)
    subst hx
    exact ⟨_, c, rfl, Tr.refl Hc, rowAs.nil _ _ _ hY⟩
  · have hg := pts_get H hp
    refine (CloneByte_any g 0 n cap xs w c _ Hc hY hl hm (fun j u hj => by rw [Nat.zero_add]; exact rowAs_cell (cap := cap) hg htk hj) (blk_lt hg) h1).mono ?_
    rintro e w' ⟨u, h', rfl, T, hA'⟩
    exact ⟨u, h', rfl, T, hA'⟩
theorem infoExt : (Tryz.prog.info? 96).map (fun i => (i.zero, i.size, i.bytes)) = some (some (.agg #[.int .i64 0, .int .i64 0]), 2, 16) := by kernel_rfl
theorem CloneExt_any (g o m c : Nat) (xs : List Value) (w : World) (h : Hl) (X : As) (H : Has w h) (hX : X h) (hl : xs.length = m * 2) (hm : m ≤ 1048576) (hcells : ∀ j u, xs[j]? = some u → w.cell? ⟨g, o + j, none⟩ = some u) (hlt : g < w.heap.size) (h1 : ∀ u ∈ xs, u.oneCell' = true) :
    Calls Tryz.prog 195 #[.slice (some ⟨g, o, none⟩) m c] w fun e w' => ∃ v h', e = .returned v ∧ Tr w w' h h' ∧ (rowAs 96 2 v m xs * X) h' := by
  obtain ⟨i0, hi, hz0, hz1, hz2⟩ := info_parts infoExt
  have qT : ∀ (w : World) (a : Option Addr) (n c n' c' : Nat), (binOp .eql 65 (.slice a n c) (.slice none n' c')).run Tryz.prog w = .ok (.bool a.isNone) w := fun w a n c n' c' => Lib.run_eql_slice_nil w _ _ a n c n' c' Tryz.underlying65
  obtain ⟨k1, T1, A1⟩ := (Tr.refl H).allocA hX (.cells #[] 96)
  have R1 : (rowAs 96 2 (.slice (some ⟨w.heap.size, 0, none⟩) 0 0) 0 [] * X) k1 := rowAs_mk rfl (Nat.le_refl _) (by decide) rfl rfl A1
  have hcells' : ∀ j u, xs[j]? = some u → (w.alloc (.cells #[] 96)).cell? ((⟨g, o, none⟩ : Addr).add j) = some u := fun j u hj => by
    rw [Addr.add_lit]
    rw [World.cell?_of_block (w := w) (w' := w.alloc (.cells #[] 96)) (a := ⟨g, o + j, none⟩) (Below.heap_alloc w _ _ hlt)]; exact hcells j u hj
  obtain ⟨v', w', h', hrun, T, hA'⟩ := row_append (P := Tryz.prog) (w := w.alloc (.cells #[] 96)) (ty := 65) T1.has R1 Tryz.underlying65 hi hz0 hz1 rfl ⟨g, o, none⟩ m c xs hl hcells' h1 (by unfold maxLen; omega) (by rw [hz2]; omega)
  obtain ⟨ad, cp, rfl⟩ := rowAs_form hA'
  rw [Nat.zero_add] at hrun hA'
  rw [List.nil_append] at hA'
  clear hcells hcells' h1
  go_enter Tryz.func195, Tryz.ntmps195
  go_wp2_with (at_builtin; refine wpList_append _ _ _ rfl rfl hrun ?_)
  go_ret
  exact ⟨_, h', rfl, T1.trans T, hA'⟩
theorem CloneExt_nil (w : World) : Calls Tryz.prog 195 #[.slice none 0 0] w fun e w' => e = .returned (.slice none 0 0) ∧ w' = w := by
  have qT : ∀ (w : World) (a : Option Addr) (n c n' c' : Nat), (binOp .eql 65 (.slice a n c) (.slice none n' c')).run Tryz.prog w = .ok (.bool a.isNone) w := fun w a n c n' c' => Lib.run_eql_slice_nil w _ _ a n c n' c' Tryz.underlying65
  go_enter Tryz.func195, Tryz.ntmps195
  go_wp2
  go_ret
  exact ⟨rfl, rfl⟩
/-- A clone of an owned row, whatever it is (h: what is read; c: what is owned). -/
theorem CloneExt_row (v : Value) (n : Nat) (xs : List Value) (X Y : As) (hm : n ≤ 1048576) (h1 : ∀ u ∈ xs, u.oneCell' = true) (w : World) (h c : Hl) (H : Has w h) (hA : (rowAs 96 2 v n xs * X) h) (Hc : Has w c) (hY : Y c) :
    Calls Tryz.prog 195 #[v] w fun e w' => ∃ u h', e = .returned u ∧ Tr w w' c h' ∧ (rowAs 96 2 u n xs * Y) h' := by
  obtain ⟨hl, hc⟩ := rowAs_cases hA
  rcases hc with ⟨rfl, rfl, hX⟩ | ⟨g, cap, cur, rfl, hnc, hcm, hcs, htk, hp⟩
  · refine (CloneExt_nil w).mono ?_
    rintro e w' ⟨rfl, rfl⟩
    have hx : xs = [] := List.eq_nil_of_length_eq_zero (by simpa using hl)
    subst hx
    exact ⟨_, c, rfl, Tr.refl Hc, rowAs.nil _ _ _ hY⟩
  · have hg := pts_get H hp
    refine (CloneExt_any g 0 n cap xs w c _ Hc hY hl hm (fun j u hj => by rw [Nat.zero_add]; exact rowAs_cell (cap := cap) hg htk hj) (blk_lt hg) h1).mono ?_
    rintro e w' ⟨u, h', rfl, T, hA'⟩
    exact ⟨u, h', rfl, T, hA'⟩
theorem infoFld : (Tryz.prog.info? 102).map (fun i => (i.zero, i.size, i.bytes)) = some (some (.agg #[.int .i64 0, .int .i64 0]), 2, 16) := by kernel_rfl
theorem CloneFld_any (g o m c : Nat) (xs : List Value) (w : World) (h : Hl) (X : As) (H : Has w h) (hX : X h) (hl : xs.length = m * 2) (hm : m ≤ 1048576) (hcells : ∀ j u, xs[j]? = some u → w.cell? ⟨g, o + j, none⟩ = some u) (hlt : g < w.heap.size) (h1 : ∀ u ∈ xs, u.oneCell' = true) :
    Calls Tryz.prog 178 #[.slice (some ⟨g, o, none⟩) m c] w fun e w' => ∃ v h', e = .returned v ∧ Tr w w' h h' ∧ (rowAs 102 2 v m xs * X) h' := by
  obtain ⟨i0, hi, hz0, hz1, hz2⟩ := info_parts infoFld
  have qT : ∀ (w : World) (a : Option Addr) (n c n' c' : Nat), (binOp .eql 25 (.slice a n c) (.slice none n' c')).run Tryz.prog w = .ok (.bool a.isNone) w := fun w a n c n' c' => Lib.run_eql_slice_nil w _ _ a n c n' c' Tryz.underlying25
  obtain ⟨k1, T1, A1⟩ := (Tr.refl H).allocA hX (.cells #[] 102)
  have R1 : (rowAs 102 2 (.slice (some ⟨w.heap.size, 0, none⟩) 0 0) 0 [] * X) k1 := rowAs_mk rfl (Nat.le_refl _) (by decide) rfl rfl A1
  have hcells' : ∀ j u, xs[j]? = some u → (w.alloc (.cells #[] 102)).cell? ((⟨g, o, none⟩ : Addr).add j) = some u := fun j u hj => by
    rw [Addr.add_lit]
    rw [World.cell?_of_block (w := w) (w' := w.alloc (.cells #[] 102)) (a := ⟨g, o + j, none⟩) (Below.heap_alloc w _ _ hlt)]; exact hcells j u hj
  obtain ⟨v', w', h', hrun, T, hA'⟩ := row_append (P := Tryz.prog) (w := w.alloc (.cells #[] 102)) (ty := 25) T1.has R1 Tryz.underlying25 hi hz0 hz1 rfl ⟨g, o, none⟩ m c xs hl hcells' h1 (by unfold maxLen; omega) (by rw [hz2]; omega)
  obtain ⟨ad, cp, rfl⟩ := rowAs_form hA'
  rw [Nat.zero_add] at hrun hA'
  rw [List.nil_append] at hA'
  clear hcells hcells' h1
  go_enter Tryz.func178, Tryz.ntmps178
  go_wp2_with (at_builtin; refine wpList_append _ _ _ rfl rfl hrun ?_)
  go_ret
  exact ⟨_, h', rfl, T1.trans T, hA'⟩
theorem CloneFld_nil (w : World) : Calls Tryz.prog 178 #[.slice none 0 0] w fun e w' => e = .returned (.slice none 0 0) ∧ w' = w := by
  have qT : ∀ (w : World) (a : Option Addr) (n c n' c' : Nat), (binOp .eql 25 (.slice a n c) (.slice none n' c')).run Tryz.prog w = .ok (.bool a.isNone) w := fun w a n c n' c' => Lib.run_eql_slice_nil w _ _ a n c n' c' Tryz.underlying25
  go_enter Tryz.func178, Tryz.ntmps178
  go_wp2
  go_ret
  exact ⟨rfl, rfl⟩
/-- A clone of an owned row, whatever it is (h: what is read; c: what is owned). -/
theorem CloneFld_row (v : Value) (n : Nat) (xs : List Value) (X Y : As) (hm : n ≤ 1048576) (h1 : ∀ u ∈ xs, u.oneCell' = true) (w : World) (h c : Hl) (H : Has w h) (hA : (rowAs 102 2 v n xs * X) h) (Hc : Has w c) (hY : Y c) :
    Calls Tryz.prog 178 #[v] w fun e w' => ∃ u h', e = .returned u ∧ Tr w w' c h' ∧ (rowAs 102 2 u n xs * Y) h' := by
  obtain ⟨hl, hc⟩ := rowAs_cases hA
  rcases hc with ⟨rfl, rfl, hX⟩ | ⟨g, cap, cur, rfl, hnc, hcm, hcs, htk, hp⟩
  · refine (CloneFld_nil w).mono ?_
    rintro e w' ⟨rfl, rfl⟩
    have hx : xs = [] := List.eq_nil_of_length_eq_zero (by simpa using hl)
    subst hx
    exact ⟨_, c, rfl, Tr.refl Hc, rowAs.nil _ _ _ hY⟩
  · have hg := pts_get H hp
    refine (CloneFld_any g 0 n cap xs w c _ Hc hY hl hm (fun j u hj => by rw [Nat.zero_add]; exact rowAs_cell (cap := cap) hg htk hj) (blk_lt hg) h1).mono ?_
    rintro e w' ⟨u, h', rfl, T, hA'⟩
    exact ⟨u, h', rfl, T, hA'⟩
end Go.Proofs.YthnfiejdkhejlaaGreat
/- pool.All, slices.AppendSeq, slices.Collect: contracts. -/
namespace Go.Proofs.YthnfiejdkhejlaaGreat
open Go.RowKit Go.Sl Go.Shelf
attribute [local go_sem] Oper.semAt_some
def boxP (bx : Nat) (bp : Nat) : As := pts bx (.cells #[.pointer (some ⟨bp, 0, none⟩)] 263 (0,0))
theorem row_drop {e : TypeId} {sz : Nat} {v : Value} {n : Nat} {xs : List Value} {X : As} {w W : World} {h h' : Hl} (hr : (rowAs e sz v n xs * X) h') (t : Tr w W h h') : ∃ y, X y ∧ Tr w W h y := by
  rcases (rowAs_cases hr).2 with ⟨_, _, hx⟩ | ⟨g, cap, cur, _, _, _, _, _, hp⟩
  · exact ⟨h', hx, t⟩
  · obtain ⟨y, hy, e, _⟩ := pts_drop hp
    exact ⟨y, hy, t.drop e⟩
theorem row_cell {e : TypeId} {sz : Nat} {v : Value} {n : Nat} {xs : List Value} {X : As} {w : World} {h : Hl} (H : Has w h) (hr : (rowAs e sz v n xs * X) h) {j : Nat} {u : Value} (hu : xs[j]? = some u) :
    ∃ g cap, v = .slice (some ⟨g, 0, none⟩) n cap ∧ w.cell? ⟨g, j, none⟩ = some u := by
  obtain ⟨hl, hc⟩ := rowAs_cases hr
  rcases hc with ⟨_, rfl, hx⟩ | ⟨g, cap, cur, rfl, _, _, _, htk, hp⟩
  · have := (List.getElem?_eq_some_iff.1 hu).1; omega
  · exact ⟨g, cap, rfl, rowAs_cell (cap := cap) (pts_get H hp) htk hu⟩
theorem PoolAll1_it (bx bp : Nat) (l : List Int) (hm : l.length ≤ 1048576) : It Tryz.prog 220 #[.pointer (some ⟨bx, 0, none⟩)] (Pool bp l) (boxP bx bp) (boxP bx bp) l (fun x => #[iv x]) := by
  intro ll J Jx hY w h R H hJ hT c hc Hc
  obtain ⟨x, y, d, rfl, ⟨v, hv⟩, hR⟩ := hT
  have Hx : Has w x := H.unL
  have hb := pts_get Hx hv
  have hclone := CloneInt_row v l.length (l.map iv) _ (boxP bx bp * Only (x.un y)) hm (by simp [iv, Value.oneCell']) w x c Hx (cm hv) Hc hc
  have hx := pts_get Hc hc
  obtain ⟨ad, cp, hvf⟩ := rowAs_form (cm hv)
  have cx := blk_cell hx 0
  have cb := blk_cell hb 0
  subst hvf
  (refine callsIn_of_wp Tryz.func220 rfl trivial ?_ rfl; simp only [Tryz.ntmps220, List.size_toArray, List.length_cons, List.length_nil, Nat.reduceAdd, Nat.reduceSub, Array.replicate_succ, Array.replicate_zero, List.push_toArray, List.append_toArray, List.nil_append, List.cons_append])
  gi_wp2_with (first | (refine ⟨trivial, ?_⟩; gi_at_call 221; refine (callsIn_wide.2 hclone).mono ?_; clear hclone; rintro e w1 ⟨u, c1, rfl, T1, A1⟩; obtain ⟨ad1, cp1, rfl⟩ := rowAs_form A1))
  have A2 : (rowAs 3 1 (.slice ad1 l.length cp1) l.length (l.map iv) * (boxP bx bp * J [])) c1 := As.monoR (fun z hz => As.monoR (fun z hz => by cases hz; exact hJ) hz) A1
  gi_loopw [13] (fun i wr => ∃ k : Nat, k ≤ l.length ∧ i = .int .i64 k ∧ ∃ h', Tr w wr c h' ∧ (rowAs 3 1 (.slice ad1 l.length cp1) l.length (l.map iv) * (boxP bx bp * J (l.take k))) h') (fun i wr => l.length - (intOf i).toNat)
  case atStart => exact ⟨0, by omega, rfl, c1, T1, A2⟩
  case round =>
    obtain ⟨k, hk, rfl, h', T2, A3⟩ := hrel
    by_cases hkl : k = l.length
    · subst hkl
      gi_wp2
      go_end0
      refine ⟨⟨_, rfl⟩, ?_⟩
      rw [List.take_length] at A3
      obtain ⟨z, hz, ht⟩ := row_drop A3 T2
      exact ⟨z, ht, .inl hz⟩
    · have hk3 : k < l.length := by omega
      have hxs : l = l.take k ++ l[k] :: l.drop (k + 1) := by rw [← List.drop_eq_getElem_cons hk3, List.take_append_drop]
      have hcell := row_cell T2.has A3 (j := k) (u := iv l[k]) (by simp [hk3])
      obtain ⟨gg, cp2, hcc, hcell⟩ := hcell
      cases hcc
      obtain ⟨fn, tmps, assign, body, hy, hR⟩ := ((hY _ _ _ hxs).frame (rowAs 3 1 (.slice (some ⟨gg, 0, none⟩) l.length cp1) l.length (l.map iv) * boxP bx bp)) wr h' T2.has (by rw [As.comm, As.assoc]; exact A3)
      have htk : l.take (k + 1) = l.take k ++ [l[k]] := List.take_succ_eq_append_getElem hk3
      obtain ⟨xk, hxk⟩ : ∃ xk, l[k] = xk := ⟨_, rfl⟩
      rw [hxk] at hy hR hcell
      have HX := Lib.hid hxs; have HT := Lib.hid htk; clear hxs htk
      gi_wp2
      refine hR.mono ?_
      rintro e W3 ⟨h3, T3, (⟨rfl, hJ3⟩ | ⟨rfl, hJx3⟩)⟩
      · have hw1 := w64 ((k : Int) + 1) (by omega)
        gi_wp2
        go_roundw
        case rel =>
          refine ⟨k + 1, by omega, rfl, h3, T2.trans T3, ?_⟩
          rw [HT.out, hxk]
          rw [As.comm, As.assoc] at hJ3
          exact l3 (l3 (l3 hJ3))
        case measure => simp [intOf]; omega
      · gi_wp2
        refine bodyPost_ret (results_none rfl _ _ _) rfl ?_
        refine ⟨⟨_, rfl⟩, ?_⟩
        rw [As.comm, As.assoc] at hJx3
        obtain ⟨z, hz, ht⟩ := row_drop hJx3 (T2.trans T3)
        refine ⟨z, ht, .inr ⟨_, _, _, HX.out, ?_⟩⟩
        rw [hxk]; exact hz
theorem PoolAll_any (bp : Nat) (w : World) (h : Hl) (X : As) (H : Has w h) (hX : X h) :
    Calls Tryz.prog 197 #[.pointer (some ⟨bp, 0, none⟩)] w fun e w' => ∃ bx h', e = .returned (.func (.func 220) #[] #[.pointer (some ⟨bx, 0, none⟩)]) ∧ Tr w w' h h' ∧ (boxP bx bp * X) h' := by
  obtain ⟨k, T, A⟩ := (Tr.refl H).allocA hX (.cells #[.pointer (some ⟨bp, 0, none⟩)] 263)
  have HP := Lib.hid (show ∃ bx h', Ending.returned (.func (.func 220) #[] #[.pointer (some ⟨w.heap.size, 0, none⟩)]) = .returned (.func (.func 220) #[] #[.pointer (some ⟨bx, 0, none⟩)]) ∧ Tr w _ h h' ∧ (boxP bx bp * X) h' from ⟨_, k, rfl, T, A⟩)
  clear T A
  go_enter Tryz.func197, Tryz.ntmps197
  go_wp2
  go_ret
  exact HP.out
/-- What slices.AppendSeq owns: the variable, and the row. -/
def seqAs (b : Nat) (l : List Int) (X : As) : As := fun h => ∃ v, (pts b (.cells #[v] 67 (0,0)) * (rowAs 3 1 v l.length (l.map iv) * X)) h
theorem AppendSeq_any {gf : Nat} {lb : Array Value} {T C C' : As} {l : List Int} (hit : It Tryz.prog gf lb T C C' l (fun x => #[iv x])) (eg : ∀ args w, (callFunc gf args).run Tryz.prog w = .ok (.enter gf args) w) (hm : l.length ≤ 1048576)
    (w : World) (h : Hl) (X : As) (H : Has w h) (hX : (C * X) h) (hT : ∀ k, X k → ∃ R, (T * R) k) :
    Calls Tryz.prog 219 #[.slice none 0 0, .func (.func gf) #[] lb] w fun e w' => ∃ v h', e = .returned v ∧ Tr w w' h h' ∧ (rowAs 3 1 v l.length (l.map iv) * (C' * X)) h' := by
  refine (callsIn_wide (n := 9)).1 ?_
  obtain ⟨h1, T1, A1⟩ := (Tr.refl H).allocA hX (.cells #[.slice none 0 0] 67)
  have HT := Lib.hid T1; have HA := Lib.hid A1; have HI := Lib.hid hT
  clear T1 A1 hT
  obtain ⟨i0, hi, hz0, hz1, hz2⟩ := info_parts info_int
  (refine callsIn_of_wp_marks Tryz.func219 rfl trivial ?_ rfl; simp only [Tryz.ntmps219, List.size_toArray, List.length_cons, List.length_nil, Nat.reduceAdd, Nat.reduceSub, Array.replicate_succ, Array.replicate_zero, List.push_toArray, List.append_toArray, List.nil_append, List.cons_append])
  gi_wp2
  have T1 := HT.out
  have A1 := HA.out
  generalize w.alloc (.cells #[.slice none 0 0] 67) = W0 at *
  generalize w.heap.size = b at *
  refine wpIn_range (gf := gf) (lb := lb) rfl eg (encs := fun x => #[iv x]) (fun _ => rfl) hit
    (fun pre => seqAs b pre X) (fun _ _ _ => False)
    (fun pre x a' k => a' = { tmps := #[.slice none 0 0, .func (.func gf) #[] lb, .pointer (some ⟨b, 0, none⟩), undef, .slice none 0 0, iv x, .func (.func gf) #[] lb, iv x, undef, undef, undef, undef, undef], defers := [] } ∧ seqAs b pre X k)
    T1.has ?start ?look ?assign ?body ?done ?stop
  case start =>
    obtain ⟨x, y, d, rfl, hx, p, q, d', rfl, hp, hq⟩ := A1
    have A1 : (pts b (.cells #[.slice none 0 0] 67 (0,0)) * (C * X)) (x.un (p.un q)) := ⟨x, _, d, rfl, hx, p, q, d', rfl, hp, hq⟩
    obtain ⟨u, v, d2, e, hu, hv⟩ := br2 A1
    rw [e]
    refine ⟨u, v, d2, rfl, hu, .slice none 0 0, ?_⟩
    exact As.monoR (fun z hz => rowAs.nil _ _ _ hz) hv
  case look =>
    rintro k ⟨v, hk⟩
    obtain ⟨u, v', d2, rfl, hu, p, q, d', rfl, hp, hq⟩ := hk
    obtain ⟨R, hR⟩ := HI.out q hq
    exact ⟨_, br3 (⟨u, _, d2, rfl, hu, p, q, d', rfl, hp, hR⟩ : (pts b _ * (rowAs 3 1 v 0 [] * (T * R))) _)⟩
  case assign =>
    rintro ll pre x rest W k hx Hk hk
    gi_wp2
    exact ⟨k, Tr.refl Hk, by simp, hk⟩
  case body =>
    rintro ll pre x rest a' W k hx Hk ⟨rfl, v, hk⟩
    have hlen : pre.length < l.length := by rw [hx]; simp
    have hb := pts_get Hk hk
    have B := (Below.refl W.heap.size W).al (.cells #[iv x] 3)
    obtain ⟨v', w', h', hrun, T2, hA'⟩ := row_append (P := Tryz.prog) (w := W.alloc (.cells #[iv x] 3)) (ty := 67) (Hk.below B) (br2 hk) Tryz.underlying67 hi hz0 hz1 rfl ⟨W.heap.size, 0, none⟩ 1 1 [iv x] rfl (cell_one_new _ _ _) (by simp [iv, Value.oneCell']) (by unfold maxLen; omega) (by rw [hz2]; omega)
    obtain ⟨ad, cp, rfl⟩ := rowAs_form hA'
    have hlts := lts (blk_lt hb)
    have c0 := blk_cell hb 0
    have hA2 := br2 hA'
    have hb' := T2.has _ _ (pts_at hA2)
    obtain ⟨k3, T3, A3⟩ := ((Tr.of_below Hk B).trans T2).setA hA2 0 (.slice ad (pre.length + 1) cp)
    have c0' := blk_cell hb' 0
    have f0' := blk_free hb' 0
    have HX := Lib.hid hx; have HA := Lib.hid A3; have HT3 := Lib.hid T3
    clear hx A3 T3 hA2 hA' hk
    simp only [iv] at hrun ⊢
    gi_wp2_with (gi_at_builtin; refine wpListIn_append (fun _ => trivial) _ _ _ rfl rfl hrun ?_)
    show ∃ h', Tr W _ k h' ∧ seqAs b (pre ++ [x]) X h'
    refine ⟨k3, HT3.out, .slice ad (pre.length + 1) cp, ?_⟩
    rw [List.length_append, List.map_append]
    exact HA.out
  case done =>
    rintro D W k hD t hk
    obtain ⟨x, y, d, rfl, hx, p, q, d', rfl, hp, v, hq⟩ := hk
    have hk : (pts D (.deferred (some [])) * (C' * (pts b (.cells #[v] 67 (0,0)) * (rowAs 3 1 v l.length (l.map iv) * X)))) (x.un (p.un q)) := ⟨x, _, d, rfl, hx, p, q, d', rfl, hp, hq⟩
    have hb := pts_get t.has (br3 hk)
    have c0 := blk_cell hb 0
    have K0 := pts_get t.has hk
    have HT3 := Lib.hid (t.shut hk)
    clear t hk hp hq
    gi_wp2
    have HT4 := HT3.out
    obtain ⟨k', t', hk'⟩ := HT4
    obtain ⟨y', hy', e1, _⟩ := pts_drop (br2 hk')
    refine postM_mark rfl K0 (results_tmp rfl _ _ _) ⟨_, y', rfl, (HT.out.trans t').drop e1, ?_⟩
    exact br2 hy'
  case stop =>
    rintro D c pre x rest W k hD hx t hk
    obtain ⟨x, y, d, rfl, hx, p, q, d', rfl, hp, hq⟩ := hk
    exact hq.elim
theorem Collect_any {gf : Nat} {lb : Array Value} {T C C' : As} {l : List Int} (hit : It Tryz.prog gf lb T C C' l (fun x => #[iv x])) (eg : ∀ args w, (callFunc gf args).run Tryz.prog w = .ok (.enter gf args) w) (hm : l.length ≤ 1048576)
    (w : World) (h : Hl) (X : As) (H : Has w h) (hX : (C * X) h) (hT : ∀ k, X k → ∃ R, (T * R) k) :
    Calls Tryz.prog 196 #[.func (.func gf) #[] lb] w fun e w' => ∃ v h', e = .returned v ∧ Tr w w' h h' ∧ (rowAs 3 1 v l.length (l.map iv) * (C' * X)) h' := by
  have hc := AppendSeq_any hit eg hm w h X H hX hT
  go_enter Tryz.func196, Tryz.ntmps196
  go_wp2_with (first | (go_at_call 219; refine hc.mono ?_; clear hc; rintro e w1 ⟨v, h', rfl, T1, A1⟩))
  go_ret
  exact ⟨_, h', rfl, T1, A1⟩
theorem SlotsPool_sp (bs : Nat) (s : Slots) (hm : s.free.length ≤ 1048576) :
    Sp Tryz.prog 163 #[.pointer (some ⟨bs, 0, none⟩)] (s.as bs) fun v h => (rowAs 3 1 v s.free.length (s.free.map iv) * s.as bs) h := by
  rintro w h H ⟨v, bp, hA⟩
  have hb := pts_get H hA
  have hall := PoolAll_any bp w h _ H hA
  have c2 := blk_cell hb 2
  have hcol := fun bx (w : World) (h : Hl) (X : As) H hX hT => Collect_any (PoolAll1_it bx bp s.free hm) (enters_of Tryz.func220 (by kernel_rfl) rfl) hm w h X H hX hT
  go_enter Tryz.func163, Tryz.ntmps163
  go_wp2_with (first | (go_at_call 197; refine hall.mono ?_; clear hall; rintro e w1 ⟨bx, h1, rfl, T1, A1⟩) |
    (go_at_call 196; refine (hcol bx _ _ _ T1.has A1 (fun k hk => ⟨_, l3 hk⟩)).mono ?_; clear hcol; rintro e w2 ⟨u, h2, rfl, T2, A2⟩))
  go_ret
  obtain ⟨x, y, d, rfl, hx, p, q, d', rfl, hp, hq⟩ := A2
  obtain ⟨z, hz, e1, _⟩ := pts_drop (br2 (⟨x, _, d, rfl, hx, p, q, d', rfl, hp, hq⟩ : (rowAs 3 1 u s.free.length (s.free.map iv) * (boxP bx bp * _)) (x.un (p.un q))))
  refine ⟨_, z, rfl, (T1.trans T2).drop e1, ?_⟩
  exact As.monoR (fun k hk => ⟨v, bp, hk⟩) hz
end Go.Proofs.YthnfiejdkhejlaaGreat
/- A walk's state in one word: from the world w (owning h) the walk has come to W, and owns A. No program in sight. -/
namespace Go.Sl
open Go.RowKit Go.Proofs.YthnfiejdkhejlaaGreat
def St (w : World) (h : Hl) (W : World) (A : As) : Prop := ∃ k, Tr w W h k ∧ A k
section
variable {w W : World} {h : Hl} {A B C D E X : As} {P : Program}
theorem St.start (H : Has w h) (a : A h) : St w h w A := ⟨h, Tr.refl H, a⟩
theorem St.to (s : St w h W A) (e : ∀ k, A k → B k) : St w h W B := by obtain ⟨k, t, a⟩ := s; exact ⟨k, t, e k a⟩
theorem St.eq (s : St w h W A) (e : A = B) : St w h W B := e ▸ s
theorem St.skip (s : St w h W A) (o : Obj) : St w h (W.alloc o) A := by obtain ⟨k, t, a⟩ := s; exact ⟨k, t.alloc o, a⟩
theorem St.alloc (s : St w h W A) (o : Obj) : St w h (W.alloc o) (pts W.heap.size o * A) := by obtain ⟨k, t, a⟩ := s; exact t.allocA a o
theorem St.below {W' : World} (s : St w h W A) (b : Below W.heap.size W W') : St w h W' A := by obtain ⟨k, t, a⟩ := s; exact ⟨k, t.belowStep b, a⟩
theorem St.drew (s : St w h W A) : St w h W.drew A := by obtain ⟨k, t, a⟩ := s; exact ⟨k, t.drew, a⟩
theorem St.drewN (s : St w h W A) (n : Nat) : St w h (W.drewN n) A := by obtain ⟨k, t, a⟩ := s; exact ⟨k, t.drewN n, a⟩
theorem St.set {b : Nat} {cs : Array Value} {T : TypeId} {fz : Nat × Nat} (s : St w h W (pts b (.cells cs T fz) * X)) (i : Nat) (v : Value) :
    St w h (W.setCell ⟨b, i, none⟩ v) (pts b (.cells (cs.setIfInBounds i v) T fz) * X) := by obtain ⟨k, t, a⟩ := s; exact t.setA a i v
theorem St.put {b : Nat} {o : Obj} (s : St w h W (pts b o * X)) (o' : Obj) : St w h (W.putObj b o') (pts b o' * X) := by obtain ⟨k, t, a⟩ := s; exact ⟨_, t.putOwn (pts_at a) o', pts_set _ a⟩
theorem St.blk {b : Nat} {o : Obj} (s : St w h W (pts b o * X)) : W.heap[b]? = some o := by obtain ⟨k, t, a⟩ := s; exact pts_get t.has a
theorem St.blk1 {b : Nat} {o : Obj} (s : St w h W (pts b o)) : W.heap[b]? = some o := by obtain ⟨k, t, a⟩ := s; exact pts_get1 t.has a
theorem St.ne {b c : Nat} {o o' : Obj} (s : St w h W (pts b o * (pts c o' * X))) : b ≠ c := by obtain ⟨k, t, a⟩ := s; exact pts_ne a
theorem St.drop {b : Nat} {o : Obj} (s : St w h W (pts b o * X)) : St w h W X := by
  obtain ⟨k, t, a⟩ := s; obtain ⟨y, hy, e, _⟩ := pts_drop a; exact ⟨y, t.drop e, hy⟩
theorem St.dropRow {e : TypeId} {sz n : Nat} {v : Value} {xs : List Value} (s : St w h W (rowAs e sz v n xs * X)) : St w h W X := by
  obtain ⟨k, t, a⟩ := s; obtain ⟨y, hy, t'⟩ := row_drop a t; exact ⟨y, t', hy⟩
theorem St.nil (s : St w h W X) (e : TypeId) (sz : Nat) : St w h W (rowAs e sz (.slice none 0 0) 0 [] * X) := s.to fun _ a => rowAs.nil e sz X a
theorem St.form {e : TypeId} {sz n : Nat} {v : Value} {xs : List Value} (s : St w h W (rowAs e sz v n xs * X)) : ∃ ad cp, v = .slice ad n cp := by obtain ⟨k, t, a⟩ := s; exact rowAs_form a
theorem St.rowCell {e : TypeId} {sz n : Nat} {v : Value} {xs : List Value} (s : St w h W (rowAs e sz v n xs * X)) {j : Nat} {u : Value} (hu : xs[j]? = some u) :
    ∃ g cap, v = .slice (some ⟨g, 0, none⟩) n cap ∧ W.cell? ⟨g, j, none⟩ = some u := by obtain ⟨k, t, a⟩ := s; exact row_cell t.has a hu
/-- Rotations: the part named is brought to the front. -/
theorem St.cm (s : St w h W (A * B)) : St w h W (B * A) := s.to fun _ => Sl.cm
theorem St.b2 (s : St w h W (A * (B * C))) : St w h W (B * (A * C)) := s.to fun _ => br2
theorem St.b3 (s : St w h W (A * (B * (C * D)))) : St w h W (C * (A * (B * D))) := s.to fun _ => br3
theorem St.b4 (s : St w h W (A * (B * (C * (D * E))))) : St w h W (D * (A * (B * (C * E)))) := s.to fun _ => br4
theorem St.l2 (s : St w h W (A * (B * C))) : St w h W (C * (A * B)) := s.to fun _ => l3
theorem St.as (s : St w h W ((A * B) * C)) : St w h W (A * (B * C)) := s.eq (As.assoc A B C)
theorem St.sa (s : St w h W (A * (B * C))) : St w h W ((A * B) * C) := s.eq (As.assoc A B C).symm
theorem St.m1 (s : St w h W (A * 1)) : St w h W A := s.eq (As.mul_one A)
theorem St.one (s : St w h W A) : St w h W (A * 1) := s.eq (As.mul_one A).symm
theorem St.mL (s : St w h W (A * X)) (e : ∀ k, A k → B k) : St w h W (B * X) := s.to fun _ => As.monoL e
theorem St.ex {α : Sort _} {F : α → As} (s : St w h W (As.ex F * X)) : ∃ x, St w h W (F x * X) := by
  obtain ⟨k, t, a⟩ := s; obtain ⟨x, hx⟩ := (As.ex_mul F X k).1 a; exact ⟨x, k, t, hx⟩
theorem St.ex0 {α : Sort _} {F : α → As} (s : St w h W (As.ex F)) : ∃ x, St w h W (F x) := by
  obtain ⟨k, t, x, hx⟩ := s; exact ⟨x, k, t, hx⟩
theorem St.an {p : Prop} (s : St w h W (As.and p A * X)) : p ∧ St w h W (A * X) := by
  obtain ⟨k, t, a⟩ := s; obtain ⟨hp, hx⟩ := (As.and_mul p A X k).1 a; exact ⟨hp, k, t, hx⟩
theorem St.an0 {p : Prop} (s : St w h W (As.and p A)) : p ∧ St w h W A := by
  obtain ⟨k, t, hp, a⟩ := s; exact ⟨hp, k, t, a⟩
theorem St.exI {α : Sort _} {F : α → As} (x : α) (s : St w h W (F x * X)) : St w h W (As.ex F * X) := s.mL fun _ a => ⟨x, a⟩
theorem St.below_all (s : St w h W A) (hn : h = Hl.emp) : Below w.heap.size w W := by obtain ⟨k, t, _⟩ := s; exact t.below (Nat.le_refl _) (fun i _ => by rw [hn]; rfl)
/-- A contract over an owned part, met in a walk's state. -/
theorem Sp.st {f : FuncId} {args : Array Value} {R : Value → As} (c : Sp P f args A R) (s : St w h W (A * X)) : Calls P f args W fun e w' => ∃ v, e = .returned v ∧ St w h w' (R v * X) := by
  obtain ⟨k, t, a⟩ := s
  exact (c.frame X W k t.has a).mono fun _ _ ⟨v, k', e, t', r⟩ => ⟨v, e, k', t.trans t', r⟩
theorem Rd.st {f : FuncId} {args : Array Value} {v : Value} (c : Rd P f args A v) (s : St w h W (A * X)) : Calls P f args W fun e w' => e = .returned v ∧ Below W.heap.size W w' := by
  obtain ⟨k, t, x, y, d, rfl, hx, hy⟩ := s
  exact c W x t.has.unL hx
theorem Rd.st' {f : FuncId} {args : Array Value} {v : Value} (c : Rd P f args A v) (s : St w h W (A * X)) : Calls P f args W fun e w' => e = .returned v ∧ St w h w' (A * X) :=
  (c.st s).mono fun _ _ ⟨e, b⟩ => ⟨e, s.below b⟩
/-- A contract for a state from a contract for a world. -/
theorem St.open (s : St w h W A) : ∃ k, Has W k ∧ A k ∧ ∀ {W' : World} {k' : Hl} {B : As}, Tr W W' k k' → B k' → St w h W' B := by
  obtain ⟨k, t, a⟩ := s; exact ⟨k, t.has, a, fun t' b => ⟨_, t.trans t', b⟩⟩
theorem St.append {t ty e : TypeId} {i : TypeInfo} {z : Value} {sz n : Nat} {v : Value} {xs : List Value} (s : St w h W (rowAs e sz v n xs * X))
    (ht : P.underlying t = some (.slice e)) (hi : P.info? e = some i) (hz : i.zero = some z) (hsize : i.size = sz) (hzs : z.cells.size = sz)
    (a : Addr) (m c : Nat) (news : List Value) (hl : news.length = m * sz) (hnews : ∀ j u, news[j]? = some u → W.cell? (a.add j) = some u) (h1 : ∀ u ∈ news, u.oneCell' = true)
    (h63 : n + m ≤ maxLen) (hbytes : (n + m) * i.bytes ≤ 140737488355328) :
    ∃ ad cp w', (Builtin.append_ #[t, t] ty #[v, .slice (some a) m c]).run P W = .ok (.slice ad (n + m) cp) w' ∧ St w h w' (rowAs e sz (.slice ad (n + m) cp) (n + m) (xs ++ news) * X) := by
  obtain ⟨k, t, hr⟩ := s
  obtain ⟨v', w', h', hrun, t', a'⟩ := row_append (P := P) (ty := ty) t.has hr ht hi hz hsize hzs a m c news hl hnews h1 h63 hbytes
  obtain ⟨ad, cp, rfl⟩ := rowAs_form a'
  exact ⟨ad, cp, w', hrun, h', t.trans t', a'⟩
theorem St.sp {f : FuncId} {args : Array Value} {R : Value → As} (c : ∀ {w : World} {h : Hl} {W : World} {X : As}, St w h W (A * X) → Calls P f args W fun e w' => ∃ v, e = .returned v ∧ St w h w' (R v * X)) : Sp P f args A R := fun w h H a =>
  (c (X := 1) (St.start H (by rw [As.mul_one]; exact a))).mono fun _ _ ⟨v, e, s⟩ => by
    obtain ⟨k, t, r⟩ := s.m1
    exact ⟨v, k, e, t, r⟩
end
end Go.Sl
namespace Go.Sl
open Go.RowKit Go.Proofs.YthnfiejdkhejlaaGreat
/-- What a slice reads: n elements of sz cells each, from wherever it lies. -/
def Rv (W : World) (sz : Nat) (v : Value) (n : Nat) (xs : List Value) : Prop :=
  xs.length = n * sz ∧ ((v = .slice none 0 0 ∧ n = 0) ∨ ∃ g o cap, v = .slice (some ⟨g, o, none⟩) n cap ∧ n ≤ cap ∧ cap ≤ maxLen ∧ g < W.heap.size ∧ ∀ j u, xs[j]? = some u → W.cell? ⟨g, o + j, none⟩ = some u)
theorem Rv.form {W : World} {sz n : Nat} {v : Value} {xs : List Value} (r : Rv W sz v n xs) : ∃ ad cp, v = .slice ad n cp := by
  rcases r.2 with ⟨rfl, rfl⟩ | ⟨g, o, cap, rfl, _⟩
  · exact ⟨_, _, rfl⟩
  · exact ⟨_, _, rfl⟩
theorem Rv.below {W W' : World} {sz n : Nat} {v : Value} {xs : List Value} (r : Rv W sz v n xs) (b : Below W.heap.size W W') : Rv W' sz v n xs := by
  refine ⟨r.1, ?_⟩
  rcases r.2 with h | ⟨g, o, cap, rfl, h1, h2, h3, h4⟩
  · exact .inl h
  · exact .inr ⟨g, o, cap, rfl, h1, h2, Nat.lt_of_lt_of_le h3 b.size, fun j u hj => (b.cell (p := ⟨g, o + j, none⟩) h3).trans (h4 j u hj)⟩
theorem Rv.cell {W : World} {sz n : Nat} {ad : Option Addr} {m cp : Nat} {xs : List Value} (r : Rv W sz (.slice ad m cp) n xs) {j : Nat} {u : Value} (hu : xs[j]? = some u) : ∃ g o, ad = some ⟨g, o, none⟩ ∧ W.cell? ⟨g, o + j, none⟩ = some u := by
  rcases r.2 with ⟨h, rfl⟩ | ⟨g, o, cap, h, h1, h2, h3, h4⟩
  · have := (List.getElem?_eq_some_iff.1 hu).1; rw [r.1] at this; omega
  · cases h; exact ⟨g, o, rfl, h4 j u hu⟩
theorem St.rv {w W : World} {h : Hl} {X : As} {e : TypeId} {sz n : Nat} {v : Value} {xs : List Value} (s : St w h W (rowAs e sz v n xs * X)) : Rv W sz v n xs := by
  obtain ⟨k, t, a⟩ := s
  obtain ⟨hl, hc⟩ := rowAs_cases a
  refine ⟨hl, ?_⟩
  rcases hc with ⟨rfl, rfl, _⟩ | ⟨g, cap, cur, rfl, h1, h2, h3, htk, hp⟩
  · exact .inl ⟨rfl, rfl⟩
  · have hg := pts_get t.has hp
    exact .inr ⟨g, 0, cap, rfl, h1, h2, blk_lt hg, fun j u hj => by rw [Nat.zero_add]; exact rowAs_cell (cap := cap) hg htk hj⟩
/-- An element of two cells. -/
theorem Rv.two {α : Type} {enc : α → List Value} {W : World} {ad : Option Addr} {m cp : Nat} {l : List α} (r : Rv W 2 (.slice ad m cp) l.length (l.flatMap enc)) (he : ∀ x, (enc x).length = 2) {k : Nat} (hk : k < l.length) {x0 x1 : Value} (hx : enc l[k] = [x0, x1]) :
    ∃ g o, ad = some ⟨g, o, none⟩ ∧ W.cell? ⟨g, o + k * 2, none⟩ = some x0 ∧ W.cell? ⟨g, o + k * 2 + 1, none⟩ = some x1 := by
  obtain ⟨g, o, rfl, h0⟩ := r.cell (j := k * 2 + 0) (u := x0) (by rw [flat_get he (by decide) l k, List.getElem?_eq_getElem hk]; simp [hx])
  obtain ⟨g', o', h, h1⟩ := r.cell (j := k * 2 + 1) (u := x1) (by rw [flat_get he (by decide) l k, List.getElem?_eq_getElem hk]; simp [hx])
  cases h
  exact ⟨g, o, rfl, h0, by rw [Nat.add_assoc]; exact h1⟩
theorem cellB {W W' : World} (B : Below W.heap.size W W') {a : Addr} {u : Value} (h : W.cell? a = some u) : W'.cell? a = some u := (World.cell?_of_block (B.block _ (cell_lt h))).trans h
theorem blkB {W W' : World} (B : Below W.heap.size W W') {b : Nat} {o : Obj} (h : W.heap[b]? = some o) : W'.heap[b]? = some o := (B.block _ (blk_lt h)).trans h
end Go.Sl
/- A region that draws its order, walked in ONE chosen order: operations that yield whatever the world (kind 0), operations that read under a fact S on the world (kind 1), operations that act (kind 2; kind 3 where S is shown again behind them). No program in sight. -/
namespace Go.Sl
open Go.RowKit
/-- Only the plain way out. -/
def onlyN (K : Act → World → Prop) : Exit → Act → World → Prop
  | .normal, a, w => K a w
  | _, _, _ => False
/-- The class of the worlds with S (a structure of its own: the walk's simp would lay a subtype's '∃' apart). -/
structure InC (S : World → Prop) where
  W : World
  ok : S W
instance : Inhabited (InC fun _ => True) := ⟨⟨default, trivial⟩⟩
instance (w : World) : Inhabited (InC fun V => Below w.heap.size w V) := ⟨⟨w, Below.refl _ _⟩⟩
abbrev Cl (S : World → Prop) : World → Prop := fun w' => ∃ p : InC S, w' = p.W
/-- An operation that is no call of a Go function. -/
def plainO (o : Oper) : Bool := match o.op with
  | .move _ | .assign _ | .pick _ _ _ | .build _ _ | .load _ _ | .nilCheck _ | .binOp _ _ _ _ _ | .unOp _ _ _ | .convert _ _ _ | .slice _ _ _ _ _ | .fieldAddr _ _ _ | .field _ _ _ | .indexAddr _ _ _ | .index _ _ _ | .lookup _ _ _ _ | .extract _ _ => true
  | .call { callee := .builtin .len, .. } => true
  | .call { callee := .builtin .max, .. } => true
  | _ => false
theorem val_next {P : Program} {m : Sem Value} {w w' : World} {n : Next} (h : (do pure (Next.value (← m)) : Sem Next).run P w = .ok n w') : ∃ v, n = .value v := by
  rw [show (do pure (Next.value (← m)) : Sem Next) = m.bind fun v => Sem.pure (Next.value v) from rfl, Sem.run_bind'] at h
  cases hm : m.run P w with
  | ok v w1 => rw [hm] at h; cases h; exact ⟨v, rfl⟩
  | halt x w1 => rw [hm] at h; cases h
theorem plain_next {P : Program} {o : Oper} {ρ : Operand → Value} {w w' : World} {n : Next} (hp : plainO o = true) (h : (execOp ρ o).run P w = .ok n w') : ∃ v, n = .value v := by
  obtain ⟨dst, op, type, pos, after, guard⟩ := o
  cases op with
  | move x => cases h; exact ⟨_, rfl⟩
  | assign x => cases h; exact ⟨_, rfl⟩
  | pick c a b =>
    simp only [execOp] at h
    rw [show (do pure (Next.value (if ← asBool (ρ c) then ρ a else ρ b)) : Sem Next) = (asBool (ρ c)).bind fun t => Sem.pure (Next.value (if t = true then ρ a else ρ b)) from rfl, Sem.run_bind'] at h
    cases hm : (asBool (ρ c)).run P w with
    | ok v w1 => rw [hm] at h; cases h; exact ⟨_, rfl⟩
    | halt x w1 => rw [hm] at h; cases h
  | build t ps => exact val_next h
  | load t a => exact val_next h
  | binOp a b c d e => exact val_next h
  | unOp a b c => exact val_next h
  | convert a b c => exact val_next h
  | slice a b c d e => exact val_next h
  | fieldAddr a b c => exact val_next h
  | field a b c => exact val_next h
  | indexAddr a b c => exact val_next h
  | index a b c => exact val_next h
  | lookup a b c d => exact val_next h
  | extract a b => exact val_next h
  | nilCheck x =>
    simp only [execOp] at h
    split at h
    · simp [runtimePanic, go_sem] at h
    · simp [runtimePanic, go_sem] at h
    · simp [runtimePanic, go_sem] at h
    · split at h
      · simp [runtimePanic, go_sem] at h
      · simp only [Sem.run_bind] at h
        generalize Sem.run P program w = r0 at h
        cases r0 with
        | halt x w1 => simp at h
        | ok p w1 =>
          simp only [Result.andThen_ok] at h
          generalize Sem.run P _ w1 = r1 at h
          cases r1 with
          | halt x w1 => simp at h
          | ok q w2 =>
            simp only [Result.andThen_ok] at h
            split at h
            · simp [go_sem] at h
            · cases h; exact ⟨_, rfl⟩
      · cases h; exact ⟨_, rfl⟩
    · cases h; exact ⟨_, rfl⟩
  | call c =>
    obtain ⟨callee, args, ats⟩ := c
    cases callee with
    | builtin b =>
      cases b <;> simp only [plainO, Bool.false_eq_true] at hp
      all_goals (rw [BigFrame.execOp_builtin] at h; exact val_next h)
    | _ => simp only [plainO, Bool.false_eq_true] at hp
  | _ => simp only [plainO, Bool.false_eq_true] at hp
section
variable {P : Program} {ops : Array Oper} {Q : Exit → Act → World → Prop} {md : Region.Mode} {S : World → Prop}
/-- Whatever order is picked; S is kept by all but the operations of kind 2. -/
def wpN (P : Program) (md : Region.Mode) (ops : Array Oper) (Q : Exit → Act → World → Prop) (S : World → Prop) (kd : Nat → Nat) : Nat → Array Bool → Act → World → Prop
  | 0, listed, a, w => Region.ready md ops listed = [] ∧ Q .normal a w
  | fuel + 1, listed, a, w =>
    (Region.ready md ops listed = [] → Q .normal a w) ∧
    ∀ i ∈ Region.ready md ops listed, wpOp P ops Q i (fun a' w' => (kd i ≠ 2 → S w → S w') ∧ wpN P md ops Q S kd fuel (listed.setIfInBounds i true) a' w') a w
theorem wpAny_of_wpN {kd : Nat → Nat} : ∀ (fuel : Nat) (listed : Array Bool) (a : Act) (w : World), wpN P md ops Q S kd fuel listed a w → wpAny P md ops Q fuel listed a w
  | 0, _, _, _, h => h
  | fuel + 1, _, _, _, h => ⟨h.1, fun i hi => wpOp_mono (fun a' w' h' => wpAny_of_wpN fuel _ a' w' h'.2) (h.2 i hi)⟩
/-- What waits for i, directly or through others of the list. -/
def behindB (md : Region.Mode) (ops : Array Oper) (i : Nat) (B : List Nat) : Bool :=
  B.all fun j => Region.waitsFor md ops j i || B.any fun k => Region.waitsFor md ops j k
theorem not_ready {i : Nat} {B : List Nat} {listed : Array Bool} (hB : behindB md ops i B = true) (hi : listed.getD i true = false) (hu : ∀ b ∈ B, listed.getD b true = false) : ∀ b ∈ B, b ∉ Region.ready md ops listed := by
  intro b hb hr
  obtain ⟨_, ob, hob, hall⟩ := mem_ready.1 hr
  have h1 := List.all_eq_true.1 hB b hb
  simp only [Bool.or_eq_true] at h1
  have key : ∀ k, listed.getD k true = false → Region.waitsFor md ops b k = true → False := fun k hk hw => by
    obtain ⟨o', ho', e, he, hbi, hon⟩ := Region.waitsFor_spec hw
    have : o' = ob := Option.some.inj (ho'.symm.trans hob)
    subst this
    have h2 := hall e he hbi
    rw [hon, getD_both hk] at h2
    cases h2
  rcases h1 with h1 | h1
  · exact key i hi h1
  · obtain ⟨k, hk, h2⟩ := List.any_eq_true.1 h1
    exact key k (hu k hk) h2
theorem wpN_first {kd : Nat → Nat} {Si : World → Prop} {i : Nat} {oi : Oper} {v : Value} {B : List Nat} (hi : ops[i]? = some oi) (hsel : ∀ (j : Nat) (o : Oper) cs b, ops[j]? = some o → o.op ≠ .select cs b)
    (hQ : ∀ c a w, Q (.panic c) (a.put oi.dst v) w → Q (.panic c) a w) (hB : behindB md ops i B = true)
    (hS : ∀ w, S w → Si w) (hS' : (∀ w, Si w) ∨ (Si = S ∧ ∀ j, j < ops.size → kd j = 2 → j ∈ B ∨ j = i)) :
    ∀ (fuel : Nat) (listed : Array Bool) (a : Act) (w : World),
      (∀ j oj, ops[j]? = some oj → j ≠ i → listed.getD j true = false → (∀ e ∈ oj.after, Region.binds md e = true → e.on ≠ i) → oi.apart ops oj = true) →
      i ∈ Region.ready md ops listed → (∀ b ∈ B, listed.getD b true = false) → YieldsIf P ops Si oi v a → Si w →
      wpN P md ops Q S kd fuel (listed.setIfInBounds i true) (a.put oi.dst v) w → wpN P md ops Q S kd (fuel + 1) listed a w := by
  intro fuel
  induction fuel with
  | zero =>
    intro listed a w hfree hr hu hy hSw H
    refine ⟨fun h => (by rw [h] at hr; cases hr), fun j hj => ?_⟩
    by_cases hji : j = i
    · subst hji; exact hy.wpOp hi hSw ⟨fun _ h => h, H⟩
    · have := ready_mono hj hji
      rw [H.1] at this
      cases this
  | succ fuel ih =>
    intro listed a w hfree hr hu hy hSw H
    refine ⟨fun h => (by rw [h] at hr; cases hr), fun j hj => ?_⟩
    have hun := (mem_ready.1 hr).1
    by_cases hji : j = i
    · subst hji; exact hy.wpOp hi hSw ⟨fun _ h => h, H⟩
    · have h1 := H.2 j (ready_mono hj hji)
      obtain ⟨hjun, oj, hoj, hall⟩ := mem_ready.1 hj
      have hjB : j ∉ B := fun hb => not_ready hB hun hu j hb hj
      have hjlt : j < ops.size := (Array.getElem?_eq_some_iff.1 hoj).1
      have hnot : ∀ e ∈ oj.after, Region.binds md e = true → e.on ≠ i := fun e he hb heq => by
        have h1 := hall e he hb
        rw [heq, getD_both hun] at h1
        cases h1
      have h2 := wpOp_putIf hoj (hfree j oj hoj hji hjun hnot) (fun cs b => hsel i oi cs b hi) (fun cs b => hsel j oj cs b hoj) hQ hy h1
      have hfree' : ∀ k ok, ops[k]? = some ok → k ≠ i → (listed.setIfInBounds j true).getD k true = false →
          (∀ e ∈ ok.after, Region.binds md e = true → e.on ≠ i) → oi.apart ops ok = true := fun k ok hk hki hun hno => by
        refine hfree k ok hk hki ?_ hno
        by_cases hjk : j = k
        · subst hjk; exact hjun
        · rw [getD_set_ne true hjk] at hun; exact hun
      have hu' : ∀ b ∈ B, (listed.setIfInBounds j true).getD b true = false := fun b hb => by
        have hne : j ≠ b := fun e => hjB (by rw [e]; exact hb)
        rw [getD_set_ne true hne]; exact hu b hb
      refine wpOp_mono (fun a' w' h3 => ⟨h3.2.1, ih (listed.setIfInBounds j true) a' w' hfree' (ready_mono hr (Ne.symm hji)) hu' h3.1 ?_ ?_⟩) h2
      · rcases hS' with h | ⟨rfl, h⟩
        · exact h _
        · refine h3.2.1 (fun hk => ?_) hSw
          rcases h j hjlt hk with h | h
          · exact hjB h
          · exact hji h
      · rw [Array.setIfInBounds_comm _ _ hji]
        exact h3.2.2
end
/-- The kind of an operation in a schedule. -/
def kdOf (sch : List (Nat × Nat)) (j : Nat) : Nat := ((sch.find? fun p => p.2 == j).map (·.1)).getD 0
/-- All operations that wait for i, found by going through the list once. -/
def behind (md : Region.Mode) (ops : Array Oper) (i : Nat) (listed : Array Bool) : List Nat :=
  (List.range ops.size).foldl (fun B j => if !listed.getD j true && (Region.waitsFor md ops j i || B.any fun k => Region.waitsFor md ops j k) then j :: B else B) []
/-- The walk in the chosen order. -/
def wpSch (P : Program) (l : List Oper) (S : World → Prop) (K : Act → World → Prop) : List (Nat × Nat) → Act → World → Prop
  | [], a, w => K a w
  | (k, i) :: r, a, w => match l[i]? with
    | none => False
    | some o => match k with
      | 0 => wpQuiet P l.toArray (Cl fun _ => True) (fun a' => wpSch P l S K r a' w) [o] a
      | 1 => wpQuiet P l.toArray (Cl S) (fun a' => wpSch P l S K r a' w) [o] a
      | 2 => wpList P l.toArray (onlyN fun a' w' => wpSch P l S K r a' w') [o] a w
      | _ => wpList P l.toArray (onlyN fun a' w' => S w' ∧ wpSch P l S K r a' w') [o] a w
/-- What is asked of the chosen order: a closed fact. -/
def schB (md : Region.Mode) (ops : Array Oper) (all : List (Nat × Nat)) : List (Nat × Nat) → Array Bool → Bool
  | [], listed => (Region.ready md ops listed).isEmpty
  | (k, i) :: r, listed => (match ops[i]? with
    | none => false
    | some o =>
      (match k with
        | 0 => (Region.ready md ops listed).contains i && Region.free md ops listed i && plainO o
        | 1 => (Region.ready md ops listed).contains i && Region.free md ops listed i && plainO o &&
          (let B := behind md ops i listed
           behindB md ops i B && (B.all fun b => !listed.getD b true) && ((List.range ops.size).all fun j => kdOf all j != 2 || B.contains j || j == i))
        | 2 => Region.ready md ops listed == [i] && kdOf all i == 2
        | _ => Region.ready md ops listed == [i])) && schB md ops all r (listed.setIfInBounds i true)
/-- After an operation of kind 2 no reader of S comes. -/
def ordB : List (Nat × Nat) → Bool
  | [] => true
  | (2, _) :: r => (r.all fun p => p.1 != 1) && ordB r
  | _ :: r => ordB r
section
variable {P : Program} {l : List Oper} {K : Act → World → Prop} {md : Region.Mode} {S : World → Prop}
theorem yields_of_quiet {C : World → Prop} {o : Oper} {a : Act} {i : Nat} {K' : Act → Prop} (ho : l.toArray[i]? = some o) (hp : plainO o = true) (h : wpQuiet P l.toArray C K' [o] a) : ∃ v, YieldsIf P l.toArray C o v a ∧ K' (a.put o.dst v) := by
  have h' : qOp P l.toArray C i K' a := by unfold qOp; simp only [ho]; exact h
  obtain ⟨v, hy, hk⟩ := yieldsIn_of_qOp ho h'
  refine ⟨v, ?_, hk⟩
  rcases hy with ⟨hw, hy⟩ | ⟨hw, hv⟩
  · refine .inl ⟨hw, fun w hC => ?_⟩
    have h1 := hy w hC
    unfold Oper.quietAt at h1
    cases hr : (execOp a.eval o).run P w with
    | ok n w' =>
      obtain ⟨u, rfl⟩ := plain_next hp hr
      rw [hr] at h1
      obtain ⟨rfl, rfl⟩ := h1
      rfl
    | halt x w' => rw [hr] at h1; exact h1.elim
  · exact .inr ⟨hw, hv⟩
theorem one_step {ops : Array Oper} {i : Nat} {o : Oper} {a : Act} {w : World} {K1 K2 : Act → World → Prop} (ho : ops[i]? = some o) (h : wpList P ops (onlyN K1) [o] a w) : wpOp P ops (onlyN K2) i K1 a w := by
  unfold wpOp; simp only [ho]
  unfold wpList at h
  split
  · rename_i hwt
    rw [if_pos hwt] at h
    rcases h with h | ⟨_, x, y, h⟩
    · refine .inl ?_
      unfold Oper.wp at *
      generalize (execOp a.eval o).run P w = rr at h
      cases rr with
      | ok n w' =>
        cases n with
        | value v => exact h
        | skip => exact h
        | defer d => exact h
        | enter f args =>
          refine Calls.mono h fun e w'' he => ?_
          cases e with
          | returned v => exact he
          | panicked c => exact he.elim
          | outgrown => obtain ⟨x, y, he⟩ := he; exact he.elim
        | row row args => exact h
        | _ => exact h.elim
      | halt x w' => cases x <;> exact h.elim
    · exact h.elim
  · rename_i hwt
    rw [if_neg hwt] at h
    exact h
theorem wpN_of_sch (all : List (Nat × Nat)) (hs : Region.noSelect l.toArray = true) :
    ∀ (r : List (Nat × Nat)) (listed : Array Bool) (a : Act) (w : World), schB md l.toArray all r listed = true → ordB r = true → (S w ∨ r.all (fun p => p.1 != 1) = true) →
      wpSch P l S K r a w → wpN P md l.toArray (onlyN K) S (kdOf all) r.length listed a w
  | [], listed, a, w, hB, _, _, h => ⟨by simpa [schB] using hB, h⟩
  | (k, i) :: r, listed, a, w, hB, hO, hS, h => by
    unfold schB at hB
    unfold wpSch at h
    cases ho : l[i]? with
    | none => rw [ho] at h; exact h.elim
    | some o =>
      have ho' : l.toArray[i]? = some o := by simpa using ho
      rw [ho'] at hB
      rw [ho] at h
      have hsel : ∀ (j : Nat) (o : Oper) cs b, l.toArray[j]? = some o → o.op ≠ .select cs b := fun j o cs b hj => Region.noSelect_spec hs j o cs b hj
      rcases (show k = 0 ∨ k = 1 ∨ k = 2 ∨ ∃ m, k = m + 3 by
        match k with
        | 0 => exact .inl rfl
        | 1 => exact .inr (.inl rfl)
        | 2 => exact .inr (.inr (.inl rfl))
        | m + 3 => exact .inr (.inr (.inr ⟨m, rfl⟩))) with rfl | rfl | rfl | ⟨m, rfl⟩
      · simp only [Bool.and_eq_true] at hB
        obtain ⟨⟨⟨hr, hf⟩, hp⟩, hB⟩ := hB
        obtain ⟨v, hy, hk⟩ := yields_of_quiet ho' hp h
        have hO' : ordB r = true := by simpa [ordB] using hO
        have hS' : S w ∨ r.all (fun p => p.1 != 1) = true := by
          rcases hS with h | h
          · exact .inl h
          · exact .inr (by simpa using h)
        have hy2 : YieldsIf P l.toArray (fun _ => True) o v a := by
          rcases hy with ⟨h1, h2⟩ | h2
          · exact .inl ⟨h1, fun w _ => h2 w ⟨⟨w, trivial⟩, rfl⟩⟩
          · exact .inr h2
        exact wpN_first (Si := fun _ => True) (B := []) ho' hsel (fun _ _ _ h => h.elim) rfl (fun _ _ => trivial) (.inl fun _ => trivial) r.length listed a w (Region.free_spec ho' hf) (by simpa using hr) (by simp) hy2 trivial
          (wpN_of_sch all hs r _ _ w hB hO' hS' hk)
      · simp only [Bool.and_eq_true] at hB
        obtain ⟨⟨⟨⟨hr, hf⟩, hp⟩, ⟨hb1, hb2⟩, hb3⟩, hB⟩ := hB
        obtain ⟨v, hy, hk⟩ := yields_of_quiet ho' hp h
        have hO' : ordB r = true := by simpa [ordB] using hO
        have hSw : S w := by
          rcases hS with h | h
          · exact h
          · simp at h
        have hy2 : YieldsIf P l.toArray S o v a := by
          rcases hy with ⟨h1, h2⟩ | h2
          · exact .inl ⟨h1, fun w hw => h2 w ⟨⟨w, hw⟩, rfl⟩⟩
          · exact .inr h2
        refine wpN_first (Si := S) (B := behind md l.toArray i listed) ho' hsel (fun _ _ _ h => h.elim) hb1 (fun _ h => h) (.inr ⟨rfl, fun j hj hk2 => ?_⟩) r.length listed a w (Region.free_spec ho' hf) (by simpa using hr) (fun b hb => by simpa using List.all_eq_true.1 hb2 b hb) hy2 hSw
          (wpN_of_sch all hs r _ _ w hB hO' (.inl hSw) hk)
        have := List.all_eq_true.1 hb3 j (List.mem_range.2 hj)
        simp only [Bool.or_eq_true, bne_iff_ne, ne_eq, List.contains_iff_mem, beq_iff_eq] at this
        rcases this with (h | h) | h
        · exact absurd hk2 h
        · exact .inl h
        · exact .inr h
      · simp only [Bool.and_eq_true, beq_iff_eq] at hB
        obtain ⟨⟨hr, hk2⟩, hB⟩ := hB
        have hO' : (r.all fun p => p.1 != 1) = true ∧ ordB r = true := by simpa [ordB] using hO
        refine ⟨fun h0 => (by rw [h0] at hr; cases hr), fun j hj => ?_⟩
        rw [hr] at hj
        have : j = i := by simpa using hj
        subst this
        have hw := one_step (K2 := K) ho' (show wpList P l.toArray (onlyN fun a' w' => wpSch P l S K r a' w') [o] a w from h)
        exact wpOp_mono (fun a' w' h' => ⟨fun hne => absurd hk2 hne, wpN_of_sch all hs r _ a' w' hB hO'.2 (.inr hO'.1) h'⟩) hw
      · simp only [Bool.and_eq_true, beq_iff_eq] at hB
        obtain ⟨hr, hB⟩ := hB
        have hO' : ordB r = true := by simpa [ordB] using hO
        refine ⟨fun h0 => (by rw [h0] at hr; cases hr), fun j hj => ?_⟩
        rw [hr] at hj
        have : j = i := by simpa using hj
        subst this
        have hw := one_step (K2 := K) ho' (show wpList P l.toArray (onlyN fun a' w' => S w' ∧ wpSch P l S K r a' w') [o] a w from h)
        exact wpOp_mono (fun a' w' h' => ⟨fun _ _ => h'.1, wpN_of_sch all hs r _ a' w' hB hO' (.inl h'.1) h'.2⟩) hw
/-- All that is asked. -/
def schAll (l : List Oper) (sch : List (Nat × Nat)) : Bool := Region.noSelect l.toArray && schB .any l.toArray sch sch (Array.replicate l.toArray.size false) && ordB sch && (sch.length == l.toArray.size)
theorem wp_region_sch {id : Nat} {Q : Exit → Act → World → Prop} {a : Act} {w : World} (sch : List (Nat × Nat)) (hm : P.follows .mixedOrders = true) (hB : schAll l sch = true)
    (S : World → Prop) (hS : S { w with drawn := w.drawn + 1 }) (h : wpSch P l S (Q .normal) sch a { w with drawn := w.drawn + 1 }) : (Code.region id l.toArray true).wp P Q a w := by
  simp only [schAll, Bool.and_eq_true, beq_iff_eq] at hB
  obtain ⟨⟨⟨h1, h2⟩, h3⟩, h4⟩ := hB
  refine Code.wp_mono (Q := onlyN (Q .normal)) (fun e a w he => by cases e <;> first | exact he | exact he.elim) ?_
  refine wp_region_any hm (wpAny_of_wpN _ _ _ _ (kd := kdOf sch) (S := S) ?_)
  have := wpN_of_sch (md := .any) (P := P) (l := l) (K := Q .normal) (S := S) sch h1 sch _ a _ h2 h3 (.inl hS) h
  rwa [h4] at this
/-- With 'nothing that was there has turned' for S. -/
theorem wp_region_sb {id : Nat} {Q : Exit → Act → World → Prop} {a : Act} {w : World} (sch : List (Nat × Nat)) (hm : P.follows .mixedOrders = true) (hB : schAll l sch = true)
    (h : ∀ V, Below w.heap.size w V → wpSch P l (fun V' => Below w.heap.size w V') (Q .normal) sch a V) : (Code.region id l.toArray true).wp P Q a w :=
  wp_region_sch sch hm hB _ ⟨rfl, rfl, rfl, Nat.le_refl _, fun _ _ => rfl⟩ (h _ ⟨rfl, rfl, rfl, Nat.le_refl _, fun _ _ => rfl⟩)
/-! The steps. -/
variable {i : Nat} {r : List (Nat × Nat)} {o : Oper} {a : Act} {w : World}
theorem sch_nil (h : K a w) : wpSch P l S K [] a w := h
theorem sch_q0 (ho : l[i]? = some o) (h : wpQuiet P l.toArray (Cl fun _ => True) (fun a' => wpSch P l S K r a' w) [o] a) : wpSch P l S K ((0, i) :: r) a w := by
  unfold wpSch; rw [ho]; exact h
theorem sch_q1 (ho : l[i]? = some o) (h : wpQuiet P l.toArray (Cl S) (fun a' => wpSch P l S K r a' w) [o] a) : wpSch P l S K ((1, i) :: r) a w := by
  unfold wpSch; rw [ho]; exact h
theorem sch_e2 (ho : l[i]? = some o) (h : wpList P l.toArray (onlyN fun a' w' => wpSch P l S K r a' w') [o] a w) : wpSch P l S K ((2, i) :: r) a w := by
  unfold wpSch; rw [ho]; exact h
theorem sch_e3 (ho : l[i]? = some o) (h : wpList P l.toArray (onlyN fun a' w' => S w' ∧ wpSch P l S K r a' w') [o] a w) : wpSch P l S K ((3, i) :: r) a w := by
  unfold wpSch; rw [ho]; exact h
theorem onlyN_mk {a : Act} {w : World} (h : K a w) : onlyN K .normal a w := h
end
/-- A cell in every world of the class 'below w nothing has turned'. -/
theorem bcell {w : World} {a : Addr} {v : Value} (h : w.cell? a = some v) : ∀ p : InC (fun V => Below w.heap.size w V), p.W.cell? a = some v := fun p => (p.ok.cell (p := a) (cell_lt h)).trans h
theorem bcells {w : World} {b : Nat} {cs : Array Value} {T : TypeId} {fz : Nat × Nat} (h : w.heap[b]? = some (.cells cs T fz)) (i : Nat) : ∀ p : InC (fun V => Below w.heap.size w V), p.W.cell? ⟨b, i, none⟩ = cs[i]? := fun p => by
  rw [p.ok.cell (p := ⟨b, i, none⟩) (blk_lt h), blk_cell h]
end Go.Sl
