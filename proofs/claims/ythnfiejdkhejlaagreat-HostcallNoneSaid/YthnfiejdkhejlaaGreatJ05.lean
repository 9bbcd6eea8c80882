/- Package extents: reading. -/
import Derived.Test.YthnfiejdkhejlaaGreatJ04
set_option linter.all false
set_option maxRecDepth 100000
namespace Go.Proofs.YthnfiejdkhejlaaGreat
open Go.RowKit Go.Sl Go.Shelf
structure Ex where (off : Int) (len : Int)
deriving DecidableEq
def Ex.enc (e : Ex) : List Value := [.int .i64 e.off, .int .i64 e.len]
def Ex.v (e : Ex) : Value := .agg #[.int .i64 e.off, .int .i64 e.len]
def Ex.fin (e : Ex) : Int := e.off + e.len
def Ex.prop (e : Ex) : Bool := decide (0 ≤ e.off ∧ 0 < e.len ∧ e.len ≤ 1048576 ∧ e.off ≤ 1048576 - e.len)
def Ex.z : Ex := ⟨0, 0⟩
/-- A list that represents a set. -/
def ValidP (l : List Ex) : Prop := ∀ k, k < l.length → (l.getD k Ex.z).prop = true ∧ (0 < k → (l.getD (k - 1) Ex.z).fin < (l.getD k Ex.z).off)
instance (l : List Ex) : Decidable (ValidP l) := Nat.decidableBallLT _ _
theorem end_any (o l : Int) (w : World) : Calls Tryz.prog 211 #[.agg #[.int .i64 o, .int .i64 l]] w fun e w' => e = .returned (.int .i64 (wrap64 (o + l))) ∧ Below w.heap.size w w' := by
  go_enter Tryz.func211, Tryz.ntmps211
  go_wp2
  go_ret
  exact ⟨rfl, (Below.refl _ _).al _⟩
theorem proper_any (o l : Int) (w : World) : Calls Tryz.prog 209 #[.agg #[.int .i64 o, .int .i64 l]] w fun e w' => e = .returned (.bool (Ex.prop ⟨o, l⟩)) ∧ Below w.heap.size w w' := by
  by_cases h1 : 0 ≤ o
  · by_cases h2 : 0 < l
    · by_cases h3 : l ≤ 1048576
      · have hw := w64 (1048576 - l) (by omega)
        by_cases h4 : o ≤ 1048576 - l
        · rw [show Ex.prop ⟨o, l⟩ = true from decide_eq_true ⟨h1, h2, h3, h4⟩]
          go_enter Tryz.func209, Tryz.ntmps209
          go_wp2
          go_ret
          exact ⟨by simp, (Below.refl _ _).al _⟩
        · rw [show Ex.prop ⟨o, l⟩ = false from decide_eq_false (by simp only; omega)]
          go_enter Tryz.func209, Tryz.ntmps209
          go_wp2
          go_ret
          exact ⟨by simp, (Below.refl _ _).al _⟩
      · rw [show Ex.prop ⟨o, l⟩ = false from decide_eq_false (by simp only; omega)]
        go_enter Tryz.func209, Tryz.ntmps209
        go_wp2
        go_ret
        exact ⟨by simp, (Below.refl _ _).al _⟩
    · rw [show Ex.prop ⟨o, l⟩ = false from decide_eq_false (by simp only; omega)]
      go_enter Tryz.func209, Tryz.ntmps209
      go_wp2
      go_ret
      exact ⟨by simp, (Below.refl _ _).al _⟩
  · rw [show Ex.prop ⟨o, l⟩ = false from decide_eq_false (by simp only; omega)]
    go_enter Tryz.func209, Tryz.ntmps209
    go_wp2
    go_ret
    exact ⟨by simp, (Below.refl _ _).al _⟩
theorem ex_cells {w : World} {h : Hl} {X : As} {v : Value} {l : List Ex} {n : Nat} (H : Has w h) (hA : (rowAs 96 2 v n (l.flatMap Ex.enc) * X) h) {k : Nat} (hk : k < l.length) :
    ∃ g cap, v = .slice (some ⟨g, 0, none⟩) n cap ∧ w.cell? ⟨g, k * 2, none⟩ = some (.int .i64 (l.getD k Ex.z).off) ∧ w.cell? ⟨g, k * 2 + 1, none⟩ = some (.int .i64 (l.getD k Ex.z).len) := by
  have hek : l[k]? = some (l.getD k Ex.z) := by simp [List.getD, List.getElem?_eq_getElem hk]
  obtain ⟨g, p, hv, h0⟩ := row_cell H hA (j := k * 2) (u := .int .i64 (l.getD k Ex.z).off) (by have := flat_get (enc := Ex.enc) (sz := 2) (fun _ => rfl) (j := 0) (by decide) l k; rw [Nat.add_zero] at this; rw [this, hek]; rfl)
  obtain ⟨g', p', hv', h1⟩ := row_cell H hA (j := k * 2 + 1) (u := .int .i64 (l.getD k Ex.z).len) (by rw [flat_get (enc := Ex.enc) (sz := 2) (fun _ => rfl) (j := 1) (by decide) l k, hek]; rfl)
  rw [hv] at hv'
  cases hv'
  exact ⟨g, p, hv, h0, h1⟩
set_option maxHeartbeats 1000000 in
theorem Valid_rd (v : Value) (l : List Ex) (X : As) (hm : l.length ≤ 1048576) :
    Rd Tryz.prog 208 #[v] (rowAs 96 2 v l.length (l.flatMap Ex.enc) * X) (.bool (decide (ValidP l))) := by
  rintro w h H hA
  obtain ⟨ad, cp, rfl⟩ := rowAs_form hA
  obtain ⟨b, hb⟩ : ∃ b, decide (ValidP l) = b := ⟨_, rfl⟩
  rw [hb]
  have HB := Lib.hid hb; clear hb
  go_enter Tryz.func208, Tryz.ntmps208
  go_wp2
  go_loopw [7] (fun i wr => ∃ k : Nat, k ≤ l.length ∧ i = .int .i64 k ∧ Below w.heap.size w wr ∧ ∀ j, j < k → (l.getD j Ex.z).prop = true ∧ (0 < j → (l.getD (j - 1) Ex.z).fin < (l.getD j Ex.z).off)) (fun i wr => l.length - (intOf i).toNat)
  case atStart => exact ⟨0, by omega, rfl, Below.refl _ _, fun j hj => absurd hj (by omega)⟩
  case round =>
    obtain ⟨k, hk, rfl, B, hinv⟩ := hrel
    by_cases hkn : k = l.length
    · subst hkn
      go_wp2
      go_ret
      exact ⟨by simp only []; rw [← HB.out, decide_eq_true (p := ValidP l) hinv]; rfl, B⟩
    · have hk3 : k < l.length := by omega
      have hw1 := w64 ((k : Int) + 1) (by omega)
      have hH := H.below B
      obtain ⟨g, p, hv, e0, e1⟩ := ex_cells hH hA hk3
      cases hv
      have hp := fun (hk0 : 0 < k) => hinv (k - 1) (by omega)
      have hcp := fun (hk0 : 0 < k) => ex_cells hH hA (k := k - 1) (by omega)
      have hval : ValidP l → (l.getD k Ex.z).prop = true ∧ (0 < k → (l.getD (k - 1) Ex.z).fin < (l.getD k Ex.z).off) := fun hh => hh k hk3
      have hnext : ((l.getD k Ex.z).prop = true ∧ (0 < k → (l.getD (k - 1) Ex.z).fin < (l.getD k Ex.z).off)) → ∀ j, j < k + 1 → (l.getD j Ex.z).prop = true ∧ (0 < j → (l.getD (j - 1) Ex.z).fin < (l.getD j Ex.z).off) := fun hh j hj => by
        by_cases e : j = k
        · subst e; exact hh
        · exact hinv j (by omega)
      clear hinv
      generalize l.getD k Ex.z = e at *
      generalize l.getD (k - 1) Ex.z = pe at *
      obtain ⟨o, le⟩ := e
      obtain ⟨po, pl⟩ := pe
      simp only at e0 e1
      obtain ⟨b0, hb0⟩ : ∃ b0, Ex.prop ⟨o, le⟩ = b0 := ⟨_, rfl⟩
      have hpr := fun w => proper_any o le w
      have hen := fun w => end_any po pl w
      rw [hb0] at hpr hval hnext
      have HV := Lib.hid hval; have HN := Lib.hid hnext; have HP := Lib.hid hp; have HC := Lib.hid hcp
      clear hval hnext hp hcp hb0
      generalize l.length = n at *
      go_upto_region 4 with fail
      have hxW : (wr.alloc (.cells #[.int .i64 o, .int .i64 le] 96)).heap[wr.heap.size]? = some (.cells #[.int .i64 o, .int .i64 le] 96 (0,0)) := heap_alloc_new _ _
      have hBW := B.al (.cells #[.int .i64 o, .int .i64 le] 96)
      have hold := fun (k : Nat) (hk : k < wr.heap.size) => Below.heap_alloc wr (.cells #[.int .i64 o, .int .i64 le] 96) k hk
      generalize wr.alloc (.cells #[.int .i64 o, .int .i64 le] 96) = W at *
      have g0 := gcells hxW 0
      have g1 := gcells hxW 1
      cases b0 with
      | false =>
        refine wp_region_gr (by kernel_rfl) (by kernel_rfl) ?_
        repeat (go_big_quiet_step (first | (with_reducible exact Calls.gr_of (hpr _)) | (with_reducible exact Calls.gr_of (hen _))))
        refine wpQuiet_nil ?_
        intro W' hW'
        go_wp2
        go_ret
        refine ⟨?_, hBW.trans' hW'.below⟩
        have : ¬ ValidP l := fun hh => by have := (HV.out hh).1; cases this
        rw [← HB.out, decide_eq_false this]; rfl
      | true =>
        by_cases hk0 : k = 0
        · subst hk0
          refine wp_region_gr (by kernel_rfl) (by kernel_rfl) ?_
          repeat (go_big_quiet_step (first | (with_reducible exact Calls.gr_of (hpr _)) | (with_reducible exact Calls.gr_of (hen _))))
          refine wpQuiet_nil ?_
          intro W' hW'
          go_wp2
          go_roundw
          case rel => exact ⟨1, by omega, rfl, hBW.trans' hW'.below, HN.out ⟨rfl, fun h => absurd h (by omega)⟩⟩
          case measure => simp [intOf]; omega
        · have hk1 : 0 < k := by omega
          obtain ⟨hpp, _⟩ := HP.out hk1
          obtain ⟨g', p', hv', q0, q1⟩ := HC.out hk1
          cases hv'
          have hpb : 0 ≤ po ∧ 0 < pl ∧ pl ≤ 1048576 ∧ po ≤ 1048576 - pl := of_decide_eq_true hpp
          have hw2 := w64 (po + pl) (by omega)
          rw [hw2] at hen
          have hw3 := w64 ((k : Int) - 1) (by omega)
          have hkc : ((k : Int) - 1) = ((k - 1 : Nat) : Int) := by omega
          rw [hkc] at hw3
          have q0' := (World.cell?_of_block (w := wr) (w' := W) (a := ⟨g, (k - 1) * 2, none⟩) (hold g (cell_lt q0))).trans q0
          have q1' := (World.cell?_of_block (w := wr) (w' := W) (a := ⟨g, (k - 1) * 2 + 1, none⟩) (hold g (cell_lt q1))).trans q1
          simp only at q0' q1'
          have k1 := gcell q0'
          have k2 := gcell q1'
          have hlt1 : k - 1 < n := by omega
          by_cases hlt : po + pl < o
          · have d1 : decide (o ≤ po + pl) = false := decide_eq_false (by omega)
            have HLT := Lib.hid hlt; clear hlt
            refine wp_region_gr (by kernel_rfl) (by kernel_rfl) ?_
            repeat (go_big_quiet_step (first | (with_reducible exact Calls.gr_of (hpr _)) | (with_reducible exact Calls.gr_of (hen _))))
            refine wpQuiet_nil ?_
            intro W' hW'
            go_wp2
            go_roundw
            case rel => exact ⟨k + 1, by omega, rfl, hBW.trans' hW'.below, HN.out ⟨rfl, fun _ => HLT.out⟩⟩
            case measure => simp [intOf]; omega
          · have d1 : decide (o ≤ po + pl) = true := decide_eq_true (by omega)
            have HLT := Lib.hid hlt; clear hlt
            refine wp_region_gr (by kernel_rfl) (by kernel_rfl) ?_
            repeat (go_big_quiet_step (first | (with_reducible exact Calls.gr_of (hpr _)) | (with_reducible exact Calls.gr_of (hen _))))
            refine wpQuiet_nil ?_
            intro W' hW'
            go_wp2
            go_ret
            refine ⟨?_, hBW.trans' hW'.below⟩
            have : ¬ ValidP l := fun hh => by
              have h1 := HLT.out
              have h2 := (HV.out hh).2 hk1
              simp only [Ex.fin] at h2
              omega
            rw [← HB.out, decide_eq_false this]; rfl
end Go.Proofs.YthnfiejdkhejlaaGreat
/- sort.Search and extents.after. -/
namespace Go.Proofs.YthnfiejdkhejlaaGreat
open Go.RowKit Go.Sl Go.Shelf
theorem Search_any (n : Nat) (hn : n ≤ 1048576) (f : Nat) (lb : Array Value) (p : Nat → Bool) (hmono : ∀ i j, i ≤ j → j < n → p i = true → p j = true) (w : World)
    (eg : ∀ args w, (callFunc f args).run Tryz.prog w = .ok (.enter f args) w)
    (hf : ∀ W, Below w.heap.size w W → ∀ i : Nat, i < n → Calls Tryz.prog f (#[.int .i64 i] ++ lb) W fun e W' => e = .returned (.bool (p i)) ∧ Below W.heap.size W W') :
    Calls Tryz.prog 223 #[.int .i64 n, .func (.func f) #[] lb] w fun e w' => ∃ r : Nat, e = .returned (.int .i64 r) ∧ Below w.heap.size w w' ∧ r ≤ n ∧ (∀ i, i < r → p i = false) ∧ (∀ i, r ≤ i → i < n → p i = true) := by
  have HM := Lib.hid hmono; clear hmono
  go_enter Tryz.func223, Tryz.ntmps223
  go_wp2
  go_loopw [5, 6] (fun a b wr => ∃ i j : Nat, i ≤ j ∧ j ≤ n ∧ a = .int .i64 i ∧ b = .int .i64 j ∧ Below w.heap.size w wr ∧ (∀ k, k < i → p k = false) ∧ (∀ k, j ≤ k → k < n → p k = true)) (fun a b wr => (intOf b).toNat - (intOf a).toNat)
  case atStart => exact ⟨0, n, by omega, by omega, rfl, rfl, Below.refl _ _, fun k hk => absurd hk (by omega), fun k h1 h2 => absurd h1 (by omega)⟩
  case round =>
    obtain ⟨i, j, hij, hjn, rfl, rfl, B, hlo, hhi⟩ := hrel
    by_cases he : i = j
    · subst he
      have HL := Lib.hid hlo; have HH := Lib.hid hhi; clear hlo hhi
      go_wp2
      go_ret
      exact ⟨i, rfl, B, hjn, HL.out, HH.out⟩
    · have hlt : i < j := by omega
      have hm1 : (i + j) / 2 < n := by omega
      have hw1 := w64 ((i : Int) + (j : Int)) (by omega)
      have hcall := hf wr B ((i + j) / 2) hm1
      have hw2 := w64 ((((i + j) / 2 : Nat) : Int) + 1) (by omega)
      have HL := Lib.hid hlo; have HH := Lib.hid hhi; clear hlo hhi hf
      go_wp2
      have e : ((i : Int) + (j : Int)) / 2 = (((i + j) / 2 : Nat) : Int) := by omega
      have hmid : i ≤ (i + j) / 2 ∧ (i + j) / 2 < j := by omega
      rw [e]
      clear e hw1
      generalize (i + j) / 2 = m at *
      cases hp : p m with
      | true =>
        rw [hp] at hcall
        have HP := Lib.hid hp; clear hp
        refine hcall.mono ?_
        clear hcall
        rintro e W ⟨rfl, BW⟩
        go_wp2
        go_roundw
        case rel => exact ⟨i, m, by omega, by omega, rfl, rfl, B.trans' BW, HL.out, fun k h1 h2 => HM.out m k h1 h2 HP.out⟩
        case measure => simp [intOf]; omega
      | false =>
        rw [hp] at hcall
        have HP := Lib.hid hp; clear hp
        refine hcall.mono ?_
        clear hcall
        rintro e W ⟨rfl, BW⟩
        go_wp2
        go_roundw
        case rel =>
          refine ⟨m + 1, j, by omega, by omega, rfl, rfl, B.trans' BW, fun k hk => ?_, HH.out⟩
          cases hpk : p k with
          | false => rfl
          | true => have := HM.out k m (by omega) (by omega) hpk; rw [HP.out] at this; cases this
        case measure => simp [intOf]; omega
theorem valid_get {l : List Ex} (hv : ValidP l) {k : Nat} (hk : k < l.length) : 0 ≤ (l.getD k Ex.z).off ∧ 0 < (l.getD k Ex.z).len ∧ (l.getD k Ex.z).len ≤ 1048576 ∧ (l.getD k Ex.z).off ≤ 1048576 - (l.getD k Ex.z).len := of_decide_eq_true (hv k hk).1
theorem valid_lt {l : List Ex} (hv : ValidP l) {i : Nat} : ∀ {j : Nat}, i < j → j < l.length → (l.getD i Ex.z).fin < (l.getD j Ex.z).off := fun {j} => by
  induction j with
  | zero => intro h; omega
  | succ j ih =>
    intro h1 h2
    have h3 := (hv (j + 1) h2).2 (by omega)
    rw [Nat.add_sub_cancel] at h3
    by_cases e : i = j
    · subst e; exact h3
    · have h4 := ih (by omega) (by omega)
      have h5 := valid_get hv (k := j) (by omega)
      unfold Ex.fin at *
      omega
theorem after1_any {W : World} {h : Hl} {X : As} {l : List Ex} {ad : Option Addr} {cp bA bB i : Nat} {off : Int} (hv : ValidP l) (H : Has W h) (hA : (rowAs 96 2 (.slice ad l.length cp) l.length (l.flatMap Ex.enc) * X) h)
    (ha : W.heap[bA]? = some (.cells #[.slice ad l.length cp] 65 (0,0))) (hb : W.heap[bB]? = some (.cells #[.int .i64 off] 3 (0,0))) (hi : i < l.length) (hm : l.length ≤ 1048576) :
    Calls Tryz.prog 224 #[.int .i64 i, .pointer (some ⟨bA, 0, none⟩), .pointer (some ⟨bB, 0, none⟩)] W fun e W' => e = .returned (.bool (decide (off < (l.getD i Ex.z).fin))) ∧ Below W.heap.size W W' := by
  obtain ⟨g, p, hs, e0, e1⟩ := ex_cells H hA hi
  cases hs
  have hb0 := valid_get hv hi
  unfold Ex.fin
  generalize l.getD i Ex.z = e at *
  obtain ⟨o, le⟩ := e
  simp only at e0 e1 hb0
  have hw := w64 (o + le) (by omega)
  have hen := fun w => end_any o le w
  rw [hw] at hen
  have HV := Lib.hid hv; clear hv hA
  generalize l.length = n at *
  go_enter Tryz.func224, Tryz.ntmps224
  go_upto_region 1 with fail
  have g0 := gcells ha 0
  have g1 := gcells hb 0
  have g2 := gcell e0
  have g3 := gcell e1
  refine wp_region_gr (by kernel_rfl) (by kernel_rfl) ?_
  repeat (go_big_quiet_step (first | (with_reducible exact Calls.gr_of (hen _))))
  refine wpQuiet_nil ?_
  intro W' hW'
  go_wp2
  go_ret
  exact ⟨rfl, hW'.below⟩
theorem after_any (v : Value) (l : List Ex) (X : As) (off : Int) (hv : ValidP l) (hm : l.length ≤ 1048576) (w : World) (h : Hl) (H : Has w h) (hA : (rowAs 96 2 v l.length (l.flatMap Ex.enc) * X) h) :
    Calls Tryz.prog 210 #[v, .int .i64 off] w fun e w' => ∃ r : Nat, e = .returned (.int .i64 r) ∧ Below w.heap.size w w' ∧ r ≤ l.length ∧ (∀ i, i < r → (l.getD i Ex.z).fin ≤ off) ∧ (∀ i, r ≤ i → i < l.length → off < (l.getD i Ex.z).fin) := by
  obtain ⟨ad, cp, rfl⟩ := rowAs_form hA
  have hA0 := heap_alloc_new w (.cells #[.slice ad l.length cp] 65)
  have hB0 := heap_alloc_new (w.alloc (.cells #[.slice ad l.length cp] 65)) (.cells #[.int .i64 off] 3)
  have hA1 := (Below.heap_alloc (w.alloc (.cells #[.slice ad l.length cp] 65)) (.cells #[.int .i64 off] 3) w.heap.size (by rw [World.size_alloc]; omega)).trans hA0
  have B0 := ((Below.refl w.heap.size w).al (.cells #[.slice ad l.length cp] 65)).al (.cells #[.int .i64 off] 3)
  rw [World.size_alloc] at hB0
  obtain ⟨W, hW⟩ : ∃ W, (w.alloc (.cells #[.slice ad l.length cp] 65)).alloc (.cells #[.int .i64 off] 3) = W := ⟨_, rfl⟩
  rw [hW] at hA1 hB0 B0
  have hse := Search_any l.length hm 224 #[.pointer (some ⟨w.heap.size, 0, none⟩), .pointer (some ⟨w.heap.size + 1, 0, none⟩)] (fun i => decide (off < (l.getD i Ex.z).fin))
    (fun i j hij hj hp => by
      have hp := of_decide_eq_true hp
      refine decide_eq_true ?_
      by_cases e : i = j
      · subst e; exact hp
      · have h1 := valid_lt hv (i := i) (j := j) (by omega) hj
        have h2 := valid_get hv hj
        unfold Ex.fin at *
        omega) W (enters_of Tryz.func224 (by kernel_rfl) rfl)
    (fun W' BW i hi => after1_any (X := X) hv (H.below (B0.trans' BW)) hA ((BW.block _ (blk_lt hA1)).trans hA1) ((BW.block _ (blk_lt hB0)).trans hB0) hi hm)
  rw [← hW] at hse
  have hlt0 := lts (blk_lt hA0)
  rw [← hW] at hA1 hB0
  have c0 := blk_cell hA1 0
  have HV := Lib.hid hv
  have HB := Lib.hid B0; have HW := Lib.hid hW
  clear hv B0 hW
  go_enter Tryz.func210, Tryz.ntmps210
  go_wp2_with (first | (go_at_call 223; refine hse.mono ?_; clear hse; rintro e w1 ⟨r, rfl, B1, hr1, hr2, hr3⟩; have HR2 := Lib.hid hr2; have HR3 := Lib.hid hr3; clear hr2 hr3))
  go_ret
  have HB0 := HB.out
  rw [← HW.out] at HB0
  exact ⟨r, rfl, HB0.trans' B1, hr1, fun i hi => by have := of_decide_eq_false (HR2.out i hi); omega, fun i h1 h2 => of_decide_eq_true (HR3.out i h1 h2)⟩
end Go.Proofs.YthnfiejdkhejlaaGreat
/- extents.Remove, at the beginning of an extent. -/
namespace Go.Proofs.YthnfiejdkhejlaaGreat
open Go.RowKit Go.Sl Go.Shelf
/-- The list behind Remove. -/
def cutL (l : List Ex) (i : Nat) (len : Int) : List Ex :=
  l.take i ++ (if len < (l.getD i Ex.z).len then [⟨(l.getD i Ex.z).off + len, (l.getD i Ex.z).len - len⟩] else []) ++ l.drop (i + 1)
theorem ex_one (l : List Ex) : ∀ u ∈ l.flatMap Ex.enc, u.oneCell' = true := by
  intro u hu; obtain ⟨e, _, he⟩ := List.mem_flatMap.1 hu; simp [Ex.enc] at he; rcases he with rfl | rfl <;> rfl
theorem Valid_st (v : Value) (l : List Ex) (hm : l.length ≤ 1048576) {w W : World} {h : Hl} {X : As} (s : St w h W (rowAs 96 2 v l.length (l.flatMap Ex.enc) * X)) :
    Calls Tryz.prog 208 #[v] W fun e w' => e = .returned (.bool (decide (ValidP l))) ∧ Below W.heap.size W w' := by
  obtain ⟨k, t, a⟩ := s
  exact Valid_rd v l X hm W k t.has a
theorem after_st (v : Value) (l : List Ex) (off : Int) (hv : ValidP l) (hm : l.length ≤ 1048576) {w W : World} {h : Hl} {X : As} (s : St w h W (rowAs 96 2 v l.length (l.flatMap Ex.enc) * X)) :
    Calls Tryz.prog 210 #[v, .int .i64 off] W fun e w' => ∃ r : Nat, e = .returned (.int .i64 r) ∧ Below W.heap.size W w' ∧ r ≤ l.length ∧ (∀ i, i < r → (l.getD i Ex.z).fin ≤ off) ∧ (∀ i, r ≤ i → i < l.length → off < (l.getD i Ex.z).fin) := by
  obtain ⟨k, t, a⟩ := s
  exact after_any v l X off hv hm W k t.has a
theorem ex_st {w W : World} {h : Hl} {X : As} {v : Value} {l : List Ex} {n : Nat} (s : St w h W (rowAs 96 2 v n (l.flatMap Ex.enc) * X)) {k : Nat} (hk : k < l.length) :
    ∃ g cap, v = .slice (some ⟨g, 0, none⟩) n cap ∧ W.cell? ⟨g, k * 2, none⟩ = some (.int .i64 (l.getD k Ex.z).off) ∧ W.cell? ⟨g, k * 2 + 1, none⟩ = some (.int .i64 (l.getD k Ex.z).len) := by
  obtain ⟨q, t, a⟩ := s
  exact ex_cells t.has a hk
/-- The first part of a slice that is read. -/
theorem _root_.Go.Sl.Rv.take {W : World} {sz n i cp : Nat} {a : Addr} {xs : List Value} (r : Rv W sz (.slice (some a) n cp) n xs) (hi : i ≤ n) : Rv W sz (.slice (some a) i cp) i (xs.take (i * sz)) := by
  obtain ⟨hl, hc⟩ := r
  rcases hc with ⟨h, _⟩ | ⟨g, o, cap, h, h1, h2, h3, h4⟩
  · cases h
  · cases h
    refine ⟨by rw [List.length_take, hl]; exact Nat.min_eq_left (Nat.mul_le_mul_right _ hi), .inr ⟨g, o, cp, rfl, by omega, h2, h3, fun j u hj => h4 j u ?_⟩⟩
    rw [List.getElem?_take] at hj
    split at hj
    · exact hj
    · cases hj
theorem ex_take (l : List Ex) (i : Nat) (hi : i ≤ l.length) : (l.flatMap Ex.enc).take (i * 2) = (l.take i).flatMap Ex.enc := by
  have h1 : ((l.take i).flatMap Ex.enc).length = i * 2 := by rw [flat_len (sz := 2) (fun _ => rfl), List.length_take, Nat.min_eq_left hi]
  conv => lhs; rw [← List.take_append_drop i l, List.flatMap_append]
  rw [← h1, List.take_left]
/-- 'append(out, set[i+1:]...)'. -/
theorem ex_tail (l : List Ex) (i g cp : Nat) (a : Addr) (cq : Nat) (ha : a = ⟨g, (i + 1) * 2, none⟩ ∨ l.length = i + 1) (hi : i < l.length) (hm : l.length ≤ 1000000) {w W : World} {h : Hl} {Y : As} (ad' : Option Addr) (cp' : Nat) (pre : List Ex) (hpre : pre.length ≤ i + 1)
    (st : St w h W (rowAs 96 2 (.slice ad' pre.length cp') pre.length (pre.flatMap Ex.enc) * (rowAs 96 2 (.slice (some ⟨g, 0, none⟩) l.length cp) l.length (l.flatMap Ex.enc) * Y))) :
    ∃ ad2 cp2 w', (Builtin.append_ #[65, 65] 65 #[.slice ad' pre.length cp', .slice (some a) (l.length - (i + 1)) cq]).run Tryz.prog W = .ok (.slice ad2 (pre.length + (l.length - (i + 1))) cp2) w' ∧
      St w h w' (rowAs 96 2 (.slice ad2 (pre.length + (l.length - (i + 1))) cp2) (pre ++ l.drop (i + 1)).length ((pre ++ l.drop (i + 1)).flatMap Ex.enc) * (rowAs 96 2 (.slice (some ⟨g, 0, none⟩) l.length cp) l.length (l.flatMap Ex.enc) * Y)) := by
  obtain ⟨i0, hinf, hz0, hz1, hz2⟩ := info_parts infoExt
  have hsp : l.flatMap Ex.enc = (l.take (i + 1)).flatMap Ex.enc ++ (l.drop (i + 1)).flatMap Ex.enc := by rw [← List.flatMap_append, List.take_append_drop]
  have hl1 : ((l.take (i + 1)).flatMap Ex.enc).length = (i + 1) * 2 := by rw [flat_len (sz := 2) (fun _ => rfl), List.length_take]; omega
  have hl2 : ((l.drop (i + 1)).flatMap Ex.enc).length = (l.length - (i + 1)) * 2 := by rw [flat_len (sz := 2) (fun _ => rfl), List.length_drop]
  have hrv := st.b2.rv
  have hcell : ∀ j u, ((l.drop (i + 1)).flatMap Ex.enc)[j]? = some u → W.cell? (a.add j) = some u := fun j u hj => by
    rcases ha with rfl | ha
    · rw [Addr.add_lit]
      rcases hrv.2 with ⟨hh2, _⟩ | ⟨g2, o2, cap2, hh2, _, _, _, hc⟩
      · cases hh2
      · cases hh2
        have hj2 : (l.flatMap Ex.enc)[(i + 1) * 2 + j]? = some u := by
          rw [hsp, List.getElem?_append_right (by rw [hl1]; exact Nat.le_add_right _ _), hl1, Nat.add_sub_cancel_left]; exact hj
        have := hc _ u hj2
        rwa [Nat.zero_add] at this
    · have := (List.getElem?_eq_some_iff.1 hj).1; rw [hl2, ha] at this; omega
  have hb1 : pre.length + (l.length - (i + 1)) ≤ maxLen := by unfold maxLen; omega
  have hb2 : (pre.length + (l.length - (i + 1))) * i0.bytes ≤ 140737488355328 := by rw [hz2]; omega
  obtain ⟨ad2, cp2, w', hrun, st'⟩ := st.append (P := Tryz.prog) (ty := 65) Tryz.underlying65 hinf hz0 hz1 rfl a (l.length - (i + 1)) cq _ hl2 hcell (ex_one _) hb1 hb2
  refine ⟨ad2, cp2, w', hrun, ?_⟩
  rw [List.length_append, List.length_drop, List.flatMap_append]
  exact st'
set_option maxHeartbeats 600000 in
theorem Remove_st (v : Value) (l : List Ex) (i : Nat) (len : Int) (hv : ValidP l) (hm : l.length ≤ 1000000) (hi : i < l.length) (h0 : 0 < len) (hle : len ≤ (l.getD i Ex.z).len) {w W : World} {h : Hl} {X : As} (s : St w h W (rowAs 96 2 v l.length (l.flatMap Ex.enc) * X)) :
    Calls Tryz.prog 181 #[v, .agg #[.int .i64 (l.getD i Ex.z).off, .int .i64 len]] W fun e w' => ∃ u, e = .returned (.tuple #[u, .int .i64 0]) ∧ St w h w' (rowAs 96 2 u (cutL l i len).length ((cutL l i len).flatMap Ex.enc) * (rowAs 96 2 v l.length (l.flatMap Ex.enc) * X)) := by
  obtain ⟨ad, cp, rfl⟩ := s.form
  have s0 := s.alloc (.cells #[.int .i64 (l.getD i Ex.z).off, .int .i64 len] 96)
  have hb := valid_get hv hi
  have hbb1 : i + 1 ≤ maxLen := by unfold maxLen; omega
  have hbb2 : (i + 1) * 16 ≤ 140737488355328 := by omega
  have HB1 := Lib.hid hbb1; have HB2 := Lib.hid hbb2; clear hbb1 hbb2
  have hval := Valid_st (.slice ad l.length cp) l (by omega) s0.b2
  rw [decide_eq_true hv] at hval
  have hcl : ∀ r : Nat, (∀ j, j < r → (l.getD j Ex.z).fin ≤ (l.getD i Ex.z).off) → (∀ j, r ≤ j → j < l.length → (l.getD i Ex.z).off < (l.getD j Ex.z).fin) → r = i := fun r h1 h2 => by
    by_cases h3 : i < r
    · have := h1 i h3; unfold Ex.fin at this; omega
    · by_cases h4 : r < i
      · have := h2 r (Nat.le_refl _) (by omega)
        have h5 := valid_lt hv h4 hi
        omega
      · omega
  have hcut : ∀ u, cutL l i len = u ↔ l.take i ++ (if len < (l.getD i Ex.z).len then [⟨(l.getD i Ex.z).off + len, (l.getD i Ex.z).len - len⟩] else []) ++ l.drop (i + 1) = u := fun _ => Iff.rfl
  generalize hel : l.getD i Ex.z = el at *
  obtain ⟨o, le⟩ := el
  simp only at *
  have hpr := fun w => proper_any o len w
  rw [show Ex.prop ⟨o, len⟩ = true from decide_eq_true ⟨by simp only; omega, h0, by simp only; omega, by simp only; omega⟩] at hpr
  have HCL := Lib.hid hcl; have HV := Lib.hid hv; have HE := Lib.hid hel; have HCUT := Lib.hid hcut
  clear hcl hv hel hcut
  have hx0 := s0.blk
  go_enter Tryz.func181, Tryz.ntmps181
  go_upto_region 1 with fail
  have HS0 := Lib.hid s0; clear s0 s
  generalize W.alloc _ = W0 at *
  generalize W.heap.size = b at *
  go_upto_region 3 with (first | (go_at_call 208; refine hval.mono ?_; clear hval; rintro e w1 ⟨rfl, B1⟩; have hx1 := (B1.block _ (blk_lt hx0)).trans hx0; have c10 := blk_cell hx1 0; have c11 := blk_cell hx1 1) |
    (go_at_call 209; refine (hpr _).mono ?_; rintro e w2 ⟨rfl, B2⟩; have hx2 := (B2.block _ (blk_lt hx1)).trans hx1; have c20 := blk_cell hx2 0; have c21 := blk_cell hx2 1))
  have s2 := (HS0.out.below B1).below B2
  have haft := after_st _ l o HV.out (by omega) s2.b2
  go_wp2_with fail
  refine haft.mono ?_
  clear haft
  rintro e w3 ⟨r, rfl, B3, hr1, hr2, hr3⟩
  obtain rfl : i = r := (HCL.out r hr2 hr3).symm
  clear hr2 hr3 hr1
  have s3 := s2.below B3
  have hx3 := s3.blk
  obtain ⟨g, p, hs, e0, e1⟩ := ex_st s3.b2 hi
  cases hs
  rw [HE.out] at e0 e1
  simp only at e0 e1
  clear c10 c11 c20 c21 hx1 hx2 hx0 hpr
  have hw1 := w64 (o + le) (by omega)
  have hw2 := w64 (o + len) (by omega)
  have hen1 := fun w => end_any o le w
  have hen2 := fun w => end_any o len w
  rw [hw1] at hen1
  rw [hw2] at hen2
  have d1 : decide (o + le < o + len) = false := decide_eq_false (by omega)
  have d2 : ((i : Int) == (l.length : Int)) = false := by simp; omega
  have HS3 := Lib.hid s3
  have B23 := Lib.hid (B1.trans' (B2.trans' B3))
  clear s2 s3 B1 B2 B3
  have g0 := gcells hx3 0
  have g1 := gcells hx3 1
  have g2 := gcell e0
  have g3 := gcell e1
  go_upto_region 4 with fail
  refine wp_region_gr (by kernel_rfl) (by kernel_rfl) ?_
  repeat (go_big_quiet_step (first | (with_reducible exact Calls.gr_of (hen1 _)) | (with_reducible exact Calls.gr_of (hen2 _))))
  refine wpQuiet_nil ?_
  intro W4 hW4
  have s4 := HS3.out.below hW4.below
  clear g0 g1 g2 g3 e0 e1
  have hcl := CloneExt_fr _ i _ W4 ((s4.b2.rv).take (Nat.le_of_lt hi)) (by omega) (by rw [ex_take l i (Nat.le_of_lt hi)]; exact ex_one _)
  rw [ex_take l i (Nat.le_of_lt hi)] at hcl
  have hicp : i ≤ cp := by
    rcases s4.b2.rv.2 with ⟨h, _⟩ | ⟨_, _, _, h, h1, _⟩
    · cases h
    · cases h; omega
  go_upto_region 7 with (first | (go_at_call 195; refine hcl.mono ?_; clear hcl; rintro e w5 ⟨ad1, cp1, rfl, F5⟩))
  have s5 := F5.st s4
  obtain ⟨_, _, hs, e0, e1⟩ := ex_st s5.b3 hi
  cases hs
  rw [HE.out] at e0 e1
  simp only at e0 e1
  have hx5 := s5.b2.blk
  have c50 := blk_cell hx5 0
  have c51 := blk_cell hx5 1
  have hlt5 := lts (blk_lt hx5)
  have hltg := lts (cell_lt e0)
  simp only at hltg
  go_upto_region 11 with fail
  have s6 := (s5.skip (.cells #[.int .i64 o, .int .i64 le] 96)).alloc (.cells #[.int .i64 o, .int .i64 le] 96)
  rw [World.size_alloc] at s6
  generalize w5.heap.size + 1 = q at *
  have hy6 := s6.blk
  have hx6 := s6.b3.blk
  have HS6 := Lib.hid s6
  clear c50 c51 hx5 e0 e1 s5 s6
  generalize (w5.alloc (.cells #[.int .i64 o, .int .i64 le] 96)).alloc (.cells #[.int .i64 o, .int .i64 le] 96) = W6 at *
  obtain ⟨i0, hinf, hz0, hz1, hz2⟩ := info_parts infoExt
  have hw3 := w64 ((i : Int) + 1) (by omega)
  have g0 := gcells hx6 0
  have g1 := gcells hx6 1
  have g2 := gcells hy6 0
  have g3 := gcells hy6 1
  have hti : (l.take i).length = i := by rw [List.length_take, Nat.min_eq_left (Nat.le_of_lt hi)]
  have HTI := Lib.hid hti; clear hti
  clear d1
  by_cases hlt : len < le
  · have d3 : decide (o + len < o + le) = true := decide_eq_true (by omega)
    have HL := Lib.hid hlt
    go_upto_region 11 with fail
    refine wp_region_gr (by kernel_rfl) (by kernel_rfl) ?_
    repeat (go_big_quiet_step (first | (with_reducible exact Calls.gr_of (hen1 _)) | (with_reducible exact Calls.gr_of (hen2 _))))
    refine wpQuiet_nil ?_
    intro W7 hW7
    have hx7 := blkB hW7.below hx6
    have hy7 := blkB hW7.below hy6
    have s7 := HS6.out.below hW7.below
    clear g0 g1 g2 g3 hlt
    have hw4 := w64 (o + le - (o + len)) (by omega)
    go_upto_region 12 with fail
    have g0 := bcells hx7 0
    have g1 := bcells hx7 1
    have g2 := bcells hy7 0
    have g3 := bcells hy7 1
    refine wp_region_sb [(0, 0), (1, 1), (1, 3), (1, 5), (3, 2), (3, 4), (2, 6), (0, 7), (0, 8), (2, 9), (2, 10), (0, 11)] (by kernel_rfl) (by kernel_rfl) (fun V BV => ?_)
    repeat (first | (refine sch_q0 (by rfl) ?_; go_big_quiet_step (fail); refine wpQuiet_nil ?_) | (refine sch_q1 (by rfl) ?_; go_big_quiet_step (fail); refine wpQuiet_nil ?_))
    refine sch_e3 (by rfl) ?_
    go_wp2_with (go_at_call 211; refine (hen2 _).mono ?_; rintro e w8 ⟨rfl, B8⟩)
    refine onlyN_mk ⟨BV.trans' B8, ?_⟩
    repeat (first | (refine sch_q0 (by rfl) ?_; go_big_quiet_step (fail); refine wpQuiet_nil ?_) | (refine sch_q1 (by rfl) ?_; go_big_quiet_step (fail); refine wpQuiet_nil ?_))
    refine sch_e3 (by rfl) ?_
    go_wp2_with (go_at_call 211; refine (hen1 _).mono ?_; rintro e w9 ⟨rfl, B9⟩)
    refine onlyN_mk ⟨(BV.trans' B8).trans' B9, ?_⟩
    repeat (first | (refine sch_q0 (by rfl) ?_; go_big_quiet_step (fail); refine wpQuiet_nil ?_) | (refine sch_q1 (by rfl) ?_; go_big_quiet_step (fail); refine wpQuiet_nil ?_))
    refine sch_e2 (by rfl) ?_
    go_wp2_with (go_at_call 211; refine (hen2 _).mono ?_; rintro e w10 ⟨rfl, B10⟩)
    refine onlyN_mk ?_
    repeat (first | (refine sch_q0 (by rfl) ?_; go_big_quiet_step (fail); refine wpQuiet_nil ?_) | (refine sch_q1 (by rfl) ?_; go_big_quiet_step (fail); refine wpQuiet_nil ?_))
    refine sch_e2 (by rfl) ?_
    have s10 := (((s7.below BV).below B8).below B9).below B10
    have s11 := s10.skip (.cells #[.int .i64 (o + len), .int .i64 (o + le - (o + len))] 96)
    have hnb := heap_alloc_new w10 (.cells #[.int .i64 (o + len), .int .i64 (o + le - (o + len))] 96)
    obtain ⟨ad2, cp2, w12, hrun, s12⟩ := (s11.b2).append (P := Tryz.prog) (ty := 65) Tryz.underlying65 hinf hz0 hz1 rfl ⟨w10.heap.size, 0, none⟩ 1 1 [.int .i64 (o + len), .int .i64 (o + le - (o + len))] rfl
      (fun j u hj => by rw [Addr.add_lit, Nat.zero_add, blk_cell hnb, ← hj]; simp) (by simp [Value.oneCell']) HB1.out (by rw [hz2]; exact HB2.out)
    go_wp2_with fail
    refine onlyN_mk ?_
    repeat (first | (refine sch_q0 (by rfl) ?_; go_big_quiet_step (fail); refine wpQuiet_nil ?_) | (refine sch_q1 (by rfl) ?_; go_big_quiet_step (fail); refine wpQuiet_nil ?_))
    refine sch_e2 (by rfl) ?_
    go_wp2_with (at_builtin; refine wpList_append _ _ _ rfl rfl hrun ?_)
    refine onlyN_mk ?_
    go_frame
    repeat (first | (refine sch_q0 (by rfl) ?_; go_big_quiet_step (fail); refine wpQuiet_nil ?_) | (refine sch_q1 (by rfl) ?_; go_big_quiet_step (fail); refine wpQuiet_nil ?_))
    refine sch_nil ?_
    clear hlt5 hltg
    have hcapge : i + 1 ≤ cp := by
      rcases s12.b4.rv.2 with ⟨h, _⟩ | ⟨_, _, _, h, h1, _⟩
      · cases h
      · cases h; exact Nat.le_trans hi h1
    have hpl : (l.take i ++ [(⟨o + len, o + le - (o + len)⟩ : Ex)]).length = i + 1 := by rw [List.length_append, HTI.out]; rfl
    have hpf : (l.take i ++ [(⟨o + len, o + le - (o + len)⟩ : Ex)]).flatMap Ex.enc = (l.take i).flatMap Ex.enc ++ [.int .i64 (o + len), .int .i64 (o + le - (o + len))] := by rw [List.flatMap_append]; rfl
    have s13 : St w h w12 (rowAs 96 2 (.slice ad2 (l.take i ++ [(⟨o + len, o + le - (o + len)⟩ : Ex)]).length cp2) (l.take i ++ [(⟨o + len, o + le - (o + len)⟩ : Ex)]).length ((l.take i ++ [(⟨o + len, o + le - (o + len)⟩ : Ex)]).flatMap Ex.enc) * (rowAs 96 2 (.slice (some ⟨g, 0, none⟩) l.length cp) l.length (l.flatMap Ex.enc) * (pts q (.cells #[.int .i64 o, .int .i64 le] 96) * (pts b (.cells #[.int .i64 o, .int .i64 len] 96) * X)))) := by
      rw [hpl, hpf]
      exact s12.b4.b2
    have hcutl : cutL l i len = l.take i ++ [(⟨o + len, o + le - (o + len)⟩ : Ex)] ++ l.drop (i + 1) := by
      refine (HCUT.out _).2 ?_
      rw [if_pos HL.out, show o + le - (o + len) = le - len by omega]
    have HC := Lib.hid hcutl
    rcases Nat.lt_or_ge (i + 1) cp with hcc | hcc
    · obtain ⟨ad3, cp3, w14, hrun3, s14⟩ := ex_tail l i g cp ⟨g, (i + 1) * 2, none⟩ (cp - (i + 1)) (.inl rfl) hi hm ad2 cp2 _ (by rw [hpl]; exact Nat.le_refl _) s13
      rw [hpl] at hrun3
      have H14 := Lib.hid s14
      clear s14 s13 s12 s11 s10 s7 hcutl hpl hpf hrun hnb g0 g1 g2 g3 hle h0 hb hw1 hw2 hw4 hicp d2 d3
      have hne : ¬ (cp = i + 1) := Nat.ne_of_gt hcc
      go_wp2_with (at_builtin; refine wpList_append _ _ _ rfl rfl hrun3 ?_)
      go_ret2
      refine ⟨_, rfl, ?_⟩
      rw [HC.out]
      have := H14.out
      rw [show (l.take i ++ [(⟨o + len, o + le - (o + len)⟩ : Ex)]).length = i + 1 by rw [List.length_append, HTI.out]; rfl] at this
      exact this.b3.drop.b3.drop
    · obtain rfl : cp = i + 1 := Nat.le_antisymm hcc hcapge
      have hli : l.length = i + 1 := by
        rcases s12.b4.rv.2 with ⟨h, _⟩ | ⟨_, _, _, h, h1, _⟩
        · cases h
        · cases h; exact Nat.le_antisymm h1 hi
      obtain ⟨ad3, cp3, w14, hrun3, s14⟩ := ex_tail l i g (i + 1) ⟨g, 0, none⟩ 0 (.inr hli) hi hm ad2 cp2 _ (by rw [hpl]; exact Nat.le_refl _) s13
      rw [hpl] at hrun3
      have H14 := Lib.hid s14; have HLI := Lib.hid hli
      clear s14 s13 s12 s11 s10 s7 hcutl hpl hpf hrun hnb g0 g1 g2 g3 hli hle h0 hb hw1 hw2 hw4 hicp d2 d3
      go_wp2_with (at_builtin; refine wpList_append _ _ _ rfl rfl hrun3 ?_)
      go_ret2
      refine ⟨_, rfl, ?_⟩
      rw [HC.out]
      have := H14.out
      rw [show (l.take i ++ [(⟨o + len, o + le - (o + len)⟩ : Ex)]).length = i + 1 by rw [List.length_append, HTI.out]; rfl] at this
      exact this.b3.drop.b3.drop
  · have hll : len = le := by omega
    have d3 : decide (o + len < o + le) = false := decide_eq_false (by omega)
    have HL := Lib.hid hlt
    go_upto_region 11 with fail
    refine wp_region_gr (by kernel_rfl) (by kernel_rfl) ?_
    repeat (go_big_quiet_step (first | (with_reducible exact Calls.gr_of (hen1 _)) | (with_reducible exact Calls.gr_of (hen2 _))))
    refine wpQuiet_nil ?_
    intro W7 hW7
    have s7 := HS6.out.below hW7.below
    clear g0 g1 g2 g3 hlt hlt5 hltg
    have hcapge : i + 1 ≤ cp := by
      rcases s7.b4.rv.2 with ⟨h, _⟩ | ⟨_, _, _, h, h1, _⟩
      · cases h
      · cases h; exact Nat.le_trans hi h1
    have s13 : St w h W7 (rowAs 96 2 (.slice ad1 (l.take i).length cp1) (l.take i).length ((l.take i).flatMap Ex.enc) * (rowAs 96 2 (.slice (some ⟨g, 0, none⟩) l.length cp) l.length (l.flatMap Ex.enc) * (pts b (.cells #[.int .i64 o, .int .i64 len] 96) * (pts q (.cells #[.int .i64 o, .int .i64 le] 96) * X)))) := by
      rw [HTI.out]
      exact s7.b4.b3.eq (by ac_rfl)
    have hcutl : cutL l i len = l.take i ++ l.drop (i + 1) := by
      refine (HCUT.out _).2 ?_
      rw [if_neg HL.out, List.append_nil]
    have HC := Lib.hid hcutl
    rcases Nat.lt_or_ge (i + 1) cp with hcc | hcc
    · obtain ⟨ad3, cp3, w14, hrun3, s14⟩ := ex_tail l i g cp ⟨g, (i + 1) * 2, none⟩ (cp - (i + 1)) (.inl rfl) hi hm ad1 cp1 _ (by rw [HTI.out]; exact Nat.le_succ _) s13
      rw [HTI.out] at hrun3
      have H14 := Lib.hid s14
      clear s14 s13 s7 hcutl hle h0 hb hw1 hw2 hicp d2 d3 hll
      have hne : ¬ (cp = i + 1) := Nat.ne_of_gt hcc
      go_wp2_with (at_builtin; refine wpList_append _ _ _ rfl rfl hrun3 ?_)
      go_ret2
      refine ⟨_, rfl, ?_⟩
      rw [HC.out]
      have := H14.out
      rw [HTI.out] at this
      exact this.b3.drop.b3.drop
    · obtain rfl : cp = i + 1 := Nat.le_antisymm hcc hcapge
      have hli : l.length = i + 1 := by
        rcases s7.b4.rv.2 with ⟨h, _⟩ | ⟨_, _, _, h, h1, _⟩
        · cases h
        · cases h; exact Nat.le_antisymm h1 hi
      obtain ⟨ad3, cp3, w14, hrun3, s14⟩ := ex_tail l i g (i + 1) ⟨g, 0, none⟩ 0 (.inr hli) hi hm ad1 cp1 _ (by rw [HTI.out]; exact Nat.le_succ _) s13
      rw [HTI.out] at hrun3
      have H14 := Lib.hid s14; have HLI := Lib.hid hli
      clear s14 s13 s7 hcutl hli hle h0 hb hw1 hw2 hicp d2 d3 hll
      go_wp2_with (at_builtin; refine wpList_append _ _ _ rfl rfl hrun3 ?_)
      go_ret2
      refine ⟨_, rfl, ?_⟩
      rw [HC.out]
      have := H14.out
      rw [HTI.out] at this
      exact this.b3.drop.b3.drop
end Go.Proofs.YthnfiejdkhejlaaGreat
/- extents.Complement of the empty set. -/
namespace Go.Proofs.YthnfiejdkhejlaaGreat
open Go.RowKit Go.Sl Go.Shelf
def compL (size : Int) : List Ex := if 0 < size then [⟨0, size⟩] else []
theorem Complement_nil (size : Int) (h0 : 0 ≤ size) (h1 : size ≤ 1048576) (w : World) :
    Calls Tryz.prog 200 #[.slice none 0 0, .int .i64 size] w fun e w' => ∃ ad cp, e = .returned (.tuple #[.slice ad (compL size).length cp, .int .i64 0]) ∧ Fresh w w' (rowAs 96 2 (.slice ad (compL size).length cp) (compL size).length ((compL size).flatMap Ex.enc)) := by
  have S0 := St.nil (St.start (Has.emp w) (show (1 : As) Hl.emp from rfl)) 96 2
  have hval := Valid_st (.slice none 0 0) [] (by decide) S0
  rw [decide_eq_true (show ValidP [] from fun k hk => absurd hk (by simp))] at hval
  obtain ⟨i0, hinf, hz0, hz1, hz2⟩ := info_parts infoExt
  have d0 : decide (size < 0) = false := decide_eq_false (by omega)
  have d1 : decide (1048576 < size) = false := decide_eq_false (by omega)
  have hcl := CloneExt_nil
  have hcomp : ∀ u, compL size = u ↔ (if 0 < size then [⟨0, size⟩] else []) = u := fun _ => Iff.rfl
  have HC := Lib.hid hcomp; clear hcomp
  go_enter Tryz.func200, Tryz.ntmps200
  go_wp2_with fail
  refine hval.mono ?_
  clear hval
  rintro e w1 ⟨rfl, B1⟩
  have S1 := S0.below B1
  have S2 := S1.skip (.cells #[.int .i64 size, .int .i64 0] 96)
  have hnb := heap_alloc_new w1 (.cells #[.int .i64 size, .int .i64 0] 96)
  obtain ⟨ad2, cp2, w2, hrun, S3⟩ := S2.append (P := Tryz.prog) (ty := 65) Tryz.underlying65 hinf hz0 hz1 rfl ⟨w1.heap.size, 0, none⟩ 1 1 [.int .i64 size, .int .i64 0] rfl
    (fun j u hj => by rw [Addr.add_lit, Nat.zero_add, blk_cell hnb, ← hj]; simp) (by simp [Value.oneCell']) (by decide) (by rw [hz2]; decide)
  simp only [Nat.zero_add, List.nil_append] at hrun S3
  clear S0 S2 hnb
  go_wp2_with (first | (go_at_call 195; refine (hcl _).mono ?_; rintro e w' ⟨rfl, rfl⟩) | (at_builtin; refine wpList_append _ _ _ rfl rfl hrun ?_))
  have hen := fun w => end_any size 0 w
  rw [show wrap64 (size + 0) = size by rw [Int.add_zero]; exact w64 _ (by omega)] at hen
  go_loopw [6, 7, 44] (fun o a i wr => (i = .int .i64 0 ∧ o = .slice none 0 0 ∧ a = .int .i64 0 ∧ wr = w2) ∨ (i = .int .i64 1 ∧ ∃ ad cp, o = .slice ad (compL size).length cp ∧ St w Hl.emp wr (rowAs 96 2 (.slice ad (compL size).length cp) (compL size).length ((compL size).flatMap Ex.enc) * (rowAs 96 2 (.slice ad2 1 cp2) 1 [.int .i64 size, .int .i64 0] * 1)))) (fun o a i wr => 1 - (intOf i).toNat)
  case atStart => exact .inl ⟨rfl, rfl, rfl, rfl⟩
  case round =>
    rcases hrel with ⟨rfl, rfl, rfl, rfl⟩ | ⟨rfl, ad, cp, rfl, S4⟩
    · obtain ⟨g, p, hs, c0⟩ := S3.rowCell (j := 0) (u := .int .i64 size) rfl
      cases hs
      obtain ⟨_, _, hs, c1⟩ := S3.rowCell (j := 1) (u := .int .i64 0) rfl
      cases hs
      by_cases hp : 0 < size
      · have hw := w64 (size - 0) (by omega)
        have hcc := (HC.out _).2 (if_pos hp)
        have HCC := Lib.hid hcc; clear hcc
        have S5 := (S3.alloc (.cells #[.int .i64 size, .int .i64 0] 96)).nil 96 2
        have S6 := S5.skip (.cells #[.int .i64 0, .int .i64 size] 96)
        have hnb := heap_alloc_new (wr.alloc (.cells #[.int .i64 size, .int .i64 0] 96)) (.cells #[.int .i64 0, .int .i64 size] 96)
        rw [World.size_alloc] at hnb
        obtain ⟨ad3, cp3, w3, hrun3, S7⟩ := S6.append (P := Tryz.prog) (ty := 65) Tryz.underlying65 hinf hz0 hz1 rfl ⟨wr.heap.size + 1, 0, none⟩ 1 1 [.int .i64 0, .int .i64 size] rfl
          (fun j u hj => by rw [Addr.add_lit, Nat.zero_add, blk_cell hnb, ← hj]; simp) (by simp [Value.oneCell']) (by decide) (by rw [hz2]; decide)
        simp only [Nat.zero_add, List.nil_append] at hrun3 S7
        have hbe := S7.b2.blk
        have k0 := blk_cell hbe 0
        have k1 := blk_cell hbe 1
        have S8 := S7.b2.drop
        clear hnb S6 S5
        have HS := Lib.hid S8; clear S8
        go_wp2_with (first | (at_builtin; refine wpList_append _ _ _ rfl rfl hrun3 ?_) | (go_at_call 211; refine (hen _).mono ?_; rintro e w' ⟨rfl, B4⟩))
        go_roundw
        case rel =>
          refine .inr ⟨rfl, ad3, cp3, ?_, ?_⟩
          · rw [HCC.out]; rfl
          · rw [HCC.out]; exact (HS.out.below B4)
        case measure => simp [intOf]
      · have hz : size = 0 := by omega
        subst hz
        have hcc := (HC.out []).2 (if_neg hp)
        have HCC := Lib.hid hcc; clear hcc hp
        have S5 := (S3.alloc (.cells #[.int .i64 0, .int .i64 0] 96)).nil 96 2
        have hbe := S5.b2.blk
        have HS := Lib.hid S5.b2.drop; clear S5
        go_wp2_with (first | (go_at_call 211; refine (hen _).mono ?_; rintro e w' ⟨rfl, B4⟩))
        go_roundw
        case rel =>
          refine .inr ⟨rfl, none, 0, ?_, ?_⟩
          · rw [HCC.out]; rfl
          · rw [HCC.out]; exact (HS.out.below B4)
        case measure => simp [intOf]
    · have HS := Lib.hid S4.b2.dropRow.m1
      clear S4
      go_wp2
      go_ret2
      exact ⟨ad, cp, rfl, Fresh.of_st HS.out⟩
end Go.Proofs.YthnfiejdkhejlaaGreat
/- Package layout: contracts. -/
namespace Go.Proofs.YthnfiejdkhejlaaGreat
open Go.RowKit Go.Sl
abbrev Fd := Int × Int
def fenc (f : Fd) : List Value := [.int .i64 f.1, .int .i64 f.2]
def fv (f : Fd) : Value := .agg #[.int .i64 f.1, .int .i64 f.2]
def width (f : Fd) : Int := if f.1 = 1 then 1 else if f.1 = 2 then 2 else if f.1 = 3 then 4 else if f.1 = 6 then f.2 else 8
def align (f : Fd) : Int := if f.1 = 6 then 1 else width f
def upI (n a : Int) : Int := (n + a - 1) / a * a
/-- A field without an error. -/
structure FOk (f : Fd) : Prop where
  k1 : 1 ≤ f.1
  k6 : f.1 ≤ 6
  c : (f.1 = 6 → 1 ≤ f.2) ∧ (f.1 ≠ 6 → f.2 = 0)
  c1 : f.2 ≤ 65536
theorem width_bd {f : Fd} (h : FOk f) : 1 ≤ width f ∧ width f ≤ 65536 := by
  obtain ⟨a, b, ⟨c, d⟩, e⟩ := h; unfold width; repeat' split
  all_goals omega
theorem align_bd {f : Fd} (h : FOk f) : 1 ≤ align f ∧ align f ≤ 8 := by
  obtain ⟨a, b, ⟨c, d⟩, e⟩ := h; unfold align width; repeat' split
  all_goals omega
theorem upI_bd {n a : Int} (h0 : 0 ≤ n) (h1 : 1 ≤ a) (h2 : a ≤ 8) : n ≤ upI n a ∧ upI n a ≤ n + 7 := by
  unfold upI
  rcases (show a = 1 ∨ a = 2 ∨ a = 3 ∨ a = 4 ∨ a = 5 ∨ a = 6 ∨ a = 7 ∨ a = 8 by omega) with rfl | rfl | rfl | rfl | rfl | rfl | rfl | rfl <;> omega
theorem width_any (f : Fd) (w : World) : Calls Tryz.prog 176 #[.agg #[.int .i64 f.1, .int .i64 f.2]] w fun e w' => e = .returned (.int .i64 (width f)) ∧ Below w.heap.size w w' := by
  obtain ⟨k, c⟩ := f
  simp only [width]
  by_cases h1 : k = 1
  · subst h1; go_enter Tryz.func176, Tryz.ntmps176; go_wp2; go_ret; exact ⟨rfl, (Below.refl _ _).al _⟩
  have e1 : (k == 1) = false := by simpa using h1
  by_cases h2 : k = 2
  · subst h2; go_enter Tryz.func176, Tryz.ntmps176; go_wp2; go_ret; exact ⟨rfl, (Below.refl _ _).al _⟩
  have e2 : (k == 2) = false := by simpa using h2
  by_cases h3 : k = 3
  · subst h3; go_enter Tryz.func176, Tryz.ntmps176; go_wp2; go_ret; exact ⟨rfl, (Below.refl _ _).al _⟩
  have e3 : (k == 3) = false := by simpa using h3
  by_cases h6 : k = 6
  · subst h6; go_enter Tryz.func176, Tryz.ntmps176; go_wp2; go_ret; exact ⟨rfl, (Below.refl _ _).al _⟩
  have e6 : (k == 6) = false := by simpa using h6
  simp only [h1, h2, h3, h6, if_false]
  clear h1 h2 h3 h6
  go_enter Tryz.func176, Tryz.ntmps176; go_wp2; go_ret; exact ⟨rfl, (Below.refl _ _).al _⟩
theorem align_any (f : Fd) (w : World) : Calls Tryz.prog 204 #[.agg #[.int .i64 f.1, .int .i64 f.2]] w fun e w' => e = .returned (.int .i64 (align f)) ∧ Below w.heap.size w w' := by
  have hw := fun w => width_any f w
  have ha : align f = if f.1 = 6 then 1 else width f := rfl
  rw [ha]; clear ha
  generalize width f = wd at *
  obtain ⟨k, c⟩ := f
  simp only at *
  by_cases h6 : k = 6
  · subst h6; go_enter Tryz.func204, Tryz.ntmps204; go_wp2; go_ret; exact ⟨rfl, (Below.refl _ _).al _⟩
  have e6 : (k == 6) = false := by simpa using h6
  rw [if_neg h6]; clear h6
  go_enter Tryz.func204, Tryz.ntmps204
  go_wp2_with (go_at_call 176; refine (hw _).mono ?_; rintro e w1 ⟨rfl, B1⟩)
  go_ret
  exact ⟨rfl, ((Below.refl _ _).al _).trans' B1⟩
theorem up_any (n a : Int) (w : World) (h0 : 0 ≤ n) (hn : n ≤ 1000000000) (h1 : 1 ≤ a) (h2 : a ≤ 8) : Calls Tryz.prog 205 #[.int .i64 n, .int .i64 a] w fun e w' => e = .returned (.int .i64 (upI n a)) ∧ w' = w := by
  have hb := upI_bd h0 h1 h2
  unfold upI at hb ⊢
  have hw := w64 ((n + a - 1) / a * a) (by omega)
  go_enter Tryz.func205, Tryz.ntmps205
  go_wp2
  go_ret
  exact ⟨rfl, rfl⟩
/-- The error of a field. -/
def chkF (f : Fd) : Int := if f.1 < 1 ∨ 6 < f.1 then 8 else if (f.1 = 6 ∧ f.2 < 1) ∨ (f.1 ≠ 6 ∧ f.2 ≠ 0) then 3 else if 65536 < f.2 then 4 else 0
theorem chkF_ok {f : Fd} (h : chkF f = 0) : FOk f := by
  unfold chkF at h
  split at h
  · cases h
  split at h
  · cases h
  split at h
  · cases h
  exact ⟨by omega, by omega, ⟨by omega, by omega⟩, by omega⟩
theorem checkField_any (f : Fd) (w : World) : Calls Tryz.prog 116 #[.agg #[.int .i64 f.1, .int .i64 f.2]] w fun e w' => e = .returned (.int .i64 (chkF f)) ∧ Below w.heap.size w w' := by
  obtain ⟨k, c⟩ := f
  simp only [chkF]
  by_cases h1 : k < 1
  · rw [if_pos (.inl h1)]; go_enter Tryz.func116, Tryz.ntmps116; go_wp2; go_ret; exact ⟨rfl, (Below.refl _ _).al _⟩
  have e1 : decide (k < 1) = false := decide_eq_false h1
  by_cases h2 : 6 < k
  · rw [if_pos (.inr h2)]; clear h1; go_enter Tryz.func116, Tryz.ntmps116; go_wp2; go_ret; exact ⟨rfl, (Below.refl _ _).al _⟩
  have e2 : decide (6 < k) = false := decide_eq_false h2
  rw [if_neg (by omega)]
  by_cases h3 : k = 6
  · subst h3
    by_cases h4 : c < 1
    · rw [if_pos (.inl ⟨rfl, h4⟩)]; clear h1 h2; go_enter Tryz.func116, Tryz.ntmps116; go_wp2; go_ret; exact ⟨rfl, (Below.refl _ _).al _⟩
    have e4 : decide (c < 1) = false := decide_eq_false h4
    rw [if_neg (by omega)]
    by_cases h5 : 65536 < c
    · rw [if_pos h5]; clear h1 h2 h4; go_enter Tryz.func116, Tryz.ntmps116; go_wp2; go_ret; exact ⟨rfl, (Below.refl _ _).al _⟩
    have e5 : decide (65536 < c) = false := decide_eq_false h5
    rw [if_neg h5]; clear h1 h2 h4 h5
    go_enter Tryz.func116, Tryz.ntmps116; go_wp2; go_ret; exact ⟨rfl, (Below.refl _ _).al _⟩
  have e3 : (k == 6) = false := by simpa using h3
  have e3' : (k != 6) = true := by simpa using h3
  by_cases h4 : c = 0
  · subst h4
    rw [if_neg (by omega), if_neg (by omega)]; clear h1 h2 h3
    go_enter Tryz.func116, Tryz.ntmps116; go_wp2; go_ret; exact ⟨rfl, (Below.refl _ _).al _⟩
  have e4 : (c != 0) = true := by simpa using h4
  rw [if_pos (.inr ⟨h3, h4⟩)]; clear h1 h2 h3 h4
  go_enter Tryz.func116, Tryz.ntmps116; go_wp2; go_ret; exact ⟨rfl, (Below.refl _ _).al _⟩
end Go.Proofs.YthnfiejdkhejlaaGreat
/- Package layout: contracts, second part. -/
namespace Go.Proofs.YthnfiejdkhejlaaGreat
open Go.RowKit Go.Sl
def pstep (s : Int × Int) (f : Fd) : Int × Int := (upI s.1 (align f) + width f, if s.2 < align f then align f else s.2)
/-- The end of the fields, and the greatest alignment. -/
def pend (l : List Fd) : Int × Int := l.foldl pstep (0, 1)
def recSize (l : List Fd) : Int := upI (pend l).1 (pend l).2
/-- The place of field i. -/
def placeOf (l : List Fd) (i : Nat) : Int × Int × Int :=
  let f := l.getD i (0, 0)
  (upI (pend (l.take i)).1 (align f), width f, f.1)
def placeAt (l : List Fd) (k : Nat) (at' : Int) : Int × Int × Int := if 0 ≤ at' ∧ at' < k then placeOf l at'.toNat else (0, 0, 0)
theorem pend_snoc (l : List Fd) (f : Fd) : pend (l ++ [f]) = pstep (pend l) f := by simp [pend, List.foldl_append]
theorem snocInd {α : Type} {p : List α → Prop} (h0 : p []) (h1 : ∀ l a, p l → p (l ++ [a])) (l : List α) : p l := by
  have : ∀ (n : Nat) (l : List α), l.length = n → p l := by
    intro n
    induction n with
    | zero => intro l h; rw [List.eq_nil_of_length_eq_zero h]; exact h0
    | succ n ih =>
      intro l h
      have hne : l ≠ [] := by intro e; subst e; cases h
      rw [← List.dropLast_concat_getLast hne]
      exact h1 _ _ (ih _ (by simp [h]))
  exact this _ l rfl
theorem pend_bd (l : List Fd) (h : ∀ f ∈ l, FOk f) : 0 ≤ (pend l).1 ∧ (pend l).1 ≤ 65543 * l.length ∧ 1 ≤ (pend l).2 ∧ (pend l).2 ≤ 8 := by
  induction l using snocInd with
  | h0 => simp [pend]
  | h1 l f ih =>
    have ih := ih fun f hf => h f (by simp [hf])
    have hw := width_bd (h f (by simp))
    have ha := align_bd (h f (by simp))
    have hu := upI_bd ih.1 ha.1 ha.2
    rw [pend_snoc, List.length_append, List.length_singleton]
    simp only [pstep]
    split <;> omega
theorem take_snoc' {α : Type} {l : List α} {k : Nat} (hk : k < l.length) : l.take (k + 1) = l.take k ++ [l[k]] := List.take_succ_eq_append_getElem hk
theorem placeAt_step (l : List Fd) (k : Nat) (at' : Int) (hk : k < l.length) : placeAt l (k + 1) at' = if (k : Int) = at' then (upI (pend (l.take k)).1 (align l[k]), width l[k], l[k].1) else placeAt l k at' := by
  unfold placeAt
  by_cases h : (k : Int) = at'
  · subst h
    rw [if_pos ⟨by omega, by omega⟩, if_pos rfl]
    simp [placeOf, List.getD, List.getElem?_eq_getElem hk]
  · rw [if_neg h]
    by_cases h2 : 0 ≤ at' ∧ at' < k
    · rw [if_pos h2, if_pos ⟨h2.1, by omega⟩]
    · rw [if_neg h2, if_neg (by omega)]
def pobj (p : Int × Int × Int) : Obj := .cells #[.int .i64 p.1, .int .i64 p.2.1, .int .i64 p.2.2] 130 (0,0)
set_option maxHeartbeats 400000 in
theorem places_any (v : Value) (l : List Fd) (at' : Int) (w : World) (hR : Rv w 2 v l.length (l.flatMap fenc)) (hl : l.length ≤ 1000) (hok : ∀ f ∈ l, FOk f) :
    Calls Tryz.prog 177 #[v, .int .i64 at'] w fun e w' => e = .returned (.tuple #[.agg #[.int .i64 (placeAt l l.length at').1, .int .i64 (placeAt l l.length at').2.1, .int .i64 (placeAt l l.length at').2.2], .int .i64 (recSize l)]) ∧ Below w.heap.size w w' := by
  obtain ⟨ad, cp, rfl⟩ := hR.form
  have S0 := ((St.start (w := w) (Has.emp w) (show (1 : As) Hl.emp from rfl)).alloc (pobj (0,0,0))).alloc (pobj (0,0,0))
  rw [World.size_alloc] at S0
  unfold recSize
  have HOK := Lib.hid hok; clear hok
  go_enter Tryz.func177, Tryz.ntmps177
  go_wp2
  change Code.wp _ _ _ _ ((w.alloc (pobj (0,0,0))).alloc (pobj (0,0,0)))
  generalize ((w.alloc (pobj (0,0,0))).alloc (pobj (0,0,0))) = W0 at *
  have B0 := S0.below_all rfl
  generalize hb : w.heap.size = b at *
  have HB := Lib.hid hb; clear hb
  go_loopw [7, 8, 15] (fun en mo i wr => ∃ k : Nat, k ≤ l.length ∧ i = .int .i64 k ∧ en = .int .i64 (pend (l.take k)).1 ∧ mo = .int .i64 (pend (l.take k)).2 ∧ St w Hl.emp wr (pts (b + 1) (pobj (placeAt l k at')) * (pts b (pobj (0,0,0)) * 1))) (fun en mo i wr => l.length - (intOf i).toNat)
  case atStart => exact ⟨0, by omega, rfl, rfl, rfl, by rw [show placeAt l 0 at' = (0,0,0) from if_neg (by omega)]; exact S0⟩
  case round =>
    obtain ⟨k, hk, rfl, rfl, rfl, S1⟩ := hrel
    have hbd := pend_bd (l.take k) fun f hf => HOK.out f (List.mem_of_mem_take hf)
    rw [List.length_take, Nat.min_eq_left hk] at hbd
    have RW := hR.below (S1.below_all rfl)
    by_cases hkl : k = l.length
    · subst hkl
      rw [List.take_length] at hbd
      simp only [List.take_length]
      have hu := fun w => up_any (pend l).1 (pend l).2 w hbd.1 (by omega) hbd.2.2.1 hbd.2.2.2
      generalize hru : upI (pend l).1 (pend l).2 = ru at hu
      generalize (pend l).1 = pe at hu hbd ⊢
      generalize (pend l).2 = pm at hu hbd ⊢
      generalize hpl : placeAt l l.length at' = pl at S1
      obtain ⟨p0, p1, p2⟩ := pl
      have HRU := Lib.hid hru; have HPL := Lib.hid hpl; clear hru hpl
      have c6 := S1.blk
      have c4 := S1.b2.blk
      have hlt := lts (blk_lt c4)
      have hne : b ≠ b + 1 := by omega
      generalize b + 1 = b1 at *
      clear hR RW
      go_wp2
      have g0 := gcells c6 0
      have g1 := gcells c6 1
      have g2 := gcells c6 2
      refine wp_region_gt 4 (by kernel_rfl) (by kernel_rfl) ?_
      simp only [List.take_succ_cons, List.take_zero, List.drop_succ_cons, List.drop_zero]
      repeat (go_big_quiet_step (with_reducible exact Calls.gr_of ((hu _).mono (fun _ _ h => ⟨h.1, h.2 ▸ Below.refl _ _⟩))))
      refine wpQuiet_nil ?_
      intro W2 hW2
      have S2 := (S1.below hW2.below).b2
      clear g0 g1 g2
      have c4 := S2.blk
      have e0 := blk_cell c4 0
      have e1 := blk_cell c4 1
      have e2 := blk_cell c4 2
      have f0 := blk_free c4 0
      have f1 := blk_free c4 1
      have f2 := blk_free c4 2
      have S3 := ((S2.set 0 (.int .i64 p0)).set 1 (.int .i64 p1)).set 2 (.int .i64 p2)
      go_wp2
      generalize ((W2.setCell ⟨b, 0, none⟩ _).setCell ⟨b, 1, none⟩ _).setCell ⟨b, 2, none⟩ _ = W3 at *
      have c4 := S3.blk
      have e0 := blk_cell c4 0
      have e1 := blk_cell c4 1
      have e2 := blk_cell c4 2
      refine bodyPost_ret (v := .tuple #[.agg #[.int .i64 p0, .int .i64 p1, .int .i64 p2], .int .i64 ru]) (by simp [results, Tryz.results177, go_sem, e0, e1, e2]) rfl ⟨by rw [HPL.out, HRU.out], S3.below_all rfl⟩
    · have hk3 : k < l.length := by omega
      obtain ⟨g, o, rfl, k0, k1⟩ := RW.two (fun _ => rfl) hk3 rfl
      have hf := HOK.out l[k] (List.getElem_mem hk3)
      have hwb := width_bd hf
      have hab := align_bd hf
      have hub := upI_bd hbd.1 hab.1 hab.2
      have hwa := fun w => width_any l[k] w
      have haa := fun w => align_any l[k] w
      have hua := fun w => up_any (pend (l.take k)).1 (align l[k]) w hbd.1 (by omega) hab.1 hab.2
      have hw1 := w64 ((k : Int) + 1) (by omega)
      have hpl := placeAt_step l k at' hk3
      have hpd : pend (l.take (k + 1)) = (upI (pend (l.take k)).1 (align l[k]) + width l[k], if (pend (l.take k)).2 < align l[k] then align l[k] else (pend (l.take k)).2) := by rw [take_snoc' hk3, pend_snoc]; rfl
      generalize width l[k] = wd at *
      generalize align l[k] = al at *
      generalize upI (pend (l.take k)).1 al = of' at *
      generalize (pend (l.take k)).1 = pe at *
      generalize (pend (l.take k)).2 = pm at *
      generalize hlk : l[k] = lk at *
      obtain ⟨fk, fc⟩ := lk
      simp only at k0 k1 hwa haa hua hpl
      have hw2 := w64 (of' + wd) (by omega)
      have HPD := Lib.hid hpd; have HPL := Lib.hid hpl
      clear hpd hpl hf HOK
      rcases Int.lt_or_le pm al with hpm | hpm
      all_goals
       by_cases hat : (k : Int) = at'
       · have hbeq : ((k : Int) == at') = true := by simpa using hat
         rw [if_pos hat] at HPL
         clear hat
         go_upto_region 11 with (first | (go_at_call 204; refine (haa _).mono ?_; clear haa; rintro e w1 ⟨rfl, B1⟩; have hx1 := (B1.block _ (by simp)).trans (heap_alloc_new wr (.cells #[.int .i64 fk, .int .i64 fc] 102)); have d0 := blk_cell hx1 0; have d1 := blk_cell hx1 1) |
           (go_at_call 205; refine (hua _).mono ?_; clear hua; rintro e w2 ⟨rfl, rfl⟩) | (go_at_call 176; refine (hwa _).mono ?_; rintro e w3 ⟨rfl, B3⟩))
         have hx3 := (B3.block _ (blk_lt hx1)).trans hx1
         have S3 := ((S1.skip _).below B1).below B3
         clear d0 d1 B1 B3 hx1 k0 k1 RW hR
         refine wp_region_sb [(0, 0), (1, 1), (0, 3), (1, 4), (3, 2), (0, 5), (2, 6)] (by kernel_rfl) (by kernel_rfl) (fun V BV => ?_)
         have g0 := bcells hx3 0
         have g1 := bcells hx3 1
         repeat (first | (refine sch_q0 (by rfl) ?_; go_big_quiet_step (fail); refine wpQuiet_nil ?_) | (refine sch_q1 (by rfl) ?_; go_big_quiet_step (fail); refine wpQuiet_nil ?_))
         refine sch_e3 (by rfl) ?_
         go_wp2_with (go_at_call 176; refine (hwa _).mono ?_; rintro e w4 ⟨rfl, B4⟩)
         refine onlyN_mk ⟨BV.trans' B4, ?_⟩
         repeat (first | (refine sch_q0 (by rfl) ?_; go_big_quiet_step (fail); refine wpQuiet_nil ?_) | (refine sch_q1 (by rfl) ?_; go_big_quiet_step (fail); refine wpQuiet_nil ?_))
         refine sch_e2 (by rfl) ?_
         have S4 := (S3.below BV).below B4
         have c6 := S4.blk
         have e0 := blk_cell c6 0
         have e1 := blk_cell c6 1
         have e2 := blk_cell c6 2
         have f0 := blk_free c6 0
         have f1 := blk_free c6 1
         have f2 := blk_free c6 2
         have S5 := ((S4.set 0 (.int .i64 of')).set 1 (.int .i64 wd)).set 2 (.int .i64 fk)
         clear g0 g1
         go_wp2
         refine onlyN_mk (sch_nil ?_)
         go_wp2
         go_roundw
         case rel => exact ⟨k + 1, by omega, rfl, by rw [HPD.out], by rw [HPD.out]; first | rw [if_pos hpm] | rw [if_neg (Int.not_lt.2 hpm)], by rw [HPL.out]; exact S5⟩
         case measure => simp [intOf]; omega
       · have hbeq : ((k : Int) == at') = false := by simpa using hat
         rw [if_neg hat] at HPL
         clear hat
         go_wp2_with (first | (go_at_call 204; refine (haa _).mono ?_; clear haa; rintro e w1 ⟨rfl, B1⟩; have d0 := blk_cell ((B1.block _ (by simp)).trans (heap_alloc_new wr (.cells #[.int .i64 fk, .int .i64 fc] 102))) 0; have d1 := blk_cell ((B1.block _ (by simp)).trans (heap_alloc_new wr (.cells #[.int .i64 fk, .int .i64 fc] 102))) 1) |
           (go_at_call 205; refine (hua _).mono ?_; clear hua; rintro e w2 ⟨rfl, rfl⟩) | (go_at_call 176; refine (hwa _).mono ?_; rintro e w3 ⟨rfl, B3⟩))
         go_roundw
         case rel => exact ⟨k + 1, by omega, rfl, by rw [HPD.out], by rw [HPD.out]; first | rw [if_pos hpm] | rw [if_neg (Int.not_lt.2 hpm)], by rw [HPL.out]; exact (((S1.skip _).below B1).below B3)⟩
         case measure => simp [intOf]; omega
end Go.Proofs.YthnfiejdkhejlaaGreat
