/- Calls that only make memory, and own what they hand back; slices.Clone in that form. -/
import Derived.Laws.MakeOwn
import Derived.Deep.DeepCutAuto
import Derived.Deep.CutRange
import Derived.Deep.RegionWith
import Derived.Test.YthnfiejdkhejlaaGreatJ03
set_option linter.all false
set_option maxRecDepth 100000
namespace Go.Sl
open Go.RowKit
/-- From W to W' only new blocks; A is owned of them. -/
def Fresh (W W' : World) (A : As) : Prop := ∃ h', Tr W W' Hl.emp h' ∧ A h'
section
variable {w W W' : World} {h : Hl} {A B X : As}
theorem Fresh.below (f : Fresh W W' A) : Below W.heap.size W W' := by obtain ⟨k, t, _⟩ := f; exact t.below (Nat.le_refl _) (fun i _ => rfl)
theorem emp_un (k : Hl) : Hl.emp.un k = k := by funext i; simp [Hl.un, Hl.emp]
theorem emp_dj (k : Hl) : Hl.emp.dj k := fun _ => .inl rfl
theorem Fresh.st (f : Fresh W W' A) (s : St w h W X) : St w h W' (A * X) := by
  obtain ⟨k', t', a⟩ := f
  obtain ⟨k, t, x⟩ := s
  obtain ⟨d, t2⟩ := t'.frame (emp_dj k) t.has
  rw [emp_un] at t2
  exact ⟨_, t.trans t2, k', k, d, rfl, a, x⟩
theorem Fresh.of_st (s : St W Hl.emp W' A) : Fresh W W' A := s
theorem Fresh.start : Fresh W W 1 := St.start (Has.emp W) rfl
theorem Fresh.sst (f : Fresh W W' A) : St W Hl.emp W' A := f
end
end Go.Sl
namespace Go.Proofs.YthnfiejdkhejlaaGreat
open Go.RowKit Go.Sl
theorem CloneInt_fr (v : Value) (n : Nat) (xs : List Value) (W : World) (r : Rv W 1 v n xs) (hm : n ≤ 1048576) (h1 : ∀ u ∈ xs, u.oneCell' = true) :
    Calls Tryz.prog 221 #[v] W fun e w' => ∃ ad cp, e = .returned (.slice ad n cp) ∧ Fresh W w' (rowAs 3 1 (.slice ad n cp) n xs) := by
  obtain ⟨hl, hc⟩ := r
  rcases hc with ⟨rfl, rfl⟩ | ⟨g, o, cap, rfl, h2, h3, hg, hcell⟩
  · have : xs = [] := List.eq_nil_of_length_eq_zero (by omega)
    subst this
    refine (CloneInt_nil W).mono ?_
    rintro e w' ⟨rfl, rfl⟩
    exact ⟨none, 0, rfl, St.m1 (St.nil (St.start (Has.emp _) (show (1 : As) Hl.emp from rfl)) _ _)⟩
  · refine (CloneInt_any g o n cap xs W Hl.emp 1 (Has.emp W) rfl hl hm hcell hg h1).mono ?_
    rintro e w' ⟨v, h', rfl, t, a⟩
    obtain ⟨ad, cp, rfl⟩ := rowAs_form a
    exact ⟨ad, cp, rfl, h', t, by rw [As.mul_one] at a; exact a⟩
theorem CloneByte_fr (v : Value) (n : Nat) (xs : List Value) (W : World) (r : Rv W 1 v n xs) (hm : n ≤ 1048576) (h1 : ∀ u ∈ xs, u.oneCell' = true) :
    Calls Tryz.prog 141 #[v] W fun e w' => ∃ ad cp, e = .returned (.slice ad n cp) ∧ Fresh W w' (rowAs 5 1 (.slice ad n cp) n xs) := by
  obtain ⟨hl, hc⟩ := r
  rcases hc with ⟨rfl, rfl⟩ | ⟨g, o, cap, rfl, h2, h3, hg, hcell⟩
  · have : xs = [] := List.eq_nil_of_length_eq_zero (by omega)
    subst this
    refine (CloneByte_nil W).mono ?_
    rintro e w' ⟨rfl, rfl⟩
    exact ⟨none, 0, rfl, St.m1 (St.nil (St.start (Has.emp _) (show (1 : As) Hl.emp from rfl)) _ _)⟩
  · refine (CloneByte_any g o n cap xs W Hl.emp 1 (Has.emp W) rfl hl hm hcell hg h1).mono ?_
    rintro e w' ⟨v, h', rfl, t, a⟩
    obtain ⟨ad, cp, rfl⟩ := rowAs_form a
    exact ⟨ad, cp, rfl, h', t, by rw [As.mul_one] at a; exact a⟩
theorem CloneExt_fr (v : Value) (n : Nat) (xs : List Value) (W : World) (r : Rv W 2 v n xs) (hm : n ≤ 1048576) (h1 : ∀ u ∈ xs, u.oneCell' = true) :
    Calls Tryz.prog 195 #[v] W fun e w' => ∃ ad cp, e = .returned (.slice ad n cp) ∧ Fresh W w' (rowAs 96 2 (.slice ad n cp) n xs) := by
  obtain ⟨hl, hc⟩ := r
  rcases hc with ⟨rfl, rfl⟩ | ⟨g, o, cap, rfl, h2, h3, hg, hcell⟩
  · have : xs = [] := List.eq_nil_of_length_eq_zero (by omega)
    subst this
    refine (CloneExt_nil W).mono ?_
    rintro e w' ⟨rfl, rfl⟩
    exact ⟨none, 0, rfl, St.m1 (St.nil (St.start (Has.emp _) (show (1 : As) Hl.emp from rfl)) _ _)⟩
  · refine (CloneExt_any g o n cap xs W Hl.emp 1 (Has.emp W) rfl hl hm hcell hg h1).mono ?_
    rintro e w' ⟨v, h', rfl, t, a⟩
    obtain ⟨ad, cp, rfl⟩ := rowAs_form a
    exact ⟨ad, cp, rfl, h', t, by rw [As.mul_one] at a; exact a⟩
theorem CloneFld_fr (v : Value) (n : Nat) (xs : List Value) (W : World) (r : Rv W 2 v n xs) (hm : n ≤ 1048576) (h1 : ∀ u ∈ xs, u.oneCell' = true) :
    Calls Tryz.prog 178 #[v] W fun e w' => ∃ ad cp, e = .returned (.slice ad n cp) ∧ Fresh W w' (rowAs 102 2 (.slice ad n cp) n xs) := by
  obtain ⟨hl, hc⟩ := r
  rcases hc with ⟨rfl, rfl⟩ | ⟨g, o, cap, rfl, h2, h3, hg, hcell⟩
  · have : xs = [] := List.eq_nil_of_length_eq_zero (by omega)
    subst this
    refine (CloneFld_nil W).mono ?_
    rintro e w' ⟨rfl, rfl⟩
    exact ⟨none, 0, rfl, St.m1 (St.nil (St.start (Has.emp _) (show (1 : As) Hl.emp from rfl)) _ _)⟩
  · refine (CloneFld_any g o n cap xs W Hl.emp 1 (Has.emp W) rfl hl hm hcell hg h1).mono ?_
    rintro e w' ⟨v, h', rfl, t, a⟩
    obtain ⟨ad, cp, rfl⟩ := rowAs_form a
    exact ⟨ad, cp, rfl, h', t, by rw [As.mul_one] at a; exact a⟩
end Go.Proofs.YthnfiejdkhejlaaGreat
/- pool.New, generation.New: contracts. -/
namespace Go.Proofs.YthnfiejdkhejlaaGreat
open Go.RowKit Go.Sl Go.Shelf
theorem made_flat {α : Type} {enc : α → List Value} {sz : Nat} (he : ∀ x, (enc x).length = sz) (x : α) (z : Array Value) (hz : enc x = z.toList) (hs : z.size = sz) (h0 : 0 < sz) (n : Nat) : (madeCells z (n * sz)).toList = (List.replicate n x).flatMap enc := by
  refine List.ext_getElem? fun k => ?_
  by_cases hk : k < n * sz
  · have hm : k % sz < sz := Nat.mod_lt _ h0
    have hd : k / sz < n := (Nat.div_lt_iff_lt_mul h0).2 hk
    have e : k = k / sz * sz + k % sz := by rw [Nat.mul_comm]; exact (Nat.div_add_mod k sz).symm
    have h1 := flat_get (enc := enc) he hm (List.replicate n x) (k / sz)
    rw [← e] at h1
    rw [h1, List.getElem?_replicate, if_pos hd]
    simp only [madeCells, Option.bind_some, hz]
    rw [Array.getElem?_toList, Array.getElem?_toList]
    simp [hk, hs, hm, getElem!_pos]
  · rw [List.getElem?_eq_none (by rw [Array.length_toList, size_madeCells]; omega), List.getElem?_eq_none (by rw [flat_len he, List.length_replicate]; omega)]
theorem sl4 {A B C X : As} {h : Hl} (x : (A * (B * (C * X))) h) : (B * (A * C) * X) h := (show A * (B * (C * X)) = B * (A * C) * X by ac_rfl) ▸ x
theorem slots_fold {s : Slots} {v : Value} {bs bp : Nat} {X : As} {h : Hl} (x : (pts bs (slotObj s v bp) * (rowAs 269 2 v s.sl.length (s.sl.flatMap Sl1.enc) * (Pool bp s.free * X))) h) : (s.as bs * X) h := by
  rw [← As.assoc (rowAs _ _ _ _ _), ← As.assoc] at x
  exact As.monoL (fun y hy => ⟨v, bp, hy⟩) x
theorem slots_mk {f : Int} {n g bs bp : Nat} {X : As} {h : Hl} (hn : n ≤ 4096) (hA : (pts bs (slotObj ⟨f, List.replicate n ⟨0, false⟩, [], 0⟩ (.slice (some ⟨g, 0, none⟩) n n) bp) * (pts g (.cells (madeCells #[.int .i64 0, .bool false] (n * 2)) 269 (0,0)) * (Pool bp [] * X))) h) :
    ((⟨f, List.replicate n ⟨0, false⟩, [], 0⟩ : Slots).as bs * X) h := by
  have hm := made_flat (enc := Sl1.enc) (sz := 2) (fun _ => rfl) ⟨0, false⟩ #[.int .i64 0, .bool false] rfl rfl (by decide) n
  have h2 := rowAs_mk (e := 269) (sz := 2) (n := n) (xs := (List.replicate n (⟨0, false⟩ : Sl1)).flatMap Sl1.enc) (by rw [flat_len (sz := 2) (fun _ => rfl), List.length_replicate]) (Nat.le_refl n) (by unfold maxLen; omega) (by rw [size_madeCells]) (by rw [hm, List.take_of_length_le]; rw [flat_len (sz := 2) (fun _ => rfl), List.length_replicate]; omega) (br2 hA)
  refine As.monoL (fun y hy => ?_) (sl4 h2)
  refine ⟨.slice (some ⟨g, 0, none⟩) n n, bp, ?_⟩
  simp only [List.length_replicate]
  exact hy
theorem poolNew_any (w : World) (h : Hl) (X : As) (H : Has w h) (hX : X h) :
    Calls Tryz.prog 201 #[.slice none 0 0] w fun e w' => ∃ bp h', e = .returned (.pointer (some ⟨bp, 0, none⟩)) ∧ Tr w w' h h' ∧ (Pool bp [] * X) h' := by
  obtain ⟨k, T, A⟩ := (Tr.refl H).allocA hX (.cells #[.slice none 0 0] 290)
  have HP : Hid (∃ bp h', Ending.returned (.pointer (some ⟨w.heap.size, 0, none⟩)) = .returned (.pointer (some ⟨bp, 0, none⟩)) ∧ Tr w (w.alloc (.cells #[.slice none 0 0] 290)) h h' ∧ (Pool bp [] * X) h') :=
    Lib.hid ⟨_, k, rfl, T, As.monoL (fun y hy => ⟨.slice none 0 0, cm (rowAs.nil _ _ _ hy)⟩) A⟩
  clear T A
  go_enter Tryz.func201, Tryz.ntmps201
  go_wp2_with (first | (go_at_call 221; refine (CloneInt_nil _).mono ?_; rintro e w1 ⟨rfl, rfl⟩))
  go_ret
  exact HP.out
theorem info_slot : (Tryz.prog.info? 269).map (fun i => (i.zero, i.size, i.bytes)) = some (some (.agg #[.int .i64 0, .bool false]), 2, 16) := by kernel_rfl
def newSlots (f : Int) (n : Nat) : Slots := ⟨f, List.replicate n ⟨0, false⟩, (List.range n).map Int.ofNat, 0⟩
theorem genNew_any (n : Nat) (f : Int) (hn : n ≤ 4096) (h1 : 1 ≤ f) (h2 : f ≤ 4294967295) (w : World) (h : Hl) (X : As) (H : Has w h) (hX : X h) :
    Calls Tryz.prog 169 #[.int .i64 n, .int .i64 f] w fun e w' => ∃ bs h', e = .returned (.tuple #[.pointer (some ⟨bs, 0, none⟩), .int .i64 0]) ∧ Tr w w' h h' ∧ ((newSlots f n).as bs * X) h' := by
  obtain ⟨i0, hi, hz0, hz1, hz2⟩ := info_parts info_slot
  have hmk := fun w => run_makeSlice (P := Tryz.prog) (w := w) 262 269 i0 _ Tryz.underlying262 hi hz0 .i64 .i64 n n (by omega) (by omega) (by rw [hz1]; simp; omega) (by rw [hz2]; simp; omega) (by omega)
  simp only [hz1, Int.toNat_natCast] at hmk
  have hpn := fun w h X H hX => poolNew_any w h X H hX
  have g1 : decide ((n : Int) < 0) = false := by simp
  have g2 : decide ((4096 : Int) < n) = false := by simp; omega
  have g3 : decide (f < 1) = false := by simp; omega
  have g4 : decide ((4294967295 : Int) < f) = false := by simp; omega
  obtain ⟨ha, Ta, Aa⟩ := (Tr.refl H).allocA hX (.cells (madeCells #[.int .i64 0, .bool false] (n * 2)) 269)
  have Td := (Tr.refl H).drew
  have Tad := Ta.drew
  go_enter Tryz.func169, Tryz.ntmps169
  go_upto_region 3 with fail
  go_cut [6] (fun s6 wx => ∃ bs h', s6 = .pointer (some ⟨bs, 0, none⟩) ∧ Tr w wx h h' ∧ ((⟨f, List.replicate n ⟨0, false⟩, [], 0⟩ : Slots).as bs * X) h')
  case first =>
    go_region_with (first | (go_at_call 201; refine (hpn _ _ _ Td.has hX).mono ?_; rintro e w1 ⟨bp, h1, rfl, T1, A1⟩; replace T1 := Td.trans T1) | (go_at_call 201; refine (hpn _ _ _ Tad.has Aa).mono ?_; rintro e w1 ⟨bp, h1, rfl, T1, A1⟩; replace T1 := Tad.trans T1))
    · go_wp2
      go_meet
      case rel =>
        obtain ⟨k, T2, A2⟩ := T1.allocA A1 (slotObj ⟨f, List.replicate n ⟨0, false⟩, [], 0⟩ (.slice (some ⟨w.heap.size, 0, none⟩) n n) bp)
        exact ⟨_, k, rfl, T2, slots_mk hn (As.monoR (fun _ z => br2 z) A2)⟩
    · go_wp2
      go_meet
      case rel =>
        obtain ⟨k, T2, A2⟩ := T1.allocA A1 (.cells (madeCells #[.int .i64 0, .bool false] (n * 2)) 269)
        obtain ⟨k', T3, A3⟩ := T2.allocA A2 (slotObj ⟨f, List.replicate n ⟨0, false⟩, [], 0⟩ (.slice (some ⟨w1.heap.size, 0, none⟩) n n) bp)
        rw [World.size_alloc] at A3
        exact ⟨_, k', rfl, T3, slots_mk hn A3⟩
  case rest =>
    obtain ⟨bs, h1, rfl, T1, A1⟩ := hcut
    go_wp2
    go_loopw [29] (fun i wr => ∃ k : Nat, k ≤ n ∧ i = .int .i64 k ∧ ∃ h', Tr w wr h h' ∧ ((⟨f, List.replicate n ⟨0, false⟩, (List.range k).map Int.ofNat, 0⟩ : Slots).as bs * X) h') (fun i wr => n - (intOf i).toNat)
    case atStart => exact ⟨0, by omega, rfl, h1, T1, A1⟩
    case round =>
      obtain ⟨k, hk, rfl, h', T2, A2⟩ := hrel
      by_cases hkn : k = n
      · subst hkn
        go_wp2
        go_ret2
        exact ⟨_, h', rfl, T2, A2⟩
      · have hk3 : k < n := by omega
        have hw1 := w64 ((k : Int) + 1) (by omega)
        obtain ⟨x, y, d, rfl, ⟨v, bp, hx⟩, hy⟩ := A2
        have A3 : ((pts bs (slotObj ⟨f, List.replicate n ⟨0, false⟩, (List.range k).map Int.ofNat, 0⟩ v bp) * (rowAs 269 2 v (List.replicate n (⟨0, false⟩ : Sl1)).length ((List.replicate n (⟨0, false⟩ : Sl1)).flatMap Sl1.enc) * Pool bp ((List.range k).map Int.ofNat))) * X) (x.un y) := ⟨x, y, d, rfl, hx, hy⟩
        rw [As.assoc, As.assoc] at A3
        have hb := pts_get T2.has A3
        have c2 := blk_cell hb 2
        have hput := (Put_sp bp ((List.range k).map Int.ofNat) k (by rw [List.length_map, List.length_range]; omega)).frame _ _ _ T2.has (br3 A3)
        go_wp2_with (first | (go_at_call 202; refine hput.mono ?_; clear hput; rintro e w2 ⟨v2, h2, rfl, T3, A4⟩; obtain ⟨rfl, A5⟩ := and_mul_r A4))
        go_roundw
        case rel =>
          refine ⟨k + 1, by omega, rfl, h2, T2.trans T3, ?_⟩
          have A6 := ib3 A5
          refine slots_fold (s := ⟨f, List.replicate n ⟨0, false⟩, (List.range (k + 1)).map Int.ofNat, 0⟩) (v := v) (bp := bp) ?_
          rw [List.range_succ, List.map_append]
          exact A6
        case measure => simp [intOf]; omega
end Go.Proofs.YthnfiejdkhejlaaGreat
/- Package handletab: contracts. -/
namespace Go.Proofs.YthnfiejdkhejlaaGreat
open Go.RowKit Go.Sl Go.Shelf
structure Ent where (hd : Int) (owner : Int) (tag : Int) (off : Int) (len : Int)
def Ent.enc (e : Ent) : List Value := [.int .u64 e.hd, .int .i64 e.owner, .int .i64 e.tag, .int .i64 e.off, .int .i64 e.len]
def Ent.v (e : Ent) : Value := .agg #[.int .u64 e.hd, .int .i64 e.owner, .int .i64 e.tag, .int .i64 e.off, .int .i64 e.len]
def Ent.z : Ent := ⟨0, 0, 0, 0, 0⟩
structure Tb where (s : Slots) (en : List Ent)
def tbObj (bs : Nat) (v : Value) : Obj := .cells #[.pointer (some ⟨bs, 0, none⟩), v] 211 (0,0)
def Tb.as (bt : Nat) (t : Tb) : As := fun h => ∃ v bs, (pts bt (tbObj bs v) * (rowAs 128 5 v t.en.length (t.en.flatMap Ent.enc) * t.s.as bs)) h
theorem live_any (bt bs : Nat) (v : Value) (w : World) (hb : w.heap[bt]? = some (tbObj bs v)) : Calls Tryz.prog 131 #[.pointer (some ⟨bt, 0, none⟩)] w fun e w' => e = .returned (.pointer (some ⟨bs, 0, none⟩)) ∧ w' = w := by
  have c0 := blk_cell hb 0
  go_enter Tryz.func131, Tryz.ntmps131
  go_wp2
  go_ret
  exact ⟨rfl, rfl⟩
theorem _root_.Go.RowKit.Below.st {w W : World} (h : Below w.heap.size w W) (i : Nat) (v : Value) : Below w.heap.size w (W.setCell ⟨w.heap.size, i, none⟩ v) := h.setCell (p := ⟨w.heap.size, i, none⟩) (Nat.le_refl _) v
/-- What a word resolves to. -/
def Tb.res (t : Tb) (h : Int) : Ent × Int :=
  if t.s.sl.length ≤ (h % 16777216).toNat then (Ent.z, 10) else
  if t.s.of (h % 16777216).toNat = some (h / 16777216 % 4294967296) then
    if (t.en.getD (h % 16777216).toNat Ent.z).tag = h / 72057594037927936 then (t.en.getD (h % 16777216).toNat Ent.z, 0) else (Ent.z, 12)
  else (Ent.z, 11)
set_option maxHeartbeats 800000 in
theorem Resolve_rd (bt : Nat) (t : Tb) (x : Int) (hx : U64 x) (hm : t.s.sl.length ≤ 1048576) (hl : t.en.length = t.s.sl.length) :
    Rd Tryz.prog 88 #[.pointer (some ⟨bt, 0, none⟩), .int .u64 x] (t.as bt) (.tuple #[(t.res x).1.v, .int .i64 (t.res x).2]) := by
  rintro w h H ⟨v, bs, hA⟩
  have B := (Below.refl w.heap.size w).al (.cells #[.int .u64 0, .int .i64 0, .int .i64 0, .int .i64 0, .int .i64 0] 128)
  have BB := fun o => (Below.refl w.heap.size w).al o
  have HW := H.below B
  have hb := pts_get HW hA
  have hb0 := pts_get H hA
  obtain ⟨_, hrow⟩ := rowAs_cases (br2 hA)
  obtain ⟨xs, y, dj, rfl, hxs, hy⟩ := l3 hA
  have Hx := HW.unL
  obtain ⟨vs, bp, _, hbs, hv⟩ := slots_row Hx hxs
  have hsz := Size_any bs t.s vs bp t.s.sl.length _ (by unfold maxLen; omega) hbs (by rcases hv with ⟨h, h'⟩ | ⟨g, cap, h, _⟩; exact ⟨_, _, by rw [h, h']; rfl⟩; exact ⟨_, _, h⟩)
  have hlv := Live_same bs t.s (x % 16777216).toNat hm (by omega) _ xs Hx hxs
  have hli := live_any bt bs v _ hb
  have hk : (((x % 16777216).toNat : Nat) : Int) = x % 16777216 := by omega
  have hsl := fun w => Slot_any x hx w
  have hge := fun w => Gen_any x hx w
  have hta := fun w => Tag_any x hx w
  have c0 := blk_cell hb 0
  have c1 := blk_cell hb 1
  have hlts := lts (blk_lt hb0)
  rw [← hk] at hsl
  unfold Tb.res
  generalize (x % 16777216).toNat = k at *
  have HK := Lib.hid hk; clear hk
  by_cases q1 : t.s.sl.length ≤ k
  · rw [if_pos q1]
    have d1 : ((t.s.sl.length : Int) ≤ k) := by omega
    have HQ := Lib.hid q1; clear q1
    generalize t.s.sl.length = n at *
    clear hlv
    go_enter Tryz.func88, Tryz.ntmps88
    go_wp2_with (first | (go_at_call 89; refine (hsl _).mono ?_; rintro e w' ⟨rfl, rfl⟩) | (go_at_call 131; refine hli.mono ?_; rintro e w' ⟨rfl, rfl⟩) | (go_at_call 145; refine hsz.mono ?_; rintro e w' ⟨rfl, rfl⟩))
    refine bodyPost_ret (v := .tuple #[Ent.z.v, .int .i64 10]) (by simp [results, Tryz.results88, go_sem, Ent.v, Ent.z]) rfl ⟨rfl, B⟩
  · rw [if_neg q1]
    have d1 : ¬ ((t.s.sl.length : Int) ≤ k) := by omega
    have hek : t.en[k]? = some (t.en.getD k Ent.z) := by simp [List.getD, List.getElem?_eq_getElem (show k < t.en.length by omega)]
    rcases hrow with ⟨_, h0, _⟩ | ⟨g, cap, cur, rfl, hnc, hcm, hcs, htk, hp⟩
    · omega
    have hklt : k < t.en.length := by omega
    have hbg := pts_get HW hp
    have cell := fun j (u : Value) (hj : j < 5) (hu : (t.en.getD k Ent.z).enc[j]? = some u) => rowAs_cell (cap := cap) hbg htk (j := k * 5 + j) (u := u) (by rw [flat_get (enc := Ent.enc) (sz := 5) (fun _ => rfl) hj t.en k, hek]; exact hu)
    generalize t.en.getD k Ent.z = en at *
    have e0 := cell 0 _ (by decide) rfl
    have e1 := cell 1 _ (by decide) rfl
    have e2 := cell 2 _ (by decide) rfl
    have e3 := cell 3 _ (by decide) rfl
    have e4 := cell 4 _ (by decide) rfl
    rw [Nat.add_zero] at e0
    obtain ⟨eh, eo, et, ef, el⟩ := en
    simp only at *
    have HC := Lib.hid cell; have HE := Lib.hid hek; have HQ := Lib.hid q1; clear cell hek q1 hp htk hcs hA
    have HL := Lib.hid hl; clear hl
    generalize t.en.length = m at *
    generalize t.s.sl.length = n at *
    generalize t.s.of k = og at *
    rcases og with _ | og
    · simp only [Option.getD_none, Option.isSome_none] at hlv
      go_enter Tryz.func88, Tryz.ntmps88
      go_wp2_with (first | (go_at_call 89; refine (hsl _).mono ?_; rintro e w' ⟨rfl, rfl⟩) | (go_at_call 131; refine hli.mono ?_; rintro e w' ⟨rfl, rfl⟩) | (go_at_call 145; refine hsz.mono ?_; rintro e w' ⟨rfl, rfl⟩) | (go_at_call 146; refine hlv.mono ?_; rintro e w' ⟨rfl, rfl⟩))
      refine bodyPost_ret (v := .tuple #[Ent.z.v, .int .i64 11]) (by simp [results, Tryz.results88, go_sem, Ent.v, Ent.z]) rfl ⟨rfl, B⟩
    · simp only [Option.getD_some, Option.isSome_some] at hlv
      obtain ⟨gx, hgx⟩ : ∃ gx, x / 16777216 % 4294967296 = gx := ⟨_, rfl⟩
      obtain ⟨tx, htx⟩ : ∃ tx, x / 72057594037927936 = tx := ⟨_, rfl⟩
      rw [hgx] at hge ⊢
      rw [htx] at hta ⊢
      have HG := Lib.hid hgx; have HT := Lib.hid htx; clear hgx htx
      by_cases q2 : og = gx
      · subst q2
        rw [if_pos rfl]
        by_cases q3 : et = tx
        · subst q3
          rw [if_pos rfl]
          have q4 : (et == et) = true := by simp
          go_enter Tryz.func88, Tryz.ntmps88
          go_wp2_with (first | (go_at_call 89; refine (hsl _).mono ?_; rintro e w' ⟨rfl, rfl⟩) | (go_at_call 131; refine hli.mono ?_; rintro e w' ⟨rfl, rfl⟩) | (go_at_call 145; refine hsz.mono ?_; rintro e w' ⟨rfl, rfl⟩) | (go_at_call 146; refine hlv.mono ?_; rintro e w' ⟨rfl, rfl⟩) | (go_at_call 158; refine (hge _).mono ?_; rintro e w' ⟨rfl, rfl⟩))
          go_quiet (first | (with_reducible exact Calls.quiet_of_same (hta _)))
          go_wp2
          refine bodyPost_ret (v := .tuple #[.agg #[.int .u64 eh, .int .i64 eo, .int .i64 et, .int .i64 ef, .int .i64 el], .int .i64 0]) (by simp [results, Tryz.results88, go_sem]) rfl ⟨rfl, (((((B.drewN _).st 0 _).st 1 _).st 2 _).st 3 _).st 4 _⟩
        · rw [if_neg q3]
          have q4 : (et == tx) = false := by simpa using q3
          have HQ3 := Lib.hid q3; clear q3
          go_enter Tryz.func88, Tryz.ntmps88
          go_wp2_with (first | (go_at_call 89; refine (hsl _).mono ?_; rintro e w' ⟨rfl, rfl⟩) | (go_at_call 131; refine hli.mono ?_; rintro e w' ⟨rfl, rfl⟩) | (go_at_call 145; refine hsz.mono ?_; rintro e w' ⟨rfl, rfl⟩) | (go_at_call 146; refine hlv.mono ?_; rintro e w' ⟨rfl, rfl⟩) | (go_at_call 158; refine (hge _).mono ?_; rintro e w' ⟨rfl, rfl⟩))
          go_quiet (first | (with_reducible exact Calls.quiet_of_same (hta _)))
          go_wp2
          refine bodyPost_ret (v := .tuple #[Ent.z.v, .int .i64 12]) (by simp [results, Tryz.results88, go_sem, Ent.v, Ent.z]) rfl ⟨rfl, (((((B.drewN _).st 0 _).st 1 _).st 2 _).st 3 _).st 4 _⟩
      · have q3 : ¬ some og = some gx := by simpa using q2
        rw [if_neg q3]
        have q4 : (og == gx) = false := by simpa using q2
        have HQ3 := Lib.hid q3; have HQ2 := Lib.hid q2; clear q2 q3
        go_enter Tryz.func88, Tryz.ntmps88
        go_wp2_with (first | (go_at_call 89; refine (hsl _).mono ?_; rintro e w' ⟨rfl, rfl⟩) | (go_at_call 131; refine hli.mono ?_; rintro e w' ⟨rfl, rfl⟩) | (go_at_call 145; refine hsz.mono ?_; rintro e w' ⟨rfl, rfl⟩) | (go_at_call 146; refine hlv.mono ?_; rintro e w' ⟨rfl, rfl⟩) | (go_at_call 158; refine (hge _).mono ?_; rintro e w' ⟨rfl, rfl⟩))
        refine bodyPost_ret (v := .tuple #[Ent.z.v, .int .i64 11]) (by simp [results, Tryz.results88, go_sem, Ent.v, Ent.z]) rfl ⟨rfl, B⟩
end Go.Proofs.YthnfiejdkhejlaaGreat
/- Package handletab: Issue, Drop, Give, Full, Retired, Pool. -/
namespace Go.Proofs.YthnfiejdkhejlaaGreat
open Go.RowKit Go.Sl Go.Shelf
theorem isPlugin_any (p : Int) (w : World) : Calls Tryz.prog 130 #[.int .i64 p] w fun e w' => e = .returned (.bool (decide (1 ≤ p ∧ p ≤ 64))) ∧ w' = w := by
  by_cases h1 : 1 ≤ p
  · by_cases h2 : p ≤ 64
    · have : decide (1 ≤ p ∧ p ≤ 64) = true := decide_eq_true ⟨h1, h2⟩
      rw [this]
      go_enter Tryz.func130, Tryz.ntmps130
      go_wp2
      go_ret
      exact ⟨by simp, rfl⟩
    · have : decide (1 ≤ p ∧ p ≤ 64) = false := decide_eq_false (by omega)
      rw [this]
      go_enter Tryz.func130, Tryz.ntmps130
      go_wp2
      go_ret
      exact ⟨rfl, rfl⟩
  · have : decide (1 ≤ p ∧ p ≤ 64) = false := decide_eq_false (by omega)
    rw [this]
    go_enter Tryz.func130, Tryz.ntmps130
    go_wp2
    go_ret
    exact ⟨by simp, rfl⟩
theorem ent_set {cur : Array Value} {n i : Nat} {l : List Ent} {x y : Ent} (hl : l.length = n) (ht : cur.toList.take (n * 5) = l.flatMap Ent.enc) (hx : l[i]? = some x) :
    (((((cur.setIfInBounds (i * 5) (.int .u64 y.hd)).setIfInBounds (i * 5 + 1) (.int .i64 y.owner)).setIfInBounds (i * 5 + 2) (.int .i64 y.tag)).setIfInBounds (i * 5 + 3) (.int .i64 y.off)).setIfInBounds (i * 5 + 4) (.int .i64 y.len)).toList.take (n * 5) = (l.set i y).flatMap Ent.enc := by
  have hlt : i < l.length := (List.getElem?_eq_some_iff.1 hx).1
  have st : ∀ (a b : Ent) (j : Nat) (v : Value), j < 5 → b.enc = a.enc.set j v → ((l.set i a).flatMap Ent.enc).set (i * 5 + j) v = (l.set i b).flatMap Ent.enc := fun a b j v hj hb => by
    rw [flat_set (enc := Ent.enc) (sz := 5) (fun _ => rfl) (j := j) hj (x := a) (y := b) (v := v) (l.set i a) i (by rw [List.getElem?_set_self hlt]) hb, List.set_set]
  have h0 : l = l.set i x := by rw [(List.getElem?_eq_some_iff.1 hx).2.symm, List.set_getElem_self]
  have s1 := st x ⟨y.hd, x.owner, x.tag, x.off, x.len⟩ 0 (.int .u64 y.hd) (by decide) rfl
  have s2 := st ⟨y.hd, x.owner, x.tag, x.off, x.len⟩ ⟨y.hd, y.owner, x.tag, x.off, x.len⟩ 1 (.int .i64 y.owner) (by decide) rfl
  have s3 := st ⟨y.hd, y.owner, x.tag, x.off, x.len⟩ ⟨y.hd, y.owner, y.tag, x.off, x.len⟩ 2 (.int .i64 y.tag) (by decide) rfl
  have s4 := st ⟨y.hd, y.owner, y.tag, x.off, x.len⟩ ⟨y.hd, y.owner, y.tag, y.off, x.len⟩ 3 (.int .i64 y.off) (by decide) rfl
  have s5 := st ⟨y.hd, y.owner, y.tag, y.off, x.len⟩ y 4 (.int .i64 y.len) (by decide) rfl
  rw [Nat.add_zero, ← h0] at s1
  rw [take_set_row (by omega), take_set_row (by omega), take_set_row (by omega), take_set_row (by omega), take_set_row (by omega), ht, s1, s2, s3, s4, s5]
/-- A table after Issue. -/
def Tb.issue (t : Tb) (d : Nat) (e : Ent) : Tb := ⟨t.s.issue d, t.en.set (t.s.free.getD (d % t.s.free.length) 0).toNat e⟩
set_option maxHeartbeats 800000 in
theorem tbIssue_sp (bt : Nat) (t : Tb) (ow tg o l : Int) (d i : Nat) (x : Sl1) (how : 1 ≤ ow ∧ ow ≤ 64) (htg : 1 ≤ tg ∧ tg ≤ 255) (hd : (d : Int) < 18446744073709551616) (hf : t.s.free ≠ []) (hi : t.s.free.getD (d % t.s.free.length) 0 = i) (hx : t.s.sl[i]? = some x)
    (hg : 0 ≤ x.gen ∧ x.gen ≤ 4294967295) (hm : t.s.sl.length ≤ 1048576) (hm2 : t.s.free.length ≤ 1048576) (hen : t.en.length = t.s.sl.length) (hgg : 1 ≤ t.s.gen' i ∧ t.s.gen' i < 4294967296) :
    Sp Tryz.prog 59 #[.pointer (some ⟨bt, 0, none⟩), .int .i64 ow, .int .i64 tg, .agg #[.int .i64 o, .int .i64 l], .int .u64 d] (t.as bt)
      fun v h => v = .tuple #[.int .u64 (packI i (t.s.gen' i) tg), .int .i64 0] ∧ (t.issue d ⟨packI i (t.s.gen' i) tg, ow, tg, o, l⟩).as bt h := by
  rintro w h H ⟨v, bs, hA⟩
  have B := (Below.refl w.heap.size w).al (.cells #[.int .i64 o, .int .i64 l] 96)
  have HW := H.below B
  have hb := pts_get HW hA
  have hip := fun w => isPlugin_any ow w
  rw [decide_eq_true how] at hip
  have hli := live_any bt bs v _ hb
  have hit := fun B => (Issue_sp bs t.s d i x hd hf hi hx hg hm hm2).frame B
  have hlt : i < t.s.sl.length := (List.getElem?_eq_some_iff.1 hx).1
  have hpk := fun w => Pack_any i (t.s.gen' i) tg ⟨by omega, by omega⟩ hgg ⟨htg.1, by omega⟩ w
  have hlt0 := lts (blk_lt (pts_get H hA))
  generalize hgv : t.s.gen' i = gv at *
  have q1 : decide (tg < 1) = false := by simp; omega
  have q2 : decide (255 < tg) = false := by simp; omega
  have HGV := Lib.hid hgv; have HI := Lib.hid hi; have HX := Lib.hid hx; have HEN := Lib.hid hen; clear hgv hi hx hen
  go_enter Tryz.func59, Tryz.ntmps59
  go_wp2_with (first | (go_at_call 130; refine (hip _).mono ?_; rintro e w' ⟨rfl, rfl⟩) | (go_at_call 131; refine hli.mono ?_; rintro e w' ⟨rfl, rfl⟩) |
    (go_at_call 132; refine (hit _ _ _ HW (l3 hA)).mono ?_; clear hit; rintro e w1 ⟨v1, h1, rfl, T1, A1⟩; obtain ⟨rfl, A2⟩ := and_mul_r A1) | (go_at_call 133; refine (hpk _).mono ?_; rintro e w1 ⟨rfl, rfl⟩))
  have A3 := il3 A2
  have hb1 := pts_get T1.has A3
  have hx1 : w1.heap[w.heap.size]? = some (.cells #[.int .i64 o, .int .i64 l] 96 (0,0)) := (T1.keep w.heap.size (by rw [World.size_alloc]; omega) H.none_new).trans (heap_alloc_new w _)
  obtain ⟨_, hc⟩ := rowAs_cases (br2 A3)
  rcases hc with ⟨_, h0, _⟩ | ⟨g, cap, cur, rfl, hnc, hcm, hcs, htk, hp⟩
  · have := HEN.out; omega
  have hg1 := pts_get T1.has hp
  have hgb := pts_ne hp
  have hlti : i < t.en.length := by rw [HEN.out]; exact hlt
  have hek : t.en[i]? = some (t.en[i]) := List.getElem?_eq_getElem hlti
  have hes := ent_set (y := ⟨packI i gv tg, ow, tg, o, l⟩) rfl htk hek
  have hfz := fun j => blk_free hg1 j
  have cc : ∀ j, j < 5 → ∃ u, w1.cell? ⟨g, i * 5 + j, none⟩ = some u := fun j hj => by
    rw [blk_cell hg1]
    have : i * 5 + j < cur.size := by rw [hcs]; omega
    exact ⟨cur[i * 5 + j], Array.getElem?_eq_getElem this⟩
  have hgc := blk_lt hg1
  have T0 := (Tr.of_below H B).trans T1
  have HF : Hid (∀ W', Gr w1 W' → ∃ h2, Tr w (((((W'.setCell ⟨g, i * 5, none⟩ (.int .u64 (packI i gv tg))).setCell ⟨g, i * 5 + 1, none⟩ (.int .i64 ow)).setCell ⟨g, i * 5 + 2, none⟩ (.int .i64 tg)).setCell ⟨g, i * 5 + 3, none⟩ (.int .i64 o)).setCell ⟨g, i * 5 + 4, none⟩ (.int .i64 l)) h h2 ∧
      (t.issue d ⟨packI i gv tg, ow, tg, o, l⟩).as bt h2) := Lib.hid fun W' hW' => by
    have Ta := T0.belowStep hW'.below
    obtain ⟨k1, t1, a1⟩ := Ta.setA hp (i * 5) (.int .u64 (packI i gv tg))
    obtain ⟨k2, t2, a2⟩ := t1.setA a1 (i * 5 + 1) (.int .i64 ow)
    obtain ⟨k3, t3, a3⟩ := t2.setA a2 (i * 5 + 2) (.int .i64 tg)
    obtain ⟨k4, t4, a4⟩ := t3.setA a3 (i * 5 + 3) (.int .i64 o)
    obtain ⟨k5, t5, a5⟩ := t4.setA a4 (i * 5 + 4) (.int .i64 l)
    refine ⟨k5, t5, .slice (some ⟨g, 0, none⟩) t.en.length cap, bs, ?_⟩
    have := br2 (rowAs_mk (n := t.en.length) (xs := (t.en.set i ⟨packI i gv tg, ow, tg, o, l⟩).flatMap Ent.enc) (by rw [flat_len (sz := 5) (fun _ => rfl), List.length_set]) hnc hcm (by simpa using hcs) hes a5)
    simp only [Tb.issue, HI.out, Int.toNat_natCast, List.length_set]
    exact this
  clear hes hek htk hcs A2 A3 hp hA T0
  have HE := HEN
  generalize t.en.length = m at *
  refine wp_region_gt 11 (by kernel_rfl) (by kernel_rfl) ?_
  have g0 := gcells hb1 1
  have g1 := gcells hx1 0
  have g2 := gcells hx1 1
  simp only [List.take_succ_cons, List.take_zero, List.drop_succ_cons, List.drop_zero]
  repeat (go_big_quiet_step (fail))
  refine wpQuiet_nil ?_
  intro W' hW'
  have hgW := (hW'.below.block g hgc).trans hg1
  have cW := fun j => blk_cell hgW j
  obtain ⟨u0, v0⟩ := cc 0 (by decide)
  obtain ⟨u1, v1⟩ := cc 1 (by decide)
  obtain ⟨u2, v2⟩ := cc 2 (by decide)
  obtain ⟨u3, v3⟩ := cc 3 (by decide)
  obtain ⟨u4, v4⟩ := cc 4 (by decide)
  rw [Nat.add_zero] at v0
  rw [blk_cell hg1, ← cW] at v0 v1 v2 v3 v4
  have f0 := blk_free hgW (i * 5)
  have f1 := blk_free hgW (i * 5 + 1)
  have f2 := blk_free hgW (i * 5 + 2)
  have f3 := blk_free hgW (i * 5 + 3)
  have f4 := blk_free hgW (i * 5 + 4)
  obtain ⟨k5, T5, A5⟩ := HF.out W' hW'
  clear cW cc hfz
  go_wp2
  go_ret2
  exact ⟨_, k5, rfl, T5, rfl, A5⟩
/-- A table after Drop. -/
def Tb.drop (t : Tb) (k : Nat) (g : Int) : Tb := ⟨t.s.endS k g, t.en.set k Ent.z⟩
set_option maxHeartbeats 800000 in
theorem tbDrop_sp (bt : Nat) (t : Tb) (x : Int) (k : Nat) (gn : Int) (hx : U64 x) (hk : x % 16777216 = k) (hsl : t.s.sl[k]? = some ⟨gn, true⟩) (hres : (t.res x).2 = 0) (hm : t.s.sl.length ≤ 1048576) (hm2 : t.s.free.length ≤ 1048576) (hr : 0 ≤ t.s.ret ∧ t.s.ret ≤ 1048576) (hen : t.en.length = t.s.sl.length) :
    Sp Tryz.prog 149 #[.pointer (some ⟨bt, 0, none⟩), .int .u64 x] (t.as bt) fun v h => v = .int .i64 0 ∧ (t.drop k gn).as bt h := by
  rintro w h H hA
  have hrs := Resolve_rd bt t x hx hm hen w h H hA
  rw [hres] at hrs
  generalize (t.res x).1 = er at *
  obtain ⟨eh, eo, et, ef, el⟩ := er
  simp only [Ent.v] at hrs
  have hslot := fun w => Slot_any x hx w
  rw [hk] at hslot
  have hlt : k < t.s.sl.length := (List.getElem?_eq_some_iff.1 hsl).1
  have hend := fun bs B => (End_sp bs t.s k gn hsl hm hm2 hr).frame B
  have HSL := Lib.hid hsl; have HK := Lib.hid hk; have HEN := Lib.hid hen; have HR := Lib.hid hres
  clear hsl hk hen hres
  go_enter Tryz.func149, Tryz.ntmps149
  go_upto_region 5 with (first | (go_at_call 88; refine hrs.mono ?_; clear hrs; rintro e w1 ⟨rfl, B1⟩) | (go_at_call 89; refine (hslot _).mono ?_; rintro e w' ⟨rfl, rfl⟩))
  obtain ⟨W, hW⟩ : ∃ W, w1.alloc (.cells #[.int .u64 eh, .int .i64 eo, .int .i64 et, .int .i64 ef, .int .i64 el] 128) = W := ⟨_, rfl⟩
  have T1 := Tr.of_below H (B1.al (.cells #[.int .u64 eh, .int .i64 eo, .int .i64 et, .int .i64 ef, .int .i64 el] 128))
  rw [hW] at T1 ⊢
  clear hW
  obtain ⟨v, bs, hA1⟩ := hA
  have hb1 := pts_get T1.has hA1
  obtain ⟨_, hc⟩ := rowAs_cases (br2 hA1)
  rcases hc with ⟨_, h0, _⟩ | ⟨g, cap, cur, rfl, hnc, hcm, hcs, htk, hp⟩
  · have := HEN.out; omega
  have hg1 := pts_get T1.has hp
  have hgb := pts_ne hp
  have hlti : k < t.en.length := by rw [HEN.out]; exact hlt
  have hek : t.en[k]? = some (t.en[k]) := List.getElem?_eq_getElem hlti
  have hes := ent_set (y := Ent.z) rfl htk hek
  have c0 := blk_cell hb1 0
  have c1 := blk_cell hb1 1
  have cc : ∀ j, j < 5 → ∃ u, W.cell? ⟨g, k * 5 + j, none⟩ = some u := fun j hj => by
    rw [blk_cell hg1]
    have : k * 5 + j < cur.size := by rw [hcs]; omega
    exact ⟨cur[k * 5 + j], Array.getElem?_eq_getElem this⟩
  obtain ⟨u0, v0⟩ := cc 0 (by decide)
  obtain ⟨u1, v1⟩ := cc 1 (by decide)
  obtain ⟨u2, v2⟩ := cc 2 (by decide)
  obtain ⟨u3, v3⟩ := cc 3 (by decide)
  obtain ⟨u4, v4⟩ := cc 4 (by decide)
  rw [Nat.add_zero] at v0
  have f0 := blk_free hg1 (k * 5)
  have f1 := blk_free hg1 (k * 5 + 1)
  have f2 := blk_free hg1 (k * 5 + 2)
  have f3 := blk_free hg1 (k * 5 + 3)
  have f4 := blk_free hg1 (k * 5 + 4)
  obtain ⟨k1, t1, a1⟩ := T1.setA hp (k * 5) (.int .u64 0)
  obtain ⟨k2, t2, a2⟩ := t1.setA a1 (k * 5 + 1) (.int .i64 0)
  obtain ⟨k3, t3, a3⟩ := t2.setA a2 (k * 5 + 2) (.int .i64 0)
  obtain ⟨k4, t4, a4⟩ := t3.setA a3 (k * 5 + 3) (.int .i64 0)
  obtain ⟨k5, t5, a5⟩ := t4.setA a4 (k * 5 + 4) (.int .i64 0)
  have hlist : ((t.en.set k Ent.z).flatMap Ent.enc).length = t.en.length * 5 := by rw [flat_len (sz := 5) (fun _ => rfl), List.length_set]
  have A6 := br2 (rowAs_mk (n := t.en.length) (xs := (t.en.set k Ent.z).flatMap Ent.enc) hlist hnc hcm (by simpa using hcs) hes a5)
  have HD : Hid (∀ k', (pts bt (tbObj bs (.slice (some ⟨g, 0, none⟩) t.en.length cap)) * (rowAs 128 5 (.slice (some ⟨g, 0, none⟩) t.en.length cap) t.en.length ((t.en.set k Ent.z).flatMap Ent.enc) * (t.s.endS k gn).as bs)) k' → (t.drop k gn).as bt k') := Lib.hid fun k' hk' =>
    ⟨.slice (some ⟨g, 0, none⟩) t.en.length cap, bs, by simp only [Tb.drop, List.length_set]; exact hk'⟩
  clear hes hek htk hcs hA1 a1 a2 a3 a4 a5 t1 t2 t3 t4 hp hlist cc
  go_upto_region 6 with fail
  generalize ((((W.setCell ⟨g, k * 5, none⟩ (.int .u64 0)).setCell ⟨g, k * 5 + 1, none⟩ (.int .i64 0)).setCell ⟨g, k * 5 + 2, none⟩ (.int .i64 0)).setCell ⟨g, k * 5 + 3, none⟩ (.int .i64 0)).setCell ⟨g, k * 5 + 4, none⟩ (.int .i64 0) = W2 at *
  have hb2 := pts_get t5.has A6
  have d0 := blk_cell hb2 0
  have hend' := hend bs _ _ _ t5.has (l3 A6)
  clear hend c0 c1
  go_wp2_with (first | (go_at_call 191; refine hend'.mono ?_; clear hend'; rintro e w3 ⟨v3, h3, rfl, T3, A7⟩; obtain ⟨rfl, A8⟩ := and_mul_r A7))
  go_ret
  exact ⟨_, h3, rfl, t5.trans T3, rfl, HD.out _ (il3 A8)⟩
end Go.Proofs.YthnfiejdkhejlaaGreat
/- Package handletab: Give, Full, Retired, Pool, New. -/
namespace Go.Proofs.YthnfiejdkhejlaaGreat
open Go.RowKit Go.Sl Go.Shelf
def Tb.give (t : Tb) (k : Nat) (q : Int) : Tb := { t with en := t.en.set k { t.en.getD k Ent.z with owner := q } }
set_option maxHeartbeats 800000 in
theorem tbGive_sp (bt : Nat) (t : Tb) (x q : Int) (k : Nat) (hx : U64 x) (hk : x % 16777216 = k) (hq : 1 ≤ q ∧ q ≤ 64) (hlt : k < t.en.length) (hres : (t.res x).2 = 0) (hm : t.s.sl.length ≤ 1048576) (hen : t.en.length = t.s.sl.length) :
    Sp Tryz.prog 85 #[.pointer (some ⟨bt, 0, none⟩), .int .u64 x, .int .i64 q] (t.as bt) fun v h => v = .int .i64 0 ∧ (t.give k q).as bt h := by
  rintro w h H hA
  have hrs := Resolve_rd bt t x hx hm hen w h H hA
  rw [hres] at hrs
  generalize (t.res x).1 = er at *
  obtain ⟨eh, eo, et, ef, el⟩ := er
  simp only [Ent.v] at hrs
  have hslot := fun w => Slot_any x hx w
  rw [hk] at hslot
  have hip := fun w => isPlugin_any q w
  rw [decide_eq_true hq] at hip
  have HK := Lib.hid hk; have HEN := Lib.hid hen; have HR := Lib.hid hres
  clear hk hen hres
  go_enter Tryz.func85, Tryz.ntmps85
  go_upto_region 6 with (first | (go_at_call 88; refine hrs.mono ?_; clear hrs; rintro e w1 ⟨rfl, B1⟩) | (go_at_call 130; refine (hip _).mono ?_; rintro e w' ⟨rfl, rfl⟩))
  obtain ⟨W, hW⟩ : ∃ W, w1.alloc (.cells #[.int .u64 eh, .int .i64 eo, .int .i64 et, .int .i64 ef, .int .i64 el] 128) = W := ⟨_, rfl⟩
  have T1 := Tr.of_below H (B1.al (.cells #[.int .u64 eh, .int .i64 eo, .int .i64 et, .int .i64 ef, .int .i64 el] 128))
  rw [hW] at T1 ⊢
  clear hW
  obtain ⟨v, bs, hA1⟩ := hA
  have hb1 := pts_get T1.has hA1
  obtain ⟨_, hc⟩ := rowAs_cases (br2 hA1)
  rcases hc with ⟨_, h0, _⟩ | ⟨g, cap, cur, rfl, hnc, hcm, hcs, htk, hp⟩
  · omega
  have hg1 := pts_get T1.has hp
  have hek : t.en[k]? = some (t.en.getD k Ent.z) := by simp [List.getD, List.getElem?_eq_getElem hlt]
  have hes : (cur.setIfInBounds (k * 5 + 1) (.int .i64 q)).toList.take (t.en.length * 5) = (t.en.set k { t.en.getD k Ent.z with owner := q }).flatMap Ent.enc := by
    rw [take_set_row (by omega), htk]
    exact flat_set (enc := Ent.enc) (sz := 5) (fun _ => rfl) (j := 1) (by decide) (v := .int .i64 q) t.en k hek rfl
  have hgc := blk_lt hg1
  have hc1 : ∃ u, W.cell? ⟨g, k * 5 + 1, none⟩ = some u := by
    rw [blk_cell hg1]
    exact ⟨cur[k * 5 + 1]'(by rw [hcs]; omega), Array.getElem?_eq_getElem (by rw [hcs]; omega)⟩
  obtain ⟨u1, hu1⟩ := hc1
  have HF : Hid (∀ W', Gr W W' → ∃ h2, Tr w (W'.setCell ⟨g, k * 5 + 1, none⟩ (.int .i64 q)) h h2 ∧ (t.give k q).as bt h2) := Lib.hid fun W' hW' => by
    obtain ⟨k1, t1, a1⟩ := (T1.belowStep hW'.below).setA hp (k * 5 + 1) (.int .i64 q)
    refine ⟨k1, t1, .slice (some ⟨g, 0, none⟩) t.en.length cap, bs, ?_⟩
    have := br2 (rowAs_mk (n := t.en.length) (xs := (t.en.set k { t.en.getD k Ent.z with owner := q }).flatMap Ent.enc) (by rw [flat_len (sz := 5) (fun _ => rfl), List.length_set]) hnc hcm (by simpa using hcs) hes a1)
    simp only [Tb.give, List.length_set]
    exact this
  have HE := HEN
  clear hes hek htk hcs hA1 hp T1 HEN
  generalize t.en.length = m at *
  refine wp_region_gt 9 (by kernel_rfl) (by kernel_rfl) ?_
  have g0 := gcells hb1 1
  simp only [List.take_succ_cons, List.take_zero, List.drop_succ_cons, List.drop_zero]
  repeat (go_big_quiet_step (first | (with_reducible exact Calls.gr_of ((hslot _).mono fun _ _ hab => ⟨hab.1, hab.2 ▸ Below.refl _ _⟩))))
  refine wpQuiet_nil ?_
  intro W' hW'
  have hgW := (hW'.below.block g hgc).trans hg1
  have cW := blk_cell hgW (k * 5 + 1)
  rw [← blk_cell hg1, hu1] at cW
  have f1 := blk_free hgW (k * 5 + 1)
  obtain ⟨k5, T5, A5⟩ := HF.out W' hW'
  go_wp2
  go_ret
  exact ⟨_, k5, rfl, T5, rfl, A5⟩
theorem tbPool_sp (bt : Nat) (t : Tb) (hm : t.s.free.length ≤ 1048576) :
    Sp Tryz.prog 97 #[.pointer (some ⟨bt, 0, none⟩)] (t.as bt) fun v h => (rowAs 3 1 v t.s.free.length (t.s.free.map iv) * t.as bt) h := by
  rintro w h H ⟨v, bs, hA⟩
  have hli := live_any bt bs v w (pts_get H hA)
  have hpo := ((SlotsPool_sp bs t.s hm).frame _) w h H (l3 hA)
  go_enter Tryz.func97, Tryz.ntmps97
  go_wp2_with (first | (go_at_call 131; refine hli.mono ?_; clear hli; rintro e w' ⟨rfl, rfl⟩) | (go_at_call 163; refine hpo.mono ?_; clear hpo; rintro e w1 ⟨u, h1, rfl, T1, A1⟩))
  go_ret
  refine ⟨u, h1, rfl, T1, ?_⟩
  rw [As.assoc] at A1
  exact As.monoR (fun k hk => ⟨v, bs, il3 hk⟩) A1
theorem tbFull_sp (bt : Nat) (t : Tb) (hm : t.s.free.length ≤ 1048576) :
    Sp Tryz.prog 56 #[.pointer (some ⟨bt, 0, none⟩)] (t.as bt) fun v h => v = .bool t.s.free.isEmpty ∧ t.as bt h := by
  rintro w h H hA
  have hpo := tbPool_sp bt t hm w h H hA
  have hn : (((t.s.free.length : Nat) : Int) == 0) = t.s.free.isEmpty := by
    cases t.s.free with
    | nil => rfl
    | cons a l => simp; omega
  go_enter Tryz.func56, Tryz.ntmps56
  go_wp2_with (first | (go_at_call 97; refine hpo.mono ?_; clear hpo; rintro e w1 ⟨u, h1, rfl, T1, A1⟩; obtain ⟨ad, cp, rfl⟩ := rowAs_form A1))
  go_ret
  obtain ⟨y, hy, ht⟩ := row_drop A1 T1
  exact ⟨_, y, rfl, ht, by simp [hn], hy⟩
theorem tbRetired_rd (bt : Nat) (t : Tb) : Rd Tryz.prog 98 #[.pointer (some ⟨bt, 0, none⟩)] (t.as bt) (.int .i64 t.s.ret) := by
  rintro w h H ⟨v, bs, hA⟩
  have hli := live_any bt bs v w (pts_get H hA)
  obtain ⟨x, y, d, rfl, hx, hy⟩ := l3 hA
  have hre := Retired_rd bs t.s w x H.unL hx
  go_enter Tryz.func98, Tryz.ntmps98
  go_wp2_with (first | (go_at_call 131; refine hli.mono ?_; clear hli; rintro e w' ⟨rfl, rfl⟩) | (go_at_call 164; refine hre.mono ?_; clear hre; rintro e w1 ⟨rfl, B1⟩))
  go_ret
  exact ⟨rfl, B1⟩
theorem info_ent : (Tryz.prog.info? 128).map (fun i => (i.zero, i.size, i.bytes)) = some (some (.agg #[.int .u64 0, .int .i64 0, .int .i64 0, .int .i64 0, .int .i64 0]), 5, 40) := by kernel_rfl
def newTb (f : Int) (n : Nat) : Tb := ⟨newSlots f n, List.replicate n Ent.z⟩
theorem tbNew_any (n : Nat) (f : Int) (hn : n ≤ 4096) (h1 : 1 ≤ f) (h2 : f ≤ 4294967295) (w : World) (h : Hl) (X : As) (H : Has w h) (hX : X h) :
    Calls Tryz.prog 107 #[.int .i64 n, .int .i64 f] w fun e w' => ∃ bt h', e = .returned (.tuple #[.pointer (some ⟨bt, 0, none⟩), .int .i64 0]) ∧ Tr w w' h h' ∧ ((newTb f n).as bt * X) h' := by
  obtain ⟨i0, hi, hz0, hz1, hz2⟩ := info_parts info_ent
  have hmk := fun w => run_makeSlice (P := Tryz.prog) (w := w) 209 128 i0 _ Tryz.underlying209 hi hz0 .i64 .i64 n n (by omega) (by omega) (by rw [hz1]; simp; omega) (by rw [hz2]; simp; omega) (by omega)
  simp only [hz1, Int.toNat_natCast] at hmk
  have hgn := genNew_any n f hn h1 h2 w h X H hX
  have HN := Lib.hid hn; clear hn
  go_enter Tryz.func107, Tryz.ntmps107
  go_wp2_with (first | (go_at_call 169; refine hgn.mono ?_; clear hgn; rintro e w1 ⟨bs, h1, rfl, T1, A1⟩))
  obtain ⟨k, T2, A2⟩ := T1.allocA A1 (.cells (madeCells #[.int .u64 0, .int .i64 0, .int .i64 0, .int .i64 0, .int .i64 0] (n * 5)) 128)
  obtain ⟨k', T3, A3⟩ := T2.allocA A2 (tbObj bs (.slice (some ⟨w1.heap.size, 0, none⟩) n n))
  rw [World.size_alloc] at A3
  go_ret2
  refine ⟨_, k', rfl, T3, ?_⟩
  have hm := made_flat (enc := Ent.enc) (sz := 5) (fun _ => rfl) Ent.z #[.int .u64 0, .int .i64 0, .int .i64 0, .int .i64 0, .int .i64 0] rfl rfl (by decide) n
  have hnn := HN.out
  have h2 := rowAs_mk (e := 128) (sz := 5) (n := n) (xs := (List.replicate n Ent.z).flatMap Ent.enc) (by rw [flat_len (sz := 5) (fun _ => rfl), List.length_replicate]) (Nat.le_refl n) (by unfold maxLen; omega) (by rw [size_madeCells]) (by rw [hm, List.take_of_length_le]; rw [flat_len (sz := 5) (fun _ => rfl), List.length_replicate]; omega) (br2 A3)
  refine As.monoL (fun y hy => ?_) (sl4 h2)
  refine ⟨.slice (some ⟨w1.heap.size, 0, none⟩) n n, bs, ?_⟩
  simp only [newTb, List.length_replicate]
  exact hy
end Go.Proofs.YthnfiejdkhejlaaGreat
/- Package handletab: All. -/
namespace Go.Proofs.YthnfiejdkhejlaaGreat
open Go.RowKit Go.Sl Go.Shelf
attribute [local go_sem] Oper.semAt_some
theorem only_has {A : As} {h c : Hl} {w : World} (x : (A * Only h) c) (H : Has w c) : Has w h := by
  obtain ⟨p, q, d, rfl, _, rfl⟩ := x
  exact H.unR d
def boxT (bx bt : Nat) : As := pts bx (.cells #[.pointer (some ⟨bt, 0, none⟩)] 34 (0,0))
/-- The live slots below n, and their entries. -/
def Tb.upto (t : Tb) (n : Nat) : List (Nat × Ent) := (List.range n).filterMap fun k => if (t.s.of k).isSome then some (k, t.en.getD k Ent.z) else none
def Tb.all (t : Tb) : List (Nat × Ent) := t.upto t.s.sl.length
def allArgs (x : Nat × Ent) : Array Value := #[.int .i64 x.1, x.2.v]
theorem Tb.upto_some {t : Tb} {k : Nat} (h : (t.s.of k).isSome = true) : t.upto (k + 1) = t.upto k ++ [(k, t.en.getD k Ent.z)] := by simp [Tb.upto, List.range_succ, h]
theorem Tb.upto_none {t : Tb} {k : Nat} (h : (t.s.of k).isSome = false) : t.upto (k + 1) = t.upto k := by simp [Tb.upto, List.range_succ, h]
theorem Tb.upto_len (t : Tb) (k : Nat) : (t.upto k).length ≤ k := by
  have := List.length_filterMap_le (fun k => if (t.s.of k).isSome then some (k, t.en.getD k Ent.z) else none) (List.range k)
  simpa [Tb.upto] using this
theorem ent_cells {w : World} {e : Ent} {b : Nat} {T : TypeId} {fz : Nat × Nat} (hb : w.heap[b]? = some (.cells #[.int .u64 e.hd, .int .i64 e.owner, .int .i64 e.tag, .int .i64 e.off, .int .i64 e.len] T fz)) :
    ∀ j u, e.enc[j]? = some u → w.cell? ((⟨b, 0, none⟩ : Addr).add j) = some u := fun j u hu => by
  rw [Addr.add_lit, Nat.zero_add, blk_cell hb, ← hu]
  simp [Ent.enc]
/-- The two rows that All gathers. -/
def gath (v3 v4 : Value) (l : List (Nat × Ent)) (X : As) : As :=
  rowAs 3 1 v3 l.length (l.map fun x => .int .i64 x.1) * (rowAs 128 5 v4 l.length (l.flatMap fun x => x.2.enc) * X)
theorem TbAll1_it (bx bt : Nat) (t : Tb) (hm : t.s.sl.length ≤ 1048576) (hen : t.en.length = t.s.sl.length) : It Tryz.prog 144 #[.pointer (some ⟨bx, 0, none⟩)] (t.as bt) (boxT bx bt) (boxT bx bt) t.all allArgs := by
  intro ll J Jx hY w h R H hJ hT c hc Hc
  obtain ⟨x, y, d, rfl, ⟨v, bs, hA⟩, hR⟩ := hT
  have Hx : Has w x := H.unL
  have hb := pts_get Hx hA
  obtain ⟨xs, ys, dj, hxe, hxs, hys⟩ := l3 hA
  have hxss : ∀ {w : World}, Has w x → Has w xs := fun Hw => by rw [hxe] at Hw; exact Hw.unL
  obtain ⟨vs, bp, _, hbs, hv⟩ := slots_row (hxss Hx) hxs
  have hsz := Size_any bs t.s vs bp t.s.sl.length w (by unfold maxLen; omega) hbs (by rcases hv with ⟨h, h'⟩ | ⟨g, cap, h, _⟩; exact ⟨_, _, by rw [h, h']; rfl⟩; exact ⟨_, _, h⟩)
  have hli := live_any bt bs v w hb
  have hbx := pts_get Hc hc
  have cx := blk_cell hbx 0
  have HEN := Lib.hid hen; clear hen
  (refine callsIn_of_wp Tryz.func144 rfl trivial ?_ rfl; simp only [Tryz.ntmps144, List.size_toArray, List.length_cons, List.length_nil, Nat.reduceAdd, Nat.reduceSub, Array.replicate_succ, Array.replicate_zero, List.push_toArray, List.append_toArray, List.nil_append, List.cons_append])
  gi_wp2_with (first | (refine ⟨trivial, ?_⟩; gi_at_call 131; refine (callsIn_wide.2 hli).mono ?_; clear hli; rintro e w' ⟨rfl, rfl⟩) | (refine ⟨trivial, ?_⟩; gi_at_call 145; refine (callsIn_wide.2 hsz).mono ?_; clear hsz; rintro e w ⟨rfl, rfl⟩))
  gi_loopw [3, 4, 13] (fun s3 s4 i wr => ∃ k : Nat, k ≤ t.s.sl.length ∧ i = .int .i64 k ∧ ∃ c', Tr w wr c c' ∧ gath s3 s4 (t.upto k) (boxT bx bt * Only (x.un y)) c') (fun s3 s4 i wr => t.s.sl.length - (intOf i).toNat)
  case atStart => exact ⟨0, by omega, rfl, c, Tr.refl Hc, rowAs.nil _ _ _ (rowAs.nil _ _ _ hc)⟩
  case round =>
    obtain ⟨k, hk, rfl, c', T1, A1⟩ := hrel
    by_cases hkn : k = t.s.sl.length
    · subst hkn
      have A2 : gath u3 u4 t.all (boxT bx bt * J []) c' := As.monoR (fun _ hz => As.monoR (fun _ hz => As.monoR (fun _ hz => by cases hz; exact hJ) hz) hz) A1
      clear A1
      obtain ⟨ad3, cp3, rfl⟩ := rowAs_form A2
      obtain ⟨ad4, cp4, rfl⟩ := rowAs_form (br2 A2)
      have hal : t.all.length ≤ 1048576 := Nat.le_trans (t.upto_len _) hm
      have HU : Hid (t.upto t.s.sl.length = t.all) := Lib.hid rfl
      change gath (.slice ad3 t.all.length cp3) (.slice ad4 t.all.length cp4) t.all _ _ at A2
      generalize hall : t.upto t.s.sl.length = al at *
      have hall' : t.all = al := hall
      rw [hall'] at A2 hY hal ⊢
      have HL := Lib.hid hall; have HL' := Lib.hid hall'
      clear hall hall'
      generalize t.s.sl.length = n at *
      gi_wp2
      gi_loopw [43] (fun i wr' => ∃ j : Nat, j ≤ al.length ∧ i = .int .i64 j ∧ ∃ c'', Tr w wr' c c'' ∧ gath (.slice ad3 al.length cp3) (.slice ad4 al.length cp4) al (boxT bx bt * J (al.take j)) c'') (fun i wr => al.length - (intOf i).toNat)
      case atStart => exact ⟨0, by omega, rfl, c', T1, A2⟩
      case round =>
        obtain ⟨j, hj, rfl, c2, T2, A3⟩ := hrel
        by_cases hjm : j = al.length
        · subst hjm
          gi_wp2
          go_end0
          rw [List.take_length] at A3
          obtain ⟨y1, hy1, t1⟩ := row_drop A3 T2
          obtain ⟨y2, hy2, t2⟩ := row_drop hy1 t1
          exact ⟨⟨_, rfl⟩, y2, t2, .inl (by rw [HL'.out]; exact hy2)⟩
        · have hj3 : j < al.length := by omega
          have hw1 := w64 ((j : Int) + 1) (by omega)
          have hxs : al = al.take j ++ al[j] :: al.drop (j + 1) := by rw [← List.drop_eq_getElem_cons hj3, List.take_append_drop]
          have htk : al.take (j + 1) = al.take j ++ [al[j]] := List.take_succ_eq_append_getElem hj3
          obtain ⟨g3, p3, hcc3, hc3⟩ := row_cell T2.has A3 (j := j) (u := .int .i64 al[j].1) (by simp [hj3])
          cases hcc3
          have ef : ∀ i, i < 5 → ∀ u, al[j].2.enc[i]? = some u → _ := fun i hi u hu => row_cell T2.has (br2 A3) (j := j * 5 + i) (u := u) (by rw [flat_get (enc := fun x : Nat × Ent => x.2.enc) (sz := 5) (fun _ => rfl) hi al j, List.getElem?_eq_getElem hj3]; exact hu)
          obtain ⟨g4, p4, hcc4, e0⟩ := ef 0 (by decide) _ rfl
          cases hcc4
          obtain ⟨_, _, hcc, e1⟩ := ef 1 (by decide) _ rfl
          cases hcc
          obtain ⟨_, _, hcc, e2⟩ := ef 2 (by decide) _ rfl
          cases hcc
          obtain ⟨_, _, hcc, e3⟩ := ef 3 (by decide) _ rfl
          cases hcc
          obtain ⟨_, _, hcc, e4⟩ := ef 4 (by decide) _ rfl
          cases hcc
          rw [Nat.add_zero] at e0
          obtain ⟨fn, tmps, assign, body, hy, hR⟩ := ((hY _ _ _ hxs).frame (rowAs 3 1 (.slice (some ⟨g3, 0, none⟩) al.length cp3) al.length (al.map fun x => .int .i64 x.1) * (rowAs 128 5 (.slice (some ⟨g4, 0, none⟩) al.length cp4) al.length (al.flatMap fun x => x.2.enc) * boxT bx bt))) wr c2 T2.has (by rw [As.comm, As.assoc, As.assoc]; exact A3)
          obtain ⟨xj, hxj⟩ : ∃ xj, al[j] = xj := ⟨_, rfl⟩
          rw [hxj] at hy hR hc3 e0 e1 e2 e3 e4
          simp only [allArgs, Ent.v] at hy
          have HX := Lib.hid hxs; have HT := Lib.hid htk; have HXJ := Lib.hid hxj
          clear hxs htk ef hxj
          gi_wp2
          refine hR.mono ?_
          rintro e W3 ⟨h3, T3, (⟨rfl, hJ3⟩ | ⟨rfl, hJx3⟩)⟩
          · gi_wp2
            go_roundw
            case rel =>
              refine ⟨j + 1, by omega, rfl, h3, T2.trans T3, ?_⟩
              rw [HT.out, HXJ.out]
              rw [As.comm, As.assoc, As.assoc] at hJ3
              exact hJ3
            case measure => simp [intOf]; omega
          · gi_wp2
            refine bodyPost_ret (results_none rfl _ _ _) rfl ?_
            refine ⟨⟨_, rfl⟩, ?_⟩
            rw [As.comm, As.assoc, As.assoc] at hJx3
            obtain ⟨y1, hy1, t1⟩ := row_drop hJx3 (T2.trans T3)
            obtain ⟨y2, hy2, t2⟩ := row_drop hy1 t1
            refine ⟨y2, t2, .inr ⟨_, _, _, HL'.out.trans HX.out, ?_⟩⟩
            rw [HXJ.out]; exact hy2
    · have hk3 : k < t.s.sl.length := by omega
      have hw1 := w64 ((k : Int) + 1) (by omega)
      have hH := only_has (A := rowAs 3 1 u3 (t.upto k).length ((t.upto k).map fun x => .int .i64 x.1) * (rowAs 128 5 u4 (t.upto k).length ((t.upto k).flatMap fun x => x.2.enc) * boxT bx bt)) (by rw [As.assoc, As.assoc]; exact A1) T1.has
      have Hx' : Has wr x := hH.unL
      have hb' := pts_get Hx' hA
      have hbx' := pts_get T1.has (br3 A1)
      have hlv := Live_same bs t.s k hm (by omega) wr xs (hxss Hx') hxs
      have cx' := blk_cell hbx' 0
      have d0 := blk_cell hb' 0
      have d1 := blk_cell hb' 1
      have hlen := t.upto_len k
      generalize (t.s.of k).getD 0 = gv at hlv
      cases hl : (t.s.of k).isSome with
      | false =>
        rw [hl] at hlv
        have HU := Lib.hid (Tb.upto_none hl)
        clear hl
        gi_wp2_with (first | (refine ⟨trivial, ?_⟩; gi_at_call 146; refine (callsIn_wide.2 hlv).mono ?_; clear hlv; rintro e wr ⟨rfl, rfl⟩))
        go_roundw
        case rel => exact ⟨k + 1, by omega, rfl, c', T1, by rw [HU.out]; exact A1⟩
        case measure => simp [intOf]; omega
      | true =>
        rw [hl] at hlv
        have HU := Lib.hid (Tb.upto_some hl)
        clear hl
        obtain ⟨_, hrow⟩ := rowAs_cases (br2 hA)
        rcases hrow with ⟨_, h0, _⟩ | ⟨g, cap, cur, rfl, hnc, hcm, hcs, htk, hp⟩
        · have := HEN.out; omega
        have hbg := pts_get Hx' hp
        have hltm : k < t.en.length := by rw [HEN.out]; exact hk3
        have hek : t.en[k]? = some (t.en.getD k Ent.z) := by simp [List.getD, List.getElem?_eq_getElem hltm]
        have cell := fun (W : World) (HW : Has W x) j (u : Value) (hj : j < 5) (hu : (t.en.getD k Ent.z).enc[j]? = some u) => rowAs_cell (cap := cap) (pts_get HW hp) htk (j := k * 5 + j) (u := u) (by rw [flat_get (enc := Ent.enc) (sz := 5) (fun _ => rfl) hj t.en k, hek]; exact hu)
        generalize hen : t.en.getD k Ent.z = en at *
        obtain ⟨i0, hi, hz0, hz1, hz2⟩ := info_parts info_int
        obtain ⟨i1, hi', hz0', hz1', hz2'⟩ := info_parts info_ent
        have B := (Below.refl wr.heap.size wr).al (.cells #[.int .i64 k] 3)
        obtain ⟨v3, w3, c3, hrun3, T3, A3⟩ := row_append (P := Tryz.prog) (w := wr.alloc (.cells #[.int .i64 k] 3)) (ty := 67) (T1.has.below B) A1 Tryz.underlying67 hi hz0 hz1 rfl ⟨wr.heap.size, 0, none⟩ 1 1 [.int .i64 k] rfl (cell_one_new _ _ _) (by simp [Value.oneCell']) (by unfold maxLen; omega) (by rw [hz2]; omega)
        obtain ⟨ad3, cp3, rfl⟩ := rowAs_form A3
        have T3' := (Tr.of_below T1.has B).trans T3
        have B3 := (Below.refl w3.heap.size w3).al (.cells #[.int .u64 en.hd, .int .i64 en.owner, .int .i64 en.tag, .int .i64 en.off, .int .i64 en.len] 128)
        obtain ⟨v4, w4, c4, hrun4, T4, A4⟩ := row_append (P := Tryz.prog) (w := w3.alloc (.cells #[.int .u64 en.hd, .int .i64 en.owner, .int .i64 en.tag, .int .i64 en.off, .int .i64 en.len] 128)) (ty := 209) (T3.has.below B3) (br2 A3) Tryz.underlying209 hi' hz0' hz1' rfl ⟨w3.heap.size, 0, none⟩ 1 1 en.enc rfl (ent_cells (heap_alloc_new w3 _)) (by simp [Ent.enc, Value.oneCell']) (by unfold maxLen; omega) (by rw [hz2']; omega)
        obtain ⟨ad4, cp4, rfl⟩ := rowAs_form A4
        have T5 := T3'.trans ((Tr.of_below T3.has B3).trans T4)
        have hH3 := only_has (A := rowAs 3 1 (.slice ad3 ((t.upto k).length + 1) cp3) ((t.upto k).length + 1) ((t.upto k).map (fun x => .int .i64 x.1) ++ [.int .i64 k]) * (rowAs 128 5 u4 (t.upto k).length ((t.upto k).flatMap fun x => x.2.enc) * boxT bx bt)) (by rw [As.assoc, As.assoc]; exact A3) T3.has
        have Hx3 : Has w3 x := hH3.unL
        have e0 := cell w3 Hx3 0 _ (by decide) rfl
        have e1 := cell w3 Hx3 1 _ (by decide) rfl
        have e2 := cell w3 Hx3 2 _ (by decide) rfl
        have e3 := cell w3 Hx3 3 _ (by decide) rfl
        have e4 := cell w3 Hx3 4 _ (by decide) rfl
        rw [Nat.add_zero] at e0
        have hb3 := pts_get Hx3 hA
        have hbx3 := pts_get T3.has (br3 A3)
        have cx3 := blk_cell hbx3 0
        have d13 := blk_cell hb3 1
        have HFIN : Hid (gath (.slice ad3 ((t.upto k).length + 1) cp3) (.slice ad4 ((t.upto k).length + 1) cp4) (t.upto (k + 1)) (boxT bx bt * Only (x.un y)) c4) := Lib.hid (by
          rw [HU.out]
          unfold gath
          simp only [List.length_append, List.map_append, List.flatMap_append, List.length_cons, List.length_nil, List.map_cons, List.map_nil, List.flatMap_cons, List.flatMap_nil, List.append_nil, Nat.zero_add]
          exact br2 A4)
        have HT5 := Lib.hid T5
        have HEK := Lib.hid hek
        clear cell hek htk hcs A1 A3 A4 hH3 hH T5 T3' T4 hp B B3
        gi_wp2_with (first | (refine ⟨trivial, ?_⟩; gi_at_call 146; refine (callsIn_wide.2 hlv).mono ?_; clear hlv; rintro e wr ⟨rfl, rfl⟩) | (gi_at_builtin; refine wpListIn_append (fun _ => trivial) _ _ _ rfl rfl hrun3 ?_) | (gi_at_builtin; refine wpListIn_append (fun _ => trivial) _ _ _ rfl rfl hrun4 ?_))
        go_roundw
        case rel => exact ⟨k + 1, by omega, rfl, c4, T1.trans HT5.out, HFIN.out⟩
        case measure => simp [intOf]; omega
theorem TbAll_any (bt : Nat) (w : World) (h : Hl) (X : As) (H : Has w h) (hX : X h) :
    Calls Tryz.prog 68 #[.pointer (some ⟨bt, 0, none⟩)] w fun e w' => ∃ bx h', e = .returned (.func (.func 144) #[] #[.pointer (some ⟨bx, 0, none⟩)]) ∧ Tr w w' h h' ∧ (boxT bx bt * X) h' := by
  obtain ⟨k, T, A⟩ := (Tr.refl H).allocA hX (.cells #[.pointer (some ⟨bt, 0, none⟩)] 34)
  have HP := Lib.hid (show ∃ bx h', Ending.returned (.func (.func 144) #[] #[.pointer (some ⟨w.heap.size, 0, none⟩)]) = .returned (.func (.func 144) #[] #[.pointer (some ⟨bx, 0, none⟩)]) ∧ Tr w _ h h' ∧ (boxT bx bt * X) h' from ⟨_, k, rfl, T, A⟩)
  clear T A
  go_enter Tryz.func68, Tryz.ntmps68
  go_wp2
  go_ret
  exact HP.out
end Go.Proofs.YthnfiejdkhejlaaGreat
