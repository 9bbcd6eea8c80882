/- Package quota: contracts, second part. -/
import Derived.Shelf.Abstract
import Derived.Shelf.RegionOpen
import Derived.Test.YthnfiejdkhejlaaGreatJ01
set_option linter.all false
set_option maxRecDepth 100000
namespace Go.Proofs.YthnfiejdkhejlaaGreat
open Go.RowKit Go.Sl
theorem Get_rd (bm : Nat) (s : Met) (p : Int) : Rd Tryz.prog 92 #[.pointer (some ⟨bm, 0, none⟩), .int .i64 p] (s.as bm) (Qt.v (s.get p)) := by
  rintro w h H hA
  obtain ⟨r, hA', hb, hlk⟩ := Met.as_open H hA
  have hlk := fun W hW => hlk W hW p
  generalize s.get p = x at *
  obtain ⟨xb, xo, xr⟩ := x
  simp only [Qt.v] at *
  have c3 := blk_cell hb 3
  have hlts := lts (blk_lt hb)
  have B1 := (Below.refl w.heap.size w).al (.cells #[.int .i64 0, .int .i64 0, .int .i64 0] 79)
  go_enter Tryz.func92, Tryz.ntmps92
  go_wp2_with (first | (at_lookup; refine wpList_lookup _ _ _ rfl rfl (hlk _ B1) ?_))
  refine bodyPost_ret (v := .agg #[.int .i64 xb, .int .i64 xo, .int .i64 xr]) (by simp [results, Tryz.results92, go_sem]) rfl ⟨rfl, (Below.refl _ _).al _⟩
def Met.sub (s : Met) (p : Int) (q : Qt) : Met := ⟨s.lim, AL.set s.m p ⟨(s.get p).b - q.b, (s.get p).o - q.o, (s.get p).r - q.r⟩⟩
set_option maxHeartbeats 400000 in
theorem Sub_sp (bm : Nat) (s : Met) (p : Int) (q : Qt) (hq : q.ok) (hs : s.ok) (hle : q.b ≤ (s.get p).b ∧ q.o ≤ (s.get p).o ∧ q.r ≤ (s.get p).r) (hne : s.m ≠ []) :
    Sp Tryz.prog 70 #[.pointer (some ⟨bm, 0, none⟩), .int .i64 p, q.v] (s.as bm) fun v h => v = .int .i64 0 ∧ (s.sub p q).as bm h := by
  rintro w h H hA
  have hget := fun w H => Get_rd bm s p w h H hA
  have hl := hs.le p
  have hl2 := hs.lim
  have hneg := fun W => neg_any q W hq
  obtain ⟨r, hA', hb, _⟩ := Met.as_open H hA
  unfold Met.sub
  generalize s.get p = x at *
  obtain ⟨qb, qo, qr⟩ := q
  obtain ⟨xb, xo, xr⟩ := x
  have b1 := hl2.b1
  have b2 := hl2.o1
  have b3 := hl2.r1
  obtain ⟨q1, q2, q3, _, _, _⟩ := hq
  have hst := fun b W h1 T hA => Met.store (bm := bm) (b := b) (s := s) (w := w) (W := W) (h := h) (h1 := h1) T hA p ⟨xb - qb, xo - qo, xr - qr⟩
  simp only [Qt.v] at *
  clear hs hl2
  obtain ⟨l1, l2, l3⟩ := hle
  have e1 : decide (xb < qb) = false := by simpa using l1
  have e2 : decide (xo < qo) = false := by simpa using l2
  have e3 : decide (xr < qr) = false := by simpa using l3
  cases r with
  | none => obtain ⟨_, _, _, _, _, hm, _⟩ := hA'; exact absurd hm hne
  | some b =>
  go_enter Tryz.func70, Tryz.ntmps70
  go_wp2_with fail
  have B1 := (Below.refl w.heap.size w).al (.cells #[.int .i64 qb, .int .i64 qo, .int .i64 qr] 79)
  refine (hget _ (H.below B1)).mono ?_
  rintro e w1 ⟨rfl, B2⟩
  have B3 := B1.trans (B2.mono B1.size)
  have hb1 := (B3.block bm (blk_lt hb)).trans hb
  have hq1 := (B2.block _ (by simp)).trans (heap_alloc_new w (.cells #[.int .i64 qb, .int .i64 qo, .int .i64 qr] 79))
  have hne := fun W r => run_neq_map_nil (P := Tryz.prog) W 200 _ _ r Tryz.underlying200
  have c3 := blk_cell hb1 3
  have hlts := lts (blk_lt hb1)
  have hltq := lts (blk_lt hq1)
  have Bq0 := blk_cell hq1 0
  have Bq1 := blk_cell hq1 1
  have Bq2 := blk_cell hq1 2
  go_wp2_with (first | (go_at_call 126; refine (hneg _).mono ?_; rintro e w' ⟨rfl, rfl⟩))
  have T2 := ((Tr.of_below H B3).alloc (.cells #[.int .i64 xb, .int .i64 xo, .int .i64 xr] 79)).alloc (.cells #[.int .i64 qb, .int .i64 qo, .int .i64 qr] 79)
  have B4 := (((Below.refl _ w1).al (.cells #[.int .i64 xb, .int .i64 xo, .int .i64 xr] 79)).al (.cells #[.int .i64 qb, .int .i64 qo, .int .i64 qr] 79))
  have hxW := (Below.heap_alloc _ (.cells #[.int .i64 qb, .int .i64 qo, .int .i64 qr] 79) w1.heap.size (by simp)).trans (heap_alloc_new w1 (.cells #[.int .i64 xb, .int .i64 xo, .int .i64 xr] 79))
  have hbW := (B4.block bm (blk_lt hb1)).trans hb1
  have hqW := (B4.block w.heap.size (blk_lt hq1)).trans hq1
  generalize (w1.alloc _).alloc _ = W at *
  refine wp_region_gt 21 (by kernel_rfl) (by kernel_rfl) ?_
  have g0 := gcells hbW 3
  have g1 := gcells hxW 0
  have g2 := gcells hxW 1
  have g3 := gcells hxW 2
  have g4 := gcells hqW 0
  have g5 := gcells hqW 1
  have g6 := gcells hqW 2
  simp only [List.take_succ_cons, List.take_zero, List.drop_succ_cons, List.drop_zero]
  repeat (go_big_quiet_step (fail))
  refine wpQuiet_nil ?_
  intro W' hW'
  obtain ⟨W2, h2, hrun, T3, hA2⟩ := hst b W' h (T2.belowStep hW'.below) hA'
  refine wpList_mapUpdate _ _ _ rfl rfl rfl hrun ?_
  go_wp2
  go_ret
  exact ⟨_, _, rfl, T3, rfl, hA2⟩
theorem Reset_sp (bm : Nat) (s : Met) (p : Int) : Sp Tryz.prog 72 #[.pointer (some ⟨bm, 0, none⟩), .int .i64 p] (s.as bm) fun v h => v = .tuple #[] ∧ Met.as bm ⟨s.lim, AL.del s.m p⟩ h := by
  rintro w h H hA
  obtain ⟨r, hA', hb, _⟩ := Met.as_open H hA
  have c3 := blk_cell hb 3
  cases r with
  | none =>
    have hm : s.m = [] := by obtain ⟨_, _, _, _, _, hm, _⟩ := hA'; exact hm
    have hd := fun W => run_delete_nil (P := Tryz.prog) klI (w := W) 0 #[200, 3] Tryz.underlying200 p rfl
    go_enter Tryz.func72, Tryz.ntmps72
    go_wp2_with (first | (with_reducible refine wpList_delete _ _ rfl rfl (hd _) ?_))
    go_end0
    exact ⟨_, h, rfl, Tr.refl H, rfl, none, by rw [hm] at hA' ⊢; exact hA'⟩
  | some b =>
    have hA2 := hA'
    rw [As.comm] at hA2
    obtain ⟨es, c, hE, hp⟩ := mapP_some hA2
    obtain ⟨es', c', hrun, hE'⟩ := run_delete (P := Tryz.prog) klI 0 #[200, 3] Tryz.underlying200 (pts_get H hp) hE p rfl
    have hA3 := mapP_mk (ek := Value.int .i64) hE' (pts_set (.map es' c') hp)
    rw [As.comm] at hA3
    go_enter Tryz.func72, Tryz.ntmps72
    go_wp2_with (first | (with_reducible refine wpList_delete _ _ rfl rfl hrun ?_))
    go_end0
    exact ⟨_, _, rfl, (Tr.refl H).putOwn (pts_at hp) _, rfl, some b, hA3⟩
theorem quotaNew_sp (q : Qt) : Sp Tryz.prog 105 #[q.v] 1 fun v h => ∃ bm, v = .pointer (some ⟨bm, 0, none⟩) ∧ Met.as bm ⟨q, []⟩ h := by
  rintro w h H hA
  obtain ⟨qb, qo, qr⟩ := q
  simp only [Qt.v] at *
  go_enter Tryz.func105, Tryz.ntmps105
  go_wp2
  go_ret
  have T1 := ((Tr.refl H).alloc (.cells #[.int .i64 qb, .int .i64 qo, .int .i64 qr] 79)).allocOwn (.cells #[.int .i64 qb, .int .i64 qo, .int .i64 qr, .map none] 202)
  have hA2 := pts_new (.cells #[.int .i64 qb, .int .i64 qo, .int .i64 qr, .map none] 202) ((H.below ((Below.refl w.heap.size w).al (.cells #[.int .i64 qb, .int .i64 qo, .int .i64 qr] 79))).none_new) hA
  have hs : (w.alloc (.cells #[.int .i64 qb, .int .i64 qo, .int .i64 qr] 79)).heap.size = w.heap.size + 1 := by simp
  rw [hs] at T1 hA2
  exact ⟨_, _, rfl, T1, _, rfl, none, As.monoR (fun y hy => ⟨rfl, hy⟩) hA2⟩
end Go.Proofs.YthnfiejdkhejlaaGreat
/- Package handle: contracts. -/
namespace Go.Proofs.YthnfiejdkhejlaaGreat
open Go.RowKit Go.Sl
def U64 (x : Int) : Prop := 0 ≤ x ∧ x < 18446744073709551616
theorem and_mask (k : Nat) (x m p : Int) (hp : p = ((2 ^ k : Nat) : Int)) (hm : m = p - 1) (hk : k ≤ 63) (h : U64 x) : bits .and .u64 x m = x % p := by
  obtain ⟨n, rfl⟩ := Int.eq_ofNat_of_zero_le h.1
  have hpow : 2 ^ k ≤ 2 ^ 63 := Nat.pow_le_pow_right (by omega) hk
  have hpos : 0 < 2 ^ k := Nat.pow_pos (by omega)
  have hm' : m = ((2 ^ k - 1 : Nat) : Int) := by subst hp; subst hm; omega
  have h1 := h.2
  rw [hm', bits_and_u64_nat n (2 ^ k - 1) (by omega) (by omega), Nat.and_two_pow_sub_one_eq_mod, hp]
  rfl
theorem or_high (k : Nat) (x y p : Int) (hp : p = ((2 ^ k : Nat) : Int)) (hx : 0 ≤ x ∧ x < p) (hy : 0 ≤ y) (h : U64 (x + y * p)) : bits .or .u64 x (y * p) = x + p * y := by
  obtain ⟨n, rfl⟩ := Int.eq_ofNat_of_zero_le hx.1
  obtain ⟨m, rfl⟩ := Int.eq_ofNat_of_zero_le hy
  subst hp
  obtain ⟨h0, h1⟩ := h
  have hn : n < 2 ^ k := by omega
  have e : ((m : Nat) : Int) * ((2 ^ k : Nat) : Int) = ((2 ^ k * m : Nat) : Int) := by rw [Int.natCast_mul, Int.mul_comm]
  rw [e] at h1 ⊢
  rw [bits_or_u64_nat n (2 ^ k * m) (by omega) (by omega), Nat.or_comm, ← Nat.two_pow_add_eq_or_of_lt hn]
  push_cast
  omega
theorem Slot_any (x : Int) (hx : U64 x) (w : World) : Calls Tryz.prog 89 #[.int .u64 x] w fun e w' => e = .returned (.int .i64 (x % 16777216)) ∧ w' = w := by
  have hm := and_mask 24 x 16777215 16777216 (by decide) (by decide) (by decide) hx
  have hw : wrap64 (x % 16777216) = x % 16777216 := by unfold wrap64; omega
  obtain ⟨h0, h1⟩ := hx
  go_enter Tryz.func89, Tryz.ntmps89
  go_wp2
  go_ret
  exact ⟨rfl, rfl⟩
theorem Gen_any (x : Int) (hx : U64 x) (w : World) : Calls Tryz.prog 158 #[.int .u64 x] w fun e w' => e = .returned (.int .i64 (x / 16777216 % 4294967296)) ∧ w' = w := by
  have hm := and_mask 32 (x / 16777216) 4294967295 4294967296 (by decide) (by decide) (by decide) (by unfold U64 at *; omega)
  have hw : wrap64 (x / 16777216 % 4294967296) = x / 16777216 % 4294967296 := by unfold wrap64; omega
  obtain ⟨h0, h1⟩ := hx
  go_enter Tryz.func158, Tryz.ntmps158
  go_wp2
  go_ret
  exact ⟨rfl, rfl⟩
theorem Tag_any (x : Int) (hx : U64 x) (w : World) : Calls Tryz.prog 159 #[.int .u64 x] w fun e w' => e = .returned (.int .i64 (x / 72057594037927936)) ∧ w' = w := by
  have hw : wrap64 (x / 72057594037927936) = x / 72057594037927936 := by unfold wrap64; unfold U64 at hx; omega
  obtain ⟨h0, h1⟩ := hx
  go_enter Tryz.func159, Tryz.ntmps159
  go_wp2
  go_ret
  exact ⟨rfl, rfl⟩
def packI (s g t : Int) : Int := s + 16777216 * g + 72057594037927936 * t
theorem pack_any (s g t : Int) (hs : 0 ≤ s ∧ s < 16777216) (hg : 0 ≤ g ∧ g < 4294967296) (ht : 0 ≤ t ∧ t < 256) (w : World) : Calls Tryz.prog 183 #[.int .i64 s, .int .i64 g, .int .i64 t] w fun e w' => e = .returned (.int .u64 (packI s g t)) ∧ w' = w := by
  have e1 := or_high 24 s g 16777216 (by decide) hs hg.1 (by unfold U64; omega)
  have e2 := or_high 56 (s + 16777216 * g) t 72057594037927936 (by decide) (by omega) ht.1 (by unfold U64; omega)
  obtain ⟨_, _⟩ := hs
  obtain ⟨_, _⟩ := hg
  obtain ⟨_, _⟩ := ht
  have e3 : packI s g t = bits .or .u64 (bits .or .u64 s (g * 16777216)) (t * 72057594037927936) := by rw [e1, e2]; rfl
  have E3 := Lib.hid e3
  clear e1 e2 e3
  go_enter Tryz.func183, Tryz.ntmps183
  go_wp2
  go_ret
  exact ⟨by rw [E3.out]; rfl, rfl⟩
theorem Pack_any (s g t : Int) (hs : 0 ≤ s ∧ s < 16777216) (hg : 1 ≤ g ∧ g < 4294967296) (ht : 1 ≤ t ∧ t < 256) (w : World) : Calls Tryz.prog 133 #[.int .i64 s, .int .i64 g, .int .i64 t] w fun e w' => e = .returned (.tuple #[.int .u64 (packI s g t), .int .i64 0]) ∧ w' = w := by
  have hp := fun w => pack_any s g t hs (by omega) (by omega) w
  have e1 : decide (s < 0) = false := by simp; omega
  have e2 : decide (16777215 < s) = false := by simp; omega
  have e3 : decide (g < 1) = false := by simp; omega
  have e4 : decide (4294967295 < g) = false := by simp; omega
  have e5 : decide (t < 1) = false := by simp; omega
  have e6 : decide (255 < t) = false := by simp; omega
  go_enter Tryz.func133, Tryz.ntmps133
  go_wp2_with (first | (go_at_call 183; refine (hp _).mono ?_; rintro e w' ⟨rfl, rfl⟩))
  go_ret2
  exact ⟨rfl, rfl⟩
end Go.Proofs.YthnfiejdkhejlaaGreat
/- Package pool (at int): contracts. -/
namespace Go.Proofs.YthnfiejdkhejlaaGreat
open Go.RowKit Go.Sl
def iv (x : Int) : Value := .int .i64 x
def Pool (bp : Nat) (l : List Int) : As := fun h => ∃ v, (pts bp (.cells #[v] 290 (0,0)) * rowAs 3 1 v l.length (l.map iv)) h
def takeL (l : List Int) (k : Nat) : List Int := (l.set k (l.getD (l.length - 1) 0)).dropLast
theorem iv1 (l : List Int) (j : Nat) (h : j < l.length) : (l.map iv)[j]? = some (iv (l.getD j 0)) := by simp [List.getD, List.getElem?_eq_getElem h]
theorem PoolLen_any (bp : Nat) (v : Value) (n : Nat) (w : World) (hn : n ≤ maxLen) (hb : w.heap[bp]? = some (.cells #[v] 290 (0,0))) (hv : v = .slice none 0 0 ∧ n = 0 ∨ ∃ g cap, v = .slice (some ⟨g, 0, none⟩) n cap) :
    Calls Tryz.prog 212 #[.pointer (some ⟨bp, 0, none⟩)] w fun e w' => e = .returned (.int .i64 n) ∧ w' = w := by
  have c0 := blk_cell hb 0
  unfold maxLen at hn
  rcases hv with ⟨rfl, rfl⟩ | ⟨g, cap, rfl⟩
  all_goals
    go_enter Tryz.func212, Tryz.ntmps212
    go_wp2
    go_ret
    exact ⟨rfl, rfl⟩
theorem Take_none (bp : Nat) (d : Int) : Rd Tryz.prog 182 #[.pointer (some ⟨bp, 0, none⟩), .int .u64 d] (Pool bp []) (.tuple #[.int .i64 0, .bool false]) := by
  rintro w h H ⟨v, hA⟩
  have hb := pts_get H hA
  rw [As.comm] at hA
  obtain ⟨_, hc⟩ := rowAs_cases hA
  have hl := fun w (hb : w.heap[bp]? = _) => PoolLen_any bp v 0 w (by decide) hb (by rcases hc with ⟨h, _⟩ | ⟨g, cap, _, h, _⟩; exact .inl ⟨h, rfl⟩; exact .inr ⟨g, cap, h⟩)
  go_enter Tryz.func182, Tryz.ntmps182
  go_wp2_with (first | (go_at_call 212; refine (hl _ hb).mono ?_; rintro e w' ⟨rfl, rfl⟩))
  go_ret2
  exact ⟨rfl, Below.refl _ _⟩
set_option maxHeartbeats 800000 in
theorem Take_sp (bp : Nat) (l : List Int) (d : Nat) (hd : (d : Int) < 18446744073709551616) (hl : l ≠ []) (hm : l.length ≤ 1048576) :
    Sp Tryz.prog 182 #[.pointer (some ⟨bp, 0, none⟩), .int .u64 d] (Pool bp l) fun v h => v = .tuple #[.int .i64 (l.getD (d % l.length) 0), .bool true] ∧ Pool bp (takeL l (d % l.length)) h := by
  rintro w h H ⟨v, hA⟩
  have hb := pts_get H hA
  have hA2 := hA
  rw [As.comm] at hA
  obtain ⟨_, hc⟩ := rowAs_cases hA
  have hpos : 0 < l.length := List.length_pos_iff.2 hl
  rcases hc with ⟨_, h0, _⟩ | ⟨g, cap, cur, rfl, hnc, hcm, hcs, htk, hp⟩
  · omega
  have hg := pts_get H hp
  have hlen := fun w (hb : w.heap[bp]? = _) => PoolLen_any bp (.slice (some ⟨g, 0, none⟩) l.length cap) l.length w (by unfold maxLen; omega) hb (.inr ⟨g, cap, rfl⟩)
  have hjn : d % l.length < l.length := Nat.mod_lt _ hpos
  have hdm : ((d : Int) % (l.length : Int)) = ((d % l.length : Nat) : Int) := rfl
  have hcell := fun j hj => rowAs_cell (cap := cap) hg htk (iv1 l j hj)
  have hne : ((l.length : Int) == 0) = false := by simp; omega
  have ck := hcell _ hjn
  have cl := hcell (l.length - 1) (by omega)
  have c0 := blk_cell hb 0
  have f0 := blk_free hb 0
  have fg := fun j => blk_free hg j
  have hp2 := hp
  have hbg : g ≠ bp := by rw [← As.mul_one (pts bp _)] at hp2; exact pts_ne hp2
  generalize hvk : iv (l.getD (d % l.length) 0) = vk at *
  generalize hvl : iv (l.getD (l.length - 1) 0) = vl at *
  have hfin : (cur.setIfInBounds (d % l.length) vl |>.setIfInBounds (l.length - 1) (.int .i64 0)).toList.take (l.length - 1) = (takeL l (d % l.length)).map iv := by
    rw [Array.toList_setIfInBounds, Array.toList_setIfInBounds, List.take_set, List.take_set, List.set_eq_of_length_le (by simp; omega)]
    have : cur.toList.take (l.length - 1) = ((l.map iv).take (l.length - 1)) := by rw [← htk, List.take_take]; congr 1; omega
    rw [this, takeL, List.dropLast_eq_take, List.length_set, List.take_set, ← hvl, List.map_set, List.map_take]
  have hvk' : Value.int .i64 (l.getD (d % l.length) 0) = vk := hvk
  rw [hvk']
  have hlt : (takeL l (d % l.length)).length = l.length - 1 := by simp [takeL]
  generalize takeL l (d % l.length) = l2 at *
  generalize hn : l.length = n at *
  generalize hj : d % n = j at *
  have hso : ∀ x : Int, vk = .int .i64 x → True := fun _ _ => trivial
  have hvlo : vl.oneCell' = true := by rw [← hvl]; rfl
  obtain ⟨lv, hlv⟩ : ∃ lv, vl = .int .i64 lv := ⟨_, hvl.symm⟩
  have HN := Lib.hid hn; clear hn
  have HJ := Lib.hid hj; clear hj
  clear hvk hvl hvk' hso hcell htk
  subst hlv
  have hlts := lts (blk_lt hb)
  have hltg := lts (blk_lt hg)
  have hj0 : j < cap := by omega
  have hn1 : n - 1 < cap := by omega
  have hsz : cur.size = cap := by rw [hcs, Nat.mul_one]
  go_enter Tryz.func182, Tryz.ntmps182
  go_wp2_with (first | (go_at_call 212; refine (hlen _ hb).mono ?_; rintro e w' ⟨rfl, rfl⟩))
  refine wp_region_gt 14 (by kernel_rfl) (by kernel_rfl) ?_
  have g0 := gcells hb 0
  have g1 := gcell cl
  simp only [List.take_succ_cons, List.take_zero, List.drop_succ_cons, List.drop_zero]
  repeat (go_big_quiet_step (fail))
  refine wpQuiet_nil ?_
  intro W' hW'
  have B := hW'.below
  have hg' := (B.block g (blk_lt hg)).trans hg
  have T1 := (Tr.of_below H B).setOwn (pts_at hp) j (.int .i64 lv)
  have hp1 := pts_set (.cells (cur.setIfInBounds j (.int .i64 lv)) 3 (0,0)) hp
  have ck' : W'.cell? ⟨g, j, none⟩ = some (cur[j]'(by omega)) := by rw [blk_cell hg', Array.getElem?_eq_getElem]
  have fk' := blk_free hg' j
  go_upto_region 8 with (fail)
  generalize W'.setCell _ _ = W1 at *
  have hg1 := T1.has _ _ (pts_at hp1)
  rw [As.comm] at hp1
  have hb1 := T1.has _ _ (pts_at hp1)
  rw [As.comm] at hp1
  have c0 := blk_cell hb1 0
  have cl : W1.cell? ⟨g, n - 1, none⟩ = some ((cur.setIfInBounds j (.int .i64 lv))[n - 1]'(by simp; omega)) := by rw [blk_cell hg1, Array.getElem?_eq_getElem]
  have fl := blk_free hg1 (n - 1)
  have T2 := T1.setOwn (pts_at hp1) (n - 1) (.int .i64 0)
  have hp2 := pts_set (.cells ((cur.setIfInBounds j (.int .i64 lv)).setIfInBounds (n - 1) (.int .i64 0)) 3 (0,0)) hp1
  go_upto_region 9 with (fail)
  generalize W1.setCell _ _ = W2 at *
  rw [As.comm] at hp2
  have hb2 := T2.has _ _ (pts_at hp2)
  have c0 := blk_cell hb2 0
  have f0 := blk_free hb2 0
  have T3 := T2.setOwn (pts_at hp2) 0 (.slice (some ⟨g, 0, none⟩) (n - 1) cap)
  have hp3 := pts_set (.cells #[.slice (some ⟨g, 0, none⟩) (n - 1) cap] 290 (0,0)) hp2
  go_wp2
  go_ret2
  refine ⟨_, _, rfl, T3, ⟨rfl, .slice (some ⟨g, 0, none⟩) (n - 1) cap, ?_⟩⟩
  rw [As.comm] at hp3 ⊢
  rw [hlt]
  exact rowAs_mk (xs := l2.map iv) (by rw [List.length_map, hlt, Nat.mul_one]) (by omega) hcm (by simpa using hcs) (by rw [Nat.mul_one]; exact hfin) hp3
/-- The element type's row of the table. -/
theorem info_int : (Tryz.prog.info? 3).map (fun i => (i.zero, i.size, i.bytes)) = some (some (.int .i64 0), 1, 8) := by kernel_rfl
theorem Put_sp (bp : Nat) (l : List Int) (x : Int) (hm : l.length ≤ 1048576) :
    Sp Tryz.prog 202 #[.pointer (some ⟨bp, 0, none⟩), .int .i64 x] (Pool bp l) fun v h => v = .tuple #[] ∧ Pool bp (l ++ [x]) h := by
  rintro w h H ⟨v, hA⟩
  have hb := pts_get H hA
  obtain ⟨i0, hi, hz0, hz1, hz2⟩ := info_parts info_int
  have c0 := blk_cell hb 0
  rw [As.comm] at hA
  have B := (Below.refl w.heap.size w).al (.cells #[.int .i64 x] 3)
  obtain ⟨v', w', h', hrun, T, hA'⟩ := row_append (P := Tryz.prog) (w := w.alloc (.cells #[.int .i64 x] 3)) (ty := 67) (H.below B) hA Tryz.underlying67 hi hz0 hz1 rfl ⟨w.heap.size, 0, none⟩ 1 1 [.int .i64 x] rfl (cell_one_new _ _ _) (by simp [Value.oneCell']) (by unfold maxLen; omega) (by rw [hz2]; omega)
  obtain ⟨ad, cp, rfl⟩ := rowAs_form hA'
  have hlts := lts (blk_lt hb)
  rw [As.comm] at hA'
  have hb' := T.has _ _ (pts_at hA')
  have T2 := ((Tr.of_below H B).trans T).setOwn (pts_at hA') 0 (.slice ad (l.length + 1) cp)
  have hA2 := pts_set (.cells #[.slice ad (l.length + 1) cp] 290 (0,0)) hA'
  have c0' := blk_cell hb' 0
  have f0' := blk_free hb' 0
  go_enter Tryz.func202, Tryz.ntmps202
  go_wp2_with (at_builtin; refine wpList_append _ _ _ rfl rfl hrun ?_)
  go_end0
  exact ⟨_, _, rfl, T2, rfl, .slice ad (l.length + 1) cp, by rw [List.length_append, List.map_append]; exact hA2⟩
end Go.Proofs.YthnfiejdkhejlaaGreat
/- Package generation: contracts. -/
namespace Go.Proofs.YthnfiejdkhejlaaGreat
open Go.RowKit Go.Sl
structure Sl1 where (gen : Int) (live : Bool)
def Sl1.enc (x : Sl1) : List Value := [.int .i64 x.gen, .bool x.live]
structure Slots where (first : Int) (sl : List Sl1) (free : List Int) (ret : Int)
def Slots.of (s : Slots) (k : Nat) : Option Int := (s.sl[k]?).bind fun x => if x.live then some x.gen else none
def slotObj (s : Slots) (v : Value) (bp : Nat) : Obj := .cells #[.int .i64 s.first, v, .pointer (some ⟨bp, 0, none⟩), .int .i64 s.ret] 265 (0,0)
def Slots.as (bs : Nat) (s : Slots) : As := fun h => ∃ v bp, (pts bs (slotObj s v bp) * (rowAs 269 2 v s.sl.length (s.sl.flatMap Sl1.enc) * Pool bp s.free)) h
theorem Size_any (bs : Nat) (s : Slots) (v : Value) (bp n : Nat) (w : World) (hn : n ≤ maxLen) (hb : w.heap[bs]? = some (slotObj s v bp)) (hv : ∃ ad cp, v = .slice ad n cp) :
    Calls Tryz.prog 145 #[.pointer (some ⟨bs, 0, none⟩)] w fun e w' => e = .returned (.int .i64 n) ∧ w' = w := by
  have c0 := blk_cell hb 1
  unfold maxLen at hn
  obtain ⟨ad, cp, rfl⟩ := hv
  go_enter Tryz.func145, Tryz.ntmps145
  go_wp2
  go_ret
  exact ⟨rfl, rfl⟩
theorem slots_row {bs : Nat} {s : Slots} {w : World} {h : Hl} (H : Has w h) (hA : s.as bs h) : ∃ v bp, (pts bs (slotObj s v bp) * (rowAs 269 2 v s.sl.length (s.sl.flatMap Sl1.enc) * Pool bp s.free)) h ∧ w.heap[bs]? = some (slotObj s v bp) ∧
    ((v = .slice none 0 0 ∧ s.sl = []) ∨ ∃ g cap, v = .slice (some ⟨g, 0, none⟩) s.sl.length cap ∧ g < w.heap.size ∧ ∀ k x, s.sl[k]? = some x → w.cell? ⟨g, k * 2, none⟩ = some (.int .i64 x.gen) ∧ w.cell? ⟨g, k * 2 + 1, none⟩ = some (.bool x.live)) := by
  obtain ⟨v, bp, hA⟩ := hA
  refine ⟨v, bp, hA, pts_get H hA, ?_⟩
  obtain ⟨_, hc⟩ := rowAs_cases (br2 hA)
  rcases hc with ⟨rfl, h0, _⟩ | ⟨g, cap, cur, rfl, hnc, hcm, hcs, htk, hp⟩
  · exact .inl ⟨rfl, List.length_eq_zero_iff.1 h0⟩
  · have hg := pts_get H hp
    refine .inr ⟨g, cap, rfl, blk_lt hg, fun k x hx => ⟨?_, ?_⟩⟩
    · exact rowAs_cell (cap := cap) hg htk (by have := flat_get (enc := Sl1.enc) (sz := 2) (fun _ => rfl) (j := 0) (by decide) s.sl k; rw [Nat.add_zero] at this; rw [this, hx]; rfl)
    · exact rowAs_cell (cap := cap) hg htk (by rw [flat_get (enc := Sl1.enc) (sz := 2) (fun _ => rfl) (j := 1) (by decide) s.sl k, hx]; rfl)
theorem Live_same (bs : Nat) (s : Slots) (k : Nat) (hm : s.sl.length ≤ 1048576) (hk : k ≤ 4294967296) (w : World) (h : Hl) (H : Has w h) (hA : s.as bs h) :
    Calls Tryz.prog 146 #[.pointer (some ⟨bs, 0, none⟩), .int .i64 k] w fun e w' => e = .returned (.tuple #[.int .i64 ((s.of k).getD 0), .bool (s.of k).isSome]) ∧ w' = w := by
  obtain ⟨v, bp, _, hb, hv⟩ := slots_row H hA
  have hsz := fun w hb => Size_any bs s v bp s.sl.length w (by unfold maxLen; omega) hb (by rcases hv with ⟨h, h'⟩ | ⟨g, cap, h, _⟩; exact ⟨_, _, by rw [h, h']; rfl⟩; exact ⟨_, _, h⟩)
  unfold Slots.of
  have c1 := blk_cell hb 1
  by_cases hlt : k < s.sl.length
  · rcases hv with ⟨_, h0⟩ | ⟨g, cap, rfl, hg, hcell⟩
    · rw [h0] at hlt; simp at hlt
    have hx : s.sl[k]? = some s.sl[k] := List.getElem?_eq_getElem hlt
    obtain ⟨ca, cb⟩ := hcell k _ hx
    rw [hx]
    generalize s.sl[k] = x at *
    obtain ⟨gn, lv⟩ := x
    generalize s.sl.length = n at *
    clear hx hcell hA
    cases lv
    all_goals
      go_enter Tryz.func146, Tryz.ntmps146
      go_wp2_with (first | (go_at_call 145; refine (hsz _ hb).mono ?_; rintro e w' ⟨rfl, rfl⟩))
      go_ret2
      exact ⟨rfl, rfl⟩
  · have hx : s.sl[k]? = none := List.getElem?_eq_none (by omega)
    rw [hx]
    generalize s.sl.length = n at *
    clear hv hx hA
    go_enter Tryz.func146, Tryz.ntmps146
    go_wp2_with (first | (go_at_call 145; refine (hsz _ hb).mono ?_; rintro e w' ⟨rfl, rfl⟩))
    go_ret2
    exact ⟨rfl, rfl⟩
theorem Live_rd (bs : Nat) (s : Slots) (k : Nat) (hm : s.sl.length ≤ 1048576) (hk : k ≤ 4294967296) :
    Rd Tryz.prog 146 #[.pointer (some ⟨bs, 0, none⟩), .int .i64 k] (s.as bs) (.tuple #[.int .i64 ((s.of k).getD 0), .bool (s.of k).isSome]) :=
  fun w h H hA => (Live_same bs s k hm hk w h H hA).mono fun _ _ ⟨a, b⟩ => ⟨a, b ▸ Below.refl _ _⟩
def Slots.gen' (s : Slots) (i : Nat) : Int := if (s.sl[i]?).any (fun x => x.gen == 0) then s.first else ((s.sl[i]?).map (·.gen)).getD 0 + 1
def Slots.issue (s : Slots) (d : Nat) : Slots := { s with sl := s.sl.set (s.free.getD (d % s.free.length) 0).toNat ⟨s.gen' (s.free.getD (d % s.free.length) 0).toNat, true⟩, free := takeL s.free (d % s.free.length) }
theorem Issue_none (bs : Nat) (s : Slots) (d : Int) (hf : s.free = []) : Rd Tryz.prog 132 #[.pointer (some ⟨bs, 0, none⟩), .int .u64 d] (s.as bs) (.tuple #[.int .i64 0, .int .i64 0, .int .i64 17]) := by
  rintro w h H ⟨v, bp, hA⟩
  have hb := pts_get H hA
  have c2 := blk_cell hb 2
  obtain ⟨x, y, dj, rfl, hx, hy⟩ := l3 hA
  have htk := fun w (H : Has w x) => Take_none bp d w x H (by rw [hf] at hx; exact hx)
  have Hx := H.unL
  go_enter Tryz.func132, Tryz.ntmps132
  go_wp2_with fail
  refine (htk _ Hx).mono ?_
  rintro e w1 ⟨rfl, B⟩
  go_wp2
  go_ret3
  exact ⟨rfl, B⟩
set_option maxHeartbeats 800000 in
theorem Issue_sp (bs : Nat) (s : Slots) (d i : Nat) (x : Sl1) (hd : (d : Int) < 18446744073709551616) (hf : s.free ≠ []) (hi : s.free.getD (d % s.free.length) 0 = i) (hx : s.sl[i]? = some x) (hg : 0 ≤ x.gen ∧ x.gen ≤ 4294967295) (hm : s.sl.length ≤ 1048576) (hm2 : s.free.length ≤ 1048576) :
    Sp Tryz.prog 132 #[.pointer (some ⟨bs, 0, none⟩), .int .u64 d] (s.as bs) fun v h => v = .tuple #[.int .i64 i, .int .i64 (s.gen' i), .int .i64 0] ∧ (s.issue d).as bs h := by
  rintro w h H ⟨v, bp, hA⟩
  have hb := pts_get H hA
  have c2 := blk_cell hb 2
  have htk := fun B => (Take_sp bp s.free d hd hf hm2).frame B
  rw [hi] at htk
  have hlt : i < s.sl.length := (List.getElem?_eq_some_iff.1 hx).1
  obtain ⟨gn, lv⟩ := x
  generalize hgv : s.gen' i = gv
  have HGV := Lib.hid hgv; clear hgv
  go_enter Tryz.func132, Tryz.ntmps132
  go_wp2_with fail
  refine (htk _ _ _ H (l3 hA)).mono ?_
  rintro e w1 ⟨v1, h1, rfl, T1, hA1⟩
  obtain ⟨rfl, hA3⟩ := and_mul_r hA1
  have hA2 := il3 hA3
  clear hA1
  have hb1 := pts_get T1.has hA2
  obtain ⟨_, hc⟩ := rowAs_cases (br2 hA2)
  rcases hc with ⟨_, h0, _⟩ | ⟨g, cap, cur, rfl, hnc, hcm, hcs, htk2, hp⟩
  · omega
  have hg1 := pts_get T1.has hp
  have ca : w1.cell? ⟨g, i * 2, none⟩ = some (.int .i64 gn) := rowAs_cell (cap := cap) hg1 htk2 (by have := flat_get (enc := Sl1.enc) (sz := 2) (fun _ => rfl) (j := 0) (by decide) s.sl i; rw [Nat.add_zero] at this; rw [this, hx]; rfl)
  have cb : w1.cell? ⟨g, i * 2 + 1, none⟩ = some (.bool lv) := rowAs_cell (cap := cap) hg1 htk2 (by rw [flat_get (enc := Sl1.enc) (sz := 2) (fun _ => rfl) (j := 1) (by decide) s.sl i, hx]; rfl)
  have fa := blk_free hg1 (i * 2)
  have fb := blk_free hg1 (i * 2 + 1)
  have d0 := blk_cell hb1 0
  have d1 := blk_cell hb1 1
  have hgi : ∀ y : Int, ((cur.setIfInBounds (i * 2) (.int .i64 y)).setIfInBounds (i * 2 + 1) (.bool true)).toList.take (s.sl.length * 2) = (s.sl.set i ⟨y, true⟩).flatMap Sl1.enc := fun y => by
    rw [take_set_row (by omega), take_set_row (by omega), htk2]
    have h1 := flat_set (enc := Sl1.enc) (sz := 2) (fun _ => rfl) (j := 0) (by decide) (y := ⟨y, lv⟩) (v := .int .i64 y) s.sl i hx rfl
    rw [Nat.add_zero] at h1
    rw [h1, flat_set (enc := Sl1.enc) (sz := 2) (fun _ => rfl) (j := 1) (by decide) (x := ⟨y, lv⟩) (y := ⟨y, true⟩) (v := .bool true) _ i (by rw [List.getElem?_set_self hlt]) rfl, List.set_set]
  have fin : ∀ y : Int, gv = y → ∀ h2, (pts g (.cells ((cur.setIfInBounds (i * 2) (.int .i64 y)).setIfInBounds (i * 2 + 1) (.bool true)) 269 (0,0)) * (pts bs (slotObj s (.slice (some ⟨g, 0, none⟩) s.sl.length cap) bp) * Pool bp (takeL s.free (d % s.free.length)))) h2 → (s.issue d).as bs h2 := fun y hy h2 hh => by
    refine ⟨.slice (some ⟨g, 0, none⟩) s.sl.length cap, bp, ?_⟩
    have := rowAs_mk (n := s.sl.length) (xs := (s.sl.set i ⟨y, true⟩).flatMap Sl1.enc) (by rw [flat_len (sz := 2) (fun _ => rfl), List.length_set]) hnc hcm (by simpa using hcs) (hgi y) hh
    have := br2 this
    simp only [Slots.issue, hi, Int.toNat_natCast, HGV.out, hy, List.length_set]
    exact this
  have hlts := lts (blk_lt hb1)
  have hltg := lts (blk_lt hg1)
  have hgb := pts_ne hp
  have hbg := Ne.symm hgb
  by_cases h0 : gn = 0
  · have hv : gv = s.first := by rw [← HGV.out]; unfold Slots.gen'; rw [hx]; simp [h0]
    have hp1 := pts_set (.cells (cur.setIfInBounds (i * 2) (.int .i64 1)) 269 (0,0)) hp
    have hp2 := pts_set (.cells ((cur.setIfInBounds (i * 2) (.int .i64 1)).setIfInBounds (i * 2) (.int .i64 s.first)) 269 (0,0)) hp1
    have T3 := ((T1.setOwn (pts_at hp) (i * 2) (.int .i64 1)).setOwn (pts_at hp1) (i * 2) (.int .i64 s.first)).setOwn (pts_at hp2) (i * 2 + 1) (.bool true)
    have hp3 := pts_set (.cells (((cur.setIfInBounds (i * 2) (.int .i64 1)).setIfInBounds (i * 2) (.int .i64 s.first)).setIfInBounds (i * 2 + 1) (.bool true)) 269 (0,0)) hp2
    rw [Array.setIfInBounds_setIfInBounds] at hp3 T3
    have hfin := fin _ hv _ hp3
    clear fin hgi hA hA3 hA2 hp hp1 hp2 hp3 hg1 hb1 hb htk
    have HV := Lib.hid hv; clear hv
    generalize s.sl.length = n at *
    clear hx
    subst h0
    go_wp2
    go_quiet (fail)
    go_wp2
    go_ret3
    exact ⟨_, _, by rw [HV.out]; rfl, T3.drewN _, rfl, hfin⟩
  · have h1 : gn + 1 ≠ 1 := by omega
    have h1' : ((gn + 1) == 1) = false := by simpa using h1
    have hv : gv = gn + 1 := by rw [← HGV.out]; unfold Slots.gen'; rw [hx]; simp [h0]
    have hp1 := pts_set (.cells (cur.setIfInBounds (i * 2) (.int .i64 (gn + 1))) 269 (0,0)) hp
    have T2 := T1.setOwn (pts_at hp) (i * 2) (.int .i64 (gn + 1))
    have T3 := T2.setOwn (pts_at hp1) (i * 2 + 1) (.bool true)
    have hp2 := pts_set (.cells ((cur.setIfInBounds (i * 2) (.int .i64 (gn + 1))).setIfInBounds (i * 2 + 1) (.bool true)) 269 (0,0)) hp1
    have hfin := fin _ hv _ hp2
    clear fin hgi hA hA3 hA2 hp hp1 hp2 hg1 hb1 hb htk T2
    have HV := Lib.hid hv; clear hv
    generalize s.sl.length = n at *
    clear hx
    go_wp2
    go_quiet (fail)
    go_wp2
    go_ret3
    exact ⟨_, _, by rw [HV.out]; rfl, T3.drewN _, rfl, hfin⟩
def Slots.endS (s : Slots) (k : Nat) (g : Int) : Slots := if g = 4294967295 then { s with sl := s.sl.set k ⟨g, false⟩, ret := s.ret + 1 } else { s with sl := s.sl.set k ⟨g, false⟩, free := s.free ++ [(k : Int)] }
set_option maxHeartbeats 800000 in
theorem End_sp (bs : Nat) (s : Slots) (k : Nat) (gn : Int) (hx : s.sl[k]? = some ⟨gn, true⟩) (hm : s.sl.length ≤ 1048576) (hm2 : s.free.length ≤ 1048576) (hr : 0 ≤ s.ret ∧ s.ret ≤ 1048576) :
    Sp Tryz.prog 191 #[.pointer (some ⟨bs, 0, none⟩), .int .i64 k] (s.as bs) fun v h => v = .int .i64 0 ∧ (s.endS k gn).as bs h := by
  rintro w h H hA
  have hlt : k < s.sl.length := (List.getElem?_eq_some_iff.1 hx).1
  have hlv := fun w H => Live_rd bs s k hm (by omega) w h H hA
  have hof : s.of k = some gn := by unfold Slots.of; rw [hx]; rfl
  rw [hof] at hlv
  simp only [Option.getD_some, Option.isSome_some] at hlv
  go_enter Tryz.func191, Tryz.ntmps191
  go_wp2_with fail
  refine (hlv _ H).mono ?_
  rintro e w1 ⟨rfl, B⟩
  have T1 := Tr.of_below H B
  obtain ⟨v, bp, hA2⟩ := hA
  have hb1 := pts_get T1.has hA2
  obtain ⟨_, hc⟩ := rowAs_cases (br2 hA2)
  rcases hc with ⟨_, h0, _⟩ | ⟨g, cap, cur, rfl, hnc, hcm, hcs, htk2, hp⟩
  · omega
  have hg1 := pts_get T1.has hp
  have cb : w1.cell? ⟨g, k * 2 + 1, none⟩ = some (.bool true) := rowAs_cell (cap := cap) hg1 htk2 (by rw [flat_get (enc := Sl1.enc) (sz := 2) (fun _ => rfl) (j := 1) (by decide) s.sl k, hx]; rfl)
  have fb := blk_free hg1 (k * 2 + 1)
  have d1 := blk_cell hb1 1
  have d2 := blk_cell hb1 2
  have d3 := blk_cell hb1 3
  have f3 := blk_free hb1 3
  have hgb := pts_ne hp
  have hbg := Ne.symm hgb
  have hlts := lts (blk_lt hb1)
  have hltg := lts (blk_lt hg1)
  have T2 := T1.setOwn (pts_at hp) (k * 2 + 1) (.bool false)
  have hp1 := pts_set (.cells (cur.setIfInBounds (k * 2 + 1) (.bool false)) 269 (0,0)) hp
  have hgi : (cur.setIfInBounds (k * 2 + 1) (.bool false)).toList.take (s.sl.length * 2) = (s.sl.set k ⟨gn, false⟩).flatMap Sl1.enc := by
    rw [take_set_row (by omega), htk2]
    exact flat_set (enc := Sl1.enc) (sz := 2) (fun _ => rfl) (j := 1) (by decide) (x := ⟨gn, true⟩) (y := ⟨gn, false⟩) (v := .bool false) _ k hx rfl
  have hp2 := br2 (rowAs_mk (n := s.sl.length) (xs := (s.sl.set k ⟨gn, false⟩).flatMap Sl1.enc) (by rw [flat_len (sz := 2) (fun _ => rfl), List.length_set]) hnc hcm (by simpa using hcs) hgi hp1)
  have hb2 := pts_get T2.has hp2
  have hsl : (s.sl.set k ⟨gn, false⟩).length = s.sl.length := List.length_set
  clear hgi hp1 htk2 hA2 hlv hof
  by_cases hgm : gn = 4294967295
  · have hg' : (gn == 4294967295) = true := by simpa using hgm
    have hfin : s.endS k gn = { s with sl := s.sl.set k ⟨gn, false⟩, ret := s.ret + 1 } := if_pos hgm
    have T3 := T2.setOwn (pts_at hp2) 3 (.int .i64 (s.ret + 1))
    have hp3 := pts_set (slotObj { s with ret := s.ret + 1 } (.slice (some ⟨g, 0, none⟩) s.sl.length cap) bp) hp2
    have HF := Lib.hid hfin; clear hfin
    go_wp2
    go_ret
    refine ⟨_, _, rfl, T3, rfl, ?_⟩
    rw [HF.out]
    exact ⟨.slice (some ⟨g, 0, none⟩) s.sl.length cap, bp, by simp only [List.length_set]; exact hp3⟩
  · have hg' : (gn == 4294967295) = false := by simpa using hgm
    have hfin : s.endS k gn = { s with sl := s.sl.set k ⟨gn, false⟩, free := s.free ++ [(k : Int)] } := if_neg hgm
    have HF := Lib.hid hfin; clear hfin
    have hput := fun B => (Put_sp bp s.free k hm2).frame B
    go_wp2_with fail
    refine (hput _ _ _ T2.has (l3 hp2)).mono ?_
    rintro e w2 ⟨v2, h2, rfl, T3, hA3⟩
    obtain ⟨rfl, hA4⟩ := and_mul_r hA3
    go_wp2
    go_ret
    refine ⟨_, _, rfl, T2.trans T3, rfl, ?_⟩
    rw [HF.out]
    exact ⟨.slice (some ⟨g, 0, none⟩) s.sl.length cap, bp, by simp only [List.length_set]; exact il3 hA4⟩
theorem Retired_rd (bs : Nat) (s : Slots) : Rd Tryz.prog 164 #[.pointer (some ⟨bs, 0, none⟩)] (s.as bs) (.int .i64 s.ret) := by
  rintro w h H ⟨v, bp, hA⟩
  have hb := pts_get H hA
  have c3 := blk_cell hb 3
  go_enter Tryz.func164, Tryz.ntmps164
  go_wp2
  go_ret
  exact ⟨rfl, Below.refl _ _⟩
end Go.Proofs.YthnfiejdkhejlaaGreat
/- Package sizeclass: contracts. -/
namespace Go.Proofs.YthnfiejdkhejlaaGreat
open Go.RowKit Go.Sl Go.Shelf
attribute [local go_sem] Oper.semAt_some
/-- The sizes. -/
def szs : List Nat := (List.range 8).map (fun i => 16 * (i + 1)) ++ [256, 512, 1024, 2048] ++ (List.range 31).map (fun i => 2048 * (i + 2))
def szAt (k : Nat) : Nat := (szs ++ [67584]).getD k 0
def stepN (n : Nat) : Nat := if n < 128 then 16 else if n < 2048 then n else 2048
theorem szs_step : ∀ k, k < 43 → szAt (k + 1) = szAt k + stepN (szAt k) := by decide +kernel
theorem szs_le : ∀ k, k < 43 → 16 ≤ szAt k ∧ szAt k ≤ 65536 := by decide +kernel
theorem szs_43 : szAt 43 = 67584 := by decide +kernel
theorem szAt_lt : ∀ k, k < 44 → szAt k < 100000 := by decide +kernel
/-- The classes and their sizes. -/
def cls : List (Nat × Nat) := (List.range 43).map fun k => (k, szAt k)
def clsArgs (x : Nat × Nat) : Array Value := #[.int .i64 x.1, .int .i64 x.2]
theorem step_any (n : Nat) (w : World) (hn : n < 100000) : Calls Tryz.prog 207 #[.int .i64 n] w fun e w' => e = .returned (.int .i64 (stepN n)) ∧ w' = w := by
  have h1 : decide ((n : Int) < 128) = decide (n < 128) := by congr 1; apply propext; omega
  have h2 : decide ((n : Int) < 2048) = decide (n < 2048) := by congr 1; apply propext; omega
  unfold stepN
  by_cases c1 : n < 128
  · go_enter Tryz.func207, Tryz.ntmps207
    go_wp2
    go_ret
    simp [*]
  · by_cases c2 : n < 2048
    · go_enter Tryz.func207, Tryz.ntmps207
      go_wp2
      go_ret
      simp [*]
    · go_enter Tryz.func207, Tryz.ntmps207
      go_wp2
      go_ret
      simp [*]
theorem cls_len : cls.length = 43 := by decide +kernel
theorem cls_at (k : Nat) (hk : k < 43) : cls = cls.take k ++ (k, szAt k) :: cls.drop (k + 1) := by
  have hk' : k < cls.length := by rw [cls_len]; exact hk
  have : cls[k] = (k, szAt k) := by simp [cls]
  rw [← this, ← List.drop_eq_getElem_cons hk', List.take_append_drop]
theorem cls_take (k : Nat) (hk : k < 43) : cls.take (k + 1) = cls.take k ++ [(k, szAt k)] := by
  have hk' : k < cls.length := by rw [cls_len]; exact hk
  have : cls[k] = (k, szAt k) := by simp [cls]
  rw [← this, List.take_succ_eq_append_getElem hk']
theorem Sizes1_it : It Tryz.prog 206 #[] 1 1 1 cls clsArgs := by
  intro l J Jx hY w h R H hJ _ c' hc Hc
  have hcJ : J [] c' := by
    rw [As.one_mul] at hc; cases hc; exact hJ
  (refine callsIn_of_wp Tryz.func206 rfl trivial ?_ rfl; simp only [Tryz.ntmps206, List.size_toArray, List.length_cons, List.length_nil, Nat.reduceAdd, Nat.reduceSub, Array.replicate_succ, Array.replicate_zero, List.push_toArray, List.append_toArray, List.nil_append, List.cons_append])
  gi_wp2
  gi_loopw [2, 3] (fun c z wr => ∃ k : Nat, k ≤ 43 ∧ c = .int .i64 k ∧ z = .int .i64 (szAt k) ∧ ∃ h', Tr w wr c' h' ∧ J (cls.take k) h') (fun c z wr => 43 - (intOf c).toNat)
  case atStart => exact ⟨0, by omega, rfl, rfl, c', Tr.refl Hc, hcJ⟩
  case round =>
    obtain ⟨k, hk, rfl, rfl, h', T1, hJ1⟩ := hrel
    by_cases hk4 : k = 43
    · subst hk4
      have hle : decide (((szAt 43 : Nat) : Int) ≤ 65536) = false := by rw [szs_43]; rfl
      generalize szAt 43 = z at *
      gi_wp2
      go_end0
      refine ⟨⟨_, rfl⟩, h', T1, .inl ?_⟩
      rw [As.one_mul]
      exact (show cls.take 43 = cls by decide +kernel) ▸ hJ1
    · have hk3 : k < 43 := by omega
      have hle : decide (((szAt k : Nat) : Int) ≤ 65536) = true := decide_eq_true (by have := szs_le k hk3; omega)
      have hstep := fun w => step_any (szAt k) w (szAt_lt k (by omega))
      obtain ⟨fn, tmps, assign, body, hy, hR⟩ := hY (cls.take k) (k, szAt k) _ (cls_at k hk3) wr h' T1.has hJ1
      dsimp only [clsArgs] at hy
      have hw1 := w64 ((k : Int) + 1) (by omega)
      have hw2 := w64 (((szAt k : Nat) : Int) + (stepN (szAt k) : Nat)) (by rw [← Int.natCast_add, ← szs_step k hk3]; have := szAt_lt (k+1) (by omega); omega)
      gi_wp2
      refine hR.mono ?_
      rintro e W3 ⟨h3, T3, (⟨rfl, hJ3⟩ | ⟨rfl, hJx3⟩)⟩
      · gi_wp2_with (first | (refine ⟨trivial, ?_⟩; gi_at_call 207; refine (callsIn_wide.2 (hstep _)).mono ?_; rintro e w' ⟨rfl, rfl⟩))
        go_roundw
        case rel => exact ⟨k + 1, by omega, rfl, by rw [szs_step k hk3, hw2]; rfl, h3, T1.trans T3, by rw [cls_take k hk3]; exact hJ3⟩
        case measure => simp [intOf]; omega
      · gi_wp2
        refine bodyPost_ret (results_none rfl _ _ _) rfl ?_
        refine ⟨⟨_, rfl⟩, h3, T1.trans T3, .inr ⟨_, _, _, cls_at k hk3, ?_⟩⟩
        rw [As.one_mul]; exact hJx3
theorem Sizes_any (w : World) : Calls Tryz.prog 179 #[] w fun e w' => e = .returned (.func (.func 206) #[] #[]) ∧ w' = w := by
  go_enter Tryz.func179, Tryz.ntmps179
  go_wp2
  go_ret
  exact ⟨rfl, rfl⟩
def sizeOk (n : Int) (x : Nat × Nat) : Bool := decide (n ≤ x.2)
def findR (n : Int) : Value := if n < 1 then .tuple #[.int .i64 0, .int .i64 0, .int .i64 1] else
  match cls.find? (sizeOk n) with
  | some x => .tuple #[.int .i64 x.1, .int .i64 x.2, .int .i64 0]
  | none => .tuple #[.int .i64 0, .int .i64 0, .int .i64 4]
def findX (n : Int) (b : Nat) (r1 r2 r3 : Int) (X : As) : As :=
  pts b (.cells #[.int .i64 n] 3 (0,0)) * (pts (b+1) (.cells #[.int .i64 r1] 3 (0,0)) * (pts (b+1+1) (.cells #[.int .i64 r2] 3 (0,0)) * (pts (b+1+1+1) (.cells #[.int .i64 r3] 42 (0,0)) * X)))
theorem findX_mul (n : Int) (b : Nat) (r1 r2 r3 : Int) (X Y : As) : findX n b r1 r2 r3 X * Y = findX n b r1 r2 r3 (X * Y) := by simp only [findX, As.assoc]
theorem rev4 {A B C D E : As} {h : Hl} (x : (D * (C * (B * (A * E)))) h) : (A * (B * (C * (D * E)))) h := (show D * (C * (B * (A * E))) = A * (B * (C * (D * E))) by ac_rfl) ▸ x
theorem l3' {A B C D E : As} {h : Hl} (x : (B * (A * (C * (D * E)))) h) : (C * (A * (B * (D * E)))) h := (show B * (A * (C * (D * E))) = C * (A * (B * (D * E))) by ac_rfl) ▸ x
theorem l4' {A B C D E : As} {h : Hl} (x : (C * (A * (B * (D * E)))) h) : (D * (A * (B * (C * E)))) h := (show C * (A * (B * (D * E))) = D * (A * (B * (C * E))) by ac_rfl) ▸ x
theorem l5' {A B C D E : As} {h : Hl} (x : (D * (A * (B * (C * E)))) h) : (A * (B * (C * (D * E)))) h := (show D * (A * (B * (C * E))) = A * (B * (C * (D * E))) by ac_rfl) ▸ x
theorem find_end {n : Int} {b : Nat} {r1 r2 r3 : Int} {W w : World} {h k : Hl} {D : Nat} {a : Act} {R : Ending → World → Prop} (t : Tr w W h k) (hk : findX n b r1 r2 r3 (pts D (.deferred (some []))) k)
    (h1 : a.tmps.getD 2 undef = .pointer (some ⟨b+1, 0, none⟩)) (h2 : a.tmps.getD 3 undef = .pointer (some ⟨b+1+1, 0, none⟩)) (h3 : a.tmps.getD 4 undef = .pointer (some ⟨b+1+1+1, 0, none⟩)) (hd : a.defers = [{ target := .collected D, args := #[] }])
    (hR : ∀ w' k', Tr w w' h k' → findX n b r1 r2 r3 1 k' → R (.returned (.tuple #[.int .i64 r1, .int .i64 r2, .int .i64 r3])) w') : bodyPostM Fence.wide 9 Tryz.prog Tryz.f125 R .ret a W := by
  have hk : (pts D (.deferred (some [])) * findX n b r1 r2 r3 1) k := cm (by rw [findX_mul, As.one_mul]; exact hk)
  have K0 := pts_get t.has hk
  obtain ⟨k', t', hk'⟩ := t.shut hk
  have c1 := blk_cell (pts_get t'.has (br2 hk')) 0
  have c2 := blk_cell (pts_get t'.has (br3 hk')) 0
  have c3 := blk_cell (pts_get t'.has (br4 hk')) 0
  have h1' : a.tmps[2]?.getD undef = .pointer (some ⟨b+1, 0, none⟩) := by simpa using h1
  have h2' : a.tmps[3]?.getD undef = .pointer (some ⟨b+1+1, 0, none⟩) := by simpa using h2
  have h3' : a.tmps[4]?.getD undef = .pointer (some ⟨b+1+1+1, 0, none⟩) := by simpa using h3
  refine postM_mark hd K0 ?_ (hR _ k' t' hk')
  simp [results, Tryz.results125, go_sem, h1', h2', h3', c1, c2, c3]
theorem find_any (n : Int) (w : World) : Calls Tryz.prog 125 #[.int .i64 n] w fun e w' => e = .returned (findR n) ∧ Below w.heap.size w w' := by
  refine (callsIn_wide (n := 9)).1 ?_
  (refine callsIn_of_wp_marks Tryz.func125 rfl trivial ?_ rfl; simp only [Tryz.ntmps125, List.size_toArray, List.length_cons, List.length_nil, Nat.reduceAdd, Nat.reduceSub, Array.replicate_succ, Array.replicate_zero, List.push_toArray, List.append_toArray, List.nil_append, List.cons_append])
  gi_wp2_with (first | (refine ⟨trivial, ?_⟩; gi_at_call 179; refine (callsIn_wide.2 (Sizes_any _)).mono ?_; rintro e w' ⟨rfl, rfl⟩))
  · rename_i hn
    refine postM_ret (v := findR n) rfl (by simp [results, Tryz.results125, go_sem, findR, hn]) ⟨rfl, ?_⟩
    exact (((((Below.refl _ w).al _).al _).al _).al _)
  · rename_i hn
    obtain ⟨h1, T1, A1⟩ := (Tr.refl (Has.emp w)).allocA (X := 1) rfl (.cells #[.int .i64 n] 3)
    obtain ⟨h2, T2, A2⟩ := T1.allocA A1 (.cells #[.int .i64 0] 3)
    obtain ⟨h3, T3, A3⟩ := T2.allocA A2 (.cells #[.int .i64 0] 3)
    obtain ⟨h4, T4, A4⟩ := T3.allocA A3 (.cells #[.int .i64 0] 42)
    clear T1 A1 T2 A2 T3 A3
    simp only [World.size_alloc] at A4
    have A0 : findX n w.heap.size 0 0 0 1 h4 := rev4 A4
    generalize ((((w.alloc (Obj.cells #[Value.int IntKind.i64 n] 3)).alloc (Obj.cells #[Value.int IntKind.i64 0] 3)).alloc (Obj.cells #[Value.int IntKind.i64 0] 3)).alloc (Obj.cells #[Value.int IntKind.i64 0] 42)) = W0 at *
    clear A4
    generalize hb : w.heap.size = b at *
    refine wpIn_range (gf := 206) (lb := #[]) rfl (enters_of Tryz.func206 (by kernel_rfl) rfl) (encs := clsArgs) (fun _ => rfl) Sizes1_it
      (fun pre => As.and (∀ x ∈ pre, sizeOk n x = false) (findX n b 0 0 0 1))
      (fun c pre k => c = .ret ∧ ∃ q x, pre = q ++ [x] ∧ (∀ y ∈ q, sizeOk n y = false) ∧ sizeOk n x = true ∧ findX n b x.1 x.2 0 1 k)
      (fun pre x a' k => a' = { tmps := #[.int .i64 n, .pointer (some ⟨b, 0, none⟩), .pointer (some ⟨b+1, 0, none⟩), .pointer (some ⟨b+1+1, 0, none⟩), .pointer (some ⟨b+1+1+1, 0, none⟩), .int .i64 x.1, .int .i64 x.2, .int .i64 n, .bool (decide (n < 1)), .func (.func 206) #[] #[], .int .i64 x.1, .int .i64 x.2, undef, undef, undef, undef, undef], defers := [] } ∧ (∀ x ∈ pre, sizeOk n x = false) ∧ findX n b 0 0 0 1 k)
      T4.has (by rw [As.one_mul]; exact ⟨by simp, A0⟩) (fun k hk => ⟨_, by rw [As.one_mul]; exact hk⟩) ?assign ?body ?done ?stop
    case assign =>
      rintro l pre x rest W k hx Hk ⟨hp, hk⟩
      unfold clsArgs
      gi_wp2
      exact ⟨k, Tr.refl Hk, by simp, hp, hk⟩
    case body =>
      rintro l pre x rest a' W k hx Hk ⟨rfl, hp, hk⟩
      have c0 := blk_cell (pts_get Hk hk) 0
      have e1 := pts_get Hk (br2 hk)
      have e2 := pts_get Hk (br3 hk)
      have e3 := pts_get Hk (br4 hk)
      have f1 := blk_free e1 0
      have f2 := blk_free e2 0
      have f3 := blk_free e3 0
      have c1 := blk_cell e1 0
      have c2 := blk_cell e2 0
      have c3 := blk_cell e3 0
      gi_wp2
      · rename_i hle
        obtain ⟨k1, t1, a1⟩ := (Tr.refl Hk).setA (br2 hk) 0 (.int .i64 x.1)
        obtain ⟨k2, t2, a2⟩ := t1.setA (l3' a1) 0 (.int .i64 x.2)
        obtain ⟨k3, t3, a3⟩ := t2.setA (l4' a2) 0 (.int .i64 0)
        refine ⟨k3, t3, rfl, pre, x, rfl, hp, by simpa [sizeOk] using hle, ?_⟩
        exact l5' a3
      · rename_i hle
        refine ⟨k, Tr.refl Hk, ?_, hk⟩
        intro y hy
        rcases List.mem_append.1 hy with h | h
        · exact hp y h
        · rw [List.mem_singleton.1 h]; simp [sizeOk]; omega
    case done =>
      rintro D W k hD t hk
      rw [As.one_mul] at hk
      obtain ⟨hp, hk⟩ := and_mul_r (cm hk)
      rw [findX_mul, As.one_mul] at hk
      have e1 := pts_get t.has (br2 hk)
      have e2 := pts_get t.has (br3 hk)
      have e3 := pts_get t.has (br4 hk)
      have f1 := blk_free e1 0
      have f2 := blk_free e2 0
      have f3 := blk_free e3 0
      have c1 := blk_cell e1 0
      have c2 := blk_cell e2 0
      have c3 := blk_cell e3 0
      gi_wp2
      obtain ⟨k1, t1, a1⟩ := t.setA (br2 hk) 0 (.int .i64 0)
      obtain ⟨k2, t2, a2⟩ := t1.setA (l3' a1) 0 (.int .i64 0)
      obtain ⟨k3, t3, a3⟩ := t2.setA (l4' a2) 0 (.int .i64 4)
      refine find_end t3 (l5' a3) rfl rfl rfl rfl fun w' k' tt _ => ⟨?_, ?_⟩
      · have : cls.find? (sizeOk n) = none := List.find?_eq_none.2 fun x hx => by simp [hp x hx]
        have hn' : ¬ n < 1 := by omega
        simp [findR, this, hn']
      · exact (T4.trans tt).below (by omega) fun _ _ => rfl
    case stop =>
      rintro D c pre x rest W k hD hx t hk
      obtain ⟨k1, k2, d, rfl, hk1, k3, k4, d', rfl, hk3, rfl, q, y, hq, hp, hy, hk2⟩ := hk
      have hk : (pts D (.deferred (some [])) * (1 * findX n b y.1 y.2 0 1)) (k1.un (k3.un k4)) := ⟨k1, _, d, rfl, hk1, k3, k4, d', rfl, hk3, hk2⟩
      rw [As.one_mul] at hk
      have hk := cm hk
      rw [findX_mul, As.one_mul] at hk
      obtain ⟨rfl, e⟩ := List.append_inj' hq rfl
      cases e
      gi_wp2
      refine find_end t hk rfl rfl rfl rfl fun w' k' tt _ => ⟨?_, ?_⟩
      · have : cls.find? (sizeOk n) = some x := by rw [hx, List.find?_append, List.find?_eq_none.2 fun x hx => by simp [hp x hx]]; simp [hy]
        have hn' : ¬ n < 1 := by omega
        simp [findR, this, hn']
      · exact (T4.trans tt).below (by omega) fun _ _ => rfl
/-- The size of the class, and the error. -/
def rnd (n : Int) : Int × Int := if n < 1 then (0, 1) else match cls.find? (sizeOk n) with | some x => ((x.2 : Int), 0) | none => (0, 4)
theorem Round_any (n : Int) (w : World) : Calls Tryz.prog 54 #[.int .i64 n] w fun e w' => e = .returned (.tuple #[.int .i64 (rnd n).1, .int .i64 (rnd n).2]) ∧ Below w.heap.size w w' := by
  have hf := fun w => find_any n w
  have hr : ∃ c : Int, findR n = .tuple #[.int .i64 c, .int .i64 (rnd n).1, .int .i64 (rnd n).2] := by
    unfold findR rnd
    split
    · exact ⟨_, rfl⟩
    · split <;> exact ⟨_, rfl⟩
  obtain ⟨c, hc⟩ := hr
  rw [hc] at hf
  go_enter Tryz.func54, Tryz.ntmps54
  go_wp2_with (first | (go_at_call 125; refine (hf _).mono ?_; rintro e w' ⟨rfl, hB⟩))
  go_ret2
  exact ⟨rfl, hB⟩
end Go.Proofs.YthnfiejdkhejlaaGreat
