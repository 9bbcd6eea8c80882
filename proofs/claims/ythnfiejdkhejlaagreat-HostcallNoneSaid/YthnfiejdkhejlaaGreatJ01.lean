/- Slices that are owned: a row of cells. Append, make, reading. No program in sight. -/
import Derived.Laws.AppendOwnNone
import Derived.RangeFuncNested
import Derived.RangeFuncBound
import Derived.RangeFuncCalls
import Derived.RangeFuncLeaves
import Derived.OwnWalkIn
import Derived.TacticsInMore
import Derived.LoopNIn
import Derived.LoopIn
import Derived.Test.YthnfiejdkhejlaaGreatProg
import Derived.Test.YthnfiejdkhejlaaGreatJ00
set_option linter.all false
set_option maxRecDepth 100000
namespace Go.Sl
open Go.RowKit
/-- v is a slice of n elements of type e (sz cells each) that owns its block; its cells are xs. -/
def rowAs (e : TypeId) (sz : Nat) (v : Value) (n : Nat) (xs : List Value) : As := fun h =>
  xs.length = n * sz ∧ ((v = .slice none 0 0 ∧ n = 0 ∧ (1 : As) h) ∨
    ∃ g cap cur, v = .slice (some ⟨g, 0, none⟩) n cap ∧ n ≤ cap ∧ cap ≤ maxLen ∧ cur.size = cap * sz ∧ cur.toList.take (n * sz) = xs ∧ pts g (.cells cur e (0, 0)) h)
theorem rowAs.nil (e : TypeId) (sz : Nat) {h : Hl} (X : As) (hx : X h) : (rowAs e sz (.slice none 0 0) 0 [] * X) h := by
  rw [← As.one_mul X] at hx
  exact As.monoL (fun y hy => ⟨by simp, .inl ⟨rfl, rfl, hy⟩⟩) hx
theorem rowAs_cases {e : TypeId} {sz : Nat} {v : Value} {n : Nat} {xs : List Value} {X : As} {h : Hl} (hr : (rowAs e sz v n xs * X) h) : xs.length = n * sz ∧ ((v = .slice none 0 0 ∧ n = 0 ∧ X h) ∨
    ∃ g cap cur, v = .slice (some ⟨g, 0, none⟩) n cap ∧ n ≤ cap ∧ cap ≤ maxLen ∧ cur.size = cap * sz ∧ cur.toList.take (n * sz) = xs ∧ (pts g (.cells cur e (0, 0)) * X) h) := by
  obtain ⟨x, y, d, rfl, ⟨hl, hx⟩, hy⟩ := hr
  refine ⟨hl, ?_⟩
  rcases hx with ⟨rfl, rfl, h1⟩ | ⟨g, cap, cur, rfl, h1, h2, h3, h4, h5⟩
  · rw [As.one_def] at h1; subst h1
    refine .inl ⟨rfl, rfl, ?_⟩
    rw [Hl.un_comm d, Hl.un_emp]; exact hy
  · exact .inr ⟨g, cap, cur, rfl, h1, h2, h3, h4, x, y, d, rfl, h5, hy⟩
theorem rowAs_form {e : TypeId} {sz : Nat} {v : Value} {n : Nat} {xs : List Value} {X : As} {h : Hl} (hr : (rowAs e sz v n xs * X) h) : ∃ ad cp, v = .slice ad n cp := by
  rcases (rowAs_cases hr).2 with ⟨rfl, rfl, _⟩ | ⟨g, cap, cur, rfl, _⟩
  · exact ⟨_, _, rfl⟩
  · exact ⟨_, _, rfl⟩
theorem rowAs_mk {e : TypeId} {sz : Nat} {n : Nat} {xs : List Value} {X : As} {h : Hl} {g cap : Nat} {cur : Array Value} (hl : xs.length = n * sz) (h1 : n ≤ cap) (h2 : cap ≤ maxLen) (h3 : cur.size = cap * sz) (h4 : cur.toList.take (n * sz) = xs)
    (hp : (pts g (.cells cur e (0, 0)) * X) h) : (rowAs e sz (.slice (some ⟨g, 0, none⟩) n cap) n xs * X) h :=
  As.monoL (fun _ hy => ⟨hl, .inr ⟨g, cap, cur, rfl, h1, h2, h3, h4, hy⟩⟩) hp
/-- The block of an owned row is given up: what lies beside it stays owned. -/
theorem pts_drop {h : Hl} {b : Nat} {o : Obj} {X : As} (hp : (pts b o * X) h) : ∃ y, X y ∧ (∀ k, y k ≠ none → h k = y k) ∧ (∀ k, h k = none → y k = none) := by
  obtain ⟨x, y, d, rfl, hx, hy⟩ := hp
  refine ⟨y, hy, fun k hk => ?_, fun k hk => by simp [Hl.un] at hk; exact hk.2⟩
  have := (d k).resolve_right hk
  simp [Hl.un, this]
theorem Tr.drop {w w' : World} {h h' y : Hl} (t : Tr w w' h h') (hy : ∀ k, y k ≠ none → h' k = y k) : Tr w w' h y where
  os := t.os
  tape := t.tape
  output := t.output
  size := t.size
  keep := t.keep
  grow := fun k e => t.grow k (by rw [hy k e]; exact e)
  has := fun k o e => t.has k o (by rw [hy k (by simp [e])]; exact e)
theorem rowAs_cell {e : TypeId} {sz : Nat} {n cap : Nat} {xs : List Value} {cur : Array Value} {g : Nat} {w : World} (hg : w.heap[g]? = some (.cells cur e (0, 0))) (ht : cur.toList.take (n * sz) = xs) {j : Nat} {u : Value} (hu : xs[j]? = some u) :
    w.cell? ⟨g, j, none⟩ = some u := by
  rw [blk_cell hg, ← hu, ← ht, List.getElem?_take]
  have : j < n * sz := by
    have := (List.getElem?_eq_some_iff.1 hu).1; rw [← ht, List.length_take] at this; omega
  rw [if_pos this]; simp
/-! Bringing a part to the front, and back. -/
theorem br2 {A B C : As} {h : Hl} (x : (A * (B * C)) h) : (B * (A * C)) h := (show A * (B * C) = B * (A * C) by ac_rfl) ▸ x
theorem br3 {A B C D : As} {h : Hl} (x : (A * (B * (C * D))) h) : (C * (A * (B * D))) h := (show A * (B * (C * D)) = C * (A * (B * D)) by ac_rfl) ▸ x
theorem ib3 {A B C D : As} {h : Hl} (x : (C * (A * (B * D))) h) : (A * (B * (C * D))) h := (show C * (A * (B * D)) = A * (B * (C * D)) by ac_rfl) ▸ x
theorem br4 {A B C D E : As} {h : Hl} (x : (A * (B * (C * (D * E)))) h) : (D * (A * (B * (C * E)))) h := (show A * (B * (C * (D * E))) = D * (A * (B * (C * E))) by ac_rfl) ▸ x
theorem ib4 {A B C D E : As} {h : Hl} (x : (D * (A * (B * (C * E)))) h) : (A * (B * (C * (D * E)))) h := (show D * (A * (B * (C * E))) = A * (B * (C * (D * E))) by ac_rfl) ▸ x
theorem cm {A B : As} {h : Hl} (x : (A * B) h) : (B * A) h := As.comm A B ▸ x
theorem l3 {A B C : As} {h : Hl} (x : (A * (B * C)) h) : (C * (A * B)) h := (show A * (B * C) = C * (A * B) by ac_rfl) ▸ x
theorem il3 {A B C : As} {h : Hl} (x : (C * (A * B)) h) : (A * (B * C)) h := (show C * (A * B) = A * (B * C) by ac_rfl) ▸ x
theorem and_mul_r {p : Prop} {A B : As} {h : Hl} (x : (@HMul.hMul As As As _ (fun h => p ∧ A h) B) h) : p ∧ (A * B) h := (As.and_mul p A B h).1 x
/-! Rows of structs. -/
section
variable {α : Type} {enc : α → List Value} {sz : Nat}
theorem flat_len (he : ∀ x, (enc x).length = sz) (l : List α) : (l.flatMap enc).length = l.length * sz := by
  induction l with
  | nil => simp
  | cons a l ih => rw [List.flatMap_cons, List.length_append, he, ih, List.length_cons, Nat.add_mul, Nat.one_mul, Nat.add_comm]
theorem flat_get (he : ∀ x, (enc x).length = sz) {j : Nat} (hj : j < sz) : ∀ (l : List α) (i : Nat), (l.flatMap enc)[i * sz + j]? = (l[i]?).bind fun x => (enc x)[j]?
  | [], i => by simp
  | a :: l, 0 => by
    rw [List.flatMap_cons, Nat.zero_mul, Nat.zero_add, List.getElem?_append_left (by rw [he]; exact hj)]; rfl
  | a :: l, i + 1 => by
    rw [List.flatMap_cons, Nat.add_mul, Nat.one_mul, List.getElem?_append_right (by rw [he]; omega), he, show i * sz + sz + j - sz = i * sz + j by omega, flat_get he hj l i]; rfl
theorem flat_set (he : ∀ x, (enc x).length = sz) {j : Nat} (hj : j < sz) {y : α} {v : Value} : ∀ (l : List α) (i : Nat) {x : α}, l[i]? = some x → enc y = (enc x).set j v → (l.flatMap enc).set (i * sz + j) v = (l.set i y).flatMap enc
  | [], i, _, h, _ => by simp at h
  | a :: l, 0, x, h, e => by
    simp at h; subst h
    rw [List.flatMap_cons, List.set_cons_zero, List.flatMap_cons, Nat.zero_mul, Nat.zero_add, List.set_append_left _ _ (by rw [he]; exact hj), e]
  | a :: l, i + 1, x, h, e => by
    rw [List.flatMap_cons, List.set_cons_succ, List.flatMap_cons, Nat.add_mul, Nat.one_mul, List.set_append_right _ _ (by rw [he]; omega), he, show i * sz + sz + j - sz = i * sz + j by omega, flat_set he hj l i (by simpa using h) e]
end
theorem take_set_row {cur : Array Value} {m i : Nat} {v : Value} (_hi : i < m) : (cur.setIfInBounds i v).toList.take m = (cur.toList.take m).set i v := by
  rw [Array.toList_setIfInBounds, List.take_set]
theorem row_append {P : Program} {w : World} {h : Hl} {X : As} {t ty e : TypeId} {i : TypeInfo} {z : Value} {sz : Nat} {v : Value} {n : Nat} {xs : List Value} (H : Has w h) (hr : (rowAs e sz v n xs * X) h)
    (ht : P.underlying t = some (.slice e)) (hi : P.info? e = some i) (hz : i.zero = some z) (hsize : i.size = sz) (hzs : z.cells.size = sz)
    (a : Addr) (m c : Nat) (news : List Value) (hl : news.length = m * sz) (hnews : ∀ j u, news[j]? = some u → w.cell? (a.add j) = some u) (h1 : ∀ u ∈ news, u.oneCell' = true)
    (h63 : n + m ≤ maxLen) (hbytes : (n + m) * i.bytes ≤ 140737488355328) :
    ∃ v' w' h', (Builtin.append_ #[t, t] ty #[v, .slice (some a) m c]).run P w = .ok v' w' ∧ Tr w w' h h' ∧ (rowAs e sz v' (n + m) (xs ++ news) * X) h' := by
  subst hsize
  have hsmall : n + m ≤ 9223372036854775807 := by simp only [maxLen] at h63; omega
  obtain ⟨hlen, hc⟩ := rowAs_cases hr
  have hlen' : (xs ++ news).length = (n + m) * i.size := by rw [List.length_append, hlen, hl, Nat.add_mul]
  have grown : ∀ (old : Nat) (y : Hl), old < n + m → Has w y → (∀ k, y k ≠ none → h k = y k) → X y → Tr w (w.drew.alloc (.cells (xs.toArray ++ news.toArray ++ Builtin.zeroCells z.cells (grownCap w (n + m) old e - (n + m))) e)) h (y.set w.heap.size (.cells (xs.toArray ++ news.toArray ++ Builtin.zeroCells z.cells (grownCap w (n + m) old e - (n + m))) e)) ∧
      (rowAs e i.size (.slice (some ⟨w.heap.size, 0, none⟩) (n + m) (grownCap w (n + m) old e)) (n + m) (xs ++ news) * X) (y.set w.heap.size (.cells (xs.toArray ++ news.toArray ++ Builtin.zeroCells z.cells (grownCap w (n + m) old e - (n + m))) e)) := by
    intro old y ho Hy hy hX
    have hge := grownCap_ge w (n + m) old e
    have hcm : grownCap w (n + m) old e ≤ maxLen := grownCap_le_maxLen w (n + m) old e h63
    refine ⟨((Tr.refl H).drop hy).drew.allocOwn _, rowAs_mk hlen' hge hcm ?_ ?_ (pts_new _ Hy.none_new hX)⟩
    · simp only [Array.size_append, List.size_toArray, size_zeroCells, hzs, hlen, hl, ← Nat.add_mul]
      congr 1
      omega
    · simp only [Array.toList_append, List.append_assoc]
      rw [← List.append_assoc, ← hlen']
      exact List.take_left
  rcases hc with ⟨rfl, rfl, hX⟩ | ⟨g, cap, cur, rfl, hnc, hcm, hcs, htake, hp⟩
  · have hx : xs = [] := List.eq_nil_of_length_eq_zero (by simpa using hlen)
    subst hx
    by_cases hm : m = 0
    · subst hm
      have hn : news = [] := List.eq_nil_of_length_eq_zero (by simpa using hl)
      subst hn
      refine ⟨.slice none 0 0, w, h, ?_, Tr.refl H, rowAs.nil e i.size X hX⟩
      simp [Builtin.append_, run_underlying ht, sizeOf, typeInfo, hi, Builtin.lenOf, Builtin.firstCells, loadCells, loadCellsFrom]
    · have hr := run_append_nil (P := P) w t ty e i z ht hi hz a m c news hl hnews (by omega) (by omega) (by have hb := hbytes; simp only [Nat.zero_add] at hb; omega)
      have hgr := grown 0 h (by omega) H (fun _ _ => rfl) hX
      simp only [Nat.zero_add, List.nil_append, Array.empty_append] at hgr ⊢
      exact ⟨_, _, _, hr, hgr.1, hgr.2⟩
  · have hg := pts_get H hp
    by_cases hroom : n + m ≤ cap
    · have hfit : n * i.size + news.length ≤ cur.size := by rw [hl, hcs, ← Nat.add_mul]; exact Nat.mul_le_mul_right _ hroom
      have hr := run_append_room (P := P) w t ty e i ht hi g n cap cur hg a m c news hl hnews h1 hroom hfit
      refine ⟨_, _, _, hr, Tr.of_grown H (pts_at hp) ⟨rfl, rfl, rfl, by simp, fun k _ hk => setRow_other w g k _ (fun e => hk (by simp [e]))⟩ (setRow_heap w g cur _ e _ hg), rowAs_mk hlen' hroom hcm ?_ ?_ (pts_set _ hp)⟩
      · simp only [List.size_toArray, List.length_append, List.length_take, List.length_drop, Array.length_toList]
        omega
      · rw [htake, ← hlen']
        exact List.take_left
    · obtain ⟨y, hX, hy, hy0⟩ := pts_drop hp
      have Hy : Has w y := fun k o e => H k o (by rw [hy k (by simp [e])]; exact e)
      have holds : ∀ j u, xs[j]? = some u → w.cell? ((⟨g, 0, none⟩ : Addr).add j) = some u := fun j u hu => by
        rw [Addr.add_lit, Nat.zero_add]; exact rowAs_cell (cap := cap) hg htake hu
      have hr := run_append_grow (P := P) w t ty e i z ht hi hz ⟨g, 0, none⟩ n cap xs hlen holds a m c news hl hnews (by omega) (by omega) (growslice_fits (by omega) hbytes)
      have hgr := grown cap y (by omega) Hy hy hX
      exact ⟨_, _, _, hr, hgr.1, hgr.2⟩
end Go.Sl
/- A range over a function, with what the loop's body and the iterator own: the two blocks of book-keeping are owned by the law. No program in sight. -/
namespace Go.Sl
open Go.RowKit

/-- A call of yield: from A it goes on with B, or says 'no more' with Bx. -/
def Yd (P : Program) (l : Nat) (args : Array Value) (A B Bx : As) : Prop :=
  ∀ w h, Has w h → A h → YieldAt Fence.wide 7 P l args w fun e w' => ∃ h', Tr w w' h h' ∧ ((e = .returned (.bool true) ∧ B h') ∨ (e = .returned (.bool false) ∧ Bx h'))
theorem Yd.frame {P : Program} {l : Nat} {args : Array Value} {A B Bx : As} (s : Yd P l args A B Bx) (C : As) : Yd P l args (A * C) (B * C) (Bx * C) := by
  rintro w h H ⟨x, y, d, rfl, hx, hy⟩
  refine (s w x H.unL hx).mono fun e w' => ?_
  rintro ⟨x', t, r⟩
  obtain ⟨d', t'⟩ := t.frame d (H.unR d)
  refine ⟨x'.un y, t', ?_⟩
  rcases r with ⟨e, r⟩ | ⟨e, r⟩
  · exact .inl ⟨e, x', y, d', rfl, r, hy⟩
  · exact .inr ⟨e, x', y, d', rfl, r, hy⟩

/-- Just this partial heap. -/
def Only (h : Hl) : As := fun k => k = h

/-- An iterator: it owns C (C' behind), may look at T (which the caller owns) before the first round, and hands over xs. -/
def It {α : Type} (P : Program) (gf : Nat) (lb : Array Value) (T C C' : As) (xs : List α) (encs : α → Array Value) : Prop :=
  ∀ (l : Nat) (J Jx : List α → As), (∀ pre x rest, xs = pre ++ x :: rest → Yd P l (encs x) (J pre) (J (pre ++ [x])) (Jx (pre ++ [x]))) →
    ∀ w h R, Has w h → J [] h → (T * R) h → ∀ c, (C * Only h) c → Has w c →
      CallsIn Fence.wide 8 P gf (#[.func (.yield l) #[] #[]] ++ lb) w fun e w' => (∃ v, e = .returned v) ∧ ∃ c', Tr w w' c c' ∧
        ((C' * J xs) c' ∨ ∃ pre x rest, xs = pre ++ x :: rest ∧ (C' * Jx (pre ++ [x])) c')

/-- How a round ends. -/
def rPost {α : Type} (J : List α → As) (Jx : Code → List α → As) (w : World) (h : Hl) (xs : List α) : Exit → Act → World → Prop
  | .normal, _, w' => ∃ h', Tr w w' h h' ∧ J xs h'
  | .ret, _, w' => ∃ h', Tr w w' h h' ∧ Jx .ret xs h'
  | .exit id, _, w' => ∃ h', Tr w w' h h' ∧ Jx (.exit id) xs h'
  | .goto t, _, w' => ∃ h', Tr w w' h h' ∧ Jx (.goto t) xs h'
  | .panic _, _, _ => False
  | .outgrown, _, _ => False

theorem wpIn_range {α : Type} {P : Program} {g : Operand} {ps : Array Tmp} {assign body : Code} {Q : Exit → Act → World → Prop} {a : Act} {w : World} {h : Hl}
    {gf : Nat} {lb : Array Value} (hg : a.eval g = .func (.func gf) #[] lb) (eg : ∀ args w, (callFunc gf args).run P w = .ok (.enter gf args) w)
    {encs : α → Array Value} (hps : ∀ x, (encs x).size = ps.size) {T C C' : As} {xs : List α} (hit : It P gf lb T C C' xs encs)
    (J : List α → As) (Jx : Code → List α → As) (Jm : List α → α → Act → As) (H : Has w h) (h0 : (C * J []) h) (hT : ∀ k, J [] k → ∃ R, (T * R) k)
    (hassign : ∀ (l : Nat) (pre : List α) (x : α) (rest : List α) (W : World) (k : Hl), xs = pre ++ x :: rest → Has W k → J pre k →
      assign.wpIn (Fence.wide.inRound l) 7 P (Exit.then (fun a' W' => ∃ k', Tr W W' k k' ∧ Jm pre x a' k') (fun _ _ _ => False)) { tmps := (ps.zip (encs x)).foldl (fun t (p, v) => t.setIfInBounds p v) a.tmps, defers := [] } W)
    (hbody : ∀ (l : Nat) (pre : List α) (x : α) (rest : List α) (a' : Act) (W : World) (k : Hl), xs = pre ++ x :: rest → Has W k → Jm pre x a' k →
      body.wpIn (Fence.wide.inRound l) 7 P (rPost J Jx W k (pre ++ [x])) a' W)
    (hdone : ∀ (D : Nat) (W : World) (k : Hl), w.heap.size ≤ D → Tr w W h k → (pts D (.deferred (some [])) * (C' * J xs)) k → Q .normal { a with defers := { target := .collected D, args := #[] } :: a.defers } W)
    (hstop : ∀ (D : Nat) (c : Code) (pre : List α) (x : α) (rest : List α) (W : World) (k : Hl), w.heap.size ≤ D → xs = pre ++ x :: rest → Tr w W h k → (pts D (.deferred (some [])) * (C' * Jx c (pre ++ [x]))) k →
      c.wpIn Fence.wide 9 P Q { a with defers := { target := .collected D, args := #[] } :: a.defers } W) :
    (Code.rangeFunc g ps assign body).wpIn Fence.wide 9 P Q a w := by
  refine wpIn_rangeFunc ?_
  intro fn hfn
  obtain ⟨rec, hrec⟩ : ∃ rec : LoopState → Option Code → Loop, rec = fun st pe => { state := st, pending := pe, fn, tmps := a.tmps, params := ps, assign, body, defers := w.heap.size } := ⟨_, rfl⟩
  have T0 := ((Tr.refl H).allocOwn (.deferred (some []))).allocOwn (.loop (rec .ready none))
  have hA1 := pts_new (.loop (rec .ready none)) ((Tr.refl H).allocOwn (.deferred (some []))).has.none_new (pts_new (.deferred (some [])) H.none_new h0)
  rw [World.size_alloc] at T0 hA1
  generalize hW1 : (w.alloc (.deferred (some []))).alloc (.loop (rec .ready none)) = W1 at T0
  generalize (h.set w.heap.size (.deferred (some []))).set (w.heap.size + 1) (.loop (rec .ready none)) = h1 at T0 hA1
  refine ⟨w.heap.size + 1, [{ target := .collected w.heap.size, args := #[] }], W1, { target := .fn (.func gf) lb, args := #[.func (.yield (w.heap.size + 1)) #[] #[]] }, W1, gf,
    #[.func (.yield (w.heap.size + 1)) #[] #[]] ++ lb, W1, ?_, ?_, fun _ _ => trivial, ?_, fun _ => by omega, ?_⟩
  · rw [← hW1, hrec]; exact run_enterLoop_outer _ _ _ _ _
  · simp only [resolve, hg]
    simp [go_sem]
  · simp [invoke, go_sem, eg]
  · obtain ⟨c1, hc1, hc1'⟩ : ∃ X : As, X h1 ∧ X = C * (pts (w.heap.size + 1) (.loop (rec .ready none)) * (pts w.heap.size (.deferred (some [])) * J [])) :=
      ⟨_, br3 hA1, rfl⟩
    subst hc1'
    obtain ⟨x, y, d, rfl, hx, hy⟩ := hc1
    obtain ⟨R, hR⟩ : ∃ R : As, (T * R) y := by
      obtain ⟨u, v, d1, rfl, hu, s, t, d2, rfl, hs, ht⟩ := hy
      obtain ⟨R, hR⟩ := hT t ht
      refine ⟨pts (w.heap.size + 1) (.loop (rec .ready none)) * (pts w.heap.size (.deferred (some [])) * R), br3 ?_⟩
      exact ⟨u, _, d1, rfl, hu, s, t, d2, rfl, hs, hR⟩
    refine CallsIn.mono (hit (w.heap.size + 1)
      (fun pre => pts (w.heap.size + 1) (.loop (rec .ready none)) * (pts w.heap.size (.deferred (some [])) * J pre))
      (fun pre => As.ex fun c => pts (w.heap.size + 1) (.loop (rec .done (some c))) * (pts w.heap.size (.deferred (some [])) * Jx c pre))
      ?_ W1 y R (T0.has.unR d) hy hR _ ⟨x, y, d, rfl, hx, rfl⟩ T0.has) ?_
    · -- one round
      intro pre x' rest hxs W k Hk hk
      have hl := pts_get Hk hk
      have hyd := run_yield (P := P) (args := encs x') hl (by rw [hrec]; exact hps x')
      rw [hrec] at hyd
      refine ⟨fn, _, assign, body, hyd, roundIn_of_wpIn hfn ?_⟩
      clear hyd
      obtain ⟨p, q, d1, rfl, hp, hq⟩ := hk
      obtain ⟨r, s, d2, rfl, hr, hs⟩ := hq
      have Hs : Has W s := (Hk.unR d1).unR d2
      refine wpIn_mono (hassign _ pre x' rest W s hxs Hs hs) ?_
      intro e a' Wa hp'
      cases e with
      | normal =>
        obtain ⟨ka, ta, hm⟩ := hp'
        obtain ⟨d2', ta2⟩ := ta.frame (Hl.dj_comm d2) (Hk.unR d1).unL
        have d12 : (s.un r).dj p := by rw [← Hl.un_comm d2]; exact Hl.dj_comm d1
        obtain ⟨d1', ta3⟩ := ta2.frame d12 Hk.unL
        cases hp
        have hl2 : Wa.heap[w.heap.size + 1]? = some (.loop (rec .ready none)) := ta3.has _ _ (by
          rcases d1' (w.heap.size + 1) with h | h
          · simp [Hl.un] at h; simp [Hl.un, h, Hl.pt]
          · simp [Hl.pt] at h)
        have tb := ta3.putOwn (b := w.heap.size + 1) (o := .loop (rec .ready none)) (by
          rcases d1' (w.heap.size + 1) with h | h
          · simp [Hl.un] at h; simp [Hl.un, h, Hl.pt]
          · simp [Hl.pt] at h) (.loop { rec .ready none with state := .busy })
        refine ⟨_, run_beginRound hl2 (by rw [hrec]), ?_⟩
        generalize hWb : Wa.putObj (w.heap.size + 1) (.loop { rec .ready none with state := .busy }) = Wb at tb
        have hset : ((ka.un r).un (Hl.pt (w.heap.size + 1) (.loop (rec .ready none)))).set (w.heap.size + 1) (.loop { rec .ready none with state := .busy }) = (ka.un r).un (Hl.pt (w.heap.size + 1) (.loop { rec .ready none with state := .busy })) := by
          funext i
          simp only [Hl.set, Hl.un, Hl.pt]
          by_cases e : i = w.heap.size + 1
          · subst e
            rcases d1' (w.heap.size + 1) with h | h
            · simp [Hl.un] at h; simp [h]
            · simp [Hl.pt] at h
          · simp [e]
        rw [hset] at tb
        have d1b : (ka.un r).dj (Hl.pt (w.heap.size + 1) (.loop { rec .ready none with state := .busy })) := fun i => by
          rcases d1' i with h | h
          · exact .inl h
          · refine .inr ?_
            simp only [Hl.pt] at h ⊢
            split at h <;> simp_all
        have Hka : Has Wb ka := tb.has.unL.unL
        refine wpIn_mono (hbody _ pre x' rest a' Wb ka hxs Hka hm) ?_
        have fin : ∀ (jump : Option Code) (W3 : World) (k3 : Hl) (Z : As), Tr Wb W3 ka k3 → Z k3 →
            ∃ W4, (Instr.endRound (w.heap.size + 1) jump).run P W3 = .ok (.bool jump.isNone) W4 ∧ ∃ k4, Tr W W4 ((Hl.pt (w.heap.size + 1) (.loop (rec .ready none))).un (r.un s)) k4 ∧
              (pts (w.heap.size + 1) (.loop (rec (if jump.isNone then .ready else .done) jump)) * (pts w.heap.size (.deferred (some [])) * Z)) k4 := fun jump W3 k3 Z t3 hz => by
          obtain ⟨d3, t4⟩ := t3.frame d2' (tb.has.unL.unR d2')
          obtain ⟨d4, t5⟩ := t4.frame d1b (tb.has.unR d1b)
          have hat : ((k3.un r).un (Hl.pt (w.heap.size + 1) (.loop { rec .ready none with state := .busy }))) (w.heap.size + 1) = some (.loop { rec .ready none with state := .busy }) := by
            rcases d4 (w.heap.size + 1) with h | h
            · simp [Hl.un] at h; simp [Hl.un, h, Hl.pt]
            · simp [Hl.pt] at h
          have hl3 := t5.has _ _ hat
          have he := run_endRound (P := P) jump hl3
          refine ⟨_, by subst hrec; exact he, ?_⟩
          have t6 := t5.putOwn hat (.loop (rec (if jump.isNone then .ready else .done) jump))
          have e0 : (Hl.pt (w.heap.size + 1) (.loop (rec .ready none))).un (r.un s) = (s.un r).un (Hl.pt (w.heap.size + 1) (.loop (rec .ready none))) := by
            rw [Hl.un_comm d1, Hl.un_comm d2]
          rw [e0]
          subst hrec
          refine ⟨_, tb.trans t6, ?_⟩
          exact pts_set (X := pts w.heap.size (.deferred (some [])) * Z) _ ⟨Hl.pt _ _, k3.un r, Hl.dj_comm d4, (Hl.un_comm (Hl.dj_comm d4)).symm, rfl, r, k3, Hl.dj_comm d3, (Hl.un_comm (Hl.dj_comm d3)).symm, hr, hz⟩
        intro e3 a3 W3 hp3
        cases e3 with
        | normal =>
          obtain ⟨k3, t3, hz⟩ := hp3
          obtain ⟨W4, hr4, k4, t4, hz4⟩ := fin none W3 k3 _ t3 hz
          exact ⟨_, _, hr4, k4, t4, .inl ⟨rfl, hz4⟩⟩
        | ret =>
          obtain ⟨k3, t3, hz⟩ := hp3
          obtain ⟨W4, hr4, k4, t4, hz4⟩ := fin (some .ret) W3 k3 _ t3 hz
          exact ⟨_, _, hr4, k4, t4, .inr ⟨rfl, _, hz4⟩⟩
        | exit id =>
          obtain ⟨k3, t3, hz⟩ := hp3
          obtain ⟨W4, hr4, k4, t4, hz4⟩ := fin (some (.exit id)) W3 k3 _ t3 hz
          exact ⟨_, _, hr4, k4, t4, .inr ⟨rfl, _, hz4⟩⟩
        | goto t =>
          obtain ⟨k3, t3, hz⟩ := hp3
          obtain ⟨W4, hr4, k4, t4, hz4⟩ := fin (some (.goto t)) W3 k3 _ t3 hz
          exact ⟨_, _, hr4, k4, t4, .inr ⟨rfl, _, hz4⟩⟩
        | panic ch => exact hp3.elim
        | outgrown => exact hp3.elim
      | exit id => exact hp'.elim
      | goto t => exact hp'.elim
      | ret => exact hp'.elim
      | panic ch => exact hp'.elim
      | outgrown => exact hp'.elim
    · -- behind the iterator
      have out : ∀ (st : LoopState) (pe : Option Code) (W2 : World) (k : Hl) (Z : As), st ≠ .busy → Tr W1 W2 (x.un y) k → (pts (w.heap.size + 1) (.loop (rec st pe)) * (pts w.heap.size (.deferred (some [])) * (C' * Z))) k →
          ∃ W4, (Instr.endLoop (w.heap.size + 1)).run P W2 = .ok pe W4 ∧ ∃ k', Tr w W4 h k' ∧ (pts w.heap.size (.deferred (some [])) * (C' * Z)) k' := fun st pe W2 k Z hst t hk => by
        have hl := pts_get t.has hk
        have he := run_endLoop (P := P) hl (by rw [hrec]; exact hst)
        refine ⟨_, by simpa [hrec] using he, ?_⟩
        have t6 := (T0.trans t).putOwn (pts_at hk) (.loop { rec st pe with state := .exhausted })
        obtain ⟨y', hy', e1, _⟩ := pts_drop (pts_set (.loop { rec st pe with state := .exhausted }) hk)
        refine ⟨y', by simpa [hrec] using t6.drop e1, hy'⟩
      rintro e W2 ⟨⟨v, rfl⟩, k, t, (hk | ⟨pre, x', rest, hxs, hk⟩)⟩
      · obtain ⟨W4, hr4, k4, t4, hz4⟩ := out .ready none W2 k (J xs) (by simp) t (ib3 hk)
        exact ⟨none, _, hr4, hdone _ W4 k4 (Nat.le_refl _) t4 hz4⟩
      · obtain ⟨p, q, d1, rfl, hp, c, hq⟩ := hk
        have hk' : (C' * (pts (w.heap.size + 1) (.loop (rec .done (some c))) * (pts w.heap.size (.deferred (some [])) * Jx c (pre ++ [x'])))) (p.un q) := ⟨p, q, d1, rfl, hp, hq⟩
        obtain ⟨W4, hr4, k4, t4, hz4⟩ := out .done (some c) W2 _ (Jx c (pre ++ [x'])) (by simp) t (ib3 hk')
        exact ⟨some c, _, hr4, hstop _ c pre x' rest W4 k4 (Nat.le_refl _) hxs t4 hz4⟩
section
variable {F : Fence} {n : Nat} {P : Program} {ops : Array Oper} {rest : List Oper} {a : Act} {w w' : World} {Q : Exit → Act → World → Prop} {T ty : TypeId} {x i y : Operand} {dst : Option Tmp} {ok : Bool} {pos : String} {after : Array Edge}
theorem wpListIn_val {o : Oper} {v : Value} (hF : ∀ f, F.fn f) (hop : ∀ c, o.op ≠ .defer c) (hg : o.guard = none) (hrun : (execOp a.eval o).run P w = .ok (.value v) w') (h : wpListIn F n P ops Q rest (a.put o.dst v) w') : wpListIn F n P ops Q (o :: rest) a w := by
  refine wpListIn_plain hg fun K hK => ?_
  refine ⟨fun f _ => hF f, ?_⟩
  rw [Oper.semAt_plain F _ _ hop, hrun]
  exact hK _ _ h
theorem wpListIn_skip' {o : Oper} (hF : ∀ f, F.fn f) (hop : ∀ c, o.op ≠ .defer c) (hg : o.guard = none) (hrun : (execOp a.eval o).run P w = .ok .skip w') (h : wpListIn F n P ops Q rest (a.put o.dst undef) w') : wpListIn F n P ops Q (o :: rest) a w := by
  refine wpListIn_plain hg fun K hK => ?_
  refine ⟨fun f _ => hF f, ?_⟩
  rw [Oper.semAt_plain F _ _ hop, hrun]
  exact hK _ _ h
theorem wpListIn_lookup (hF : ∀ f, F.fn f) (vx vi v : Value) (hx : a.eval x = vx) (hi : a.eval i = vi) (hrun : (Instr.lookup T vx vi ok).run P w = .ok v w') (h : wpListIn F n P ops Q rest (a.put dst v) w') :
    wpListIn F n P ops Q ({ dst, op := .lookup T x i ok, type := ty, pos, after, guard := none } :: rest) a w := by
  refine wpListIn_val hF (fun c e => by cases e) rfl ?_ h
  show (do pure (Next.value (← Instr.lookup T (a.eval x) (a.eval i) ok)) : Sem Next).run P w = _
  rw [hx, hi]; simp [go_sem, hrun]
theorem wpListIn_mapUpdate (hF : ∀ f, F.fn f) (vx vi vy : Value) (hx : a.eval x = vx) (hi : a.eval i = vi) (hy : a.eval y = vy) (hrun : (Instr.mapUpdate T vx vi vy).run P w = .ok () w') (h : wpListIn F n P ops Q rest (a.put dst undef) w') :
    wpListIn F n P ops Q ({ dst, op := .mapUpdate T x i y, type := ty, pos, after, guard := none } :: rest) a w := by
  refine wpListIn_skip' hF (fun c e => by cases e) rfl ?_ h
  show (do Instr.mapUpdate T (a.eval x) (a.eval i) (a.eval y); pure Next.skip).run P w = _
  rw [hx, hi, hy]; simp [go_sem, hrun]
theorem wpListIn_append {ats : Array TypeId} (hF : ∀ f, F.fn f) (vx vi v : Value) (hx : a.eval x = vx) (hi : a.eval i = vi) (hrun : (Builtin.append_ ats ty #[vx, vi]).run P w = .ok v w') (h : wpListIn F n P ops Q rest (a.put dst v) w') :
    wpListIn F n P ops Q ({ dst, op := .call { callee := .builtin .append, args := #[x, i], argTypes := ats }, type := ty, pos, after, guard := none } :: rest) a w := by
  refine wpListIn_val hF (fun c e => by cases e) rfl ?_ h
  rw [BigFrame.execOp_builtin, BigFrame.builtin_append]
  have : (#[x, i] : Array Operand).map a.eval = #[vx, vi] := by rw [List.map_toArray, List.map_cons, List.map_cons, List.map_nil, hx, hi]
  rw [this]
  show Sem.run P ((Builtin.append_ ats ty #[vx, vi]).bind fun v => Sem.pure (Next.value v)) w = _
  rw [Sem.run_bind', hrun]; rfl
end
/-- Leaving a function that may hold a range over a function: no mark; one mark. -/
theorem postM_ret {F : Fence} {n : Nat} {P : Program} {fn : Func} {R : Ending → World → Prop} {a : Act} {w : World} {v : Value} (hd : a.defers = []) (hres : (results fn a.tmps).run P w = .ok v w) (h : R (.returned v) w) : bodyPostM F n P fn R .ret a w := by
  show LeavesInM F n P fn a.tmps R a.defers .returning w
  rw [hd]; exact ⟨v, hres, h⟩
theorem postM_mark {F : Fence} {n : Nat} {P : Program} {fn : Func} {R : Ending → World → Prop} {a : Act} {w : World} {v : Value} {D : Nat} (hd : a.defers = [{ target := .collected D, args := #[] }])
    (hK : w.heap[D]? = some (.deferred (some []))) (hres : (results fn a.tmps).run P (w.putObj D (.deferred none)) = .ok v (w.putObj D (.deferred none))) (h : R (.returned v) (w.putObj D (.deferred none))) : bodyPostM F n P fn R .ret a w := by
  show LeavesInM F n P fn a.tmps R a.defers .returning w
  rw [hd]
  exact ⟨by simp, .inl ⟨D, _, rfl, run_takeDeferred hK, v, hres, h⟩⟩
theorem postM_end {F : Fence} {n : Nat} {P : Program} {fn : Func} {R : Ending → World → Prop} {a : Act} {w : World} (h : bodyPostM F n P fn R .ret a w) : bodyPostM F n P fn R .normal a w := h
/-- The block for the rounds' deferred calls is shut and dropped. -/
theorem Tr.shut {w W : World} {h k : Hl} {D : Nat} {X : As} (t : Tr w W h k) (hk : (pts D (.deferred (some [])) * X) k) : ∃ k', Tr w (W.putObj D (.deferred none)) h k' ∧ X k' := by
  have t6 := t.putOwn (pts_at hk) (.deferred none)
  obtain ⟨y, hy, e, _⟩ := pts_drop (pts_set (.deferred none) hk)
  exact ⟨y, t6.drop e, hy⟩
theorem Tr.allocA {w W : World} {h h' : Hl} {X : As} (t : Tr w W h h') (hx : X h') (o : Obj) : ∃ k, Tr w (W.alloc o) h k ∧ (pts W.heap.size o * X) k := ⟨_, t.allocOwn o, pts_new o t.has.none_new hx⟩
theorem Tr.setA {w W : World} {h h' : Hl} {X : As} {b : Nat} {cs : Array Value} {T : TypeId} {fz : Nat × Nat} (t : Tr w W h h') (hx : (pts b (.cells cs T fz) * X) h') (i : Nat) (v : Value) :
    ∃ k, Tr w (W.setCell ⟨b, i, none⟩ v) h k ∧ (pts b (.cells (cs.setIfInBounds i v) T fz) * X) k := ⟨_, t.setOwn (pts_at hx) i v, pts_set _ hx⟩
theorem _root_.Go.RowKit.Below.trans' {a b c : World} (h : Below a.heap.size a b) (k : Below b.heap.size b c) : Below a.heap.size a c := h.trans (k.mono h.size)
theorem cell_lt {w : World} {a : Addr} {v : Value} (h : w.cell? a = some v) : a.block < w.heap.size := by
  by_cases e : a.block < w.heap.size
  · exact e
  · simp [World.cell?, Array.getElem?_eq_none (Nat.le_of_not_lt e)] at h
theorem w64 (n : Int) (h : -9223372036854775808 ≤ n ∧ n ≤ 9223372036854775807) : wrap64 n = n := by unfold wrap64; omega
end Go.Sl
/- A region that draws its order: quiet operations and calls first (in whatever order), then a tail that waits for all of them. The laws of StillTail over a class of worlds, as Quiet has it. -/
namespace Go.Sl
open Go.RowKit Go.Sort
section
variable {P : Program} {ops : Array Oper} {md : Region.Mode} {C : World → Prop}
def wpAnyLQ (P : Program) (md : Region.Mode) (ops : Array Oper) (C : World → Prop) (n : Nat) (L : Array Bool → Act → Prop) : Nat → Array Bool → Act → Prop
  | 0, listed, a => L listed a
  | f + 1, listed, a =>
    Region.ready md ops listed ≠ [] ∧ ∀ i ∈ Region.ready md ops listed, i < n ∧ qOp P ops C i (wpAnyLQ P md ops C n L f (listed.setIfInBounds i true)) a
theorem wpAny_of_headQ {n g : Nat} {L : Array Bool → Act → Prop} {Q' : Exit → Act → World → Prop} (hL : ∀ listed a w, C w → L listed a → wpAny P md ops Q' g listed a w) :
    ∀ (f : Nat) (listed : Array Bool) (a : Act) (w : World), C w → wpAnyLQ P md ops C n L f listed a → wpAny P md ops Q' (f + g) listed a w
  | 0, listed, a, w, hw, h => by rw [Nat.zero_add]; exact hL _ _ _ hw h
  | f + 1, listed, a, w, hw, h => by
    rw [show f + 1 + g = (f + g) + 1 by omega]
    exact ⟨fun h0 => absurd h0 h.1, fun i hi => wpOp_of_qOp hw (fun a' w' hw' h' => wpAny_of_headQ hL f _ a' w' hw' h') (h.2 i hi).2⟩
theorem wpAnyLQ_first {n i : Nat} {oi : Oper} {v : Value} {L : Array Bool → Act → Prop} (hi : ops[i]? = some oi) (hsel : ∀ (j : Nat) (o : Oper) cs b, ops[j]? = some o → o.op ≠ .select cs b)
    (hs : Region.sinkB md ops n = true) (hc : Region.chainB md ops n = true) (hn : n < ops.size) (hin : i < n)
    (hdone : ∀ listed a, L listed a → ∀ j ∈ Region.ready md ops listed, n ≤ j) :
    ∀ (f : Nat) (listed : Array Bool) (a : Act), HeadInv md ops n listed →
      (∀ j oj, ops[j]? = some oj → j ≠ i → listed.getD j true = false → (∀ e ∈ oj.after, Region.binds md e = true → e.on ≠ i) → oi.apart ops oj = true) →
      i ∈ Region.ready md ops listed → YieldsIn P ops C oi v a →
      wpAnyLQ P md ops C n L f (listed.setIfInBounds i true) (a.put oi.dst v) → wpAnyLQ P md ops C n L (f + 1) listed a := by
  intro f
  induction f with
  | zero =>
    intro listed a inv _ hr hy H
    have hun := (mem_ready.1 hr).1
    refine ⟨fun h => (by rw [h] at hr; cases hr), fun j hj => ?_⟩
    have hjn : j < n := by
      rcases Nat.lt_or_ge j n with h | h
      · exact h
      · exact absurd hj (tail_waits hs hc hn inv _ i rfl hin hun j h)
    refine ⟨hjn, ?_⟩
    by_cases hji : j = i
    · subst hji; exact hy.qOp hi H
    · have := hdone _ _ H j (ready_mono hj hji)
      omega
  | succ f ih =>
    intro listed a inv hfree hr hy H
    have hun := (mem_ready.1 hr).1
    refine ⟨fun h => (by rw [h] at hr; cases hr), fun j hj => ?_⟩
    have hjn : j < n := by
      rcases Nat.lt_or_ge j n with h | h
      · exact h
      · exact absurd hj (tail_waits hs hc hn inv _ i rfl hin hun j h)
    refine ⟨hjn, ?_⟩
    by_cases hji : j = i
    · subst hji; exact hy.qOp hi H
    · have h1 := (H.2 j (ready_mono hj hji)).2
      obtain ⟨hjun, oj, hoj, hall⟩ := mem_ready.1 hj
      have hnot : ∀ e ∈ oj.after, Region.binds md e = true → e.on ≠ i := fun e he hb heq => by
        have h1 := hall e he hb
        rw [heq, getD_both hun] at h1
        cases h1
      have h2 := qOp_put hoj (hfree j oj hoj hji hjun hnot) (fun cs b => hsel i oi cs b hi) (fun cs b => hsel j oj cs b hoj) hy h1
      have hfree' : ∀ k ok, ops[k]? = some ok → k ≠ i → (listed.setIfInBounds j true).getD k true = false →
          (∀ e ∈ ok.after, Region.binds md e = true → e.on ≠ i) → oi.apart ops ok = true := fun k ok hk hki hun hno => by
        refine hfree k ok hk hki ?_ hno
        by_cases hjk : j = k
        · subst hjk; exact hjun
        · rw [getD_set_ne true hjk] at hun; exact hun
      refine qOp_mono (fun a' h3 => ih (listed.setIfInBounds j true) a' (inv.set hj hjn) hfree' (ready_mono hr (Ne.symm hji)) h3.1 ?_) h2
      rw [Array.setIfInBounds_comm _ _ hji]
      exact h3.2
theorem wpAnyLQ_lex {n g : Nat} {Lq : Act → Prop} (hsel : Region.noSelect ops = true) (hs : Region.sinkB md ops n = true) (hc : Region.chainB md ops n = true) (hn : n < ops.size) :
    ∀ (l : List Oper) (k : Nat) (listed : Array Bool) (a : Act), (∀ j, j < l.length → l[j]? = ops[k + j]?) → k + l.length = n → HeadInv md ops n listed →
    Region.lexHead md ops g l.length k listed = true → wpQuiet P ops C Lq l a →
    wpAnyLQ P md ops C n (fun listed' a' => Region.seqB md ops g n listed' = true ∧ Lq a') l.length listed a
  | [], k, listed, a, _, hk, _, hB, h => by
    have : k = n := by simpa using hk
    subst this
    exact ⟨by simpa [Region.lexHead] using hB, h⟩
  | o :: l, k, listed, a, hl, hk, inv, hB, h => by
    have h0 : ops[k]? = some o := by simpa using (hl 0 (by simp)).symm
    simp only [List.length_cons, Region.lexHead, Bool.and_eq_true] at hB
    obtain ⟨⟨hr, hf⟩, hB'⟩ := hB
    have hkn : k < n := by simp only [List.length_cons] at hk; omega
    have hr' : k ∈ Region.ready md ops listed := by simpa using hr
    have hst : qOp P ops C k (wpQuiet P ops C Lq l) a := by unfold qOp; simp only [h0]; exact h
    obtain ⟨v, hy, hK⟩ := yieldsIn_of_qOp h0 hst
    exact wpAnyLQ_first h0 (Region.noSelect_spec hsel) hs hc hn hkn (fun listed' a' hL => seqB_ready hL.1) l.length listed a inv (Region.free_spec h0 hf) hr' hy
      (wpAnyLQ_lex hsel hs hc hn l (k + 1) _ _ (fun j hj => by have := hl (j + 1) (by simp; omega); simpa [Nat.add_assoc, Nat.add_comm 1 j] using this) (by simp only [List.length_cons] at hk; omega) (inv.set hr' hkn) hB' hK)
theorem wp_region_quiet_tail {id : Nat} {Q : Exit → Act → World → Prop} {a : Act} {w : World} {l : List Oper} (n : Nat) (hm : P.follows .mixedOrders = true) (hB : Region.lexTailB .any l.toArray n = true) (hC : C { w with drawn := w.drawn + 1 })
    (h : wpQuiet P l.toArray C (fun a' => ∀ w', C w' → wpList P l.toArray Q (l.drop n) a' w') (l.take n) a) : (Code.region id l.toArray true).wp P Q a w := by
  simp only [Region.lexTailB, Bool.and_eq_true, decide_eq_true_eq] at hB
  obtain ⟨⟨⟨⟨hsel, hn⟩, hs⟩, hc⟩, hlex⟩ := hB
  have hn' : n < l.length := by simpa using hn
  have htl : (l.take n).length = n := by simp; omega
  have hdl : (l.drop n).length = l.toArray.size - n := by simp
  have inv0 : HeadInv .any l.toArray n (Array.replicate l.toArray.size false) :=
    ⟨by simp, fun j oj _ hl => (by rw [getD_replicate_false] at hl; cases hl), fun t _ ht => getD_in (by simpa using ht) (getD_replicate_false _ _)⟩
  have H := wpAnyLQ_lex (md := .any) (g := l.toArray.size - n) hsel hs hc hn (l.take n) 0 _ a (fun j hj => by
    have hj' : j < n := by rw [htl] at hj; exact hj
    simp [hj']) (by simpa using htl) inv0 (by rw [htl]; exact hlex) h
  refine wp_region_any hm ?_
  have := wpAny_of_headQ (Q' := Q) (g := l.toArray.size - n) (fun listed a' w' hw' hL => by
    have := wpAny_of_seq (md := .any) (Q' := Q) (l.drop n) n listed a' w' (fun j => by simp [List.getElem?_drop]) (by rw [hdl]; exact hL.1) (hL.2 w' hw')
    rwa [hdl] at this) _ _ _ _ hC H
  rw [htl, show n + (l.toArray.size - n) = l.toArray.size by omega] at this
  exact this
end
/-- The class of worlds below which nothing has turned. -/
abbrev Gr (w : World) : World → Prop := fun w' => ∃ p : Regrown, w' = grow (redrawn w p.d) p.os
theorem Gr.self (w : World) : Gr w { w with drawn := w.drawn + 1 } := ⟨⟨w.drawn + 1, #[]⟩, by rw [grow_empty]; rfl⟩
theorem Gr.below {w w' : World} (h : Gr w w') : Below w.heap.size w w' := by obtain ⟨p, rfl⟩ := h; exact below_regrown w p.d p.os
theorem gcell {w : World} {a : Addr} {v : Value} (h : w.cell? a = some v) : ∀ p : Regrown, (grow (redrawn w p.d) p.os).cell? a = some v := fun p => cell_regrown h p.d p.os
theorem gcells {w : World} {b : Nat} {cs : Array Value} {T : TypeId} {fz : Nat × Nat} (h : w.heap[b]? = some (.cells cs T fz)) (i : Nat) : ∀ p : Regrown, (grow (redrawn w p.d) p.os).cell? ⟨b, i, none⟩ = cs[i]? := fun p => by
  rw [(below_regrown w p.d p.os).cell (p := ⟨b, i, none⟩) (blk_lt h), blk_cell h]
/-- A quiet region over the class Gr; and one with a tail. -/
theorem wp_region_gr {P : Program} {id : Nat} {Q : Exit → Act → World → Prop} {a : Act} {w : World} {l : List Oper} (hm : P.follows .mixedOrders = true) (hB : Region.lexB .any l.toArray = true)
    (h : wpQuiet P l.toArray (Gr w) (fun a' => ∀ w', Gr w w' → Q .normal a' w') l a) : (Code.region id l.toArray true).wp P Q a w := wp_region_quiet_below hm hB h
theorem wp_region_gt {P : Program} {id : Nat} {Q : Exit → Act → World → Prop} {a : Act} {w : World} {l : List Oper} (n : Nat) (hm : P.follows .mixedOrders = true) (hB : Region.lexTailB .any l.toArray n = true)
    (h : wpQuiet P l.toArray (Gr w) (fun a' => ∀ w', Gr w w' → wpList P l.toArray Q (l.drop n) a' w') (l.take n) a) : (Code.region id l.toArray true).wp P Q a w := wp_region_quiet_tail n hm hB (Gr.self w) h
/-- A callee that only makes memory, met inside such a region. -/
theorem Calls.gr_of {P : Program} {f : FuncId} {args : Array Value} {w : World} {p : Regrown} {v : Value}
    (h : Calls P f args (grow (redrawn w p.d) p.os) fun e w' => e = .returned v ∧ Below (grow (redrawn w p.d) p.os).heap.size (grow (redrawn w p.d) p.os) w') : Calls P f args (grow (redrawn w p.d) p.os) fun e w'' => e = .returned v ∧ ∃ p : Regrown, w'' = grow (redrawn w p.d) p.os := Calls.regrown_of h
end Go.Sl
/- Package quota: contracts. -/
namespace Go.Proofs.YthnfiejdkhejlaaGreat
open Go.RowKit Go.Sl
structure Qt where (b o r : Int)
def Qt.v (q : Qt) : Value := .agg #[.int .i64 q.b, .int .i64 q.o, .int .i64 q.r]
structure Met where (lim : Qt) (m : List (Int × Qt))
def Met.get (s : Met) (p : Int) : Qt := (AL.get s.m p).getD ⟨0, 0, 0⟩
structure Qt.ok (q : Qt) : Prop where
  b0 : 0 ≤ q.b
  o0 : 0 ≤ q.o
  r0 : 0 ≤ q.r
  b1 : q.b ≤ 9223372036854775807
  o1 : q.o ≤ 9223372036854775807
  r1 : q.r ≤ 9223372036854775807
structure Met.ok (s : Met) : Prop where
  lim : s.lim.ok
  le : ∀ p, 0 ≤ (s.get p).b ∧ (s.get p).b ≤ s.lim.b ∧ 0 ≤ (s.get p).o ∧ (s.get p).o ≤ s.lim.o ∧ 0 ≤ (s.get p).r ∧ (s.get p).r ≤ s.lim.r
def fitB (a b l : Int) : Bool := decide (b ≤ l - a)
/-- The meter at block bm. -/
def Met.as (bm : Nat) (s : Met) : As := fun h => ∃ r, (pts bm (.cells #[.int .i64 s.lim.b, .int .i64 s.lim.o, .int .i64 s.lim.r, .map r] 202 (0,0)) * mapP (.int .i64) Qt.v r s.m) h
theorem fits_any (a b l : Int) (w : World) (h0 : 0 ≤ a) (h1 : a ≤ l) (h2 : l ≤ 9223372036854775807) : Calls Tryz.prog 127 #[.int .i64 a, .int .i64 b, .int .i64 l] w fun e w' => e = .returned (.bool (fitB a b l)) ∧ w' = w := by
  go_enter Tryz.func127, Tryz.ntmps127
  go_wp2
  go_ret
  exact ⟨rfl, rfl⟩
theorem neg_any (q : Qt) (w : World) (h : q.ok) : Calls Tryz.prog 126 #[q.v] w fun e w' => e = .returned (.bool false) ∧ w' = w.alloc (.cells #[.int .i64 q.b, .int .i64 q.o, .int .i64 q.r] 79) := by
  obtain ⟨b, o, r⟩ := q
  simp only [Qt.v] at *
  have e0 : decide (b < 0) = false := by simpa using h.b0
  have e1 : decide (o < 0) = false := by simpa using h.o0
  have e2 : decide (r < 0) = false := by simpa using h.r0
  go_enter Tryz.func126, Tryz.ntmps126
  go_wp2
  go_ret
  exact ⟨rfl, rfl⟩
theorem zeroQ (w : World) : (zeroValue 79).run Tryz.prog w = .ok (Qt.v ⟨0,0,0⟩) w := by kernel_rfl
theorem klI : KL Tryz.prog 3 (Value.int .i64) := KL.int Tryz.underlying3
def fitI (x q l : Qt) : Int := if fitB x.b q.b l.b && fitB x.o q.o l.o && fitB x.r q.r l.r then 0 else 16
theorem Fits_core (bm : Nat) (r : Option Nat) (p xb xo xr qb qo qr lb lo lr : Int) (w : World) (hq : Qt.ok ⟨qb, qo, qr⟩) (hl : Qt.ok ⟨lb, lo, lr⟩) (hx : 0 ≤ xb ∧ xb ≤ lb ∧ 0 ≤ xo ∧ xo ≤ lo ∧ 0 ≤ xr ∧ xr ≤ lr)
    (hb : w.heap[bm]? = some (.cells #[.int .i64 lb, .int .i64 lo, .int .i64 lr, .map r] 202 (0,0)))
    (hlk : ∀ W, Below w.heap.size w W → (Instr.lookup 200 (.map r) (.int .i64 p) false).run Tryz.prog W = .ok (.agg #[.int .i64 xb, .int .i64 xo, .int .i64 xr]) W) :
    Calls Tryz.prog 55 #[.pointer (some ⟨bm, 0, none⟩), .int .i64 p, .agg #[.int .i64 qb, .int .i64 qo, .int .i64 qr]] w fun e w' => e = .returned (.int .i64 (fitI ⟨xb, xo, xr⟩ ⟨qb, qo, qr⟩ ⟨lb, lo, lr⟩)) ∧ Below w.heap.size w w' := by
  have c0 := blk_cell hb 0
  have c1 := blk_cell hb 1
  have c2 := blk_cell hb 2
  have c3 := blk_cell hb 3
  have hlts := lts (blk_lt hb)
  have hneg := fun W => neg_any ⟨qb, qo, qr⟩ W hq
  simp only [Qt.v] at hneg
  obtain ⟨_, _, _, _, _, _⟩ := hl
  have f1 : ∀ W, Calls Tryz.prog 127 #[.int .i64 xb, .int .i64 qb, .int .i64 lb] W fun e w' => e = .returned (.bool (fitB xb qb lb)) ∧ w' = W := fun W => fits_any _ _ _ W (by omega) (by omega) (by omega)
  have f2 : ∀ W, Calls Tryz.prog 127 #[.int .i64 xo, .int .i64 qo, .int .i64 lo] W fun e w' => e = .returned (.bool (fitB xo qo lo)) ∧ w' = W := fun W => fits_any _ _ _ W (by omega) (by omega) (by omega)
  have f3 : ∀ W, Calls Tryz.prog 127 #[.int .i64 xr, .int .i64 qr, .int .i64 lr] W fun e w' => e = .returned (.bool (fitB xr qr lr)) ∧ w' = W := fun W => fits_any _ _ _ W (by omega) (by omega) (by omega)
  have hfd : fitI ⟨xb, xo, xr⟩ ⟨qb, qo, qr⟩ ⟨lb, lo, lr⟩ = if fitB xb qb lb && fitB xo qo lo && fitB xr qr lr then 0 else 16 := rfl
  generalize fitI _ _ _ = fv at *
  generalize fitB xb qb lb = b1 at *
  generalize fitB xo qo lo = b2 at *
  generalize fitB xr qr lr = b3 at *
  have HF := Lib.hid hfd; clear hfd hb
  go_enter Tryz.func55, Tryz.ntmps55
  go_wp2_with (first | (go_at_call 126; refine (hneg _).mono ?_; rintro e w' ⟨rfl, rfl⟩) | (at_lookup; refine wpList_lookup _ _ _ rfl rfl (hlk _ (((Below.refl _ _).al _).al _)) ?_))
  have hc : ∀ b1 b2 b3 : Bool, b1 = false ∨ (b1 = true ∧ b2 = false) ∨ (b1 = true ∧ b2 = true ∧ b3 = false) ∨ (b1 = true ∧ b2 = true ∧ b3 = true) := by decide
  rcases hc b1 b2 b3 with rfl | ⟨rfl, rfl⟩ | ⟨rfl, rfl, rfl⟩ | ⟨rfl, rfl, rfl⟩
  all_goals
    go_quiet (first | (with_reducible exact Calls.quiet_of_same (f1 _)) | (with_reducible exact Calls.quiet_of_same (f2 _)) | (with_reducible exact Calls.quiet_of_same (f3 _)))
    go_wp2
    go_ret
    exact ⟨by rw [HF.out]; rfl, ((((Below.refl _ _).al _).al _).al _).drewN _⟩
def Met.fits (s : Met) (p : Int) (q : Qt) : Int := fitI (s.get p) q s.lim
theorem Fits_rd (bm : Nat) (s : Met) (p : Int) (q : Qt) (hq : q.ok) (hs : s.ok) : Rd Tryz.prog 55 #[.pointer (some ⟨bm, 0, none⟩), .int .i64 p, q.v] (s.as bm) (.int .i64 (s.fits p q)) := by
  rintro w h H ⟨r, hA⟩
  exact Fits_core bm r p _ _ _ _ _ _ _ _ _ w hq hs.lim (hs.le p) (pts_get H hA) fun W hW => look_map klI Tryz.underlying200 (by rw [As.comm] at hA; exact hA) H (W := W) hW zeroQ p false
theorem look_q {w W : World} {r : Option Nat} {m : List (Int × Qt)} {h : Hl} {X : As} (hA : (mapP (.int .i64) Qt.v r m * X) h) (H : Has w h) (hW : Below w.heap.size w W) (p : Int) :
    (Instr.lookup 200 (.map r) (.int .i64 p) false).run Tryz.prog W = .ok (Qt.v ((AL.get m p).getD ⟨0, 0, 0⟩)) W := look_map klI Tryz.underlying200 hA H hW zeroQ p false
def Met.add (s : Met) (p : Int) (q : Qt) : Met := ⟨s.lim, AL.set s.m p ⟨(s.get p).b + q.b, (s.get p).o + q.o, (s.get p).r + q.r⟩⟩
theorem Add_no (bm : Nat) (s : Met) (p : Int) (q : Qt) (hq : q.ok) (hs : s.ok) (hf : s.fits p q ≠ 0) :
    Rd Tryz.prog 58 #[.pointer (some ⟨bm, 0, none⟩), .int .i64 p, q.v] (s.as bm) (.int .i64 (s.fits p q)) := by
  rintro w h H hA
  have hfits := fun w H => Fits_rd bm s p q hq hs w h H hA
  generalize Met.fits s p q = f at *
  have hf' : (f != 0) = true := by simpa using hf
  obtain ⟨qb, qo, qr⟩ := q
  simp only [Qt.v] at *
  go_enter Tryz.func58, Tryz.ntmps58
  go_wp2_with fail
  have B1 := (Below.refl w.heap.size w).al (.cells #[.int .i64 qb, .int .i64 qo, .int .i64 qr] 79)
  refine (hfits _ (H.below B1)).mono ?_
  rintro e w1 ⟨rfl, B2⟩
  go_wp2
  go_ret
  exact ⟨rfl, B1.trans (B2.mono B1.size)⟩
theorem fits_zero {x q l : Qt} (h : fitI x q l = 0) : q.b ≤ l.b - x.b ∧ q.o ≤ l.o - x.o ∧ q.r ≤ l.r - x.r := by
  unfold fitI fitB at h
  split at h
  · rename_i hh; simpa [and_assoc] using hh
  · cases h
theorem Met.as_open {bm : Nat} {s : Met} {h : Hl} {w : World} (H : Has w h) (hA : s.as bm h) : ∃ r, (pts bm (.cells #[.int .i64 s.lim.b, .int .i64 s.lim.o, .int .i64 s.lim.r, .map r] 202 (0,0)) * mapP (.int .i64) Qt.v r s.m) h ∧
    w.heap[bm]? = some (.cells #[.int .i64 s.lim.b, .int .i64 s.lim.o, .int .i64 s.lim.r, .map r] 202 (0,0)) ∧
    ∀ W, Below w.heap.size w W → ∀ p, (Instr.lookup 200 (.map r) (.int .i64 p) false).run Tryz.prog W = .ok (Qt.v (s.get p)) W := by
  obtain ⟨r, hA⟩ := hA
  exact ⟨r, hA, pts_get H hA, fun W hW p => look_q (by rw [As.comm] at hA; exact hA) H hW p⟩
/-- The store 'm[p] = q' behind whatever has been walked. -/
theorem Met.store {bm b : Nat} {s : Met} {w W : World} {h h1 : Hl} (T : Tr w W h h1) (hA : (pts bm (.cells #[.int .i64 s.lim.b, .int .i64 s.lim.o, .int .i64 s.lim.r, .map (some b)] 202 (0,0)) * mapP (.int .i64) Qt.v (some b) s.m) h1) (p : Int) (q : Qt) :
    ∃ W' h', (Instr.mapUpdate 200 (.map (some b)) (.int .i64 p) (Qt.v q)).run Tryz.prog W = .ok () W' ∧ Tr w W' h h' ∧ Met.as bm ⟨s.lim, AL.set s.m p q⟩ h' := by
  rw [As.comm] at hA
  obtain ⟨es, c, hE, hp⟩ := mapP_some hA
  obtain ⟨es', c', hrun, hE'⟩ := run_mapUpdate klI Tryz.underlying200 (pts_get T.has hp) hE p q
  refine ⟨_, _, hrun, T.putOwn (pts_at hp) _, some b, ?_⟩
  have := mapP_mk (ek := Value.int .i64) hE' (pts_set (.map es' c') hp)
  rw [As.comm] at this
  exact this
set_option maxHeartbeats 400000 in
theorem Add_yes (bm : Nat) (s : Met) (p : Int) (q : Qt) (hq : q.ok) (hs : s.ok) (hf : s.fits p q = 0) :
    Sp Tryz.prog 58 #[.pointer (some ⟨bm, 0, none⟩), .int .i64 p, q.v] (s.as bm) fun v h => v = .int .i64 0 ∧ (s.add p q).as bm h := by
  rintro w h H hA
  have hfits := fun w H => Fits_rd bm s p q hq hs w h H hA
  have hz := fits_zero hf
  have hl := hs.le p
  have hl2 := hs.lim
  rw [hf] at hfits
  obtain ⟨r, hA', hb, hlk⟩ := Met.as_open H hA
  have hlk := fun W hW => hlk W hW p
  unfold Met.add
  generalize hx : s.get p = x at *
  obtain ⟨qb, qo, qr⟩ := q
  obtain ⟨xb, xo, xr⟩ := x
  have b1 := hl2.b1
  have b2 := hl2.o1
  have b3 := hl2.r1
  obtain ⟨q1, q2, q3, _, _, _⟩ := hq
  have hst := fun b W h1 T hA => Met.store (bm := bm) (b := b) (s := s) (w := w) (W := W) (h := h) (h1 := h1) T hA p ⟨xb + qb, xo + qo, xr + qr⟩
  simp only [Qt.v] at *
  have HX := Lib.hid hx; clear hx hf hs hl2
  go_enter Tryz.func58, Tryz.ntmps58
  go_wp2_with fail
  have B1 := (Below.refl w.heap.size w).al (.cells #[.int .i64 qb, .int .i64 qo, .int .i64 qr] 79)
  refine (hfits _ (H.below B1)).mono ?_
  rintro e w1 ⟨rfl, B2⟩
  have B3 := B1.trans (B2.mono B1.size)
  have hb1 := (B3.block bm (blk_lt hb)).trans hb
  have hq1 := (B2.block _ (by simp)).trans (heap_alloc_new w (.cells #[.int .i64 qb, .int .i64 qo, .int .i64 qr] 79))
  have hne := fun r => run_eql_map_nil (P := Tryz.prog) w1 200 _ _ r Tryz.underlying200
  have hmm := @run_makeMap Tryz.prog
  have c3 := blk_cell hb1 3
  have f3 := blk_free hb1 3
  have hlts := lts (blk_lt hb1)
  have hltq := lts (blk_lt hq1)
  have Bq0 := blk_cell hq1 0
  have Bq1 := blk_cell hq1 1
  have Bq2 := blk_cell hq1 2
  cases r with
  | some b =>
    go_wp2_with (first | (at_lookup; refine wpList_lookup _ _ _ rfl rfl (hlk _ B3) ?_))
    have T2 := (Tr.of_below H B3).alloc (.cells #[.int .i64 xb, .int .i64 xo, .int .i64 xr] 79)
    have hxW := heap_alloc_new w1 (.cells #[.int .i64 xb, .int .i64 xo, .int .i64 xr] 79)
    have hbW := (Below.heap_alloc w1 (.cells #[.int .i64 xb, .int .i64 xo, .int .i64 xr] 79) bm (blk_lt hb1)).trans hb1
    have hqW := (Below.heap_alloc w1 (.cells #[.int .i64 xb, .int .i64 xo, .int .i64 xr] 79) w.heap.size (blk_lt hq1)).trans hq1
    generalize w1.alloc _ = W at *
    refine wp_region_gt 21 (by kernel_rfl) (by kernel_rfl) ?_
    have g0 := gcells hbW 3
    have g1 := gcells hxW 0
    have g2 := gcells hxW 1
    have g3 := gcells hxW 2
    have g4 := gcells hqW 0
    have g5 := gcells hqW 1
    have g6 := gcells hqW 2
    simp only [List.take_succ_cons, List.take_zero, List.drop_succ_cons, List.drop_zero]
    repeat (go_big_quiet_step (fail))
    refine wpQuiet_nil ?_
    intro W' hW'
    obtain ⟨W2, h2, hrun, T3, hA2⟩ := hst b W' h (T2.belowStep hW'.below) hA'
    refine wpList_mapUpdate _ _ _ rfl rfl rfl hrun ?_
    go_wp2
    go_ret
    exact ⟨_, _, rfl, T3, rfl, hA2⟩
  | none =>
    have hm : s.m = [] := by obtain ⟨_, _, _, _, _, hm, _⟩ := hA'; exact hm
    have T1 := (Tr.of_below H B3).setOwn (pts_at hA') 3 (.map (some w1.heap.size))
    have hA3 := pts_set (.cells #[.int .i64 s.lim.b, .int .i64 s.lim.o, .int .i64 s.lim.r, .map (some w1.heap.size)] 202 (0,0)) hA'
    have T2 := T1.allocOwn (.map #[] 0)
    have hA4 := pts_new (.map #[] 0) T1.has.none_new (As.monoR (B' := 1) (fun _ h => h.2) hA3)
    rw [As.mul_one, As.comm] at hA4
    have hA6 : (pts bm (.cells #[.int .i64 s.lim.b, .int .i64 s.lim.o, .int .i64 s.lim.r, .map (some w1.heap.size)] 202 (0,0)) * mapP (.int .i64) Qt.v (some w1.heap.size) s.m) _ := As.monoR (fun y hy => ⟨#[], 0, by rw [hm]; exact Ents.nil _ _, by rw [setCell_size'] at hy; exact hy⟩) hA4
    have hrun := fun W hW => look_q (by rw [As.comm] at hA6; exact hA6) T2.has (W := W) hW p
    have hgx : (AL.get s.m p).getD ⟨0, 0, 0⟩ = (⟨xb, xo, xr⟩ : Qt) := HX.out
    rw [hgx] at hrun
    simp only [Qt.v] at hrun
    have HG := Lib.hid hgx; clear hgx
    go_wp2_with (first | (at_lookup; refine wpList_lookup _ _ _ rfl rfl (hrun _ (Below.refl _ _)) ?_))
    have T3 := T2.alloc (.cells #[.int .i64 xb, .int .i64 xo, .int .i64 xr] 79)
    have hbW0 := T2.has _ _ (pts_at hA6)
    have hqW0 : ((w1.setCell ⟨bm, 3, none⟩ (.map (some w1.heap.size))).alloc (.map #[] 0)).heap[w.heap.size]? = some (.cells #[.int .i64 qb, .int .i64 qo, .int .i64 qr] 79) := by
      rw [Below.heap_alloc _ _ _ (by simp; omega), Below.heap_setCell _ _ _ _ (by have := blk_lt hb; show w.heap.size ≠ bm; omega)]; exact hq1
    have hs0 : ((w1.setCell ⟨bm, 3, none⟩ (.map (some w1.heap.size))).alloc (.map #[] 0)).heap.size = w1.heap.size + 1 := by simp
    generalize (w1.setCell ⟨bm, 3, none⟩ (.map (some w1.heap.size))).alloc (.map #[] 0) = W0 at *
    have hxW := heap_alloc_new W0 (.cells #[.int .i64 xb, .int .i64 xo, .int .i64 xr] 79)
    rw [hs0] at hxW
    clear hs0
    have hbW := (Below.heap_alloc W0 (.cells #[.int .i64 xb, .int .i64 xo, .int .i64 xr] 79) bm (blk_lt hbW0)).trans hbW0
    have hqW := (Below.heap_alloc W0 (.cells #[.int .i64 xb, .int .i64 xo, .int .i64 xr] 79) w.heap.size (blk_lt hqW0)).trans hqW0
    generalize W0.alloc _ = W at *
    refine wp_region_gt 21 (by kernel_rfl) (by kernel_rfl) ?_
    have g0 := gcells hbW 3
    have g1 := gcells hxW 0
    have g2 := gcells hxW 1
    have g3 := gcells hxW 2
    have g4 := gcells hqW 0
    have g5 := gcells hqW 1
    have g6 := gcells hqW 2
    simp only [List.take_succ_cons, List.take_zero, List.drop_succ_cons, List.drop_zero]
    repeat (go_big_quiet_step (fail))
    refine wpQuiet_nil ?_
    intro W' hW'
    obtain ⟨W2, h2, hrun, T3, hA2⟩ := hst _ W' _ (T3.belowStep hW'.below) hA6
    refine wpList_mapUpdate _ _ _ rfl rfl rfl hrun ?_
    go_wp2
    go_ret
    exact ⟨_, _, rfl, T3, rfl, hA2⟩
end Go.Proofs.YthnfiejdkhejlaaGreat
