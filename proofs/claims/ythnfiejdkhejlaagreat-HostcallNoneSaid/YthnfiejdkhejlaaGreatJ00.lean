/- A small separation logic over the model's heap: partial heaps, separating conjunction, steps of worlds with a frame, and specifications of calls. No program in sight. -/
import Derived.WalkKit
import Derived.Deep.Draws
import Derived.RangeFuncRecord
import Derived.WalkSpells
import Derived.Deep.QuietTactic
import Derived.BigQuiet
import Derived.Lib.Hide
import Derived.Lib.QuietBelow
import Derived.Maps.OwnOps
import Derived.Maps.OwnSet
import Derived.StillTailTactics
import Derived.Outline
import Derived.Maps.AppendAt
import Derived.Deep.CutBlock
set_option linter.all false
set_option maxRecDepth 100000
namespace Go.Sl
open Go.RowKit

/-- A partial heap. -/
def Hl := Nat → Option Obj
def Hl.emp : Hl := fun _ => none
def Hl.pt (b : Nat) (o : Obj) : Hl := fun k => if k = b then some o else none
def Hl.un (h1 h2 : Hl) : Hl := fun k => (h1 k).or (h2 k)
def Hl.dj (h1 h2 : Hl) : Prop := ∀ k, h1 k = none ∨ h2 k = none
def Hl.set (h : Hl) (b : Nat) (o : Obj) : Hl := fun k => if k = b then some o else h k

theorem Hl.un_emp (h : Hl) : h.un .emp = h := by funext k; simp [Hl.un, Hl.emp]
theorem Hl.dj_emp (h : Hl) : h.dj .emp := fun _ => .inr rfl
theorem Hl.dj_comm {a b : Hl} (h : a.dj b) : b.dj a := fun k => (h k).symm
theorem Hl.un_comm {a b : Hl} (h : a.dj b) : a.un b = b.un a := by
  funext k; rcases h k with h | h <;> simp [Hl.un, h]
theorem Hl.un_assoc (a b c : Hl) : (a.un b).un c = a.un (b.un c) := by
  funext k; simp [Hl.un, Option.or_assoc]
theorem Hl.dj_un {a b c : Hl} : (a.un b).dj c ↔ a.dj c ∧ b.dj c := by
  constructor
  · intro h
    refine ⟨fun k => ?_, fun k => ?_⟩ <;> rcases h k with h | h
    · exact .inl (by simp [Hl.un] at h; exact h.1)
    · exact .inr h
    · exact .inl (by simp [Hl.un] at h; exact h.2)
    · exact .inr h
  · rintro ⟨h1, h2⟩ k
    rcases h1 k with h | h
    · rcases h2 k with g | g
      · exact .inl (by simp [Hl.un, h, g])
      · exact .inr g
    · exact .inr h

/-- An assertion: a predicate on partial heaps. -/
def As := Hl → Prop
instance : Mul As := ⟨fun A B h => ∃ h1 h2, Hl.dj h1 h2 ∧ h = h1.un h2 ∧ A h1 ∧ B h2⟩
instance : One As := ⟨fun h => h = Hl.emp⟩
theorem As.ext {A B : As} (h : ∀ x, A x ↔ B x) : A = B := funext fun x => propext (h x)
theorem As.sep_def (A B : As) (h : Hl) : (A * B) h = ∃ h1 h2, Hl.dj h1 h2 ∧ h = h1.un h2 ∧ A h1 ∧ B h2 := rfl
theorem As.one_def (h : Hl) : (1 : As) h = (h = Hl.emp) := rfl
theorem As.comm (A B : As) : A * B = B * A := by
  have : ∀ A B : As, ∀ x, (A * B) x → (B * A) x := by
    rintro A B x ⟨a, b, d, rfl, ha, hb⟩
    exact ⟨b, a, Hl.dj_comm d, Hl.un_comm d, hb, ha⟩
  exact As.ext fun x => ⟨this _ _ x, this _ _ x⟩
theorem As.assoc (A B C : As) : A * B * C = A * (B * C) := by
  refine As.ext fun x => ⟨?_, ?_⟩
  · rintro ⟨ab, c, d, rfl, ⟨a, b, d', rfl, ha, hb⟩, hc⟩
    rw [Hl.dj_un] at d
    refine ⟨a, b.un c, ?_, Hl.un_assoc _ _ _, ha, b, c, d.2, rfl, hb, hc⟩
    exact Hl.dj_comm (Hl.dj_un.2 ⟨Hl.dj_comm d', Hl.dj_comm d.1⟩)
  · rintro ⟨a, bc, d, rfl, ha, b, c, d', rfl, hb, hc⟩
    have d := Hl.dj_un.1 (Hl.dj_comm d)
    refine ⟨a.un b, c, Hl.dj_un.2 ⟨Hl.dj_comm d.2, d'⟩, (Hl.un_assoc _ _ _).symm, ⟨a, b, Hl.dj_comm d.1, rfl, ha, hb⟩, hc⟩
theorem As.mul_one (A : As) : A * 1 = A := by
  refine As.ext fun x => ⟨?_, fun h => ⟨x, .emp, Hl.dj_emp x, (Hl.un_emp x).symm, h, rfl⟩⟩
  rintro ⟨a, b, _, rfl, ha, hb⟩
  rw [As.one_def] at hb; subst hb
  rw [Hl.un_emp]; exact ha
theorem As.one_mul (A : As) : 1 * A = A := by rw [As.comm, As.mul_one]
instance : Std.Commutative (α := As) (· * ·) := ⟨As.comm⟩
instance : Std.Associative (α := As) (· * ·) := ⟨As.assoc⟩
theorem As.mono {A A' B B' : As} {h : Hl} (ha : ∀ x, A x → A' x) (hb : ∀ x, B x → B' x) : (A * B) h → (A' * B') h :=
  fun ⟨a, b, d, e, x, y⟩ => ⟨a, b, d, e, ha a x, hb b y⟩
theorem As.monoL {A A' B : As} {h : Hl} (ha : ∀ x, A x → A' x) : (A * B) h → (A' * B) h := As.mono ha fun _ h => h
theorem As.monoR {A B B' : As} {h : Hl} (hb : ∀ x, B x → B' x) : (A * B) h → (A * B') h := As.mono (fun _ h => h) hb

/-- A block. -/
def pts (b : Nat) (o : Obj) : As := fun h => h = Hl.pt b o
/-- A pure fact beside an assertion. -/
def As.and (p : Prop) (A : As) : As := fun h => p ∧ A h
def As.ex {α : Sort _} (A : α → As) : As := fun h => ∃ x, A x h
theorem As.and_mul (p : Prop) (A B : As) (h : Hl) : (As.and p A * B) h ↔ p ∧ (A * B) h :=
  ⟨fun ⟨a, b, d, e, ⟨hp, ha⟩, hb⟩ => ⟨hp, a, b, d, e, ha, hb⟩, fun ⟨hp, a, b, d, e, ha, hb⟩ => ⟨a, b, d, e, ⟨hp, ha⟩, hb⟩⟩
theorem As.ex_mul {α : Sort _} (A : α → As) (B : As) (h : Hl) : (As.ex A * B) h ↔ ∃ x, (A x * B) h :=
  ⟨fun ⟨a, b, d, e, ⟨x, ha⟩, hb⟩ => ⟨x, a, b, d, e, ha, hb⟩, fun ⟨x, a, b, d, e, ha, hb⟩ => ⟨a, b, d, e, ⟨x, ha⟩, hb⟩⟩

/-- The world holds a partial heap. -/
def Has (w : World) (h : Hl) : Prop := ∀ k o, h k = some o → w.heap[k]? = some o
theorem Has.lt {w : World} {h : Hl} (H : Has w h) {k : Nat} (hk : h k ≠ none) : k < w.heap.size := by
  cases e : h k with
  | none => exact absurd e hk
  | some o => exact (Array.getElem?_eq_some_iff.1 (H k o e)).1
theorem Has.unL {w : World} {a b : Hl} (H : Has w (a.un b)) : Has w a := fun k o e => H k o (by simp [Hl.un, e])
theorem Has.unR {w : World} {a b : Hl} (H : Has w (a.un b)) (d : a.dj b) : Has w b := fun k o e => H k o (by rcases d k with h | h <;> simp_all [Hl.un])
theorem Has.emp (w : World) : Has w .emp := fun _ _ e => by cases e
theorem pts_get {w : World} {h : Hl} {b : Nat} {o : Obj} {X : As} (H : Has w h) (hp : (pts b o * X) h) : w.heap[b]? = some o := by
  obtain ⟨x, y, d, rfl, hx, _⟩ := hp
  cases hx
  exact H b o (by simp [Hl.un, Hl.pt])
theorem pts_get1 {w : World} {h : Hl} {b : Nat} {o : Obj} (H : Has w h) (hp : pts b o h) : w.heap[b]? = some o := by
  cases hp; exact H b o (by simp [Hl.pt])
theorem pts_at {h : Hl} {b : Nat} {o : Obj} {X : As} (hp : (pts b o * X) h) : h b = some o := by
  obtain ⟨x, y, d, rfl, hx, _⟩ := hp
  cases hx
  simp [Hl.un, Hl.pt]
/-- A block is overwritten. -/
theorem pts_set {h : Hl} {b : Nat} {o : Obj} {X : As} (o' : Obj) (hp : (pts b o * X) h) : (pts b o' * X) (h.set b o') := by
  obtain ⟨x, y, d, rfl, hx, hy⟩ := hp
  cases hx
  have hb : y b = none := by rcases d b with h | h; · simp [Hl.pt] at h
                             · exact h
  refine ⟨.pt b o', y, fun k => ?_, ?_, rfl, hy⟩
  · rcases d k with h | h
    · simp only [Hl.pt] at h ⊢; split at h <;> simp_all
    · exact .inr h
  · funext k; simp only [Hl.set, Hl.un, Hl.pt]; by_cases e : k = b <;> simp [e]
/-- A new block joins. -/
theorem pts_new {h : Hl} {b : Nat} {X : As} (o : Obj) (hn : h b = none) (hx : X h) : (pts b o * X) (h.set b o) := by
  refine ⟨.pt b o, h, fun k => ?_, ?_, rfl, hx⟩
  · by_cases e : k = b
    · subst e; exact .inr hn
    · exact .inl (by simp [Hl.pt, e])
  · funext k; simp only [Hl.set, Hl.un, Hl.pt]; by_cases e : k = b <;> simp [e]
theorem pts_ne {h : Hl} {b c : Nat} {o p : Obj} {X : As} (hp : (pts b o * (pts c p * X)) h) : b ≠ c := by
  obtain ⟨x, y, d, rfl, hx, u, v, _, rfl, hu, _⟩ := hp
  cases hx; cases hu
  intro e; subst e
  rcases d b with h | h <;> simp [Hl.pt, Hl.un] at h

/-- From w to w' (the owned heap goes from h to h'): what is not owned stays; what is owned behind was owned or is new. -/
structure Tr (w w' : World) (h h' : Hl) : Prop where
  os : w'.os = w.os
  tape : w'.tape = w.tape
  output : w'.output = w.output
  size : w.heap.size ≤ w'.heap.size
  keep : ∀ k, k < w.heap.size → h k = none → w'.heap[k]? = w.heap[k]?
  grow : ∀ k, h' k ≠ none → h k ≠ none ∨ w.heap.size ≤ k
  has : Has w' h'
theorem Tr.refl {w : World} {h : Hl} (H : Has w h) : Tr w w h h := ⟨rfl, rfl, rfl, Nat.le_refl _, fun _ _ _ => rfl, fun _ e => .inl e, H⟩
theorem Tr.trans {a b c : World} {x y z : Hl} (h : Tr a b x y) (k : Tr b c y z) : Tr a c x z where
  os := k.os.trans h.os
  tape := k.tape.trans h.tape
  output := k.output.trans h.output
  size := Nat.le_trans h.size k.size
  keep := fun i hi e => (k.keep i (Nat.lt_of_lt_of_le hi h.size) (by
    cases e' : y i with
    | none => rfl
    | some o => rcases h.grow i (by simp [e']) with g | g
                · exact absurd e g
                · omega)).trans (h.keep i hi e)
  grow := fun i e => by
    rcases k.grow i e with g | g
    · exact h.grow i g
    · exact .inr (Nat.le_trans h.size g)
  has := k.has
theorem Tr.frame {w w' : World} {x x' y : Hl} (h : Tr w w' x x') (d : x.dj y) (H : Has w y) : x'.dj y ∧ Tr w w' (x.un y) (x'.un y) := by
  have hy : ∀ k, y k ≠ none → x k = none ∧ k < w.heap.size := fun k e => ⟨(d k).resolve_right e, H.lt e⟩
  have d' : x'.dj y := fun k => by
    by_cases e : y k = none
    · exact .inr e
    · refine .inl ?_
      have := hy k e
      by_cases e' : x' k = none
      · exact e'
      · rcases h.grow k e' with g | g
        · exact absurd this.1 g
        · omega
  refine ⟨d', ⟨h.os, h.tape, h.output, h.size, fun k hk e => h.keep k hk (by simp [Hl.un] at e; exact e.1), fun k e => ?_, fun k o e => ?_⟩⟩
  · by_cases ex : x' k = none
    · by_cases ey : y k = none
      · simp [Hl.un, ex, ey] at e
      · exact .inl (by simp [Hl.un, ey])
    · rcases h.grow k ex with g | g
      · exact .inl (by simp [Hl.un, g])
      · exact .inr g
  · by_cases ex : x' k = none
    · have ey : y k = some o := by simpa [Hl.un, ex] using e
      have := hy k (by simp [ey])
      rw [h.keep k this.2 this.1]; exact H k o ey
    · obtain ⟨p, hp⟩ := Option.ne_none_iff_exists'.1 ex
      have : p = o := by simpa [Hl.un, hp] using e
      subst this; exact h.has k p hp
theorem Tr.below {w w' : World} {h h' : Hl} (t : Tr w w' h h') {B : Nat} (hB : B ≤ w.heap.size) (hn : ∀ k, k < B → h k = none) : Below B w w' :=
  ⟨t.os, t.tape, t.output, t.size, fun k hk => t.keep k (by omega) (hn k hk)⟩
/-- A cell that is not owned stays. -/
theorem Tr.cell {w w' : World} {h h' : Hl} (t : Tr w w' h h') {a : Addr} (hb : a.block < w.heap.size) (hn : h a.block = none) : w'.cell? a = w.cell? a :=
  World.cell?_of_block (w := w) (t.keep _ hb hn)
theorem Tr.drew {w W : World} {h h' : Hl} (t : Tr w W h h') : Tr w W.drew h h' := ⟨t.os, t.tape, t.output, t.size, t.keep, t.grow, t.has⟩
theorem Tr.drewN {w W : World} {h h' : Hl} (t : Tr w W h h') (n : Nat) : Tr w (W.drewN n) h h' := ⟨t.os, t.tape, t.output, t.size, t.keep, t.grow, t.has⟩
/-- A new block that is not kept. -/
theorem Tr.alloc {w W : World} {h h' : Hl} (t : Tr w W h h') (o : Obj) : Tr w (W.alloc o) h h' where
  os := t.os
  tape := t.tape
  output := t.output
  size := by have := t.size; show _ ≤ (W.heap.push o).size; rw [Array.size_push]; omega
  keep := fun k hk e => (Below.heap_alloc W o k (Nat.lt_of_lt_of_le hk t.size)).trans (t.keep k hk e)
  grow := t.grow
  has := fun k p e => (Below.heap_alloc W o k (t.has.lt (by simp [e]))).trans (t.has k p e)
theorem heap_alloc_new (W : World) (o : Obj) : (W.alloc o).heap[W.heap.size]? = some o := by show (W.heap.push o)[W.heap.size]? = _; simp
/-- A new block that is kept. -/
theorem Tr.allocOwn {w W : World} {h h' : Hl} (t : Tr w W h h') (o : Obj) : Tr w (W.alloc o) h (h'.set W.heap.size o) :=
  { t.alloc o with
    grow := fun k e => by
      by_cases hk : k = W.heap.size
      · exact .inr (by have := t.size; omega)
      · exact t.grow k (by simpa [Hl.set, hk] using e)
    has := fun k p e => by
      by_cases hk : k = W.heap.size
      · subst hk; simp [Hl.set] at e; subst e; exact heap_alloc_new W _
      · exact (t.alloc o).has k p (by simpa [Hl.set, hk] using e) }
theorem Has.none_new {w : World} {h : Hl} (H : Has w h) : h w.heap.size = none := by
  cases e : h w.heap.size with
  | none => rfl
  | some o => have := H.lt (k := w.heap.size) (by simp [e]); omega
theorem heap_setCell {W : World} {b i : Nat} {cs : Array Value} {T : TypeId} {fz : Nat × Nat} (hb : W.heap[b]? = some (.cells cs T fz)) (v : Value) :
    (W.setCell ⟨b, i, none⟩ v).heap[b]? = some (.cells (cs.setIfInBounds i v) T fz) := by
  simp [World.setCell, Array.getElem?_modify, hb]
/-- A store into an owned block. -/
theorem Tr.setOwn {w W : World} {h h' : Hl} (t : Tr w W h h') {b : Nat} {cs : Array Value} {T : TypeId} {fz : Nat × Nat} (hb : h' b = some (.cells cs T fz)) (i : Nat) (v : Value) :
    Tr w (W.setCell ⟨b, i, none⟩ v) h (h'.set b (.cells (cs.setIfInBounds i v) T fz)) where
  os := t.os
  tape := t.tape
  output := t.output
  size := by have := t.size; simpa [World.setCell] using this
  keep := fun k hk e => by
    have hne : k ≠ b := fun e' => by
      subst e'
      rcases t.grow k (by simp [hb]) with g | g
      · exact g e
      · omega
    exact (Below.heap_setCell W _ v k hne).trans (t.keep k hk e)
  grow := fun k e => by
    by_cases hk : k = b
    · subst hk; exact t.grow k (by simp [hb])
    · exact t.grow k (by simpa [Hl.set, hk] using e)
  has := fun k p e => by
    by_cases hk : k = b
    · subst hk; simp [Hl.set] at e; subst e; exact heap_setCell (t.has _ _ hb) v
    · exact (Below.heap_setCell W _ v k hk).trans (t.has k p (by simpa [Hl.set, hk] using e))
/-- A store into a new block that is not kept. -/
theorem Tr.setNew {w W : World} {h h' : Hl} (t : Tr w W h h') {b : Nat} (hb : w.heap.size ≤ b) (hn : h' b = none) (i : Nat) (v : Value) :
    Tr w (W.setCell ⟨b, i, none⟩ v) h h' where
  os := t.os
  tape := t.tape
  output := t.output
  size := by have := t.size; simpa [World.setCell] using this
  keep := fun k hk e => (Below.heap_setCell W ⟨b, i, none⟩ v k (by show k ≠ b; omega)).trans (t.keep k hk e)
  grow := t.grow
  has := fun k p e => (Below.heap_setCell W ⟨b, i, none⟩ v k (by show k ≠ b; intro e'; subst e'; rw [hn] at e; cases e)).trans (t.has k p e)
theorem Tr.of_below {w w' : World} {h : Hl} (H : Has w h) (b : Below w.heap.size w w') : Tr w w' h h where
  os := b.os
  tape := b.tape
  output := b.output
  size := b.size
  keep := fun k hk _ => b.block k hk
  grow := fun _ e => .inl e
  has := fun k o e => (b.block k (H.lt (by simp [e]))).trans (H k o e)
/-- Only one owned block may have turned. -/
theorem Tr.of_grown {w w' : World} {h : Hl} {b : Nat} {o o' : Obj} (H : Has w h) (hb : h b = some o) (g : w.grownBy w' (some b)) (hb' : w'.heap[b]? = some o') : Tr w w' h (h.set b o') where
  os := g.os
  tape := g.tape
  output := g.output
  size := g.size
  keep := fun k hk e => g.block k hk (by intro e'; cases e'; rw [hb] at e; cases e)
  grow := fun k e => by
    by_cases hk : k = b
    · subst hk; exact .inl (by simp [hb])
    · exact .inl (by simpa [Hl.set, hk] using e)
  has := fun k p e => by
    by_cases hk : k = b
    · subst hk; simp [Hl.set] at e; subst e; exact hb'
    · have e : h k = some p := by simpa [Hl.set, hk] using e
      exact (g.block k (H.lt (by simp [e])) (by intro e'; cases e'; exact hk rfl)).trans (H k p e)

/-- What a call does: from the assertion A it returns a value v, and R v holds of what is then owned. -/
def Sp (P : Program) (f : FuncId) (args : Array Value) (A : As) (R : Value → As) : Prop :=
  ∀ w h, Has w h → A h → Calls P f args w fun e w' => ∃ v h', e = .returned v ∧ Tr w w' h h' ∧ R v h'
theorem Sp.conseq {P : Program} {f : FuncId} {args : Array Value} {A A' : As} {R R' : Value → As} (s : Sp P f args A R) (ha : ∀ h, A' h → A h) (hr : ∀ v h, R v h → R' v h) : Sp P f args A' R' :=
  fun w h H a => (s w h H (ha h a)).mono fun _ _ ⟨v, h', e, t, r⟩ => ⟨v, h', e, t, hr v h' r⟩
/-- The frame. -/
theorem Sp.frame {P : Program} {f : FuncId} {args : Array Value} {A : As} {R : Value → As} (s : Sp P f args A R) (B : As) : Sp P f args (A * B) (fun v => R v * B) := by
  rintro w h H ⟨x, y, d, rfl, hx, hy⟩
  refine (s w x H.unL hx).mono fun _ w' ⟨v, x', e, t, r⟩ => ?_
  obtain ⟨d', t'⟩ := t.frame d (H.unR d)
  exact ⟨v, x'.un y, e, t', x', y, d', rfl, r, hy⟩

/-- A call that only reads (and makes memory that it leaves behind). -/
def Rd (P : Program) (f : FuncId) (args : Array Value) (A : As) (v : Value) : Prop :=
  ∀ w h, Has w h → A h → Calls P f args w fun e w' => e = .returned v ∧ Below w.heap.size w w'
theorem Rd.sp {P : Program} {f : FuncId} {args : Array Value} {A : As} {v : Value} (s : Rd P f args A v) : Sp P f args A fun u h => u = v ∧ A h :=
  fun w h H a => (s w h H a).mono fun _ _ ⟨e, b⟩ => ⟨v, h, e, Tr.of_below H b, rfl, a⟩
theorem Has.below {w w' : World} {h : Hl} (H : Has w h) (b : Below w.heap.size w w') : Has w' h := fun k o e => (b.block k (H.lt (by simp [e]))).trans (H k o e)
theorem Tr.belowStep {w W W' : World} {h h' : Hl} (t : Tr w W h h') (b : Below W.heap.size W W') : Tr w W' h h' := t.trans (Tr.of_below t.has b)
end Go.Sl
/- Maps as association lists: how lookup, update, delete and an entry's update run. No program in sight. -/
namespace Go.Sl
open Go.RowKit

section AL
variable {κ α : Type} [DecidableEq κ]
def AL.get (m : List (κ × α)) (k : κ) : Option α := (m.find? fun p => p.1 == k).map (·.2)
def AL.set (m : List (κ × α)) (k : κ) (v : α) : List (κ × α) := if m.any (fun p => p.1 == k) then m.map (fun p => if p.1 = k then (k, v) else p) else m ++ [(k, v)]
def AL.del (m : List (κ × α)) (k : κ) : List (κ × α) := m.filter fun p => !(p.1 == k)
theorem AL.get_nil (k : κ) : AL.get ([] : List (κ × α)) k = none := rfl
theorem AL.get_cons (p : κ × α) (m : List (κ × α)) (k : κ) : AL.get (p :: m) k = if p.1 = k then some p.2 else AL.get m k := by
  unfold AL.get; simp only [List.find?_cons]; by_cases h : p.1 = k
  · simp [h]
  · have : (p.1 == k) = false := by simpa using h
    simp [h, this]
theorem AL.get_append (m n : List (κ × α)) (k : κ) : AL.get (m ++ n) k = (AL.get m k).or (AL.get n k) := by
  induction m with
  | nil => simp [AL.get_nil]
  | cons p m ih => rw [List.cons_append, AL.get_cons, AL.get_cons, ih]; split <;> simp
theorem AL.get_none {m : List (κ × α)} {k : κ} : AL.get m k = none ↔ m.any (fun p => p.1 == k) = false := by
  induction m with
  | nil => simp [AL.get_nil]
  | cons p m ih => rw [AL.get_cons]; by_cases h : p.1 = k <;> simp_all
theorem AL.get_map_set (m : List (κ × α)) (k j : κ) (v : α) : AL.get (m.map (fun p => if p.1 = k then (k, v) else p)) j = if j = k then (AL.get m j).map (fun _ => v) else AL.get m j := by
  induction m with
  | nil => simp [AL.get_nil]
  | cons p m ih =>
    rw [List.map_cons, AL.get_cons, AL.get_cons, ih]
    by_cases h : p.1 = k
    · by_cases e : j = k
      · subst e; simp [h]
      · have : ¬ k = j := fun h => e h.symm
        have : ¬ p.1 = j := fun h' => e (h' ▸ h)
        simp_all
    · by_cases e : j = k
      · subst e; simp [h]
      · simp [h, e]
theorem AL.get_set (m : List (κ × α)) (k j : κ) (v : α) : AL.get (AL.set m k v) j = if j = k then some v else AL.get m j := by
  unfold AL.set
  cases h : m.any (fun p => p.1 == k)
  · have hn := AL.get_none.2 h
    simp only [Bool.false_eq_true, if_false, AL.get_append, AL.get_cons, AL.get_nil]
    by_cases e : j = k
    · subst e; simp [hn]
    · have : ¬ k = j := fun h => e h.symm
      simp [e, this]
  · simp only [if_true, AL.get_map_set]
    by_cases e : j = k
    · subst e
      simp only [if_true]
      cases hg : AL.get m j with
      | none => rw [AL.get_none] at hg; simp [h] at hg
      | some x => rfl
    · simp [e]
theorem AL.get_del (m : List (κ × α)) (k j : κ) : AL.get (AL.del m k) j = if j = k then none else AL.get m j := by
  unfold AL.del
  induction m with
  | nil => simp [AL.get_nil]
  | cons p m ih =>
    rw [List.filter_cons]
    by_cases h : p.1 = k
    · simp only [h, beq_self_eq_true, Bool.not_true, Bool.false_eq_true, if_false, ih, AL.get_cons]
      by_cases e : j = k
      · simp [e]
      · have : ¬ k = j := fun h => e h.symm
        simp [e, this]
    · have : (p.1 == k) = false := by simpa using h
      simp only [this, Bool.not_false, if_true, AL.get_cons, ih]
      by_cases e : p.1 = j
      · have : ¬ j = k := fun h' => h (e.trans h')
        simp [e, this]
      · by_cases e' : j = k <;> simp [e, e']
        subst e'; simpa using h
theorem AL.keys_set (m : List (κ × α)) (k : κ) (v : α) (h : (m.map (·.1)).Nodup) : ((AL.set m k v).map (·.1)).Nodup := by
  unfold AL.set
  split
  · have : (m.map (fun p => if p.1 = k then (k, v) else p)).map (·.1) = m.map (·.1) := by
      rw [List.map_map]; apply List.map_congr_left; intro p _; simp only [Function.comp]; split <;> simp_all
    rw [this]; exact h
  · rename_i hk
    rw [List.map_append, List.nodup_append]
    refine ⟨h, by simp, fun a ha b hb => ?_⟩
    simp at hb; subst hb
    intro e; subst e
    obtain ⟨p, hp, rfl⟩ := List.mem_map.1 ha
    exact hk (List.any_eq_true.2 ⟨p, hp, by simp⟩)
theorem AL.keys_del (m : List (κ × α)) (k : κ) (h : (m.map (·.1)).Nodup) : ((AL.del m k).map (·.1)).Nodup := h.sublist ((List.filter_sublist).map _)
end AL

/-- What a map's block holds: the association list m, its keys and values encoded. -/
structure Ents {κ α : Type} (ek : κ → Value) (ev : α → Value) (es : Array MapEntry) (clock : Nat) (m : List (κ × α)) : Prop where
  kv : es.toList.map (fun e => (e.key, e.val)) = m.map fun p => (ek p.1, ev p.2)
  keys : (m.map (·.1)).Nodup
  born : (es.toList.map (·.born)).Nodup
  lt : ∀ e ∈ es.toList, e.born < clock
def mapAs {κ α : Type} (ek : κ → Value) (ev : α → Value) (b : Nat) (m : List (κ × α)) : As := fun h => ∃ es c, Ents ek ev es c m ∧ pts b (.map es c) h
/-- A map that may be nil. -/
def mapP {κ α : Type} (ek : κ → Value) (ev : α → Value) (r : Option Nat) (m : List (κ × α)) : As := match r with
  | none => fun h => m = [] ∧ (1 : As) h
  | some b => mapAs ek ev b m
/-- What is asked of a key's type. -/
structure KL {κ : Type} [DecidableEq κ] (P : Program) (K : TypeId) (ek : κ → Value) : Prop where
  check : ∀ b k w, (Instr.checkKey b 10000 K (ek k)).run P w = .ok () w
  find : ∀ k (l : List MapEntry) (ks : List κ) w, l.map (·.key) = ks.map ek → (Instr.findKey K (ek k) l).run P w = .ok ((ks.findIdx? (· == k)).map fun i => (i, ((l[i]?).map (·.val)).getD undef)) w
  bits : ∀ k, Instr.sameBits 10000 (ek k) (ek k) = true
section
variable {κ α : Type} [DecidableEq κ] {P : Program} {K E T : TypeId} {ek : κ → Value} {ev : α → Value} {es : Array MapEntry} {c : Nat} {m : List (κ × α)}
omit [DecidableEq κ] in
theorem Ents.nil (ek : κ → Value) (ev : α → Value) : Ents ek ev #[] 0 [] := ⟨rfl, by simp, by simp, by simp⟩
omit [DecidableEq κ] in
theorem Ents.key (h : Ents ek ev es c m) : es.toList.map (·.key) = (m.map (·.1)).map ek := by
  have := congrArg (List.map Prod.fst) h.kv; simpa [List.map_map, Function.comp_def] using this
omit [DecidableEq κ] in
theorem Ents.val (h : Ents ek ev es c m) : es.toList.map (·.val) = (m.map (·.2)).map ev := by
  have := congrArg (List.map Prod.snd) h.kv; simpa [List.map_map, Function.comp_def] using this
omit [DecidableEq κ] in
theorem Ents.size (h : Ents ek ev es c m) : es.size = m.length := by have := congrArg List.length h.kv; simpa using this
theorem findIdx_get : ∀ (m : List (κ × α)) (k : κ), AL.get m k = ((m.map (·.1)).findIdx? (· == k)).bind fun i => (m[i]?).map (·.2)
  | [], k => rfl
  | p :: m, k => by
    rw [AL.get_cons, List.map_cons, List.findIdx?_cons]
    by_cases h : p.1 = k
    · simp [h]
    · have : (p.1 == k) = false := by simpa using h
      simp only [h, if_false, this, Bool.false_eq_true, findIdx_get m k]
      cases ((m.map (·.1)).findIdx? (· == k)) <;> simp
theorem Ents.at (h : Ents ek ev es c m) (k : κ) : ((m.map (·.1)).findIdx? (· == k)).map (fun i => (i, ((es.toList[i]?).map (·.val)).getD undef)) =
    ((m.map (·.1)).findIdx? (· == k)).bind fun i => (AL.get m k).map fun v => (i, ev v) := by
  cases hf : (m.map (·.1)).findIdx? (· == k) with
  | none => rfl
  | some i =>
    have hg := findIdx_get m k
    rw [hf] at hg
    have hv : (es.toList[i]?).map (·.val) = ((m[i]?).map (·.2)).map ev := by
      have := congrArg (·[i]?) h.val; simpa [List.getElem?_map] using this
    have hi : i < m.length := by have := List.findIdx?_eq_some_iff_getElem.1 hf; simpa using this.1
    simp only [Option.map_some, Option.bind_some] at hg ⊢
    rw [hg, hv, List.getElem?_eq_getElem hi]; simp
theorem run_lookup (kl : KL P K ek) {w : World} {b : Nat} (hu : P.underlying T = some (.map K E)) (hb : w.heap[b]? = some (.map es c)) (hE : Ents ek ev es c m) {z : α} (hz : (zeroValue E).run P w = .ok (ev z) w) (k : κ) (ok : Bool) :
    (Instr.lookup T (.map (some b)) (ek k) ok).run P w = .ok (if ok then .tuple #[ev ((AL.get m k).getD z), .bool (AL.get m k).isSome] else ev ((AL.get m k).getD z)) w := by
  have hf := kl.find k es.toList (m.map (·.1)) w hE.key
  rw [hE.at] at hf
  have hg := findIdx_get m k
  have hget : (getObj b).run P w = .ok (.map es c) w := by simp [getObj, Sem.run, hb]
  unfold Instr.lookup
  cases hk : AL.get m k with
  | none =>
    rw [hk] at hf hg
    have hf : (Instr.findKey K (ek k) es.toList).run P w = .ok none w := by rw [hf]; cases (m.map (·.1)).findIdx? (· == k) <;> rfl
    cases ok <;> simp [go_sem, run_underlying hu, hget, kl.check, hf, hz]
  | some v =>
    cases hi : (m.map (·.1)).findIdx? (· == k) with
    | none => rw [hi] at hg; rw [hg] at hk; cases hk
    | some i =>
      rw [hi, hk] at hf
      have hf : (Instr.findKey K (ek k) es.toList).run P w = .ok (some (i, ev v)) w := hf
      cases ok <;> simp [go_sem, run_underlying hu, hget, kl.check, hf]
theorem run_lookup_nil (kl : KL P K ek) {w : World} (hu : P.underlying T = some (.map K E)) {z : Value} (hz : (zeroValue E).run P w = .ok z w) (k : κ) (ok : Bool) :
    (Instr.lookup T (.map none) (ek k) ok).run P w = .ok (if ok then .tuple #[z, .bool false] else z) w := by
  have hf := kl.find k [] [] w rfl
  unfold Instr.lookup
  simp at hf
  cases ok <;> simp [go_sem, run_underlying hu, kl.check, hf, hz]

omit [DecidableEq κ] in
theorem Ents.noDup (h : Ents ek ev es c m) : es.toList.Pairwise (fun a b => a.born ≠ b.born) := by
  have := h.born; rwa [List.Nodup, List.pairwise_map] at this
theorem set_eq_list {l : List (κ × α)} {k : κ} {i : Nat} (v : α) (h : (l.map (·.1)).findIdx? (· == k) = some i) (hn : (l.map (·.1)).Nodup) : AL.set l k v = l.set i (k, v) := by
  obtain ⟨hi, hk, _⟩ := List.findIdx?_eq_some_iff_getElem.1 h
  have hi' : i < l.length := by simpa using hi
  have hki : l[i].1 = k := by simpa using hk
  have hany : l.any (fun p => p.1 == k) = true := List.any_eq_true.2 ⟨l[i], List.getElem_mem hi', by simp [hki]⟩
  unfold AL.set
  rw [if_pos hany]
  apply List.ext_getElem (by simp)
  intro j h1 h2
  rw [List.getElem_map, List.getElem_set]
  by_cases e : i = j
  · subst e; simp [hki]
  · have hj : j < l.length := by simpa using h1
    have : ¬ l[j].1 = k := fun h' => e (by
      have hp := List.pairwise_iff_getElem.1 hn
      rcases Nat.lt_or_gt_of_ne e with g | g
      · exact absurd (by rw [List.getElem_map, List.getElem_map, h', hki]) (hp i j (by simpa using hi') (by simpa using hj) g)
      · exact absurd (by rw [List.getElem_map, List.getElem_map, h', hki]) (hp j i (by simpa using hj) (by simpa using hi') g))
    simp [e, this]
theorem Ents.update (h : Ents ek ev es c m) {k : κ} {i : Nat} (hi : (m.map (·.1)).findIdx? (· == k) = some i) (v : α) :
    Ents ek ev (es.modify i fun e => { e with key := ek k, val := ev v }) c (AL.set m k v) := by
  have hlen := h.size
  have hborn : (es.modify i fun e => { e with key := ek k, val := ev v }).toList.map (·.born) = es.toList.map (·.born) := by
    apply List.ext_getElem (by simp)
    intro j h1 h2
    simp only [List.getElem_map, Array.getElem_toList, Array.getElem_modify]; split <;> rfl
  refine ⟨?_, AL.keys_set m k v h.keys, by rw [hborn]; exact h.born, ?_⟩
  · rw [set_eq_list v hi h.keys, List.map_set]
    have hkv := h.kv
    rw [← hkv]
    apply List.ext_getElem (by simp)
    intro j h1 h2
    simp only [List.getElem_map, Array.getElem_toList, Array.getElem_modify, List.getElem_set]
    split <;> rfl
  · intro e he
    have : e.born ∈ es.toList.map (·.born) := by rw [← hborn]; exact List.mem_map_of_mem he
    obtain ⟨e', he', hb⟩ := List.mem_map.1 this
    rw [← hb]; exact h.lt e' he'
theorem Ents.push (h : Ents ek ev es c m) {k : κ} (hk : AL.get m k = none) (v : α) : Ents ek ev (es.push { key := ek k, val := ev v, born := c }) (c + 1) (AL.set m k v) := by
  have hany := AL.get_none.1 hk
  refine ⟨?_, AL.keys_set m k v h.keys, ?_, ?_⟩
  · unfold AL.set; rw [hany]; simp [h.kv]
  · rw [Array.toList_push, List.map_append, List.nodup_append]
    refine ⟨h.born, by simp, fun a ha b hb => ?_⟩
    simp at hb; subst hb
    obtain ⟨e, he, rfl⟩ := List.mem_map.1 ha
    have := h.lt e he
    omega
  · intro e he
    rw [Array.toList_push, List.mem_append] at he
    rcases he with he | he
    · have := h.lt e he; omega
    · simp at he; subst he; simp
theorem eraseIdx_eq {l : List (κ × α)} {k : κ} {i : Nat} (h : (l.map (·.1)).findIdx? (· == k) = some i) (hn : (l.map (·.1)).Nodup) : AL.del l k = l.eraseIdx i := by
  induction l generalizing i with
  | nil => simp at h
  | cons p l ih =>
    rw [List.map_cons, List.findIdx?_cons] at h
    rw [List.map_cons, List.nodup_cons] at hn
    unfold AL.del
    rw [List.filter_cons]
    by_cases e : p.1 = k
    · subst e
      simp at h; subst h
      simp only [beq_self_eq_true, Bool.not_true, Bool.false_eq_true, if_false, List.eraseIdx_cons_zero]
      rw [List.filter_eq_self]
      intro q hq
      have : ¬ q.1 = p.1 := fun e => hn.1 (e ▸ List.mem_map_of_mem hq)
      simpa using this
    · have e' : (p.1 == k) = false := by simpa using e
      rw [e'] at h
      simp only [Bool.false_eq_true, if_false, Option.map_eq_some_iff] at h
      obtain ⟨j, hj, rfl⟩ := h
      simp only [e', Bool.not_false, if_true, List.eraseIdx_cons_succ]
      rw [← ih hj hn.2]; rfl
omit [DecidableEq κ] in
theorem map_eraseIdx' {α β : Type} (f : α → β) : ∀ (l : List α) (i : Nat), (l.eraseIdx i).map f = (l.map f).eraseIdx i
  | [], _ => rfl
  | _ :: _, 0 => rfl
  | a :: l, i + 1 => by simp [map_eraseIdx' f l i]
theorem Ents.erase (h : Ents ek ev es c m) {k : κ} {i : Nat} (hi : (m.map (·.1)).findIdx? (· == k) = some i) : Ents ek ev (es.eraseIdxIfInBounds i) c (AL.del m k) := by
  have hl : (es.eraseIdxIfInBounds i).toList = es.toList.eraseIdx i := by
    have hi' : i < es.size := by rw [h.size]; have := (List.findIdx?_eq_some_iff_getElem.1 hi).1; simpa using this
    simp [Array.eraseIdxIfInBounds, hi']
  refine ⟨?_, AL.keys_del m k h.keys, ?_, ?_⟩
  · rw [hl, eraseIdx_eq hi h.keys, map_eraseIdx', map_eraseIdx', h.kv]
  · rw [hl, map_eraseIdx']; exact h.born.sublist (List.eraseIdx_sublist _ _)
  · intro e he; rw [hl] at he; exact h.lt e (List.mem_of_mem_eraseIdx he)
theorem Ents.mem_of (h : Ents ek ev es c m) {k : κ} : (AL.get m k = none ∧ (m.map (·.1)).findIdx? (· == k) = none) ∨ ∃ i v, AL.get m k = some v ∧ (m.map (·.1)).findIdx? (· == k) = some i ∧ i < es.size ∧ ∃ e, es[i]? = some e ∧ e.key = ek k ∧ e.val = ev v := by
  have hg := findIdx_get m k
  cases hi : (m.map (·.1)).findIdx? (· == k) with
  | none => rw [hi] at hg; exact .inl ⟨hg, rfl⟩
  | some i =>
    obtain ⟨hlt, hk, _⟩ := List.findIdx?_eq_some_iff_getElem.1 hi
    have hlt' : i < m.length := by simpa using hlt
    have hes : i < es.size := by rw [h.size]; exact hlt'
    have hki : m[i].1 = k := by simpa using hk
    rw [hi] at hg
    simp [List.getElem?_eq_getElem hlt'] at hg
    have hkv := congrArg (·[i]?) h.kv
    simp [List.getElem?_map, Array.getElem?_eq_getElem hes, List.getElem?_eq_getElem hlt'] at hkv
    exact .inr ⟨i, m[i].2, hg, rfl, hes, es[i], Array.getElem?_eq_getElem hes, by rw [hkv.1, hki], hkv.2⟩
theorem run_findKey (kl : KL P K ek) (h : Ents ek ev es c m) (k : κ) (w : World) : (Instr.findKey K (ek k) es.toList).run P w = .ok (((m.map (·.1)).findIdx? (· == k)).bind fun i => (AL.get m k).map fun v => (i, ev v)) w := by
  rw [← h.at]; exact kl.find k es.toList (m.map (·.1)) w h.key
theorem run_getObj_map {w : World} {b : Nat} (hb : w.heap[b]? = some (.map es c)) : (getObj b).run P w = .ok (.map es c) w := by simp [getObj, Sem.run, hb]
theorem run_setObj_map {w : World} {b : Nat} (o : Obj) (hb : w.heap[b]? = some (.map es c)) : (setObj b o).run P w = .ok () (w.putObj b o) := by simp [setObj, Sem.run, hb, World.putObj]
theorem run_mapUpdate (kl : KL P K ek) {w : World} {b : Nat} (hu : P.underlying T = some (.map K E)) (hb : w.heap[b]? = some (.map es c)) (hE : Ents ek ev es c m) (k : κ) (v : α) :
    ∃ es' c', (Instr.mapUpdate T (.map (some b)) (ek k) (ev v)).run P w = .ok () (w.putObj b (.map es' c')) ∧ Ents ek ev es' c' (AL.set m k v) := by
  have hf := run_findKey kl hE k w
  have hget := run_getObj_map (P := P) hb
  rcases hE.mem_of (k := k) with ⟨hk, hi⟩ | ⟨i, u, hk, hi, hlt, e, he, hke, hve⟩
  · rw [hi] at hf
    refine ⟨_, _, ?_, hE.push hk v⟩
    unfold Instr.mapUpdate
    simp [go_sem, run_underlying hu, hget, kl.check, hf, run_setObj_map _ hb]
  · rw [hi, hk] at hf
    refine ⟨_, _, ?_, hE.update hi v⟩
    unfold Instr.mapUpdate
    simp [go_sem, run_underlying hu, hget, kl.check, hf, run_setObj_map _ hb, Instr.keyThatStays, he, hke, kl.bits]
theorem run_delete (kl : KL P K ek) {w : World} {b : Nat} (ty : TypeId) (at2 : Array TypeId) (hu : P.underlying T = some (.map K E)) (hb : w.heap[b]? = some (.map es c)) (hE : Ents ek ev es c m) (k : κ) (h0 : at2[0]? = some T) :
    ∃ es' c', (Builtin.delete_ at2 ty #[.map (some b), ek k]).run P w = .ok (.tuple #[]) (w.putObj b (.map es' c')) ∧ Ents ek ev es' c' (AL.del m k) := by
  have hf := run_findKey kl hE k w
  have hget := run_getObj_map (P := P) hb
  rcases hE.mem_of (k := k) with ⟨hk, hi⟩ | ⟨i, u, hk, hi, hlt, e, he, hke, hve⟩
  · rw [hi] at hf
    refine ⟨es, c, ?_, ?_⟩
    · unfold Builtin.delete_
      simp [go_sem, h0, run_underlying hu, hget, kl.check, hf, run_setObj_map _ hb]
    · have : AL.del m k = m := by
        unfold AL.del; rw [List.filter_eq_self]; intro q hq
        have := AL.get_none.1 hk
        rw [List.any_eq_false] at this
        simpa using this q hq
      rw [this]; exact hE
  · rw [hi, hk] at hf
    refine ⟨_, _, ?_, hE.erase hi⟩
    unfold Builtin.delete_
    simp [go_sem, h0, run_underlying hu, hget, kl.check, hf, run_setObj_map _ hb]
theorem run_delete_nil (kl : KL P K ek) {w : World} (ty : TypeId) (at2 : Array TypeId) (hu : P.underlying T = some (.map K E)) (k : κ) (h0 : at2[0]? = some T) :
    (Builtin.delete_ at2 ty #[.map none, ek k]).run P w = .ok (.tuple #[]) w := by
  unfold Builtin.delete_
  simp [go_sem, h0, run_underlying hu, kl.check]
/-- 'm[k] op= v', first half: the old value and the entry's stamp. -/
theorem run_mapEntry (kl : KL P K ek) {w : World} {b : Nat} (hu : P.underlying T = some (.map K E)) (hb : w.heap[b]? = some (.map es c)) (hE : Ents ek ev es c m) {z : α} (hz : (zeroValue E).run P w = .ok (ev z) w) (k : κ) :
    ∃ es' c' s, (Instr.mapEntry T (.map (some b)) (ek k)).run P w = .ok (.tuple #[ev ((AL.get m k).getD z), .int .i64 (s : Nat)]) (w.putObj b (.map es' c')) ∧
      Ents ek ev es' c' (AL.set m k ((AL.get m k).getD z)) ∧ ∃ i e, es'[i]? = some e ∧ e.key = ek k ∧ e.born = s ∧ ((AL.set m k ((AL.get m k).getD z)).map (·.1)).findIdx? (· == k) = some i := by
  have hf := run_findKey kl hE k w
  have hget := run_getObj_map (P := P) hb
  rcases hE.mem_of (k := k) with ⟨hk, hi⟩ | ⟨i, u, hk, hi, hlt, e, he, hke, hve⟩
  · rw [hi] at hf
    refine ⟨_, _, c, ?_, by rw [hk]; exact hE.push hk z, es.size, { key := ek k, val := ev z, born := c }, by simp, rfl, rfl, ?_⟩
    · unfold Instr.mapEntry
      simp [go_sem, run_underlying hu, hget, kl.check, hf, run_setObj_map _ hb, hz, hk, goInt]
    · rw [hk]; unfold AL.set; rw [AL.get_none.1 hk]
      simp only [Bool.false_eq_true, if_false, List.map_append, List.map_cons, List.map_nil, Option.getD_none]
      rw [List.findIdx?_append, hi]; simp [hE.size]
  · rw [hi, hk] at hf
    have hset : AL.set m k u = m := by
      rw [set_eq_list u hi hE.keys]
      obtain ⟨hlt', hk', _⟩ := List.findIdx?_eq_some_iff_getElem.1 hi
      have hlm : i < m.length := by simpa using hlt'
      have hg := findIdx_get m k
      rw [hi, hk] at hg; simp [List.getElem?_eq_getElem hlm] at hg
      have h1 : m[i].1 = k := by simpa using hk'
      conv => rhs; rw [← List.set_getElem_self hlm]
      rw [← h1, hg]
    have hmod : es.modify i (fun e => { e with key := ek k }) = es := by
      apply Array.ext (by simp)
      intro j h1 h2
      rw [Array.getElem_modify]; split
      · rename_i e'; subst e'
        have : es[i] = e := by simpa [Array.getElem?_eq_getElem h2] using he
        rw [this, ← hke]
      · rfl
    refine ⟨es, c, e.born, ?_, by rw [hk]; simp only [Option.getD_some]; rw [hset]; exact hE, i, e, he, hke, rfl, by rw [hk]; simp only [Option.getD_some]; rw [hset]; exact hi⟩
    unfold Instr.mapEntry
    simp [go_sem, run_underlying hu, hget, kl.check, hf, run_setObj_map _ hb, Instr.keyThatStays, he, hke, kl.bits, hk, goInt, hmod]
/-- .. second half. -/
theorem run_entryStore {w : World} {b : Nat} (hb : w.heap[b]? = some (.map es c)) (hE : Ents ek ev es c m) {k : κ} {i : Nat} {e : MapEntry} (he : es[i]? = some e) (hke : e.key = ek k) (hi : (m.map (·.1)).findIdx? (· == k) = some i) (v : α) :
    ∃ es', (Instr.entryStore T (.map (some b)) (.int .i64 (e.born : Nat)) (ev v)).run P w = .ok () (w.putObj b (.map es' c)) ∧ Ents ek ev es' c (AL.set m k v) := by
  have hget := run_getObj_map (P := P) hb
  have hlt : i < es.size := (Array.getElem?_eq_some_iff.1 he).1
  have hei : es[i] = e := (Array.getElem?_eq_some_iff.1 he).2
  have hfi : es.findIdx? (fun x => (x.born : Int) == (e.born : Int)) = some i := by
    rw [Array.findIdx?_eq_some_iff_getElem]
    refine ⟨hlt, by rw [hei]; simp, fun j hj hb' => ?_⟩
    have hp := List.pairwise_iff_getElem.1 hE.noDup j i (by simp; omega) (by simpa using hlt) hj
    simp only [Array.getElem_toList] at hp
    rw [hei] at hp
    have hb'' : ((es[j].born : Nat) : Int) = (e.born : Nat) := by simpa using hb'
    omega
  have hmod : es.modify i (fun e => { e with key := ek k, val := ev v }) = es.modify i (fun e => { e with val := ev v }) := by
    apply Array.ext (by simp)
    intro j h1 h2
    rw [Array.getElem_modify, Array.getElem_modify]; split
    · rename_i e'; subst e'; rw [hei, ← hke]
    · rfl
  refine ⟨_, ?_, hmod ▸ hE.update hi v⟩
  unfold Instr.entryStore
  simp [go_sem, hget, asInt, asIntOf, hfi, run_setObj_map _ hb]
end
/-- A store into an owned block that is no row of cells. -/
theorem Tr.putOwn {w W : World} {h h' : Hl} (t : Tr w W h h') {b : Nat} {o : Obj} (hb : h' b = some o) (o' : Obj) : Tr w (W.putObj b o') h (h'.set b o') where
  os := t.os
  tape := t.tape
  output := t.output
  size := by have := t.size; simpa [World.putObj] using this
  keep := fun k hk e => by
    have hne : k ≠ b := fun e' => by
      subst e'
      rcases t.grow k (by simp [hb]) with g | g
      · exact g e
      · omega
    exact (World.putObj_heap_other hne).trans (t.keep k hk e)
  grow := fun k e => by
    by_cases hk : k = b
    · subst hk; exact t.grow k (by simp [hb])
    · exact t.grow k (by simpa [Hl.set, hk] using e)
  has := fun k p e => by
    by_cases hk : k = b
    · subst hk; simp [Hl.set] at e; subst e; exact World.putObj_heap_same (t.has.lt (by simp [hb]))
    · exact (World.putObj_heap_other hk).trans (t.has k p (by simpa [Hl.set, hk] using e))

/-! ### Two kinds of keys -/
theorem findNow_int (k : Int) : ∀ (l : List MapEntry) (ks : List Int) (i : Nat), l.map (·.key) = ks.map (Value.int .i64) →
    Instr.findNow (.int .i64) (.int .i64 k) l i = some ((ks.findIdx? (· == k)).map fun j => (i + j, ((l[j]?).map (·.val)).getD undef))
  | [], [], _, _ => rfl
  | e :: l, [], _, h => by simp at h
  | [], _ :: _, _, h => by simp at h
  | e :: l, a :: ks, i, h => by
    simp only [List.map_cons, List.cons.injEq] at h
    have ih := findNow_int k l ks (i + 1) h.2
    unfold Instr.findNow
    rw [h.1, List.findIdx?_cons]
    simp only [Instr.sameNow, if_true]
    by_cases e : a = k
    · subst e; simp
    · have h1 : (k == a) = false := by simpa using fun h => e h.symm
      have h2 : (a == k) = false := by simpa using e
      rw [h1, h2, ih]
      cases ks.findIdx? (· == k) <;> simp [Nat.add_assoc, Nat.add_comm 1]
theorem KL.int {P : Program} {K : TypeId} (hk : P.underlying K = some (.int .i64)) : KL P K (Value.int .i64) where
  check := fun b k w => by unfold Instr.checkKey; simp [go_sem, run_underlying hk]
  find := fun k l ks w h => by
    unfold Instr.findKey
    simp [go_sem, run_underlying hk, findNow_int k l ks 0 h]
  bits := fun k => by simp [Instr.sameBits]
theorem findAsking_run {κ : Type} [DecidableEq κ] {P : Program} {K : TypeId} {ek : κ → Value} (heq : ∀ a b w, (Op.equal K (ek a) (ek b)).run P w = .ok (a == b) w) (k : κ) :
    ∀ (l : List MapEntry) (ks : List κ) (i : Nat) (w : World), l.map (·.key) = ks.map ek →
    (Instr.findAsking K (ek k) l i).run P w = .ok ((ks.findIdx? (· == k)).map fun j => (i + j, ((l[j]?).map (·.val)).getD undef)) w
  | [], [], _, _, _ => by simp [Instr.findAsking, go_sem]
  | e :: l, [], _, _, h => by simp at h
  | [], _ :: _, _, _, h => by simp at h
  | e :: l, a :: ks, i, w, h => by
    simp only [List.map_cons, List.cons.injEq] at h
    have ih := findAsking_run heq k l ks (i + 1) w h.2
    unfold Instr.findAsking
    rw [h.1, List.findIdx?_cons]
    by_cases e : a = k
    · subst e; simp [go_sem, heq]
    · have h1 : ¬ k = a := fun h => e h.symm
      have h2 : (a == k) = false := by simpa using e
      simp [go_sem, heq, h1, h2, ih]
      cases ks.findIdx? (· == k) <;> simp [Nat.add_assoc, Nat.add_comm 1]
theorem KL.asked {κ : Type} [DecidableEq κ] {P : Program} {K : TypeId} {d : TypeDesc} {ek : κ → Value} (hk : P.underlying K = some d) (hnow : ∀ a b, Instr.sameNow d (ek a) (ek b) = none)
    (heq : ∀ a b w, (Op.equal K (ek a) (ek b)).run P w = .ok (a == b) w) (hcheck : ∀ b k w, (Instr.checkKey b 10000 K (ek k)).run P w = .ok () w) (hbits : ∀ k, Instr.sameBits 10000 (ek k) (ek k) = true) : KL P K ek where
  check := hcheck
  find := fun k l ks w h => by
    unfold Instr.findKey
    match l, ks, h with
    | [], [], _ => simp [go_sem, run_underlying hk, Instr.findNow]
    | [], _ :: _, h => simp at h
    | _ :: _, [], h => simp at h
    | e :: l, a :: ks, h =>
      have hn : Instr.findNow d (ek k) (e :: l) 0 = none := by
        simp only [List.map_cons, List.cons.injEq] at h
        unfold Instr.findNow; rw [h.1, hnow]
      have := findAsking_run heq k (e :: l) (a :: ks) 0 w h
      simp [go_sem, run_underlying hk, hn, this]
  bits := hbits
end Go.Sl
/- Laws that the walks use, over any program. -/
namespace Go.Sl
open Go.RowKit
/-- What the walk wants to see of an old block beside new ones. -/
theorem lts {a b : Nat} (h : a < b) : a < b ∧ a < b + 1 ∧ a < b + 1 + 1 ∧ a < b + 1 + 1 + 1 ∧ a < b + 1 + 1 + 1 + 1 ∧ a < b + 1 + 1 + 1 + 1 + 1 ∧ a < b + 1 + 1 + 1 + 1 + 1 + 1 := by omega
theorem setCell_size' (w : World) (a : Addr) (v : Value) : (w.setCell a v).heap.size = w.heap.size := by simp [World.setCell]
theorem blk_lt {w : World} {b : Nat} {o : Obj} (h : w.heap[b]? = some o) : b < w.heap.size := (Array.getElem?_eq_some_iff.1 h).1
/-- A block of cells, cell by cell. -/
theorem blk_cell {w : World} {b : Nat} {cs : Array Value} {T : TypeId} {fz : Nat × Nat} (h : w.heap[b]? = some (.cells cs T fz)) (i : Nat) : w.cell? ⟨b, i, none⟩ = cs[i]? := by simp [World.cell?, h]
theorem blk_free {w : World} {b : Nat} {cs : Array Value} {T : TypeId} (h : w.heap[b]? = some (.cells cs T (0, 0))) (i : Nat) : w.frozen? ⟨b, i, none⟩ = false := by simp [World.frozen?, h]
theorem _root_.Go.RowKit.Below.drewN {B : Nat} {a w : World} (h : Below B a w) (n : Nat) : Below B a (w.drewN n) := ⟨h.os, h.tape, h.output, h.size, h.block⟩
theorem _root_.Go.RowKit.Below.al {w W : World} (h : Below w.heap.size w W) (o : Obj) : Below w.heap.size w (W.alloc o) := h.alloc h.size o
section
variable {P : Program} {ops : Array Oper} {Q : Exit → Act → World → Prop} {a : Act} {w w' : World} {rest : List Oper} {dst : Option Tmp} {T : TypeId} {x i y : Operand} {ok : Bool} {ty : TypeId} {pos : String} {after : Array Edge}
theorem wpList_val {o : Oper} {v : Value} (hg : o.guard = none) (hrun : (execOp a.eval o).run P w = .ok (.value v) w') (h : wpList P ops Q rest (a.put o.dst v) w') : wpList P ops Q (o :: rest) a w := by
  refine wpList_plain hg fun K hK => ?_
  unfold Oper.wp
  rw [hrun]
  exact hK _ _ h
theorem wpList_lookup (vx vi v : Value) (hx : a.eval x = vx) (hi : a.eval i = vi) (hrun : (Instr.lookup T vx vi ok).run P w = .ok v w') (h : wpList P ops Q rest (a.put dst v) w') :
    wpList P ops Q ({ dst, op := .lookup T x i ok, type := ty, pos, after, guard := none } :: rest) a w := by
  refine wpList_val rfl ?_ h
  show (do pure (Next.value (← Instr.lookup T (a.eval x) (a.eval i) ok)) : Sem Next).run P w = _
  rw [hx, hi]; simp [go_sem, hrun]
theorem wpList_mapUpdate (vx vi vy : Value) (hx : a.eval x = vx) (hi : a.eval i = vi) (hy : a.eval y = vy) (hrun : (Instr.mapUpdate T vx vi vy).run P w = .ok () w') (h : wpList P ops Q rest (a.put dst undef) w') :
    wpList P ops Q ({ dst, op := .mapUpdate T x i y, type := ty, pos, after, guard := none } :: rest) a w := by
  refine wpList_plain rfl fun K hK => ?_
  have : (execOp a.eval { dst, op := .mapUpdate T x i y, type := ty, pos, after, guard := none }).run P w = .ok .skip w' := by
    show (do Instr.mapUpdate T (a.eval x) (a.eval i) (a.eval y); pure Next.skip).run P w = _
    rw [hx, hi, hy]; simp [go_sem, hrun]
  unfold Oper.wp
  rw [this]
  exact hK _ _ h
theorem wpList_mapEntry (vx vi v : Value) (hx : a.eval x = vx) (hi : a.eval i = vi) (hrun : (Instr.mapEntry T vx vi).run P w = .ok v w') (h : wpList P ops Q rest (a.put dst v) w') :
    wpList P ops Q ({ dst, op := .mapEntry T x i, type := ty, pos, after, guard := none } :: rest) a w := by
  refine wpList_val rfl ?_ h
  show (do pure (Next.value (← Instr.mapEntry T (a.eval x) (a.eval i))) : Sem Next).run P w = _
  rw [hx, hi]; simp [go_sem, hrun]
theorem wpList_entryStore (vx vi vy : Value) (hx : a.eval x = vx) (hi : a.eval i = vi) (hy : a.eval y = vy) (hrun : (Instr.entryStore T vx vi vy).run P w = .ok () w') (h : wpList P ops Q rest (a.put dst undef) w') :
    wpList P ops Q ({ dst, op := .entryStore T x i y, type := ty, pos, after, guard := none } :: rest) a w := by
  refine wpList_plain rfl fun K hK => ?_
  have : (execOp a.eval { dst, op := .entryStore T x i y, type := ty, pos, after, guard := none }).run P w = .ok .skip w' := by
    show (do Instr.entryStore T (a.eval x) (a.eval i) (a.eval y); pure Next.skip).run P w = _
    rw [hx, hi, hy]; simp [go_sem, hrun]
  unfold Oper.wp
  rw [this]
  exact hK _ _ h
theorem wpList_append {ats : Array TypeId} (vx vi v : Value) (hx : a.eval x = vx) (hi : a.eval i = vi) (hrun : (Builtin.append_ ats ty #[vx, vi]).run P w = .ok v w') (h : wpList P ops Q rest (a.put dst v) w') :
    wpList P ops Q ({ dst, op := .call { callee := .builtin .append, args := #[x, i], argTypes := ats }, type := ty, pos, after, guard := none } :: rest) a w := by
  refine wpList_val rfl ?_ h
  rw [BigFrame.execOp_builtin, BigFrame.builtin_append]
  have : (#[x, i] : Array Operand).map a.eval = #[vx, vi] := by rw [List.map_toArray, List.map_cons, List.map_cons, List.map_nil, hx, hi]
  rw [this]
  show Sem.run P ((Builtin.append_ ats ty #[vx, vi]).bind fun v => Sem.pure (Next.value v)) w = _
  rw [Sem.run_bind', hrun]; rfl
theorem wpList_delete {ats : Array TypeId} (vx vi : Value) (hx : a.eval x = vx) (hi : a.eval i = vi) (hrun : (Builtin.delete_ ats ty #[vx, vi]).run P w = .ok (.tuple #[]) w') (h : wpList P ops Q rest (a.put dst (.tuple #[])) w') :
    wpList P ops Q ({ dst, op := .call { callee := .builtin .delete, args := #[x, i], argTypes := ats }, type := ty, pos, after, guard := none } :: rest) a w := by
  refine wpList_val rfl ?_ h
  rw [BigFrame.execOp_builtin, BigFrame.builtin_delete]
  have : (#[x, i] : Array Operand).map a.eval = #[vx, vi] := by rw [List.map_toArray, List.map_cons, List.map_cons, List.map_nil, hx, hi]
  rw [this]; simp [go_sem, hrun]
end
section
variable {κ α : Type} [DecidableEq κ] {P : Program} {K E T : TypeId} {ek : κ → Value} {ev : α → Value} {m : List (κ × α)}
theorem look_map (kl : KL P K ek) (hu : P.underlying T = some (.map K E)) {w W : World} {r : Option Nat} {h : Hl} {X : As} (hm : (mapP ek ev r m * X) h) (H : Has w h) (hW : Below w.heap.size w W) {z : α} (hz : ∀ w, (zeroValue E).run P w = .ok (ev z) w) (k : κ) (ok : Bool) :
    (Instr.lookup T (.map r) (ek k) ok).run P W = .ok (if ok then .tuple #[ev ((AL.get m k).getD z), .bool (AL.get m k).isSome] else ev ((AL.get m k).getD z)) W := by
  obtain ⟨x, y, d, rfl, hx, _⟩ := hm
  cases r with
  | none => obtain ⟨rfl, _⟩ := hx; rw [run_lookup_nil kl hu (hz W) k ok]; simp [AL.get_nil]
  | some b =>
    obtain ⟨es, c, hE, hp⟩ := hx
    have hb : w.heap[b]? = some (.map es c) := pts_get1 H.unL hp
    exact run_lookup kl hu ((hW.block b (Array.getElem?_eq_some_iff.1 hb).1).trans hb) hE (hz W) k ok
end
theorem mapP_some {κ α : Type} {ek : κ → Value} {ev : α → Value} {b : Nat} {m : List (κ × α)} {X : As} {h : Hl} (hm : (mapP ek ev (some b) m * X) h) : ∃ es c, Ents ek ev es c m ∧ (pts b (.map es c) * X) h := by
  obtain ⟨x, y, d, rfl, ⟨es, c, hE, hp⟩, hy⟩ := hm
  exact ⟨es, c, hE, x, y, d, rfl, hp, hy⟩
theorem mapP_mk {κ α : Type} {ek : κ → Value} {ev : α → Value} {b : Nat} {m : List (κ × α)} {X : As} {h : Hl} {es : Array MapEntry} {c : Nat} (hE : Ents ek ev es c m) (hm : (pts b (.map es c) * X) h) : (mapP ek ev (some b) m * X) h := by
  obtain ⟨x, y, d, rfl, hx, hy⟩ := hm
  exact ⟨x, y, d, rfl, ⟨es, c, hE, hx⟩, hy⟩
end Go.Sl
