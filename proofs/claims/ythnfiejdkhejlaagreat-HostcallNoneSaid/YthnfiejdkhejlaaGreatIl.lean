/- HostcallNone: on a nil heap every host call with valid arguments hands back ErrPlugin. -/
import Derived.Test.YthnfiejdkhejlaaGreatRows
import Derived.ProofKit
import Derived.OpenShut
import Derived.Test.YthnfiejdkhejlaaGreatJ13
set_option linter.all false
set_option maxRecDepth 100000
namespace Go.Proofs.YthnfiejdkhejlaaGreat
open Go.RowKit Go.Sl Go.Shelf Go.ChangeShapes Go.WideShapes Go.ChangeAt
theorem tmod_cases (c : Int) (h0 : 0 ≤ c) : c.tmod 11 = 0 ∨ c.tmod 11 = 1 ∨ c.tmod 11 = 2 ∨ c.tmod 11 = 3 ∨ c.tmod 11 = 4 ∨ c.tmod 11 = 5 ∨ c.tmod 11 = 6 ∨ c.tmod 11 = 7 ∨ c.tmod 11 = 8 ∨ c.tmod 11 = 9 ∨ c.tmod 11 = 10 := by
  rw [Int.tmod_eq_emod_of_nonneg h0]
  omega
theorem law_all (p c x0 x1 x2 x3 x4 : Int) (h0 : 0 ≤ c) (u0 : U64 x0) (u1 : U64 x1) (u2 : U64 x2) (u3 : U64 x3) (u4 : U64 x4) (w : World) :
    Calls Tryz.prog 7 #[.int .i64 p, .int .u8 c, .agg #[.int .u64 x0, .int .u64 x1, .int .u64 x2, .int .u64 x3, .int .u64 x4]] w fun e w' => e = .returned (.bool true) ∧ Below w.heap.size w w' := by
  rcases tmod_cases c h0 with h | h | h | h | h | h | h | h | h | h | h
  · exact law1 p c x0 x1 x2 x3 x4 u0 u1 u2 u3 u4 (by rw [h]; decide +kernel) w
  · exact law2 p c x0 x1 x2 x3 x4 u0 u1 u2 u3 u4 (by rw [h]; decide +kernel) w
  · exact law3 p c x0 x1 x2 x3 x4 u0 u1 u2 u3 u4 (by rw [h]; decide +kernel) w
  · exact law4 p c x0 x1 x2 x3 x4 u0 u1 u2 u3 u4 (by rw [h]; decide +kernel) w
  · exact law5 p c x0 x1 x2 x3 x4 u0 u1 u2 u3 u4 (by rw [h]; decide +kernel) w
  · exact law6 p c x0 x1 x2 x3 x4 u0 u1 u2 u3 u4 (by rw [h]; decide +kernel) w
  · exact law7 p c x0 x1 x2 x3 x4 u0 u1 u2 u3 u4 (by rw [h]; decide +kernel) w
  · exact law8 p c x0 x1 x2 x3 x4 u0 u1 u2 u3 u4 (by rw [h]; decide +kernel) w
  · exact law9 p c x0 x1 x2 x3 x4 u0 u1 u2 u3 u4 (by rw [h]; decide +kernel) w
  · exact law10 p c x0 x1 x2 x3 x4 u0 u1 u2 u3 u4 (by rw [h]; decide +kernel) w
  · exact law11 p c x0 x1 x2 x3 x4 u0 u1 u2 u3 u4 (by rw [h]; decide +kernel) w
theorem own24k : ownKnob Tryz.prog.godebug = none := by kernel_rfl
theorem u64_of_wf {x : Int} (h : (Lit.int .u64 x).wf = true) : U64 x := by
  simp [Lit.wf, IntKind.min, IntKind.max, IntKind.signed, IntKind.bits] at h
  exact ⟨by omega, by omega⟩
theorem u8_of_wf {x : Int} (h : (Lit.int .u8 x).wf = true) : 0 ≤ x ∧ x ≤ 255 := by
  simp [Lit.wf, IntKind.min, IntKind.max, IntKind.signed, IntKind.bits] at h
  exact ⟨by omega, by omega⟩
theorem cells5 : Tryz.prog.cellsOf 106 = 5 := by kernel_rfl
theorem cells1 : Tryz.prog.cellsOf 22 = 1 := by kernel_rfl
theorem list5 {α : Type} (l : List α) (h : l.length = 5) : ∃ a b c d e, l = [a, b, c, d, e] := by
  match l, h with
  | [a, b, c, d, e], _ => exact ⟨a, b, c, d, e, rfl⟩
/-- What stands behind the call, where nothing that came in holds a place in memory. -/
theorem post_none {H : Type} {enc : TypeId × Value → H} {P : Program} {f : Func} {s : ChangeSpec} {apart fresh handsOn again : Bool} {W W' : World} {args : Array Value} {v : Value} {ds gs : List (DataW H)} {before : List MemPlace}
    (hW : DataW.Whole enc P f.params.toList s.vars apart W args.toList ds gs before)
    (hres : ∀ (b : Nat) (sp : Nat → Bool) (hd : Bool), DataW.TrodAll enc P W' b sp hd f.resultTypes.toList (v.resultList f.resultTypes.size) (s.fn H (ds ++ gs)).results [])
    (hargs : ∀ sp : Nat → Bool, DataW.TrodAll enc P W' 0 sp true f.params.toList args.toList (s.fn H (ds ++ gs)).args [])
    (hvars : ∀ sp : Nat → Bool, DataW.TrodVars enc P W' sp s.vars (s.fn H (ds ++ gs)).vars [])
    (hps : before = []) (hk : W.keptBut W' (· ∈ before))
    (hok : ∀ (j : Nat) (t : TypeId) (r : Value), f.resultTypes[j]? = some t → (v.resultList f.resultTypes.size)[j]? = some r → Value.okWide P W' .any 0 t r) :
    s.post enc P f apart fresh handsOn again W args v W' := by
  subst hps
  refine ⟨ds, gs, [], [], [], [], hW, hres _ _ _, hargs _, hvars _, World.keptBut_mono (fun p hp => by simp at hp) hk, fun _ => ?_⟩
  obtain ⟨_, _, _, _, _, hz, hn⟩ := hW
  refine ⟨hok, _, _, ([] ++ []) ++ [], ⟨[] ++ [], [], trodAll_append (hargs _) (hres _ _ _), hvars _, rfl, ?_, ?_⟩, ?_⟩
  · intro b off hp; simp at hp
  · intro ha
    have := hn ha
    simp
  · intro p hp _; simp at hp
set_option maxHeartbeats 400000 in
theorem hostcallNone_lifted (os : Os) (started : os.Started) (H : Type) (enc : TypeId × Value → H) :
    ReturnsInHanded {} Tryz.checked os 7 .any (Rows.hostcallNoneSpec.pre6 enc Tryz.prog Tryz.f7 Rows.hostcallNoneRow.domain false) (Rows.hostcallNoneSpec.post enc Tryz.prog Tryz.f7 false true false false) := by
  refine returnsInHanded_of_change (C := Tryz.checked) own24k started (by kernel_rfl) Tryz.func7
    (ChangeSpec.witness6 (enc := enc) (C := Tryz.checked) false ⟨#[], #[.int .i64 0, .int .u8 0, .agg #[.int .u64 0, .int .u64 0, .int .u64 0, .int .u64 0, .int .u64 0]], []⟩ 8 (by kernel_rfl) (by kernel_rfl) (by kernel_rfl) (by kernel_rfl)) ?_
  intro W base args ds gs before hval0 hW _ _
  have hval : ∀ (j : Nat) t v, Tryz.f7.params[j]? = some t → args[j]? = some v → Value.okWide Tryz.prog W .any base t v := hval0
  have hW' := hW
  obtain ⟨p, q, hA0, hV, rfl, _, _⟩ := hW
  have hA : DataW.TrodAll enc Tryz.prog W 0 (fun _ => true) true Tryz.f7.params.toList args.toList ds p := hA0
  rw [Tryz.params7] at hA hval
  obtain ⟨v0, v1, v2, d0, d1, d2, p0, p1, p2, rfl, rfl, rfl, h0, h1, h2⟩ := trodAll_three hA
  obtain ⟨rfl, rfl⟩ := trodVars_none hV
  obtain ⟨xp, rfl, rfl, rfl, wp⟩ := open_int Tryz.underlying3 (hval 0 3 v0 rfl rfl) h0
  obtain ⟨xc, rfl, rfl, rfl, wc⟩ := open_int Tryz.underlying5 (hval 1 5 v1 rfl rfl) h1
  obtain ⟨cs, rfl, hsz, _⟩ : ∃ cs, v2 = .agg cs ∧ cs.size = Tryz.prog.cellsOf 106 ∧ Row.okWide Tryz.prog W .any base 106 cs := by
    have := hval 2 106 v2 rfl rfl
    simpa [Value.okWide, Tryz.underlying106] using this
  rw [cells5] at hsz
  obtain ⟨l⟩ := cs
  obtain ⟨c0, c1, c2, c3, c4, rfl⟩ := list5 l hsz
  obtain ⟨fuel, hf⟩ := h2
  obtain ⟨xs, m, rfl, hx, _, hxl, hy⟩ := DataW.trod_array Tryz.underlying106 hf
  obtain ⟨y0, y1, y2, y3, y4, rfl⟩ := list5 xs hxl
  have hy0 := hy 0 (by decide)
  have hy1 := hy 1 (by decide)
  have hy2 := hy 2 (by decide)
  have hy3 := hy 3 (by decide)
  have hy4 := hy 4 (by decide)
  simp only [cells1, Value.cells] at hy0 hy1 hy2 hy3 hy4
  obtain ⟨x0, e0, rfl, w0⟩ := DataW.trod_int Tryz.underlying22 hy0
  obtain ⟨x1, e1, rfl, w1⟩ := DataW.trod_int Tryz.underlying22 hy1
  obtain ⟨x2, e2, rfl, w2⟩ := DataW.trod_int Tryz.underlying22 hy2
  obtain ⟨x3, e3, rfl, w3⟩ := DataW.trod_int Tryz.underlying22 hy3
  obtain ⟨x4, e4, rfl, w4⟩ := DataW.trod_int Tryz.underlying22 hy4
  simp at e0 e1 e2 e3 e4
  subst e0 e1 e2 e3 e4
  simp only [Prod.mk.injEq] at hx
  obtain ⟨rfl, rfl⟩ := hx
  clear hA0 hval0
  have hc := u8_of_wf wc
  refine (law_all xp xc x0 x1 x2 x3 x4 hc.1 (u64_of_wf w0) (u64_of_wf w1) (u64_of_wf w2) (u64_of_wf w3) (u64_of_wf w4) W).mono fun e W' ⟨he, hg⟩ => ?_
  subst he
  have rdA : ∀ sp : Nat → Bool, DataW.Trod enc Tryz.prog W' 0 sp true 106 (.agg #[.int .u64 x0, .int .u64 x1, .int .u64 x2, .int .u64 x3, .int .u64 x4]) (DataW.agg [.lit (.int .u64 x0), .lit (.int .u64 x1), .lit (.int .u64 x2), .lit (.int .u64 x3), .lit (.int .u64 x4)]) [] := fun sp => ⟨2, by simp [DataW.trod, Value.cells, Tryz.underlying106, Tryz.underlying22, cells5, cells1, w0, w1, w2, w3, w4, show List.range 5 = [0, 1, 2, 3, 4] from rfl]⟩
  exact ⟨_, rfl, post_none hW' (fun _ _ _ => trodAll_mk1 (shut_bool Tryz.underlying4 _)) (fun sp => trodAll_mk3 (shut_int Tryz.underlying3 wp) (shut_int Tryz.underlying5 wc) (rdA sp)) (fun _ => rfl) rfl
    (hg.frame _) (ok_one (by kernel_rfl) rfl (okWide_bool_mk Tryz.underlying4 _))⟩
theorem hostcallNone_holds : Rows.HostcallNoneSaid :=
  OpenClaim.holds_of_wide 7 Tryz.f7 rfl rfl rfl rfl rfl rfl rfl ⟨rfl, rfl, rfl, rfl, rfl⟩ rfl rfl rfl rfl rfl (by kernel_rfl) Tryz.func7 (by kernel_rfl)
    (of_decide_eq_true (by kernel_rfl)) (by unfold Func.isWrapper; first | (rw [if_pos (by decide +kernel)]; kernel_rfl) | (rw [if_neg (by decide +kernel)]; exact ⟨rfl, rfl⟩))
    (fun os started H enc _ => hostcallNone_lifted os started H enc)
end Go.Proofs.YthnfiejdkhejlaaGreat
