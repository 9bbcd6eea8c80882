/- Package heap: Define, Start. -/
import Derived.Test.YthnfiejdkhejlaaGreatJ09
set_option linter.all false
set_option maxRecDepth 100000
namespace Go.Proofs.YthnfiejdkhejlaaGreat
open Go.RowKit Go.Sl Go.Shelf
set_option maxHeartbeats 800000 in
theorem Define_st (bh : Nat) (s : Hs) (t : Ty) (v : Value) {w W : World} {h : Hl} {X : As} (S : St w h W (Hp bh s * X)) (hR : Rv W 2 v t.fs.length (t.fs.flatMap fenc)) (hm : s.ts.length ≤ 255) (hf : ∀ t ∈ s.ts, t.fs.length ≤ 1000) (hl : t.fs.length ≤ 1000000) :
    Calls Tryz.prog 10 #[.pointer (some ⟨bh, 0, none⟩), .agg #[.int .i64 t.len, v]] W fun e w' => e = .returned (.tuple #[.int .i64 (regT s.ts t).1.1, .int .i64 (regT s.ts t).1.2]) ∧ St w h w' (Hp bh { s with ts := (regT s.ts t).2 } * X) := by
  obtain ⟨bA, bp, bt, bl, bm, bg, b7, S⟩ := Hp.open S
  obtain ⟨ad, cp, rfl⟩ := hR.form
  have S0 := S.alloc (.cells #[.int .i64 t.len, .slice ad t.fs.length cp] 27)
  have hR0 := hR.below ((Below.refl W.heap.size W).al (.cells #[.int .i64 t.len, .slice ad t.fs.length cp] 27))
  have hre := fun {W' X'} (B : Below (W.alloc (.cells #[.int .i64 t.len, .slice ad t.fs.length cp] 27)).heap.size (W.alloc (.cells #[.int .i64 t.len, .slice ad t.fs.length cp] 27)) W') (s' : St w h W' (Reg bp s.ts * X')) => Register_st bp s.ts t (.slice ad t.fs.length cp) s' (hR0.below B) hm hf hl
  clear hR hR0 hm hf hl S
  generalize (regT s.ts t) = rt at *
  go_enter Tryz.func10, Tryz.ntmps10
  go_upto_region 1 with fail
  generalize W.alloc _ = W0 at *
  generalize W.heap.size = q at S0 ⊢
  have hb := S0.b2.blk
  have hwk := works_any bh bA bp bt bl bm bg b7 W0 hb
  go_upto_region 6 with (go_at_call 47; refine hwk.mono ?_; clear hwk; rintro e w1 ⟨rfl, rfl⟩)
  have hq := S0.blk
  have g0 := bcells hq 0
  have g1 := bcells hq 1
  have g2 := bcells hb 1
  refine wp_region_sb [(0, 0), (0, 1), (0, 2), (1, 3), (1, 4), (2, 5), (0, 6), (0, 7), (0, 8), (0, 9)]  (by kernel_rfl) (by kernel_rfl) (fun V BV => ?_)
  repeat (first | (refine sch_q0 (by rfl) ?_; go_big_quiet_step (fail); refine wpQuiet_nil ?_) | (refine sch_q1 (by rfl) ?_; go_big_quiet_step (fail); refine wpQuiet_nil ?_))
  refine sch_e2 (by rfl) ?_
  have hr := hre BV (S0.below BV).b4
  go_wp2_with fail
  refine hr.mono ?_
  clear hr hre
  rintro e w2 ⟨rfl, S2⟩
  go_wp2_with fail
  refine onlyN_mk ?_
  repeat (first | (refine sch_q0 (by rfl) ?_; go_big_quiet_step (fail); refine wpQuiet_nil ?_) | (refine sch_q1 (by rfl) ?_; go_big_quiet_step (fail); refine wpQuiet_nil ?_))
  refine sch_nil ?_
  go_wp2
  go_ret2
  refine ⟨rfl, Hp.mk (bA := bA) (bp := bp) (bt := bt) (bl := bl) (bm := bm) (bg := bg) (b7 := b7) ?_⟩
  exact S2.b2.drop.eq (by dsimp only; ac_rfl)
theorem Start_st (bh : Nat) (s : Hs) (p : Int) (hp : 1 ≤ p ∧ p ≤ 64) (hn : AL.get s.st p = none) (hf : s.lg.fit) {w W : World} {h : Hl} {X : As} (S : St w h W (Hp bh s * X)) :
    Calls Tryz.prog 15 #[.pointer (some ⟨bh, 0, none⟩), .int .i64 p] W fun e w' => e = .returned (.int .i64 0) ∧ St w h w' (Hp bh { s with st := AL.set s.st p true, lg := s.lg.add ⟨p, 32, 0, 0, 0⟩ } * X) := by
  obtain ⟨bA, bp, bt, bl, bm, bg, b7, S⟩ := Hp.open S
  have hir := inRange_any p 1 64 W
  rw [decide_eq_true hp] at hir
  have hb := S.blk
  have hwk := works_any bh bA bp bt bl bm bg b7 W hb
  have S0 := S.eq (show _ = stAs b7 s.st * (pts bh (hpObj bA bp bt bl bm bg b7) * (Lg bg s.lg * (Ar bA s.fr s.tk s.bs * (Reg bp s.ts * (s.tb.as bt * (Ld bl s.ld * (s.mt.as bm * X))))))) from by ac_rfl)
  have hlk := S0.look (P := Tryz.prog) (T := 38) klI Tryz.underlying38 zeroB p true W (Below.refl _ _)
  rw [if_pos rfl, hn] at hlk
  obtain ⟨W9, hrun, S9⟩ := S0.upd (P := Tryz.prog) (T := 38) klI Tryz.underlying38 p true
  have hap := fun {w W h X} (s' : St w h W (Lg bg s.lg * X)) => Append_free bg s.lg ⟨p, 32, 0, 0, 0⟩ ⟨hp.1, hp.2, .inr (.inl rfl), ⟨Int.le_refl 0, (by decide : (0:Int) < 18446744073709551616)⟩, ⟨Int.le_refl 0, (by decide : (0:Int) < 18446744073709551616)⟩, Int.le_refl 0, (by decide : (0:Int) ≤ 29)⟩ hf rfl s'
  have S9 : St w h W9 (stAs b7 (AL.set s.st p true) * _) := S9
  have ha9 := hap S9.b3
  have c6 := blk_cell hb 6
  have d5 := blk_cell S9.b2.blk 5
  have d6 := blk_cell S9.b2.blk 6
  clear hap S9 S0 hf hn hp S hb
  go_enter Tryz.func15, Tryz.ntmps15
  go_wp2_with (first | (go_at_call 74; refine hir.mono ?_; rintro e w1 ⟨rfl, rfl⟩) | (go_at_call 47; refine hwk.mono ?_; clear hwk; rintro e w1 ⟨rfl, rfl⟩) | (at_lookup; refine wpList_lookup _ _ _ rfl rfl hlk ?_) | (at_mapUpdate; refine wpList_mapUpdate _ _ _ rfl rfl rfl hrun ?_) | (go_at_call 73; refine ha9.mono ?_; clear ha9; rintro e w2 ⟨rfl, S2⟩))
  go_ret
  refine ⟨rfl, Hp.mk (bA := bA) (bp := bp) (bt := bt) (bl := bl) (bm := bm) (bg := bg) (b7 := b7) ?_⟩
  exact S2.eq (by dsimp only; ac_rfl)
end Go.Proofs.YthnfiejdkhejlaaGreat
/- Package heap: act. -/
namespace Go.Proofs.YthnfiejdkhejlaaGreat
open Go.RowKit Go.Sl Go.Shelf
theorem Room_st (b : Nat) (l : Lm) (p : Int) {w W : World} {h : Hl} {X : As} (S : St w h W (Lg b l * X)) :
    Calls Tryz.prog 122 #[.pointer (some ⟨b, 0, none⟩), .int .i64 p] W fun e w' => e = .returned (.bool (decide ((AL.get l.recs p).getD 0 < l.cap))) ∧ Below W.heap.size W w' := by
  obtain ⟨a1, d1, a2, d2, r1, r2, S⟩ := Lg.open S
  exact Room_any b _ _ _ _ r1 p _ l.cap W S.blk (S.b4.lookP (P := Tryz.prog) (T := 228) klI Tryz.underlying228 zeroI p)
theorem act_nil (be f : Nat) (lb : Array Value) (ev : Evt) (w : World) (hb : w.heap[be]? = some (evObj ev)) :
    Calls Tryz.prog 50 #[.pointer none, .pointer (some ⟨be, 0, none⟩), .func (.func f) #[] lb] w fun e w' => e = .returned (.int .i64 15) ∧ w' = w := by
  have c0 := blk_cell hb 0
  go_enter Tryz.func50, Tryz.ntmps50
  go_wp2_with (go_at_call 16; refine (Alive_nil _ w).mono ?_; rintro e w1 ⟨rfl, rfl⟩)
  go_ret
  exact ⟨rfl, rfl⟩
theorem act_dead (bh be f : Nat) (lb : Array Value) (s : Hs) (ev : Evt) (ha : s.alive ev.p = false) {w W : World} {h : Hl} {X : As} (S : St w h W (Hp bh s * (pts be (evObj ev) * X))) :
    Calls Tryz.prog 50 #[.pointer (some ⟨bh, 0, none⟩), .pointer (some ⟨be, 0, none⟩), .func (.func f) #[] lb] W fun e w' => e = .returned (.int .i64 15) ∧ w' = W := by
  have hal := Alive_st bh s ev.p S
  rw [ha] at hal
  have c0 := blk_cell S.b2.blk 0
  clear S
  go_enter Tryz.func50, Tryz.ntmps50
  go_wp2_with (go_at_call 16; refine hal.mono ?_; rintro e w1 ⟨rfl, rfl⟩)
  go_ret
  exact ⟨rfl, rfl⟩
/-- What an operation's own part hands back. -/
def DoR (bh be : Nat) (ev : Evt) (w : World) (h : Hl) (Q : Int → Hs → Int → As → Prop) (e : Ending) (W : World) : Prop := ∃ er s' hd X', Q er s' hd X' ∧ e = .returned (.int .i64 er) ∧ St w h W (Hp bh s' * (pts be (evObj { ev with hd := hd }) * X'))
def ActR (bh be : Nat) (lg : Lm) (ev : Evt) (w : World) (h : Hl) (Q : Int → Hs → Int → As → Prop) (e : Ending) (W : World) : Prop := ∃ er s' hd X', Q er s' hd X' ∧ e = .returned (.int .i64 er) ∧ St w h W (Hp bh { s' with lg := lg.add { ev with hd := hd, err := er } } * (pts be (evObj { ev with hd := hd, err := er }) * X'))
set_option maxHeartbeats 800000 in
theorem act_rec (bh be f : Nat) (lb : Array Value) (s : Hs) (ev : Evt) (Q : Int → Hs → Int → As → Prop) (eg : ∀ args w, (callFunc f args).run Tryz.prog w = .ok (.enter f args) w)
    (ha : s.alive ev.p = true) (hop : (ev.op ≠ 3 ∧ ev.op ≠ 5) ∧ ev.op ≠ 32 ∧ ev.op ≠ 33) (hroom : (AL.get s.lg.recs ev.p).getD 0 < s.lg.cap) (hf : s.lg.fit) {w W : World} {h : Hl} {X : As}
    (hdo : ∀ W1, St w h W1 (Hp bh s * (pts be (evObj ev) * X)) → Calls Tryz.prog f lb W1 (DoR bh be ev w h Q))
    (hq : ∀ er s' hd X', Q er s' hd X' → s'.lg = s.lg ∧ ({ ev with hd := hd, err := er } : Evt).ok)
    (S : St w h W (Hp bh s * (pts be (evObj ev) * X))) :
    Calls Tryz.prog 50 #[.pointer (some ⟨bh, 0, none⟩), .pointer (some ⟨be, 0, none⟩), .func (.func f) #[] lb] W (ActR bh be s.lg ev w h Q) := by
  have hal := Alive_st bh s ev.p S
  rw [ha] at hal
  have hap := fun (e : Evt) (he : e.ok) (hc : e.cnt = true) (hpe : e.p = ev.p) {b w W h X} (s' : St w h W (Lg b s.lg * X)) => Append_cnt b s.lg e he hf hc (by rw [hpe]; exact hroom) s'
  have hcn : ev.cnt = true := decide_eq_true hop.2
  obtain ⟨bA, bp, bt, bl, bm, bg, b7, S0⟩ := Hp.open S
  have hb := S0.blk
  have he := S.b2.blk
  have c0 := blk_cell he 0
  have c1 := blk_cell he 1
  have h5 := blk_cell hb 5
  have hro := Room_st bg s.lg ev.p S0.b7
  rw [decide_eq_true hroom] at hro
  have d3 : (ev.op != 3) = true := by rw [bne_iff_ne]; exact hop.1.1
  have d5 : (ev.op != 5) = true := by rw [bne_iff_ne]; exact hop.1.2
  have HAP := Lib.hid hap
  have HQ := Lib.hid hq
  have HCN := Lib.hid hcn
  clear hop hroom hf ha hap hq hcn
  obtain ⟨p, op, hd0, ar, er0⟩ := ev
  simp only at *
  go_enter Tryz.func50, Tryz.ntmps50
  go_upto_region 8 with (first | (go_at_call 16; refine hal.mono ?_; rintro e w1 ⟨rfl, rfl⟩) | (go_at_call 122; refine hro.mono ?_; clear hro; rintro e w2 ⟨rfl, B2⟩))
  have hd := hdo w2 (S.below B2)
  clear hdo hal S0 hb he c0 c1 h5 S B2
  go_wp2_with fail
  refine hd.mono ?_
  clear hd
  rintro e w3 ⟨er, s', hdn, X', hQ, rfl, S3⟩
  obtain ⟨hlg, hok⟩ := HQ.out er s' hdn X' hQ
  have hee := S3.b2.blk
  have c4 := blk_cell hee 4
  have f4 := blk_free hee 4
  have S4 : St w h (w3.setCell ⟨be, 4, none⟩ (.int .i64 er)) (pts be (evObj ⟨p, op, hdn, ar, er⟩) * (Hp bh s' * X')) := S3.b2.set 4 (.int .i64 er)
  have HQ3 := Lib.hid hQ
  have HOK := Lib.hid hok
  have HLG := Lib.hid hlg
  clear hQ hok hlg HQ hee
  go_upto_region 11 with fail
  clear c4 f4 S3
  generalize World.setCell _ _ _ = w4 at *
  obtain ⟨bA, bp, bt, bl, bm, bg, b7, S5⟩ := Hp.open S4.b2
  have hbh := S5.blk
  have hee := S4.blk
  have g5 := bcells hbh 5
  have e0 := bcells hee 0
  have e1 := bcells hee 1
  have e2 := bcells hee 2
  have e3 := bcells hee 3
  have e4 := bcells hee 4
  refine wp_region_sb [(0, 0), (0, 1), (0, 2), (1, 3), (0, 4), (0, 5), (1, 6), (2, 7), (0, 8)] (by kernel_rfl) (by kernel_rfl) (fun V BV => ?_)
  repeat (first | (refine sch_q0 (by rfl) ?_; go_big_quiet_step (fail); refine wpQuiet_nil ?_) | (refine sch_q1 (by rfl) ?_; go_big_quiet_step (fail); refine wpQuiet_nil ?_))
  refine sch_e2 (by rfl) ?_
  have S6 := (S5.below BV).eq (show _ = Lg bg s.lg * (pts bh (hpObj bA bp bt bl bm bg b7) * (Ar bA s'.fr s'.tk s'.bs * (Reg bp s'.ts * (s'.tb.as bt * (Ld bl s'.ld * (s'.mt.as bm * (stAs b7 s'.st * (pts be (evObj ⟨p, op, hdn, ar, er⟩) * X')))))))) from by rw [HLG.out]; ac_rfl)
  have hcn : (⟨p, op, hdn, ar, er⟩ : Evt).cnt = true := HCN.out
  have ha := HAP.out ⟨p, op, hdn, ar, er⟩ HOK.out hcn rfl S6
  clear S6 S5 S4 hbh hee g5 e0 e1 e2 e3 e4 hcn
  go_wp2_with fail
  refine ha.mono ?_
  clear ha
  rintro e w5 ⟨rfl, S7⟩
  go_wp2_with fail
  refine onlyN_mk ?_
  repeat (first | (refine sch_q0 (by rfl) ?_; go_big_quiet_step (fail); refine wpQuiet_nil ?_) | (refine sch_q1 (by rfl) ?_; go_big_quiet_step (fail); refine wpQuiet_nil ?_))
  refine sch_nil ?_
  have S8 : St w h w5 (Hp bh { s' with lg := s.lg.add ⟨p, op, hdn, ar, er⟩ } * (pts be (evObj ⟨p, op, hdn, ar, er⟩) * X')) := Hp.mk (bA := bA) (bp := bp) (bt := bt) (bl := bl) (bm := bm) (bg := bg) (b7 := b7) (S7.eq (by dsimp only; ac_rfl))
  have hee := S8.b2.blk
  have e4 := blk_cell hee 4
  go_wp2
  go_ret
  exact ⟨er, s', hdn, X', HQ3.out, rfl, S8⟩
def ActG (bh be : Nat) (lg : Lm) (ev : Evt) (w : World) (h : Hl) (Q : Int → Hs → Int → As → Prop) (e : Ending) (W : World) : Prop := ∃ er s' hd X', Q er s' hd X' ∧ e = .returned (.int .i64 er) ∧ St w h W (Hp bh (if er = 0 then s' else { s' with lg := lg.add { ev with hd := hd, err := er } }) * (pts be (evObj { ev with hd := hd, err := er }) * X'))
set_option maxHeartbeats 800000 in
theorem act_get (bh be f : Nat) (lb : Array Value) (s : Hs) (ev : Evt) (Q : Int → Hs → Int → As → Prop) (eg : ∀ args w, (callFunc f args).run Tryz.prog w = .ok (.enter f args) w)
    (ha : s.alive ev.p = true) (hop : ev.op = 3 ∨ ev.op = 5) (hroom : (AL.get s.lg.recs ev.p).getD 0 < s.lg.cap) (hf : s.lg.fit) {w W : World} {h : Hl} {X : As}
    (hdo : ∀ W1, St w h W1 (Hp bh s * (pts be (evObj ev) * X)) → Calls Tryz.prog f lb W1 (DoR bh be ev w h Q))
    (hq : ∀ er s' hd X', Q er s' hd X' → s'.lg = s.lg ∧ ({ ev with hd := hd, err := er } : Evt).ok)
    (S : St w h W (Hp bh s * (pts be (evObj ev) * X))) :
    Calls Tryz.prog 50 #[.pointer (some ⟨bh, 0, none⟩), .pointer (some ⟨be, 0, none⟩), .func (.func f) #[] lb] W (ActG bh be s.lg ev w h Q) := by
  have hal := Alive_st bh s ev.p S
  rw [ha] at hal
  have hap := fun (e : Evt) (he : e.ok) (hc : e.cnt = true) (hpe : e.p = ev.p) {b w W h X} (s' : St w h W (Lg b s.lg * X)) => Append_cnt b s.lg e he hf hc (by rw [hpe]; exact hroom) s'
  have hcn : ev.cnt = true := decide_eq_true (by rcases hop with h | h <;> rw [h] <;> decide)
  obtain ⟨bA, bp, bt, bl, bm, bg, b7, S0⟩ := Hp.open S
  have hb := S0.blk
  have he := S.b2.blk
  have c0 := blk_cell he 0
  have c1 := blk_cell he 1
  have d35 : (ev.op != 3) = false ∨ (ev.op != 3) = true ∧ (ev.op != 5) = false := by
    rcases hop with h | h <;> rw [h] <;> decide
  have HAP := Lib.hid hap
  have HQ := Lib.hid hq
  have HCN := Lib.hid hcn
  clear hop hroom hf ha hap hq hcn
  obtain ⟨p, op, hd0, ar, er0⟩ := ev
  simp only at *
  have hdo2 := fun w2 B => hdo w2 (S.below B)
  clear hdo S0 hb S
  rcases d35 with d3 | ⟨d3, d5⟩
  all_goals
    go_enter Tryz.func50, Tryz.ntmps50
    go_upto_region 8 with (first | (go_at_call 16; refine hal.mono ?_; rintro e w1 ⟨rfl, rfl⟩))
    have hd := hdo2 w1 (Below.refl _ _)
    clear hdo2 hal he c0 c1
    go_wp2_with fail
    refine hd.mono ?_
    clear hd
    rintro e w3 ⟨er, s', hdn, X', hQ, rfl, S3⟩
    obtain ⟨hlg, hok⟩ := HQ.out er s' hdn X' hQ
    have hee := S3.b2.blk
    have c4 := blk_cell hee 4
    have f4 := blk_free hee 4
    have S4 : St w h (w3.setCell ⟨be, 4, none⟩ (.int .i64 er)) (pts be (evObj ⟨p, op, hdn, ar, er⟩) * (Hp bh s' * X')) := S3.b2.set 4 (.int .i64 er)
    have HQ3 := Lib.hid hQ
    have HOK := Lib.hid hok
    have HLG := Lib.hid hlg
    clear hQ hok hlg HQ hee
    by_cases h0 : er = 0
    · subst h0
      have c4' := blk_cell S4.blk 4
      go_wp2_with fail
      go_ret
      exact ⟨0, s', hdn, X', HQ3.out, rfl, by rw [if_pos rfl]; exact S4.b2⟩
    have q0 : (er == 0) = false := by rw [beq_eq_false_iff_ne]; exact h0
    have H0 := Lib.hid h0
    clear h0
    have c4' := blk_cell S4.blk 4
    go_upto_region 11 with fail
    clear c4 f4 S3 c4'
    generalize World.setCell _ _ _ = w4 at *
    obtain ⟨bA, bp, bt, bl, bm, bg, b7, S5⟩ := Hp.open S4.b2
    have hbh := S5.blk
    have hee := S4.blk
    have g5 := bcells hbh 5
    have e0 := bcells hee 0
    have e1 := bcells hee 1
    have e2 := bcells hee 2
    have e3 := bcells hee 3
    have e4 := bcells hee 4
    refine wp_region_sb [(0, 0), (0, 1), (0, 2), (1, 3), (0, 4), (0, 5), (1, 6), (2, 7), (0, 8)] (by kernel_rfl) (by kernel_rfl) (fun V BV => ?_)
    repeat (first | (refine sch_q0 (by rfl) ?_; go_big_quiet_step (fail); refine wpQuiet_nil ?_) | (refine sch_q1 (by rfl) ?_; go_big_quiet_step (fail); refine wpQuiet_nil ?_))
    refine sch_e2 (by rfl) ?_
    have S6 := (S5.below BV).eq (show _ = Lg bg s.lg * (pts bh (hpObj bA bp bt bl bm bg b7) * (Ar bA s'.fr s'.tk s'.bs * (Reg bp s'.ts * (s'.tb.as bt * (Ld bl s'.ld * (s'.mt.as bm * (stAs b7 s'.st * (pts be (evObj ⟨p, op, hdn, ar, er⟩) * X')))))))) from by rw [HLG.out]; ac_rfl)
    have hcn : (⟨p, op, hdn, ar, er⟩ : Evt).cnt = true := HCN.out
    have ha := HAP.out ⟨p, op, hdn, ar, er⟩ HOK.out hcn rfl S6
    clear S6 S5 S4 hbh hee g5 e0 e1 e2 e3 e4 hcn
    go_wp2_with fail
    refine ha.mono ?_
    clear ha
    rintro e w5 ⟨rfl, S7⟩
    go_wp2_with fail
    refine onlyN_mk ?_
    repeat (first | (refine sch_q0 (by rfl) ?_; go_big_quiet_step (fail); refine wpQuiet_nil ?_) | (refine sch_q1 (by rfl) ?_; go_big_quiet_step (fail); refine wpQuiet_nil ?_))
    refine sch_nil ?_
    have S8 : St w h w5 (Hp bh { s' with lg := s.lg.add ⟨p, op, hdn, ar, er⟩ } * (pts be (evObj ⟨p, op, hdn, ar, er⟩) * X')) := Hp.mk (bA := bA) (bp := bp) (bt := bt) (bl := bl) (bm := bm) (bg := bg) (b7 := b7) (S7.eq (by dsimp only; ac_rfl))
    have hee := S8.b2.blk
    have e4 := blk_cell hee 4
    go_wp2
    go_ret
    exact ⟨er, s', hdn, X', HQ3.out, rfl, by rw [if_neg H0.out]; exact S8⟩
end Go.Proofs.YthnfiejdkhejlaaGreat
/- borrow.Access by the owner of an object that is not lent; heap.resolve. -/
namespace Go.Sl
theorem St.b2' {w W : World} {h : Hl} {A B : As} (s : St w h W (A * (B * 1))) : St w h W (B * (A * 1)) := s.b2
end Go.Sl
namespace Go.Proofs.YthnfiejdkhejlaaGreat
open Go.RowKit Go.Sl Go.Shelf
theorem mode0_any (bl : Nat) (r1 : Value) (r2 : Option Nat) (o : Int) (w : World) (hb : w.heap[bl]? = some (.cells #[r1, .map r2] 237 (0,0)))
    (hlk : (Instr.lookup 228 (.map r2) (.int .i64 o) false).run Tryz.prog w = .ok (.int .i64 0) w) :
    Calls Tryz.prog 185 #[.pointer (some ⟨bl, 0, none⟩), .int .i64 o] w fun e w' => e = .returned (.int .i64 0) ∧ w' = w := by
  have c1 := blk_cell hb 1
  go_enter Tryz.func185, Tryz.ntmps185
  go_wp2_with (at_lookup; refine wpList_lookup _ _ _ rfl rfl hlk ?_)
  go_ret
  exact ⟨rfl, rfl⟩
theorem Access0_any (bl : Nat) (r1 : Value) (r2 : Option Nat) (o p ac : Int) (hac : 1 ≤ ac ∧ ac ≤ 4) (w : World) (hb : w.heap[bl]? = some (.cells #[r1, .map r2] 237 (0,0)))
    (hlk : (Instr.lookup 228 (.map r2) (.int .i64 o) false).run Tryz.prog w = .ok (.int .i64 0) w) :
    Calls Tryz.prog 137 #[.pointer (some ⟨bl, 0, none⟩), .int .i64 o, .int .i64 p, .bool true, .int .i64 ac] w fun e w' => e = .returned (.int .i64 0) ∧ w' = w := by
  have hm := mode0_any bl r1 r2 o w hb hlk
  have d1 : decide (ac < 1) = false := decide_eq_false (by omega)
  have d2 : decide (4 < ac) = false := decide_eq_false (by omega)
  clear hac hb hlk
  go_enter Tryz.func137, Tryz.ntmps137
  go_wp2_with (go_at_call 185; refine hm.mono ?_; rintro e w1 ⟨rfl, rfl⟩)
  go_ret
  exact ⟨rfl, rfl⟩
def entObj (e : Ent) : Obj := .cells #[.int .u64 e.hd, .int .i64 e.owner, .int .i64 e.tag, .int .i64 e.off, .int .i64 e.len] 128 (0,0)
structure Tb.fit (t : Tb) : Prop where
  m : t.s.sl.length ≤ 1048576
  en : t.en.length = t.s.sl.length
set_option maxHeartbeats 800000 in
theorem resolve_own (bh : Nat) (s : Hs) (x p ac : Int) (hx : U64 x) (ht : s.tb.fit) (hac : 1 ≤ ac ∧ ac ≤ 4) (hr : (s.tb.res x).2 = 0) (ho : (s.tb.res x).1.owner = p) (hl : (AL.get s.ld.obj (x % 16777216)).getD 0 = 0) {w W : World} {h : Hl} {X : As} (S : St w h W (Hp bh s * X)) :
    Calls Tryz.prog 64 #[.pointer (some ⟨bh, 0, none⟩), .int .i64 p, .int .u64 x, .int .i64 ac] W fun e w' => e = .returned (.tuple #[(s.tb.res x).1.v, .int .i64 0]) ∧ Below W.heap.size W w' := by
  have HB1 := Lib.hid ((Below.refl W.heap.size W).al (entObj Ent.z))
  obtain ⟨bA, bp, bt, bl, bm, bg, b7, S0⟩ := Hp.open (S.below HB1.out)
  have T0 := (S1' W).alloc (entObj Ent.z)
  have hrs := fun {W X} (S : St w h W (s.tb.as bt * X)) => Rd.st (Resolve_rd bt s.tb x hx ht.m ht.en) S
  rw [hr] at hrs
  have hsl := fun w => Slot_any x hx w
  have hla := fun {r1 r2 W X} (S : St w h W (pts bl (.cells #[.map r1, .map r2] 237 (0,0)) * (mapP kB Bw.v r1 s.ld.bor * (mI r2 s.ld.obj * X)))) =>
    Access0_any bl (.map r1) r2 (x % 16777216) p ac hac W S.blk (by have := S.b3.lookP (P := Tryz.prog) (T := 228) klI Tryz.underlying228 zeroI (x % 16777216) W (Below.refl _ _); rwa [hl] at this)
  generalize hre : (s.tb.res x).1 = re at *
  obtain ⟨ehd, eow, etg, eof, eln⟩ := re
  simp only [Ent.v] at *
  subst ho
  clear hac hr hl ht hx S hre
  go_enter Tryz.func64, Tryz.ntmps64
  go_upto_region 1 with fail
  change Code.wp _ _ _ _ (W.alloc (entObj Ent.z))
  generalize W.alloc _ = W1 at *
  generalize W.heap.size = b8 at T0 ⊢
  have hb := S0.blk
  have c2 := blk_cell hb 2
  have H1 := hrs S0.b4
  go_wp2_with fail
  refine H1.mono ?_
  clear H1 hrs
  rintro e w2 ⟨rfl, B2⟩
  have T1 := (T0.below B2).alloc (entObj ⟨ehd, eow, etg, eof, eln⟩)
  have S1 := (S0.below B2).skip (entObj ⟨ehd, eow, etg, eof, eln⟩)
  clear c2 hb S0 T0
  go_upto_region 3 with fail
  change Code.wp _ _ _ _ (w2.alloc (entObj ⟨ehd, eow, etg, eof, eln⟩))
  generalize w2.alloc _ = W3 at *
  generalize w2.heap.size = b10 at *
  have g3 := bcells S1.blk 3
  have g1 := bcells T1.blk 1
  refine wp_region_sb [(0, 0), (0, 1), (0, 2), (1, 3), (0, 4), (0, 6), (0, 7), (1, 8), (0, 9), (0, 10), (0, 11), (3, 5), (2, 12), (0, 13)] (by kernel_rfl) (by kernel_rfl) (fun V BV => ?_)
  repeat (first | (refine sch_q0 (by rfl) ?_; go_big_quiet_step (fail); refine wpQuiet_nil ?_) | (refine sch_q1 (by rfl) ?_; go_big_quiet_step (fail); refine wpQuiet_nil ?_))
  refine sch_e3 (by rfl) ?_
  go_wp2_with (go_at_call 89; refine (hsl _).mono ?_; clear hsl; rintro e w4 ⟨rfl, rfl⟩)
  refine onlyN_mk ⟨BV, ?_⟩
  repeat (first | (refine sch_q0 (by rfl) ?_; go_big_quiet_step (fail); refine wpQuiet_nil ?_) | (refine sch_q1 (by rfl) ?_; go_big_quiet_step (fail); refine wpQuiet_nil ?_))
  refine sch_e2 (by rfl) ?_
  obtain ⟨r1, r2, S2⟩ := Ld.open (S1.below BV).b5
  have H4 := hla S2
  have T2 := T1.below BV
  clear S2 S1 T1 hla g3 g1
  go_wp2_with (go_at_call 137; refine H4.mono ?_; clear H4; rintro e w5 ⟨rfl, rfl⟩)
  refine onlyN_mk ?_
  repeat (first | (refine sch_q0 (by rfl) ?_; go_big_quiet_step (fail); refine wpQuiet_nil ?_) | (refine sch_q1 (by rfl) ?_; go_big_quiet_step (fail); refine wpQuiet_nil ?_))
  refine sch_nil ?_
  have hb10 := T2.blk
  have hb8 := T2.b2'.blk
  have c0 := blk_cell hb10 0
  have c1 := blk_cell hb10 1
  have c2 := blk_cell hb10 2
  have c3 := blk_cell hb10 3
  have c4 := blk_cell hb10 4
  have d0 := blk_cell hb8 0
  have d1 := blk_cell hb8 1
  have d2 := blk_cell hb8 2
  have d3 := blk_cell hb8 3
  have d4 := blk_cell hb8 4
  have f0 := blk_free hb8 0
  have f1 := blk_free hb8 1
  have f2 := blk_free hb8 2
  have f3 := blk_free hb8 3
  have f4 := blk_free hb8 4
  have T3 := ((((T2.b2'.set 0 (.int .u64 ehd)).set 1 (.int .i64 eow)).set 2 (.int .i64 etg)).set 3 (.int .i64 eof)).set 4 (.int .i64 eln)
  clear T2
  have T3 := (show St W Hl.emp (((((w5.setCell ⟨b8, 0, none⟩ (.int .u64 ehd)).setCell ⟨b8, 1, none⟩ (.int .i64 eow)).setCell ⟨b8, 2, none⟩ (.int .i64 etg)).setCell ⟨b8, 3, none⟩ (.int .i64 eof)).setCell ⟨b8, 4, none⟩ (.int .i64 eln)) (pts b8 (entObj ⟨ehd, eow, etg, eof, eln⟩) * _) from T3)
  go_wp2_with fail
  generalize World.setCell _ _ _ = W12 at *
  have hb12 := T3.blk
  have p0 := blk_cell hb12 0
  have p1 := blk_cell hb12 1
  have p2 := blk_cell hb12 2
  have p3 := blk_cell hb12 3
  have p4 := blk_cell hb12 4
  exact bodyPost_ret (v := .tuple #[.agg #[.int .u64 ehd, .int .i64 eow, .int .i64 etg, .int .i64 eof, .int .i64 eln], .int .i64 0]) (by simp [results, Tryz.results64, go_sem, p0, p1, p2, p3, p4]) rfl ⟨rfl, T3.below_all rfl⟩
end Go.Proofs.YthnfiejdkhejlaaGreat
/- Package heap: typeOf, sizeOf, within. (Printed by gentyp.py.) -/
namespace Go.Proofs.YthnfiejdkhejlaaGreat
open Go.RowKit Go.Sl Go.Shelf
def tyObj (len : Int) (v : Value) : Obj := .cells #[.int .i64 len, v] 27 (0,0)
set_option maxHeartbeats 800000 in
theorem typeOf_yes (bh : Nat) (s : Hs) (x : Ent) (k : Nat) (hk : k < s.ts.length) (htag : x.tag = k + 1) (hm : s.ts.length ≤ 1000) (hf : ∀ t ∈ s.ts, t.fs.length ≤ 1000) {w W : World} {h : Hl} {X : As} (S : St w h W (Hp bh s * X)) :
    Calls Tryz.prog 135 #[.pointer (some ⟨bh, 0, none⟩), .agg #[.int .u64 x.hd, .int .i64 x.owner, .int .i64 x.tag, .int .i64 x.off, .int .i64 x.len]] W fun e w' => ∃ ad cp, e = .returned (.agg #[.int .i64 s.ts[k].len, .slice ad s.ts[k].fs.length cp]) ∧
      Fresh W w' (rowAs 102 2 (.slice ad s.ts[k].fs.length cp) s.ts[k].fs.length (s.ts[k].fs.flatMap fenc)) := by
  have T0 := ((S1' W).alloc (entObj x)).alloc (tyObj 0 (.slice none 0 0))
  have S0 := (S.skip (entObj x)).skip (tyObj 0 (.slice none 0 0))
  obtain ⟨bA, bp, bt, bl, bm, bg, b7, S0⟩ := Hp.open S0
  have S0 := S0.b3
  have hlo := fun {w W h X} (S : St w h W (Reg bp s.ts * X)) => Lookup_yes bp s.ts k hk hm hf S
  rw [← htag] at hlo
  generalize s.ts[k] = tk at *
  obtain ⟨len, l⟩ := tk
  simp only at *
  clear hm hf htag hk S
  go_enter Tryz.func135, Tryz.ntmps135
  go_upto_region 1 with fail
  change Code.wp _ _ _ _ ((W.alloc (entObj x)).alloc (tyObj 0 (.slice none 0 0)))
  rw [World.size_alloc] at T0
  generalize (W.alloc (entObj x)).alloc _ = W1 at *
  generalize W.heap.size + 1 = b4 at *
  generalize W.heap.size = b3 at T0 ⊢
  have g2 := bcells T0.b2'.blk 2
  have g1 := bcells S0.b2.blk 1
  refine wp_region_tb (.fork [(0, 0), (0, 1), (0, 2), (1, 3), (0, 4), (1, 5)] 6 (.leaf [(0, 7), (0, 8), (0, 9), (3, 10), (3, 11), (0, 12)]) 10 (.leaf [(3, 6), (0, 7), (0, 8), (0, 9), (3, 11), (0, 12)])) (by kernel_rfl) (by kernel_rfl) (fun W0 B0 => ?_)
  have S0 := S0.below B0
  have T1 := T0.below B0
  clear T0
  refine tr_fork ?_
  repeat (first | (refine sch_q0 (by rfl) ?_; go_big_quiet_step (fail); refine wpQuiet_nil ?_) | (refine sch_q1 (by rfl) ?_; go_big_quiet_step (fail); refine wpQuiet_nil ?_))
  refine sch_nil ⟨?_, ?_⟩
  · refine sch_e3 (by rfl) ?_
    have H := hlo S0
    go_wp2_with (go_at_call 52; refine H.mono ?_; clear H hlo; rintro e w2 ⟨ad, cp, rfl, F2⟩)
    have B2 := B0.trans' F2.below
    have T2 := F2.st T1
    refine onlyN_mk ⟨B2, ?_⟩
    refine sch_nil ?_
    refine tr_leaf ?_
    repeat (first | (refine sch_q0 (by rfl) ?_; go_big_quiet_step (fail); refine wpQuiet_nil ?_) | (refine sch_q1 (by rfl) ?_; go_big_quiet_step (fail); refine wpQuiet_nil ?_))
    clear S0
    refine sch_e3 (by rfl) ?_
    have T3 := T2.alloc (tyObj 0 (.slice none 0 0))
    have B3 := B2.al (tyObj 0 (.slice none 0 0))
    go_wp2_with fail
    refine onlyN_mk ⟨B3, ?_⟩
    have hb5 : W1.heap.size ≤ w2.heap.size := B2.size
    change wpSch _ _ _ _ _ _ (w2.alloc (tyObj 0 (.slice none 0 0)))
    generalize w2.alloc _ = WV at *
    generalize w2.heap.size = b5 at *
    refine sch_e3 (by rfl) ?_
    have hx := T3.blk
    have k0 := blk_cell hx 0
    have k1 := blk_cell hx 1
    have m0 := blk_free hx 0
    have m1 := blk_free hx 1
    have T3 := (T3.set 0 (.int .i64 len)).set 1 (.slice ad l.length cp)
    have B4 : Below W1.heap.size W1 ((WV.setCell ⟨b5, 0, none⟩ (.int .i64 len)).setCell ⟨b5, 1, none⟩ (.slice ad l.length cp)) := (B3.setCell (p := ⟨b5, 0, none⟩) hb5 _).setCell (p := ⟨b5, 1, none⟩) hb5 _
    go_wp2_with fail
    refine onlyN_mk ⟨B4, ?_⟩
    repeat (first | (refine sch_q0 (by rfl) ?_; go_big_quiet_step (fail); refine wpQuiet_nil ?_) | (refine sch_q1 (by rfl) ?_; go_big_quiet_step (fail); refine wpQuiet_nil ?_))
    have T3 := (show St W Hl.emp ((WV.setCell ⟨b5, 0, none⟩ (.int .i64 len)).setCell ⟨b5, 1, none⟩ (.slice ad l.length cp)) (pts b5 (tyObj len (.slice ad l.length cp)) * (pts b4 (tyObj 0 (.slice none 0 0)) * (rowAs 102 2 (.slice ad l.length cp) l.length (l.flatMap fenc) * (pts b3 (entObj x) * 1)))) from T3.b3.b2)
    clear B4 B3 B2 hx k0 k1 m0 m1 F2
    generalize World.setCell _ _ _ = WW at *
    refine sch_nil ?_
    have c0 := blk_cell T3.blk 0
    have c1 := blk_cell T3.blk 1
    have d0 := blk_cell T3.b2.blk 0
    have d1 := blk_cell T3.b2.blk 1
    have f0 := blk_free T3.b2.blk 0
    have f1 := blk_free T3.b2.blk 1
    have T4 := (T3.b2.set 0 (.int .i64 len)).set 1 (.slice ad l.length cp)
    clear T3
    go_wp2_with fail
    have T5 := (show St W Hl.emp ((WW.setCell ⟨b4, 0, none⟩ (.int .i64 len)).setCell ⟨b4, 1, none⟩ (.slice ad l.length cp)) (pts b4 (tyObj len (.slice ad l.length cp)) * _) from T4)
    clear T4
    generalize World.setCell _ _ _ = W12 at *
    have hb12 := T5.blk
    have p0 := blk_cell hb12 0
    have p1 := blk_cell hb12 1
    exact bodyPost_ret (v := .agg #[.int .i64 len, .slice ad l.length cp]) (by simp [results, Tryz.results135, go_sem, p0, p1]) rfl ⟨ad, cp, rfl, Fresh.of_st (T5.drop.drop.b2.drop.m1)⟩
  · refine sch_e3 (by rfl) ?_
    have T2 := T1.alloc (tyObj 0 (.slice none 0 0))
    have B1 := B0.al (tyObj 0 (.slice none 0 0))
    go_wp2_with fail
    refine onlyN_mk ⟨B1, ?_⟩
    have S2 := S0.skip (tyObj 0 (.slice none 0 0))
    have hb5 : W1.heap.size ≤ W0.heap.size := B0.size
    clear S0 T1
    change wpSch _ _ _ _ _ _ (W0.alloc (tyObj 0 (.slice none 0 0)))
    generalize W0.alloc _ = WV at *
    generalize W0.heap.size = b5 at *
    refine sch_nil ?_
    refine tr_leaf ?_
    repeat (first | (refine sch_q0 (by rfl) ?_; go_big_quiet_step (fail); refine wpQuiet_nil ?_) | (refine sch_q1 (by rfl) ?_; go_big_quiet_step (fail); refine wpQuiet_nil ?_))
    refine sch_e3 (by rfl) ?_
    have H := hlo S2
    go_wp2_with (go_at_call 52; refine H.mono ?_; clear H hlo; rintro e w2 ⟨ad, cp, rfl, F2⟩)
    have B2 := B1.trans' F2.below
    have T3 := (F2.st T2).b2
    refine onlyN_mk ⟨B2, ?_⟩
    repeat (first | (refine sch_q0 (by rfl) ?_; go_big_quiet_step (fail); refine wpQuiet_nil ?_) | (refine sch_q1 (by rfl) ?_; go_big_quiet_step (fail); refine wpQuiet_nil ?_))
    clear S2 T2
    refine sch_e3 (by rfl) ?_
    have hx := T3.blk
    have k0 := blk_cell hx 0
    have k1 := blk_cell hx 1
    have m0 := blk_free hx 0
    have m1 := blk_free hx 1
    have T3 := (T3.set 0 (.int .i64 len)).set 1 (.slice ad l.length cp)
    have B4 : Below W1.heap.size W1 ((w2.setCell ⟨b5, 0, none⟩ (.int .i64 len)).setCell ⟨b5, 1, none⟩ (.slice ad l.length cp)) := (B2.setCell (p := ⟨b5, 0, none⟩) hb5 _).setCell (p := ⟨b5, 1, none⟩) hb5 _
    go_wp2_with fail
    refine onlyN_mk ⟨B4, ?_⟩
    repeat (first | (refine sch_q0 (by rfl) ?_; go_big_quiet_step (fail); refine wpQuiet_nil ?_) | (refine sch_q1 (by rfl) ?_; go_big_quiet_step (fail); refine wpQuiet_nil ?_))
    have T3 := (show St W Hl.emp ((w2.setCell ⟨b5, 0, none⟩ (.int .i64 len)).setCell ⟨b5, 1, none⟩ (.slice ad l.length cp)) (pts b5 (tyObj len (.slice ad l.length cp)) * (pts b4 (tyObj 0 (.slice none 0 0)) * (rowAs 102 2 (.slice ad l.length cp) l.length (l.flatMap fenc) * (pts b3 (entObj x) * 1)))) from T3.b3.b2)
    clear B4 B2 hx k0 k1 m0 m1 F2 B1
    generalize World.setCell _ _ _ = WW at *
    refine sch_nil ?_
    have c0 := blk_cell T3.blk 0
    have c1 := blk_cell T3.blk 1
    have d0 := blk_cell T3.b2.blk 0
    have d1 := blk_cell T3.b2.blk 1
    have f0 := blk_free T3.b2.blk 0
    have f1 := blk_free T3.b2.blk 1
    have T4 := (T3.b2.set 0 (.int .i64 len)).set 1 (.slice ad l.length cp)
    clear T3
    go_wp2_with fail
    have T5 := (show St W Hl.emp ((WW.setCell ⟨b4, 0, none⟩ (.int .i64 len)).setCell ⟨b4, 1, none⟩ (.slice ad l.length cp)) (pts b4 (tyObj len (.slice ad l.length cp)) * _) from T4)
    clear T4
    generalize World.setCell _ _ _ = W12 at *
    have hb12 := T5.blk
    have p0 := blk_cell hb12 0
    have p1 := blk_cell hb12 1
    exact bodyPost_ret (v := .agg #[.int .i64 len, .slice ad l.length cp]) (by simp [results, Tryz.results135, go_sem, p0, p1]) rfl ⟨ad, cp, rfl, Fresh.of_st (T5.drop.drop.b2.drop.m1)⟩
end Go.Proofs.YthnfiejdkhejlaaGreat
/- Package heap: sizeOf, within. -/
namespace Go.Proofs.YthnfiejdkhejlaaGreat
open Go.RowKit Go.Sl Go.Shelf
/-- What is asked of an entry: its tag names a type of the registry. -/
structure EntOk (s : Hs) (x : Ent) (t : Ty) : Prop where
  k : ∃ (k : Nat) (hk : k < s.ts.length), x.tag = k + 1 ∧ s.ts[k] = t
  m : s.ts.length ≤ 1000
  f : ∀ t ∈ s.ts, t.fs.length ≤ 1000
  c : chkT t.len t.fs = 0
theorem sizeOf_yes (bh : Nat) (s : Hs) (x : Ent) (t : Ty) (ok : EntOk s x t) {w W : World} {h : Hl} {X : As} (S : St w h W (Hp bh s * X)) :
    Calls Tryz.prog 138 #[.pointer (some ⟨bh, 0, none⟩), .agg #[.int .u64 x.hd, .int .i64 x.owner, .int .i64 x.tag, .int .i64 x.off, .int .i64 x.len]] W fun e w' => e = .returned (.int .i64 (tsize t.len t.fs)) ∧ Below W.heap.size W w' := by
  obtain ⟨⟨k, hk, htag, rfl⟩, hm, hf, hc⟩ := ok
  have hx := heap_alloc_new W (entObj x)
  have B0 := (Below.refl W.heap.size W).al (entObj x)
  have hto := typeOf_yes bh s x k hk htag hm hf (S.below B0)
  have hsz := fun v w (hR : Rv w 2 v s.ts[k].fs.length (s.ts[k].fs.flatMap fenc)) => Size_any' v s.ts[k].len s.ts[k].fs w hR hc
  generalize s.ts[k] = t at *
  obtain ⟨len, l⟩ := t
  simp only at *
  have HB0 := Lib.hid B0
  clear hm hf hc htag S B0
  go_enter Tryz.func138, Tryz.ntmps138
  go_upto_region 1 with fail
  change Code.wp _ _ _ _ (W.alloc (entObj x))
  generalize W.alloc _ = W1 at *
  generalize W.heap.size = b3 at hx ⊢
  have c0 := blk_cell hx 0
  have c1 := blk_cell hx 1
  have c2 := blk_cell hx 2
  have c3 := blk_cell hx 3
  have c4 := blk_cell hx 4
  go_wp2_with fail
  refine hto.mono ?_
  clear hto
  rintro e w2 ⟨ad, cp, rfl, F2⟩
  have H := hsz _ w2 F2.sst.one.rv
  have B2 := F2.below
  clear F2 hsz
  go_wp2_with fail
  refine H.mono ?_
  clear H
  rintro e w3 ⟨rfl, B3⟩
  go_wp2
  go_ret
  exact ⟨rfl, HB0.out.trans' (B2.trans' B3)⟩
theorem hwithin_yes (bh : Nat) (s : Hs) (x : Ent) (t : Ty) (off n : Int) (ok : EntOk s x t) (hn : 0 ≤ n) (hz : 0 ≤ tsize t.len t.fs ∧ tsize t.len t.fs ≤ 1048576) {w W : World} {h : Hl} {X : As} (S : St w h W (Hp bh s * X)) :
    Calls Tryz.prog 65 #[.pointer (some ⟨bh, 0, none⟩), .agg #[.int .u64 x.hd, .int .i64 x.owner, .int .i64 x.tag, .int .i64 x.off, .int .i64 x.len], .int .i64 off, .int .i64 n] W fun e w' => e = .returned (.bool (withinB off n (tsize t.len t.fs))) ∧ Below W.heap.size W w' := by
  have hx := heap_alloc_new W (entObj x)
  have B0 := (Below.refl W.heap.size W).al (entObj x)
  have hsz := sizeOf_yes bh s x t ok (S.below B0)
  have HB0 := Lib.hid B0
  generalize tsize t.len t.fs = z at *
  have hw : 0 ≤ off → n ≤ z → IntKind.i64.wrap (z - n) = z - n := fun _ _ => IntWalk.i64_in _ (by omega)
  have hlits : withinB off n z = true ∧ decide (0 ≤ off) = true ∧ decide (n ≤ z) = true ∧ decide (off ≤ z - n) = true ∧ IntKind.i64.wrap (z - n) = z - n ∨ withinB off n z = false ∧ decide (0 ≤ off) = false ∨ withinB off n z = false ∧ decide (0 ≤ off) = true ∧ decide (n ≤ z) = false ∨ withinB off n z = false ∧ decide (0 ≤ off) = true ∧ decide (n ≤ z) = true ∧ decide (off ≤ z - n) = false ∧ IntKind.i64.wrap (z - n) = z - n := by
    unfold withinB
    by_cases h1 : 0 ≤ off
    · by_cases h2 : n ≤ z
      · by_cases h3 : off ≤ z - n
        · exact .inl ⟨decide_eq_true ⟨h1, h2, h3⟩, decide_eq_true h1, decide_eq_true h2, decide_eq_true h3, hw h1 h2⟩
        · exact .inr (.inr (.inr ⟨decide_eq_false fun h => h3 h.2.2, decide_eq_true h1, decide_eq_true h2, decide_eq_false h3, hw h1 h2⟩))
      · exact .inr (.inr (.inl ⟨decide_eq_false fun h => h2 h.2.1, decide_eq_true h1, decide_eq_false h2⟩))
    · exact .inr (.inl ⟨decide_eq_false fun h => h1 h.1, decide_eq_false h1⟩)
  clear ok hn hz S B0 hw
  rcases hlits with ⟨q, d1, d2, d3, d4⟩ | ⟨q, d1⟩ | ⟨q, d1, d2⟩ | ⟨q, d1, d2, d3, d4⟩
  all_goals
    rw [q]
    clear q
    go_enter Tryz.func65, Tryz.ntmps65
    go_upto_region 1 with fail
    change Code.wp _ _ _ _ (W.alloc (entObj x))
    generalize W.alloc _ = W1 at *
    generalize W.heap.size = b3 at hx ⊢
    have c0 := blk_cell hx 0
    have c1 := blk_cell hx 1
    have c2 := blk_cell hx 2
    have c3 := blk_cell hx 3
    have c4 := blk_cell hx 4
    go_wp2_with fail
    refine hsz.mono ?_
    clear hsz
    rintro e w2 ⟨rfl, B2⟩
    clear c0 c1 c2 c3 c4 hx
    go_wp2
    go_ret
    exact ⟨rfl, HB0.out.trans' B2⟩
end Go.Proofs.YthnfiejdkhejlaaGreat
/- Package heap: Store$1. -/
namespace Go.Sl
theorem St.b8 {w W : World} {h : Hl} {A B C D E F G I J : As} (s : St w h W (A * (B * (C * (D * (E * (F * (G * (I * J))))))))) : St w h W (I * (A * (B * (C * (D * (E * (F * (G * J)))))))) := s.eq (by ac_rfl)
theorem St.b9 {w W : World} {h : Hl} {A B C D E F G I J K : As} (s : St w h W (A * (B * (C * (D * (E * (F * (G * (I * (J * K)))))))))) : St w h W (J * (A * (B * (C * (D * (E * (F * (G * (I * K))))))))) := s.eq (by ac_rfl)
end Go.Sl
namespace Go.Proofs.YthnfiejdkhejlaaGreat
open Go.RowKit Go.Sl Go.Shelf
abbrev bxH (b bh : Nat) : As := pts b (.cells #[.pointer (some ⟨bh, 0, none⟩)] 31 (0,0))
abbrev bxI (b : Nat) (x : Int) : As := pts b (.cells #[.int .i64 x] 3 (0,0))
abbrev bxU (b : Nat) (x : Int) : As := pts b (.cells #[.int .u64 x] 23 (0,0))
abbrev bxS (b : Nat) (v : Value) : As := pts b (.cells #[v] 49 (0,0))
/-- An object of p that p may use: what a word stands for. -/
structure Own (s : Hs) (x p : Int) (t : Ty) (e : Ent) (o m : Nat) : Prop where
  hx : U64 x
  fit : s.tb.fit
  r : s.tb.res x = (e, 0)
  ow : e.owner = p
  lent : (AL.get s.ld.obj (x % 16777216)).getD 0 = 0
  ok : EntOk s e t
  eo : e.off = o
  em : e.len = m
  tk : AL.get s.tk o = some (m : Int)
  m0 : 0 < m
  om : o + m ≤ s.bs.length
  n : s.bs.length ≤ 1048576
  sz : 0 ≤ tsize t.len t.fs ∧ tsize t.len t.fs ≤ m
theorem Own.res {s : Hs} {x p : Int} {t : Ty} {e : Ent} {o m : Nat} (ow : Own s x p t e o m) (bh : Nat) (ac : Int) (hac : 1 ≤ ac ∧ ac ≤ 4) {w W : World} {h : Hl} {X : As} (S : St w h W (Hp bh s * X)) :
    Calls Tryz.prog 64 #[.pointer (some ⟨bh, 0, none⟩), .int .i64 p, .int .u64 x, .int .i64 ac] W fun e' w' => e' = .returned (.tuple #[.agg #[.int .u64 e.hd, .int .i64 e.owner, .int .i64 e.tag, .int .i64 o, .int .i64 m], .int .i64 0]) ∧ Below W.heap.size W w' := by
  have := resolve_own bh s x p ac ow.hx ow.fit hac (by rw [ow.r]) (by rw [ow.r]; exact ow.ow) ow.lent S
  rw [ow.r] at this
  unfold Ent.v at this
  rw [ow.eo, ow.em] at this
  exact this
theorem Own.wi {s : Hs} {x p : Int} {t : Ty} {e : Ent} {o m : Nat} (ow : Own s x p t e o m) (bh : Nat) (off n : Int) (hn : 0 ≤ n) {w W : World} {h : Hl} {X : As} (S : St w h W (Hp bh s * X)) :
    Calls Tryz.prog 65 #[.pointer (some ⟨bh, 0, none⟩), .agg #[.int .u64 e.hd, .int .i64 e.owner, .int .i64 e.tag, .int .i64 o, .int .i64 m], .int .i64 off, .int .i64 n] W fun e w' => e = .returned (.bool (withinB off n (tsize t.len t.fs))) ∧ Below W.heap.size W w' := by
  have := hwithin_yes bh s e t off n ow.ok hn ⟨ow.sz.1, by have := ow.sz.2; have := ow.om; have := ow.n; omega⟩ S
  rw [ow.eo, ow.em] at this
  exact this
def Hs.wr (s : Hs) (a : Nat) (ss : List Nat) : Hs := { s with bs := patch s.bs a ss }
set_option maxHeartbeats 1600000 in
theorem Store1_out (bh be b1 b2 b3 b4 b5 : Nat) (s : Hs) (ev : Evt) (x p off : Int) (t : Ty) (e : Ent) (o m : Nat) (v : Value) (ss : List Nat) (ow : Own s x p t e o m) (hw : withinB off ss.length (tsize t.len t.fs) = false) {w W : World} {h : Hl} {X : As}
    (S : St w h W (Hp bh s * (pts be (evObj ev) * (bxH b1 bh * (bxI b2 p * (bxU b3 x * (bxI b4 off * (bxS b5 v * (rowAs 5 1 v ss.length (ss.map bv) * X))))))))) :
    Calls Tryz.prog 79 #[.pointer (some ⟨b1, 0, none⟩), .pointer (some ⟨b2, 0, none⟩), .pointer (some ⟨b3, 0, none⟩), .pointer (some ⟨b4, 0, none⟩), .pointer (some ⟨b5, 0, none⟩)] W
      fun e' W' => e' = .returned (.int .i64 7) ∧ St w h W' (Hp bh s * (pts be (evObj ev) * (bxH b1 bh * (bxI b2 p * (bxU b3 x * (bxI b4 off * (bxS b5 v * (rowAs 5 1 v ss.length (ss.map bv) * X)))))))) := by
  obtain ⟨adv, cpv, rfl⟩ := S.b8.form
  have hre := ow.res bh 2 (by decide) S
  have hwi := fun {w W h X} (S : St w h W (Hp bh s * X)) => ow.wi bh off ss.length (by omega) S
  rw [hw] at hwi
  have HW := Lib.hid hw
  have HOW := Lib.hid ow
  clear hw ow
  obtain ⟨ehd, eow, etg, eof, eln⟩ := e
  simp only at *
  have c1 := blk_cell S.b3.blk 0
  have c2 := blk_cell S.b4.blk 0
  have c3 := blk_cell S.b5.blk 0
  go_enter Tryz.func79, Tryz.ntmps79
  go_upto_region 1 with fail
  go_wp2_with fail
  refine hre.mono ?_
  clear hre
  rintro e w2 ⟨rfl, B2⟩
  have S2 := (S.below B2).alloc (entObj ⟨ehd, eow, etg, o, m⟩)
  go_upto_region 4 with fail
  change Code.wp _ _ _ _ (w2.alloc (entObj ⟨ehd, eow, etg, o, m⟩))
  generalize w2.alloc _ = W3 at *
  generalize w2.heap.size = b6 at *
  clear c1 c2 c3
  have c1 := blk_cell S2.b4.blk 0
  have c4 := blk_cell S2.b7.blk 0
  have c5 := blk_cell S2.b8.blk 0
  have e0 := blk_cell S2.blk 0
  have e1 := blk_cell S2.blk 1
  have e2 := blk_cell S2.blk 2
  have e3 := blk_cell S2.blk 3
  have e4 := blk_cell S2.blk 4
  have H := hwi S2.b2
  clear hwi
  go_wp2_with fail
  refine H.mono ?_
  clear H
  rintro e w4 ⟨rfl, B4⟩
  have S5 := (S2.below B4).drop
  go_wp2
  go_ret
  exact ⟨rfl, S5⟩
set_option maxHeartbeats 1600000 in
theorem Store1_in (bh be b1 b2 b3 b4 b5 : Nat) (s : Hs) (ev : Evt) (x p off : Int) (t : Ty) (e : Ent) (o m : Nat) (v : Value) (ss : List Nat) (ow : Own s x p t e o m) (of : Nat) (hof : off = of) (hw : withinB off ss.length (tsize t.len t.fs) = true) {w W : World} {h : Hl} {X : As}
    (S : St w h W (Hp bh s * (pts be (evObj ev) * (bxH b1 bh * (bxI b2 p * (bxU b3 x * (bxI b4 off * (bxS b5 v * (rowAs 5 1 v ss.length (ss.map bv) * X))))))))) :
    Calls Tryz.prog 79 #[.pointer (some ⟨b1, 0, none⟩), .pointer (some ⟨b2, 0, none⟩), .pointer (some ⟨b3, 0, none⟩), .pointer (some ⟨b4, 0, none⟩), .pointer (some ⟨b5, 0, none⟩)] W
      fun e' W' => e' = .returned (.int .i64 0) ∧ St w h W' (Hp bh (s.wr (o + of) ss) * (pts be (evObj ev) * (bxH b1 bh * (bxI b2 p * (bxU b3 x * (bxI b4 off * (bxS b5 v * (rowAs 5 1 v ss.length (ss.map bv) * X)))))))) := by
  subst hof
  obtain ⟨adv, cpv, rfl⟩ := S.b8.form
  have hre := ow.res bh 2 (by decide) S
  have hwi := fun {w W h X} (S : St w h W (Hp bh s * X)) => ow.wi bh of ss.length (by omega) S
  rw [hw] at hwi
  have HW := Lib.hid hw
  have HOW := Lib.hid ow
  clear hw ow
  obtain ⟨ehd, eow, etg, eof, eln⟩ := e
  simp only at *
  have c1 := blk_cell S.b3.blk 0
  have c2 := blk_cell S.b4.blk 0
  have c3 := blk_cell S.b5.blk 0
  go_enter Tryz.func79, Tryz.ntmps79
  go_upto_region 1 with fail
  go_wp2_with fail
  refine hre.mono ?_
  clear hre
  rintro e w2 ⟨rfl, B2⟩
  have S2 := (S.below B2).alloc (entObj ⟨ehd, eow, etg, o, m⟩)
  go_upto_region 4 with fail
  change Code.wp _ _ _ _ (w2.alloc (entObj ⟨ehd, eow, etg, o, m⟩))
  generalize w2.alloc _ = W3 at *
  generalize w2.heap.size = b6 at *
  clear c1 c2 c3
  have c1 := blk_cell S2.b4.blk 0
  have c4 := blk_cell S2.b7.blk 0
  have c5 := blk_cell S2.b8.blk 0
  have e0 := blk_cell S2.blk 0
  have e1 := blk_cell S2.blk 1
  have e2 := blk_cell S2.blk 2
  have e3 := blk_cell S2.blk 3
  have e4 := blk_cell S2.blk 4
  have H := hwi S2.b2
  clear hwi
  go_wp2_with fail
  refine H.mono ?_
  clear H
  rintro e w4 ⟨rfl, B4⟩
  have S5 := S2.below B4
  clear S2 c1 c4 c5 e0 e1 e2 e3 e4
  obtain ⟨bA, bp, bt, bl, bm, bg, b7, S6⟩ := Hp.open S5.b2
  have hwr := fun {W X} (S : St w h W (Ar bA s.fr s.tk s.bs * X)) (hR : Rv W 1 (.slice adv ss.length cpv) ss.length (ss.map bv)) => Write_yes bA s.fr s.tk s.bs o m of (.slice adv ss.length cpv) ss HOW.out.tk HOW.out.m0 HOW.out.om HOW.out.n (by
    have := HOW.out.sz; have := of_decide_eq_true HW.out; omega) S hR
  go_upto_region 6 with fail
  have g1 := bcells S5.b4.blk 0
  have g4 := bcells S5.b7.blk 0
  have g5 := bcells S5.b8.blk 0
  have k3 := bcells S5.blk 3
  have k4 := bcells S5.blk 4
  have gh := bcells S6.blk 0
  refine wp_region_sb [(1, 0), (0, 1), (0, 2), (1, 3), (0, 4), (1, 5), (1, 6), (1, 7), (2, 8), (0, 9)] (by kernel_rfl) (by kernel_rfl) (fun V BV => ?_)
  repeat (first | (refine sch_q0 (by rfl) ?_; go_big_quiet_step (fail); refine wpQuiet_nil ?_) | (refine sch_q1 (by rfl) ?_; go_big_quiet_step (fail); refine wpQuiet_nil ?_))
  refine sch_e2 (by rfl) ?_
  have H := hwr (S6.below BV).b2 (S5.b9.below BV).rv
  clear hwr g1 g4 g5 k3 k4 gh S5 S6
  go_wp2_with fail
  refine H.mono ?_
  clear H
  rintro e w5 ⟨rfl, S7⟩
  go_wp2_with fail
  refine onlyN_mk ?_
  repeat (first | (refine sch_q0 (by rfl) ?_; go_big_quiet_step (fail); refine wpQuiet_nil ?_) | (refine sch_q1 (by rfl) ?_; go_big_quiet_step (fail); refine wpQuiet_nil ?_))
  refine sch_nil ?_
  go_wp2
  go_ret
  refine ⟨rfl, ?_⟩
  have S8 := Hp.mk (s := s.wr (o + of) ss) (bA := bA) (bp := bp) (bt := bt) (bl := bl) (bm := bm) (bg := bg) (b7 := b7) S7.b2
  exact S8.b2.drop
end Go.Proofs.YthnfiejdkhejlaaGreat
/- Package heap: Store. -/
namespace Go.Sl
open Go.RowKit
theorem St.al5 {w W : World} {h : Hl} {A : As} (S : St w h W A) (o1 o2 o3 o4 o5 : Obj) : ∃ W0, W0 = ((((W.alloc o1).alloc o2).alloc o3).alloc o4).alloc o5 ∧
    St w h W0 (pts W.heap.size o1 * (pts (W.heap.size + 1) o2 * (pts (W.heap.size + 1 + 1) o3 * (pts (W.heap.size + 1 + 1 + 1) o4 * (pts (W.heap.size + 1 + 1 + 1 + 1) o5 * A))))) := by
  have S0 := ((((S.alloc o1).alloc o2).alloc o3).alloc o4).alloc o5
  simp only [World.size_alloc] at S0
  exact ⟨_, rfl, S0.eq (by ac_rfl)⟩
end Go.Sl
namespace Go.Proofs.YthnfiejdkhejlaaGreat
open Go.RowKit Go.Sl Go.Shelf
def u64i (x : Int) : Int := IntKind.u64.wrap x
theorem u64i_ok (x : Int) : U64 (u64i x) := u64_bd x
structure Live (s : Hs) (p : Int) : Prop where
  a : s.alive p = true
  p1 : 1 ≤ p ∧ p ≤ 64
  fit : s.lg.fit
  room : (AL.get s.lg.recs p).getD 0 < s.lg.cap
def Hs.log (s : Hs) (e : Evt) : Hs := { s with lg := s.lg.add e }
def stErr (b : Bool) : Int := match b with | true => 0 | false => 7
def stHs (b : Bool) (s : Hs) (p x off : Int) (a : Nat) (ss : List Nat) : Hs := match b with | true => (s.wr a ss).log ⟨p, 6, x, u64i off, 0⟩ | false => s.log ⟨p, 6, x, u64i off, 7⟩
set_option maxHeartbeats 1600000 in
theorem Store_own (bh : Nat) (s : Hs) (x p off : Int) (t : Ty) (e : Ent) (o m : Nat) (v : Value) (ss : List Nat) (ow : Own s x p t e o m) (lv : Live s p) {w W : World} {h : Hl} {X : As}
    (S : St w h W (Hp bh s * (rowAs 5 1 v ss.length (ss.map bv) * X))) :
    Calls Tryz.prog 19 #[.pointer (some ⟨bh, 0, none⟩), .int .i64 p, .int .u64 x, .int .i64 off, v] W fun e' W' => e' = .returned (.int .i64 (stErr (withinB off ss.length (tsize t.len t.fs)))) ∧
      St w h W' (Hp bh (stHs (withinB off ss.length (tsize t.len t.fs)) s p x off (o + off.toNat) ss) * (rowAs 5 1 v ss.length (ss.map bv) * X)) := by
  obtain ⟨adv, cpv, rfl⟩ := S.b2.form
  obtain ⟨W0, hW0, S0⟩ := S.al5 (.cells #[.pointer (some ⟨bh, 0, none⟩)] 31 (0,0)) (.cells #[.int .i64 p] 3 (0,0)) (.cells #[.int .u64 x] 23 (0,0)) (.cells #[.int .i64 off] 3 (0,0)) (.cells #[.slice adv ss.length cpv] 49 (0,0))
  have hlg : ({ p := p, op := 6, hd := x, arg := u64i off, err := 0 } : Evt).ok ∧ ({ p := p, op := 6, hd := x, arg := u64i off, err := 7 } : Evt).ok :=
    ⟨⟨lv.p1.1, lv.p1.2, .inl ⟨(by decide : (1:Int) ≤ 6), (by decide : (6:Int) ≤ 11)⟩, ow.hx, u64i_ok _, (by decide : (0:Int) ≤ 0), (by decide : (0:Int) ≤ 29)⟩, ⟨lv.p1.1, lv.p1.2, .inl ⟨(by decide : (1:Int) ≤ 6), (by decide : (6:Int) ≤ 11)⟩, ow.hx, u64i_ok _, (by decide : (0:Int) ≤ 7), (by decide : (7:Int) ≤ 29)⟩⟩
  have hact := fun {b1 b2 b3 b4 b5 be W} (S : St w h W (Hp bh s * (pts be (evObj ⟨p, 6, x, u64i off, 0⟩) * (bxH b1 bh * (bxI b2 p * (bxU b3 x * (bxI b4 off * (bxS b5 (.slice adv ss.length cpv) * (rowAs 5 1 (.slice adv ss.length cpv) ss.length (ss.map bv) * X))))))))) =>
    act_rec bh be 79 #[.pointer (some ⟨b1, 0, none⟩), .pointer (some ⟨b2, 0, none⟩), .pointer (some ⟨b3, 0, none⟩), .pointer (some ⟨b4, 0, none⟩), .pointer (some ⟨b5, 0, none⟩)] s ⟨p, 6, x, u64i off, 0⟩
      (fun er s' hd X' => hd = x ∧ X' = (bxH b1 bh * (bxI b2 p * (bxU b3 x * (bxI b4 off * (bxS b5 (.slice adv ss.length cpv) * (rowAs 5 1 (.slice adv ss.length cpv) ss.length (ss.map bv) * X)))))) ∧
        (withinB off ss.length (tsize t.len t.fs) = true ∧ er = 0 ∧ s' = s.wr (o + off.toNat) ss ∨ withinB off ss.length (tsize t.len t.fs) = false ∧ er = 7 ∧ s' = s))
      (enters_of Tryz.func79 (by kernel_rfl) rfl) lv.a ⟨⟨(by decide : (6:Int) ≠ 3), (by decide : (6:Int) ≠ 5)⟩, (by decide : (6:Int) ≠ 32), (by decide : (6:Int) ≠ 33)⟩ lv.room lv.fit
      (fun W1 S1 => by
        by_cases hw : withinB off ss.length (tsize t.len t.fs) = true
        · obtain ⟨of, hof⟩ : ∃ of : Nat, off = of := ⟨off.toNat, by have := of_decide_eq_true hw; omega⟩
          refine (Store1_in bh be b1 b2 b3 b4 b5 s ⟨p, 6, x, u64i off, 0⟩ x p off t e o m (.slice adv ss.length cpv) ss ow of hof hw S1).mono fun e' W' ⟨he, S'⟩ => ?_
          exact ⟨0, _, x, _, ⟨rfl, rfl, .inl ⟨hw, rfl, by rw [hof]; rfl⟩⟩, he, S'⟩
        · have hw : withinB off ss.length (tsize t.len t.fs) = false := by simpa using hw
          refine (Store1_out bh be b1 b2 b3 b4 b5 s ⟨p, 6, x, u64i off, 0⟩ x p off t e o m (.slice adv ss.length cpv) ss ow hw S1).mono fun e' W' ⟨he, S'⟩ => ?_
          exact ⟨7, _, x, _, ⟨rfl, rfl, .inr ⟨hw, rfl, rfl⟩⟩, he, S'⟩)
      (fun er s' hd X' ⟨h1, _, h3⟩ => by
        rcases h3 with ⟨_, h4, h5⟩ | ⟨_, h4, h5⟩
        · rw [h1, h4, h5]; exact ⟨rfl, hlg.1⟩
        · rw [h1, h4, h5]; exact ⟨rfl, hlg.2⟩) S
  have HP := Lib.hid (show withinB off ss.length (tsize t.len t.fs) = true ∨ withinB off ss.length (tsize t.len t.fs) = false from by cases withinB off ss.length (tsize t.len t.fs) <;> simp)
  clear ow lv hlg S
  go_enter Tryz.func19, Tryz.ntmps19
  go_upto_region 1 with fail
  rw [← hW0]
  clear hW0
  have S1 := S0.b6
  generalize W.heap.size + 1 + 1 + 1 + 1 = q5 at *
  generalize W.heap.size + 1 + 1 + 1 = q4 at *
  generalize W.heap.size + 1 + 1 = q3 at *
  generalize W.heap.size + 1 = q2 at *
  generalize W.heap.size = q1 at *
  have c1 := blk_cell S0.blk 0
  have c2 := blk_cell S0.b2.blk 0
  have c3 := blk_cell S0.b3.blk 0
  have c4 := blk_cell S0.b4.blk 0
  have S2 := (S1.alloc (evObj ⟨p, 6, x, u64i off, 0⟩)).b2
  have H := hact S2
  clear hact S0 S1 S2
  go_wp2_with fail
  refine H.mono ?_
  clear H c1 c2 c3 c4
  rintro e' w4 ⟨er, s', hd, X', ⟨rfl, rfl, hcase⟩, rfl, S4⟩
  have HC := Lib.hid hcase
  clear hcase
  have S5 := Lib.hid S4.b2.drop.b2.drop.b2.drop.b2.drop.b2.drop.b2.drop
  clear S4
  go_wp2
  go_ret
  have S5 := S5.out
  rcases HC.out with ⟨h1, rfl, rfl⟩ | ⟨h1, rfl, rfl⟩
  · rw [h1]; exact ⟨rfl, S5⟩
  · rw [h1]; exact ⟨rfl, S5⟩
end Go.Proofs.YthnfiejdkhejlaaGreat
/- Package heap: Load$1. -/
namespace Go.Proofs.YthnfiejdkhejlaaGreat
open Go.RowKit Go.Sl Go.Shelf
set_option maxHeartbeats 1600000 in
theorem Load1_out (bh be b1 b2 b3 b4 b5 b6 : Nat) (s : Hs) (ev : Evt) (x p off : Int) (t : Ty) (e : Ent) (o m n : Nat) (ow : Own s x p t e o m) (hw : withinB off n (tsize t.len t.fs) = false) {w W : World} {h : Hl} {X : As}
    (S : St w h W (Hp bh s * (pts be (evObj ev) * (bxH b1 bh * (bxI b2 p * (bxU b3 x * (bxI b4 n * (bxI b5 off * (bxS b6 (.slice none 0 0) * X))))))))) :
    Calls Tryz.prog 63 #[.pointer (some ⟨b1, 0, none⟩), .pointer (some ⟨b2, 0, none⟩), .pointer (some ⟨b3, 0, none⟩), .pointer (some ⟨b4, 0, none⟩), .pointer (some ⟨b5, 0, none⟩), .pointer (some ⟨b6, 0, none⟩)] W
      fun e' W' => e' = .returned (.int .i64 7) ∧ St w h W' (Hp bh s * (pts be (evObj ev) * (bxH b1 bh * (bxI b2 p * (bxU b3 x * (bxI b4 n * (bxI b5 off * (bxS b6 (.slice none 0 0) * X)))))))) := by
  have hre := ow.res bh 1 (by decide) S
  have hwi := fun {w W h X} (S : St w h W (Hp bh s * X)) => ow.wi bh off n (by omega) S
  rw [hw] at hwi
  have dn : decide ((n : Int) < 0) = false := decide_eq_false (by omega)
  have HOW := Lib.hid ow
  clear hw ow
  obtain ⟨ehd, eow, etg, eof, eln⟩ := e
  simp only at *
  have c1 := blk_cell S.b3.blk 0
  have c2 := blk_cell S.b4.blk 0
  have c3 := blk_cell S.b5.blk 0
  go_enter Tryz.func63, Tryz.ntmps63
  go_upto_region 1 with fail
  go_wp2_with fail
  refine hre.mono ?_
  clear hre
  rintro e w2 ⟨rfl, B2⟩
  have S2 := (S.below B2).alloc (entObj ⟨ehd, eow, etg, o, m⟩)
  go_upto_region 4 with fail
  change Code.wp _ _ _ _ (w2.alloc (entObj ⟨ehd, eow, etg, o, m⟩))
  generalize w2.alloc _ = W3 at *
  generalize w2.heap.size = b7 at *
  clear c1 c2 c3
  have c1 := blk_cell S2.b4.blk 0
  have c4 := blk_cell S2.b7.blk 0
  have c5 := blk_cell S2.b8.blk 0
  have e0 := blk_cell S2.blk 0
  have e1 := blk_cell S2.blk 1
  have e2 := blk_cell S2.blk 2
  have e3 := blk_cell S2.blk 3
  have e4 := blk_cell S2.blk 4
  have H := hwi S2.b2
  clear hwi
  go_wp2_with fail
  refine H.mono ?_
  clear H
  rintro e w4 ⟨rfl, B4⟩
  have S5 := (S2.below B4).drop
  go_wp2
  go_ret
  exact ⟨rfl, S5⟩
set_option maxHeartbeats 1600000 in
theorem Load1_in (bh be b1 b2 b3 b4 b5 b6 : Nat) (s : Hs) (ev : Evt) (x p : Int) (off : Nat) (t : Ty) (e : Ent) (o m n : Nat) (ow : Own s x p t e o m) (hw : withinB off n (tsize t.len t.fs) = true) {w W : World} {h : Hl} {X : As}
    (S : St w h W (Hp bh s * (pts be (evObj ev) * (bxH b1 bh * (bxI b2 p * (bxU b3 x * (bxI b4 n * (bxI b5 off * (bxS b6 (.slice none 0 0) * X))))))))) :
    Calls Tryz.prog 63 #[.pointer (some ⟨b1, 0, none⟩), .pointer (some ⟨b2, 0, none⟩), .pointer (some ⟨b3, 0, none⟩), .pointer (some ⟨b4, 0, none⟩), .pointer (some ⟨b5, 0, none⟩), .pointer (some ⟨b6, 0, none⟩)] W
      fun e' W' => ∃ ad cp, e' = .returned (.int .i64 0) ∧ St w h W' (Hp bh s * (pts be (evObj ev) * (bxH b1 bh * (bxI b2 p * (bxU b3 x * (bxI b4 n * (bxI b5 off * (bxS b6 (.slice ad n cp) * (rowAs 5 1 (.slice ad n cp) n (((s.bs.drop (o + off)).take n).map bv) * X))))))))) := by
  have hre := ow.res bh 1 (by decide) S
  have hwi := fun {w W h X} (S : St w h W (Hp bh s * X)) => ow.wi bh off n (by omega) S
  rw [hw] at hwi
  have dn : decide ((n : Int) < 0) = false := decide_eq_false (by omega)
  have HOW := Lib.hid ow
  have HW := Lib.hid hw
  clear hw ow
  obtain ⟨ehd, eow, etg, eof, eln⟩ := e
  simp only at *
  have c1 := blk_cell S.b3.blk 0
  have c2 := blk_cell S.b4.blk 0
  have c3 := blk_cell S.b5.blk 0
  go_enter Tryz.func63, Tryz.ntmps63
  go_upto_region 1 with fail
  go_wp2_with fail
  refine hre.mono ?_
  clear hre
  rintro e w2 ⟨rfl, B2⟩
  have S2 := (S.below B2).alloc (entObj ⟨ehd, eow, etg, o, m⟩)
  go_upto_region 4 with fail
  change Code.wp _ _ _ _ (w2.alloc (entObj ⟨ehd, eow, etg, o, m⟩))
  generalize w2.alloc _ = W3 at *
  generalize w2.heap.size = b7 at *
  clear c1 c2 c3
  have c1 := blk_cell S2.b4.blk 0
  have c4 := blk_cell S2.b7.blk 0
  have c5 := blk_cell S2.b8.blk 0
  have e0 := blk_cell S2.blk 0
  have e1 := blk_cell S2.blk 1
  have e2 := blk_cell S2.blk 2
  have e3 := blk_cell S2.blk 3
  have e4 := blk_cell S2.blk 4
  have H := hwi S2.b2
  clear hwi
  go_wp2_with fail
  refine H.mono ?_
  clear H
  rintro e w4 ⟨rfl, B4⟩
  have S5 := S2.below B4
  clear S2 c1 c4 c5 e0 e1 e2 e3 e4
  obtain ⟨bA, bp, bt, bl, bm, bg, b10, S6⟩ := Hp.open S5.b2
  have hrd := fun {W X} (S : St w h W (Ar bA s.fr s.tk s.bs * X)) => Read_yes bA s.fr s.tk s.bs o m off n HOW.out.tk HOW.out.m0 HOW.out.om HOW.out.n (by
    have := HOW.out.sz; have := of_decide_eq_true HW.out; omega) S
  go_upto_region 8 with fail
  have g1 := bcells S5.b4.blk 0
  have g4 := bcells S5.b7.blk 0
  have g5 := bcells S5.b8.blk 0
  have k3 := bcells S5.blk 3
  have k4 := bcells S5.blk 4
  have gh := bcells S6.blk 0
  refine wp_region_sb [(1, 0), (0, 1), (0, 2), (1, 3), (0, 4), (1, 5), (1, 6), (1, 7), (2, 8), (0, 9), (0, 10), (0, 11), (2, 12), (0, 13)]  (by kernel_rfl) (by kernel_rfl) (fun V BV => ?_)
  repeat (first | (refine sch_q0 (by rfl) ?_; go_big_quiet_step (fail); refine wpQuiet_nil ?_) | (refine sch_q1 (by rfl) ?_; go_big_quiet_step (fail); refine wpQuiet_nil ?_))
  refine sch_e2 (by rfl) ?_
  have H := hrd (S6.below BV).b2
  clear hrd
  go_wp2_with fail
  refine H.mono ?_
  clear H
  rintro e w5 ⟨ad, cp, rfl, F5⟩
  have S7 := (F5.st (S5.below BV).b9).b2
  go_wp2_with fail
  refine onlyN_mk ?_
  repeat (first | (refine sch_q0 (by rfl) ?_; go_big_quiet_step (fail); refine wpQuiet_nil ?_) | (refine sch_q1 (by rfl) ?_; go_big_quiet_step (fail); refine wpQuiet_nil ?_))
  refine sch_e2 (by rfl) ?_
  have c6 := blk_cell S7.blk 0
  have f6 := blk_free S7.blk 0
  have S8 : St w h (w5.setCell ⟨b6, 0, none⟩ (.slice ad n cp)) (bxS b6 (.slice ad n cp) * _) := S7.set 0 (.slice ad n cp)
  clear S7 F5 S5 S6 g1 g4 g5 k3 k4 gh
  go_wp2_with fail
  refine onlyN_mk ?_
  repeat (first | (refine sch_q0 (by rfl) ?_; go_big_quiet_step (fail); refine wpQuiet_nil ?_) | (refine sch_q1 (by rfl) ?_; go_big_quiet_step (fail); refine wpQuiet_nil ?_))
  refine sch_nil ?_
  clear c6 f6
  generalize World.setCell _ _ _ = w8 at *
  go_wp2
  go_ret
  refine ⟨ad, cp, rfl, ?_⟩
  have S9 := S8.b3.drop
  exact S9.eq (by ac_rfl)
end Go.Proofs.YthnfiejdkhejlaaGreat
