/- Functions of the program, and their walks: what each reckons, and that its code reckons it. -/
import Derived.Test.YtdgpckcphkpclaaSk
set_option linter.unusedVariables false
set_option linter.unusedSimpArgs false
set_option maxHeartbeats 0
set_option maxRecDepth 100000
namespace Go.Proofs.Ytdgpckcphkpclaa
open Go Go.Fw
noncomputable def bod6 : Code := Try.f6.body.getD .skip
theorem isf6 : IsFn Try.prog 6 Try.f6 bod6 := ⟨Try.func6, rfl, by decide⟩
-- 6 bonsai/bonsailaw7.SetDrains
def bonsailaw7_SetDrains.l0 (fu : Nat) (x36 : ((List Int) × (List Int))) : Nat → (WorkV Int) → Int → Option (LR (WorkV Int) Bool)
  | 0, _, _ => none
  | k + 1, v343, v344 => bif decide (v344 < (x36.1.length : Int)) then ((set_Work_int_Take.fn v343).bind fun x345 => (bif !x345.2.1 then (some true) else ((idx x36.1 v344).bind fun x374 => some (x345.1 != x374))).bind fun s372 => bif s372 then (LR.esc (some false)) else (bonsailaw7_SetDrains.l0 fu x36 k x345.2.2 (w64 (v344 + 1)))) else (some (.brk v343))
def bonsailaw7_SetDrains.l1 (fu : Nat) (p1 : (List Int)) (p5 : (List Int)) : Nat → (WorkV Int) → Int → Option (LR (WorkV Int) Bool)
  | 0, _, _ => none
  | k + 1, v727, v728 => (bif decide (v728 < (p5.length : Int)) then (some (decide ((p1.length : Int) > 0))) else (some false)).bind fun s735 => bif s735 then ((idx p5 v728).bind fun x737 => guardB ((p1.length : Int) != 0) ((idx p1 (Int.tmod (w64 x737) (p1.length : Int))).bind fun x743 => (set_Work_int_Put.fn v727 x743).bind fun x748 => bif x748.1 then (LR.esc (some false)) else ((set_Work_int_Again.fn x748.2 x743).bind fun x755 => (set_Work_int_Again.fn x755 x743).bind fun x762 => (set_Work_int_Take.fn x762).bind fun x769 => (bif !x769.2.1 then (some true) else (some (x769.1 != x743))).bind fun s782 => bif s782 then (LR.esc (some false)) else (bonsailaw7_SetDrains.l1 fu p1 p5 k x769.2.2 (w64 (v728 + 1)))))) else (some (.brk v727))
def bonsailaw7_SetDrains.fn (fu : Nat) (p1 : (List Int)) (p5 : (List Int)) : Option Bool := (bonsailaw7_known.fn fu).bind fun x10 => bif !x10 then (some false) else ((bif decide ((p1.length : Int) > 30) then (some true) else (some (decide ((p5.length : Int) > 10)))).bind fun s18 => bif s18 then (some true) else ((set_NewWork_int.fn fu p1).bind fun x20 => (set_New_int.fn fu p1).bind fun x28 => (set_Set_int_List.fn x28).bind fun x36 => LR.then (bonsailaw7_SetDrains.l0 fu x36 fu x20 0) fun s217 => (set_Work_int_Take.fn s217).bind fun x383 => bif x383.2.1 then (some false) else (LR.then (bonsailaw7_SetDrains.l1 fu p1 p5 fu x383.2.2 0) fun s587 => (set_Work_int_Take.fn s587).bind fun x784 => some (!x784.2.1))))
theorem bonsailaw7_SetDrains_spec {K : KM} {fu : Nat} {p1 : (List Int)} {p5 : (List Int)} {r : Bool} {a2 : Option Addr} {c3 : Nat} {a6 : Option Addr} {c7 : Nat} (hf : bonsailaw7_SetDrains.fn fu p1 p5 = some r) (h4 : SlK 3 K a2 c3 p1) (h8 : SlK 5 K a6 c7 p5) : Sp Try.prog 6 [(.slice a2 p1.length c3), (.slice a6 p5.length c7)] K [] (fun K' C v => v = (.bool r)) := by
  unfold bonsailaw7_SetDrains.fn at hf
  refine spec_enter isf6 rfl ?_
  intro w L hS
  replace hS : Sat w K (flat [L]) := hS
  have hle := KM.le.refl K
  unfold bod6 Try.f6
  dsimp only [Option.getD_some, argSlots]
  refine s_seq (s_reg ?_)
  refine s_v rfl rfl rfl ?_
  refine s_nil (qn (s_seq (s_seq (s_reg ?_))))
  obtain ⟨x10, hx11, hf⟩ := bs hf
  refine s_call isf8 hS.nilG (bonsailaw7_known_spec hx11) rfl rfl rfl ?_
  rintro _ K12 C14 w hk13 rfl hS
  replace hS := hS.drop1
  refine s_v rfl rfl rfl ?_
  refine s_nil (qn ?_)
  refine s_if rfl (fun hc => ?_) (fun hc => ?_)
  · replace hf := bif_t hc hf
    refine s_seq (s_reg ?_)
    refine s_v rfl rfl rfl ?_
    refine s_nil (qn (s_rets (qrt ?_)))
    have hq := Option.some.inj hf
    subst hq
    refine s_ret1 rfl (rv_t rfl) ?_
    replace hle := hle.trans hk13
    exact ⟨K12, _, hle, rfl, Sat.nilG (hS.sel [0] rfl)⟩
  replace hf := bif_f hc hf
  refine s_skip (qn (s_seq (s_seq (s_reg ?_))))
  iterate 4 refine s_v rfl rfl rfl ?_
  obtain ⟨s18, hst19, hf⟩ := bs hf
  refine r_cut [_, _, _, _] (fun τ w => ∃ (K15 : KM), τ = [(0, (.slice a2 p1.length c3)), (1, (.slice a6 p5.length c7)), (28, (.bool s18))] ∧ KM.le K K15 ∧ SlK 3 K15 a2 c3 p1 ∧ SlK 5 K15 a6 c7 p5 ∧ Sat w K15 (flat [L])) rfl (fun J hJ => ?_) ?_
  · replace hf := hst19
    cases hc : (decide ((p1.length : Int) > 30))
    · replace hf := bif_f hc hf
      iterate 4 refine s_v rfl rfl rfl ?_
      have hq := Option.some.inj hf
      subst hq
      replace h4 := h4.mono hk13
      replace h8 := h8.mono hk13
      replace hle := hle.trans hk13
      refine r_join hJ _ ⟨K12, rfl, hle, h4, h8, hS⟩ ⟨rfl, rfl, rfl, trivial⟩
    replace hf := bif_t hc hf
    refine s_no rfl rfl ?_
    refine s_no rfl rfl ?_
    refine s_no rfl rfl ?_
    refine s_v rfl rfl rfl ?_
    have hq := Option.some.inj hf
    subst hq
    replace h4 := h4.mono hk13
    replace h8 := h8.mono hk13
    replace hle := hle.trans hk13
    refine r_join hJ _ ⟨K12, rfl, hle, h4, h8, hS⟩ ⟨rfl, rfl, rfl, trivial⟩
  rintro _ w ⟨K15, rfl, hle, h16, h17, hS⟩
  refine s_nil (qn ?_)
  refine s_if rfl (fun hc => ?_) (fun hc => ?_)
  · replace hf := bif_t hc hf
    refine s_seq (s_reg ?_)
    refine s_v rfl rfl rfl ?_
    refine s_nil (qn (s_rets (qrt ?_)))
    have hq := Option.some.inj hf
    subst hq
    refine s_ret1 rfl (rv_t rfl) ?_
    exact ⟨K15, _, hle, rfl, Sat.nilG (hS.sel [0] rfl)⟩
  replace hf := bif_f hc hf
  refine s_skip (qn (s_seq (s_reg ?_)))
  refine s_v rfl rfl rfl ?_
  obtain ⟨x20, hx21, hf⟩ := bs hf
  refine s_call isf23 hS.nilG (set_NewWork_int_spec hx21 h16) rfl rfl rfl ?_
  rintro _ K22 C24 w hk23 ⟨b25, rfl, h26⟩ hS
  refine s_v rfl rfl rfl ?_
  obtain ⟨x28, hx29, hf⟩ := bs hf
  replace h16 := h16.mono hk23
  refine s_call isf10 hS.nilG (set_New_int_spec hx29 h16) rfl rfl rfl ?_
  rintro _ K30 C32 w hk31 ⟨b33, rfl, h34⟩ hS
  iterate 2 refine s_v rfl rfl rfl ?_
  refine s_nil (qn (s_seq (s_reg ?_)))
  refine s_v rfl rfl rfl ?_
  obtain ⟨x36, hx37, hf⟩ := bs hf
  refine s_call isf15 (Sat.shut1 hS) (set_Set_int_List_spec hx37 h34) rfl rfl rfl ?_
  rintro _ K38 _ w hk39 ⟨a41, c42, C45, C46, rfl, h43, h44, rfl⟩ hS
  replace hS := hS.open2
  refine s_v rfl rfl rfl ?_
  refine s_nil (qn ?_)
  replace hS : Sat w K38 (flat [_, _, _]) := (hS.sel [0, 2, 3] rfl)
  obtain ⟨res218, hst219, hm220⟩ := LR.then_some hf
  refine s_cut (fun τ w => ∃ (s217 : (WorkV Int)) (K211 : KM) (C215 : Chunks), res218 = .brk s217 ∧ τ = [(0, (.slice a2 p1.length c3)), (1, (.slice a6 p5.length c7)), (5, (.pointer (some ⟨b25, 0, none⟩)))] ∧ KM.le K K211 ∧ SlK 3 K211 a2 c3 p1 ∧ SlK 5 K211 a6 c7 p5 ∧ WorkO 68 62 3 K211 b25 s217 C215 ∧ Sat w K211 (flat [C215, L])) (fun J hJ => ?_) ?_
  · replace hf := hst219
    refine s_seq (s_reg ?_)
    refine s_v rfl rfl rfl ?_
    refine s_nil (qn (s_block ?_))
    replace h17 := h17.mono ((hk23.trans hk31).trans hk39)
    replace hle := hle.trans ((hk23.trans hk31).trans hk39)
    replace h16 := h16.mono (hk31.trans hk39)
    replace h26 := h26.mono (hk31.trans hk39)
    refine s_loopp (fun n τ w => ∃ (v343 : (WorkV Int)) (v344 : Int) (K332 : KM) (C336 : Chunks) (C341 : Chunks), bonsailaw7_SetDrains.l0 fu x36 n v343 v344 = some res218 ∧ τ = [(0, (.slice a2 p1.length c3)), (1, (.slice a6 p5.length c7)), (5, (.pointer (some ⟨b25, 0, none⟩))), (7, (.slice a41 x36.1.length c42)), (8, (.int .i64 v344))] ∧ KM.le K K332 ∧ SlK 3 K332 a2 c3 p1 ∧ SlK 5 K332 a6 c7 p5 ∧ WorkO 68 62 3 K332 b25 v343 C336 ∧ OwnS 3 K332 (.slice a41 x36.1.length c42) x36.1 C341 ∧ Sat w K332 (flat [C336, C341, L])) _ ⟨x20, 0, K38, C24, C45, hf, rfl, hle, h16, h17, h26, h43, (hS.sel [1, 0, 2] rfl)⟩ ⟨rfl, rfl, rfl, rfl, rfl, trivial⟩ ?_ ?_
    · rintro _ _ ⟨_, _, _, _, _, hf, _⟩
      exact absurd hf (by simp [bonsailaw7_SetDrains.l0])
    rintro n _ w Y hY ⟨v343, v344, K332, C336, C341, hf, rfl, hle, h333, h334, h335, h338, hS⟩
    rw [bonsailaw7_SetDrains.l0] at hf
    refine s_seq (s_seq (s_reg ?_))
    iterate 4 refine s_v rfl rfl rfl ?_
    refine s_nil (qn ?_)
    refine s_if rfl (fun hc => ?_) (fun hc => ?_)
    · replace hf := bif_t hc hf
      refine s_skip (qn (s_seq (s_block (s_seq (s_reg ?_)))))
      refine s_v rfl rfl rfl ?_
      obtain ⟨x345, hx346, hf⟩ := bs hf
      refine s_call isf26 (Sat.shut1 hS) (set_Work_int_Take_spec hx346 h335) rfl rfl rfl ?_
      rintro _ K347 C349 w hk348 ⟨rfl, h350⟩ hS
      iterate 5 refine s_v rfl rfl rfl ?_
      refine s_nil (qn (s_seq (s_reg ?_)))
      iterate 3 refine s_v rfl rfl rfl ?_
      obtain ⟨s372, hst373, hf⟩ := bs hf
      refine r_cut [_, _, _, _, _, _, _] (fun τ w => ∃ (K361 : KM) (C365 : Chunks) (C370 : Chunks), τ = [(0, (.slice a2 p1.length c3)), (1, (.slice a6 p5.length c7)), (5, (.pointer (some ⟨b25, 0, none⟩))), (7, (.slice a41 x36.1.length c42)), (8, (.int .i64 v344)), (55, (.bool s372))] ∧ KM.le K K361 ∧ SlK 3 K361 a2 c3 p1 ∧ SlK 5 K361 a6 c7 p5 ∧ WorkO 68 62 3 K361 b25 x345.2.2 C365 ∧ OwnS 3 K361 (.slice a41 x36.1.length c42) x36.1 C370 ∧ Sat w K361 (flat [C365, C370, L])) rfl (fun J hJ => ?_) ?_
      · replace hf := hst373
        cases hc : (!x345.2.1)
        · replace hf := bif_f hc hf
          iterate 3 refine s_v rfl rfl rfl ?_
          obtain ⟨x374, hx375, hf⟩ := bs hf
          replace h338 := h338.mono hk348
          refine s_ixo 1 hS rfl h338 hx375 rfl rfl rfl rfl rfl rfl rfl ?_
          intro b376 l377 cs380 l378 hcs_ hC381 hun379
          obtain rfl := hcs_
          subst hC381
          have hq382 := KM.le.refl K347
          refine s_ldm 1 0 hS rfl rfl rfl rfl rfl ?_
          iterate 2 refine s_v rfl rfl rfl ?_
          have hq := Option.some.inj hf
          subst hq
          replace h333 := h333.mono hk348
          replace h334 := h334.mono hk348
          replace hle := hle.trans hk348
          refine r_join hJ _ ⟨K347, C349, [(b376, Cl (l377 ++ (([(.int .i64 x374)] : List Value) ++ l378)) 3)], rfl, hle, h333, h334, h350, h338, hS⟩ ⟨rfl, rfl, rfl, rfl, rfl, rfl, trivial⟩
        replace hf := bif_t hc hf
        refine s_no rfl rfl ?_
        refine s_no rfl rfl ?_
        refine s_no rfl rfl ?_
        refine s_no rfl rfl ?_
        refine s_no rfl rfl ?_
        refine s_no rfl rfl ?_
        refine s_v rfl rfl rfl ?_
        have hq := Option.some.inj hf
        subst hq
        replace h333 := h333.mono hk348
        replace h334 := h334.mono hk348
        replace h338 := h338.mono hk348
        replace hle := hle.trans hk348
        refine r_join hJ _ ⟨K347, C349, C341, rfl, hle, h333, h334, h350, h338, hS⟩ ⟨rfl, rfl, rfl, rfl, rfl, rfl, trivial⟩
      rintro _ w ⟨K361, C365, C370, rfl, hle, h362, h363, h364, h367, hS⟩
      refine s_nil (qn ?_)
      refine s_if rfl (fun hc => ?_) (fun hc => ?_)
      · replace hf := bif_t hc hf
        refine s_seq (s_reg ?_)
        refine s_v rfl rfl rfl ?_
        refine s_nil (qn ?_)
        replace hS : Sat w K361 (flat [_]) := (hS.sel [2] rfl)
        refine s_rets (qrb (qrt (qrt (qrb (qrt ?_)))))
        replace hf := LR.esc_some hf hm220
        have hq := Option.some.inj hf
        subst hq
        refine s_ret1 rfl (rv_t rfl) ?_
        exact ⟨K361, _, hle, rfl, Sat.nilG (hS.sel [0] rfl)⟩
      replace hf := bif_f hc hf
      refine s_skip (qbn (qn (s_reg ?_)))
      iterate 3 refine s_v rfl rfl rfl ?_
      refine s_nil (qn ?_)
      refine s_join hY _ ⟨x345.2.2, w64 (v344 + 1), K361, C365, C370, hf, rfl, hle, h362, h363, h364, h367, hS⟩ ⟨rfl, rfl, rfl, rfl, rfl, trivial⟩
    replace hf := bif_f hc hf
    refine s_exit (qxt (qxt (qxb (qn ?_))))
    have hq := Option.some.inj hf
    subst hq
    refine s_join hJ _ ⟨v343, K332, C336, rfl, rfl, hle, h333, h334, h335, (hS.sel [0, 2] rfl)⟩ ⟨rfl, rfl, rfl, trivial⟩
  rintro _ w ⟨s217, K211, C215, rfl, rfl, hle, h212, h213, h214, hS⟩
  replace hf := LR.elim_brk hm220
  refine s_seq (s_seq (s_reg ?_))
  refine s_v rfl rfl rfl ?_
  obtain ⟨x383, hx384, hf⟩ := bs hf
  refine s_call isf26 (Sat.shut1 hS) (set_Work_int_Take_spec hx384 h214) rfl rfl rfl ?_
  rintro _ K385 C387 w hk386 ⟨rfl, h388⟩ hS
  iterate 5 refine s_v rfl rfl rfl ?_
  refine s_nil (qn (s_seq (s_reg ?_)))
  refine s_v rfl rfl rfl ?_
  refine s_nil (qn ?_)
  refine s_if rfl (fun hc => ?_) (fun hc => ?_)
  · replace hf := bif_t hc hf
    refine s_seq (s_reg ?_)
    refine s_v rfl rfl rfl ?_
    refine s_nil (qn ?_)
    replace hS : Sat w K385 (flat [_]) := (hS.sel [1] rfl)
    refine s_rets (qrt ?_)
    have hq := Option.some.inj hf
    subst hq
    refine s_ret1 rfl (rv_t rfl) ?_
    replace hle := hle.trans hk386
    exact ⟨K385, _, hle, rfl, Sat.nilG (hS.sel [0] rfl)⟩
  replace hf := bif_f hc hf
  refine s_skip (qn ?_)
  obtain ⟨res588, hst589, hm590⟩ := LR.then_some hf
  refine s_cut (fun τ w => ∃ (s587 : (WorkV Int)) (K583 : KM) (C585 : Chunks), res588 = .brk s587 ∧ τ = [(5, (.pointer (some ⟨b25, 0, none⟩)))] ∧ KM.le K K583 ∧ WorkO 68 62 3 K583 b25 s587 C585 ∧ Sat w K583 (flat [C585, L])) (fun J hJ => ?_) ?_
  · replace hf := hst589
    refine s_seq (s_reg ?_)
    refine s_v rfl rfl rfl ?_
    refine s_nil (qn (s_block ?_))
    replace h212 := h212.mono hk386
    replace h213 := h213.mono hk386
    replace hle := hle.trans hk386
    refine s_loopp (fun n τ w => ∃ (v727 : (WorkV Int)) (v728 : Int) (K721 : KM) (C725 : Chunks), bonsailaw7_SetDrains.l1 fu p1 p5 n v727 v728 = some res588 ∧ τ = [(0, (.slice a2 p1.length c3)), (1, (.slice a6 p5.length c7)), (5, (.pointer (some ⟨b25, 0, none⟩))), (13, (.int .i64 v728))] ∧ KM.le K K721 ∧ SlK 3 K721 a2 c3 p1 ∧ SlK 5 K721 a6 c7 p5 ∧ WorkO 68 62 3 K721 b25 v727 C725 ∧ Sat w K721 (flat [C725, L])) _ ⟨x383.2.2, 0, K385, C387, hf, rfl, hle, h212, h213, h388, hS⟩ ⟨rfl, rfl, rfl, rfl, trivial⟩ ?_ ?_
    · rintro _ _ ⟨_, _, _, _, hf, _⟩
      exact absurd hf (by simp [bonsailaw7_SetDrains.l1])
    rintro n _ w Y hY ⟨v727, v728, K721, C725, hf, rfl, hle, h722, h723, h724, hS⟩
    rw [bonsailaw7_SetDrains.l1] at hf
    refine s_seq (s_seq (s_reg ?_))
    iterate 5 refine s_v rfl rfl rfl ?_
    obtain ⟨s735, hst736, hf⟩ := bs hf
    refine r_cut [_, _, _, _] (fun τ w => ∃ (K729 : KM) (C733 : Chunks), τ = [(0, (.slice a2 p1.length c3)), (1, (.slice a6 p5.length c7)), (5, (.pointer (some ⟨b25, 0, none⟩))), (13, (.int .i64 v728)), (70, (.bool s735))] ∧ KM.le K K729 ∧ SlK 3 K729 a2 c3 p1 ∧ SlK 5 K729 a6 c7 p5 ∧ WorkO 68 62 3 K729 b25 v727 C733 ∧ Sat w K729 (flat [C733, L])) rfl (fun J hJ => ?_) ?_
    · replace hf := hst736
      cases hc : (decide (v728 < (p5.length : Int)))
      · replace hf := bif_f hc hf
        refine s_no rfl rfl ?_
        refine s_no rfl rfl ?_
        refine s_no rfl rfl ?_
        refine s_v rfl rfl rfl ?_
        have hq := Option.some.inj hf
        subst hq
        refine r_join hJ _ ⟨K721, C725, rfl, hle, h722, h723, h724, hS⟩ ⟨rfl, rfl, rfl, rfl, rfl, trivial⟩
      replace hf := bif_t hc hf
      iterate 4 refine s_v rfl rfl rfl ?_
      have hq := Option.some.inj hf
      subst hq
      refine r_join hJ _ ⟨K721, C725, rfl, hle, h722, h723, h724, hS⟩ ⟨rfl, rfl, rfl, rfl, rfl, trivial⟩
    rintro _ w ⟨K729, C733, rfl, hle, h730, h731, h732, hS⟩
    refine s_nil (qn ?_)
    refine s_if rfl (fun hc => ?_) (fun hc => ?_)
    · replace hf := bif_t hc hf
      refine s_skip (qn (s_seq (s_block (s_seq (s_reg ?_)))))
      iterate 3 refine s_v rfl rfl rfl ?_
      obtain ⟨x737, hx738, hf⟩ := bs hf
      refine s_ixk h731 rfl hx738 rfl rfl rfl rfl rfl rfl rfl ?_
      rintro b739 o740 _ rfl h741
      refine s_ldk 0 hS h741 rfl rfl rfl rfl ?_
      iterate 3 refine s_v rfl rfl rfl ?_
      obtain ⟨hm742, hf⟩ := gs hf
      refine s_rem hm742 rfl rfl rfl rfl ?_
      obtain ⟨x743, hx744, hf⟩ := bs hf
      refine s_ixk h730 rfl hx744 rfl rfl rfl rfl rfl rfl rfl ?_
      rintro b745 o746 _ rfl h747
      refine s_ldk 0 hS h747 rfl rfl rfl rfl ?_
      refine s_v rfl rfl rfl ?_
      refine s_nil (qn (s_seq (s_seq (s_reg ?_))))
      iterate 2 refine s_v rfl rfl rfl ?_
      obtain ⟨x748, hx749, hf⟩ := bs hf
      refine s_call isf24 (Sat.shut1 hS) (set_Work_int_Put_spec hx749 h732) rfl rfl rfl ?_
      rintro _ K750 C752 w hk751 ⟨rfl, h753⟩ hS
      refine s_nil (qn ?_)
      refine s_if rfl (fun hc => ?_) (fun hc => ?_)
      · replace hf := bif_t hc hf
        refine s_seq (s_reg ?_)
        refine s_v rfl rfl rfl ?_
        refine s_nil (qn ?_)
        replace hS : Sat w K750 (flat [_]) := (hS.sel [1] rfl)
        refine s_rets (qrt (qrb (qrt (qrt (qrb (qrt ?_))))))
        replace hf := LR.esc_some hf hm590
        have hq := Option.some.inj hf
        subst hq
        refine s_ret1 rfl (rv_t rfl) ?_
        replace hle := hle.trans hk751
        exact ⟨K750, _, hle, rfl, Sat.nilG (hS.sel [0] rfl)⟩
      replace hf := bif_f hc hf
      refine s_skip (qn (s_seq (s_reg ?_)))
      iterate 2 refine s_v rfl rfl rfl ?_
      obtain ⟨x755, hx756, hf⟩ := bs hf
      refine s_call isf25 (Sat.shut1 hS) (set_Work_int_Again_spec hx756 h753) rfl rfl rfl ?_
      rintro _ K757 C759 w hk758 ⟨rfl, h760⟩ hS
      refine s_nil (qn (s_seq (s_reg ?_)))
      iterate 2 refine s_v rfl rfl rfl ?_
      obtain ⟨x762, hx763, hf⟩ := bs hf
      refine s_call isf25 (Sat.shut1 hS) (set_Work_int_Again_spec hx763 h760) rfl rfl rfl ?_
      rintro _ K764 C766 w hk765 ⟨rfl, h767⟩ hS
      refine s_nil (qn (s_seq (s_reg ?_)))
      refine s_v rfl rfl rfl ?_
      obtain ⟨x769, hx770, hf⟩ := bs hf
      refine s_call isf26 (Sat.shut1 hS) (set_Work_int_Take_spec hx770 h767) rfl rfl rfl ?_
      rintro _ K771 C773 w hk772 ⟨rfl, h774⟩ hS
      iterate 5 refine s_v rfl rfl rfl ?_
      refine s_nil (qn (s_seq (s_reg ?_)))
      iterate 3 refine s_v rfl rfl rfl ?_
      obtain ⟨s782, hst783, hf⟩ := bs hf
      have hkk0 := ((hk751.trans hk758).trans hk765).trans hk772
      refine r_cut [_, _, _, _] (fun τ w => ∃ (K776 : KM) (C780 : Chunks), τ = [(0, (.slice a2 p1.length c3)), (1, (.slice a6 p5.length c7)), (5, (.pointer (some ⟨b25, 0, none⟩))), (13, (.int .i64 v728)), (104, (.bool s782))] ∧ KM.le K K776 ∧ SlK 3 K776 a2 c3 p1 ∧ SlK 5 K776 a6 c7 p5 ∧ WorkO 68 62 3 K776 b25 x769.2.2 C780 ∧ Sat w K776 (flat [C780, L])) rfl (fun J hJ => ?_) ?_
      · replace hf := hst783
        cases hc : (!x769.2.1)
        · replace hf := bif_f hc hf
          iterate 4 refine s_v rfl rfl rfl ?_
          have hq := Option.some.inj hf
          subst hq
          replace h730 := h730.mono hkk0
          replace h731 := h731.mono hkk0
          replace hle := hle.trans hkk0
          refine r_join hJ _ ⟨K771, C773, rfl, hle, h730, h731, h774, hS⟩ ⟨rfl, rfl, rfl, rfl, rfl, trivial⟩
        replace hf := bif_t hc hf
        refine s_no rfl rfl ?_
        refine s_no rfl rfl ?_
        refine s_no rfl rfl ?_
        refine s_v rfl rfl rfl ?_
        have hq := Option.some.inj hf
        subst hq
        replace h730 := h730.mono hkk0
        replace h731 := h731.mono hkk0
        replace hle := hle.trans hkk0
        refine r_join hJ _ ⟨K771, C773, rfl, hle, h730, h731, h774, hS⟩ ⟨rfl, rfl, rfl, rfl, rfl, trivial⟩
      rintro _ w ⟨K776, C780, rfl, hle, h777, h778, h779, hS⟩
      refine s_nil (qn ?_)
      refine s_if rfl (fun hc => ?_) (fun hc => ?_)
      · replace hf := bif_t hc hf
        refine s_seq (s_reg ?_)
        refine s_v rfl rfl rfl ?_
        refine s_nil (qn ?_)
        replace hS : Sat w K776 (flat [_]) := (hS.sel [1] rfl)
        refine s_rets (qrb (qrt (qrt (qrb (qrt ?_)))))
        replace hf := LR.esc_some hf hm590
        have hq := Option.some.inj hf
        subst hq
        refine s_ret1 rfl (rv_t rfl) ?_
        exact ⟨K776, _, hle, rfl, Sat.nilG (hS.sel [0] rfl)⟩
      replace hf := bif_f hc hf
      refine s_skip (qbn (qn (s_reg ?_)))
      iterate 3 refine s_v rfl rfl rfl ?_
      refine s_nil (qn ?_)
      refine s_join hY _ ⟨x769.2.2, w64 (v728 + 1), K776, C780, hf, rfl, hle, h777, h778, h779, hS⟩ ⟨rfl, rfl, rfl, rfl, trivial⟩
    replace hf := bif_f hc hf
    refine s_exit (qxt (qxt (qxb (qn ?_))))
    have hq := Option.some.inj hf
    subst hq
    refine s_join hJ _ ⟨v727, K729, C733, rfl, rfl, hle, h732, hS⟩ ⟨rfl, trivial⟩
  rintro _ w ⟨s587, K583, C585, rfl, rfl, hle, h584, hS⟩
  replace hf := LR.elim_brk hm590
  refine s_seq (s_reg ?_)
  refine s_v rfl rfl rfl ?_
  obtain ⟨x784, hx785, hf⟩ := bs hf
  refine s_call isf26 (Sat.shut1 hS) (set_Work_int_Take_spec hx785 h584) rfl rfl rfl ?_
  rintro _ K786 C788 w hk787 ⟨rfl, h789⟩ hS
  iterate 5 refine s_v rfl rfl rfl ?_
  refine s_nil (qn ?_)
  replace hS : Sat w K786 (flat [_]) := (hS.sel [1] rfl)
  refine s_seq (s_reg ?_)
  iterate 3 refine s_v rfl rfl rfl ?_
  refine s_nil (qn (s_rets ?_))
  have hq := Option.some.inj hf
  subst hq
  refine s_ret1 rfl (rv_t rfl) ?_
  replace hle := hle.trans hk787
  exact ⟨K786, _, hle, rfl, Sat.nilG (hS.sel [0] rfl)⟩
end Go.Proofs.Ytdgpckcphkpclaa
