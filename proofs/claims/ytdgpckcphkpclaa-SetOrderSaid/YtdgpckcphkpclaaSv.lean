/- Functions of the program, and their walks: what each reckons, and that its code reckons it. -/
import Derived.Test.YtdgpckcphkpclaaSk
set_option linter.unusedVariables false
set_option linter.unusedSimpArgs false
set_option maxHeartbeats 0
set_option maxRecDepth 100000
namespace Go.Proofs.Ytdgpckcphkpclaa
open Go Go.Fw
noncomputable def bod5 : Code := Try.f5.body.getD .skip
theorem isf5 : IsFn Try.prog 5 Try.f5 bod5 := ⟨Try.func5, rfl, by decide⟩
-- 5 bonsai/bonsailaw7.SetOrder
def bonsailaw7_SetOrder.l0 (fu : Nat) (p1 : (List Int)) (p5 : Int) : Nat → (List Int) → Int → Option (List Int)
  | 0, _, _ => none
  | k + 1, v172, v173 => bif decide (v173 < (p1.length : Int)) then (guardB ((p1.length : Int) != 0) ((idx p1 (Int.tmod (w64 (v173 + (w64 p5))) (p1.length : Int))).bind fun x175 => (set_Set_int_Add.fn v172 x175).bind fun x180 => bonsailaw7_SetOrder.l0 fu p1 p5 k x180.2 (w64 (v173 + 1)))) else (some v172)
def bonsailaw7_SetOrder.l1 (fu : Nat) (x187 : ((List Int) × (List Int))) : Nat → Int → Option (LR Unit Bool)
  | 0, _ => none
  | k + 1, v658 => bif decide (v658 < (x187.1.length : Int)) then ((idx x187.1 v658).bind fun x697 => (idx x187.1 (w64 (v658 - 1))).bind fun x707 => bif decide (x697 ≤ x707) then (LR.esc (some false)) else (bonsailaw7_SetOrder.l1 fu x187 k (w64 (v658 + 1)))) else (some (.brk ()))
def bonsailaw7_SetOrder.fn (fu : Nat) (p1 : (List Int)) (p5 : Int) : Option Bool := (bonsailaw7_known.fn fu).bind fun x7 => bif !x7 then (some false) else (bif decide ((p1.length : Int) > 30) then (some true) else ((set_New_int.fn fu p1).bind fun x12 => (set_New_int.fn fu []).bind fun x20 => (bonsailaw7_SetOrder.l0 fu p1 p5 fu x20 0).bind fun s110 => (set_Set_int_List.fn x12).bind fun x187 => (set_Set_int_List.fn s110).bind fun x200 => LR.then (bonsailaw7_SetOrder.l1 fu x187 fu 1) fun s471 => (bonsaihelp_Ints.fn fu x187.1 x200.1).bind fun x722 => (bif x722 then ((set_Set_int_Len.fn x187.2).bind fun x741 => some (x741.1 == (x187.1.length : Int))) else (some false)).bind fun s739 => (bif s739 then ((set_Set_int_Len.fn x200.2).bind fun x758 => some (x758.1 == (x187.1.length : Int))) else (some false)).bind fun s756 => some s756))
theorem bonsailaw7_SetOrder_spec {K : KM} {fu : Nat} {p1 : (List Int)} {p5 : Int} {r : Bool} {a2 : Option Addr} {c3 : Nat} (hf : bonsailaw7_SetOrder.fn fu p1 p5 = some r) (h4 : SlK 3 K a2 c3 p1) : Sp Try.prog 5 [(.slice a2 p1.length c3), (.int .u8 p5)] K [] (fun K' C v => v = (.bool r)) := by
  unfold bonsailaw7_SetOrder.fn at hf
  refine spec_enter isf5 rfl ?_
  intro w L hS
  replace hS : Sat w K (flat [L]) := hS
  have hle := KM.le.refl K
  unfold bod5 Try.f5
  dsimp only [Option.getD_some, argSlots]
  refine s_seq (s_reg ?_)
  refine s_v rfl rfl rfl ?_
  refine s_nil (qn (s_seq (s_seq (s_reg ?_))))
  obtain ⟨x7, hx8, hf⟩ := bs hf
  refine s_call isf8 hS.nilG (bonsailaw7_known_spec hx8) rfl rfl rfl ?_
  rintro _ K9 C11 w hk10 rfl hS
  replace hS := hS.drop1
  refine s_v rfl rfl rfl ?_
  refine s_nil (qn ?_)
  refine s_if rfl (fun hc => ?_) (fun hc => ?_)
  · replace hf := bif_t hc hf
    refine s_seq (s_reg ?_)
    refine s_v rfl rfl rfl ?_
    refine s_nil (qn (s_rets (qrt ?_)))
    have hq := Option.some.inj hf
    subst hq
    refine s_ret1 rfl (rv_t rfl) ?_
    replace hle := hle.trans hk10
    exact ⟨K9, _, hle, rfl, Sat.nilG (hS.sel [0] rfl)⟩
  replace hf := bif_f hc hf
  refine s_skip (qn (s_seq (s_seq (s_reg ?_))))
  iterate 3 refine s_v rfl rfl rfl ?_
  refine s_nil (qn ?_)
  refine s_if rfl (fun hc => ?_) (fun hc => ?_)
  · replace hf := bif_t hc hf
    refine s_seq (s_reg ?_)
    refine s_v rfl rfl rfl ?_
    refine s_nil (qn (s_rets (qrt ?_)))
    have hq := Option.some.inj hf
    subst hq
    refine s_ret1 rfl (rv_t rfl) ?_
    replace hle := hle.trans hk10
    exact ⟨K9, _, hle, rfl, Sat.nilG (hS.sel [0] rfl)⟩
  replace hf := bif_f hc hf
  refine s_skip (qn (s_seq (s_reg ?_)))
  refine s_v rfl rfl rfl ?_
  obtain ⟨x12, hx13, hf⟩ := bs hf
  replace h4 := h4.mono hk10
  refine s_call isf10 hS.nilG (set_New_int_spec hx13 h4) rfl rfl rfl ?_
  rintro _ K14 C16 w hk15 ⟨b17, rfl, h18⟩ hS
  obtain ⟨x20, hx21, hf⟩ := bs hf
  refine s_call isf10 hS.nilG (set_New_int_spec hx21 SlK.nil) rfl rfl rfl ?_
  rintro _ K22 C24 w hk23 ⟨b25, rfl, h26⟩ hS
  iterate 2 refine s_v rfl rfl rfl ?_
  refine s_nil (qn ?_)
  obtain ⟨s110, hst111, hf⟩ := bs hf
  refine s_cut (fun τ w => ∃ (K103 : KM) (C105 : Chunks) (C108 : Chunks), τ = [(5, (.pointer (some ⟨b17, 0, none⟩))), (6, (.pointer (some ⟨b25, 0, none⟩)))] ∧ KM.le K K103 ∧ SetO 62 K103 b17 x12 C105 ∧ SetO 62 K103 b25 s110 C108 ∧ Sat w K103 (flat [C105, C108, L])) (fun J hJ => ?_) ?_
  · replace hf := hst111
    refine s_seq (s_reg ?_)
    refine s_v rfl rfl rfl ?_
    refine s_nil (qn (s_block ?_))
    replace hle := hle.trans ((hk10.trans hk15).trans hk23)
    replace h4 := h4.mono (hk15.trans hk23)
    replace h18 := h18.mono hk23
    refine s_loopp (fun n τ w => ∃ (v172 : (List Int)) (v173 : Int) (K164 : KM) (C167 : Chunks) (C170 : Chunks), bonsailaw7_SetOrder.l0 fu p1 p5 n v172 v173 = some s110 ∧ τ = [(0, (.slice a2 p1.length c3)), (1, (.int .u8 p5)), (5, (.pointer (some ⟨b17, 0, none⟩))), (6, (.pointer (some ⟨b25, 0, none⟩))), (7, (.int .i64 v173))] ∧ KM.le K K164 ∧ SlK 3 K164 a2 c3 p1 ∧ SetO 62 K164 b17 x12 C167 ∧ SetO 62 K164 b25 v172 C170 ∧ Sat w K164 (flat [C167, C170, L])) _ ⟨x20, 0, K22, C16, C24, hf, rfl, hle, h4, h18, h26, (hS.sel [1, 0, 2] rfl)⟩ ⟨rfl, rfl, rfl, rfl, rfl, trivial⟩ ?_ ?_
    · rintro _ _ ⟨_, _, _, _, _, hf, _⟩
      exact absurd hf (by simp [bonsailaw7_SetOrder.l0])
    rintro n _ w Y hY ⟨v172, v173, K164, C167, C170, hf, rfl, hle, h165, h166, h169, hS⟩
    rw [bonsailaw7_SetOrder.l0] at hf
    refine s_seq (s_seq (s_reg ?_))
    iterate 4 refine s_v rfl rfl rfl ?_
    refine s_nil (qn ?_)
    refine s_if rfl (fun hc => ?_) (fun hc => ?_)
    · replace hf := bif_t hc hf
      refine s_skip (qn (s_seq (s_block (s_reg ?_))))
      iterate 8 refine s_v rfl rfl rfl ?_
      obtain ⟨hm174, hf⟩ := gs hf
      refine s_rem hm174 rfl rfl rfl rfl ?_
      obtain ⟨x175, hx176, hf⟩ := bs hf
      refine s_ixk h165 rfl hx176 rfl rfl rfl rfl rfl rfl rfl ?_
      rintro b177 o178 _ rfl h179
      refine s_ldk 0 hS h179 rfl rfl rfl rfl ?_
      obtain ⟨x180, hx181, hf⟩ := bs hf
      refine s_call isf13 (Sat.shut1 (hS.sel [1, 0, 2] rfl)) (set_Set_int_Add_spec hx181 h169) rfl rfl rfl ?_
      rintro _ K182 C184 w hk183 ⟨rfl, h185⟩ hS
      refine s_nil (qbn (qn (s_reg ?_)))
      iterate 3 refine s_v rfl rfl rfl ?_
      refine s_nil (qn ?_)
      replace h165 := h165.mono hk183
      replace h166 := h166.mono hk183
      replace hle := hle.trans hk183
      refine s_join hY _ ⟨x180.2, w64 (v173 + 1), K182, C167, C184, hf, rfl, hle, h165, h166, h185, (hS.sel [1, 0, 2] rfl)⟩ ⟨rfl, rfl, rfl, rfl, rfl, trivial⟩
    replace hf := bif_f hc hf
    refine s_exit (qxt (qxt (qxb (qn ?_))))
    have hq := Option.some.inj hf
    subst hq
    refine s_join hJ _ ⟨K164, C167, C170, rfl, hle, h166, h169, hS⟩ ⟨rfl, rfl, trivial⟩
  rintro _ w ⟨K103, C105, C108, rfl, hle, h104, h107, hS⟩
  refine s_seq (s_reg ?_)
  refine s_v rfl rfl rfl ?_
  obtain ⟨x187, hx188, hf⟩ := bs hf
  refine s_call isf15 (Sat.shut1 hS) (set_Set_int_List_spec hx188 h104) rfl rfl rfl ?_
  rintro _ K189 _ w hk190 ⟨a192, c193, C196, C197, rfl, h194, h195, rfl⟩ hS
  replace hS := hS.open2
  refine s_v rfl rfl rfl ?_
  obtain ⟨x200, hx201, hf⟩ := bs hf
  replace h107 := h107.mono hk190
  refine s_call isf15 (Sat.shut1 (hS.sel [2, 0, 1, 3] rfl)) (set_Set_int_List_spec hx201 h107) rfl rfl rfl ?_
  rintro _ K202 _ w hk203 ⟨a205, c206, C209, C210, rfl, h207, h208, rfl⟩ hS
  replace hS := hS.open2
  iterate 2 refine s_v rfl rfl rfl ?_
  refine s_nil (qn ?_)
  obtain ⟨res472, hst473, hm474⟩ := LR.then_some hf
  refine s_cut (fun τ w => ∃ (s471 : Unit) (K454 : KM) (C456 : Chunks) (C459 : Chunks) (C464 : Chunks) (C469 : Chunks), res472 = .brk s471 ∧ τ = [(5, (.pointer (some ⟨b17, 0, none⟩))), (6, (.pointer (some ⟨b25, 0, none⟩))), (8, (.slice a192 x187.1.length c193)), (9, (.slice a205 x200.1.length c206))] ∧ KM.le K K454 ∧ SetO 62 K454 b17 x187.2 C456 ∧ SetO 62 K454 b25 x200.2 C459 ∧ OwnS 3 K454 (.slice a192 x187.1.length c193) x187.1 C464 ∧ OwnS 3 K454 (.slice a205 x200.1.length c206) x200.1 C469 ∧ Sat w K454 (flat [C456, C459, C464, C469, L])) (fun J hJ => ?_) ?_
  · replace hf := hst473
    refine s_seq (s_reg ?_)
    refine s_v rfl rfl rfl ?_
    refine s_nil (qn (s_block ?_))
    replace hle := hle.trans (hk190.trans hk203)
    replace h195 := h195.mono hk203
    replace h194 := h194.mono hk203
    refine s_loopp (fun n τ w => ∃ (v658 : Int) (K641 : KM) (C643 : Chunks) (C646 : Chunks) (C651 : Chunks) (C656 : Chunks), bonsailaw7_SetOrder.l1 fu x187 n v658 = some res472 ∧ τ = [(5, (.pointer (some ⟨b17, 0, none⟩))), (6, (.pointer (some ⟨b25, 0, none⟩))), (8, (.slice a192 x187.1.length c193)), (9, (.slice a205 x200.1.length c206)), (10, (.int .i64 v658))] ∧ KM.le K K641 ∧ SetO 62 K641 b17 x187.2 C643 ∧ SetO 62 K641 b25 x200.2 C646 ∧ OwnS 3 K641 (.slice a192 x187.1.length c193) x187.1 C651 ∧ OwnS 3 K641 (.slice a205 x200.1.length c206) x200.1 C656 ∧ Sat w K641 (flat [C643, C646, C651, C656, L])) _ ⟨1, K202, C197, C210, C196, C209, hf, rfl, hle, h195, h208, h194, h207, (hS.sel [3, 1, 2, 0, 4] rfl)⟩ ⟨rfl, rfl, rfl, rfl, rfl, trivial⟩ ?_ ?_
    · rintro _ _ ⟨_, _, _, _, _, _, hf, _⟩
      exact absurd hf (by simp [bonsailaw7_SetOrder.l1])
    rintro n _ w Y hY ⟨v658, K641, C643, C646, C651, C656, hf, rfl, hle, h642, h645, h648, h653, hS⟩
    rw [bonsailaw7_SetOrder.l1] at hf
    refine s_seq (s_seq (s_reg ?_))
    iterate 4 refine s_v rfl rfl rfl ?_
    refine s_nil (qn ?_)
    refine s_if rfl (fun hc => ?_) (fun hc => ?_)
    · replace hf := bif_t hc hf
      refine s_skip (qn (s_seq (s_block (s_seq ?_))))
      refine d_start [2] [] hS ?_
      intro w hS
      refine d_v 0 (fun _ _ _ _ _ h => h) [2] hS rfl rfl rfl (by kernel_rfl) rfl rfl ?_
      refine d_v 1 (fun _ _ _ _ _ h => h) [2] hS rfl rfl rfl (by kernel_rfl) rfl rfl ?_
      obtain ⟨x697, hx698, hf⟩ := bs hf
      refine d_ixo 2 2 (fun _ _ _ _ _ h => h) [2] hS rfl h648 hx698 rfl rfl rfl rfl rfl rfl rfl (by kernel_rfl) rfl rfl ?_
      intro b699 l700 cs703 l701 hcs_ hC704 hun702
      obtain rfl := hcs_
      subst hC704
      have hq705 := KM.le.refl K641
      refine d_ldm 3 0 0 (fun _ _ _ _ _ h => h) [2] hS rfl rfl rfl rfl rfl (by kernel_rfl) rfl rfl ?_
      refine d_v 4 (fun _ _ _ _ _ h => h) [2] hS rfl rfl rfl (by kernel_rfl) rfl rfl ?_
      refine d_v 5 (fun _ _ _ _ _ h => h) [2] hS rfl rfl rfl (by kernel_rfl) rfl rfl ?_
      refine d_v 6 (fun _ _ _ _ _ h => h) [2] hS rfl rfl rfl (by kernel_rfl) rfl rfl ?_
      generalize hCg_ : ([(b699, Cl (l700 ++ (([(.int .i64 x697)] : List Value) ++ l701)) 3)] : Chunks) = C706 at hS h648 ⊢
      clear hCg_
      obtain ⟨x707, hx708, hf⟩ := bs hf
      refine d_ixo 7 2 (fun _ _ _ _ _ h => h) [2] hS rfl h648 hx708 rfl rfl rfl rfl rfl rfl rfl (by kernel_rfl) rfl rfl ?_
      intro b709 l710 cs713 l711 hcs_ hC714 hun712
      obtain rfl := hcs_
      subst hC714
      have hq715 := KM.le.refl K641
      refine d_ldm 8 0 0 (fun _ _ _ _ _ h => h) [2] hS rfl rfl rfl rfl rfl (by kernel_rfl) rfl rfl ?_
      refine d_v 9 (fun _ _ _ _ _ h => h) [2] hS rfl rfl rfl (by kernel_rfl) rfl rfl ?_
      refine d_end (by kernel_rfl) ?_
      refine qn ?_
      refine s_if rfl (fun hc => ?_) (fun hc => ?_)
      · replace hf := bif_t hc hf
        refine s_seq (s_reg ?_)
        refine s_v rfl rfl rfl ?_
        refine s_nil (qn ?_)
        replace hS : Sat w K641 (flat [_]) := (hS.sel [4] rfl)
        refine s_rets (qrb (qrt (qrt (qrb (qrt ?_)))))
        replace hf := LR.esc_some hf hm474
        have hq := Option.some.inj hf
        subst hq
        refine s_ret1 rfl (rv_t rfl) ?_
        exact ⟨K641, _, hle, rfl, Sat.nilG (hS.sel [0] rfl)⟩
      replace hf := bif_f hc hf
      refine s_skip (qbn (qn (s_reg ?_)))
      iterate 3 refine s_v rfl rfl rfl ?_
      refine s_nil (qn ?_)
      refine s_join hY _ ⟨w64 (v658 + 1), K641, C643, C646, [(b709, Cl (l710 ++ (([(.int .i64 x707)] : List Value) ++ l711)) 3)], C656, hf, rfl, hle, h642, h645, h648, h653, hS⟩ ⟨rfl, rfl, rfl, rfl, rfl, trivial⟩
    replace hf := bif_f hc hf
    refine s_exit (qxt (qxt (qxb (qn ?_))))
    have hq := Option.some.inj hf
    subst hq
    refine s_join hJ _ ⟨(), K641, C643, C646, C651, C656, rfl, rfl, hle, h642, h645, h648, h653, hS⟩ ⟨rfl, rfl, rfl, rfl, trivial⟩
  rintro _ w ⟨s471, K454, C456, C459, C464, C469, rfl, rfl, hle, h455, h458, h461, h466, hS⟩
  replace hf := LR.elim_brk hm474
  refine s_seq (s_reg ?_)
  iterate 2 refine s_v rfl rfl rfl ?_
  obtain ⟨K716, hk717, h718, hS⟩ := h461.freeze (hS.sel [2, 0, 1, 3, 4] rfl)
  replace hS : Sat w _ (flat [_, _, _, _]) := hS
  replace h466 := h466.mono hk717
  obtain ⟨K719, hk720, h721, hS⟩ := h466.freeze (hS.sel [2, 0, 1, 3] rfl)
  replace hS : Sat w _ (flat [_, _, _]) := hS
  obtain ⟨x722, hx723, hf⟩ := bs hf
  replace h718 := h718.mono hk720
  refine s_call isf14 hS.nilG (bonsaihelp_Ints_spec hx723 h718 h721) rfl rfl rfl ?_
  rintro _ K724 C726 w hk725 rfl hS
  replace hS := hS.drop1
  refine s_v rfl rfl rfl ?_
  obtain ⟨s739, hst740, hf⟩ := bs hf
  refine r_cut [_, _, _, _, _, _] (fun τ w => ∃ (K734 : KM) (C736 : Chunks), τ = [(6, (.pointer (some ⟨b25, 0, none⟩))), (8, (.slice a192 x187.1.length c193)), (66, (.bool s739))] ∧ KM.le K K734 ∧ SetO 62 K734 b25 x200.2 C736 ∧ SlK 3 K734 a192 c193 x187.1 ∧ Sat w K734 (flat [C736, L])) rfl (fun J hJ => ?_) ?_
  · replace hf := hst740
    cases hc : x722
    · replace hf := bif_f hc hf
      refine s_no rfl rfl ?_
      refine s_no rfl rfl ?_
      refine s_no rfl rfl ?_
      refine s_no rfl rfl ?_
      refine s_no rfl rfl ?_
      refine s_v rfl rfl rfl ?_
      have hq := Option.some.inj hf
      subst hq
      replace h458 := h458.mono ((hk717.trans hk720).trans hk725)
      replace hle := hle.trans ((hk717.trans hk720).trans hk725)
      replace h718 := h718.mono hk725
      refine r_join hJ _ ⟨K724, C459, rfl, hle, h458, h718, (hS.sel [1, 2] rfl)⟩ ⟨rfl, rfl, rfl, trivial⟩
    replace hf := bif_t hc hf
    refine s_v rfl rfl rfl ?_
    obtain ⟨x741, hx742, hf⟩ := bs hf
    replace h455 := h455.mono ((hk717.trans hk720).trans hk725)
    refine s_call isf16 (Sat.shut1 hS) (set_Set_int_Len_spec hx742 h455) rfl rfl rfl ?_
    rintro _ K743 C745 w hk744 ⟨rfl, h746⟩ hS
    iterate 4 refine s_v rfl rfl rfl ?_
    have hq := Option.some.inj hf
    subst hq
    have hkk0 := ((hk717.trans hk720).trans hk725).trans hk744
    replace h458 := h458.mono hkk0
    replace hle := hle.trans hkk0
    replace h718 := h718.mono (hk725.trans hk744)
    refine r_join hJ _ ⟨K743, C459, rfl, hle, h458, h718, (hS.sel [1, 2] rfl)⟩ ⟨rfl, rfl, rfl, trivial⟩
  rintro _ w ⟨K734, C736, rfl, hle, h735, h738, hS⟩
  refine s_v rfl rfl rfl ?_
  obtain ⟨s756, hst757, hf⟩ := bs hf
  refine r_cut [_, _, _, _, _, _] (fun τ w => ∃ (K755 : KM), τ = [(73, (.bool s756))] ∧ KM.le K K755 ∧ Sat w K755 (flat [L])) rfl (fun J hJ => ?_) ?_
  · replace hf := hst757
    cases hc : s739
    · replace hf := bif_f hc hf
      refine s_no rfl rfl ?_
      refine s_no rfl rfl ?_
      refine s_no rfl rfl ?_
      refine s_no rfl rfl ?_
      refine s_no rfl rfl ?_
      refine s_v rfl rfl rfl ?_
      have hq := Option.some.inj hf
      subst hq
      refine r_join hJ _ ⟨K734, rfl, hle, (hS.sel [1] rfl)⟩ ⟨rfl, trivial⟩
    replace hf := bif_t hc hf
    refine s_v rfl rfl rfl ?_
    obtain ⟨x758, hx759, hf⟩ := bs hf
    refine s_call isf16 (Sat.shut1 hS) (set_Set_int_Len_spec hx759 h735) rfl rfl rfl ?_
    rintro _ K760 C762 w hk761 ⟨rfl, h763⟩ hS
    iterate 4 refine s_v rfl rfl rfl ?_
    have hq := Option.some.inj hf
    subst hq
    replace hle := hle.trans hk761
    refine r_join hJ _ ⟨K760, rfl, hle, (hS.sel [1] rfl)⟩ ⟨rfl, trivial⟩
  rintro _ w ⟨K755, rfl, hle, hS⟩
  refine s_v rfl rfl rfl ?_
  refine s_nil (qn (s_rets ?_))
  have hq := Option.some.inj hf
  subst hq
  refine s_ret1 rfl (rv_t rfl) ?_
  exact ⟨K755, _, hle, rfl, Sat.nilG (hS.sel [0] rfl)⟩
end Go.Proofs.Ytdgpckcphkpclaa
