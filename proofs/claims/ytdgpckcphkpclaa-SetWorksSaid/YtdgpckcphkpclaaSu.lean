/- Functions of the program, and their walks: what each reckons, and that its code reckons it. -/
import Derived.Test.YtdgpckcphkpclaaSk
set_option linter.unusedVariables false
set_option linter.unusedSimpArgs false
set_option maxHeartbeats 0
set_option maxRecDepth 100000
namespace Go.Proofs.Ytdgpckcphkpclaa
open Go Go.Fw
noncomputable def bod4 : Code := Try.f4.body.getD .skip
theorem isf4 : IsFn Try.prog 4 Try.f4 bod4 := ⟨Try.func4, rfl, by decide⟩
-- 4 bonsai/bonsailaw7.SetWorks
def bonsailaw7_SetWorks.l1 (fu : Nat) (v16009 : (List Int)) : Nat → Int → Int → Option Int
  | 0, _, _ => none
  | k + 1, v18915, v18916 => bif decide (v18916 < (v16009.length : Int)) then (((idx v16009 v18916).bind fun x19030 => (idx v16009 v18915).bind fun x19040 => bif decide (x19030 < x19040) then (some v18916) else (some v18915)).bind fun s18990 => bonsailaw7_SetWorks.l1 fu v16009 k s18990 (w64 (v18916 + 1))) else (some v18915)
def bonsailaw7_SetWorks.l0 (fu : Nat) (p1 : (List Int)) (p5 : (List bonsailaw7_Act)) : Nat → (WorkV Int) → (List Int) → (List Int) → Int → Option (LR Unit Bool)
  | 0, _, _, _, _ => none
  | k + 1, v16007, v16008, v16009, v16010 => bif decide (v16010 < (w64 ((p1.length : Int) + (p5.length : Int)))) then (LR.then ((bif decide (v16010 < (p1.length : Int)) then ((idx p1 v16010).bind fun x17626 => some (0, x17626)) else ((idx p5 (w64 (v16010 - (p1.length : Int)))).bind fun x17641 => (idx p5 (w64 (v16010 - (p1.length : Int)))).bind fun x17646 => (bif decide ((Int.tmod x17641.What 5) < 4) then (some (decide ((Int.tmod v16010 3) > 0))) else (some false)).bind fun s17667 => bif s17667 then (some (Int.tmod x17641.What 5, iand .i64 x17646.X 7)) else (some (Int.tmod x17641.What 5, x17646.X)))).bind fun s17624 => (bif s17624.1 == 0 then (some (s17624.1 == 0)) else (some (s17624.1 == 1))).bind fun s17685 => bif s17685 then ((set_Work_int_Put.fn v16007 s17624.2).bind fun x17687 => (bonsailaw7_has.fn fu v16008 s17624.2).bind fun x17698 => bif x17687.1 == x17698 then (LR.esc (LR.esc (some false))) else ((bonsailaw7_has.fn fu v16008 s17624.2).bind fun x17709 => bif !x17709 then (guardB (roomy v16008.length 1 8) (guardB (roomy v16009.length 1 8) (some (.brk (x17687.2, (v16008 ++ ([s17624.2] : List Int)), (v16009 ++ ([s17624.2] : List Int))))))) else (some (.brk (x17687.2, v16008, v16009))))) else (bif s17624.1 == 2 then ((set_Work_int_Again.fn v16007 s17624.2).bind fun x17730 => ((bonsailaw7_has.fn fu v16009 s17624.2).bind fun x17777 => bif !x17777 then (guardB (roomy v16009.length 1 8) (some (v16009 ++ ([s17624.2] : List Int)))) else (some v16009)).bind fun s17771 => guardB (roomy v16008.length 1 8) (some (.brk (x17730, (v16008 ++ ([s17624.2] : List Int)), s17771)))) else ((set_Work_int_Take.fn v16007).bind fun x17798 => bif !(x17798.2.1 == (decide ((v16009.length : Int) > 0))) then (LR.esc (LR.esc (some false))) else (bif !x17798.2.1 then (some (.brk (x17798.2.2, v16008, v16009))) else ((bonsailaw7_SetWorks.l1 fu v16009 fu 0 0).bind fun s18434 => (idx v16009 s18434).bind fun x19049 => bif x17798.1 != x19049 then (LR.esc (LR.esc (some false))) else (guardB (subOk v16009.length 0 s18434) (guardB (subOk v16009.length (w64 (s18434 + 1)) (v16009.length : Int)) (guardB (roomy ([] : List Int).length (subl v16009 0 s18434).length 8) (guardB (roomy (([] : List Int) ++ (subl v16009 0 s18434)).length (subl v16009 (w64 (s18434 + 1)) (v16009.length : Int)).length 8) (some (.brk (x17798.2.2, v16008, ((([] : List Int) ++ (subl v16009 0 s18434)) ++ (subl v16009 (w64 (s18434 + 1)) (v16009.length : Int))))))))))))))) fun s17561 => bonsailaw7_SetWorks.l0 fu p1 p5 k s17561.1 s17561.2.1 s17561.2.2 (w64 (v16010 + 1))) else (some (.brk ()))
def bonsailaw7_SetWorks.fn (fu : Nat) (p1 : (List Int)) (p5 : (List bonsailaw7_Act)) : Option Bool := (bonsailaw7_known.fn fu).bind fun x10 => bif !x10 then (some false) else ((bif decide ((p1.length : Int) > 20) then (some true) else (some (decide ((p5.length : Int) > 60)))).bind fun s18 => bif s18 then (some true) else ((set_NewWork_int.fn fu []).bind fun x20 => LR.then (bonsailaw7_SetWorks.l0 fu p1 p5 fu x20 ([] : List Int) ([] : List Int) 0) fun s9562 => some true))
theorem bonsailaw7_SetWorks_spec {K : KM} {fu : Nat} {p1 : (List Int)} {p5 : (List bonsailaw7_Act)} {r : Bool} {a2 : Option Addr} {c3 : Nat} {a6 : Option Addr} {c7 : Nat} (hf : bonsailaw7_SetWorks.fn fu p1 p5 = some r) (h4 : SlK 3 K a2 c3 p1) (h8 : SlK 44 K a6 c7 p5) : Sp Try.prog 4 [(.slice a2 p1.length c3), (.slice a6 p5.length c7)] K [] (fun K' C v => v = (.bool r)) := by
  unfold bonsailaw7_SetWorks.fn at hf
  refine spec_enter isf4 rfl ?_
  intro w L hS
  replace hS : Sat w K (flat [L]) := hS
  have hle := KM.le.refl K
  unfold bod4 Try.f4
  dsimp only [Option.getD_some, argSlots]
  refine s_seq (s_reg ?_)
  refine s_v rfl rfl rfl ?_
  refine s_nil (qn (s_seq (s_seq (s_reg ?_))))
  obtain ⟨x10, hx11, hf⟩ := bs hf
  refine s_call isf8 hS.nilG (bonsailaw7_known_spec hx11) rfl rfl rfl ?_
  rintro _ K12 C14 w hk13 rfl hS
  replace hS := hS.drop1
  refine s_v rfl rfl rfl ?_
  refine s_nil (qn ?_)
  refine s_if rfl (fun hc => ?_) (fun hc => ?_)
  · replace hf := bif_t hc hf
    refine s_seq (s_reg ?_)
    refine s_v rfl rfl rfl ?_
    refine s_nil (qn (s_rets (qrt ?_)))
    have hq := Option.some.inj hf
    subst hq
    refine s_ret1 rfl (rv_t rfl) ?_
    replace hle := hle.trans hk13
    exact ⟨K12, _, hle, rfl, Sat.nilG (hS.sel [0] rfl)⟩
  replace hf := bif_f hc hf
  refine s_skip (qn (s_seq (s_seq (s_reg ?_))))
  iterate 4 refine s_v rfl rfl rfl ?_
  obtain ⟨s18, hst19, hf⟩ := bs hf
  refine r_cut [_, _, _, _] (fun τ w => ∃ (K15 : KM), τ = [(0, (.slice a2 p1.length c3)), (1, (.slice a6 p5.length c7)), (24, (.bool s18))] ∧ KM.le K K15 ∧ SlK 3 K15 a2 c3 p1 ∧ SlK 44 K15 a6 c7 p5 ∧ Sat w K15 (flat [L])) rfl (fun J hJ => ?_) ?_
  · replace hf := hst19
    cases hc : (decide ((p1.length : Int) > 20))
    · replace hf := bif_f hc hf
      iterate 4 refine s_v rfl rfl rfl ?_
      have hq := Option.some.inj hf
      subst hq
      replace h4 := h4.mono hk13
      replace h8 := h8.mono hk13
      replace hle := hle.trans hk13
      refine r_join hJ _ ⟨K12, rfl, hle, h4, h8, hS⟩ ⟨rfl, rfl, rfl, trivial⟩
    replace hf := bif_t hc hf
    refine s_no rfl rfl ?_
    refine s_no rfl rfl ?_
    refine s_no rfl rfl ?_
    refine s_v rfl rfl rfl ?_
    have hq := Option.some.inj hf
    subst hq
    replace h4 := h4.mono hk13
    replace h8 := h8.mono hk13
    replace hle := hle.trans hk13
    refine r_join hJ _ ⟨K12, rfl, hle, h4, h8, hS⟩ ⟨rfl, rfl, rfl, trivial⟩
  rintro _ w ⟨K15, rfl, hle, h16, h17, hS⟩
  refine s_nil (qn ?_)
  refine s_if rfl (fun hc => ?_) (fun hc => ?_)
  · replace hf := bif_t hc hf
    refine s_seq (s_reg ?_)
    refine s_v rfl rfl rfl ?_
    refine s_nil (qn (s_rets (qrt ?_)))
    have hq := Option.some.inj hf
    subst hq
    refine s_ret1 rfl (rv_t rfl) ?_
    exact ⟨K15, _, hle, rfl, Sat.nilG (hS.sel [0] rfl)⟩
  replace hf := bif_f hc hf
  refine s_skip (qn (s_seq (s_reg ?_)))
  obtain ⟨x20, hx21, hf⟩ := bs hf
  refine s_call isf23 hS.nilG (set_NewWork_int_spec hx21 SlK.nil) rfl rfl rfl ?_
  rintro _ K22 C24 w hk23 ⟨b25, rfl, h26⟩ hS
  refine s_v rfl rfl rfl ?_
  refine s_nil (qn (s_seq (s_reg ?_)))
  iterate 2 refine s_v rfl rfl rfl ?_
  refine s_nil (qn ?_)
  obtain ⟨res9563, hst9564, hm9565⟩ := LR.then_some hf
  refine s_cut (fun τ w => ∃ (s9562 : Unit) (K9561 : KM), res9563 = .brk s9562 ∧ τ = [] ∧ KM.le K K9561 ∧ Sat w K9561 (flat [L])) (fun J hJ => ?_) ?_
  · replace hf := hst9564
    refine s_seq (s_reg ?_)
    refine s_v rfl rfl rfl ?_
    refine s_nil (qn (s_block ?_))
    replace hS := hS.nilG
    replace hS := hS.nilG
    replace h16 := h16.mono hk23
    replace h17 := h17.mono hk23
    replace hle := hle.trans hk23
    refine s_loopp (fun n τ w => ∃ (v16007 : (WorkV Int)) (v16008 : (List Int)) (v16009 : (List Int)) (v16010 : Int) (K15991 : KM) (C15995 : Chunks) (a15998 : Option Addr) (c15999 : Nat) (C16000 : Chunks) (a16003 : Option Addr) (c16004 : Nat) (C16005 : Chunks), bonsailaw7_SetWorks.l0 fu p1 p5 n v16007 v16008 v16009 v16010 = some res9563 ∧ τ = [(0, (.slice a2 p1.length c3)), (1, (.slice a6 p5.length c7)), (5, (.pointer (some ⟨b25, 0, none⟩))), (6, (.slice a15998 v16008.length c15999)), (7, (.slice a16003 v16009.length c16004)), (8, (.int .i64 v16010))] ∧ KM.le K K15991 ∧ SlK 3 K15991 a2 c3 p1 ∧ SlK 44 K15991 a6 c7 p5 ∧ WorkO 68 62 3 K15991 b25 v16007 C15995 ∧ OwnS 3 K15991 (.slice a15998 v16008.length c15999) v16008 C16000 ∧ OwnS 3 K15991 (.slice a16003 v16009.length c16004) v16009 C16005 ∧ Sat w K15991 (flat [C15995, C16000, C16005, L])) _ ⟨x20, ([] : List Int), ([] : List Int), 0, K22, C24, none, 0, [], none, 0, [], hf, rfl, hle, h16, h17, h26, OwnS.nil, OwnS.nil, (hS.sel [2, 1, 0, 3] rfl)⟩ ⟨rfl, rfl, rfl, rfl, rfl, rfl, trivial⟩ ?_ ?_
    · rintro _ _ ⟨_, _, _, _, _, _, _, _, _, _, _, _, hf, _⟩
      exact absurd hf (by simp [bonsailaw7_SetWorks.l0])
    rintro n _ w Y hY ⟨v16007, v16008, v16009, v16010, K15991, C15995, a15998, c15999, C16000, a16003, c16004, C16005, hf, rfl, hle, h15992, h15993, h15994, h15997, h16002, hS⟩
    rw [bonsailaw7_SetWorks.l0] at hf
    refine s_seq (s_seq (s_reg ?_))
    iterate 7 refine s_v rfl rfl rfl ?_
    refine s_nil (qn ?_)
    refine s_if rfl (fun hc => ?_) (fun hc => ?_)
    · replace hf := bif_t hc hf
      refine s_skip (qn ?_)
      obtain ⟨res17562, hst17563, hm17564⟩ := LR.then_some hf
      refine s_cut (fun τ w => ∃ (s17561 : ((WorkV Int) × (List Int) × (List Int))) (K17545 : KM) (C17549 : Chunks) (a17552 : Option Addr) (c17553 : Nat) (C17554 : Chunks) (a17557 : Option Addr) (c17558 : Nat) (C17559 : Chunks), res17562 = .brk s17561 ∧ τ = [(0, (.slice a2 p1.length c3)), (1, (.slice a6 p5.length c7)), (5, (.pointer (some ⟨b25, 0, none⟩))), (6, (.slice a17552 s17561.2.1.length c17553)), (7, (.slice a17557 s17561.2.2.length c17558)), (8, (.int .i64 v16010))] ∧ KM.le K K17545 ∧ SlK 3 K17545 a2 c3 p1 ∧ SlK 44 K17545 a6 c7 p5 ∧ WorkO 68 62 3 K17545 b25 s17561.1 C17549 ∧ OwnS 3 K17545 (.slice a17552 s17561.2.1.length c17553) s17561.2.1 C17554 ∧ OwnS 3 K17545 (.slice a17557 s17561.2.2.length c17558) s17561.2.2 C17559 ∧ Sat w K17545 (flat [C17549, C17554, C17559, L])) (fun J hJ => ?_) ?_
      · replace hf := hst17563
        refine s_block (s_seq (s_reg ?_))
        iterate 2 refine s_v rfl rfl rfl ?_
        refine s_nil (qn ?_)
        obtain ⟨s17624, hst17625, hf⟩ := bs hf
        refine s_cut (fun τ w => ∃ (K17608 : KM) (C17612 : Chunks) (C17617 : Chunks) (C17622 : Chunks), τ = [(0, (.slice a2 p1.length c3)), (1, (.slice a6 p5.length c7)), (5, (.pointer (some ⟨b25, 0, none⟩))), (6, (.slice a15998 v16008.length c15999)), (7, (.slice a16003 v16009.length c16004)), (8, (.int .i64 v16010)), (9, (.int .u8 s17624.1)), (10, (.int .i64 s17624.2))] ∧ KM.le K K17608 ∧ SlK 3 K17608 a2 c3 p1 ∧ SlK 44 K17608 a6 c7 p5 ∧ WorkO 68 62 3 K17608 b25 v16007 C17612 ∧ OwnS 3 K17608 (.slice a15998 v16008.length c15999) v16008 C17617 ∧ OwnS 3 K17608 (.slice a16003 v16009.length c16004) v16009 C17622 ∧ Sat w K17608 (flat [C17612, C17617, C17622, L])) (fun J hJ => ?_) ?_
        · replace hf := hst17625
          refine s_seq (s_reg ?_)
          iterate 4 refine s_v rfl rfl rfl ?_
          refine s_nil (qn ?_)
          refine s_if rfl (fun hc => ?_) (fun hc => ?_)
          · replace hf := bif_t hc hf
            refine s_reg ?_
            iterate 2 refine s_v rfl rfl rfl ?_
            obtain ⟨x17626, hx17627, hf⟩ := bs hf
            refine s_ixk h15992 rfl hx17627 rfl rfl rfl rfl rfl rfl rfl ?_
            rintro b17628 o17629 _ rfl h17630
            refine s_ldk 0 hS h17630 rfl rfl rfl rfl ?_
            refine s_v rfl rfl rfl ?_
            refine s_nil (qn ?_)
            have hq := Option.some.inj hf
            subst hq
            refine s_join hJ _ ⟨K15991, C15995, C16000, C16005, rfl, hle, h15992, h15993, h15994, h15997, h16002, hS⟩ ⟨rfl, rfl, rfl, rfl, rfl, rfl, rfl, rfl, trivial⟩
          replace hf := bif_f hc hf
          refine s_seq ?_
          refine d_start [] [] hS ?_
          intro w hS
          refine d_v 0 (fun _ _ _ _ _ h => h) [] hS rfl rfl rfl (by kernel_rfl) rfl rfl ?_
          refine d_v 1 (fun _ _ _ _ _ h => h) [] hS rfl rfl rfl (by kernel_rfl) rfl rfl ?_
          refine d_v 2 (fun _ _ _ _ _ h => h) [] hS rfl rfl rfl (by kernel_rfl) rfl rfl ?_
          refine d_v 3 (fun _ _ _ _ _ h => h) [] hS rfl rfl rfl (by kernel_rfl) rfl rfl ?_
          refine d_v 4 (fun _ _ _ _ _ h => h) [] hS rfl rfl rfl (by kernel_rfl) rfl rfl ?_
          obtain ⟨x17641, hx17642, hf⟩ := bs hf
          refine d_ixk 5 (fun _ _ _ _ _ h => h) [] hS h15993 rfl hx17642 rfl rfl rfl rfl rfl rfl rfl (by kernel_rfl) rfl rfl ?_
          rintro b17643 o17644 _ rfl h17645
          refine d_v 6 (fun _ _ _ _ _ h => h) [] hS rfl rfl rfl (by kernel_rfl) rfl rfl ?_
          refine d_ldk 7 0 (fun _ _ _ _ _ h => h) [] hS h17645 rfl rfl rfl rfl (by kernel_rfl) rfl rfl ?_
          refine d_v 8 (fun _ _ _ _ _ h => h) [] hS rfl rfl rfl (by kernel_rfl) rfl rfl ?_
          refine d_v 9 (fun _ _ _ _ _ h => h) [] hS rfl rfl rfl (by kernel_rfl) rfl rfl ?_
          refine d_v 10 (fun _ _ _ _ _ h => h) [] hS rfl rfl rfl (by kernel_rfl) rfl rfl ?_
          refine d_v 11 (fun _ _ _ _ _ h => h) [] hS rfl rfl rfl (by kernel_rfl) rfl rfl ?_
          refine d_v 12 (fun _ _ _ _ _ h => h) [] hS rfl rfl rfl (by kernel_rfl) rfl rfl ?_
          refine d_v 13 (fun _ _ _ _ _ h => h) [] hS rfl rfl rfl (by kernel_rfl) rfl rfl ?_
          obtain ⟨x17646, hx17647, hf⟩ := bs hf
          refine d_ixk 14 (fun _ _ _ _ _ h => h) [] hS h15993 rfl hx17647 rfl rfl rfl rfl rfl rfl rfl (by kernel_rfl) rfl rfl ?_
          rintro b17648 o17649 _ rfl h17650
          refine d_v 15 (fun _ _ _ _ _ h => h) [] hS rfl rfl rfl (by kernel_rfl) rfl rfl ?_
          refine d_ldk 16 1 (fun _ _ _ _ _ h => h) [] hS h17650 rfl rfl rfl rfl (by kernel_rfl) rfl rfl ?_
          refine d_v 17 (fun _ _ _ _ _ h => h) [] hS rfl rfl rfl (by kernel_rfl) rfl rfl ?_
          refine d_v 18 (fun _ _ _ _ _ h => h) [] hS rfl rfl rfl (by kernel_rfl) rfl rfl ?_
          refine d_end (by kernel_rfl) ?_
          refine qn (s_seq (s_reg ?_))
          iterate 3 refine s_v rfl rfl rfl ?_
          obtain ⟨s17667, hst17668, hf⟩ := bs hf
          refine r_cut [_, _, _, _] (fun τ w => ∃ (K17651 : KM) (C17655 : Chunks) (C17660 : Chunks) (C17665 : Chunks), τ = [(0, (.slice a2 p1.length c3)), (1, (.slice a6 p5.length c7)), (5, (.pointer (some ⟨b25, 0, none⟩))), (6, (.slice a15998 v16008.length c15999)), (7, (.slice a16003 v16009.length c16004)), (8, (.int .i64 v16010)), (9, (.int .u8 (Int.tmod x17641.What 5))), (10, (.int .i64 x17646.X)), (66, (.bool s17667))] ∧ KM.le K K17651 ∧ SlK 3 K17651 a2 c3 p1 ∧ SlK 44 K17651 a6 c7 p5 ∧ WorkO 68 62 3 K17651 b25 v16007 C17655 ∧ OwnS 3 K17651 (.slice a15998 v16008.length c15999) v16008 C17660 ∧ OwnS 3 K17651 (.slice a16003 v16009.length c16004) v16009 C17665 ∧ Sat w K17651 (flat [C17655, C17660, C17665, L])) rfl (fun J hJ => ?_) ?_
          · replace hf := hst17668
            cases hc : (decide ((Int.tmod x17641.What 5) < 4))
            · replace hf := bif_f hc hf
              refine s_no rfl rfl ?_
              refine s_no rfl rfl ?_
              refine s_no rfl rfl ?_
              refine s_v rfl rfl rfl ?_
              have hq := Option.some.inj hf
              subst hq
              refine r_join hJ _ ⟨K15991, C15995, C16000, C16005, rfl, hle, h15992, h15993, h15994, h15997, h16002, hS⟩ ⟨rfl, rfl, rfl, rfl, rfl, rfl, rfl, rfl, rfl, trivial⟩
            replace hf := bif_t hc hf
            iterate 4 refine s_v rfl rfl rfl ?_
            have hq := Option.some.inj hf
            subst hq
            refine r_join hJ _ ⟨K15991, C15995, C16000, C16005, rfl, hle, h15992, h15993, h15994, h15997, h16002, hS⟩ ⟨rfl, rfl, rfl, rfl, rfl, rfl, rfl, rfl, rfl, trivial⟩
          rintro _ w ⟨K17651, C17655, C17660, C17665, rfl, hle, h17652, h17653, h17654, h17657, h17662, hS⟩
          refine s_nil (qn ?_)
          refine s_if rfl (fun hc => ?_) (fun hc => ?_)
          · replace hf := bif_t hc hf
            refine s_reg ?_
            iterate 3 refine s_v rfl rfl rfl ?_
            refine s_nil (qn ?_)
            have hq := Option.some.inj hf
            subst hq
            refine s_join hJ _ ⟨K17651, C17655, C17660, C17665, rfl, hle, h17652, h17653, h17654, h17657, h17662, hS⟩ ⟨rfl, rfl, rfl, rfl, rfl, rfl, rfl, rfl, trivial⟩
          replace hf := bif_f hc hf
          refine s_skip (qn ?_)
          have hq := Option.some.inj hf
          subst hq
          refine s_join hJ _ ⟨K17651, C17655, C17660, C17665, rfl, hle, h17652, h17653, h17654, h17657, h17662, hS⟩ ⟨rfl, rfl, rfl, rfl, rfl, rfl, rfl, rfl, trivial⟩
        rintro _ w ⟨K17608, C17612, C17617, C17622, rfl, hle, h17609, h17610, h17611, h17614, h17619, hS⟩
        refine s_seq (s_reg ?_)
        refine s_v rfl rfl rfl ?_
        refine s_nil (qn (s_block ?_))
        obtain ⟨s17685, hst17686, hf⟩ := bs hf
        refine s_cut (fun τ w => ∃ (K17669 : KM) (C17673 : Chunks) (C17678 : Chunks) (C17683 : Chunks), τ = [(0, (.slice a2 p1.length c3)), (1, (.slice a6 p5.length c7)), (5, (.pointer (some ⟨b25, 0, none⟩))), (6, (.slice a15998 v16008.length c15999)), (7, (.slice a16003 v16009.length c16004)), (8, (.int .i64 v16010)), (10, (.int .i64 s17624.2)), (69, (.int .u8 s17624.1)), (113, (.bool s17685))] ∧ KM.le K K17669 ∧ SlK 3 K17669 a2 c3 p1 ∧ SlK 44 K17669 a6 c7 p5 ∧ WorkO 68 62 3 K17669 b25 v16007 C17673 ∧ OwnS 3 K17669 (.slice a15998 v16008.length c15999) v16008 C17678 ∧ OwnS 3 K17669 (.slice a16003 v16009.length c16004) v16009 C17683 ∧ Sat w K17669 (flat [C17673, C17678, C17683, L])) (fun J hJ => ?_) ?_
        · replace hf := hst17686
          refine s_seq (s_reg ?_)
          iterate 2 refine s_v rfl rfl rfl ?_
          refine s_nil (qn ?_)
          refine s_if rfl (fun hc => ?_) (fun hc => ?_)
          · replace hf := bif_t hc hf
            refine s_skip (qn ?_)
            have hq := Option.some.inj hf
            subst hq
            refine s_join hJ _ ⟨K17608, C17612, C17617, C17622, rfl, hle, h17609, h17610, h17611, h17614, h17619, hS⟩ ⟨rfl, rfl, rfl, rfl, rfl, rfl, rfl, rfl, rfl, trivial⟩
          replace hf := bif_f hc hf
          refine s_reg ?_
          iterate 2 refine s_v rfl rfl rfl ?_
          refine s_nil (qn ?_)
          have hq := Option.some.inj hf
          subst hq
          refine s_join hJ _ ⟨K17608, C17612, C17617, C17622, rfl, hle, h17609, h17610, h17611, h17614, h17619, hS⟩ ⟨rfl, rfl, rfl, rfl, rfl, rfl, rfl, rfl, rfl, trivial⟩
        rintro _ w ⟨K17669, C17673, C17678, C17683, rfl, hle, h17670, h17671, h17672, h17675, h17680, hS⟩
        refine s_if rfl (fun hc => ?_) (fun hc => ?_)
        · replace hf := bif_t hc hf
          refine s_seq (s_seq (s_reg ?_))
          iterate 2 refine s_v rfl rfl rfl ?_
          obtain ⟨x17687, hx17688, hf⟩ := bs hf
          refine s_call isf24 (Sat.shut1 hS) (set_Work_int_Put_spec hx17688 h17672) rfl rfl rfl ?_
          rintro _ K17689 C17691 w hk17690 ⟨rfl, h17692⟩ hS
          iterate 2 refine s_v rfl rfl rfl ?_
          replace h17675 := h17675.mono hk17690
          obtain ⟨K17694, hk17695, h17696, hS, hth17697⟩ := OwnS.lend h17675 (hS.sel [1, 0, 2, 3] rfl)
          replace hS : Sat w _ (flat [_, _, _]) := hS
          obtain ⟨x17698, hx17699, hf⟩ := bs hf
          refine s_call isf11 hS.nilG (bonsailaw7_has_spec hx17699 h17696) rfl rfl rfl ?_
          rintro _ K17700 C17702 w hk17701 rfl hS
          replace hS := hS.drop1
          obtain ⟨K17703, hk17704, hS⟩ := hth17697 _ _ _ hk17701 hS
          refine s_v rfl rfl rfl ?_
          refine s_nil (qn ?_)
          refine s_if rfl (fun hc => ?_) (fun hc => ?_)
          · replace hf := bif_t hc hf
            refine s_seq (s_reg ?_)
            refine s_v rfl rfl rfl ?_
            refine s_nil (qn ?_)
            replace hS : Sat w K17703 (flat [_]) := (hS.sel [3] rfl)
            refine s_rets (qrt (qrb (qrb (qrt ?_))))
            replace hf := LR.esc_some hf hm17564
            refine qrt (qrb (qrt ?_))
            replace hf := LR.esc_some hf hm9565
            have hq := Option.some.inj hf
            subst hq
            refine s_ret1 rfl (rv_t rfl) ?_
            replace hle := hle.trans (hk17690.trans hk17704)
            exact ⟨K17703, _, hle, rfl, Sat.nilG (hS.sel [0] rfl)⟩
          replace hf := bif_f hc hf
          refine s_skip (qn (s_seq (s_reg ?_)))
          iterate 2 refine s_v rfl rfl rfl ?_
          replace h17675 := h17675.mono hk17704
          obtain ⟨K17705, hk17706, h17707, hS, hth17708⟩ := OwnS.lend h17675 (hS.sel [0, 1, 2, 3] rfl)
          replace hS : Sat w _ (flat [_, _, _]) := hS
          obtain ⟨x17709, hx17710, hf⟩ := bs hf
          refine s_call isf11 hS.nilG (bonsailaw7_has_spec hx17710 h17707) rfl rfl rfl ?_
          rintro _ K17711 C17713 w hk17712 rfl hS
          replace hS := hS.drop1
          obtain ⟨K17714, hk17715, hS⟩ := hth17708 _ _ _ hk17712 hS
          refine s_v rfl rfl rfl ?_
          refine s_nil (qn ?_)
          refine s_if rfl (fun hc => ?_) (fun hc => ?_)
          · replace hf := bif_t hc hf
            refine s_reg ?_
            iterate 2 refine s_v rfl rfl rfl ?_
            refine s_bwc (cs := [(.int .i64 s17624.2)]) hS rfl rfl rfl rfl rfl rfl rfl rfl rfl rfl ?_
            intro b17716 w hS
            obtain ⟨hm17718, hf⟩ := gs hf
            replace h17675 := h17675.mono hk17715
            refine s_appv (e := 3) (ys := ([s17624.2] : List Int)) 1 0 hS rfl h17675 rfl ⟨[(.int .i64 s17624.2)], _, rfl, rfl, rfl⟩ rfl rfl rfl rfl rfl rfl rfl rfl (roomy_le hm17718) rfl rfl rfl ?_
            intro a17719 c17720 w C17721 h17722 hS
            replace hS : Sat w _ (flat [_, _, _, _, _]) := hS
            iterate 2 refine s_v rfl rfl rfl ?_
            refine s_bwc (cs := [(.int .i64 s17624.2)]) hS rfl rfl rfl rfl rfl rfl rfl rfl rfl rfl ?_
            intro b17723 w hS
            obtain ⟨hm17725, hf⟩ := gs hf
            replace h17680 := h17680.mono ((hk17690.trans hk17704).trans hk17715)
            refine s_appv (e := 3) (ys := ([s17624.2] : List Int)) 4 0 hS rfl h17680 rfl ⟨[(.int .i64 s17624.2)], _, rfl, rfl, rfl⟩ rfl rfl rfl rfl rfl rfl rfl rfl (roomy_le hm17725) rfl rfl rfl ?_
            intro a17726 c17727 w C17728 h17729 hS
            replace hS : Sat w _ (flat [_, _, _, _, _, _]) := hS
            iterate 2 refine s_v rfl rfl rfl ?_
            refine s_nil (qbn (qbn (qn ?_)))
            have hq := Option.some.inj hf
            subst hq
            replace h17670 := h17670.mono ((hk17690.trans hk17704).trans hk17715)
            replace h17671 := h17671.mono ((hk17690.trans hk17704).trans hk17715)
            replace hle := hle.trans ((hk17690.trans hk17704).trans hk17715)
            replace h17692 := h17692.mono (hk17704.trans hk17715)
            refine s_join hJ _ ⟨(x17687.2, (v16008 ++ ([s17624.2] : List Int)), (v16009 ++ ([s17624.2] : List Int))), K17714, C17691, a17719, c17720, C17721, a17726, c17727, C17728, rfl, rfl, hle, h17670, h17671, h17692, h17722, h17729, (hS.sel [3, 2, 4, 5] rfl)⟩ ⟨rfl, rfl, rfl, rfl, rfl, rfl, trivial⟩
          replace hf := bif_f hc hf
          refine s_skip (qbn (qbn (qn ?_)))
          have hq := Option.some.inj hf
          subst hq
          replace h17670 := h17670.mono ((hk17690.trans hk17704).trans hk17715)
          replace h17671 := h17671.mono ((hk17690.trans hk17704).trans hk17715)
          replace h17680 := h17680.mono ((hk17690.trans hk17704).trans hk17715)
          replace hle := hle.trans ((hk17690.trans hk17704).trans hk17715)
          replace h17692 := h17692.mono (hk17704.trans hk17715)
          replace h17675 := h17675.mono hk17715
          refine s_join hJ _ ⟨(x17687.2, v16008, v16009), K17714, C17691, a15998, c15999, C17678, a16003, c16004, C17683, rfl, rfl, hle, h17670, h17671, h17692, h17675, h17680, (hS.sel [1, 0, 2, 3] rfl)⟩ ⟨rfl, rfl, rfl, rfl, rfl, rfl, trivial⟩
        replace hf := bif_f hc hf
        refine s_seq (s_reg ?_)
        iterate 2 refine s_v rfl rfl rfl ?_
        refine s_nil (qn ?_)
        refine s_if rfl (fun hc => ?_) (fun hc => ?_)
        · replace hf := bif_t hc hf
          refine s_seq (s_reg ?_)
          iterate 2 refine s_v rfl rfl rfl ?_
          obtain ⟨x17730, hx17731, hf⟩ := bs hf
          refine s_call isf25 (Sat.shut1 hS) (set_Work_int_Again_spec hx17731 h17672) rfl rfl rfl ?_
          rintro _ K17732 C17734 w hk17733 ⟨rfl, h17735⟩ hS
          refine s_nil (qn ?_)
          obtain ⟨s17771, hst17772, hf⟩ := bs hf
          refine s_cut (fun τ w => ∃ (K17755 : KM) (C17759 : Chunks) (C17764 : Chunks) (a17767 : Option Addr) (c17768 : Nat) (C17769 : Chunks), τ = [(0, (.slice a2 p1.length c3)), (1, (.slice a6 p5.length c7)), (5, (.pointer (some ⟨b25, 0, none⟩))), (6, (.slice a15998 v16008.length c15999)), (7, (.slice a17767 s17771.length c17768)), (8, (.int .i64 v16010)), (10, (.int .i64 s17624.2))] ∧ KM.le K K17755 ∧ SlK 3 K17755 a2 c3 p1 ∧ SlK 44 K17755 a6 c7 p5 ∧ WorkO 68 62 3 K17755 b25 x17730 C17759 ∧ OwnS 3 K17755 (.slice a15998 v16008.length c15999) v16008 C17764 ∧ OwnS 3 K17755 (.slice a17767 s17771.length c17768) s17771 C17769 ∧ Sat w K17755 (flat [C17759, C17764, C17769, L])) (fun J hJ => ?_) ?_
          · replace hf := hst17772
            refine s_seq (s_reg ?_)
            iterate 2 refine s_v rfl rfl rfl ?_
            replace h17680 := h17680.mono hk17733
            obtain ⟨K17773, hk17774, h17775, hS, hth17776⟩ := OwnS.lend h17680 (hS.sel [2, 0, 1, 3] rfl)
            replace hS : Sat w _ (flat [_, _, _]) := hS
            obtain ⟨x17777, hx17778, hf⟩ := bs hf
            refine s_call isf11 hS.nilG (bonsailaw7_has_spec hx17778 h17775) rfl rfl rfl ?_
            rintro _ K17779 C17781 w hk17780 rfl hS
            replace hS := hS.drop1
            obtain ⟨K17782, hk17783, hS⟩ := hth17776 _ _ _ hk17780 hS
            refine s_v rfl rfl rfl ?_
            refine s_nil (qn ?_)
            refine s_if rfl (fun hc => ?_) (fun hc => ?_)
            · replace hf := bif_t hc hf
              refine s_reg ?_
              iterate 2 refine s_v rfl rfl rfl ?_
              refine s_bwc (cs := [(.int .i64 s17624.2)]) hS rfl rfl rfl rfl rfl rfl rfl rfl rfl rfl ?_
              intro b17784 w hS
              obtain ⟨hm17786, hf⟩ := gs hf
              replace h17680 := h17680.mono hk17783
              refine s_appv (e := 3) (ys := ([s17624.2] : List Int)) 1 0 hS rfl h17680 rfl ⟨[(.int .i64 s17624.2)], _, rfl, rfl, rfl⟩ rfl rfl rfl rfl rfl rfl rfl rfl (roomy_le hm17786) rfl rfl rfl ?_
              intro a17787 c17788 w C17789 h17790 hS
              replace hS : Sat w _ (flat [_, _, _, _, _]) := hS
              refine s_v rfl rfl rfl ?_
              refine s_nil (qn ?_)
              have hq := Option.some.inj hf
              subst hq
              replace h17670 := h17670.mono (hk17733.trans hk17783)
              replace h17671 := h17671.mono (hk17733.trans hk17783)
              replace h17675 := h17675.mono (hk17733.trans hk17783)
              replace hle := hle.trans (hk17733.trans hk17783)
              replace h17735 := h17735.mono hk17783
              refine s_join hJ _ ⟨K17782, C17734, C17678, a17787, c17788, C17789, rfl, hle, h17670, h17671, h17735, h17675, h17790, (hS.sel [2, 3, 1, 4] rfl)⟩ ⟨rfl, rfl, rfl, rfl, rfl, rfl, rfl, trivial⟩
            replace hf := bif_f hc hf
            refine s_skip (qn ?_)
            have hq := Option.some.inj hf
            subst hq
            replace h17670 := h17670.mono (hk17733.trans hk17783)
            replace h17671 := h17671.mono (hk17733.trans hk17783)
            replace h17675 := h17675.mono (hk17733.trans hk17783)
            replace hle := hle.trans (hk17733.trans hk17783)
            replace h17735 := h17735.mono hk17783
            replace h17680 := h17680.mono hk17783
            refine s_join hJ _ ⟨K17782, C17734, C17678, a16003, c16004, C17683, rfl, hle, h17670, h17671, h17735, h17675, h17680, (hS.sel [1, 2, 0, 3] rfl)⟩ ⟨rfl, rfl, rfl, rfl, rfl, rfl, rfl, trivial⟩
          rintro _ w ⟨K17755, C17759, C17764, a17767, c17768, C17769, rfl, hle, h17756, h17757, h17758, h17761, h17766, hS⟩
          refine s_reg ?_
          iterate 2 refine s_v rfl rfl rfl ?_
          refine s_bwc (cs := [(.int .i64 s17624.2)]) hS rfl rfl rfl rfl rfl rfl rfl rfl rfl rfl ?_
          intro b17791 w hS
          obtain ⟨hm17793, hf⟩ := gs hf
          refine s_appv (e := 3) (ys := ([s17624.2] : List Int)) 2 0 hS rfl h17761 rfl ⟨[(.int .i64 s17624.2)], _, rfl, rfl, rfl⟩ rfl rfl rfl rfl rfl rfl rfl rfl (roomy_le hm17793) rfl rfl rfl ?_
          intro a17794 c17795 w C17796 h17797 hS
          replace hS : Sat w _ (flat [_, _, _, _, _]) := hS
          refine s_v rfl rfl rfl ?_
          refine s_nil (qbn (qbn (qn ?_)))
          have hq := Option.some.inj hf
          subst hq
          refine s_join hJ _ ⟨(x17730, (v16008 ++ ([s17624.2] : List Int)), s17771), K17755, C17759, a17794, c17795, C17796, a17767, c17768, C17769, rfl, rfl, hle, h17756, h17757, h17758, h17797, h17766, (hS.sel [1, 2, 3, 4] rfl)⟩ ⟨rfl, rfl, rfl, rfl, rfl, rfl, trivial⟩
        replace hf := bif_f hc hf
        refine s_seq (s_reg ?_)
        refine s_v rfl rfl rfl ?_
        obtain ⟨x17798, hx17799, hf⟩ := bs hf
        refine s_call isf26 (Sat.shut1 hS) (set_Work_int_Take_spec hx17799 h17672) rfl rfl rfl ?_
        rintro _ K17800 C17802 w hk17801 ⟨rfl, h17803⟩ hS
        iterate 5 refine s_v rfl rfl rfl ?_
        refine s_nil (qn (s_seq (s_seq (s_reg ?_))))
        iterate 5 refine s_v rfl rfl rfl ?_
        refine s_nil (qn ?_)
        refine s_if rfl (fun hc => ?_) (fun hc => ?_)
        · replace hf := bif_t hc hf
          refine s_seq (s_reg ?_)
          refine s_v rfl rfl rfl ?_
          refine s_nil (qn ?_)
          replace hS : Sat w K17800 (flat [_]) := (hS.sel [3] rfl)
          refine s_rets (qrt (qrb (qrb (qrt ?_))))
          replace hf := LR.esc_some hf hm17564
          refine qrt (qrb (qrt ?_))
          replace hf := LR.esc_some hf hm9565
          have hq := Option.some.inj hf
          subst hq
          refine s_ret1 rfl (rv_t rfl) ?_
          replace hle := hle.trans hk17801
          exact ⟨K17800, _, hle, rfl, Sat.nilG (hS.sel [0] rfl)⟩
        replace hf := bif_f hc hf
        refine s_skip (qn (s_seq (s_seq (s_reg ?_))))
        iterate 2 refine s_v rfl rfl rfl ?_
        refine s_nil (qn ?_)
        refine s_if rfl (fun hc => ?_) (fun hc => ?_)
        · replace hf := bif_t hc hf
          refine s_exit (qxt (qxn rfl (qxb (qn ?_))))
          have hq := Option.some.inj hf
          subst hq
          replace h17670 := h17670.mono hk17801
          replace h17671 := h17671.mono hk17801
          replace h17675 := h17675.mono hk17801
          replace h17680 := h17680.mono hk17801
          replace hle := hle.trans hk17801
          refine s_join hJ _ ⟨(x17798.2.2, v16008, v16009), K17800, C17802, a15998, c15999, C17678, a16003, c16004, C17683, rfl, rfl, hle, h17670, h17671, h17803, h17675, h17680, hS⟩ ⟨rfl, rfl, rfl, rfl, rfl, rfl, trivial⟩
        replace hf := bif_f hc hf
        refine s_skip (qn (s_seq (s_reg ?_)))
        refine s_v rfl rfl rfl ?_
        refine s_nil (qn ?_)
        obtain ⟨s18434, hst18435, hf⟩ := bs hf
        refine s_cut (fun τ w => ∃ (K18418 : KM) (C18422 : Chunks) (C18427 : Chunks) (C18432 : Chunks), τ = [(0, (.slice a2 p1.length c3)), (1, (.slice a6 p5.length c7)), (5, (.pointer (some ⟨b25, 0, none⟩))), (6, (.slice a15998 v16008.length c15999)), (7, (.slice a16003 v16009.length c16004)), (8, (.int .i64 v16010)), (11, (.int .i64 x17798.1)), (13, (.int .i64 s18434))] ∧ KM.le K K18418 ∧ SlK 3 K18418 a2 c3 p1 ∧ SlK 44 K18418 a6 c7 p5 ∧ WorkO 68 62 3 K18418 b25 x17798.2.2 C18422 ∧ OwnS 3 K18418 (.slice a15998 v16008.length c15999) v16008 C18427 ∧ OwnS 3 K18418 (.slice a16003 v16009.length c16004) v16009 C18432 ∧ Sat w K18418 (flat [C18422, C18427, C18432, L])) (fun J hJ => ?_) ?_
        · replace hf := hst18435
          refine s_seq (s_reg ?_)
          refine s_v rfl rfl rfl ?_
          refine s_nil (qn (s_block ?_))
          replace h17670 := h17670.mono hk17801
          replace h17671 := h17671.mono hk17801
          replace h17675 := h17675.mono hk17801
          replace h17680 := h17680.mono hk17801
          replace hle := hle.trans hk17801
          refine s_loopp (fun n τ w => ∃ (v18915 : Int) (v18916 : Int) (K18899 : KM) (C18903 : Chunks) (C18908 : Chunks) (C18913 : Chunks), bonsailaw7_SetWorks.l1 fu v16009 n v18915 v18916 = some s18434 ∧ τ = [(0, (.slice a2 p1.length c3)), (1, (.slice a6 p5.length c7)), (5, (.pointer (some ⟨b25, 0, none⟩))), (6, (.slice a15998 v16008.length c15999)), (7, (.slice a16003 v16009.length c16004)), (8, (.int .i64 v16010)), (11, (.int .i64 x17798.1)), (13, (.int .i64 v18915)), (14, (.int .i64 v18916))] ∧ KM.le K K18899 ∧ SlK 3 K18899 a2 c3 p1 ∧ SlK 44 K18899 a6 c7 p5 ∧ WorkO 68 62 3 K18899 b25 x17798.2.2 C18903 ∧ OwnS 3 K18899 (.slice a15998 v16008.length c15999) v16008 C18908 ∧ OwnS 3 K18899 (.slice a16003 v16009.length c16004) v16009 C18913 ∧ Sat w K18899 (flat [C18903, C18908, C18913, L])) _ ⟨0, 0, K17800, C17802, C17678, C17683, hf, rfl, hle, h17670, h17671, h17803, h17675, h17680, hS⟩ ⟨rfl, rfl, rfl, rfl, rfl, rfl, rfl, rfl, rfl, trivial⟩ ?_ ?_
          · rintro _ _ ⟨_, _, _, _, _, _, hf, _⟩
            exact absurd hf (by simp [bonsailaw7_SetWorks.l1])
          rintro n _ w Y hY ⟨v18915, v18916, K18899, C18903, C18908, C18913, hf, rfl, hle, h18900, h18901, h18902, h18905, h18910, hS⟩
          rw [bonsailaw7_SetWorks.l1] at hf
          refine s_seq (s_seq (s_reg ?_))
          iterate 4 refine s_v rfl rfl rfl ?_
          refine s_nil (qn ?_)
          refine s_if rfl (fun hc => ?_) (fun hc => ?_)
          · replace hf := bif_t hc hf
            refine s_skip (qn ?_)
            obtain ⟨s18990, hst18991, hf⟩ := bs hf
            refine s_cut (fun τ w => ∃ (K18974 : KM) (C18978 : Chunks) (C18983 : Chunks) (C18988 : Chunks), τ = [(0, (.slice a2 p1.length c3)), (1, (.slice a6 p5.length c7)), (5, (.pointer (some ⟨b25, 0, none⟩))), (6, (.slice a15998 v16008.length c15999)), (7, (.slice a16003 v16009.length c16004)), (8, (.int .i64 v16010)), (11, (.int .i64 x17798.1)), (13, (.int .i64 s18990)), (14, (.int .i64 v18916))] ∧ KM.le K K18974 ∧ SlK 3 K18974 a2 c3 p1 ∧ SlK 44 K18974 a6 c7 p5 ∧ WorkO 68 62 3 K18974 b25 x17798.2.2 C18978 ∧ OwnS 3 K18974 (.slice a15998 v16008.length c15999) v16008 C18983 ∧ OwnS 3 K18974 (.slice a16003 v16009.length c16004) v16009 C18988 ∧ Sat w K18974 (flat [C18978, C18983, C18988, L])) (fun J hJ => ?_) ?_
            · replace hf := hst18991
              refine s_block (s_seq ?_)
              refine d_start [2] [] hS ?_
              intro w hS
              refine d_v 0 (fun _ _ _ _ _ h => h) [2] hS rfl rfl rfl (by kernel_rfl) rfl rfl ?_
              refine d_v 1 (fun _ _ _ _ _ h => h) [2] hS rfl rfl rfl (by kernel_rfl) rfl rfl ?_
              obtain ⟨x19030, hx19031, hf⟩ := bs hf
              refine d_ixo 2 2 (fun _ _ _ _ _ h => h) [2] hS rfl h18910 hx19031 rfl rfl rfl rfl rfl rfl rfl (by kernel_rfl) rfl rfl ?_
              intro b19032 l19033 cs19036 l19034 hcs_ hC19037 hun19035
              obtain rfl := hcs_
              subst hC19037
              have hq19038 := KM.le.refl K18899
              refine d_ldm 3 0 0 (fun _ _ _ _ _ h => h) [2] hS rfl rfl rfl rfl rfl (by kernel_rfl) rfl rfl ?_
              refine d_v 4 (fun _ _ _ _ _ h => h) [2] hS rfl rfl rfl (by kernel_rfl) rfl rfl ?_
              refine d_v 5 (fun _ _ _ _ _ h => h) [2] hS rfl rfl rfl (by kernel_rfl) rfl rfl ?_
              generalize hCg_ : ([(b19032, Cl (l19033 ++ (([(.int .i64 x19030)] : List Value) ++ l19034)) 3)] : Chunks) = C19039 at hS h18910 ⊢
              clear hCg_
              obtain ⟨x19040, hx19041, hf⟩ := bs hf
              refine d_ixo 6 2 (fun _ _ _ _ _ h => h) [2] hS rfl h18910 hx19041 rfl rfl rfl rfl rfl rfl rfl (by kernel_rfl) rfl rfl ?_
              intro b19042 l19043 cs19046 l19044 hcs_ hC19047 hun19045
              obtain rfl := hcs_
              subst hC19047
              have hq19048 := KM.le.refl K18899
              refine d_ldm 7 0 0 (fun _ _ _ _ _ h => h) [2] hS rfl rfl rfl rfl rfl (by kernel_rfl) rfl rfl ?_
              refine d_v 8 (fun _ _ _ _ _ h => h) [2] hS rfl rfl rfl (by kernel_rfl) rfl rfl ?_
              refine d_end (by kernel_rfl) ?_
              refine qn ?_
              refine s_if rfl (fun hc => ?_) (fun hc => ?_)
              · replace hf := bif_t hc hf
                refine s_reg ?_
                iterate 2 refine s_v rfl rfl rfl ?_
                refine s_nil (qbn (qn ?_))
                have hq := Option.some.inj hf
                subst hq
                refine s_join hJ _ ⟨K18899, C18903, C18908, [(b19042, Cl (l19043 ++ (([(.int .i64 x19040)] : List Value) ++ l19044)) 3)], rfl, hle, h18900, h18901, h18902, h18905, h18910, hS⟩ ⟨rfl, rfl, rfl, rfl, rfl, rfl, rfl, rfl, rfl, trivial⟩
              replace hf := bif_f hc hf
              refine s_skip (qbn (qn ?_))
              have hq := Option.some.inj hf
              subst hq
              refine s_join hJ _ ⟨K18899, C18903, C18908, [(b19042, Cl (l19043 ++ (([(.int .i64 x19040)] : List Value) ++ l19044)) 3)], rfl, hle, h18900, h18901, h18902, h18905, h18910, hS⟩ ⟨rfl, rfl, rfl, rfl, rfl, rfl, rfl, rfl, rfl, trivial⟩
            rintro _ w ⟨K18974, C18978, C18983, C18988, rfl, hle, h18975, h18976, h18977, h18980, h18985, hS⟩
            refine s_reg ?_
            iterate 3 refine s_v rfl rfl rfl ?_
            refine s_nil (qn ?_)
            refine s_join hY _ ⟨s18990, w64 (v18916 + 1), K18974, C18978, C18983, C18988, hf, rfl, hle, h18975, h18976, h18977, h18980, h18985, hS⟩ ⟨rfl, rfl, rfl, rfl, rfl, rfl, rfl, rfl, rfl, trivial⟩
          replace hf := bif_f hc hf
          refine s_exit (qxt (qxt (qxb (qn ?_))))
          have hq := Option.some.inj hf
          subst hq
          refine s_join hJ _ ⟨K18899, C18903, C18908, C18913, rfl, hle, h18900, h18901, h18902, h18905, h18910, hS⟩ ⟨rfl, rfl, rfl, rfl, rfl, rfl, rfl, rfl, trivial⟩
        rintro _ w ⟨K18418, C18422, C18427, C18432, rfl, hle, h18419, h18420, h18421, h18424, h18429, hS⟩
        refine s_seq (s_seq (s_reg ?_))
        iterate 3 refine s_v rfl rfl rfl ?_
        obtain ⟨x19049, hx19050, hf⟩ := bs hf
        refine s_ixo 2 hS rfl h18429 hx19050 rfl rfl rfl rfl rfl rfl rfl ?_
        intro b19051 l19052 cs19055 l19053 hcs_ hC19056 hun19054
        obtain rfl := hcs_
        subst hC19056
        have hq19057 := KM.le.refl K18418
        refine s_ldm 2 0 hS rfl rfl rfl rfl rfl ?_
        refine s_v rfl rfl rfl ?_
        refine s_nil (qn ?_)
        refine s_if rfl (fun hc => ?_) (fun hc => ?_)
        · replace hf := bif_t hc hf
          refine s_seq (s_reg ?_)
          refine s_v rfl rfl rfl ?_
          refine s_nil (qn ?_)
          replace hS : Sat w K18418 (flat [_]) := (hS.sel [3] rfl)
          refine s_rets (qrt (qrb (qrb (qrt ?_))))
          replace hf := LR.esc_some hf hm17564
          refine qrt (qrb (qrt ?_))
          replace hf := LR.esc_some hf hm9565
          have hq := Option.some.inj hf
          subst hq
          refine s_ret1 rfl (rv_t rfl) ?_
          exact ⟨K18418, _, hle, rfl, Sat.nilG (hS.sel [0] rfl)⟩
        replace hf := bif_f hc hf
        refine s_skip (qn ?_)
        obtain ⟨K19058, hk19059, h19060, hS⟩ := h18429.freeze (hS.sel [2, 0, 1, 3] rfl)
        replace hS : Sat w _ (flat [_, _, _]) := hS
        refine d_start [] [] hS ?_
        intro w hS
        refine d_v 0 (fun _ _ _ _ _ h => h) [] hS rfl rfl rfl (by kernel_rfl) rfl rfl ?_
        refine d_v 1 (fun _ _ _ _ _ h => h) [] hS rfl rfl rfl (by kernel_rfl) rfl rfl ?_
        obtain ⟨hm19080, hf⟩ := gs hf
        refine d_sl (zl := 0) (zh := s18434) 2 (fun _ _ _ _ _ h => h) [] hS h19060 rfl hm19080 rfl rfl rfl rfl rfl rfl ⟨_, rfl⟩ rfl (by kernel_rfl) rfl rfl ?_
        intro a19081 c19082 h19083
        refine d_v 4 (fun _ _ _ _ _ h => h) [] hS rfl rfl rfl (by kernel_rfl) rfl rfl ?_
        refine d_v 5 (fun _ _ _ _ _ h => h) [] hS rfl rfl rfl (by kernel_rfl) rfl rfl ?_
        refine d_v 6 (fun _ _ _ _ _ h => h) [] hS rfl rfl rfl (by kernel_rfl) rfl rfl ?_
        obtain ⟨hm19084, hf⟩ := gs hf
        refine d_sl (zl := w64 (s18434 + 1)) (zh := (v16009.length : Int)) 7 (fun _ _ _ _ _ h => h) [] hS h19060 rfl hm19084 rfl rfl rfl rfl rfl ⟨_, rfl⟩ rfl rfl (by kernel_rfl) rfl rfl ?_
        intro a19085 c19086 h19087
        refine d_op 3 rfl (by kernel_rfl) (by kernel_rfl) (fun X hX => ?_)
        have hlq := KM.le.refl K19058
        replace hS := hS.nilG
        obtain ⟨hm19089, hf⟩ := gs hf
        refine s_appk (e := 3) 0 hS rfl OwnS.nil h19083 rfl rfl rfl rfl rfl rfl rfl (roomy_le hm19089) rfl rfl rfl ?_
        intro a19090 c19091 w C19092 h19093 hS
        replace hS : Sat w _ (flat [_, _, _, _]) := hS
        refine d_go [] [] [] [] hX hS hlq rfl rfl trivial ?_
        refine d_op 8 rfl (by kernel_rfl) (by kernel_rfl) (fun X hX => ?_)
        have hlq := KM.le.refl K19058
        obtain ⟨hm19094, hf⟩ := gs hf
        refine s_appk (e := 3) 0 hS rfl h19093 h19087 rfl rfl rfl rfl rfl rfl rfl (roomy_le hm19094) rfl rfl rfl ?_
        intro a19095 c19096 w C19097 h19098 hS
        replace hS : Sat w _ (flat [_, _, _, _]) := hS
        refine d_go [] [] [] [] hX hS hlq rfl rfl trivial ?_
        refine d_v 9 (fun _ _ _ _ _ h => h) [] hS rfl rfl rfl (by kernel_rfl) rfl rfl ?_
        refine d_end (by kernel_rfl) ?_
        refine qbn (qbn (qn ?_))
        have hq := Option.some.inj hf
        subst hq
        replace h18419 := h18419.mono hk19059
        replace h18420 := h18420.mono hk19059
        replace h18421 := h18421.mono hk19059
        replace h18424 := h18424.mono hk19059
        replace hle := hle.trans hk19059
        refine s_join hJ _ ⟨(x17798.2.2, v16008, ((([] : List Int) ++ (subl v16009 0 s18434)) ++ (subl v16009 (w64 (s18434 + 1)) (v16009.length : Int)))), K19058, C18422, a15998, c15999, C18427, a19095, c19096, C19097, rfl, rfl, hle, h18419, h18420, h18421, h18424, h19098, (hS.sel [1, 2, 0, 3] rfl)⟩ ⟨rfl, rfl, rfl, rfl, rfl, rfl, trivial⟩
      rintro _ w ⟨s17561, K17545, C17549, a17552, c17553, C17554, a17557, c17558, C17559, rfl, rfl, hle, h17546, h17547, h17548, h17551, h17556, hS⟩
      replace hf := LR.elim_brk hm17564
      refine s_reg ?_
      iterate 3 refine s_v rfl rfl rfl ?_
      refine s_nil (qn ?_)
      refine s_join hY _ ⟨s17561.1, s17561.2.1, s17561.2.2, w64 (v16010 + 1), K17545, C17549, a17552, c17553, C17554, a17557, c17558, C17559, hf, rfl, hle, h17546, h17547, h17548, h17551, h17556, hS⟩ ⟨rfl, rfl, rfl, rfl, rfl, rfl, trivial⟩
    replace hf := bif_f hc hf
    refine s_exit (qxt (qxt (qxb (qn ?_))))
    have hq := Option.some.inj hf
    subst hq
    refine s_join hJ _ ⟨(), K15991, rfl, rfl, hle, (hS.sel [3] rfl)⟩ trivial
  rintro _ w ⟨s9562, K9561, rfl, rfl, hle, hS⟩
  replace hf := LR.elim_brk hm9565
  refine s_seq (s_reg ?_)
  refine s_v rfl rfl rfl ?_
  refine s_nil (qn (s_rets ?_))
  have hq := Option.some.inj hf
  subst hq
  refine s_ret1 rfl (rv_t rfl) ?_
  exact ⟨K9561, _, hle, rfl, Sat.nilG (hS.sel [0] rfl)⟩
end Go.Proofs.Ytdgpckcphkpclaa
