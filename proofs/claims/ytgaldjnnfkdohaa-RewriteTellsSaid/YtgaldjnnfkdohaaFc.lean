/- Functions of the program, and their walks: what each reckons, and that its code reckons it. -/
import Derived.Test.YtgaldjnnfkdohaaFby
set_option linter.unusedVariables false
set_option linter.unusedSimpArgs false
set_option maxHeartbeats 0
set_option maxRecDepth 100000
namespace Go.Proofs.Ytgaldjnnfkdohaa
open Go Go.Fw
noncomputable def bod57 : Code := Try.f57.body.getD .skip
theorem isf57 : IsFn Try.prog 57 Try.f57 bod57 := ⟨Try.func57, rfl, by decide⟩
noncomputable def bod38 : Code := Try.f38.body.getD .skip
theorem isf38 : IsFn Try.prog 38 Try.f38 bod38 := ⟨Try.func38, rfl, by decide⟩
noncomputable def bod35 : Code := Try.f35.body.getD .skip
theorem isf35 : IsFn Try.prog 35 Try.f35 bod35 := ⟨Try.func35, rfl, by decide⟩
noncomputable def bod34 : Code := Try.f34.body.getD .skip
theorem isf34 : IsFn Try.prog 34 Try.f34 bod34 := ⟨Try.func34, rfl, by decide⟩
noncomputable def bod37 : Code := Try.f37.body.getD .skip
theorem isf37 : IsFn Try.prog 37 Try.f37 bod37 := ⟨Try.func37, rfl, by decide⟩
noncomputable def bod39 : Code := Try.f39.body.getD .skip
theorem isf39 : IsFn Try.prog 39 Try.f39 bod39 := ⟨Try.func39, rfl, by decide⟩
noncomputable def bod44 : Code := Try.f44.body.getD .skip
theorem isf44 : IsFn Try.prog 44 Try.f44 bod44 := ⟨Try.func44, rfl, by decide⟩
noncomputable def bod30 : Code := Try.f30.body.getD .skip
theorem isf30 : IsFn Try.prog 30 Try.f30 bod30 := ⟨Try.func30, rfl, by decide⟩
-- 57 bonsai/bonsairef1.SameTypes
def bonsairef1_SameTypes.l0 (fu : Nat) (p1 : (List api_Type)) (p5 : (List api_Type)) : Nat → Int → Option (LR Unit Bool)
  | 0, _ => none
  | k + 1, v192 => bif decide (v192 < (p1.length : Int)) then ((idx p1 v192).bind fun x213 => (idx p5 v192).bind fun x218 => bif !((x213.Kind == x218.Kind) && ((x213.Class.toList == x218.Class.toList) && true)) then (LR.esc (some false)) else (bonsairef1_SameTypes.l0 fu p1 p5 k (w64 (v192 + 1)))) else (some (.brk ()))
def bonsairef1_SameTypes.fn (fu : Nat) (p1 : (List api_Type)) (p5 : (List api_Type)) : Option Bool := bif (p1.length : Int) != (p5.length : Int) then (some false) else (LR.then (bonsairef1_SameTypes.l0 fu p1 p5 fu 0) fun s115 => some true)
theorem bonsairef1_SameTypes_spec {K : KM} {fu : Nat} {p1 : (List api_Type)} {p5 : (List api_Type)} {r : Bool} {a2 : Option Addr} {c3 : Nat} {a6 : Option Addr} {c7 : Nat} (hf : bonsairef1_SameTypes.fn fu p1 p5 = some r) (h4 : SlK 63 K a2 c3 p1) (h8 : SlK 63 K a6 c7 p5) : Sp Try.prog 57 [(.slice a2 p1.length c3), (.slice a6 p5.length c7)] K [] (fun K' C v => v = (.bool r)) := by
  unfold bonsairef1_SameTypes.fn at hf
  refine spec_enter isf57 rfl ?_
  intro w L hS
  replace hS : Sat w K (flat [L]) := hS
  have hle := KM.le.refl K
  unfold bod57 Try.f57
  dsimp only [Option.getD_some, argSlots]
  refine s_seq (s_reg ?_)
  refine s_v rfl rfl rfl ?_
  refine s_nil (qn (s_seq (s_seq (s_reg ?_))))
  iterate 5 refine s_v rfl rfl rfl ?_
  refine s_nil (qn ?_)
  refine s_if rfl (fun hc => ?_) (fun hc => ?_)
  · replace hf := bif_t hc hf
    refine s_seq (s_reg ?_)
    refine s_v rfl rfl rfl ?_
    refine s_nil (qn (s_rets (qrt ?_)))
    have hq := Option.some.inj hf
    subst hq
    refine s_ret1 rfl (rv_t rfl) ?_
    exact ⟨K, _, hle, rfl, Sat.nilG (hS.sel [0] rfl)⟩
  replace hf := bif_f hc hf
  refine s_skip (qn ?_)
  obtain ⟨res116, hst117, hm118⟩ := LR.then_some hf
  refine s_cut (fun τ w => ∃ (s115 : Unit) (K114 : KM), res116 = .brk s115 ∧ τ = [] ∧ KM.le K K114 ∧ Sat w K114 (flat [L])) (fun J hJ => ?_) ?_
  · replace hf := hst117
    refine s_seq (s_reg ?_)
    refine s_v rfl rfl rfl ?_
    refine s_nil (qn (s_block ?_))
    refine s_loopp (fun n τ w => ∃ (v192 : Int) (K189 : KM), bonsairef1_SameTypes.l0 fu p1 p5 n v192 = some res116 ∧ τ = [(0, (.slice a2 p1.length c3)), (1, (.slice a6 p5.length c7)), (5, (.int .i64 v192))] ∧ KM.le K K189 ∧ SlK 63 K189 a2 c3 p1 ∧ SlK 63 K189 a6 c7 p5 ∧ Sat w K189 (flat [L])) _ ⟨0, K, hf, rfl, hle, h4, h8, hS⟩ ⟨rfl, rfl, rfl, trivial⟩ ?_ ?_
    · rintro _ _ ⟨_, _, hf, _⟩
      exact absurd hf (by simp [bonsairef1_SameTypes.l0])
    rintro n _ w Y hY ⟨v192, K189, hf, rfl, hle, h190, h191, hS⟩
    rw [bonsairef1_SameTypes.l0] at hf
    refine s_seq (s_seq (s_reg ?_))
    iterate 4 refine s_v rfl rfl rfl ?_
    refine s_nil (qn ?_)
    refine s_if rfl (fun hc => ?_) (fun hc => ?_)
    · replace hf := bif_t hc hf
      refine s_skip (qn (s_seq (s_block (s_seq ?_))))
      refine d_start [] [] hS ?_
      intro w hS
      refine d_v 0 (fun _ _ _ _ _ h => h) [] hS rfl rfl rfl (by kernel_rfl) rfl rfl ?_
      refine d_v 1 (fun _ _ _ _ _ h => h) [] hS rfl rfl rfl (by kernel_rfl) rfl rfl ?_
      obtain ⟨x213, hx214, hf⟩ := bs hf
      refine d_ixk 2 (fun _ _ _ _ _ h => h) [] hS h190 rfl hx214 rfl rfl rfl rfl rfl rfl rfl (by kernel_rfl) rfl rfl ?_
      rintro b215 o216 _ rfl h217
      refine d_ldk (v := (.agg (vv63 x213).toArray)) 3 0 (fun _ _ _ _ _ h => h) [] hS h217 rfl rfl rfl rfl (by kernel_rfl) rfl rfl ?_
      refine d_v 4 (fun _ _ _ _ _ h => h) [] hS rfl rfl rfl (by kernel_rfl) rfl rfl ?_
      refine d_v 5 (fun _ _ _ _ _ h => h) [] hS rfl rfl rfl (by kernel_rfl) rfl rfl ?_
      obtain ⟨x218, hx219, hf⟩ := bs hf
      refine d_ixk 6 (fun _ _ _ _ _ h => h) [] hS h191 rfl hx219 rfl rfl rfl rfl rfl rfl rfl (by kernel_rfl) rfl rfl ?_
      rintro b220 o221 _ rfl h222
      refine d_ldk (v := (.agg (vv63 x218).toArray)) 7 0 (fun _ _ _ _ _ h => h) [] hS h222 rfl rfl rfl rfl (by kernel_rfl) rfl rfl ?_
      refine d_nes 8 (fun _ _ _ _ _ h => h) [] hS e63 rfl rfl rfl rfl rfl (by kernel_rfl) rfl rfl ?_
      refine d_end (by kernel_rfl) ?_
      refine qn ?_
      refine s_if rfl (fun hc => ?_) (fun hc => ?_)
      · replace hf := bif_t hc hf
        refine s_seq (s_reg ?_)
        refine s_v rfl rfl rfl ?_
        refine s_nil (qn (s_rets (qrb (qrt (qrt (qrb (qrt ?_)))))))
        replace hf := LR.esc_some hf hm118
        have hq := Option.some.inj hf
        subst hq
        refine s_ret1 rfl (rv_t rfl) ?_
        exact ⟨K189, _, hle, rfl, Sat.nilG (hS.sel [0] rfl)⟩
      replace hf := bif_f hc hf
      refine s_skip (qbn (qn (s_reg ?_)))
      iterate 3 refine s_v rfl rfl rfl ?_
      refine s_nil (qn ?_)
      refine s_join hY _ ⟨w64 (v192 + 1), K189, hf, rfl, hle, h190, h191, hS⟩ ⟨rfl, rfl, rfl, trivial⟩
    replace hf := bif_f hc hf
    refine s_exit (qxt (qxt (qxb (qn ?_))))
    have hq := Option.some.inj hf
    subst hq
    refine s_join hJ _ ⟨(), K189, rfl, rfl, hle, hS⟩ trivial
  rintro _ w ⟨s115, K114, rfl, rfl, hle, hS⟩
  replace hf := LR.elim_brk hm118
  refine s_seq (s_reg ?_)
  refine s_v rfl rfl rfl ?_
  refine s_nil (qn (s_rets ?_))
  have hq := Option.some.inj hf
  subst hq
  refine s_ret1 rfl (rv_t rfl) ?_
  exact ⟨K114, _, hle, rfl, Sat.nilG (hS.sel [0] rfl)⟩
-- 38 bonsai/bonsairef1.Jumps
def bonsairef1_Jumps.fn (p1 : Int) : Option Bool := (bif p1 == 19 then (some true) else (some (p1 == 20))).bind fun s4 => some s4
theorem bonsairef1_Jumps_spec {K : KM} {p1 : Int} {r : Bool} (hf : bonsairef1_Jumps.fn p1 = some r) : Sp Try.prog 38 [(.int .i64 p1)] K [] (fun K' C v => v = (.bool r)) := by
  unfold bonsairef1_Jumps.fn at hf
  refine spec_enter isf38 rfl ?_
  intro w L hS
  replace hS : Sat w K (flat [L]) := hS
  have hle := KM.le.refl K
  unfold bod38 Try.f38
  dsimp only [Option.getD_some, argSlots]
  refine s_seq (s_reg ?_)
  refine s_v rfl rfl rfl ?_
  refine s_nil (qn (s_seq (s_reg ?_)))
  iterate 3 refine s_v rfl rfl rfl ?_
  obtain ⟨s4, hst5, hf⟩ := bs hf
  refine r_cut [_, _, _] (fun τ w => ∃ (K3 : KM), τ = [(8, (.bool s4))] ∧ KM.le K K3 ∧ Sat w K3 (flat [L])) rfl (fun J hJ => ?_) ?_
  · replace hf := hst5
    cases hc : (p1 == 19)
    · replace hf := bif_f hc hf
      iterate 3 refine s_v rfl rfl rfl ?_
      have hq := Option.some.inj hf
      subst hq
      refine r_join hJ _ ⟨K, rfl, hle, hS⟩ ⟨rfl, trivial⟩
    replace hf := bif_t hc hf
    refine s_no rfl rfl ?_
    refine s_no rfl rfl ?_
    refine s_v rfl rfl rfl ?_
    have hq := Option.some.inj hf
    subst hq
    refine r_join hJ _ ⟨K, rfl, hle, hS⟩ ⟨rfl, trivial⟩
  rintro _ w ⟨K3, rfl, hle, hS⟩
  refine s_v rfl rfl rfl ?_
  refine s_nil (qn (s_rets ?_))
  have hq := Option.some.inj hf
  subst hq
  refine s_ret1 rfl (rv_t rfl) ?_
  exact ⟨K3, _, hle, rfl, Sat.nilG (hS.sel [0] rfl)⟩
-- 35 bonsai/bonsairef1.SameMethod
def bonsairef1_SameMethod.l0 (fu : Nat) (p1 : api_Method) (p11 : api_Method) : Nat → Int → Option (LR Unit Bool)
  | 0, _ => none
  | k + 1, v319 => bif decide (v319 < (p1.Code.length : Int)) then ((idx p1.Code v319).bind fun x340 => (idx p11.Code v319).bind fun x345 => bif !((x340.Op == x345.Op) && ((x340.N == x345.N) && ((x340.K == x345.K) && ((x340.S.toList == x345.S.toList) && ((x340.Class.toList == x345.Class.toList) && ((x340.Name.toList == x345.Name.toList) && ((x340.Desc.toList == x345.Desc.toList) && true))))))) then (LR.esc (some false)) else (bonsairef1_SameMethod.l0 fu p1 p11 k (w64 (v319 + 1)))) else (some (.brk ()))
def bonsairef1_SameMethod.l1 (fu : Nat) (p1 : api_Method) (p11 : api_Method) : Nat → Int → Option (LR Unit Bool)
  | 0, _ => none
  | k + 1, v564 => bif decide (v564 < (p1.Handlers.length : Int)) then ((idx p1.Handlers v564).bind fun x585 => (idx p11.Handlers v564).bind fun x590 => bif !((x585.From == x590.From) && ((x585.To == x590.To) && ((x585.At == x590.At) && ((x585.Catch.toList == x590.Catch.toList) && true)))) then (LR.esc (some false)) else (bonsairef1_SameMethod.l1 fu p1 p11 k (w64 (v564 + 1)))) else (some (.brk ()))
def bonsairef1_SameMethod.fn (fu : Nat) (p1 : api_Method) (p11 : api_Method) : Option Bool := (bif !(p1.Name.toList == p11.Name.toList) then (some true) else ((bonsairef1_SameTypes.fn fu p1.Params p11.Params).bind fun x40 => some (!x40))).bind fun s38 => (bif s38 then (some true) else (some (!((p1.Ret.Kind == p11.Ret.Kind) && ((p1.Ret.Class.toList == p11.Ret.Class.toList) && true))))).bind fun s52 => (bif s52 then (some true) else (some (!(p1.Static == p11.Static)))).bind fun s61 => (bif s61 then (some true) else (some (!(p1.Abstract == p11.Abstract)))).bind fun s70 => (bif s70 then (some true) else (some (p1.Locals != p11.Locals))).bind fun s79 => (bif s79 then (some true) else (some ((p1.Code.length : Int) != (p11.Code.length : Int)))).bind fun s88 => (bif s88 then (some true) else (some ((p1.Handlers.length : Int) != (p11.Handlers.length : Int)))).bind fun s97 => bif s97 then (some false) else (LR.then (bonsairef1_SameMethod.l0 fu p1 p11 fu 0) fun s226 => LR.then (bonsairef1_SameMethod.l1 fu p1 p11 fu 0) fun s471 => some true)
theorem bonsairef1_SameMethod_spec {K : KM} {fu : Nat} {p1 : api_Method} {p11 : api_Method} {r : Bool} {a2 : Option Addr} {c3 : Nat} {a5 : Option Addr} {c6 : Nat} {a8 : Option Addr} {c9 : Nat} {a12 : Option Addr} {c13 : Nat} {a15 : Option Addr} {c16 : Nat} {a18 : Option Addr} {c19 : Nat} (hf : bonsairef1_SameMethod.fn fu p1 p11 = some r) (h4 : SlK 63 K a2 c3 p1.Params) (h7 : SlK 77 K a5 c6 p1.Code) (h10 : SlK 92 K a8 c9 p1.Handlers) (h14 : SlK 63 K a12 c13 p11.Params) (h17 : SlK 77 K a15 c16 p11.Code) (h20 : SlK 92 K a18 c19 p11.Handlers) : Sp Try.prog 35 [(.agg (vv67 p1 a2 c3 a5 c6 a8 c9).toArray), (.agg (vv67 p11 a12 c13 a15 c16 a18 c19).toArray)] K [] (fun K' C v => v = (.bool r)) := by
  unfold bonsairef1_SameMethod.fn at hf
  refine spec_enter isf35 rfl ?_
  intro w L hS
  replace hS : Sat w K (flat [L]) := hS
  have hle := KM.le.refl K
  unfold bod35 Try.f35
  dsimp only [Option.getD_some, argSlots]
  refine s_seq (s_reg ?_)
  refine s_bx hS rfl rfl rfl ?_
  intro b22 w hS
  replace hS : Sat w K (flat ([(b22, Cl (vv67 p1 a2 c3 a5 c6 a8 c9) 67)] :: _)) := hS
  refine s_bx hS rfl rfl rfl ?_
  intro b24 w hS
  replace hS : Sat w K (flat ([(b24, Cl (vv67 p11 a12 c13 a15 c16 a18 c19) 67)] :: _)) := hS
  refine s_v rfl rfl rfl ?_
  refine s_nil (qn (s_seq (s_seq (s_reg ?_))))
  refine s_v rfl rfl rfl ?_
  refine s_ld 1 hS rfl rfl rfl rfl rfl ?_
  refine s_v rfl rfl rfl ?_
  refine s_ld 0 hS rfl rfl rfl rfl rfl ?_
  iterate 2 refine s_v rfl rfl rfl ?_
  obtain ⟨s38, hst39, hf⟩ := bs hf
  refine r_cut [_, _, _, _, _, _, _] (fun τ w => ∃ (K31 : KM), τ = [(2, (.pointer (some ⟨b22, 0, none⟩))), (3, (.pointer (some ⟨b24, 0, none⟩))), (19, (.bool s38))] ∧ KM.le K K31 ∧ SlK 63 K31 a2 c3 p1.Params ∧ SlK 77 K31 a5 c6 p1.Code ∧ SlK 92 K31 a8 c9 p1.Handlers ∧ SlK 63 K31 a12 c13 p11.Params ∧ SlK 77 K31 a15 c16 p11.Code ∧ SlK 92 K31 a18 c19 p11.Handlers ∧ Sat w K31 (flat [[(b22, Cl (vv67 p1 a2 c3 a5 c6 a8 c9) 67)], [(b24, Cl (vv67 p11 a12 c13 a15 c16 a18 c19) 67)], L])) rfl (fun J hJ => ?_) ?_
  · replace hf := hst39
    cases hc : (!(p1.Name.toList == p11.Name.toList))
    · replace hf := bif_f hc hf
      refine s_v rfl rfl rfl ?_
      refine s_ld 1 hS rfl rfl rfl rfl rfl ?_
      refine s_v rfl rfl rfl ?_
      refine s_ld 0 hS rfl rfl rfl rfl rfl ?_
      obtain ⟨x40, hx41, hf⟩ := bs hf
      refine s_call isf57 hS.nilG (bonsairef1_SameTypes_spec hx41 h4 h14) rfl rfl rfl ?_
      rintro _ K42 C44 w hk43 rfl hS
      replace hS := hS.drop1
      iterate 2 refine s_v rfl rfl rfl ?_
      have hq := Option.some.inj hf
      subst hq
      replace h4 := h4.mono hk43
      replace h7 := h7.mono hk43
      replace h10 := h10.mono hk43
      replace h14 := h14.mono hk43
      replace h17 := h17.mono hk43
      replace h20 := h20.mono hk43
      replace hle := hle.trans hk43
      refine r_join hJ _ ⟨K42, rfl, hle, h4, h7, h10, h14, h17, h20, (hS.sel [1, 0, 2] rfl)⟩ ⟨rfl, rfl, rfl, trivial⟩
    replace hf := bif_t hc hf
    refine s_no rfl rfl ?_
    refine s_no rfl rfl ?_
    refine s_no rfl rfl ?_
    refine s_no rfl rfl ?_
    refine s_no rfl rfl ?_
    refine s_no rfl rfl ?_
    refine s_v rfl rfl rfl ?_
    have hq := Option.some.inj hf
    subst hq
    refine r_join hJ _ ⟨K, rfl, hle, h4, h7, h10, h14, h17, h20, (hS.sel [1, 0, 2] rfl)⟩ ⟨rfl, rfl, rfl, trivial⟩
  rintro _ w ⟨K31, rfl, hle, h32, h33, h34, h35, h36, h37, hS⟩
  refine s_v rfl rfl rfl ?_
  obtain ⟨s52, hst53, hf⟩ := bs hf
  refine r_cut [_, _, _, _, _, _] (fun τ w => ∃ (K45 : KM), τ = [(2, (.pointer (some ⟨b22, 0, none⟩))), (3, (.pointer (some ⟨b24, 0, none⟩))), (26, (.bool s52))] ∧ KM.le K K45 ∧ SlK 63 K45 a2 c3 p1.Params ∧ SlK 77 K45 a5 c6 p1.Code ∧ SlK 92 K45 a8 c9 p1.Handlers ∧ SlK 63 K45 a12 c13 p11.Params ∧ SlK 77 K45 a15 c16 p11.Code ∧ SlK 92 K45 a18 c19 p11.Handlers ∧ Sat w K45 (flat [[(b22, Cl (vv67 p1 a2 c3 a5 c6 a8 c9) 67)], [(b24, Cl (vv67 p11 a12 c13 a15 c16 a18 c19) 67)], L])) rfl (fun J hJ => ?_) ?_
  · replace hf := hst53
    cases hc : s38
    · replace hf := bif_f hc hf
      refine s_v rfl rfl rfl ?_
      refine s_ld (v := (.agg (vv63 p1.Ret).toArray)) 0 hS rfl rfl rfl rfl rfl ?_
      refine s_v rfl rfl rfl ?_
      refine s_ld (v := (.agg (vv63 p11.Ret).toArray)) 1 hS rfl rfl rfl rfl rfl ?_
      refine s_nes e63 rfl rfl rfl rfl rfl ?_
      refine s_v rfl rfl rfl ?_
      have hq := Option.some.inj hf
      subst hq
      refine r_join hJ _ ⟨K31, rfl, hle, h32, h33, h34, h35, h36, h37, hS⟩ ⟨rfl, rfl, rfl, trivial⟩
    replace hf := bif_t hc hf
    refine s_no rfl rfl ?_
    refine s_no rfl rfl ?_
    refine s_no rfl rfl ?_
    refine s_no rfl rfl ?_
    refine s_no rfl rfl ?_
    refine s_v rfl rfl rfl ?_
    have hq := Option.some.inj hf
    subst hq
    refine r_join hJ _ ⟨K31, rfl, hle, h32, h33, h34, h35, h36, h37, hS⟩ ⟨rfl, rfl, rfl, trivial⟩
  rintro _ w ⟨K45, rfl, hle, h46, h47, h48, h49, h50, h51, hS⟩
  refine s_v rfl rfl rfl ?_
  obtain ⟨s61, hst62, hf⟩ := bs hf
  refine r_cut [_, _, _, _, _, _] (fun τ w => ∃ (K54 : KM), τ = [(2, (.pointer (some ⟨b22, 0, none⟩))), (3, (.pointer (some ⟨b24, 0, none⟩))), (33, (.bool s61))] ∧ KM.le K K54 ∧ SlK 63 K54 a2 c3 p1.Params ∧ SlK 77 K54 a5 c6 p1.Code ∧ SlK 92 K54 a8 c9 p1.Handlers ∧ SlK 63 K54 a12 c13 p11.Params ∧ SlK 77 K54 a15 c16 p11.Code ∧ SlK 92 K54 a18 c19 p11.Handlers ∧ Sat w K54 (flat [[(b22, Cl (vv67 p1 a2 c3 a5 c6 a8 c9) 67)], [(b24, Cl (vv67 p11 a12 c13 a15 c16 a18 c19) 67)], L])) rfl (fun J hJ => ?_) ?_
  · replace hf := hst62
    cases hc : s52
    · replace hf := bif_f hc hf
      refine s_v rfl rfl rfl ?_
      refine s_ld 0 hS rfl rfl rfl rfl rfl ?_
      refine s_v rfl rfl rfl ?_
      refine s_ld 1 hS rfl rfl rfl rfl rfl ?_
      iterate 2 refine s_v rfl rfl rfl ?_
      have hq := Option.some.inj hf
      subst hq
      refine r_join hJ _ ⟨K45, rfl, hle, h46, h47, h48, h49, h50, h51, hS⟩ ⟨rfl, rfl, rfl, trivial⟩
    replace hf := bif_t hc hf
    refine s_no rfl rfl ?_
    refine s_no rfl rfl ?_
    refine s_no rfl rfl ?_
    refine s_no rfl rfl ?_
    refine s_no rfl rfl ?_
    refine s_v rfl rfl rfl ?_
    have hq := Option.some.inj hf
    subst hq
    refine r_join hJ _ ⟨K45, rfl, hle, h46, h47, h48, h49, h50, h51, hS⟩ ⟨rfl, rfl, rfl, trivial⟩
  rintro _ w ⟨K54, rfl, hle, h55, h56, h57, h58, h59, h60, hS⟩
  refine s_v rfl rfl rfl ?_
  obtain ⟨s70, hst71, hf⟩ := bs hf
  refine r_cut [_, _, _, _, _, _] (fun τ w => ∃ (K63 : KM), τ = [(2, (.pointer (some ⟨b22, 0, none⟩))), (3, (.pointer (some ⟨b24, 0, none⟩))), (40, (.bool s70))] ∧ KM.le K K63 ∧ SlK 63 K63 a2 c3 p1.Params ∧ SlK 77 K63 a5 c6 p1.Code ∧ SlK 92 K63 a8 c9 p1.Handlers ∧ SlK 63 K63 a12 c13 p11.Params ∧ SlK 77 K63 a15 c16 p11.Code ∧ SlK 92 K63 a18 c19 p11.Handlers ∧ Sat w K63 (flat [[(b22, Cl (vv67 p1 a2 c3 a5 c6 a8 c9) 67)], [(b24, Cl (vv67 p11 a12 c13 a15 c16 a18 c19) 67)], L])) rfl (fun J hJ => ?_) ?_
  · replace hf := hst71
    cases hc : s61
    · replace hf := bif_f hc hf
      refine s_v rfl rfl rfl ?_
      refine s_ld 0 hS rfl rfl rfl rfl rfl ?_
      refine s_v rfl rfl rfl ?_
      refine s_ld 1 hS rfl rfl rfl rfl rfl ?_
      iterate 2 refine s_v rfl rfl rfl ?_
      have hq := Option.some.inj hf
      subst hq
      refine r_join hJ _ ⟨K54, rfl, hle, h55, h56, h57, h58, h59, h60, hS⟩ ⟨rfl, rfl, rfl, trivial⟩
    replace hf := bif_t hc hf
    refine s_no rfl rfl ?_
    refine s_no rfl rfl ?_
    refine s_no rfl rfl ?_
    refine s_no rfl rfl ?_
    refine s_no rfl rfl ?_
    refine s_v rfl rfl rfl ?_
    have hq := Option.some.inj hf
    subst hq
    refine r_join hJ _ ⟨K54, rfl, hle, h55, h56, h57, h58, h59, h60, hS⟩ ⟨rfl, rfl, rfl, trivial⟩
  rintro _ w ⟨K63, rfl, hle, h64, h65, h66, h67, h68, h69, hS⟩
  refine s_v rfl rfl rfl ?_
  obtain ⟨s79, hst80, hf⟩ := bs hf
  refine r_cut [_, _, _, _, _, _] (fun τ w => ∃ (K72 : KM), τ = [(2, (.pointer (some ⟨b22, 0, none⟩))), (3, (.pointer (some ⟨b24, 0, none⟩))), (47, (.bool s79))] ∧ KM.le K K72 ∧ SlK 63 K72 a2 c3 p1.Params ∧ SlK 77 K72 a5 c6 p1.Code ∧ SlK 92 K72 a8 c9 p1.Handlers ∧ SlK 63 K72 a12 c13 p11.Params ∧ SlK 77 K72 a15 c16 p11.Code ∧ SlK 92 K72 a18 c19 p11.Handlers ∧ Sat w K72 (flat [[(b22, Cl (vv67 p1 a2 c3 a5 c6 a8 c9) 67)], [(b24, Cl (vv67 p11 a12 c13 a15 c16 a18 c19) 67)], L])) rfl (fun J hJ => ?_) ?_
  · replace hf := hst80
    cases hc : s70
    · replace hf := bif_f hc hf
      refine s_v rfl rfl rfl ?_
      refine s_ld 0 hS rfl rfl rfl rfl rfl ?_
      refine s_v rfl rfl rfl ?_
      refine s_ld 1 hS rfl rfl rfl rfl rfl ?_
      iterate 2 refine s_v rfl rfl rfl ?_
      have hq := Option.some.inj hf
      subst hq
      refine r_join hJ _ ⟨K63, rfl, hle, h64, h65, h66, h67, h68, h69, hS⟩ ⟨rfl, rfl, rfl, trivial⟩
    replace hf := bif_t hc hf
    refine s_no rfl rfl ?_
    refine s_no rfl rfl ?_
    refine s_no rfl rfl ?_
    refine s_no rfl rfl ?_
    refine s_no rfl rfl ?_
    refine s_v rfl rfl rfl ?_
    have hq := Option.some.inj hf
    subst hq
    refine r_join hJ _ ⟨K63, rfl, hle, h64, h65, h66, h67, h68, h69, hS⟩ ⟨rfl, rfl, rfl, trivial⟩
  rintro _ w ⟨K72, rfl, hle, h73, h74, h75, h76, h77, h78, hS⟩
  refine s_v rfl rfl rfl ?_
  obtain ⟨s88, hst89, hf⟩ := bs hf
  refine r_cut [_, _, _, _, _, _, _, _] (fun τ w => ∃ (K81 : KM), τ = [(2, (.pointer (some ⟨b22, 0, none⟩))), (3, (.pointer (some ⟨b24, 0, none⟩))), (56, (.bool s88))] ∧ KM.le K K81 ∧ SlK 63 K81 a2 c3 p1.Params ∧ SlK 77 K81 a5 c6 p1.Code ∧ SlK 92 K81 a8 c9 p1.Handlers ∧ SlK 63 K81 a12 c13 p11.Params ∧ SlK 77 K81 a15 c16 p11.Code ∧ SlK 92 K81 a18 c19 p11.Handlers ∧ Sat w K81 (flat [[(b22, Cl (vv67 p1 a2 c3 a5 c6 a8 c9) 67)], [(b24, Cl (vv67 p11 a12 c13 a15 c16 a18 c19) 67)], L])) rfl (fun J hJ => ?_) ?_
  · replace hf := hst89
    cases hc : s79
    · replace hf := bif_f hc hf
      refine s_v rfl rfl rfl ?_
      refine s_ld 0 hS rfl rfl rfl rfl rfl ?_
      iterate 2 refine s_v rfl rfl rfl ?_
      refine s_ld 1 hS rfl rfl rfl rfl rfl ?_
      iterate 3 refine s_v rfl rfl rfl ?_
      have hq := Option.some.inj hf
      subst hq
      refine r_join hJ _ ⟨K72, rfl, hle, h73, h74, h75, h76, h77, h78, hS⟩ ⟨rfl, rfl, rfl, trivial⟩
    replace hf := bif_t hc hf
    refine s_no rfl rfl ?_
    refine s_no rfl rfl ?_
    refine s_no rfl rfl ?_
    refine s_no rfl rfl ?_
    refine s_no rfl rfl ?_
    refine s_no rfl rfl ?_
    refine s_no rfl rfl ?_
    refine s_v rfl rfl rfl ?_
    have hq := Option.some.inj hf
    subst hq
    refine r_join hJ _ ⟨K72, rfl, hle, h73, h74, h75, h76, h77, h78, hS⟩ ⟨rfl, rfl, rfl, trivial⟩
  rintro _ w ⟨K81, rfl, hle, h82, h83, h84, h85, h86, h87, hS⟩
  refine s_v rfl rfl rfl ?_
  obtain ⟨s97, hst98, hf⟩ := bs hf
  refine r_cut [_, _, _, _, _, _, _, _] (fun τ w => ∃ (K90 : KM), τ = [(2, (.pointer (some ⟨b22, 0, none⟩))), (3, (.pointer (some ⟨b24, 0, none⟩))), (65, (.bool s97))] ∧ KM.le K K90 ∧ SlK 63 K90 a2 c3 p1.Params ∧ SlK 77 K90 a5 c6 p1.Code ∧ SlK 92 K90 a8 c9 p1.Handlers ∧ SlK 63 K90 a12 c13 p11.Params ∧ SlK 77 K90 a15 c16 p11.Code ∧ SlK 92 K90 a18 c19 p11.Handlers ∧ Sat w K90 (flat [[(b22, Cl (vv67 p1 a2 c3 a5 c6 a8 c9) 67)], [(b24, Cl (vv67 p11 a12 c13 a15 c16 a18 c19) 67)], L])) rfl (fun J hJ => ?_) ?_
  · replace hf := hst98
    cases hc : s88
    · replace hf := bif_f hc hf
      refine s_v rfl rfl rfl ?_
      refine s_ld 0 hS rfl rfl rfl rfl rfl ?_
      iterate 2 refine s_v rfl rfl rfl ?_
      refine s_ld 1 hS rfl rfl rfl rfl rfl ?_
      iterate 3 refine s_v rfl rfl rfl ?_
      have hq := Option.some.inj hf
      subst hq
      refine r_join hJ _ ⟨K81, rfl, hle, h82, h83, h84, h85, h86, h87, hS⟩ ⟨rfl, rfl, rfl, trivial⟩
    replace hf := bif_t hc hf
    refine s_no rfl rfl ?_
    refine s_no rfl rfl ?_
    refine s_no rfl rfl ?_
    refine s_no rfl rfl ?_
    refine s_no rfl rfl ?_
    refine s_no rfl rfl ?_
    refine s_no rfl rfl ?_
    refine s_v rfl rfl rfl ?_
    have hq := Option.some.inj hf
    subst hq
    refine r_join hJ _ ⟨K81, rfl, hle, h82, h83, h84, h85, h86, h87, hS⟩ ⟨rfl, rfl, rfl, trivial⟩
  rintro _ w ⟨K90, rfl, hle, h91, h92, h93, h94, h95, h96, hS⟩
  refine s_nil (qn ?_)
  refine s_if rfl (fun hc => ?_) (fun hc => ?_)
  · replace hf := bif_t hc hf
    refine s_seq (s_reg ?_)
    refine s_v rfl rfl rfl ?_
    refine s_nil (qn ?_)
    replace hS : Sat w K90 (flat [_]) := (hS.sel [2] rfl)
    refine s_rets (qrt ?_)
    have hq := Option.some.inj hf
    subst hq
    refine s_ret1 rfl (rv_t rfl) ?_
    exact ⟨K90, _, hle, rfl, Sat.nilG (hS.sel [0] rfl)⟩
  replace hf := bif_f hc hf
  refine s_skip (qn ?_)
  obtain ⟨res227, hst228, hm229⟩ := LR.then_some hf
  refine s_cut (fun τ w => ∃ (s226 : Unit) (K219 : KM), res227 = .brk s226 ∧ τ = [(2, (.pointer (some ⟨b22, 0, none⟩))), (3, (.pointer (some ⟨b24, 0, none⟩)))] ∧ KM.le K K219 ∧ SlK 63 K219 a2 c3 p1.Params ∧ SlK 77 K219 a5 c6 p1.Code ∧ SlK 92 K219 a8 c9 p1.Handlers ∧ SlK 63 K219 a12 c13 p11.Params ∧ SlK 77 K219 a15 c16 p11.Code ∧ SlK 92 K219 a18 c19 p11.Handlers ∧ Sat w K219 (flat [[(b22, Cl (vv67 p1 a2 c3 a5 c6 a8 c9) 67)], [(b24, Cl (vv67 p11 a12 c13 a15 c16 a18 c19) 67)], L])) (fun J hJ => ?_) ?_
  · replace hf := hst228
    refine s_seq (s_reg ?_)
    refine s_v rfl rfl rfl ?_
    refine s_nil (qn (s_block ?_))
    refine s_loopp (fun n τ w => ∃ (v319 : Int) (K312 : KM), bonsairef1_SameMethod.l0 fu p1 p11 n v319 = some res227 ∧ τ = [(2, (.pointer (some ⟨b22, 0, none⟩))), (3, (.pointer (some ⟨b24, 0, none⟩))), (5, (.int .i64 v319))] ∧ KM.le K K312 ∧ SlK 63 K312 a2 c3 p1.Params ∧ SlK 77 K312 a5 c6 p1.Code ∧ SlK 92 K312 a8 c9 p1.Handlers ∧ SlK 63 K312 a12 c13 p11.Params ∧ SlK 77 K312 a15 c16 p11.Code ∧ SlK 92 K312 a18 c19 p11.Handlers ∧ Sat w K312 (flat [[(b22, Cl (vv67 p1 a2 c3 a5 c6 a8 c9) 67)], [(b24, Cl (vv67 p11 a12 c13 a15 c16 a18 c19) 67)], L])) _ ⟨0, K90, hf, rfl, hle, h91, h92, h93, h94, h95, h96, hS⟩ ⟨rfl, rfl, rfl, trivial⟩ ?_ ?_
    · rintro _ _ ⟨_, _, hf, _⟩
      exact absurd hf (by simp [bonsairef1_SameMethod.l0])
    rintro n _ w Y hY ⟨v319, K312, hf, rfl, hle, h313, h314, h315, h316, h317, h318, hS⟩
    rw [bonsairef1_SameMethod.l0] at hf
    refine s_seq (s_seq (s_reg ?_))
    iterate 2 refine s_v rfl rfl rfl ?_
    refine s_ld 0 hS rfl rfl rfl rfl rfl ?_
    iterate 2 refine s_v rfl rfl rfl ?_
    refine s_nil (qn ?_)
    refine s_if rfl (fun hc => ?_) (fun hc => ?_)
    · replace hf := bif_t hc hf
      refine s_skip (qn (s_seq (s_block (s_seq ?_))))
      refine d_start [0, 1] [] hS ?_
      intro w hS
      refine d_v 0 (fun _ _ _ _ _ h => h) [0, 1] hS rfl rfl rfl (by kernel_rfl) rfl rfl ?_
      refine d_ld 1 0 (fun _ _ _ _ _ h => h) [0, 1] hS rfl rfl rfl rfl rfl (by kernel_rfl) rfl rfl ?_
      refine d_v 2 (fun _ _ _ _ _ h => h) [0, 1] hS rfl rfl rfl (by kernel_rfl) rfl rfl ?_
      obtain ⟨x340, hx341, hf⟩ := bs hf
      refine d_ixk 3 (fun _ _ _ _ _ h => h) [0, 1] hS h314 rfl hx341 rfl rfl rfl rfl rfl rfl rfl (by kernel_rfl) rfl rfl ?_
      rintro b342 o343 _ rfl h344
      refine d_ldk (v := (.agg (vv77 x340).toArray)) 4 0 (fun _ _ _ _ _ h => h) [0, 1] hS h344 rfl rfl rfl rfl (by kernel_rfl) rfl rfl ?_
      refine d_v 5 (fun _ _ _ _ _ h => h) [0, 1] hS rfl rfl rfl (by kernel_rfl) rfl rfl ?_
      refine d_ld 6 1 (fun _ _ _ _ _ h => h) [0, 1] hS rfl rfl rfl rfl rfl (by kernel_rfl) rfl rfl ?_
      refine d_v 7 (fun _ _ _ _ _ h => h) [0, 1] hS rfl rfl rfl (by kernel_rfl) rfl rfl ?_
      obtain ⟨x345, hx346, hf⟩ := bs hf
      refine d_ixk 8 (fun _ _ _ _ _ h => h) [0, 1] hS h317 rfl hx346 rfl rfl rfl rfl rfl rfl rfl (by kernel_rfl) rfl rfl ?_
      rintro b347 o348 _ rfl h349
      refine d_ldk (v := (.agg (vv77 x345).toArray)) 9 0 (fun _ _ _ _ _ h => h) [0, 1] hS h349 rfl rfl rfl rfl (by kernel_rfl) rfl rfl ?_
      refine d_nes 10 (fun _ _ _ _ _ h => h) [0, 1] hS e77 rfl rfl rfl rfl rfl (by kernel_rfl) rfl rfl ?_
      refine d_end (by kernel_rfl) ?_
      refine qn ?_
      refine s_if rfl (fun hc => ?_) (fun hc => ?_)
      · replace hf := bif_t hc hf
        refine s_seq (s_reg ?_)
        refine s_v rfl rfl rfl ?_
        refine s_nil (qn ?_)
        replace hS : Sat w K312 (flat [_]) := (hS.sel [2] rfl)
        refine s_rets (qrb (qrt (qrt (qrb (qrt ?_)))))
        replace hf := LR.esc_some hf hm229
        have hq := Option.some.inj hf
        subst hq
        refine s_ret1 rfl (rv_t rfl) ?_
        exact ⟨K312, _, hle, rfl, Sat.nilG (hS.sel [0] rfl)⟩
      replace hf := bif_f hc hf
      refine s_skip (qbn (qn (s_reg ?_)))
      iterate 3 refine s_v rfl rfl rfl ?_
      refine s_nil (qn ?_)
      refine s_join hY _ ⟨w64 (v319 + 1), K312, hf, rfl, hle, h313, h314, h315, h316, h317, h318, hS⟩ ⟨rfl, rfl, rfl, trivial⟩
    replace hf := bif_f hc hf
    refine s_exit (qxt (qxt (qxb (qn ?_))))
    have hq := Option.some.inj hf
    subst hq
    refine s_join hJ _ ⟨(), K312, rfl, rfl, hle, h313, h314, h315, h316, h317, h318, hS⟩ ⟨rfl, rfl, trivial⟩
  rintro _ w ⟨s226, K219, rfl, rfl, hle, h220, h221, h222, h223, h224, h225, hS⟩
  replace hf := LR.elim_brk hm229
  obtain ⟨res472, hst473, hm474⟩ := LR.then_some hf
  refine s_cut (fun τ w => ∃ (s471 : Unit) (K470 : KM), res472 = .brk s471 ∧ τ = [] ∧ KM.le K K470 ∧ Sat w K470 (flat [L])) (fun J hJ => ?_) ?_
  · replace hf := hst473
    refine s_seq (s_reg ?_)
    refine s_v rfl rfl rfl ?_
    refine s_nil (qn (s_block ?_))
    refine s_loopp (fun n τ w => ∃ (v564 : Int) (K557 : KM), bonsairef1_SameMethod.l1 fu p1 p11 n v564 = some res472 ∧ τ = [(2, (.pointer (some ⟨b22, 0, none⟩))), (3, (.pointer (some ⟨b24, 0, none⟩))), (6, (.int .i64 v564))] ∧ KM.le K K557 ∧ SlK 63 K557 a2 c3 p1.Params ∧ SlK 77 K557 a5 c6 p1.Code ∧ SlK 92 K557 a8 c9 p1.Handlers ∧ SlK 63 K557 a12 c13 p11.Params ∧ SlK 77 K557 a15 c16 p11.Code ∧ SlK 92 K557 a18 c19 p11.Handlers ∧ Sat w K557 (flat [[(b22, Cl (vv67 p1 a2 c3 a5 c6 a8 c9) 67)], [(b24, Cl (vv67 p11 a12 c13 a15 c16 a18 c19) 67)], L])) _ ⟨0, K219, hf, rfl, hle, h220, h221, h222, h223, h224, h225, hS⟩ ⟨rfl, rfl, rfl, trivial⟩ ?_ ?_
    · rintro _ _ ⟨_, _, hf, _⟩
      exact absurd hf (by simp [bonsairef1_SameMethod.l1])
    rintro n _ w Y hY ⟨v564, K557, hf, rfl, hle, h558, h559, h560, h561, h562, h563, hS⟩
    rw [bonsairef1_SameMethod.l1] at hf
    refine s_seq (s_seq (s_reg ?_))
    iterate 2 refine s_v rfl rfl rfl ?_
    refine s_ld 0 hS rfl rfl rfl rfl rfl ?_
    iterate 2 refine s_v rfl rfl rfl ?_
    refine s_nil (qn ?_)
    refine s_if rfl (fun hc => ?_) (fun hc => ?_)
    · replace hf := bif_t hc hf
      refine s_skip (qn (s_seq (s_block (s_seq ?_))))
      refine d_start [0, 1] [] hS ?_
      intro w hS
      refine d_v 0 (fun _ _ _ _ _ h => h) [0, 1] hS rfl rfl rfl (by kernel_rfl) rfl rfl ?_
      refine d_ld 1 0 (fun _ _ _ _ _ h => h) [0, 1] hS rfl rfl rfl rfl rfl (by kernel_rfl) rfl rfl ?_
      refine d_v 2 (fun _ _ _ _ _ h => h) [0, 1] hS rfl rfl rfl (by kernel_rfl) rfl rfl ?_
      obtain ⟨x585, hx586, hf⟩ := bs hf
      refine d_ixk 3 (fun _ _ _ _ _ h => h) [0, 1] hS h560 rfl hx586 rfl rfl rfl rfl rfl rfl rfl (by kernel_rfl) rfl rfl ?_
      rintro b587 o588 _ rfl h589
      refine d_ldk (v := (.agg (vv92 x585).toArray)) 4 0 (fun _ _ _ _ _ h => h) [0, 1] hS h589 rfl rfl rfl rfl (by kernel_rfl) rfl rfl ?_
      refine d_v 5 (fun _ _ _ _ _ h => h) [0, 1] hS rfl rfl rfl (by kernel_rfl) rfl rfl ?_
      refine d_ld 6 1 (fun _ _ _ _ _ h => h) [0, 1] hS rfl rfl rfl rfl rfl (by kernel_rfl) rfl rfl ?_
      refine d_v 7 (fun _ _ _ _ _ h => h) [0, 1] hS rfl rfl rfl (by kernel_rfl) rfl rfl ?_
      obtain ⟨x590, hx591, hf⟩ := bs hf
      refine d_ixk 8 (fun _ _ _ _ _ h => h) [0, 1] hS h563 rfl hx591 rfl rfl rfl rfl rfl rfl rfl (by kernel_rfl) rfl rfl ?_
      rintro b592 o593 _ rfl h594
      refine d_ldk (v := (.agg (vv92 x590).toArray)) 9 0 (fun _ _ _ _ _ h => h) [0, 1] hS h594 rfl rfl rfl rfl (by kernel_rfl) rfl rfl ?_
      refine d_nes 10 (fun _ _ _ _ _ h => h) [0, 1] hS e92 rfl rfl rfl rfl rfl (by kernel_rfl) rfl rfl ?_
      refine d_end (by kernel_rfl) ?_
      refine qn ?_
      refine s_if rfl (fun hc => ?_) (fun hc => ?_)
      · replace hf := bif_t hc hf
        refine s_seq (s_reg ?_)
        refine s_v rfl rfl rfl ?_
        refine s_nil (qn ?_)
        replace hS : Sat w K557 (flat [_]) := (hS.sel [2] rfl)
        refine s_rets (qrb (qrt (qrt (qrb (qrt ?_)))))
        replace hf := LR.esc_some hf hm474
        have hq := Option.some.inj hf
        subst hq
        refine s_ret1 rfl (rv_t rfl) ?_
        exact ⟨K557, _, hle, rfl, Sat.nilG (hS.sel [0] rfl)⟩
      replace hf := bif_f hc hf
      refine s_skip (qbn (qn (s_reg ?_)))
      iterate 3 refine s_v rfl rfl rfl ?_
      refine s_nil (qn ?_)
      refine s_join hY _ ⟨w64 (v564 + 1), K557, hf, rfl, hle, h558, h559, h560, h561, h562, h563, hS⟩ ⟨rfl, rfl, rfl, trivial⟩
    replace hf := bif_f hc hf
    refine s_exit (qxt (qxt (qxb (qn ?_))))
    have hq := Option.some.inj hf
    subst hq
    refine s_join hJ _ ⟨(), K557, rfl, rfl, hle, (hS.sel [2] rfl)⟩ trivial
  rintro _ w ⟨s471, K470, rfl, rfl, hle, hS⟩
  replace hf := LR.elim_brk hm474
  refine s_seq (s_reg ?_)
  refine s_v rfl rfl rfl ?_
  refine s_nil (qn (s_rets ?_))
  have hq := Option.some.inj hf
  subst hq
  refine s_ret1 rfl (rv_t rfl) ?_
  exact ⟨K470, _, hle, rfl, Sat.nilG (hS.sel [0] rfl)⟩
-- 34 bonsai/bonsairef18.Rewritten
def bonsairef18_Rewritten.l0 (fu : Nat) (p1 : api_Method) (p11 : (List (List api_Instr))) : Nat → (List Int) → Int → Option (List Int)
  | 0, _, _ => none
  | k + 1, v651, v652 => bif decide (v652 < (p1.Code.length : Int)) then (((bif decide (v652 < (p11.length : Int)) then ((idx p11 v652).bind fun x721 => some (decide ((x721.length : Int) > 0))) else (some false)).bind fun s719 => bif s719 then ((idx p11 v652).bind fun x729 => some (x729.length : Int)) else (some 1)).bind fun s699 => (idx v651 v652).bind fun x737 => (idx v651 (w64 (v652 + 1))).bind fun x747 => bonsairef18_Rewritten.l0 fu p1 p11 k (v651.set (w64 (v652 + 1) : Int).toNat (w64 (x737 + s699))) (w64 (v652 + 1))) else (some v651)
def bonsairef18_Rewritten.l2 (fu : Nat) (p1 : api_Method) (s396 : (List Int)) (s6526 : (List api_Instr)) : Nat → (List api_Instr) → Int → Option (LR (List api_Instr) (LR (List api_Instr) (api_Method × Bool)))
  | 0, _, _ => none
  | k + 1, v6852, v6853 => bif decide (v6853 < (s6526.length : Int)) then ((idx s6526 v6853).bind fun x6854 => LR.then ((bonsairef1_Jumps.fn x6854.Op).bind fun x6915 => bif x6915 then ((bif decide (x6854.K < 0) then (some true) else (some (decide (x6854.K ≥ (p1.Code.length : Int))))).bind fun s6937 => bif s6937 then (LR.esc (LR.esc (LR.esc (some ((api_Method.mk ByteArray.empty [] (api_Type.mk 0 ByteArray.empty) false false 0 [] []), false))))) else ((idx s396 x6854.K).bind fun x6939 => some (.brk x6939))) else (some (.brk x6854.K))) fun s6911 => guardB (roomy v6852.length 1 88) (bonsairef18_Rewritten.l2 fu p1 s396 s6526 k (v6852 ++ ([(api_Instr.mk x6854.Op x6854.N s6911 x6854.S x6854.Class x6854.Name x6854.Desc)] : List api_Instr)) (w64 (v6853 + 1)))) else (some (.brk v6852))
def bonsairef18_Rewritten.l1 (fu : Nat) (p1 : api_Method) (p11 : (List (List api_Instr))) (s396 : (List Int)) : Nat → (List api_Instr) → Int → Option (LR (List api_Instr) (api_Method × Bool))
  | 0, _, _ => none
  | k + 1, v5924, v5925 => bif decide (v5925 < (p1.Code.length : Int)) then (LR.then ((idx p1.Code v5925).bind fun x6451 => ((bif decide (v5925 < (p11.length : Int)) then ((idx p11 v5925).bind fun x6560 => some (decide ((x6560.length : Int) > 0))) else (some false)).bind fun s6557 => bif s6557 then ((idx p11 v5925).bind fun x6569 => some x6569) else (some [x6451])).bind fun s6526 => bonsairef18_Rewritten.l2 fu p1 s396 s6526 fu v5924 0) fun s6447 => bonsairef18_Rewritten.l1 fu p1 p11 s396 k s6447 (w64 (v5925 + 1))) else (some (.brk v5924))
def bonsairef18_Rewritten.l3 (fu : Nat) (p1 : api_Method) (s396 : (List Int)) : Nat → (List api_Handler) → Int → Option (LR (List api_Handler) (api_Method × Bool))
  | 0, _, _ => none
  | k + 1, v8173, v8174 => bif decide (v8174 < (p1.Handlers.length : Int)) then ((idx p1.Handlers v8174).bind fun x8176 => (bif decide (x8176.From < 0) then (some true) else (some (decide (x8176.From ≥ (p1.Code.length : Int))))).bind fun s8203 => (bif s8203 then (some true) else (some (decide (x8176.To < 0)))).bind fun s8225 => (bif s8225 then (some true) else (some (decide (x8176.To > (p1.Code.length : Int))))).bind fun s8247 => (bif s8247 then (some true) else (some (decide (x8176.At < 0)))).bind fun s8269 => (bif s8269 then (some true) else (some (decide (x8176.At ≥ (p1.Code.length : Int))))).bind fun s8291 => bif s8291 then (LR.esc (some ((api_Method.mk ByteArray.empty [] (api_Type.mk 0 ByteArray.empty) false false 0 [] []), false))) else ((idx s396 x8176.From).bind fun x8358 => (idx s396 x8176.To).bind fun x8368 => (idx s396 x8176.At).bind fun x8378 => guardB (roomy v8173.length 1 40) (bonsairef18_Rewritten.l3 fu p1 s396 k (v8173 ++ ([(api_Handler.mk x8358 x8368 x8378 x8176.Catch)] : List api_Handler)) (w64 (v8174 + 1))))) else (some (.brk v8173))
def bonsairef18_Rewritten.fn (fu : Nat) (p1 : api_Method) (p11 : (List (List api_Instr))) : Option (api_Method × Bool) := guardB (mayMake (w64 ((p1.Code.length : Int) + 1)) 8) ((bonsairef18_Rewritten.l0 fu p1 p11 fu (List.replicate (w64 ((p1.Code.length : Int) + 1)).toNat (GoZero.zero 3 (α := Int))) 0).bind fun s396 => (idx s396 (p1.Code.length : Int)).bind fun x758 => bif decide (x758 > 2000) then (some ((api_Method.mk ByteArray.empty [] (api_Type.mk 0 ByteArray.empty) false false 0 [] []), false)) else (LR.then (bonsairef18_Rewritten.l1 fu p1 p11 s396 fu ([] : List api_Instr) 0) fun s3867 => LR.then (bonsairef18_Rewritten.l3 fu p1 s396 fu ([] : List api_Handler) 0) fun s7678 => some ((api_Method.mk p1.Name p1.Params (api_Type.mk p1.Ret.Kind p1.Ret.Class) p1.Static p1.Abstract p1.Locals s3867 s7678), true)))
theorem bonsairef18_Rewritten_spec {K : KM} {fu : Nat} {p1 : api_Method} {p11 : (List (List api_Instr))} {r : (api_Method × Bool)} {a2 : Option Addr} {c3 : Nat} {a5 : Option Addr} {c6 : Nat} {a8 : Option Addr} {c9 : Nat} {a12 : Option Addr} {c13 : Nat} (hf : bonsairef18_Rewritten.fn fu p1 p11 = some r) (h4 : SlK 63 K a2 c3 p1.Params) (h7 : SlK 77 K a5 c6 p1.Code) (h10 : SlK 92 K a8 c9 p1.Handlers) (h14 : SlK 64 K a12 c13 p11) : Sp Try.prog 34 [(.agg (vv67 p1 a2 c3 a5 c6 a8 c9).toArray), (.slice a12 p11.length c13)] K [] (fun K' C v => ∃ (a8400 : Option Addr) (c8401 : Nat) (a8403 : Option Addr) (c8404 : Nat) (a8406 : Option Addr) (c8407 : Nat), v = (.tuple #[(.agg (vv67 r.1 a8400 c8401 a8403 c8404 a8406 c8407).toArray), (.bool r.2)]) ∧ SlK 63 K' a8400 c8401 r.1.Params ∧ SlK 77 K' a8403 c8404 r.1.Code ∧ SlK 92 K' a8406 c8407 r.1.Handlers) := by
  unfold bonsairef18_Rewritten.fn at hf
  refine spec_enter isf34 rfl ?_
  intro w L hS
  replace hS : Sat w K (flat [L]) := hS
  have hle := KM.le.refl K
  unfold bod34 Try.f34
  dsimp only [Option.getD_some, argSlots]
  refine s_seq (s_reg ?_)
  refine s_bx hS rfl rfl rfl ?_
  intro b16 w hS
  replace hS : Sat w K (flat ([(b16, Cl (vv67 p1 a2 c3 a5 c6 a8 c9) 67)] :: _)) := hS
  refine s_al hS rfl rfl rfl ?_
  intro b18 w hS
  replace hS : Sat w K (flat ([(b18, Cl [(.string ByteArray.empty), (.slice none 0 0), (.int .i64 0), (.string ByteArray.empty), (.bool false), (.bool false), (.int .i64 0), (.slice none 0 0), (.slice none 0 0)] 67)] :: _)) := hS
  refine s_v rfl rfl rfl ?_
  refine s_nil (qn (s_seq (s_reg ?_)))
  refine s_v rfl rfl rfl ?_
  refine s_ld 1 hS rfl rfl rfl rfl rfl ?_
  iterate 2 refine s_v rfl rfl rfl ?_
  refine s_nil (qn (s_seq (s_reg ?_)))
  iterate 2 refine s_v rfl rfl rfl ?_
  obtain ⟨hm20, hf⟩ := gs hf
  refine s_mks (e := 3) (α := Int) hS rfl rfl rfl rfl (mayMake_le hm20).1 (mayMake_le hm20).2 rfl rfl rfl rfl rfl rfl ?_
  intro a21 c22 w C23 h24 hS
  refine s_v rfl rfl rfl ?_
  refine s_nil (qn ?_)
  obtain ⟨s396, hst397, hf⟩ := bs hf
  refine s_cut (fun τ w => ∃ (K386 : KM) (C394 : Chunks), τ = [(1, (.slice a12 p11.length c13)), (2, (.pointer (some ⟨b16, 0, none⟩))), (4, (.pointer (some ⟨b18, 0, none⟩))), (6, (.int .i64 (p1.Code.length : Int))), (7, (.slice a21 s396.length c22))] ∧ KM.le K K386 ∧ SlK 64 K386 a12 c13 p11 ∧ SlK 63 K386 a2 c3 p1.Params ∧ SlK 77 K386 a5 c6 p1.Code ∧ SlK 92 K386 a8 c9 p1.Handlers ∧ OwnS 3 K386 (.slice a21 s396.length c22) s396 C394 ∧ Sat w K386 (flat [[(b16, Cl (vv67 p1 a2 c3 a5 c6 a8 c9) 67)], [(b18, Cl [(.string ByteArray.empty), (.slice none 0 0), (.int .i64 0), (.string ByteArray.empty), (.bool false), (.bool false), (.int .i64 0), (.slice none 0 0), (.slice none 0 0)] 67)], C394, L])) (fun J hJ => ?_) ?_
  · replace hf := hst397
    refine s_seq (s_reg ?_)
    refine s_v rfl rfl rfl ?_
    refine s_nil (qn (s_block ?_))
    refine s_loopp (fun n τ w => ∃ (v651 : (List Int)) (v652 : Int) (K641 : KM) (C649 : Chunks), bonsairef18_Rewritten.l0 fu p1 p11 n v651 v652 = some s396 ∧ τ = [(1, (.slice a12 p11.length c13)), (2, (.pointer (some ⟨b16, 0, none⟩))), (4, (.pointer (some ⟨b18, 0, none⟩))), (6, (.int .i64 (p1.Code.length : Int))), (7, (.slice a21 v651.length c22)), (8, (.int .i64 v652))] ∧ KM.le K K641 ∧ SlK 64 K641 a12 c13 p11 ∧ SlK 63 K641 a2 c3 p1.Params ∧ SlK 77 K641 a5 c6 p1.Code ∧ SlK 92 K641 a8 c9 p1.Handlers ∧ OwnS 3 K641 (.slice a21 v651.length c22) v651 C649 ∧ Sat w K641 (flat [[(b16, Cl (vv67 p1 a2 c3 a5 c6 a8 c9) 67)], [(b18, Cl [(.string ByteArray.empty), (.slice none 0 0), (.int .i64 0), (.string ByteArray.empty), (.bool false), (.bool false), (.int .i64 0), (.slice none 0 0), (.slice none 0 0)] 67)], C649, L])) _ ⟨(List.replicate (w64 ((p1.Code.length : Int) + 1)).toNat (GoZero.zero 3 (α := Int))), 0, K, C23, hf, rfl, hle, h14, h4, h7, h10, h24, (hS.sel [2, 1, 0, 3] rfl)⟩ ⟨rfl, rfl, rfl, rfl, rfl, rfl, trivial⟩ ?_ ?_
    · rintro _ _ ⟨_, _, _, _, hf, _⟩
      exact absurd hf (by simp [bonsairef18_Rewritten.l0])
    rintro n _ w Y hY ⟨v651, v652, K641, C649, hf, rfl, hle, h642, h643, h644, h645, h646, hS⟩
    rw [bonsairef18_Rewritten.l0] at hf
    refine s_seq (s_seq (s_reg ?_))
    iterate 3 refine s_v rfl rfl rfl ?_
    refine s_nil (qn ?_)
    refine s_if rfl (fun hc => ?_) (fun hc => ?_)
    · replace hf := bif_t hc hf
      refine s_skip (qn (s_seq (s_block (s_seq (s_reg ?_)))))
      refine s_v rfl rfl rfl ?_
      refine s_nil (qn ?_)
      obtain ⟨s699, hst700, hf⟩ := bs hf
      refine s_cut (fun τ w => ∃ (K689 : KM) (C697 : Chunks), τ = [(1, (.slice a12 p11.length c13)), (2, (.pointer (some ⟨b16, 0, none⟩))), (4, (.pointer (some ⟨b18, 0, none⟩))), (6, (.int .i64 (p1.Code.length : Int))), (7, (.slice a21 v651.length c22)), (8, (.int .i64 v652)), (9, (.int .i64 s699))] ∧ KM.le K K689 ∧ SlK 64 K689 a12 c13 p11 ∧ SlK 63 K689 a2 c3 p1.Params ∧ SlK 77 K689 a5 c6 p1.Code ∧ SlK 92 K689 a8 c9 p1.Handlers ∧ OwnS 3 K689 (.slice a21 v651.length c22) v651 C697 ∧ Sat w K689 (flat [[(b16, Cl (vv67 p1 a2 c3 a5 c6 a8 c9) 67)], [(b18, Cl [(.string ByteArray.empty), (.slice none 0 0), (.int .i64 0), (.string ByteArray.empty), (.bool false), (.bool false), (.int .i64 0), (.slice none 0 0), (.slice none 0 0)] 67)], C697, L])) (fun J hJ => ?_) ?_
      · replace hf := hst700
        refine s_seq (s_reg ?_)
        iterate 5 refine s_v rfl rfl rfl ?_
        obtain ⟨s719, hst720, hf⟩ := bs hf
        refine r_cut [_, _, _, _, _, _, _] (fun τ w => ∃ (K709 : KM) (C717 : Chunks), τ = [(1, (.slice a12 p11.length c13)), (2, (.pointer (some ⟨b16, 0, none⟩))), (4, (.pointer (some ⟨b18, 0, none⟩))), (6, (.int .i64 (p1.Code.length : Int))), (7, (.slice a21 v651.length c22)), (8, (.int .i64 v652)), (9, (.int .i64 1)), (39, (.bool s719))] ∧ KM.le K K709 ∧ SlK 64 K709 a12 c13 p11 ∧ SlK 63 K709 a2 c3 p1.Params ∧ SlK 77 K709 a5 c6 p1.Code ∧ SlK 92 K709 a8 c9 p1.Handlers ∧ OwnS 3 K709 (.slice a21 v651.length c22) v651 C717 ∧ Sat w K709 (flat [[(b16, Cl (vv67 p1 a2 c3 a5 c6 a8 c9) 67)], [(b18, Cl [(.string ByteArray.empty), (.slice none 0 0), (.int .i64 0), (.string ByteArray.empty), (.bool false), (.bool false), (.int .i64 0), (.slice none 0 0), (.slice none 0 0)] 67)], C717, L])) rfl (fun J hJ => ?_) ?_
        · replace hf := hst720
          cases hc : (decide (v652 < (p11.length : Int)))
          · replace hf := bif_f hc hf
            refine s_no rfl rfl ?_
            refine s_no rfl rfl ?_
            refine s_no rfl rfl ?_
            refine s_no rfl rfl ?_
            refine s_no rfl rfl ?_
            refine s_no rfl rfl ?_
            refine s_v rfl rfl rfl ?_
            have hq := Option.some.inj hf
            subst hq
            refine r_join hJ _ ⟨K641, C649, rfl, hle, h642, h643, h644, h645, h646, hS⟩ ⟨rfl, rfl, rfl, rfl, rfl, rfl, rfl, rfl, trivial⟩
          replace hf := bif_t hc hf
          iterate 2 refine s_v rfl rfl rfl ?_
          obtain ⟨x721, hx722, hf⟩ := bs hf
          refine s_ixk h642 rfl hx722 rfl rfl rfl rfl rfl rfl rfl ?_
          rintro b726 o727 _ ⟨a723, c724, rfl, h725⟩ h728
          refine s_ldk 0 hS h728 rfl rfl rfl rfl ?_
          iterate 3 refine s_v rfl rfl rfl ?_
          have hq := Option.some.inj hf
          subst hq
          refine r_join hJ _ ⟨K641, C649, rfl, hle, h642, h643, h644, h645, h646, hS⟩ ⟨rfl, rfl, rfl, rfl, rfl, rfl, rfl, rfl, trivial⟩
        rintro _ w ⟨K709, C717, rfl, hle, h710, h711, h712, h713, h714, hS⟩
        refine s_nil (qn ?_)
        refine s_if rfl (fun hc => ?_) (fun hc => ?_)
        · replace hf := bif_t hc hf
          refine s_reg ?_
          iterate 2 refine s_v rfl rfl rfl ?_
          obtain ⟨x729, hx730, hf⟩ := bs hf
          refine s_ixk h710 rfl hx730 rfl rfl rfl rfl rfl rfl rfl ?_
          rintro b734 o735 _ ⟨a731, c732, rfl, h733⟩ h736
          refine s_ldk 0 hS h736 rfl rfl rfl rfl ?_
          iterate 2 refine s_v rfl rfl rfl ?_
          refine s_nil (qn ?_)
          have hq := Option.some.inj hf
          subst hq
          refine s_join hJ _ ⟨K709, C717, rfl, hle, h710, h711, h712, h713, h714, hS⟩ ⟨rfl, rfl, rfl, rfl, rfl, rfl, rfl, trivial⟩
        replace hf := bif_f hc hf
        refine s_skip (qn ?_)
        have hq := Option.some.inj hf
        subst hq
        refine s_join hJ _ ⟨K709, C717, rfl, hle, h710, h711, h712, h713, h714, hS⟩ ⟨rfl, rfl, rfl, rfl, rfl, rfl, rfl, trivial⟩
      rintro _ w ⟨K689, C697, rfl, hle, h690, h691, h692, h693, h694, hS⟩
      refine s_reg ?_
      iterate 5 refine s_v rfl rfl rfl ?_
      obtain ⟨x737, hx738, hf⟩ := bs hf
      refine s_ixo 2 hS rfl h694 hx738 rfl rfl rfl rfl rfl rfl rfl ?_
      intro b739 l740 cs743 l741 hcs_ hC744 hun742
      obtain rfl := hcs_
      subst hC744
      have hq745 := KM.le.refl K689
      refine s_ldm 2 0 hS rfl rfl rfl rfl rfl ?_
      iterate 2 refine s_v rfl rfl rfl ?_
      generalize hCg_ : ([(b739, Cl (l740 ++ (([(.int .i64 x737)] : List Value) ++ l741)) 3)] : Chunks) = C746 at hS h694
      clear hCg_
      obtain ⟨x747, hx748, hf⟩ := bs hf
      refine s_ixo 2 hS rfl h694 hx748 rfl rfl rfl rfl rfl rfl rfl ?_
      intro b749 l750 cs753 l751 hcs_ hC754 hun752
      obtain rfl := hcs_
      subst hC754
      have hq755 := KM.le.refl K689
      refine s_stm (cs' := [(.int .i64 (w64 (x737 + s699)))]) 2 0 hS rfl rfl rfl rfl rfl ?_
      intro w hS
      replace hS : Sat w _ (flat [_, _, _, _]) := hS
      have h756 := hun752 K689 _ _ hq755 (show GoData.cells 3 _ (w64 (x737 + s699)) _ from rfl)
      have hl757 := OwnS.len h756
      refine s_nil (qbn (qn (s_reg ?_)))
      iterate 3 refine s_v rfl rfl rfl ?_
      refine s_nil (qn ?_)
      refine s_join hY _ ⟨(v651.set (w64 (v652 + 1) : Int).toNat (w64 (x737 + s699))), w64 (v652 + 1), K689, [(b749, Cl (l750 ++ (([(.int .i64 (w64 (x737 + s699)))] : List Value) ++ l751)) 3)], hf, rfl, hle, h690, h691, h692, h693, (OwnS.norm h756), (by (try rw [hl757]); exact hS)⟩ ⟨rfl, rfl, rfl, rfl, (by rw [hl757]; rfl), rfl, trivial⟩
    replace hf := bif_f hc hf
    refine s_exit (qxt (qxt (qxb (qn ?_))))
    have hq := Option.some.inj hf
    subst hq
    refine s_join hJ _ ⟨K641, C649, rfl, hle, h642, h643, h644, h645, h646, hS⟩ ⟨rfl, rfl, rfl, rfl, rfl, trivial⟩
  rintro _ w ⟨K386, C394, rfl, hle, h387, h388, h389, h390, h391, hS⟩
  refine s_seq (s_seq (s_reg ?_))
  iterate 2 refine s_v rfl rfl rfl ?_
  obtain ⟨x758, hx759, hf⟩ := bs hf
  refine s_ixo 2 hS rfl h391 hx759 rfl rfl rfl rfl rfl rfl rfl ?_
  intro b760 l761 cs764 l762 hcs_ hC765 hun763
  obtain rfl := hcs_
  subst hC765
  have hq766 := KM.le.refl K386
  refine s_ldm 2 0 hS rfl rfl rfl rfl rfl ?_
  refine s_v rfl rfl rfl ?_
  refine s_nil (qn ?_)
  refine s_if rfl (fun hc => ?_) (fun hc => ?_)
  · replace hf := bif_t hc hf
    refine s_seq (s_reg ?_)
    refine s_v (v := (.agg #[(.string ByteArray.empty), (.slice none 0 0), (.int .i64 0), (.string ByteArray.empty), (.bool false), (.bool false), (.int .i64 0), (.slice none 0 0), (.slice none 0 0)])) rfl rfl rfl ?_
    refine s_st (cs' := [(.string ByteArray.empty), (.slice none 0 0), (.int .i64 0), (.string ByteArray.empty), (.bool false), (.bool false), (.int .i64 0), (.slice none 0 0), (.slice none 0 0)]) 1 hS rfl rfl rfl rfl rfl ?_
    intro w hS
    replace hS : Sat w _ (flat [_, _, _, _]) := hS
    refine s_v rfl rfl rfl ?_
    refine s_nil (qn ?_)
    replace hS : Sat w K386 (flat [_, _]) := (hS.sel [1, 3] rfl)
    refine s_rets (qrt ?_)
    have hq := Option.some.inj hf
    subst hq
    refine s_ret2 rfl (rv_c (v := (.agg #[(.string ByteArray.empty), (.slice none 0 0), (.int .i64 0), (.string ByteArray.empty), (.bool false), (.bool false), (.int .i64 0), (.slice none 0 0), (.slice none 0 0)])) 0 hS rfl rfl rfl) (rv_t rfl) ?_
    exact ⟨K386, _, hle, ⟨none, 0, none, 0, none, 0, rfl, SlK.nil, SlK.nil, SlK.nil⟩, Sat.nilG (hS.sel [1] rfl)⟩
  replace hf := bif_f hc hf
  refine s_skip (qn (s_seq (s_reg ?_)))
  refine s_ld (v := (.agg (vv67 p1 a2 c3 a5 c6 a8 c9).toArray)) 0 hS rfl rfl rfl rfl rfl ?_
  refine s_al hS rfl rfl rfl ?_
  intro b767 w hS
  replace hS : Sat w K386 (flat ([(b767, Cl [(.string ByteArray.empty), (.slice none 0 0), (.int .i64 0), (.string ByteArray.empty), (.bool false), (.bool false), (.int .i64 0), (.slice none 0 0), (.slice none 0 0)] 67)] :: _)) := hS
  refine s_st (cs' := (vv67 p1 a2 c3 a5 c6 a8 c9)) 0 hS rfl rfl rfl rfl rfl ?_
  intro w hS
  replace hS : Sat w _ (flat [_, _, _, _, _]) := hS
  refine s_nil (qn (s_seq (s_reg ?_)))
  refine s_v rfl rfl rfl ?_
  refine s_st (cs' := [(.string p1.Name), (.slice a2 p1.Params.length c3), (.int .i64 p1.Ret.Kind), (.string p1.Ret.Class), (.bool p1.Static), (.bool p1.Abstract), (.int .i64 p1.Locals), (.slice none 0 0), (.slice a8 p1.Handlers.length c9)]) 0 hS rfl rfl rfl rfl rfl ?_
  intro w hS
  replace hS : Sat w _ (flat [_, _, _, _, _]) := hS
  refine s_v rfl rfl rfl ?_
  refine s_st (cs' := [(.string p1.Name), (.slice a2 p1.Params.length c3), (.int .i64 p1.Ret.Kind), (.string p1.Ret.Class), (.bool p1.Static), (.bool p1.Abstract), (.int .i64 p1.Locals), (.slice none 0 0), (.slice none 0 0)]) 0 hS rfl rfl rfl rfl rfl ?_
  intro w hS
  replace hS : Sat w _ (flat [_, _, _, _, _]) := hS
  refine s_nil (qn ?_)
  obtain ⟨res3868, hst3869, hm3870⟩ := LR.then_some hf
  refine s_cut (fun τ w => ∃ (s3867 : (List api_Instr)) (K3852 : KM) (C3859 : Chunks) (a3863 : Option Addr) (c3864 : Nat) (C3865 : Chunks), res3868 = .brk s3867 ∧ τ = [(2, (.pointer (some ⟨b16, 0, none⟩))), (4, (.pointer (some ⟨b18, 0, none⟩))), (6, (.int .i64 (p1.Code.length : Int))), (7, (.slice a21 s396.length c22)), (10, (.pointer (some ⟨b767, 0, none⟩)))] ∧ KM.le K K3852 ∧ SlK 63 K3852 a2 c3 p1.Params ∧ SlK 77 K3852 a5 c6 p1.Code ∧ SlK 92 K3852 a8 c9 p1.Handlers ∧ OwnS 3 K3852 (.slice a21 s396.length c22) s396 C3859 ∧ SlK 63 K3852 a2 c3 p1.Params ∧ OwnS 77 K3852 (.slice a3863 s3867.length c3864) s3867 C3865 ∧ Sat w K3852 (flat [[(b16, Cl (vv67 p1 a2 c3 a5 c6 a8 c9) 67)], [(b18, Cl [(.string ByteArray.empty), (.slice none 0 0), (.int .i64 0), (.string ByteArray.empty), (.bool false), (.bool false), (.int .i64 0), (.slice none 0 0), (.slice none 0 0)] 67)], C3859, [(b767, Cl [(.string p1.Name), (.slice a2 p1.Params.length c3), (.int .i64 p1.Ret.Kind), (.string p1.Ret.Class), (.bool p1.Static), (.bool p1.Abstract), (.int .i64 p1.Locals), (.slice a3863 s3867.length c3864), (.slice none 0 0)] 67)], C3865, L])) (fun J hJ => ?_) ?_
  · replace hf := hst3869
    refine s_seq (s_reg ?_)
    refine s_v rfl rfl rfl ?_
    refine s_nil (qn (s_block ?_))
    replace hS := hS.nilG
    refine s_loopp (fun n τ w => ∃ (v5924 : (List api_Instr)) (v5925 : Int) (K5908 : KM) (C5916 : Chunks) (a5920 : Option Addr) (c5921 : Nat) (C5922 : Chunks), bonsairef18_Rewritten.l1 fu p1 p11 s396 n v5924 v5925 = some res3868 ∧ τ = [(1, (.slice a12 p11.length c13)), (2, (.pointer (some ⟨b16, 0, none⟩))), (4, (.pointer (some ⟨b18, 0, none⟩))), (6, (.int .i64 (p1.Code.length : Int))), (7, (.slice a21 s396.length c22)), (10, (.pointer (some ⟨b767, 0, none⟩))), (11, (.int .i64 v5925))] ∧ KM.le K K5908 ∧ SlK 64 K5908 a12 c13 p11 ∧ SlK 63 K5908 a2 c3 p1.Params ∧ SlK 77 K5908 a5 c6 p1.Code ∧ SlK 92 K5908 a8 c9 p1.Handlers ∧ OwnS 3 K5908 (.slice a21 s396.length c22) s396 C5916 ∧ SlK 63 K5908 a2 c3 p1.Params ∧ OwnS 77 K5908 (.slice a5920 v5924.length c5921) v5924 C5922 ∧ Sat w K5908 (flat [[(b16, Cl (vv67 p1 a2 c3 a5 c6 a8 c9) 67)], [(b18, Cl [(.string ByteArray.empty), (.slice none 0 0), (.int .i64 0), (.string ByteArray.empty), (.bool false), (.bool false), (.int .i64 0), (.slice none 0 0), (.slice none 0 0)] 67)], C5916, [(b767, Cl [(.string p1.Name), (.slice a2 p1.Params.length c3), (.int .i64 p1.Ret.Kind), (.string p1.Ret.Class), (.bool p1.Static), (.bool p1.Abstract), (.int .i64 p1.Locals), (.slice a5920 v5924.length c5921), (.slice none 0 0)] 67)], C5922, L])) _ ⟨([] : List api_Instr), 0, K386, [(b760, Cl (l761 ++ (([(.int .i64 x758)] : List Value) ++ l762)) 3)], none, 0, [], hf, rfl, hle, h387, h388, h389, h390, h391, h388, OwnS.nil, (hS.sel [2, 3, 4, 1, 0, 5] rfl)⟩ ⟨rfl, rfl, rfl, rfl, rfl, rfl, rfl, trivial⟩ ?_ ?_
    · rintro _ _ ⟨_, _, _, _, _, _, _, hf, _⟩
      exact absurd hf (by simp [bonsairef18_Rewritten.l1])
    rintro n _ w Y hY ⟨v5924, v5925, K5908, C5916, a5920, c5921, C5922, hf, rfl, hle, h5909, h5910, h5911, h5912, h5913, h5918, h5919, hS⟩
    rw [bonsairef18_Rewritten.l1] at hf
    refine s_seq (s_seq (s_reg ?_))
    iterate 3 refine s_v rfl rfl rfl ?_
    refine s_nil (qn ?_)
    refine s_if rfl (fun hc => ?_) (fun hc => ?_)
    · replace hf := bif_t hc hf
      refine s_skip (qn ?_)
      obtain ⟨res6448, hst6449, hm6450⟩ := LR.then_some hf
      refine s_cut (fun τ w => ∃ (s6447 : (List api_Instr)) (K6431 : KM) (C6439 : Chunks) (a6443 : Option Addr) (c6444 : Nat) (C6445 : Chunks), res6448 = .brk s6447 ∧ τ = [(1, (.slice a12 p11.length c13)), (2, (.pointer (some ⟨b16, 0, none⟩))), (4, (.pointer (some ⟨b18, 0, none⟩))), (6, (.int .i64 (p1.Code.length : Int))), (7, (.slice a21 s396.length c22)), (10, (.pointer (some ⟨b767, 0, none⟩))), (11, (.int .i64 v5925))] ∧ KM.le K K6431 ∧ SlK 64 K6431 a12 c13 p11 ∧ SlK 63 K6431 a2 c3 p1.Params ∧ SlK 77 K6431 a5 c6 p1.Code ∧ SlK 92 K6431 a8 c9 p1.Handlers ∧ OwnS 3 K6431 (.slice a21 s396.length c22) s396 C6439 ∧ SlK 63 K6431 a2 c3 p1.Params ∧ OwnS 77 K6431 (.slice a6443 s6447.length c6444) s6447 C6445 ∧ Sat w K6431 (flat [[(b16, Cl (vv67 p1 a2 c3 a5 c6 a8 c9) 67)], [(b18, Cl [(.string ByteArray.empty), (.slice none 0 0), (.int .i64 0), (.string ByteArray.empty), (.bool false), (.bool false), (.int .i64 0), (.slice none 0 0), (.slice none 0 0)] 67)], C6439, [(b767, Cl [(.string p1.Name), (.slice a2 p1.Params.length c3), (.int .i64 p1.Ret.Kind), (.string p1.Ret.Class), (.bool p1.Static), (.bool p1.Abstract), (.int .i64 p1.Locals), (.slice a6443 s6447.length c6444), (.slice none 0 0)] 67)], C6445, L])) (fun J hJ => ?_) ?_
      · replace hf := hst6449
        refine s_block (s_seq (s_reg ?_))
        refine s_v rfl rfl rfl ?_
        refine s_ld 0 hS rfl rfl rfl rfl rfl ?_
        refine s_v rfl rfl rfl ?_
        obtain ⟨x6451, hx6452, hf⟩ := bs hf
        refine s_ixk h5911 rfl hx6452 rfl rfl rfl rfl rfl rfl rfl ?_
        rintro b6453 o6454 _ rfl h6455
        refine s_ldk (v := (.agg (vv77 x6451).toArray)) 0 hS h6455 rfl rfl rfl rfl ?_
        refine s_bwc (cs := (vv77 x6451)) hS rfl rfl rfl rfl rfl rfl rfl rfl rfl rfl ?_
        intro b6456 w hS
        refine s_v rfl rfl rfl ?_
        refine s_nil (qn ?_)
        obtain ⟨s6526, hst6527, hf⟩ := bs hf
        refine s_cut (fun τ w => ∃ (K6507 : KM) (C6515 : Chunks) (C6521 : Chunks) (a6524 : Option Addr) (c6525 : Nat), τ = [(1, (.slice a12 p11.length c13)), (2, (.pointer (some ⟨b16, 0, none⟩))), (4, (.pointer (some ⟨b18, 0, none⟩))), (6, (.int .i64 (p1.Code.length : Int))), (7, (.slice a21 s396.length c22)), (10, (.pointer (some ⟨b767, 0, none⟩))), (11, (.int .i64 v5925)), (12, (.slice a6524 s6526.length c6525))] ∧ KM.le K K6507 ∧ SlK 64 K6507 a12 c13 p11 ∧ SlK 63 K6507 a2 c3 p1.Params ∧ SlK 77 K6507 a5 c6 p1.Code ∧ SlK 92 K6507 a8 c9 p1.Handlers ∧ OwnS 3 K6507 (.slice a21 s396.length c22) s396 C6515 ∧ SlK 63 K6507 a2 c3 p1.Params ∧ OwnS 77 K6507 (.slice a5920 v5924.length c5921) v5924 C6521 ∧ SlK 77 K6507 a6524 c6525 s6526 ∧ Sat w K6507 (flat [[(b16, Cl (vv67 p1 a2 c3 a5 c6 a8 c9) 67)], [(b18, Cl [(.string ByteArray.empty), (.slice none 0 0), (.int .i64 0), (.string ByteArray.empty), (.bool false), (.bool false), (.int .i64 0), (.slice none 0 0), (.slice none 0 0)] 67)], C6515, [(b767, Cl [(.string p1.Name), (.slice a2 p1.Params.length c3), (.int .i64 p1.Ret.Kind), (.string p1.Ret.Class), (.bool p1.Static), (.bool p1.Abstract), (.int .i64 p1.Locals), (.slice a5920 v5924.length c5921), (.slice none 0 0)] 67)], C6521, L])) (fun J hJ => ?_) ?_
        · replace hf := hst6527
          refine s_seq (s_reg ?_)
          iterate 5 refine s_v rfl rfl rfl ?_
          obtain ⟨s6557, hst6558, hf⟩ := bs hf
          refine r_cut [_, _, _, _, _, _, _] (fun τ w => ∃ (K6536 : KM) (C6544 : Chunks) (C6550 : Chunks) (a6553 : Option Addr) (c6554 : Nat) (C6555 : Chunks), τ = [(1, (.slice a12 p11.length c13)), (2, (.pointer (some ⟨b16, 0, none⟩))), (4, (.pointer (some ⟨b18, 0, none⟩))), (6, (.int .i64 (p1.Code.length : Int))), (7, (.slice a21 s396.length c22)), (10, (.pointer (some ⟨b767, 0, none⟩))), (11, (.int .i64 v5925)), (12, (.slice a6553 ([x6451].length) c6554)), (86, (.bool s6557))] ∧ KM.le K K6536 ∧ SlK 64 K6536 a12 c13 p11 ∧ SlK 63 K6536 a2 c3 p1.Params ∧ SlK 77 K6536 a5 c6 p1.Code ∧ SlK 92 K6536 a8 c9 p1.Handlers ∧ OwnS 3 K6536 (.slice a21 s396.length c22) s396 C6544 ∧ SlK 63 K6536 a2 c3 p1.Params ∧ OwnS 77 K6536 (.slice a5920 v5924.length c5921) v5924 C6550 ∧ OwnS 77 K6536 (.slice a6553 ([x6451].length) c6554) [x6451] C6555 ∧ Sat w K6536 (flat [[(b16, Cl (vv67 p1 a2 c3 a5 c6 a8 c9) 67)], [(b18, Cl [(.string ByteArray.empty), (.slice none 0 0), (.int .i64 0), (.string ByteArray.empty), (.bool false), (.bool false), (.int .i64 0), (.slice none 0 0), (.slice none 0 0)] 67)], C6544, [(b767, Cl [(.string p1.Name), (.slice a2 p1.Params.length c3), (.int .i64 p1.Ret.Kind), (.string p1.Ret.Class), (.bool p1.Static), (.bool p1.Abstract), (.int .i64 p1.Locals), (.slice a5920 v5924.length c5921), (.slice none 0 0)] 67)], C6550, C6555, L])) rfl (fun J hJ => ?_) ?_
          · replace hf := hst6558
            cases hc : (decide (v5925 < (p11.length : Int)))
            · replace hf := bif_f hc hf
              refine s_no rfl rfl ?_
              refine s_no rfl rfl ?_
              refine s_no rfl rfl ?_
              refine s_no rfl rfl ?_
              refine s_no rfl rfl ?_
              refine s_no rfl rfl ?_
              refine s_v rfl rfl rfl ?_
              have h6559 : OwnS 77 K5908 (.slice (some ⟨b6456, 0, none⟩) 1 1) [x6451] [(b6456, Cl (vv77 x6451) 77)] := OwnS.lit ⟨(vv77 x6451), _, rfl, rfl, rfl⟩ rfl rfl
              have hq := Option.some.inj hf
              subst hq
              refine r_join hJ _ ⟨K5908, C5916, C5922, (some ⟨b6456, 0, none⟩), 1, [(b6456, Cl (vv77 x6451) 77)], rfl, hle, h5909, h5910, h5911, h5912, h5913, h5918, h5919, h6559, (hS.sel [1, 2, 3, 4, 5, 0, 6] rfl)⟩ ⟨rfl, rfl, rfl, rfl, rfl, rfl, rfl, rfl, rfl, trivial⟩
            replace hf := bif_t hc hf
            iterate 2 refine s_v rfl rfl rfl ?_
            obtain ⟨x6560, hx6561, hf⟩ := bs hf
            refine s_ixk h5909 rfl hx6561 rfl rfl rfl rfl rfl rfl rfl ?_
            rintro b6565 o6566 _ ⟨a6562, c6563, rfl, h6564⟩ h6567
            refine s_ldk 0 hS h6567 rfl rfl rfl rfl ?_
            iterate 3 refine s_v rfl rfl rfl ?_
            have h6568 : OwnS 77 K5908 (.slice (some ⟨b6456, 0, none⟩) 1 1) [x6451] [(b6456, Cl (vv77 x6451) 77)] := OwnS.lit ⟨(vv77 x6451), _, rfl, rfl, rfl⟩ rfl rfl
            have hq := Option.some.inj hf
            subst hq
            refine r_join hJ _ ⟨K5908, C5916, C5922, (some ⟨b6456, 0, none⟩), 1, [(b6456, Cl (vv77 x6451) 77)], rfl, hle, h5909, h5910, h5911, h5912, h5913, h5918, h5919, h6568, (hS.sel [1, 2, 3, 4, 5, 0, 6] rfl)⟩ ⟨rfl, rfl, rfl, rfl, rfl, rfl, rfl, rfl, rfl, trivial⟩
          rintro _ w ⟨K6536, C6544, C6550, a6553, c6554, C6555, rfl, hle, h6537, h6538, h6539, h6540, h6541, h6546, h6547, h6552, hS⟩
          refine s_nil (qn ?_)
          refine s_if rfl (fun hc => ?_) (fun hc => ?_)
          · replace hf := bif_t hc hf
            refine s_reg ?_
            iterate 2 refine s_v rfl rfl rfl ?_
            obtain ⟨x6569, hx6570, hf⟩ := bs hf
            refine s_ixk h6537 rfl hx6570 rfl rfl rfl rfl rfl rfl rfl ?_
            rintro b6574 o6575 _ ⟨a6571, c6572, rfl, h6573⟩ h6576
            refine s_ldk 0 hS h6576 rfl rfl rfl rfl ?_
            refine s_v rfl rfl rfl ?_
            refine s_nil (qn ?_)
            have hq := Option.some.inj hf
            subst hq
            refine s_join hJ _ ⟨K6536, C6544, C6550, a6571, c6572, rfl, hle, h6537, h6538, h6539, h6540, h6541, h6546, h6547, h6573, (hS.sel [0, 1, 2, 3, 4, 6] rfl)⟩ ⟨rfl, rfl, rfl, rfl, rfl, rfl, rfl, rfl, trivial⟩
          replace hf := bif_f hc hf
          refine s_skip (qn ?_)
          obtain ⟨K6577, hk6578, h6579, hS⟩ := h6552.freeze (hS.sel [5, 0, 1, 2, 3, 4, 6] rfl)
          replace hS : Sat w _ (flat [_, _, _, _, _, _]) := hS
          have hq := Option.some.inj hf
          subst hq
          replace h6537 := h6537.mono hk6578
          replace h6538 := h6538.mono hk6578
          replace h6539 := h6539.mono hk6578
          replace h6540 := h6540.mono hk6578
          replace h6541 := h6541.mono hk6578
          replace h6546 := h6546.mono hk6578
          replace h6547 := h6547.mono hk6578
          replace hle := hle.trans hk6578
          refine s_join hJ _ ⟨K6577, C6544, C6550, a6553, c6554, rfl, hle, h6537, h6538, h6539, h6540, h6541, h6546, h6547, h6579, hS⟩ ⟨rfl, rfl, rfl, rfl, rfl, rfl, rfl, rfl, trivial⟩
        rintro _ w ⟨K6507, C6515, C6521, a6524, c6525, rfl, hle, h6508, h6509, h6510, h6511, h6512, h6517, h6518, h6523, hS⟩
        refine s_seq (s_reg ?_)
        refine s_v rfl rfl rfl ?_
        refine s_nil (qn (s_block ?_))
        refine s_loopp (fun n τ w => ∃ (v6852 : (List api_Instr)) (v6853 : Int) (K6835 : KM) (C6843 : Chunks) (a6847 : Option Addr) (c6848 : Nat) (C6849 : Chunks), bonsairef18_Rewritten.l2 fu p1 s396 s6526 n v6852 v6853 = some res6448 ∧ τ = [(1, (.slice a12 p11.length c13)), (2, (.pointer (some ⟨b16, 0, none⟩))), (4, (.pointer (some ⟨b18, 0, none⟩))), (6, (.int .i64 (p1.Code.length : Int))), (7, (.slice a21 s396.length c22)), (10, (.pointer (some ⟨b767, 0, none⟩))), (11, (.int .i64 v5925)), (12, (.slice a6524 s6526.length c6525)), (13, (.int .i64 v6853))] ∧ KM.le K K6835 ∧ SlK 64 K6835 a12 c13 p11 ∧ SlK 63 K6835 a2 c3 p1.Params ∧ SlK 77 K6835 a5 c6 p1.Code ∧ SlK 92 K6835 a8 c9 p1.Handlers ∧ OwnS 3 K6835 (.slice a21 s396.length c22) s396 C6843 ∧ SlK 63 K6835 a2 c3 p1.Params ∧ OwnS 77 K6835 (.slice a6847 v6852.length c6848) v6852 C6849 ∧ SlK 77 K6835 a6524 c6525 s6526 ∧ Sat w K6835 (flat [[(b16, Cl (vv67 p1 a2 c3 a5 c6 a8 c9) 67)], [(b18, Cl [(.string ByteArray.empty), (.slice none 0 0), (.int .i64 0), (.string ByteArray.empty), (.bool false), (.bool false), (.int .i64 0), (.slice none 0 0), (.slice none 0 0)] 67)], C6843, [(b767, Cl [(.string p1.Name), (.slice a2 p1.Params.length c3), (.int .i64 p1.Ret.Kind), (.string p1.Ret.Class), (.bool p1.Static), (.bool p1.Abstract), (.int .i64 p1.Locals), (.slice a6847 v6852.length c6848), (.slice none 0 0)] 67)], C6849, L])) _ ⟨v5924, 0, K6507, C6515, a5920, c5921, C6521, hf, rfl, hle, h6508, h6509, h6510, h6511, h6512, h6517, h6518, h6523, hS⟩ ⟨rfl, rfl, rfl, rfl, rfl, rfl, rfl, rfl, rfl, trivial⟩ ?_ ?_
        · rintro _ _ ⟨_, _, _, _, _, _, _, hf, _⟩
          exact absurd hf (by simp [bonsairef18_Rewritten.l2])
        rintro n _ w Y hY ⟨v6852, v6853, K6835, C6843, a6847, c6848, C6849, hf, rfl, hle, h6836, h6837, h6838, h6839, h6840, h6845, h6846, h6851, hS⟩
        rw [bonsairef18_Rewritten.l2] at hf
        refine s_seq (s_seq (s_reg ?_))
        iterate 4 refine s_v rfl rfl rfl ?_
        refine s_nil (qn ?_)
        refine s_if rfl (fun hc => ?_) (fun hc => ?_)
        · replace hf := bif_t hc hf
          refine s_skip (qn (s_seq (s_block (s_seq (s_reg ?_)))))
          iterate 2 refine s_v rfl rfl rfl ?_
          obtain ⟨x6854, hx6855, hf⟩ := bs hf
          refine s_ixk h6851 rfl hx6855 rfl rfl rfl rfl rfl rfl rfl ?_
          rintro b6856 o6857 _ rfl h6858
          refine s_ldk (v := (.agg (vv77 x6854).toArray)) 0 hS h6858 rfl rfl rfl rfl ?_
          refine s_al hS rfl rfl rfl ?_
          intro b6859 w hS
          replace hS : Sat w K6835 (flat ([(b6859, Cl [(.int .i64 0), (.int .i32 0), (.int .i64 0), (.string ByteArray.empty), (.string ByteArray.empty), (.string ByteArray.empty), (.string ByteArray.empty)] 77)] :: _)) := hS
          refine s_st (cs' := (vv77 x6854)) 0 hS rfl rfl rfl rfl rfl ?_
          intro w hS
          replace hS : Sat w _ (flat [_, _, _, _, _, _, _]) := hS
          refine s_nil (qn ?_)
          obtain ⟨res6912, hst6913, hm6914⟩ := LR.then_some hf
          refine s_cut (fun τ w => ∃ (s6911 : Int) (K6894 : KM) (C6902 : Chunks) (C6908 : Chunks), res6912 = .brk s6911 ∧ τ = [(1, (.slice a12 p11.length c13)), (2, (.pointer (some ⟨b16, 0, none⟩))), (4, (.pointer (some ⟨b18, 0, none⟩))), (6, (.int .i64 (p1.Code.length : Int))), (7, (.slice a21 s396.length c22)), (10, (.pointer (some ⟨b767, 0, none⟩))), (11, (.int .i64 v5925)), (12, (.slice a6524 s6526.length c6525)), (13, (.int .i64 v6853)), (14, (.pointer (some ⟨b6859, 0, none⟩)))] ∧ KM.le K K6894 ∧ SlK 64 K6894 a12 c13 p11 ∧ SlK 63 K6894 a2 c3 p1.Params ∧ SlK 77 K6894 a5 c6 p1.Code ∧ SlK 92 K6894 a8 c9 p1.Handlers ∧ OwnS 3 K6894 (.slice a21 s396.length c22) s396 C6902 ∧ SlK 63 K6894 a2 c3 p1.Params ∧ OwnS 77 K6894 (.slice a6847 v6852.length c6848) v6852 C6908 ∧ SlK 77 K6894 a6524 c6525 s6526 ∧ Sat w K6894 (flat [[(b16, Cl (vv67 p1 a2 c3 a5 c6 a8 c9) 67)], [(b18, Cl [(.string ByteArray.empty), (.slice none 0 0), (.int .i64 0), (.string ByteArray.empty), (.bool false), (.bool false), (.int .i64 0), (.slice none 0 0), (.slice none 0 0)] 67)], C6902, [(b767, Cl [(.string p1.Name), (.slice a2 p1.Params.length c3), (.int .i64 p1.Ret.Kind), (.string p1.Ret.Class), (.bool p1.Static), (.bool p1.Abstract), (.int .i64 p1.Locals), (.slice a6847 v6852.length c6848), (.slice none 0 0)] 67)], C6908, [(b6859, Cl [(.int .i64 x6854.Op), (.int .i32 x6854.N), (.int .i64 s6911), (.string x6854.S), (.string x6854.Class), (.string x6854.Name), (.string x6854.Desc)] 77)], L])) (fun J hJ => ?_) ?_
          · replace hf := hst6913
            refine s_seq (s_reg ?_)
            refine s_v rfl rfl rfl ?_
            refine s_ld 0 hS rfl rfl rfl rfl rfl ?_
            obtain ⟨x6915, hx6916, hf⟩ := bs hf
            refine s_call isf38 hS.nilG (bonsairef1_Jumps_spec hx6916) rfl rfl rfl ?_
            rintro _ K6917 C6919 w hk6918 rfl hS
            replace hS := hS.drop1
            refine s_nil (qn ?_)
            refine s_if rfl (fun hc => ?_) (fun hc => ?_)
            · replace hf := bif_t hc hf
              refine s_seq (s_seq (s_reg ?_))
              refine s_v rfl rfl rfl ?_
              refine s_ld 0 hS rfl rfl rfl rfl rfl ?_
              iterate 2 refine s_v rfl rfl rfl ?_
              obtain ⟨s6937, hst6938, hf⟩ := bs hf
              refine r_cut [_, _, _, _, _] (fun τ w => ∃ (K6920 : KM) (C6928 : Chunks) (C6934 : Chunks), τ = [(1, (.slice a12 p11.length c13)), (2, (.pointer (some ⟨b16, 0, none⟩))), (4, (.pointer (some ⟨b18, 0, none⟩))), (6, (.int .i64 (p1.Code.length : Int))), (7, (.slice a21 s396.length c22)), (10, (.pointer (some ⟨b767, 0, none⟩))), (11, (.int .i64 v5925)), (12, (.slice a6524 s6526.length c6525)), (13, (.int .i64 v6853)), (14, (.pointer (some ⟨b6859, 0, none⟩))), (112, (.bool s6937))] ∧ KM.le K K6920 ∧ SlK 64 K6920 a12 c13 p11 ∧ SlK 63 K6920 a2 c3 p1.Params ∧ SlK 77 K6920 a5 c6 p1.Code ∧ SlK 92 K6920 a8 c9 p1.Handlers ∧ OwnS 3 K6920 (.slice a21 s396.length c22) s396 C6928 ∧ SlK 63 K6920 a2 c3 p1.Params ∧ OwnS 77 K6920 (.slice a6847 v6852.length c6848) v6852 C6934 ∧ SlK 77 K6920 a6524 c6525 s6526 ∧ Sat w K6920 (flat [[(b16, Cl (vv67 p1 a2 c3 a5 c6 a8 c9) 67)], [(b18, Cl [(.string ByteArray.empty), (.slice none 0 0), (.int .i64 0), (.string ByteArray.empty), (.bool false), (.bool false), (.int .i64 0), (.slice none 0 0), (.slice none 0 0)] 67)], C6928, [(b767, Cl [(.string p1.Name), (.slice a2 p1.Params.length c3), (.int .i64 p1.Ret.Kind), (.string p1.Ret.Class), (.bool p1.Static), (.bool p1.Abstract), (.int .i64 p1.Locals), (.slice a6847 v6852.length c6848), (.slice none 0 0)] 67)], C6934, [(b6859, Cl (vv77 x6854) 77)], L])) rfl (fun J hJ => ?_) ?_
              · replace hf := hst6938
                cases hc : (decide (x6854.K < 0))
                · replace hf := bif_f hc hf
                  refine s_v rfl rfl rfl ?_
                  refine s_ld 0 hS rfl rfl rfl rfl rfl ?_
                  iterate 3 refine s_v rfl rfl rfl ?_
                  have hq := Option.some.inj hf
                  subst hq
                  replace h6836 := h6836.mono hk6918
                  replace h6837 := h6837.mono hk6918
                  replace h6838 := h6838.mono hk6918
                  replace h6839 := h6839.mono hk6918
                  replace h6840 := h6840.mono hk6918
                  replace h6845 := h6845.mono hk6918
                  replace h6846 := h6846.mono hk6918
                  replace h6851 := h6851.mono hk6918
                  replace hle := hle.trans hk6918
                  refine r_join hJ _ ⟨K6917, C6843, C6849, rfl, hle, h6836, h6837, h6838, h6839, h6840, h6845, h6846, h6851, (hS.sel [1, 2, 3, 4, 5, 0, 6] rfl)⟩ ⟨rfl, rfl, rfl, rfl, rfl, rfl, rfl, rfl, rfl, rfl, rfl, trivial⟩
                replace hf := bif_t hc hf
                refine s_no rfl rfl ?_
                refine s_no rfl rfl ?_
                refine s_no rfl rfl ?_
                refine s_no rfl rfl ?_
                refine s_v rfl rfl rfl ?_
                have hq := Option.some.inj hf
                subst hq
                replace h6836 := h6836.mono hk6918
                replace h6837 := h6837.mono hk6918
                replace h6838 := h6838.mono hk6918
                replace h6839 := h6839.mono hk6918
                replace h6840 := h6840.mono hk6918
                replace h6845 := h6845.mono hk6918
                replace h6846 := h6846.mono hk6918
                replace h6851 := h6851.mono hk6918
                replace hle := hle.trans hk6918
                refine r_join hJ _ ⟨K6917, C6843, C6849, rfl, hle, h6836, h6837, h6838, h6839, h6840, h6845, h6846, h6851, (hS.sel [1, 2, 3, 4, 5, 0, 6] rfl)⟩ ⟨rfl, rfl, rfl, rfl, rfl, rfl, rfl, rfl, rfl, rfl, rfl, trivial⟩
              rintro _ w ⟨K6920, C6928, C6934, rfl, hle, h6921, h6922, h6923, h6924, h6925, h6930, h6931, h6936, hS⟩
              refine s_nil (qn ?_)
              refine s_if rfl (fun hc => ?_) (fun hc => ?_)
              · replace hf := bif_t hc hf
                refine s_seq (s_reg ?_)
                refine s_v (v := (.agg #[(.string ByteArray.empty), (.slice none 0 0), (.int .i64 0), (.string ByteArray.empty), (.bool false), (.bool false), (.int .i64 0), (.slice none 0 0), (.slice none 0 0)])) rfl rfl rfl ?_
                refine s_st (cs' := [(.string ByteArray.empty), (.slice none 0 0), (.int .i64 0), (.string ByteArray.empty), (.bool false), (.bool false), (.int .i64 0), (.slice none 0 0), (.slice none 0 0)]) 1 hS rfl rfl rfl rfl rfl ?_
                intro w hS
                replace hS : Sat w _ (flat [_, _, _, _, _, _, _]) := hS
                refine s_v rfl rfl rfl ?_
                refine s_nil (qn ?_)
                replace hS : Sat w K6920 (flat [_, _]) := (hS.sel [1, 6] rfl)
                refine s_rets (qrt (qrt ?_))
                replace hf := LR.esc_some hf hm6914
                refine qrb (qrt (qrt (qrb (qrb (qrt ?_)))))
                replace hf := LR.esc_some hf hm6450
                refine qrt (qrb (qrt ?_))
                replace hf := LR.esc_some hf hm3870
                have hq := Option.some.inj hf
                subst hq
                refine s_ret2 rfl (rv_c (v := (.agg #[(.string ByteArray.empty), (.slice none 0 0), (.int .i64 0), (.string ByteArray.empty), (.bool false), (.bool false), (.int .i64 0), (.slice none 0 0), (.slice none 0 0)])) 0 hS rfl rfl rfl) (rv_t rfl) ?_
                exact ⟨K6920, _, hle, ⟨none, 0, none, 0, none, 0, rfl, SlK.nil, SlK.nil, SlK.nil⟩, Sat.nilG (hS.sel [1] rfl)⟩
              replace hf := bif_f hc hf
              refine s_skip (qn (s_reg ?_))
              iterate 2 refine s_v rfl rfl rfl ?_
              refine s_ld 5 hS rfl rfl rfl rfl rfl ?_
              obtain ⟨x6939, hx6940, hf⟩ := bs hf
              refine s_ixo 2 hS rfl h6925 hx6940 rfl rfl rfl rfl rfl rfl rfl ?_
              intro b6941 l6942 cs6945 l6943 hcs_ hC6946 hun6944
              obtain rfl := hcs_
              subst hC6946
              have hq6947 := KM.le.refl K6920
              refine s_ldm 2 0 hS rfl rfl rfl rfl rfl ?_
              refine s_v rfl rfl rfl ?_
              refine s_st (cs' := [(.int .i64 x6854.Op), (.int .i32 x6854.N), (.int .i64 x6939), (.string x6854.S), (.string x6854.Class), (.string x6854.Name), (.string x6854.Desc)]) 5 hS rfl rfl rfl rfl rfl ?_
              intro w hS
              replace hS : Sat w _ (flat [_, _, _, _, _, _, _]) := hS
              refine s_nil (qn ?_)
              have hq := Option.some.inj hf
              subst hq
              refine s_join hJ _ ⟨x6939, K6920, [(b6941, Cl (l6942 ++ (([(.int .i64 x6939)] : List Value) ++ l6943)) 3)], C6934, rfl, rfl, hle, h6921, h6922, h6923, h6924, h6925, h6930, h6931, h6936, hS⟩ ⟨rfl, rfl, rfl, rfl, rfl, rfl, rfl, rfl, rfl, rfl, trivial⟩
            replace hf := bif_f hc hf
            refine s_skip (qn ?_)
            have hq := Option.some.inj hf
            subst hq
            replace h6836 := h6836.mono hk6918
            replace h6837 := h6837.mono hk6918
            replace h6838 := h6838.mono hk6918
            replace h6839 := h6839.mono hk6918
            replace h6840 := h6840.mono hk6918
            replace h6845 := h6845.mono hk6918
            replace h6846 := h6846.mono hk6918
            replace h6851 := h6851.mono hk6918
            replace hle := hle.trans hk6918
            refine s_join hJ _ ⟨x6854.K, K6917, C6843, C6849, rfl, rfl, hle, h6836, h6837, h6838, h6839, h6840, h6845, h6846, h6851, (hS.sel [1, 2, 3, 4, 5, 0, 6] rfl)⟩ ⟨rfl, rfl, rfl, rfl, rfl, rfl, rfl, rfl, rfl, rfl, trivial⟩
          rintro _ w ⟨s6911, K6894, C6902, C6908, rfl, rfl, hle, h6895, h6896, h6897, h6898, h6899, h6904, h6905, h6910, hS⟩
          replace hf := LR.elim_brk hm6914
          refine s_reg ?_
          refine s_v rfl rfl rfl ?_
          refine s_ld 3 hS rfl rfl rfl rfl rfl ?_
          refine s_ld (v := (.agg #[(.int .i64 x6854.Op), (.int .i32 x6854.N), (.int .i64 s6911), (.string x6854.S), (.string x6854.Class), (.string x6854.Name), (.string x6854.Desc)])) 5 hS rfl rfl rfl rfl rfl ?_
          refine s_bwc (cs := [(.int .i64 x6854.Op), (.int .i32 x6854.N), (.int .i64 s6911), (.string x6854.S), (.string x6854.Class), (.string x6854.Name), (.string x6854.Desc)]) hS rfl rfl rfl rfl rfl rfl rfl rfl rfl rfl ?_
          intro b6948 w hS
          obtain ⟨hm6950, hf⟩ := gs hf
          refine s_appv (e := 77) (ys := ([(api_Instr.mk x6854.Op x6854.N s6911 x6854.S x6854.Class x6854.Name x6854.Desc)] : List api_Instr)) 5 0 hS rfl h6905 rfl ⟨[(.int .i64 x6854.Op), (.int .i32 x6854.N), (.int .i64 s6911), (.string x6854.S), (.string x6854.Class), (.string x6854.Name), (.string x6854.Desc)], _, rfl, rfl, rfl⟩ rfl rfl rfl rfl rfl rfl rfl rfl (roomy_le hm6950) rfl rfl rfl ?_
          intro a6951 c6952 w C6953 h6954 hS
          replace hS : Sat w _ (flat [_, _, _, _, _, _, _, _]) := hS
          refine s_v rfl rfl rfl ?_
          refine s_st (cs' := [(.string p1.Name), (.slice a2 p1.Params.length c3), (.int .i64 p1.Ret.Kind), (.string p1.Ret.Class), (.bool p1.Static), (.bool p1.Abstract), (.int .i64 p1.Locals), (.slice a6951 ((v6852 ++ ([(api_Instr.mk x6854.Op x6854.N s6911 x6854.S x6854.Class x6854.Name x6854.Desc)] : List api_Instr)).length) c6952), (.slice none 0 0)]) 4 hS rfl rfl rfl rfl rfl ?_
          intro w hS
          replace hS : Sat w _ (flat [_, _, _, _, _, _, _, _]) := hS
          refine s_nil (qbn (qn ?_))
          replace hS : Sat w K6894 (flat [_, _, _, _, _, _]) := (hS.sel [1, 2, 3, 4, 5, 7] rfl)
          refine s_reg ?_
          iterate 3 refine s_v rfl rfl rfl ?_
          refine s_nil (qn ?_)
          refine s_join hY _ ⟨(v6852 ++ ([(api_Instr.mk x6854.Op x6854.N s6911 x6854.S x6854.Class x6854.Name x6854.Desc)] : List api_Instr)), w64 (v6853 + 1), K6894, C6902, a6951, c6952, C6953, hf, rfl, hle, h6895, h6896, h6897, h6898, h6899, h6904, h6954, h6910, hS⟩ ⟨rfl, rfl, rfl, rfl, rfl, rfl, rfl, rfl, rfl, trivial⟩
        replace hf := bif_f hc hf
        refine s_exit (qxt (qxt (qxb (qbn (qn ?_)))))
        have hq := Option.some.inj hf
        subst hq
        refine s_join hJ _ ⟨v6852, K6835, C6843, a6847, c6848, C6849, rfl, rfl, hle, h6836, h6837, h6838, h6839, h6840, h6845, h6846, hS⟩ ⟨rfl, rfl, rfl, rfl, rfl, rfl, rfl, trivial⟩
      rintro _ w ⟨s6447, K6431, C6439, a6443, c6444, C6445, rfl, rfl, hle, h6432, h6433, h6434, h6435, h6436, h6441, h6442, hS⟩
      replace hf := LR.elim_brk hm6450
      refine s_reg ?_
      iterate 3 refine s_v rfl rfl rfl ?_
      refine s_nil (qn ?_)
      refine s_join hY _ ⟨s6447, w64 (v5925 + 1), K6431, C6439, a6443, c6444, C6445, hf, rfl, hle, h6432, h6433, h6434, h6435, h6436, h6441, h6442, hS⟩ ⟨rfl, rfl, rfl, rfl, rfl, rfl, rfl, trivial⟩
    replace hf := bif_f hc hf
    refine s_exit (qxt (qxt (qxb (qn ?_))))
    have hq := Option.some.inj hf
    subst hq
    refine s_join hJ _ ⟨v5924, K5908, C5916, a5920, c5921, C5922, rfl, rfl, hle, h5910, h5911, h5912, h5913, h5918, h5919, hS⟩ ⟨rfl, rfl, rfl, rfl, rfl, trivial⟩
  rintro _ w ⟨s3867, K3852, C3859, a3863, c3864, C3865, rfl, rfl, hle, h3853, h3854, h3855, h3856, h3861, h3862, hS⟩
  replace hf := LR.elim_brk hm3870
  obtain ⟨res7679, hst7680, hm7681⟩ := LR.then_some hf
  refine s_cut (fun τ w => ∃ (s7678 : (List api_Handler)) (K7666 : KM) (C7671 : Chunks) (a7674 : Option Addr) (c7675 : Nat) (C7676 : Chunks), res7679 = .brk s7678 ∧ τ = [(4, (.pointer (some ⟨b18, 0, none⟩))), (10, (.pointer (some ⟨b767, 0, none⟩)))] ∧ KM.le K K7666 ∧ SlK 63 K7666 a2 c3 p1.Params ∧ OwnS 77 K7666 (.slice a3863 s3867.length c3864) s3867 C7671 ∧ OwnS 92 K7666 (.slice a7674 s7678.length c7675) s7678 C7676 ∧ Sat w K7666 (flat [[(b18, Cl [(.string ByteArray.empty), (.slice none 0 0), (.int .i64 0), (.string ByteArray.empty), (.bool false), (.bool false), (.int .i64 0), (.slice none 0 0), (.slice none 0 0)] 67)], [(b767, Cl [(.string p1.Name), (.slice a2 p1.Params.length c3), (.int .i64 p1.Ret.Kind), (.string p1.Ret.Class), (.bool p1.Static), (.bool p1.Abstract), (.int .i64 p1.Locals), (.slice a3863 s3867.length c3864), (.slice a7674 s7678.length c7675)] 67)], C7671, C7676, L])) (fun J hJ => ?_) ?_
  · replace hf := hst7680
    refine s_seq (s_reg ?_)
    refine s_v rfl rfl rfl ?_
    refine s_nil (qn (s_block ?_))
    replace hS := hS.nilG
    refine s_loopp (fun n τ w => ∃ (v8173 : (List api_Handler)) (v8174 : Int) (K8153 : KM) (C8160 : Chunks) (C8166 : Chunks) (a8169 : Option Addr) (c8170 : Nat) (C8171 : Chunks), bonsairef18_Rewritten.l3 fu p1 s396 n v8173 v8174 = some res7679 ∧ τ = [(2, (.pointer (some ⟨b16, 0, none⟩))), (4, (.pointer (some ⟨b18, 0, none⟩))), (6, (.int .i64 (p1.Code.length : Int))), (7, (.slice a21 s396.length c22)), (10, (.pointer (some ⟨b767, 0, none⟩))), (15, (.int .i64 v8174))] ∧ KM.le K K8153 ∧ SlK 63 K8153 a2 c3 p1.Params ∧ SlK 77 K8153 a5 c6 p1.Code ∧ SlK 92 K8153 a8 c9 p1.Handlers ∧ OwnS 3 K8153 (.slice a21 s396.length c22) s396 C8160 ∧ SlK 63 K8153 a2 c3 p1.Params ∧ OwnS 77 K8153 (.slice a3863 s3867.length c3864) s3867 C8166 ∧ OwnS 92 K8153 (.slice a8169 v8173.length c8170) v8173 C8171 ∧ Sat w K8153 (flat [[(b16, Cl (vv67 p1 a2 c3 a5 c6 a8 c9) 67)], [(b18, Cl [(.string ByteArray.empty), (.slice none 0 0), (.int .i64 0), (.string ByteArray.empty), (.bool false), (.bool false), (.int .i64 0), (.slice none 0 0), (.slice none 0 0)] 67)], C8160, [(b767, Cl [(.string p1.Name), (.slice a2 p1.Params.length c3), (.int .i64 p1.Ret.Kind), (.string p1.Ret.Class), (.bool p1.Static), (.bool p1.Abstract), (.int .i64 p1.Locals), (.slice a3863 s3867.length c3864), (.slice a8169 v8173.length c8170)] 67)], C8166, C8171, L])) _ ⟨([] : List api_Handler), 0, K3852, C3859, C3865, none, 0, [], hf, rfl, hle, h3853, h3854, h3855, h3856, h3861, h3862, OwnS.nil, (hS.sel [1, 2, 3, 4, 5, 0, 6] rfl)⟩ ⟨rfl, rfl, rfl, rfl, rfl, rfl, trivial⟩ ?_ ?_
    · rintro _ _ ⟨_, _, _, _, _, _, _, _, hf, _⟩
      exact absurd hf (by simp [bonsairef18_Rewritten.l3])
    rintro n _ w Y hY ⟨v8173, v8174, K8153, C8160, C8166, a8169, c8170, C8171, hf, rfl, hle, h8154, h8155, h8156, h8157, h8162, h8163, h8168, hS⟩
    rw [bonsairef18_Rewritten.l3] at hf
    refine s_seq (s_seq (s_reg ?_))
    iterate 2 refine s_v rfl rfl rfl ?_
    refine s_ld 0 hS rfl rfl rfl rfl rfl ?_
    iterate 2 refine s_v rfl rfl rfl ?_
    refine s_nil (qn ?_)
    refine s_if rfl (fun hc => ?_) (fun hc => ?_)
    · replace hf := bif_t hc hf
      refine s_skip (qn (s_seq (s_block (s_seq (s_reg ?_)))))
      refine s_v rfl rfl rfl ?_
      refine s_ld 0 hS rfl rfl rfl rfl rfl ?_
      refine s_v rfl rfl rfl ?_
      obtain ⟨x8176, hx8177, hf⟩ := bs hf
      refine s_ixk h8156 rfl hx8177 rfl rfl rfl rfl rfl rfl rfl ?_
      rintro b8178 o8179 _ rfl h8180
      refine s_ldk (v := (.agg (vv92 x8176).toArray)) 0 hS h8180 rfl rfl rfl rfl ?_
      refine s_al hS rfl rfl rfl ?_
      intro b8181 w hS
      replace hS : Sat w K8153 (flat ([(b8181, Cl [(.int .i64 0), (.int .i64 0), (.int .i64 0), (.string ByteArray.empty)] 92)] :: _)) := hS
      refine s_st (cs' := (vv92 x8176)) 0 hS rfl rfl rfl rfl rfl ?_
      intro w hS
      replace hS : Sat w _ (flat [_, _, _, _, _, _, _, _]) := hS
      refine s_nil (qn (s_seq (s_seq (s_reg ?_))))
      refine s_v rfl rfl rfl ?_
      refine s_ld 0 hS rfl rfl rfl rfl rfl ?_
      iterate 2 refine s_v rfl rfl rfl ?_
      obtain ⟨s8203, hst8204, hf⟩ := bs hf
      refine r_cut [_, _, _, _, _] (fun τ w => ∃ (K8183 : KM) (C8190 : Chunks) (C8196 : Chunks) (C8201 : Chunks), τ = [(2, (.pointer (some ⟨b16, 0, none⟩))), (4, (.pointer (some ⟨b18, 0, none⟩))), (6, (.int .i64 (p1.Code.length : Int))), (7, (.slice a21 s396.length c22)), (10, (.pointer (some ⟨b767, 0, none⟩))), (15, (.int .i64 v8174)), (16, (.pointer (some ⟨b8181, 0, none⟩))), (146, (.bool s8203))] ∧ KM.le K K8183 ∧ SlK 63 K8183 a2 c3 p1.Params ∧ SlK 77 K8183 a5 c6 p1.Code ∧ SlK 92 K8183 a8 c9 p1.Handlers ∧ OwnS 3 K8183 (.slice a21 s396.length c22) s396 C8190 ∧ SlK 63 K8183 a2 c3 p1.Params ∧ OwnS 77 K8183 (.slice a3863 s3867.length c3864) s3867 C8196 ∧ OwnS 92 K8183 (.slice a8169 v8173.length c8170) v8173 C8201 ∧ Sat w K8183 (flat [[(b16, Cl (vv67 p1 a2 c3 a5 c6 a8 c9) 67)], [(b18, Cl [(.string ByteArray.empty), (.slice none 0 0), (.int .i64 0), (.string ByteArray.empty), (.bool false), (.bool false), (.int .i64 0), (.slice none 0 0), (.slice none 0 0)] 67)], C8190, [(b767, Cl [(.string p1.Name), (.slice a2 p1.Params.length c3), (.int .i64 p1.Ret.Kind), (.string p1.Ret.Class), (.bool p1.Static), (.bool p1.Abstract), (.int .i64 p1.Locals), (.slice a3863 s3867.length c3864), (.slice a8169 v8173.length c8170)] 67)], C8196, C8201, [(b8181, Cl (vv92 x8176) 92)], L])) rfl (fun J hJ => ?_) ?_
      · replace hf := hst8204
        cases hc : (decide (x8176.From < 0))
        · replace hf := bif_f hc hf
          refine s_v rfl rfl rfl ?_
          refine s_ld 0 hS rfl rfl rfl rfl rfl ?_
          iterate 3 refine s_v rfl rfl rfl ?_
          have hq := Option.some.inj hf
          subst hq
          refine r_join hJ _ ⟨K8153, C8160, C8166, C8171, rfl, hle, h8154, h8155, h8156, h8157, h8162, h8163, h8168, (hS.sel [1, 2, 3, 4, 5, 6, 0, 7] rfl)⟩ ⟨rfl, rfl, rfl, rfl, rfl, rfl, rfl, rfl, trivial⟩
        replace hf := bif_t hc hf
        refine s_no rfl rfl ?_
        refine s_no rfl rfl ?_
        refine s_no rfl rfl ?_
        refine s_no rfl rfl ?_
        refine s_v rfl rfl rfl ?_
        have hq := Option.some.inj hf
        subst hq
        refine r_join hJ _ ⟨K8153, C8160, C8166, C8171, rfl, hle, h8154, h8155, h8156, h8157, h8162, h8163, h8168, (hS.sel [1, 2, 3, 4, 5, 6, 0, 7] rfl)⟩ ⟨rfl, rfl, rfl, rfl, rfl, rfl, rfl, rfl, trivial⟩
      rintro _ w ⟨K8183, C8190, C8196, C8201, rfl, hle, h8184, h8185, h8186, h8187, h8192, h8193, h8198, hS⟩
      refine s_v rfl rfl rfl ?_
      obtain ⟨s8225, hst8226, hf⟩ := bs hf
      refine r_cut [_, _, _, _] (fun τ w => ∃ (K8205 : KM) (C8212 : Chunks) (C8218 : Chunks) (C8223 : Chunks), τ = [(2, (.pointer (some ⟨b16, 0, none⟩))), (4, (.pointer (some ⟨b18, 0, none⟩))), (6, (.int .i64 (p1.Code.length : Int))), (7, (.slice a21 s396.length c22)), (10, (.pointer (some ⟨b767, 0, none⟩))), (15, (.int .i64 v8174)), (16, (.pointer (some ⟨b8181, 0, none⟩))), (151, (.bool s8225))] ∧ KM.le K K8205 ∧ SlK 63 K8205 a2 c3 p1.Params ∧ SlK 77 K8205 a5 c6 p1.Code ∧ SlK 92 K8205 a8 c9 p1.Handlers ∧ OwnS 3 K8205 (.slice a21 s396.length c22) s396 C8212 ∧ SlK 63 K8205 a2 c3 p1.Params ∧ OwnS 77 K8205 (.slice a3863 s3867.length c3864) s3867 C8218 ∧ OwnS 92 K8205 (.slice a8169 v8173.length c8170) v8173 C8223 ∧ Sat w K8205 (flat [[(b16, Cl (vv67 p1 a2 c3 a5 c6 a8 c9) 67)], [(b18, Cl [(.string ByteArray.empty), (.slice none 0 0), (.int .i64 0), (.string ByteArray.empty), (.bool false), (.bool false), (.int .i64 0), (.slice none 0 0), (.slice none 0 0)] 67)], C8212, [(b767, Cl [(.string p1.Name), (.slice a2 p1.Params.length c3), (.int .i64 p1.Ret.Kind), (.string p1.Ret.Class), (.bool p1.Static), (.bool p1.Abstract), (.int .i64 p1.Locals), (.slice a3863 s3867.length c3864), (.slice a8169 v8173.length c8170)] 67)], C8218, C8223, [(b8181, Cl (vv92 x8176) 92)], L])) rfl (fun J hJ => ?_) ?_
      · replace hf := hst8226
        cases hc : s8203
        · replace hf := bif_f hc hf
          refine s_v rfl rfl rfl ?_
          refine s_ld 6 hS rfl rfl rfl rfl rfl ?_
          iterate 2 refine s_v rfl rfl rfl ?_
          have hq := Option.some.inj hf
          subst hq
          refine r_join hJ _ ⟨K8183, C8190, C8196, C8201, rfl, hle, h8184, h8185, h8186, h8187, h8192, h8193, h8198, hS⟩ ⟨rfl, rfl, rfl, rfl, rfl, rfl, rfl, rfl, trivial⟩
        replace hf := bif_t hc hf
        refine s_no rfl rfl ?_
        refine s_no rfl rfl ?_
        refine s_no rfl rfl ?_
        refine s_v rfl rfl rfl ?_
        have hq := Option.some.inj hf
        subst hq
        refine r_join hJ _ ⟨K8183, C8190, C8196, C8201, rfl, hle, h8184, h8185, h8186, h8187, h8192, h8193, h8198, hS⟩ ⟨rfl, rfl, rfl, rfl, rfl, rfl, rfl, rfl, trivial⟩
      rintro _ w ⟨K8205, C8212, C8218, C8223, rfl, hle, h8206, h8207, h8208, h8209, h8214, h8215, h8220, hS⟩
      refine s_v rfl rfl rfl ?_
      obtain ⟨s8247, hst8248, hf⟩ := bs hf
      refine r_cut [_, _, _, _, _] (fun τ w => ∃ (K8227 : KM) (C8234 : Chunks) (C8240 : Chunks) (C8245 : Chunks), τ = [(2, (.pointer (some ⟨b16, 0, none⟩))), (4, (.pointer (some ⟨b18, 0, none⟩))), (6, (.int .i64 (p1.Code.length : Int))), (7, (.slice a21 s396.length c22)), (10, (.pointer (some ⟨b767, 0, none⟩))), (15, (.int .i64 v8174)), (16, (.pointer (some ⟨b8181, 0, none⟩))), (157, (.bool s8247))] ∧ KM.le K K8227 ∧ SlK 63 K8227 a2 c3 p1.Params ∧ SlK 77 K8227 a5 c6 p1.Code ∧ SlK 92 K8227 a8 c9 p1.Handlers ∧ OwnS 3 K8227 (.slice a21 s396.length c22) s396 C8234 ∧ SlK 63 K8227 a2 c3 p1.Params ∧ OwnS 77 K8227 (.slice a3863 s3867.length c3864) s3867 C8240 ∧ OwnS 92 K8227 (.slice a8169 v8173.length c8170) v8173 C8245 ∧ Sat w K8227 (flat [[(b16, Cl (vv67 p1 a2 c3 a5 c6 a8 c9) 67)], [(b18, Cl [(.string ByteArray.empty), (.slice none 0 0), (.int .i64 0), (.string ByteArray.empty), (.bool false), (.bool false), (.int .i64 0), (.slice none 0 0), (.slice none 0 0)] 67)], C8234, [(b767, Cl [(.string p1.Name), (.slice a2 p1.Params.length c3), (.int .i64 p1.Ret.Kind), (.string p1.Ret.Class), (.bool p1.Static), (.bool p1.Abstract), (.int .i64 p1.Locals), (.slice a3863 s3867.length c3864), (.slice a8169 v8173.length c8170)] 67)], C8240, C8245, [(b8181, Cl (vv92 x8176) 92)], L])) rfl (fun J hJ => ?_) ?_
      · replace hf := hst8248
        cases hc : s8225
        · replace hf := bif_f hc hf
          refine s_v rfl rfl rfl ?_
          refine s_ld 6 hS rfl rfl rfl rfl rfl ?_
          iterate 3 refine s_v rfl rfl rfl ?_
          have hq := Option.some.inj hf
          subst hq
          refine r_join hJ _ ⟨K8205, C8212, C8218, C8223, rfl, hle, h8206, h8207, h8208, h8209, h8214, h8215, h8220, hS⟩ ⟨rfl, rfl, rfl, rfl, rfl, rfl, rfl, rfl, trivial⟩
        replace hf := bif_t hc hf
        refine s_no rfl rfl ?_
        refine s_no rfl rfl ?_
        refine s_no rfl rfl ?_
        refine s_no rfl rfl ?_
        refine s_v rfl rfl rfl ?_
        have hq := Option.some.inj hf
        subst hq
        refine r_join hJ _ ⟨K8205, C8212, C8218, C8223, rfl, hle, h8206, h8207, h8208, h8209, h8214, h8215, h8220, hS⟩ ⟨rfl, rfl, rfl, rfl, rfl, rfl, rfl, rfl, trivial⟩
      rintro _ w ⟨K8227, C8234, C8240, C8245, rfl, hle, h8228, h8229, h8230, h8231, h8236, h8237, h8242, hS⟩
      refine s_v rfl rfl rfl ?_
      obtain ⟨s8269, hst8270, hf⟩ := bs hf
      refine r_cut [_, _, _, _] (fun τ w => ∃ (K8249 : KM) (C8256 : Chunks) (C8262 : Chunks) (C8267 : Chunks), τ = [(2, (.pointer (some ⟨b16, 0, none⟩))), (4, (.pointer (some ⟨b18, 0, none⟩))), (6, (.int .i64 (p1.Code.length : Int))), (7, (.slice a21 s396.length c22)), (10, (.pointer (some ⟨b767, 0, none⟩))), (15, (.int .i64 v8174)), (16, (.pointer (some ⟨b8181, 0, none⟩))), (162, (.bool s8269))] ∧ KM.le K K8249 ∧ SlK 63 K8249 a2 c3 p1.Params ∧ SlK 77 K8249 a5 c6 p1.Code ∧ SlK 92 K8249 a8 c9 p1.Handlers ∧ OwnS 3 K8249 (.slice a21 s396.length c22) s396 C8256 ∧ SlK 63 K8249 a2 c3 p1.Params ∧ OwnS 77 K8249 (.slice a3863 s3867.length c3864) s3867 C8262 ∧ OwnS 92 K8249 (.slice a8169 v8173.length c8170) v8173 C8267 ∧ Sat w K8249 (flat [[(b16, Cl (vv67 p1 a2 c3 a5 c6 a8 c9) 67)], [(b18, Cl [(.string ByteArray.empty), (.slice none 0 0), (.int .i64 0), (.string ByteArray.empty), (.bool false), (.bool false), (.int .i64 0), (.slice none 0 0), (.slice none 0 0)] 67)], C8256, [(b767, Cl [(.string p1.Name), (.slice a2 p1.Params.length c3), (.int .i64 p1.Ret.Kind), (.string p1.Ret.Class), (.bool p1.Static), (.bool p1.Abstract), (.int .i64 p1.Locals), (.slice a3863 s3867.length c3864), (.slice a8169 v8173.length c8170)] 67)], C8262, C8267, [(b8181, Cl (vv92 x8176) 92)], L])) rfl (fun J hJ => ?_) ?_
      · replace hf := hst8270
        cases hc : s8247
        · replace hf := bif_f hc hf
          refine s_v rfl rfl rfl ?_
          refine s_ld 6 hS rfl rfl rfl rfl rfl ?_
          iterate 2 refine s_v rfl rfl rfl ?_
          have hq := Option.some.inj hf
          subst hq
          refine r_join hJ _ ⟨K8227, C8234, C8240, C8245, rfl, hle, h8228, h8229, h8230, h8231, h8236, h8237, h8242, hS⟩ ⟨rfl, rfl, rfl, rfl, rfl, rfl, rfl, rfl, trivial⟩
        replace hf := bif_t hc hf
        refine s_no rfl rfl ?_
        refine s_no rfl rfl ?_
        refine s_no rfl rfl ?_
        refine s_v rfl rfl rfl ?_
        have hq := Option.some.inj hf
        subst hq
        refine r_join hJ _ ⟨K8227, C8234, C8240, C8245, rfl, hle, h8228, h8229, h8230, h8231, h8236, h8237, h8242, hS⟩ ⟨rfl, rfl, rfl, rfl, rfl, rfl, rfl, rfl, trivial⟩
      rintro _ w ⟨K8249, C8256, C8262, C8267, rfl, hle, h8250, h8251, h8252, h8253, h8258, h8259, h8264, hS⟩
      refine s_v rfl rfl rfl ?_
      obtain ⟨s8291, hst8292, hf⟩ := bs hf
      refine r_cut [_, _, _, _, _] (fun τ w => ∃ (K8271 : KM) (C8278 : Chunks) (C8284 : Chunks) (C8289 : Chunks), τ = [(2, (.pointer (some ⟨b16, 0, none⟩))), (4, (.pointer (some ⟨b18, 0, none⟩))), (6, (.int .i64 (p1.Code.length : Int))), (7, (.slice a21 s396.length c22)), (10, (.pointer (some ⟨b767, 0, none⟩))), (15, (.int .i64 v8174)), (16, (.pointer (some ⟨b8181, 0, none⟩))), (168, (.bool s8291))] ∧ KM.le K K8271 ∧ SlK 63 K8271 a2 c3 p1.Params ∧ SlK 77 K8271 a5 c6 p1.Code ∧ SlK 92 K8271 a8 c9 p1.Handlers ∧ OwnS 3 K8271 (.slice a21 s396.length c22) s396 C8278 ∧ SlK 63 K8271 a2 c3 p1.Params ∧ OwnS 77 K8271 (.slice a3863 s3867.length c3864) s3867 C8284 ∧ OwnS 92 K8271 (.slice a8169 v8173.length c8170) v8173 C8289 ∧ Sat w K8271 (flat [[(b16, Cl (vv67 p1 a2 c3 a5 c6 a8 c9) 67)], [(b18, Cl [(.string ByteArray.empty), (.slice none 0 0), (.int .i64 0), (.string ByteArray.empty), (.bool false), (.bool false), (.int .i64 0), (.slice none 0 0), (.slice none 0 0)] 67)], C8278, [(b767, Cl [(.string p1.Name), (.slice a2 p1.Params.length c3), (.int .i64 p1.Ret.Kind), (.string p1.Ret.Class), (.bool p1.Static), (.bool p1.Abstract), (.int .i64 p1.Locals), (.slice a3863 s3867.length c3864), (.slice a8169 v8173.length c8170)] 67)], C8284, C8289, [(b8181, Cl (vv92 x8176) 92)], L])) rfl (fun J hJ => ?_) ?_
      · replace hf := hst8292
        cases hc : s8269
        · replace hf := bif_f hc hf
          refine s_v rfl rfl rfl ?_
          refine s_ld 6 hS rfl rfl rfl rfl rfl ?_
          iterate 3 refine s_v rfl rfl rfl ?_
          have hq := Option.some.inj hf
          subst hq
          refine r_join hJ _ ⟨K8249, C8256, C8262, C8267, rfl, hle, h8250, h8251, h8252, h8253, h8258, h8259, h8264, hS⟩ ⟨rfl, rfl, rfl, rfl, rfl, rfl, rfl, rfl, trivial⟩
        replace hf := bif_t hc hf
        refine s_no rfl rfl ?_
        refine s_no rfl rfl ?_
        refine s_no rfl rfl ?_
        refine s_no rfl rfl ?_
        refine s_v rfl rfl rfl ?_
        have hq := Option.some.inj hf
        subst hq
        refine r_join hJ _ ⟨K8249, C8256, C8262, C8267, rfl, hle, h8250, h8251, h8252, h8253, h8258, h8259, h8264, hS⟩ ⟨rfl, rfl, rfl, rfl, rfl, rfl, rfl, rfl, trivial⟩
      rintro _ w ⟨K8271, C8278, C8284, C8289, rfl, hle, h8272, h8273, h8274, h8275, h8280, h8281, h8286, hS⟩
      refine s_nil (qn ?_)
      refine s_if rfl (fun hc => ?_) (fun hc => ?_)
      · replace hf := bif_t hc hf
        refine s_seq (s_reg ?_)
        refine s_v (v := (.agg #[(.string ByteArray.empty), (.slice none 0 0), (.int .i64 0), (.string ByteArray.empty), (.bool false), (.bool false), (.int .i64 0), (.slice none 0 0), (.slice none 0 0)])) rfl rfl rfl ?_
        refine s_st (cs' := [(.string ByteArray.empty), (.slice none 0 0), (.int .i64 0), (.string ByteArray.empty), (.bool false), (.bool false), (.int .i64 0), (.slice none 0 0), (.slice none 0 0)]) 1 hS rfl rfl rfl rfl rfl ?_
        intro w hS
        replace hS : Sat w _ (flat [_, _, _, _, _, _, _, _]) := hS
        refine s_v rfl rfl rfl ?_
        refine s_nil (qn ?_)
        replace hS : Sat w K8271 (flat [_, _]) := (hS.sel [1, 7] rfl)
        refine s_rets (qrt (qrb (qrt (qrt (qrb (qrt ?_))))))
        replace hf := LR.esc_some hf hm7681
        have hq := Option.some.inj hf
        subst hq
        refine s_ret2 rfl (rv_c (v := (.agg #[(.string ByteArray.empty), (.slice none 0 0), (.int .i64 0), (.string ByteArray.empty), (.bool false), (.bool false), (.int .i64 0), (.slice none 0 0), (.slice none 0 0)])) 0 hS rfl rfl rfl) (rv_t rfl) ?_
        exact ⟨K8271, _, hle, ⟨none, 0, none, 0, none, 0, rfl, SlK.nil, SlK.nil, SlK.nil⟩, Sat.nilG (hS.sel [1] rfl)⟩
      replace hf := bif_f hc hf
      refine s_skip (qn ?_)
      refine d_start [2, 6] [(23, [3])] hS ?_
      intro w hS
      refine d_v 0 (fun _ _ _ _ _ h => h) [2, 6] hS rfl rfl rfl (by kernel_rfl) rfl rfl ?_
      refine d_ldh 1 0 (fun _ _ _ _ _ h => h) [2, 6] hS rfl rfl rfl (by kernel_rfl) rfl rfl (by kernel_rfl) rfl rfl ?_
      refine d_v 2 (fun _ _ _ _ _ h => h) [2, 6] hS rfl rfl rfl (by kernel_rfl) rfl rfl ?_
      refine d_v 3 (fun _ _ _ _ _ h => h) [2, 6] hS rfl rfl rfl (by kernel_rfl) rfl rfl ?_
      refine d_ld 4 1 (fun _ _ _ _ _ h => h) [2, 6] hS rfl rfl rfl rfl rfl (by kernel_rfl) rfl rfl ?_
      obtain ⟨x8358, hx8359, hf⟩ := bs hf
      refine d_ixo 5 2 (fun _ _ _ _ _ h => h) [2, 6] hS rfl h8275 hx8359 rfl rfl rfl rfl rfl rfl rfl (by kernel_rfl) rfl rfl ?_
      intro b8360 l8361 cs8364 l8362 hcs_ hC8365 hun8363
      obtain rfl := hcs_
      subst hC8365
      have hq8366 := KM.le.refl K8271
      refine d_ldm 6 0 0 (fun _ _ _ _ _ h => h) [2, 6] hS rfl rfl rfl rfl rfl (by kernel_rfl) rfl rfl ?_
      refine d_v 7 (fun _ _ _ _ _ h => h) [2, 6] hS rfl rfl rfl (by kernel_rfl) rfl rfl ?_
      refine d_v 8 (fun _ _ _ _ _ h => h) [2, 6] hS rfl rfl rfl (by kernel_rfl) rfl rfl ?_
      refine d_ld 9 1 (fun _ _ _ _ _ h => h) [2, 6] hS rfl rfl rfl rfl rfl (by kernel_rfl) rfl rfl ?_
      generalize hCg_ : ([(b8360, Cl (l8361 ++ (([(.int .i64 x8358)] : List Value) ++ l8362)) 3)] : Chunks) = C8367 at hS h8275 ⊢
      clear hCg_
      obtain ⟨x8368, hx8369, hf⟩ := bs hf
      refine d_ixo 10 2 (fun _ _ _ _ _ h => h) [2, 6] hS rfl h8275 hx8369 rfl rfl rfl rfl rfl rfl rfl (by kernel_rfl) rfl rfl ?_
      intro b8370 l8371 cs8374 l8372 hcs_ hC8375 hun8373
      obtain rfl := hcs_
      subst hC8375
      have hq8376 := KM.le.refl K8271
      refine d_ldm 11 0 0 (fun _ _ _ _ _ h => h) [2, 6] hS rfl rfl rfl rfl rfl (by kernel_rfl) rfl rfl ?_
      refine d_v 12 (fun _ _ _ _ _ h => h) [2, 6] hS rfl rfl rfl (by kernel_rfl) rfl rfl ?_
      refine d_v 13 (fun _ _ _ _ _ h => h) [2, 6] hS rfl rfl rfl (by kernel_rfl) rfl rfl ?_
      refine d_ld 14 1 (fun _ _ _ _ _ h => h) [2, 6] hS rfl rfl rfl rfl rfl (by kernel_rfl) rfl rfl ?_
      generalize hCg_ : ([(b8370, Cl (l8371 ++ (([(.int .i64 x8368)] : List Value) ++ l8372)) 3)] : Chunks) = C8377 at hS h8275 ⊢
      clear hCg_
      obtain ⟨x8378, hx8379, hf⟩ := bs hf
      refine d_ixo 15 2 (fun _ _ _ _ _ h => h) [2, 6] hS rfl h8275 hx8379 rfl rfl rfl rfl rfl rfl rfl (by kernel_rfl) rfl rfl ?_
      intro b8380 l8381 cs8384 l8382 hcs_ hC8385 hun8383
      obtain rfl := hcs_
      subst hC8385
      have hq8386 := KM.le.refl K8271
      refine d_ldm 16 0 0 (fun _ _ _ _ _ h => h) [2, 6] hS rfl rfl rfl rfl rfl (by kernel_rfl) rfl rfl ?_
      refine d_v 17 (fun _ _ _ _ _ h => h) [2, 6] hS rfl rfl rfl (by kernel_rfl) rfl rfl ?_
      refine d_ld 18 1 (fun _ _ _ _ _ h => h) [2, 6] hS rfl rfl rfl rfl rfl (by kernel_rfl) rfl rfl ?_
      refine d_v (v := (.agg #[(.int .i64 x8358), (.int .i64 x8368), (.int .i64 x8378), (.string x8176.Catch)])) 19 (fun _ _ _ _ _ h => h) [2, 6] hS rfl rfl rfl (by kernel_rfl) rfl rfl ?_
      refine d_op 20 rfl (by kernel_rfl) (by kernel_rfl) (fun X hX => ?_)
      have hlq := KM.le.refl K8271
      refine s_bwc (cs := [(.int .i64 x8358), (.int .i64 x8368), (.int .i64 x8378), (.string x8176.Catch)]) hS rfl rfl rfl rfl rfl rfl rfl rfl rfl rfl ?_
      intro b8387 w hS
      refine d_go [3, 7] [3, 7] [(23, [4])] [some 0] hX hS hlq rfl rfl ⟨rfl, trivial⟩ ?_
      refine d_op 21 rfl (by kernel_rfl) (by kernel_rfl) (fun X hX => ?_)
      have hlq := KM.le.refl K8271
      obtain ⟨hm8389, hf⟩ := gs hf
      refine s_appv (e := 92) (ys := ([(api_Handler.mk x8358 x8368 x8378 x8176.Catch)] : List api_Handler)) 6 0 hS rfl h8286 rfl ⟨[(.int .i64 x8358), (.int .i64 x8368), (.int .i64 x8378), (.string x8176.Catch)], _, rfl, rfl, rfl⟩ rfl rfl rfl rfl rfl rfl rfl rfl (roomy_le hm8389) rfl rfl rfl ?_
      intro a8390 c8391 w C8392 h8393 hS
      replace hS : Sat w _ (flat [_, _, _, _, _, _, _, _, _]) := hS
      refine d_go [3, 7] [3, 7] [(23, [4])] [some 0] hX hS hlq rfl rfl ⟨rfl, trivial⟩ ?_
      refine d_v 22 (fun _ _ _ _ _ h => h) [3, 7] hS rfl rfl rfl (by kernel_rfl) rfl rfl ?_
      refine d_op 23 rfl (by kernel_rfl) (by kernel_rfl) (fun X hX => ?_)
      have hlq := KM.le.refl K8271
      refine s_st (cs' := [(.string p1.Name), (.slice a2 p1.Params.length c3), (.int .i64 p1.Ret.Kind), (.string p1.Ret.Class), (.bool p1.Static), (.bool p1.Abstract), (.int .i64 p1.Locals), (.slice a3863 s3867.length c3864), (.slice a8390 ((v8173 ++ ([(api_Handler.mk x8358 x8368 x8378 x8176.Catch)] : List api_Handler)).length) c8391)]) 4 hS rfl rfl rfl rfl rfl ?_
      intro w hS
      replace hS : Sat w _ (flat [_, _, _, _, _, _, _, _, _]) := hS
      refine d_go [3, 7] [3, 4, 7] [] [none] hX hS hlq rfl rfl ⟨rfl, trivial⟩ ?_
      refine d_end (by kernel_rfl) ?_
      refine qbn (qn ?_)
      replace hS : Sat w K8271 (flat [_, _, _, _, _, _, _]) := (hS.sel [1, 2, 3, 4, 5, 6, 8] rfl)
      refine s_reg ?_
      iterate 3 refine s_v rfl rfl rfl ?_
      refine s_nil (qn ?_)
      refine s_join hY _ ⟨(v8173 ++ ([(api_Handler.mk x8358 x8368 x8378 x8176.Catch)] : List api_Handler)), w64 (v8174 + 1), K8271, [(b8380, Cl (l8381 ++ (([(.int .i64 x8378)] : List Value) ++ l8382)) 3)], C8284, a8390, c8391, C8392, hf, rfl, hle, h8272, h8273, h8274, h8275, h8280, h8281, h8393, hS⟩ ⟨rfl, rfl, rfl, rfl, rfl, rfl, trivial⟩
    replace hf := bif_f hc hf
    refine s_exit (qxt (qxt (qxb (qn ?_))))
    have hq := Option.some.inj hf
    subst hq
    refine s_join hJ _ ⟨v8173, K8153, C8166, a8169, c8170, C8171, rfl, rfl, hle, h8162, h8163, h8168, (hS.sel [1, 3, 4, 5, 6] rfl)⟩ ⟨rfl, rfl, trivial⟩
  rintro _ w ⟨s7678, K7666, C7671, a7674, c7675, C7676, rfl, rfl, hle, h7667, h7668, h7673, hS⟩
  replace hf := LR.elim_brk hm7681
  refine s_seq (s_reg ?_)
  refine s_ld (v := (.agg #[(.string p1.Name), (.slice a2 p1.Params.length c3), (.int .i64 p1.Ret.Kind), (.string p1.Ret.Class), (.bool p1.Static), (.bool p1.Abstract), (.int .i64 p1.Locals), (.slice a3863 s3867.length c3864), (.slice a7674 s7678.length c7675)])) 1 hS rfl rfl rfl rfl rfl ?_
  refine s_st (cs' := [(.string p1.Name), (.slice a2 p1.Params.length c3), (.int .i64 p1.Ret.Kind), (.string p1.Ret.Class), (.bool p1.Static), (.bool p1.Abstract), (.int .i64 p1.Locals), (.slice a3863 s3867.length c3864), (.slice a7674 s7678.length c7675)]) 0 hS rfl rfl rfl rfl rfl ?_
  intro w hS
  replace hS : Sat w _ (flat [_, _, _, _, _]) := hS
  refine s_v rfl rfl rfl ?_
  refine s_nil (qn ?_)
  replace hS : Sat w K7666 (flat [_, _, _, _]) := (hS.sel [0, 2, 3, 4] rfl)
  refine s_rets ?_
  obtain ⟨K8394, hk8395, h8396, hS⟩ := h7668.freeze (hS.sel [1, 0, 2, 3] rfl)
  replace hS : Sat w _ (flat [_, _, _]) := hS
  replace h7673 := h7673.mono hk8395
  obtain ⟨K8397, hk8398, h8399, hS⟩ := h7673.freeze (hS.sel [1, 0, 2] rfl)
  replace hS : Sat w _ (flat [_, _]) := hS
  have hq := Option.some.inj hf
  subst hq
  refine s_ret2 rfl (rv_c (v := (.agg #[(.string p1.Name), (.slice a2 p1.Params.length c3), (.int .i64 p1.Ret.Kind), (.string p1.Ret.Class), (.bool p1.Static), (.bool p1.Abstract), (.int .i64 p1.Locals), (.slice a3863 s3867.length c3864), (.slice a7674 s7678.length c7675)])) 0 hS rfl rfl rfl) (rv_t rfl) ?_
  replace h7667 := h7667.mono (hk8395.trans hk8398)
  replace hle := hle.trans (hk8395.trans hk8398)
  replace h8396 := h8396.mono hk8398
  exact ⟨K8397, _, hle, ⟨a2, c3, a3863, c3864, a7674, c7675, rfl, h7667, h8396, h8399⟩, Sat.nilG (hS.sel [1] rfl)⟩
-- 37 bonsai/bonsairef18.Fits
def bonsairef18_Fits.fn (p1 : api_Method) : Option Bool := (bif decide ((p1.Code.length : Int) ≤ 2000) then (some (decide (p1.Locals ≤ 200))) else (some false)).bind fun s18 => (bif s18 then (some (decide ((p1.Handlers.length : Int) ≤ 50))) else (some false)).bind fun s21 => some s21
theorem bonsairef18_Fits_spec {K : KM} {p1 : api_Method} {r : Bool} {a2 : Option Addr} {c3 : Nat} {a5 : Option Addr} {c6 : Nat} {a8 : Option Addr} {c9 : Nat} (hf : bonsairef18_Fits.fn p1 = some r) (h4 : SlK 63 K a2 c3 p1.Params) (h7 : SlK 77 K a5 c6 p1.Code) (h10 : SlK 92 K a8 c9 p1.Handlers) : Sp Try.prog 37 [(.agg (vv67 p1 a2 c3 a5 c6 a8 c9).toArray)] K [] (fun K' C v => v = (.bool r)) := by
  unfold bonsairef18_Fits.fn at hf
  refine spec_enter isf37 rfl ?_
  intro w L hS
  replace hS : Sat w K (flat [L]) := hS
  have hle := KM.le.refl K
  unfold bod37 Try.f37
  dsimp only [Option.getD_some, argSlots]
  refine s_seq (s_reg ?_)
  refine s_bx hS rfl rfl rfl ?_
  intro b12 w hS
  replace hS : Sat w K (flat ([(b12, Cl (vv67 p1 a2 c3 a5 c6 a8 c9) 67)] :: _)) := hS
  refine s_v rfl rfl rfl ?_
  refine s_nil (qn (s_seq (s_reg ?_)))
  refine s_v rfl rfl rfl ?_
  refine s_ld 0 hS rfl rfl rfl rfl rfl ?_
  iterate 3 refine s_v rfl rfl rfl ?_
  obtain ⟨s18, hst19, hf⟩ := bs hf
  refine r_cut [_, _, _, _] (fun τ w => ∃ (K14 : KM), τ = [(1, (.pointer (some ⟨b12, 0, none⟩))), (11, (.bool s18))] ∧ KM.le K K14 ∧ SlK 63 K14 a2 c3 p1.Params ∧ SlK 77 K14 a5 c6 p1.Code ∧ SlK 92 K14 a8 c9 p1.Handlers ∧ Sat w K14 (flat [[(b12, Cl (vv67 p1 a2 c3 a5 c6 a8 c9) 67)], L])) rfl (fun J hJ => ?_) ?_
  · replace hf := hst19
    cases hc : (decide ((p1.Code.length : Int) ≤ 2000))
    · replace hf := bif_f hc hf
      refine s_no rfl rfl ?_
      refine s_no rfl rfl ?_
      refine s_no rfl rfl ?_
      refine s_v rfl rfl rfl ?_
      have hq := Option.some.inj hf
      subst hq
      refine r_join hJ _ ⟨K, rfl, hle, h4, h7, h10, hS⟩ ⟨rfl, rfl, trivial⟩
    replace hf := bif_t hc hf
    refine s_v rfl rfl rfl ?_
    refine s_ld 0 hS rfl rfl rfl rfl rfl ?_
    iterate 2 refine s_v rfl rfl rfl ?_
    have hq := Option.some.inj hf
    subst hq
    refine r_join hJ _ ⟨K, rfl, hle, h4, h7, h10, hS⟩ ⟨rfl, rfl, trivial⟩
  rintro _ w ⟨K14, rfl, hle, h15, h16, h17, hS⟩
  refine s_v rfl rfl rfl ?_
  obtain ⟨s21, hst22, hf⟩ := bs hf
  refine r_cut [_, _, _, _, _] (fun τ w => ∃ (K20 : KM), τ = [(17, (.bool s21))] ∧ KM.le K K20 ∧ Sat w K20 (flat [L])) rfl (fun J hJ => ?_) ?_
  · replace hf := hst22
    cases hc : s18
    · replace hf := bif_f hc hf
      refine s_no rfl rfl ?_
      refine s_no rfl rfl ?_
      refine s_no rfl rfl ?_
      refine s_no rfl rfl ?_
      refine s_v rfl rfl rfl ?_
      have hq := Option.some.inj hf
      subst hq
      refine r_join hJ _ ⟨K14, rfl, hle, (hS.sel [1] rfl)⟩ ⟨rfl, trivial⟩
    replace hf := bif_t hc hf
    refine s_v rfl rfl rfl ?_
    refine s_ld 0 hS rfl rfl rfl rfl rfl ?_
    iterate 3 refine s_v rfl rfl rfl ?_
    have hq := Option.some.inj hf
    subst hq
    refine r_join hJ _ ⟨K14, rfl, hle, (hS.sel [1] rfl)⟩ ⟨rfl, trivial⟩
  rintro _ w ⟨K20, rfl, hle, hS⟩
  refine s_v rfl rfl rfl ?_
  refine s_nil (qn (s_rets ?_))
  have hq := Option.some.inj hf
  subst hq
  refine s_ret1 rfl (rv_t rfl) ?_
  exact ⟨K20, _, hle, rfl, Sat.nilG (hS.sel [0] rfl)⟩
-- 39 bonsai/bonsailaw19.moved
def bonsailaw19_moved.fn (p1 : Int) (p2 : Int) (p3 : Int) : Option Int := bif decide (p1 > p2) then (some (w64 (p1 + (w64 (2 * p3))))) else (some p1)
theorem bonsailaw19_moved_spec {K : KM} {p1 : Int} {p2 : Int} {p3 : Int} {r : Int} (hf : bonsailaw19_moved.fn p1 p2 p3 = some r) : Sp Try.prog 39 [(.int .i64 p1), (.int .i64 p2), (.int .i64 p3)] K [] (fun K' C v => v = (.int .i64 r)) := by
  unfold bonsailaw19_moved.fn at hf
  refine spec_enter isf39 rfl ?_
  intro w L hS
  replace hS : Sat w K (flat [L]) := hS
  have hle := KM.le.refl K
  unfold bod39 Try.f39
  dsimp only [Option.getD_some, argSlots]
  refine s_seq (s_reg ?_)
  refine s_v rfl rfl rfl ?_
  refine s_nil (qn (s_seq (s_seq (s_reg ?_))))
  iterate 3 refine s_v rfl rfl rfl ?_
  refine s_nil (qn ?_)
  refine s_if rfl (fun hc => ?_) (fun hc => ?_)
  · replace hf := bif_t hc hf
    refine s_seq (s_reg ?_)
    iterate 5 refine s_v rfl rfl rfl ?_
    refine s_nil (qn (s_rets (qrt ?_)))
    have hq := Option.some.inj hf
    subst hq
    refine s_ret1 rfl (rv_t rfl) ?_
    exact ⟨K, _, hle, rfl, Sat.nilG (hS.sel [0] rfl)⟩
  replace hf := bif_f hc hf
  refine s_skip (qn (s_seq (s_reg ?_)))
  iterate 2 refine s_v rfl rfl rfl ?_
  refine s_nil (qn (s_rets ?_))
  have hq := Option.some.inj hf
  subst hq
  refine s_ret1 rfl (rv_t rfl) ?_
  exact ⟨K, _, hle, rfl, Sat.nilG (hS.sel [0] rfl)⟩
-- 44 bonsai/bonsaihelp.Instr
def bonsaihelp_Instr.fn (p1 : api_Instr) : Option Bool := some (decide ((w64 ((w64 ((w64 ((p1.S.size : Int) + (p1.Class.size : Int))) + (p1.Name.size : Int))) + (p1.Desc.size : Int))) < 400))
theorem bonsaihelp_Instr_spec {K : KM} {p1 : api_Instr} {r : Bool} (hf : bonsaihelp_Instr.fn p1 = some r) : Sp Try.prog 44 [(.agg (vv77 p1).toArray)] K [] (fun K' C v => v = (.bool r)) := by
  unfold bonsaihelp_Instr.fn at hf
  refine spec_enter isf44 rfl ?_
  intro w L hS
  replace hS : Sat w K (flat [L]) := hS
  have hle := KM.le.refl K
  unfold bod44 Try.f44
  dsimp only [Option.getD_some, argSlots]
  refine s_seq (s_reg ?_)
  refine s_bx hS rfl rfl rfl ?_
  intro b3 w hS
  replace hS : Sat w K (flat ([(b3, Cl (vv77 p1) 77)] :: _)) := hS
  refine s_v rfl rfl rfl ?_
  refine s_nil (qn (s_seq (s_reg ?_)))
  refine s_v rfl rfl rfl ?_
  refine s_ld 0 hS rfl rfl rfl rfl rfl ?_
  iterate 2 refine s_v rfl rfl rfl ?_
  refine s_ld 0 hS rfl rfl rfl rfl rfl ?_
  iterate 3 refine s_v rfl rfl rfl ?_
  refine s_ld 0 hS rfl rfl rfl rfl rfl ?_
  iterate 3 refine s_v rfl rfl rfl ?_
  refine s_ld 0 hS rfl rfl rfl rfl rfl ?_
  iterate 4 refine s_v rfl rfl rfl ?_
  refine s_nil (qn ?_)
  replace hS : Sat w K (flat [_]) := (hS.sel [1] rfl)
  refine s_rets ?_
  have hq := Option.some.inj hf
  subst hq
  refine s_ret1 rfl (rv_t rfl) ?_
  exact ⟨K, _, hle, rfl, Sat.nilG (hS.sel [0] rfl)⟩
-- 30 bonsai/bonsaihelp.Method
def bonsaihelp_Method.l0 (fu : Nat) (p1 : api_Method) : Nat → Int → Option (LR Unit Bool)
  | 0, _ => none
  | k + 1, v106 => bif decide (v106 < (p1.Params.length : Int)) then ((idx p1.Params v106).bind fun x107 => bif decide ((x107.Class.size : Int) > 100) then (LR.esc (some false)) else (bonsaihelp_Method.l0 fu p1 k (w64 (v106 + 1)))) else (some (.brk ()))
def bonsaihelp_Method.l1 (fu : Nat) (p1 : api_Method) : Nat → Int → Option (LR Unit Bool)
  | 0, _ => none
  | k + 1, v205 => bif decide (v205 < (p1.Code.length : Int)) then ((idx p1.Code v205).bind fun x206 => (bonsaihelp_Instr.fn x206).bind fun x211 => bif !x211 then (LR.esc (some false)) else (bonsaihelp_Method.l1 fu p1 k (w64 (v205 + 1)))) else (some (.brk ()))
def bonsaihelp_Method.l2 (fu : Nat) (p1 : api_Method) : Nat → Int → Option (LR Unit Bool)
  | 0, _ => none
  | k + 1, v281 => bif decide (v281 < (p1.Handlers.length : Int)) then ((idx p1.Handlers v281).bind fun x282 => bif decide ((x282.Catch.size : Int) > 100) then (LR.esc (some false)) else (bonsaihelp_Method.l2 fu p1 k (w64 (v281 + 1)))) else (some (.brk ()))
def bonsaihelp_Method.fn (fu : Nat) (p1 : api_Method) : Option Bool := (bif decide ((w64 ((p1.Name.size : Int) + (p1.Ret.Class.size : Int))) > 200) then (some true) else (some (decide ((p1.Params.length : Int) > 10)))).bind fun s18 => (bif s18 then (some true) else (some (decide ((p1.Code.length : Int) > 30)))).bind fun s24 => (bif s24 then (some true) else (some (decide ((p1.Handlers.length : Int) > 6)))).bind fun s30 => (bif s30 then (some true) else (some (decide (p1.Locals > 1000)))).bind fun s36 => bif s36 then (some false) else (LR.then (bonsaihelp_Method.l0 fu p1 fu 0) fun s75 => LR.then (bonsaihelp_Method.l1 fu p1 fu 0) fun s164 => LR.then (bonsaihelp_Method.l2 fu p1 fu 0) fun s250 => some true)
theorem bonsaihelp_Method_spec {K : KM} {fu : Nat} {p1 : api_Method} {r : Bool} {a2 : Option Addr} {c3 : Nat} {a5 : Option Addr} {c6 : Nat} {a8 : Option Addr} {c9 : Nat} (hf : bonsaihelp_Method.fn fu p1 = some r) (h4 : SlK 63 K a2 c3 p1.Params) (h7 : SlK 77 K a5 c6 p1.Code) (h10 : SlK 92 K a8 c9 p1.Handlers) : Sp Try.prog 30 [(.agg (vv67 p1 a2 c3 a5 c6 a8 c9).toArray)] K [] (fun K' C v => v = (.bool r)) := by
  unfold bonsaihelp_Method.fn at hf
  refine spec_enter isf30 rfl ?_
  intro w L hS
  replace hS : Sat w K (flat [L]) := hS
  have hle := KM.le.refl K
  unfold bod30 Try.f30
  dsimp only [Option.getD_some, argSlots]
  refine s_seq (s_reg ?_)
  refine s_bx hS rfl rfl rfl ?_
  intro b12 w hS
  replace hS : Sat w K (flat ([(b12, Cl (vv67 p1 a2 c3 a5 c6 a8 c9) 67)] :: _)) := hS
  refine s_v rfl rfl rfl ?_
  refine s_nil (qn (s_seq (s_seq (s_reg ?_))))
  refine s_v rfl rfl rfl ?_
  refine s_ld 0 hS rfl rfl rfl rfl rfl ?_
  iterate 3 refine s_v rfl rfl rfl ?_
  refine s_ld 0 hS rfl rfl rfl rfl rfl ?_
  iterate 4 refine s_v rfl rfl rfl ?_
  obtain ⟨s18, hst19, hf⟩ := bs hf
  refine r_cut [_, _, _, _, _] (fun τ w => ∃ (K14 : KM), τ = [(1, (.pointer (some ⟨b12, 0, none⟩))), (20, (.bool s18))] ∧ KM.le K K14 ∧ SlK 63 K14 a2 c3 p1.Params ∧ SlK 77 K14 a5 c6 p1.Code ∧ SlK 92 K14 a8 c9 p1.Handlers ∧ Sat w K14 (flat [[(b12, Cl (vv67 p1 a2 c3 a5 c6 a8 c9) 67)], L])) rfl (fun J hJ => ?_) ?_
  · replace hf := hst19
    cases hc : (decide ((w64 ((p1.Name.size : Int) + (p1.Ret.Class.size : Int))) > 200))
    · replace hf := bif_f hc hf
      refine s_v rfl rfl rfl ?_
      refine s_ld 0 hS rfl rfl rfl rfl rfl ?_
      iterate 3 refine s_v rfl rfl rfl ?_
      have hq := Option.some.inj hf
      subst hq
      refine r_join hJ _ ⟨K, rfl, hle, h4, h7, h10, hS⟩ ⟨rfl, rfl, trivial⟩
    replace hf := bif_t hc hf
    refine s_no rfl rfl ?_
    refine s_no rfl rfl ?_
    refine s_no rfl rfl ?_
    refine s_no rfl rfl ?_
    refine s_v rfl rfl rfl ?_
    have hq := Option.some.inj hf
    subst hq
    refine r_join hJ _ ⟨K, rfl, hle, h4, h7, h10, hS⟩ ⟨rfl, rfl, trivial⟩
  rintro _ w ⟨K14, rfl, hle, h15, h16, h17, hS⟩
  refine s_v rfl rfl rfl ?_
  obtain ⟨s24, hst25, hf⟩ := bs hf
  refine r_cut [_, _, _, _, _] (fun τ w => ∃ (K20 : KM), τ = [(1, (.pointer (some ⟨b12, 0, none⟩))), (26, (.bool s24))] ∧ KM.le K K20 ∧ SlK 63 K20 a2 c3 p1.Params ∧ SlK 77 K20 a5 c6 p1.Code ∧ SlK 92 K20 a8 c9 p1.Handlers ∧ Sat w K20 (flat [[(b12, Cl (vv67 p1 a2 c3 a5 c6 a8 c9) 67)], L])) rfl (fun J hJ => ?_) ?_
  · replace hf := hst25
    cases hc : s18
    · replace hf := bif_f hc hf
      refine s_v rfl rfl rfl ?_
      refine s_ld 0 hS rfl rfl rfl rfl rfl ?_
      iterate 3 refine s_v rfl rfl rfl ?_
      have hq := Option.some.inj hf
      subst hq
      refine r_join hJ _ ⟨K14, rfl, hle, h15, h16, h17, hS⟩ ⟨rfl, rfl, trivial⟩
    replace hf := bif_t hc hf
    refine s_no rfl rfl ?_
    refine s_no rfl rfl ?_
    refine s_no rfl rfl ?_
    refine s_no rfl rfl ?_
    refine s_v rfl rfl rfl ?_
    have hq := Option.some.inj hf
    subst hq
    refine r_join hJ _ ⟨K14, rfl, hle, h15, h16, h17, hS⟩ ⟨rfl, rfl, trivial⟩
  rintro _ w ⟨K20, rfl, hle, h21, h22, h23, hS⟩
  refine s_v rfl rfl rfl ?_
  obtain ⟨s30, hst31, hf⟩ := bs hf
  refine r_cut [_, _, _, _, _] (fun τ w => ∃ (K26 : KM), τ = [(1, (.pointer (some ⟨b12, 0, none⟩))), (32, (.bool s30))] ∧ KM.le K K26 ∧ SlK 63 K26 a2 c3 p1.Params ∧ SlK 77 K26 a5 c6 p1.Code ∧ SlK 92 K26 a8 c9 p1.Handlers ∧ Sat w K26 (flat [[(b12, Cl (vv67 p1 a2 c3 a5 c6 a8 c9) 67)], L])) rfl (fun J hJ => ?_) ?_
  · replace hf := hst31
    cases hc : s24
    · replace hf := bif_f hc hf
      refine s_v rfl rfl rfl ?_
      refine s_ld 0 hS rfl rfl rfl rfl rfl ?_
      iterate 3 refine s_v rfl rfl rfl ?_
      have hq := Option.some.inj hf
      subst hq
      refine r_join hJ _ ⟨K20, rfl, hle, h21, h22, h23, hS⟩ ⟨rfl, rfl, trivial⟩
    replace hf := bif_t hc hf
    refine s_no rfl rfl ?_
    refine s_no rfl rfl ?_
    refine s_no rfl rfl ?_
    refine s_no rfl rfl ?_
    refine s_v rfl rfl rfl ?_
    have hq := Option.some.inj hf
    subst hq
    refine r_join hJ _ ⟨K20, rfl, hle, h21, h22, h23, hS⟩ ⟨rfl, rfl, trivial⟩
  rintro _ w ⟨K26, rfl, hle, h27, h28, h29, hS⟩
  refine s_v rfl rfl rfl ?_
  obtain ⟨s36, hst37, hf⟩ := bs hf
  refine r_cut [_, _, _, _] (fun τ w => ∃ (K32 : KM), τ = [(1, (.pointer (some ⟨b12, 0, none⟩))), (37, (.bool s36))] ∧ KM.le K K32 ∧ SlK 63 K32 a2 c3 p1.Params ∧ SlK 77 K32 a5 c6 p1.Code ∧ SlK 92 K32 a8 c9 p1.Handlers ∧ Sat w K32 (flat [[(b12, Cl (vv67 p1 a2 c3 a5 c6 a8 c9) 67)], L])) rfl (fun J hJ => ?_) ?_
  · replace hf := hst37
    cases hc : s30
    · replace hf := bif_f hc hf
      refine s_v rfl rfl rfl ?_
      refine s_ld 0 hS rfl rfl rfl rfl rfl ?_
      iterate 2 refine s_v rfl rfl rfl ?_
      have hq := Option.some.inj hf
      subst hq
      refine r_join hJ _ ⟨K26, rfl, hle, h27, h28, h29, hS⟩ ⟨rfl, rfl, trivial⟩
    replace hf := bif_t hc hf
    refine s_no rfl rfl ?_
    refine s_no rfl rfl ?_
    refine s_no rfl rfl ?_
    refine s_v rfl rfl rfl ?_
    have hq := Option.some.inj hf
    subst hq
    refine r_join hJ _ ⟨K26, rfl, hle, h27, h28, h29, hS⟩ ⟨rfl, rfl, trivial⟩
  rintro _ w ⟨K32, rfl, hle, h33, h34, h35, hS⟩
  refine s_nil (qn ?_)
  refine s_if rfl (fun hc => ?_) (fun hc => ?_)
  · replace hf := bif_t hc hf
    refine s_seq (s_reg ?_)
    refine s_v rfl rfl rfl ?_
    refine s_nil (qn ?_)
    replace hS : Sat w K32 (flat [_]) := (hS.sel [1] rfl)
    refine s_rets (qrt ?_)
    have hq := Option.some.inj hf
    subst hq
    refine s_ret1 rfl (rv_t rfl) ?_
    exact ⟨K32, _, hle, rfl, Sat.nilG (hS.sel [0] rfl)⟩
  replace hf := bif_f hc hf
  refine s_skip (qn ?_)
  obtain ⟨res76, hst77, hm78⟩ := LR.then_some hf
  refine s_cut (fun τ w => ∃ (s75 : Unit) (K71 : KM), res76 = .brk s75 ∧ τ = [(1, (.pointer (some ⟨b12, 0, none⟩)))] ∧ KM.le K K71 ∧ SlK 63 K71 a2 c3 p1.Params ∧ SlK 77 K71 a5 c6 p1.Code ∧ SlK 92 K71 a8 c9 p1.Handlers ∧ Sat w K71 (flat [[(b12, Cl (vv67 p1 a2 c3 a5 c6 a8 c9) 67)], L])) (fun J hJ => ?_) ?_
  · replace hf := hst77
    refine s_seq (s_reg ?_)
    refine s_v rfl rfl rfl ?_
    refine s_nil (qn (s_block ?_))
    refine s_loopp (fun n τ w => ∃ (v106 : Int) (K102 : KM), bonsaihelp_Method.l0 fu p1 n v106 = some res76 ∧ τ = [(1, (.pointer (some ⟨b12, 0, none⟩))), (3, (.int .i64 v106))] ∧ KM.le K K102 ∧ SlK 63 K102 a2 c3 p1.Params ∧ SlK 77 K102 a5 c6 p1.Code ∧ SlK 92 K102 a8 c9 p1.Handlers ∧ Sat w K102 (flat [[(b12, Cl (vv67 p1 a2 c3 a5 c6 a8 c9) 67)], L])) _ ⟨0, K32, hf, rfl, hle, h33, h34, h35, hS⟩ ⟨rfl, rfl, trivial⟩ ?_ ?_
    · rintro _ _ ⟨_, _, hf, _⟩
      exact absurd hf (by simp [bonsaihelp_Method.l0])
    rintro n _ w Y hY ⟨v106, K102, hf, rfl, hle, h103, h104, h105, hS⟩
    rw [bonsaihelp_Method.l0] at hf
    refine s_seq (s_seq (s_reg ?_))
    iterate 2 refine s_v rfl rfl rfl ?_
    refine s_ld 0 hS rfl rfl rfl rfl rfl ?_
    iterate 2 refine s_v rfl rfl rfl ?_
    refine s_nil (qn ?_)
    refine s_if rfl (fun hc => ?_) (fun hc => ?_)
    · replace hf := bif_t hc hf
      refine s_skip (qn (s_seq (s_block (s_seq (s_reg ?_)))))
      refine s_v rfl rfl rfl ?_
      refine s_ld 0 hS rfl rfl rfl rfl rfl ?_
      refine s_v rfl rfl rfl ?_
      obtain ⟨x107, hx108, hf⟩ := bs hf
      refine s_ixk h103 rfl hx108 rfl rfl rfl rfl rfl rfl rfl ?_
      rintro b109 o110 _ rfl h111
      refine s_v rfl rfl rfl ?_
      refine s_ldk 1 hS h111 rfl rfl rfl rfl ?_
      iterate 2 refine s_v rfl rfl rfl ?_
      refine s_nil (qn ?_)
      refine s_if rfl (fun hc => ?_) (fun hc => ?_)
      · replace hf := bif_t hc hf
        refine s_seq (s_reg ?_)
        refine s_v rfl rfl rfl ?_
        refine s_nil (qn ?_)
        replace hS : Sat w K102 (flat [_]) := (hS.sel [1] rfl)
        refine s_rets (qrb (qrt (qrt (qrb (qrt ?_)))))
        replace hf := LR.esc_some hf hm78
        have hq := Option.some.inj hf
        subst hq
        refine s_ret1 rfl (rv_t rfl) ?_
        exact ⟨K102, _, hle, rfl, Sat.nilG (hS.sel [0] rfl)⟩
      replace hf := bif_f hc hf
      refine s_skip (qbn (qn (s_reg ?_)))
      iterate 3 refine s_v rfl rfl rfl ?_
      refine s_nil (qn ?_)
      refine s_join hY _ ⟨w64 (v106 + 1), K102, hf, rfl, hle, h103, h104, h105, hS⟩ ⟨rfl, rfl, trivial⟩
    replace hf := bif_f hc hf
    refine s_exit (qxt (qxt (qxb (qn ?_))))
    have hq := Option.some.inj hf
    subst hq
    refine s_join hJ _ ⟨(), K102, rfl, rfl, hle, h103, h104, h105, hS⟩ ⟨rfl, trivial⟩
  rintro _ w ⟨s75, K71, rfl, rfl, hle, h72, h73, h74, hS⟩
  replace hf := LR.elim_brk hm78
  obtain ⟨res165, hst166, hm167⟩ := LR.then_some hf
  refine s_cut (fun τ w => ∃ (s164 : Unit) (K160 : KM), res165 = .brk s164 ∧ τ = [(1, (.pointer (some ⟨b12, 0, none⟩)))] ∧ KM.le K K160 ∧ SlK 63 K160 a2 c3 p1.Params ∧ SlK 77 K160 a5 c6 p1.Code ∧ SlK 92 K160 a8 c9 p1.Handlers ∧ Sat w K160 (flat [[(b12, Cl (vv67 p1 a2 c3 a5 c6 a8 c9) 67)], L])) (fun J hJ => ?_) ?_
  · replace hf := hst166
    refine s_seq (s_reg ?_)
    refine s_v rfl rfl rfl ?_
    refine s_nil (qn (s_block ?_))
    refine s_loopp (fun n τ w => ∃ (v205 : Int) (K201 : KM), bonsaihelp_Method.l1 fu p1 n v205 = some res165 ∧ τ = [(1, (.pointer (some ⟨b12, 0, none⟩))), (4, (.int .i64 v205))] ∧ KM.le K K201 ∧ SlK 63 K201 a2 c3 p1.Params ∧ SlK 77 K201 a5 c6 p1.Code ∧ SlK 92 K201 a8 c9 p1.Handlers ∧ Sat w K201 (flat [[(b12, Cl (vv67 p1 a2 c3 a5 c6 a8 c9) 67)], L])) _ ⟨0, K71, hf, rfl, hle, h72, h73, h74, hS⟩ ⟨rfl, rfl, trivial⟩ ?_ ?_
    · rintro _ _ ⟨_, _, hf, _⟩
      exact absurd hf (by simp [bonsaihelp_Method.l1])
    rintro n _ w Y hY ⟨v205, K201, hf, rfl, hle, h202, h203, h204, hS⟩
    rw [bonsaihelp_Method.l1] at hf
    refine s_seq (s_seq (s_reg ?_))
    iterate 2 refine s_v rfl rfl rfl ?_
    refine s_ld 0 hS rfl rfl rfl rfl rfl ?_
    iterate 2 refine s_v rfl rfl rfl ?_
    refine s_nil (qn ?_)
    refine s_if rfl (fun hc => ?_) (fun hc => ?_)
    · replace hf := bif_t hc hf
      refine s_skip (qn (s_seq (s_block (s_seq (s_reg ?_)))))
      refine s_v rfl rfl rfl ?_
      refine s_ld 0 hS rfl rfl rfl rfl rfl ?_
      refine s_v rfl rfl rfl ?_
      obtain ⟨x206, hx207, hf⟩ := bs hf
      refine s_ixk h203 rfl hx207 rfl rfl rfl rfl rfl rfl rfl ?_
      rintro b208 o209 _ rfl h210
      refine s_ldk (v := (.agg (vv77 x206).toArray)) 0 hS h210 rfl rfl rfl rfl ?_
      obtain ⟨x211, hx212, hf⟩ := bs hf
      refine s_call isf44 hS.nilG (bonsaihelp_Instr_spec hx212) rfl rfl rfl ?_
      rintro _ K213 C215 w hk214 rfl hS
      replace hS := hS.drop1
      refine s_v rfl rfl rfl ?_
      refine s_nil (qn ?_)
      refine s_if rfl (fun hc => ?_) (fun hc => ?_)
      · replace hf := bif_t hc hf
        refine s_seq (s_reg ?_)
        refine s_v rfl rfl rfl ?_
        refine s_nil (qn ?_)
        replace hS : Sat w K213 (flat [_]) := (hS.sel [1] rfl)
        refine s_rets (qrb (qrt (qrt (qrb (qrt ?_)))))
        replace hf := LR.esc_some hf hm167
        have hq := Option.some.inj hf
        subst hq
        refine s_ret1 rfl (rv_t rfl) ?_
        replace hle := hle.trans hk214
        exact ⟨K213, _, hle, rfl, Sat.nilG (hS.sel [0] rfl)⟩
      replace hf := bif_f hc hf
      refine s_skip (qbn (qn (s_reg ?_)))
      iterate 3 refine s_v rfl rfl rfl ?_
      refine s_nil (qn ?_)
      replace h202 := h202.mono hk214
      replace h203 := h203.mono hk214
      replace h204 := h204.mono hk214
      replace hle := hle.trans hk214
      refine s_join hY _ ⟨w64 (v205 + 1), K213, hf, rfl, hle, h202, h203, h204, hS⟩ ⟨rfl, rfl, trivial⟩
    replace hf := bif_f hc hf
    refine s_exit (qxt (qxt (qxb (qn ?_))))
    have hq := Option.some.inj hf
    subst hq
    refine s_join hJ _ ⟨(), K201, rfl, rfl, hle, h202, h203, h204, hS⟩ ⟨rfl, trivial⟩
  rintro _ w ⟨s164, K160, rfl, rfl, hle, h161, h162, h163, hS⟩
  replace hf := LR.elim_brk hm167
  obtain ⟨res251, hst252, hm253⟩ := LR.then_some hf
  refine s_cut (fun τ w => ∃ (s250 : Unit) (K249 : KM), res251 = .brk s250 ∧ τ = [] ∧ KM.le K K249 ∧ Sat w K249 (flat [L])) (fun J hJ => ?_) ?_
  · replace hf := hst252
    refine s_seq (s_reg ?_)
    refine s_v rfl rfl rfl ?_
    refine s_nil (qn (s_block ?_))
    refine s_loopp (fun n τ w => ∃ (v281 : Int) (K277 : KM), bonsaihelp_Method.l2 fu p1 n v281 = some res251 ∧ τ = [(1, (.pointer (some ⟨b12, 0, none⟩))), (5, (.int .i64 v281))] ∧ KM.le K K277 ∧ SlK 63 K277 a2 c3 p1.Params ∧ SlK 77 K277 a5 c6 p1.Code ∧ SlK 92 K277 a8 c9 p1.Handlers ∧ Sat w K277 (flat [[(b12, Cl (vv67 p1 a2 c3 a5 c6 a8 c9) 67)], L])) _ ⟨0, K160, hf, rfl, hle, h161, h162, h163, hS⟩ ⟨rfl, rfl, trivial⟩ ?_ ?_
    · rintro _ _ ⟨_, _, hf, _⟩
      exact absurd hf (by simp [bonsaihelp_Method.l2])
    rintro n _ w Y hY ⟨v281, K277, hf, rfl, hle, h278, h279, h280, hS⟩
    rw [bonsaihelp_Method.l2] at hf
    refine s_seq (s_seq (s_reg ?_))
    iterate 2 refine s_v rfl rfl rfl ?_
    refine s_ld 0 hS rfl rfl rfl rfl rfl ?_
    iterate 2 refine s_v rfl rfl rfl ?_
    refine s_nil (qn ?_)
    refine s_if rfl (fun hc => ?_) (fun hc => ?_)
    · replace hf := bif_t hc hf
      refine s_skip (qn (s_seq (s_block (s_seq (s_reg ?_)))))
      refine s_v rfl rfl rfl ?_
      refine s_ld 0 hS rfl rfl rfl rfl rfl ?_
      refine s_v rfl rfl rfl ?_
      obtain ⟨x282, hx283, hf⟩ := bs hf
      refine s_ixk h280 rfl hx283 rfl rfl rfl rfl rfl rfl rfl ?_
      rintro b284 o285 _ rfl h286
      refine s_v rfl rfl rfl ?_
      refine s_ldk 3 hS h286 rfl rfl rfl rfl ?_
      iterate 2 refine s_v rfl rfl rfl ?_
      refine s_nil (qn ?_)
      refine s_if rfl (fun hc => ?_) (fun hc => ?_)
      · replace hf := bif_t hc hf
        refine s_seq (s_reg ?_)
        refine s_v rfl rfl rfl ?_
        refine s_nil (qn ?_)
        replace hS : Sat w K277 (flat [_]) := (hS.sel [1] rfl)
        refine s_rets (qrb (qrt (qrt (qrb (qrt ?_)))))
        replace hf := LR.esc_some hf hm253
        have hq := Option.some.inj hf
        subst hq
        refine s_ret1 rfl (rv_t rfl) ?_
        exact ⟨K277, _, hle, rfl, Sat.nilG (hS.sel [0] rfl)⟩
      replace hf := bif_f hc hf
      refine s_skip (qbn (qn (s_reg ?_)))
      iterate 3 refine s_v rfl rfl rfl ?_
      refine s_nil (qn ?_)
      refine s_join hY _ ⟨w64 (v281 + 1), K277, hf, rfl, hle, h278, h279, h280, hS⟩ ⟨rfl, rfl, trivial⟩
    replace hf := bif_f hc hf
    refine s_exit (qxt (qxt (qxb (qn ?_))))
    have hq := Option.some.inj hf
    subst hq
    refine s_join hJ _ ⟨(), K277, rfl, rfl, hle, (hS.sel [1] rfl)⟩ trivial
  rintro _ w ⟨s250, K249, rfl, rfl, hle, hS⟩
  replace hf := LR.elim_brk hm253
  refine s_seq (s_reg ?_)
  refine s_v rfl rfl rfl ?_
  refine s_nil (qn (s_rets ?_))
  have hq := Option.some.inj hf
  subst hq
  refine s_ret1 rfl (rv_t rfl) ?_
  exact ⟨K249, _, hle, rfl, Sat.nilG (hS.sel [0] rfl)⟩
end Go.Proofs.Ytgaldjnnfkdohaa
