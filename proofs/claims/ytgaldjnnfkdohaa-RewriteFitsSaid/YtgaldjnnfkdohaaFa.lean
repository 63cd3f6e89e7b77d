/- Functions of the program, and their walks. -/
import Derived.Test.YtgaldjnnfkdohaaTy
set_option linter.unusedVariables false
namespace Go.Proofs.Ytgaldjnnfkdohaa
open Go Go.Fw
noncomputable def bod54 : Code := Try.f54.body.getD .skip
theorem isf54 : IsFn Try.prog 54 Try.f54 bod54 := ⟨Try.func54, rfl, by decide⟩
noncomputable def bod55 : Code := Try.f55.body.getD .skip
theorem isf55 : IsFn Try.prog 55 Try.f55 bod55 := ⟨Try.func55, rfl, by decide⟩
noncomputable def bod56 : Code := Try.f56.body.getD .skip
theorem isf56 : IsFn Try.prog 56 Try.f56 bod56 := ⟨Try.func56, rfl, by decide⟩
noncomputable def bod36 : Code := Try.f36.body.getD .skip
theorem isf36 : IsFn Try.prog 36 Try.f36 bod36 := ⟨Try.func36, rfl, by decide⟩
noncomputable def bod33 : Code := Try.f33.body.getD .skip
theorem isf33 : IsFn Try.prog 33 Try.f33 bod33 := ⟨Try.func33, rfl, by decide⟩
noncomputable def bod29 : Code := Try.f29.body.getD .skip
theorem isf29 : IsFn Try.prog 29 Try.f29 bod29 := ⟨Try.func29, rfl, by decide⟩
noncomputable def bod10 : Code := Try.f10.body.getD .skip
theorem isf10 : IsFn Try.prog 10 Try.f10 bod10 := ⟨Try.func10, rfl, by decide⟩
-- 54 bonsai/op.Jumps
def op_Jumps.fn (p1 : Int) : Option Bool := (bif p1 == 19 then (some true) else (some (p1 == 20))).bind fun s4 => some s4
theorem op_Jumps_spec {K : KM} {p1 : Int} {r : Bool} (hf : op_Jumps.fn p1 = some r) : Sp Try.prog 54 [(.int .i64 p1)] K [] (fun K' C v => v = (.bool r)) := by
  unfold op_Jumps.fn at hf
  refine spec_enter isf54 rfl ?_
  intro w L hS
  replace hS : Sat w K (flat [L]) := hS
  have hle := KM.le.refl K
  unfold bod54 Try.f54
  dsimp only [Option.getD_some, argSlots]
  refine s_seq ?_
  refine s_reg ?_
  refine s_v rfl rfl rfl ?_
  refine s_nil ?_
  refine qn ?_
  refine s_seq ?_
  refine s_reg ?_
  refine s_v rfl rfl rfl ?_
  refine s_v rfl rfl rfl ?_
  refine s_v rfl rfl rfl ?_
  obtain ⟨s4, hst5, hf⟩ := Option.bind_eq_some_iff.1 hf
  refine r_cut [_, _, _] (fun τ w => ∃ (K3 : KM), τ = [(8, (.bool s4))] ∧ KM.le K K3 ∧ Sat w K3 (flat [L])) rfl (fun J hJ => ?_) ?_
  · replace hf := hst5
    cases hc : (p1 == 19)
    · replace hf := bif_f hc hf
      refine s_v rfl rfl rfl ?_
      refine s_v rfl rfl rfl ?_
      refine s_v rfl rfl rfl ?_
      have hq := Option.some.inj hf
      subst hq
      refine r_join hJ _ ⟨K, rfl, hle, hS⟩ ⟨rfl, trivial⟩
    · replace hf := bif_t hc hf
      refine s_no rfl rfl ?_
      refine s_no rfl rfl ?_
      refine s_v rfl rfl rfl ?_
      have hq := Option.some.inj hf
      subst hq
      refine r_join hJ _ ⟨K, rfl, hle, hS⟩ ⟨rfl, trivial⟩
  rintro _ w ⟨K3, rfl, hle, hS⟩
  refine s_v rfl rfl rfl ?_
  refine s_nil ?_
  refine qn ?_
  refine s_rets ?_
  have hq := Option.some.inj hf
  subst hq
  refine s_ret1 rfl (rv_t rfl) ?_
  exact ⟨K3, _, hle, rfl, Sat.nilG (hS.sel [0] rfl)⟩
-- 55 bonsai/rewrite.within
def rewrite_within.fn (p1 : Int) (p2 : Int) : Option Bool := (bif decide (p1 ≥ 0) then (some (decide (p1 ≤ p2))) else (some false)).bind fun s5 => some s5
theorem rewrite_within_spec {K : KM} {p1 : Int} {p2 : Int} {r : Bool} (hf : rewrite_within.fn p1 p2 = some r) : Sp Try.prog 55 [(.int .i64 p1), (.int .i64 p2)] K [] (fun K' C v => v = (.bool r)) := by
  unfold rewrite_within.fn at hf
  refine spec_enter isf55 rfl ?_
  intro w L hS
  replace hS : Sat w K (flat [L]) := hS
  have hle := KM.le.refl K
  unfold bod55 Try.f55
  dsimp only [Option.getD_some, argSlots]
  refine s_seq ?_
  refine s_reg ?_
  refine s_v rfl rfl rfl ?_
  refine s_nil ?_
  refine qn ?_
  refine s_seq ?_
  refine s_reg ?_
  refine s_v rfl rfl rfl ?_
  refine s_v rfl rfl rfl ?_
  refine s_v rfl rfl rfl ?_
  obtain ⟨s5, hst6, hf⟩ := Option.bind_eq_some_iff.1 hf
  refine r_cut [_, _, _, _] (fun τ w => ∃ (K4 : KM), τ = [(11, (.bool s5))] ∧ KM.le K K4 ∧ Sat w K4 (flat [L])) rfl (fun J hJ => ?_) ?_
  · replace hf := hst6
    cases hc : (decide (p1 ≥ 0))
    · replace hf := bif_f hc hf
      refine s_no rfl rfl ?_
      refine s_no rfl rfl ?_
      refine s_no rfl rfl ?_
      refine s_v rfl rfl rfl ?_
      have hq := Option.some.inj hf
      subst hq
      refine r_join hJ _ ⟨K, rfl, hle, hS⟩ ⟨rfl, trivial⟩
    · replace hf := bif_t hc hf
      refine s_v rfl rfl rfl ?_
      refine s_v rfl rfl rfl ?_
      refine s_v rfl rfl rfl ?_
      refine s_v rfl rfl rfl ?_
      have hq := Option.some.inj hf
      subst hq
      refine r_join hJ _ ⟨K, rfl, hle, hS⟩ ⟨rfl, trivial⟩
  rintro _ w ⟨K4, rfl, hle, hS⟩
  refine s_v rfl rfl rfl ?_
  refine s_nil ?_
  refine qn ?_
  refine s_rets ?_
  have hq := Option.some.inj hf
  subst hq
  refine s_ret1 rfl (rv_t rfl) ?_
  exact ⟨K4, _, hle, rfl, Sat.nilG (hS.sel [0] rfl)⟩
-- 56 slices.Clone[[]bonsai/api.Handler,bonsai/api.Handler]
def slices_Clone_api_Handler_api_Handler.fn (p1 : (List api_Handler)) : Option (List api_Handler) := guardB (roomy ([] : (List api_Handler)).length p1.length 40) (some p1)
theorem slices_Clone_api_Handler_api_Handler_spec {K : KM} {p1 : (List api_Handler)} {r : (List api_Handler)} {a2 : Option Addr} {c3 : Nat} (hf : slices_Clone_api_Handler_api_Handler.fn p1 = some r) (h4 : SlK 92 K a2 c3 p1) : Sp Try.prog 56 [(.slice a2 p1.length c3)] K [] (fun K' C v => ∃ (a : Option Addr) (c : Nat), v = (.slice a r.length c) ∧ OwnS 92 K' (.slice a r.length c) r C) := by
  unfold slices_Clone_api_Handler_api_Handler.fn at hf
  obtain ⟨hm, hf⟩ := guardB_some hf
  have hq := Option.some.inj hf; subst hq
  refine spec_enter isf56 rfl ?_
  intro w L hS
  replace hS : Sat w K (flat [L]) := hS
  have hle := KM.le.refl K
  unfold bod56 Try.f56
  dsimp only [Option.getD_some, argSlots]
  refine s_seq ?_
  refine s_reg ?_
  refine s_v rfl rfl rfl ?_
  refine s_nil ?_
  refine qn ?_
  refine s_seq ?_
  refine s_seq ?_
  refine s_reg ?_
  refine s_v rfl rfl rfl ?_
  refine s_eqn (e := 92) rfl rfl rfl rfl rfl rfl ?_
  refine s_nil ?_
  refine qn ?_
  refine s_if rfl (fun hc => ?_) (fun hc => ?_)
  · cases a2 with
    | some _ => cases hc
    | none =>
      have h0 := h4.none_nil; subst h0
      refine s_seq ?_; refine s_reg ?_; refine s_v rfl rfl rfl ?_; refine s_nil ?_; refine qn ?_
      refine s_rets ?_; refine qrt ?_
      refine s_ret1 rfl (rv_t rfl) ?_
      exact ⟨K, [], hle, ⟨none, 0, rfl, OwnS.nil⟩, hS⟩
  · refine s_skip ?_; refine qn ?_
    refine s_seq ?_; refine s_reg ?_
    refine s_bw (cs := []) hS rfl rfl rfl rfl rfl rfl rfl rfl rfl ?_
    intro b w hS
    refine s_v rfl rfl rfl ?_
    have h5 : OwnS 92 K (.slice (some ⟨b, 0, none⟩) 0 0) ([] : (List api_Handler)) [(b, Cl [] 92)] := OwnS.lit (Cat.nil) rfl rfl
    refine s_appk (e := 92) 0 hS rfl h5 h4 rfl rfl rfl rfl rfl rfl rfl (roomy_le hm) rfl rfl rfl ?_
    intro a c w C h6 hS
    refine s_v rfl rfl rfl ?_
    refine s_nil ?_
    refine qn ?_
    refine s_rets ?_
    refine s_ret1 rfl (rv_t rfl) ?_
    exact ⟨K, C, hle, ⟨a, c, rfl, h6⟩, hS⟩
-- 36 bonsai/rewrite.Fits
def rewrite_Fits.fn (p1 : api_Method) : Option Bool := (bif decide ((p1.Code.length : Int) ≤ 2000) then (some (decide (p1.Locals ≤ 200))) else (some false)).bind fun s15 => (bif s15 then (some (decide ((p1.Handlers.length : Int) ≤ 50))) else (some false)).bind fun s18 => some s18
theorem rewrite_Fits_spec {K : KM} {p1 : api_Method} {r : Bool} {a2 : Option Addr} {c3 : Nat} {a5 : Option Addr} {c6 : Nat} {a8 : Option Addr} {c9 : Nat} (hf : rewrite_Fits.fn p1 = some r) : Sp Try.prog 36 [(.agg #[(.string p1.Name), (.slice a2 p1.Params.length c3), (.int .i64 p1.Ret.Kind), (.string p1.Ret.Class), (.bool p1.Static), (.bool p1.Abstract), (.int .i64 p1.Locals), (.slice a5 p1.Code.length c6), (.slice a8 p1.Handlers.length c9)])] K [] (fun K' C v => v = (.bool r)) := by
  unfold rewrite_Fits.fn at hf
  refine spec_enter isf36 rfl ?_
  intro w L hS
  replace hS : Sat w K (flat [L]) := hS
  have hle := KM.le.refl K
  unfold bod36 Try.f36
  dsimp only [Option.getD_some, argSlots]
  refine s_seq ?_
  refine s_reg ?_
  refine s_bx hS rfl rfl rfl ?_
  intro b12 w hS
  replace hS : Sat w K (flat [[(b12, Cl [(.string p1.Name), (.slice a2 p1.Params.length c3), (.int .i64 p1.Ret.Kind), (.string p1.Ret.Class), (.bool p1.Static), (.bool p1.Abstract), (.int .i64 p1.Locals), (.slice a5 p1.Code.length c6), (.slice a8 p1.Handlers.length c9)] 67)], L]) := hS
  refine s_v rfl rfl rfl ?_
  refine s_nil ?_
  refine qn ?_
  refine s_seq ?_
  refine s_reg ?_
  refine s_v rfl rfl rfl ?_
  refine s_ld 0 hS rfl rfl rfl rfl rfl ?_
  refine s_v rfl rfl rfl ?_
  refine s_v rfl rfl rfl ?_
  refine s_v rfl rfl rfl ?_
  obtain ⟨s15, hst16, hf⟩ := Option.bind_eq_some_iff.1 hf
  refine r_cut [_, _, _, _] (fun τ w => ∃ (K14 : KM), τ = [(1, (.pointer (some ⟨b12, 0, none⟩))), (11, (.bool s15))] ∧ KM.le K K14 ∧ Sat w K14 (flat [[(b12, Cl [(.string p1.Name), (.slice a2 p1.Params.length c3), (.int .i64 p1.Ret.Kind), (.string p1.Ret.Class), (.bool p1.Static), (.bool p1.Abstract), (.int .i64 p1.Locals), (.slice a5 p1.Code.length c6), (.slice a8 p1.Handlers.length c9)] 67)], L])) rfl (fun J hJ => ?_) ?_
  · replace hf := hst16
    cases hc : (decide ((p1.Code.length : Int) ≤ 2000))
    · replace hf := bif_f hc hf
      refine s_no rfl rfl ?_
      refine s_no rfl rfl ?_
      refine s_no rfl rfl ?_
      refine s_v rfl rfl rfl ?_
      have hq := Option.some.inj hf
      subst hq
      refine r_join hJ _ ⟨K, rfl, hle, hS⟩ ⟨rfl, rfl, trivial⟩
    · replace hf := bif_t hc hf
      refine s_v rfl rfl rfl ?_
      refine s_ld 0 hS rfl rfl rfl rfl rfl ?_
      refine s_v rfl rfl rfl ?_
      refine s_v rfl rfl rfl ?_
      have hq := Option.some.inj hf
      subst hq
      refine r_join hJ _ ⟨K, rfl, hle, hS⟩ ⟨rfl, rfl, trivial⟩
  rintro _ w ⟨K14, rfl, hle, hS⟩
  refine s_v rfl rfl rfl ?_
  obtain ⟨s18, hst19, hf⟩ := Option.bind_eq_some_iff.1 hf
  refine r_cut [_, _, _, _, _] (fun τ w => ∃ (K17 : KM), τ = [(17, (.bool s18))] ∧ KM.le K K17 ∧ Sat w K17 (flat [L])) rfl (fun J hJ => ?_) ?_
  · replace hf := hst19
    cases hc : s15
    · replace hf := bif_f hc hf
      refine s_no rfl rfl ?_
      refine s_no rfl rfl ?_
      refine s_no rfl rfl ?_
      refine s_no rfl rfl ?_
      refine s_v rfl rfl rfl ?_
      have hq := Option.some.inj hf
      subst hq
      refine r_join hJ _ ⟨K14, rfl, hle, (hS.sel [1] rfl)⟩ ⟨rfl, trivial⟩
    · replace hf := bif_t hc hf
      refine s_v rfl rfl rfl ?_
      refine s_ld 0 hS rfl rfl rfl rfl rfl ?_
      refine s_v rfl rfl rfl ?_
      refine s_v rfl rfl rfl ?_
      refine s_v rfl rfl rfl ?_
      have hq := Option.some.inj hf
      subst hq
      refine r_join hJ _ ⟨K14, rfl, hle, (hS.sel [1] rfl)⟩ ⟨rfl, trivial⟩
  rintro _ w ⟨K17, rfl, hle, hS⟩
  refine s_v rfl rfl rfl ?_
  refine s_nil ?_
  refine qn ?_
  refine s_rets ?_
  have hq := Option.some.inj hf
  subst hq
  refine s_ret1 rfl (rv_t rfl) ?_
  exact ⟨K17, _, hle, rfl, Sat.nilG (hS.sel [0] rfl)⟩
-- 33 bonsai/rewrite.Method
def rewrite_Method.l0 (fu : Nat) (p1 : api_Method) (p11 : (List (List api_Instr))) : Nat → (List api_Instr) → (List Int) → Int → Option ((List api_Instr) × (List Int))
  | 0, _, _, _ => none
  | k + 1, v919, v920, v921 => bif decide (v921 < (p1.Code.length : Int)) then (((idx p1.Code v921).bind fun x1010 => guardB (roomy v920.length 1 8) ((bif decide (v921 < (p11.length : Int)) then ((idx p11 v921).bind fun x1050 => some (decide ((x1050.length : Int) > 0))) else (some false)).bind fun s1048 => bif s1048 then ((idx p11 v921).bind fun x1058 => guardB (roomy v919.length x1058.length 88) (some (v919 ++ x1058))) else (guardB (roomy v919.length 1 88) (some (v919 ++ [x1010]))))).bind fun s1008 => rewrite_Method.l0 fu p1 p11 k s1008 (v920 ++ [(v919.length : Int)]) (w64 (v921 + 1))) else (some (v919, v920))
def rewrite_Method.l1 (fu : Nat) (p1 : api_Method) (s554 : ((List api_Instr) × (List Int))) : Nat → (List api_Instr) → Int → Option (LR (List api_Instr) (api_Method × Bool))
  | 0, _, _ => none
  | k + 1, v1691, v1692 => bif decide (v1692 < (s554.1.length : Int)) then (LR.then ((idx v1691 v1692).bind fun x1749 => (op_Jumps.fn x1749.Op).bind fun x1759 => bif !x1759 then (some (.brk v1691)) else ((rewrite_within.fn x1749.K (w64 ((p1.Code.length : Int) - 1))).bind fun x1764 => bif !x1764 then (LR.esc (LR.esc (some ((api_Method.mk ByteArray.empty [] (api_Type.mk 0 ByteArray.empty) false false 0 [] []), false)))) else ((idx (s554.2 ++ [(s554.1.length : Int)]) x1749.K).bind fun x1771 => (idx v1691 v1692).bind fun x1780 => some (.brk (v1691.set (v1692 : Int).toNat (api_Instr.mk x1780.Op x1780.N x1771 x1780.S x1780.Class x1780.Name x1780.Desc)))))) fun s1745 => rewrite_Method.l1 fu p1 s554 k s1745 (w64 (v1692 + 1))) else (some (.brk v1691))
def rewrite_Method.l2 (fu : Nat) (p1 : api_Method) (s554 : ((List api_Instr) × (List Int))) (x1789 : (List api_Handler)) : Nat → (List api_Handler) → Int → Option (LR (List api_Handler) (api_Method × Bool))
  | 0, _, _ => none
  | k + 1, v2890, v2891 => bif decide (v2891 < (x1789.length : Int)) then ((idx v2890 v2891).bind fun x2892 => (rewrite_within.fn x2892.From (w64 ((p1.Code.length : Int) - 1))).bind fun x2902 => (bif !x2902 then (some true) else ((rewrite_within.fn x2892.To (p1.Code.length : Int)).bind fun x2932 => some (!x2932))).bind fun s2930 => (bif s2930 then (some true) else ((rewrite_within.fn x2892.At (w64 ((p1.Code.length : Int) - 1))).bind fun x2962 => some (!x2962))).bind fun s2960 => bif s2960 then (LR.esc (some ((api_Method.mk ByteArray.empty [] (api_Type.mk 0 ByteArray.empty) false false 0 [] []), false))) else ((idx (s554.2 ++ [(s554.1.length : Int)]) x2892.From).bind fun x3024 => (idx (s554.2 ++ [(s554.1.length : Int)]) x2892.To).bind fun x3033 => (idx (s554.2 ++ [(s554.1.length : Int)]) x2892.At).bind fun x3042 => (idx v2890 v2891).bind fun x3050 => (idx (v2890.set (v2891 : Int).toNat (api_Handler.mk x3024 x3050.To x3050.At x3050.Catch)) v2891).bind fun x3060 => (idx ((v2890.set (v2891 : Int).toNat (api_Handler.mk x3024 x3050.To x3050.At x3050.Catch)).set (v2891 : Int).toNat (api_Handler.mk x3060.From x3033 x3060.At x3060.Catch)) v2891).bind fun x3070 => rewrite_Method.l2 fu p1 s554 x1789 k (((v2890.set (v2891 : Int).toNat (api_Handler.mk x3024 x3050.To x3050.At x3050.Catch)).set (v2891 : Int).toNat (api_Handler.mk x3060.From x3033 x3060.At x3060.Catch)).set (v2891 : Int).toNat (api_Handler.mk x3070.From x3070.To x3042 x3070.Catch)) (w64 (v2891 + 1)))) else (some (.brk v2890))
def rewrite_Method.fn (fu : Nat) (p1 : api_Method) (p11 : (List (List api_Instr))) : Option (api_Method × Bool) := (rewrite_Method.l0 fu p1 p11 fu [] [] 0).bind fun s554 => guardB (roomy s554.2.length 1 8) (LR.then (rewrite_Method.l1 fu p1 s554 fu s554.1 0) fun s1441 => (slices_Clone_api_Handler_api_Handler.fn p1.Handlers).bind fun x1789 => LR.then (rewrite_Method.l2 fu p1 s554 x1789 fu x1789 0) fun s2442 => bif decide ((s1441.length : Int) > 2000) then (some ((api_Method.mk ByteArray.empty [] (api_Type.mk 0 ByteArray.empty) false false 0 [] []), false)) else (some ((api_Method.mk p1.Name p1.Params (api_Type.mk p1.Ret.Kind p1.Ret.Class) p1.Static p1.Abstract p1.Locals s1441 s2442), true)))
theorem rewrite_Method_spec {K : KM} {fu : Nat} {p1 : api_Method} {p11 : (List (List api_Instr))} {r : (api_Method × Bool)} {a2 : Option Addr} {c3 : Nat} {a5 : Option Addr} {c6 : Nat} {a8 : Option Addr} {c9 : Nat} {a12 : Option Addr} {c13 : Nat} (hf : rewrite_Method.fn fu p1 p11 = some r) (h4 : SlK 63 K a2 c3 p1.Params) (h7 : SlK 77 K a5 c6 p1.Code) (h10 : SlK 92 K a8 c9 p1.Handlers) (h14 : SlK 64 K a12 c13 p11) : Sp Try.prog 33 [(.agg #[(.string p1.Name), (.slice a2 p1.Params.length c3), (.int .i64 p1.Ret.Kind), (.string p1.Ret.Class), (.bool p1.Static), (.bool p1.Abstract), (.int .i64 p1.Locals), (.slice a5 p1.Code.length c6), (.slice a8 p1.Handlers.length c9)]), (.slice a12 p11.length c13)] K [] (fun K' C v => ∃ (a3081 : Option Addr) (c3082 : Nat) (a3084 : Option Addr) (c3085 : Nat) (a3087 : Option Addr) (c3088 : Nat) (C_0 : Chunks) (C_1 : Chunks), v = (.tuple #[(.agg #[(.string r.1.Name), (.slice a3081 r.1.Params.length c3082), (.int .i64 r.1.Ret.Kind), (.string r.1.Ret.Class), (.bool r.1.Static), (.bool r.1.Abstract), (.int .i64 r.1.Locals), (.slice a3084 r.1.Code.length c3085), (.slice a3087 r.1.Handlers.length c3088)]), (.bool r.2)]) ∧ SlK 63 K' a3081 c3082 r.1.Params ∧ OwnS 77 K' (.slice a3084 r.1.Code.length c3085) r.1.Code C_0 ∧ OwnS 92 K' (.slice a3087 r.1.Handlers.length c3088) r.1.Handlers C_1 ∧ C = flat [C_0, C_1]) := by
  unfold rewrite_Method.fn at hf
  refine spec_enter isf33 rfl ?_
  intro w L hS
  replace hS : Sat w K (flat [L]) := hS
  have hle := KM.le.refl K
  unfold bod33 Try.f33
  dsimp only [Option.getD_some, argSlots]
  refine s_seq ?_
  refine s_reg ?_
  refine s_bx hS rfl rfl rfl ?_
  intro b16 w hS
  replace hS : Sat w K (flat [[(b16, Cl [(.string p1.Name), (.slice a2 p1.Params.length c3), (.int .i64 p1.Ret.Kind), (.string p1.Ret.Class), (.bool p1.Static), (.bool p1.Abstract), (.int .i64 p1.Locals), (.slice a5 p1.Code.length c6), (.slice a8 p1.Handlers.length c9)] 67)], L]) := hS
  refine s_al hS rfl rfl rfl ?_
  intro b18 w hS
  replace hS : Sat w K (flat [[(b18, Cl [(.string ByteArray.empty), (.slice none 0 0), (.int .i64 0), (.string ByteArray.empty), (.bool false), (.bool false), (.int .i64 0), (.slice none 0 0), (.slice none 0 0)] 67)], [(b16, Cl [(.string p1.Name), (.slice a2 p1.Params.length c3), (.int .i64 p1.Ret.Kind), (.string p1.Ret.Class), (.bool p1.Static), (.bool p1.Abstract), (.int .i64 p1.Locals), (.slice a5 p1.Code.length c6), (.slice a8 p1.Handlers.length c9)] 67)], L]) := hS
  refine s_v rfl rfl rfl ?_
  refine s_nil ?_
  refine qn ?_
  refine s_seq ?_
  refine s_reg ?_
  refine s_v rfl rfl rfl ?_
  refine s_ld 1 hS rfl rfl rfl rfl rfl ?_
  refine s_v rfl rfl rfl ?_
  refine s_v rfl rfl rfl ?_
  refine s_nil ?_
  refine qn ?_
  refine s_seq ?_
  refine s_reg ?_
  refine s_v rfl rfl rfl ?_
  refine s_nil ?_
  refine qn ?_
  refine s_seq ?_
  refine s_reg ?_
  refine s_v rfl rfl rfl ?_
  refine s_nil ?_
  refine qn ?_
  obtain ⟨s554, hst555, hf⟩ := Option.bind_eq_some_iff.1 hf
  refine s_cut (fun τ w => ∃ (K540 : KM) (a545 : Option Addr) (c546 : Nat) (C547 : Chunks) (a550 : Option Addr) (c551 : Nat) (C552 : Chunks), τ = [(2, (.pointer (some ⟨b16, 0, none⟩))), (4, (.pointer (some ⟨b18, 0, none⟩))), (6, (.int .i64 (p1.Code.length : Int))), (7, (.slice a545 s554.1.length c546)), (8, (.slice a550 s554.2.length c551))] ∧ KM.le K K540 ∧ SlK 63 K540 a2 c3 p1.Params ∧ SlK 77 K540 a5 c6 p1.Code ∧ SlK 92 K540 a8 c9 p1.Handlers ∧ OwnS 77 K540 (.slice a545 s554.1.length c546) s554.1 C547 ∧ OwnS 3 K540 (.slice a550 s554.2.length c551) s554.2 C552 ∧ Sat w K540 (flat [[(b16, Cl [(.string p1.Name), (.slice a2 p1.Params.length c3), (.int .i64 p1.Ret.Kind), (.string p1.Ret.Class), (.bool p1.Static), (.bool p1.Abstract), (.int .i64 p1.Locals), (.slice a5 p1.Code.length c6), (.slice a8 p1.Handlers.length c9)] 67)], [(b18, Cl [(.string ByteArray.empty), (.slice none 0 0), (.int .i64 0), (.string ByteArray.empty), (.bool false), (.bool false), (.int .i64 0), (.slice none 0 0), (.slice none 0 0)] 67)], C547, C552, L])) (fun J hJ => ?_) ?_
  · replace hf := hst555
    refine s_seq ?_
    refine s_reg ?_
    refine s_v rfl rfl rfl ?_
    refine s_ld 1 hS rfl rfl rfl rfl rfl ?_
    refine s_v rfl rfl rfl ?_
    refine s_v rfl rfl rfl ?_
    refine s_nil ?_
    refine qn ?_
    refine s_block ?_
    replace hS := hS.nilG
    replace hS := hS.nilG
    refine s_loopp (fun n τ w => ∃ (v919 : (List api_Instr)) (v920 : (List Int)) (v921 : Int) (K903 : KM) (a909 : Option Addr) (c910 : Nat) (C911 : Chunks) (a914 : Option Addr) (c915 : Nat) (C916 : Chunks), rewrite_Method.l0 fu p1 p11 n v919 v920 v921 = some s554 ∧ τ = [(1, (.slice a12 p11.length c13)), (2, (.pointer (some ⟨b16, 0, none⟩))), (4, (.pointer (some ⟨b18, 0, none⟩))), (6, (.int .i64 (p1.Code.length : Int))), (7, (.slice a909 v919.length c910)), (8, (.slice a914 v920.length c915)), (19, (.slice a5 p1.Code.length c6)), (20, (.int .i64 (p1.Code.length : Int))), (21, (.int .i64 v921))] ∧ KM.le K K903 ∧ SlK 64 K903 a12 c13 p11 ∧ SlK 63 K903 a2 c3 p1.Params ∧ SlK 77 K903 a5 c6 p1.Code ∧ SlK 92 K903 a8 c9 p1.Handlers ∧ OwnS 77 K903 (.slice a909 v919.length c910) v919 C911 ∧ OwnS 3 K903 (.slice a914 v920.length c915) v920 C916 ∧ SlK 77 K903 a5 c6 p1.Code ∧ Sat w K903 (flat [[(b16, Cl [(.string p1.Name), (.slice a2 p1.Params.length c3), (.int .i64 p1.Ret.Kind), (.string p1.Ret.Class), (.bool p1.Static), (.bool p1.Abstract), (.int .i64 p1.Locals), (.slice a5 p1.Code.length c6), (.slice a8 p1.Handlers.length c9)] 67)], [(b18, Cl [(.string ByteArray.empty), (.slice none 0 0), (.int .i64 0), (.string ByteArray.empty), (.bool false), (.bool false), (.int .i64 0), (.slice none 0 0), (.slice none 0 0)] 67)], C911, C916, L])) _ ⟨[], [], 0, K, none, 0, [], none, 0, [], hf, rfl, hle, h14, h4, h7, h10, OwnS.nil, OwnS.nil, h7, (hS.sel [3, 2, 1, 0, 4] rfl)⟩ ⟨rfl, rfl, rfl, rfl, rfl, rfl, rfl, rfl, rfl, trivial⟩ ?_ ?_
    · rintro _ _ ⟨_, _, _, _, _, _, _, _, _, _, hf, _⟩
      exact absurd hf (by simp [rewrite_Method.l0])
    rintro n _ w Y hY ⟨v919, v920, v921, K903, a909, c910, C911, a914, c915, C916, hf, rfl, hle, h904, h905, h906, h907, h908, h913, h918, hS⟩
    rw [rewrite_Method.l0] at hf
    refine s_seq ?_
    refine s_reg ?_
    refine s_v rfl rfl rfl ?_
    refine s_nil ?_
    refine qn ?_
    refine s_seq ?_
    refine s_if rfl (fun hc => ?_) (fun hc => ?_)
    · replace hf := bif_t hc hf
      refine s_skip ?_
      refine qn ?_
      obtain ⟨s1008, hst1009, hf⟩ := Option.bind_eq_some_iff.1 hf
      refine s_cut (fun τ w => ∃ (K992 : KM) (a998 : Option Addr) (c999 : Nat) (C1000 : Chunks) (a1003 : Option Addr) (c1004 : Nat) (C1005 : Chunks), τ = [(1, (.slice a12 p11.length c13)), (2, (.pointer (some ⟨b16, 0, none⟩))), (4, (.pointer (some ⟨b18, 0, none⟩))), (6, (.int .i64 (p1.Code.length : Int))), (7, (.slice a998 s1008.length c999)), (8, (.slice a1003 ((v920 ++ [(v919.length : Int)]).length) c1004)), (19, (.slice a5 p1.Code.length c6)), (20, (.int .i64 (p1.Code.length : Int))), (21, (.int .i64 v921))] ∧ KM.le K K992 ∧ SlK 64 K992 a12 c13 p11 ∧ SlK 63 K992 a2 c3 p1.Params ∧ SlK 77 K992 a5 c6 p1.Code ∧ SlK 92 K992 a8 c9 p1.Handlers ∧ OwnS 77 K992 (.slice a998 s1008.length c999) s1008 C1000 ∧ OwnS 3 K992 (.slice a1003 ((v920 ++ [(v919.length : Int)]).length) c1004) (v920 ++ [(v919.length : Int)]) C1005 ∧ SlK 77 K992 a5 c6 p1.Code ∧ Sat w K992 (flat [[(b16, Cl [(.string p1.Name), (.slice a2 p1.Params.length c3), (.int .i64 p1.Ret.Kind), (.string p1.Ret.Class), (.bool p1.Static), (.bool p1.Abstract), (.int .i64 p1.Locals), (.slice a5 p1.Code.length c6), (.slice a8 p1.Handlers.length c9)] 67)], [(b18, Cl [(.string ByteArray.empty), (.slice none 0 0), (.int .i64 0), (.string ByteArray.empty), (.bool false), (.bool false), (.int .i64 0), (.slice none 0 0), (.slice none 0 0)] 67)], C1000, C1005, L])) (fun J hJ => ?_) ?_
      · replace hf := hst1009
        refine s_block ?_
        refine s_seq ?_
        refine s_reg ?_
        refine s_v rfl rfl rfl ?_
        obtain ⟨x1010, hx1011, hf⟩ := Option.bind_eq_some_iff.1 hf
        refine s_ixk h918 rfl hx1011 rfl rfl rfl rfl rfl rfl rfl ?_
        rintro b1012 o1013 _ rfl h1014
        refine s_ldk (v := (.agg #[(.int .i64 x1010.Op), (.int .i32 x1010.N), (.int .i64 x1010.K), (.string x1010.S), (.string x1010.Class), (.string x1010.Name), (.string x1010.Desc)])) 0 hS h1014 rfl rfl rfl rfl ?_
        refine s_al hS rfl rfl rfl ?_
        intro b1015 w hS
        replace hS : Sat w K903 (flat [[(b1015, Cl [(.int .i64 0), (.int .i32 0), (.int .i64 0), (.string ByteArray.empty), (.string ByteArray.empty), (.string ByteArray.empty), (.string ByteArray.empty)] 77)], [(b16, Cl [(.string p1.Name), (.slice a2 p1.Params.length c3), (.int .i64 p1.Ret.Kind), (.string p1.Ret.Class), (.bool p1.Static), (.bool p1.Abstract), (.int .i64 p1.Locals), (.slice a5 p1.Code.length c6), (.slice a8 p1.Handlers.length c9)] 67)], [(b18, Cl [(.string ByteArray.empty), (.slice none 0 0), (.int .i64 0), (.string ByteArray.empty), (.bool false), (.bool false), (.int .i64 0), (.slice none 0 0), (.slice none 0 0)] 67)], C911, C916, L]) := hS
        refine s_v rfl rfl rfl ?_
        refine s_st (cs' := [(.int .i64 x1010.Op), (.int .i32 x1010.N), (.int .i64 x1010.K), (.string x1010.S), (.string x1010.Class), (.string x1010.Name), (.string x1010.Desc)]) 0 hS rfl rfl rfl rfl rfl ?_
        intro w hS
        replace hS : Sat w K903 (flat [[(b1015, Cl [(.int .i64 x1010.Op), (.int .i32 x1010.N), (.int .i64 x1010.K), (.string x1010.S), (.string x1010.Class), (.string x1010.Name), (.string x1010.Desc)] 77)], [(b16, Cl [(.string p1.Name), (.slice a2 p1.Params.length c3), (.int .i64 p1.Ret.Kind), (.string p1.Ret.Class), (.bool p1.Static), (.bool p1.Abstract), (.int .i64 p1.Locals), (.slice a5 p1.Code.length c6), (.slice a8 p1.Handlers.length c9)] 67)], [(b18, Cl [(.string ByteArray.empty), (.slice none 0 0), (.int .i64 0), (.string ByteArray.empty), (.bool false), (.bool false), (.int .i64 0), (.slice none 0 0), (.slice none 0 0)] 67)], C911, C916, L]) := hS
        refine s_nil ?_
        refine qn ?_
        refine s_seq ?_
        refine s_reg ?_
        refine s_v rfl rfl rfl ?_
        refine s_v rfl rfl rfl ?_
        refine s_v rfl rfl rfl ?_
        refine s_bw (cs := [(.int .i64 (v919.length : Int))]) hS rfl rfl rfl rfl rfl rfl rfl rfl rfl ?_
        intro b1017 w hS
        obtain ⟨hm1019, hf⟩ := guardB_some hf
        refine s_appv (e := 3) (ys := [(v919.length : Int)]) 5 0 hS rfl h913 rfl ⟨[(.int .i64 (v919.length : Int))], _, rfl, rfl, rfl⟩ rfl rfl rfl rfl rfl rfl rfl rfl (roomy_le hm1019) rfl rfl rfl ?_
        intro a1020 c1021 w C1022 h1023 hS
        replace hS : Sat w K903 (flat [[(b1017, Cl [(.int .i64 (v919.length : Int))] 3)], [(b1015, Cl [(.int .i64 x1010.Op), (.int .i32 x1010.N), (.int .i64 x1010.K), (.string x1010.S), (.string x1010.Class), (.string x1010.Name), (.string x1010.Desc)] 77)], [(b16, Cl [(.string p1.Name), (.slice a2 p1.Params.length c3), (.int .i64 p1.Ret.Kind), (.string p1.Ret.Class), (.bool p1.Static), (.bool p1.Abstract), (.int .i64 p1.Locals), (.slice a5 p1.Code.length c6), (.slice a8 p1.Handlers.length c9)] 67)], [(b18, Cl [(.string ByteArray.empty), (.slice none 0 0), (.int .i64 0), (.string ByteArray.empty), (.bool false), (.bool false), (.int .i64 0), (.slice none 0 0), (.slice none 0 0)] 67)], C911, C1022, L]) := hS
        refine s_v rfl rfl rfl ?_
        refine s_nil ?_
        refine qn ?_
        refine s_seq ?_
        refine s_reg ?_
        refine s_v rfl rfl rfl ?_
        refine s_v rfl rfl rfl ?_
        refine s_v rfl rfl rfl ?_
        refine s_v rfl rfl rfl ?_
        refine s_v rfl rfl rfl ?_
        obtain ⟨s1048, hst1049, hf⟩ := Option.bind_eq_some_iff.1 hf
        refine r_cut [_, _, _, _, _, _, _] (fun τ w => ∃ (K1032 : KM) (a1038 : Option Addr) (c1039 : Nat) (C1040 : Chunks) (a1043 : Option Addr) (c1044 : Nat) (C1045 : Chunks), τ = [(1, (.slice a12 p11.length c13)), (2, (.pointer (some ⟨b16, 0, none⟩))), (4, (.pointer (some ⟨b18, 0, none⟩))), (6, (.int .i64 (p1.Code.length : Int))), (7, (.slice a1038 v919.length c1039)), (8, (.slice a1043 ((v920 ++ [(v919.length : Int)]).length) c1044)), (9, (.int .i64 v921)), (10, (.pointer (some ⟨b1015, 0, none⟩))), (19, (.slice a5 p1.Code.length c6)), (20, (.int .i64 (p1.Code.length : Int))), (21, (.int .i64 v921)), (42, (.bool s1048))] ∧ KM.le K K1032 ∧ SlK 64 K1032 a12 c13 p11 ∧ SlK 63 K1032 a2 c3 p1.Params ∧ SlK 77 K1032 a5 c6 p1.Code ∧ SlK 92 K1032 a8 c9 p1.Handlers ∧ OwnS 77 K1032 (.slice a1038 v919.length c1039) v919 C1040 ∧ OwnS 3 K1032 (.slice a1043 ((v920 ++ [(v919.length : Int)]).length) c1044) (v920 ++ [(v919.length : Int)]) C1045 ∧ SlK 77 K1032 a5 c6 p1.Code ∧ Sat w K1032 (flat [[(b16, Cl [(.string p1.Name), (.slice a2 p1.Params.length c3), (.int .i64 p1.Ret.Kind), (.string p1.Ret.Class), (.bool p1.Static), (.bool p1.Abstract), (.int .i64 p1.Locals), (.slice a5 p1.Code.length c6), (.slice a8 p1.Handlers.length c9)] 67)], [(b18, Cl [(.string ByteArray.empty), (.slice none 0 0), (.int .i64 0), (.string ByteArray.empty), (.bool false), (.bool false), (.int .i64 0), (.slice none 0 0), (.slice none 0 0)] 67)], C1040, C1045, [(b1015, Cl [(.int .i64 x1010.Op), (.int .i32 x1010.N), (.int .i64 x1010.K), (.string x1010.S), (.string x1010.Class), (.string x1010.Name), (.string x1010.Desc)] 77)], L])) rfl (fun J hJ => ?_) ?_
        · replace hf := hst1049
          cases hc : (decide (v921 < (p11.length : Int)))
          · replace hf := bif_f hc hf
            refine s_no rfl rfl ?_
            refine s_no rfl rfl ?_
            refine s_no rfl rfl ?_
            refine s_no rfl rfl ?_
            refine s_no rfl rfl ?_
            refine s_no rfl rfl ?_
            refine s_v rfl rfl rfl ?_
            have hq := Option.some.inj hf
            subst hq
            refine r_join hJ _ ⟨K903, a909, c910, C911, a1020, c1021, C1022, rfl, hle, h904, h905, h906, h907, h908, h1023, h918, (hS.sel [2, 3, 4, 5, 1, 6] rfl)⟩ ⟨rfl, rfl, rfl, rfl, rfl, rfl, rfl, rfl, rfl, rfl, rfl, rfl, trivial⟩
          · replace hf := bif_t hc hf
            refine s_v rfl rfl rfl ?_
            refine s_v rfl rfl rfl ?_
            obtain ⟨x1050, hx1051, hf⟩ := Option.bind_eq_some_iff.1 hf
            refine s_ixk h904 rfl hx1051 rfl rfl rfl rfl rfl rfl rfl ?_
            rintro b1055 o1056 _ ⟨a1052, c1053, rfl, h1054⟩ h1057
            refine s_ldk 0 hS h1057 rfl rfl rfl rfl ?_
            refine s_v rfl rfl rfl ?_
            refine s_v rfl rfl rfl ?_
            refine s_v rfl rfl rfl ?_
            have hq := Option.some.inj hf
            subst hq
            refine r_join hJ _ ⟨K903, a909, c910, C911, a1020, c1021, C1022, rfl, hle, h904, h905, h906, h907, h908, h1023, h918, (hS.sel [2, 3, 4, 5, 1, 6] rfl)⟩ ⟨rfl, rfl, rfl, rfl, rfl, rfl, rfl, rfl, rfl, rfl, rfl, rfl, trivial⟩
        rintro _ w ⟨K1032, a1038, c1039, C1040, a1043, c1044, C1045, rfl, hle, h1033, h1034, h1035, h1036, h1037, h1042, h1047, hS⟩
        refine s_nil ?_
        refine qn ?_
        refine s_if rfl (fun hc => ?_) (fun hc => ?_)
        · replace hf := bif_t hc hf
          refine s_reg ?_
          refine s_v rfl rfl rfl ?_
          refine s_v rfl rfl rfl ?_
          refine s_v rfl rfl rfl ?_
          obtain ⟨x1058, hx1059, hf⟩ := Option.bind_eq_some_iff.1 hf
          refine s_ixk h1033 rfl hx1059 rfl rfl rfl rfl rfl rfl rfl ?_
          rintro b1063 o1064 _ ⟨a1060, c1061, rfl, h1062⟩ h1065
          refine s_ldk 0 hS h1065 rfl rfl rfl rfl ?_
          obtain ⟨hm1066, hf⟩ := guardB_some hf
          refine s_appk (e := 77) 2 hS rfl h1037 h1062 rfl rfl rfl rfl rfl rfl rfl (roomy_le hm1066) rfl rfl rfl ?_
          intro a1067 c1068 w C1069 h1070 hS
          replace hS : Sat w K1032 (flat [[(b16, Cl [(.string p1.Name), (.slice a2 p1.Params.length c3), (.int .i64 p1.Ret.Kind), (.string p1.Ret.Class), (.bool p1.Static), (.bool p1.Abstract), (.int .i64 p1.Locals), (.slice a5 p1.Code.length c6), (.slice a8 p1.Handlers.length c9)] 67)], [(b18, Cl [(.string ByteArray.empty), (.slice none 0 0), (.int .i64 0), (.string ByteArray.empty), (.bool false), (.bool false), (.int .i64 0), (.slice none 0 0), (.slice none 0 0)] 67)], C1069, C1045, [(b1015, Cl [(.int .i64 x1010.Op), (.int .i32 x1010.N), (.int .i64 x1010.K), (.string x1010.S), (.string x1010.Class), (.string x1010.Name), (.string x1010.Desc)] 77)], L]) := hS
          refine s_v rfl rfl rfl ?_
          refine s_nil ?_
          refine qbn ?_
          refine qn ?_
          have hq := Option.some.inj hf
          subst hq
          refine s_join hJ _ ⟨K1032, a1067, c1068, C1069, a1043, c1044, C1045, rfl, hle, h1033, h1034, h1035, h1036, h1070, h1042, h1047, (hS.sel [0, 1, 2, 3, 5] rfl)⟩ ⟨rfl, rfl, rfl, rfl, rfl, rfl, rfl, rfl, rfl, trivial⟩
        · replace hf := bif_f hc hf
          refine s_reg ?_
          refine s_v rfl rfl rfl ?_
          refine s_ld (v := (.agg #[(.int .i64 x1010.Op), (.int .i32 x1010.N), (.int .i64 x1010.K), (.string x1010.S), (.string x1010.Class), (.string x1010.Name), (.string x1010.Desc)])) 4 hS rfl rfl rfl rfl rfl ?_
          refine s_bw (cs := [(.int .i64 x1010.Op), (.int .i32 x1010.N), (.int .i64 x1010.K), (.string x1010.S), (.string x1010.Class), (.string x1010.Name), (.string x1010.Desc)]) hS rfl rfl rfl rfl rfl rfl rfl rfl rfl ?_
          intro b1071 w hS
          obtain ⟨hm1073, hf⟩ := guardB_some hf
          refine s_appv (e := 77) (ys := [x1010]) 3 0 hS rfl h1037 rfl ⟨[(.int .i64 x1010.Op), (.int .i32 x1010.N), (.int .i64 x1010.K), (.string x1010.S), (.string x1010.Class), (.string x1010.Name), (.string x1010.Desc)], _, rfl, rfl, rfl⟩ rfl rfl rfl rfl rfl rfl rfl rfl (roomy_le hm1073) rfl rfl rfl ?_
          intro a1074 c1075 w C1076 h1077 hS
          replace hS : Sat w K1032 (flat [[(b1071, Cl [(.int .i64 x1010.Op), (.int .i32 x1010.N), (.int .i64 x1010.K), (.string x1010.S), (.string x1010.Class), (.string x1010.Name), (.string x1010.Desc)] 77)], [(b16, Cl [(.string p1.Name), (.slice a2 p1.Params.length c3), (.int .i64 p1.Ret.Kind), (.string p1.Ret.Class), (.bool p1.Static), (.bool p1.Abstract), (.int .i64 p1.Locals), (.slice a5 p1.Code.length c6), (.slice a8 p1.Handlers.length c9)] 67)], [(b18, Cl [(.string ByteArray.empty), (.slice none 0 0), (.int .i64 0), (.string ByteArray.empty), (.bool false), (.bool false), (.int .i64 0), (.slice none 0 0), (.slice none 0 0)] 67)], C1076, C1045, [(b1015, Cl [(.int .i64 x1010.Op), (.int .i32 x1010.N), (.int .i64 x1010.K), (.string x1010.S), (.string x1010.Class), (.string x1010.Name), (.string x1010.Desc)] 77)], L]) := hS
          refine s_v rfl rfl rfl ?_
          refine s_nil ?_
          refine qbn ?_
          refine qn ?_
          have hq := Option.some.inj hf
          subst hq
          refine s_join hJ _ ⟨K1032, a1074, c1075, C1076, a1043, c1044, C1045, rfl, hle, h1033, h1034, h1035, h1036, h1077, h1042, h1047, (hS.sel [1, 2, 3, 4, 6] rfl)⟩ ⟨rfl, rfl, rfl, rfl, rfl, rfl, rfl, rfl, rfl, trivial⟩
      rintro _ w ⟨K992, a998, c999, C1000, a1003, c1004, C1005, rfl, hle, h993, h994, h995, h996, h997, h1002, h1007, hS⟩
      refine s_reg ?_
      refine s_v rfl rfl rfl ?_
      refine s_v rfl rfl rfl ?_
      refine s_nil ?_
      refine qn ?_
      refine s_join hY _ ⟨s1008, (v920 ++ [(v919.length : Int)]), w64 (v921 + 1), K992, a998, c999, C1000, a1003, c1004, C1005, hf, rfl, hle, h993, h994, h995, h996, h997, h1002, h1007, hS⟩ ⟨rfl, rfl, rfl, rfl, rfl, rfl, rfl, rfl, rfl, trivial⟩
    · replace hf := bif_f hc hf
      refine s_exit ?_
      refine qxt ?_
      refine qxt ?_
      refine qxb ?_
      refine qn ?_
      have hq := Option.some.inj hf
      subst hq
      refine s_join hJ _ ⟨K903, a909, c910, C911, a914, c915, C916, rfl, hle, h905, h906, h907, h908, h913, hS⟩ ⟨rfl, rfl, rfl, rfl, rfl, trivial⟩
  rintro _ w ⟨K540, a545, c546, C547, a550, c551, C552, rfl, hle, h541, h542, h543, h544, h549, hS⟩
  refine s_seq ?_
  refine s_reg ?_
  refine s_v rfl rfl rfl ?_
  refine s_v rfl rfl rfl ?_
  refine s_v rfl rfl rfl ?_
  refine s_bw (cs := [(.int .i64 (s554.1.length : Int))]) hS rfl rfl rfl rfl rfl rfl rfl rfl rfl ?_
  intro b1078 w hS
  obtain ⟨hm1080, hf⟩ := guardB_some hf
  refine s_appv (e := 3) (ys := [(s554.1.length : Int)]) 4 0 hS rfl h549 rfl ⟨[(.int .i64 (s554.1.length : Int))], _, rfl, rfl, rfl⟩ rfl rfl rfl rfl rfl rfl rfl rfl (roomy_le hm1080) rfl rfl rfl ?_
  intro a1081 c1082 w C1083 h1084 hS
  replace hS : Sat w K540 (flat [[(b1078, Cl [(.int .i64 (s554.1.length : Int))] 3)], [(b16, Cl [(.string p1.Name), (.slice a2 p1.Params.length c3), (.int .i64 p1.Ret.Kind), (.string p1.Ret.Class), (.bool p1.Static), (.bool p1.Abstract), (.int .i64 p1.Locals), (.slice a5 p1.Code.length c6), (.slice a8 p1.Handlers.length c9)] 67)], [(b18, Cl [(.string ByteArray.empty), (.slice none 0 0), (.int .i64 0), (.string ByteArray.empty), (.bool false), (.bool false), (.int .i64 0), (.slice none 0 0), (.slice none 0 0)] 67)], C547, C1083, L]) := hS
  refine s_v rfl rfl rfl ?_
  refine s_nil ?_
  refine qn ?_
  obtain ⟨res1442, hst1443, hm1444⟩ := LR.then_some hf
  refine s_cut (fun τ w => ∃ (s1441 : (List api_Instr)) (K1427 : KM) (a1432 : Option Addr) (c1433 : Nat) (C1434 : Chunks) (a1437 : Option Addr) (c1438 : Nat) (C1439 : Chunks), res1442 = .brk s1441 ∧ τ = [(2, (.pointer (some ⟨b16, 0, none⟩))), (4, (.pointer (some ⟨b18, 0, none⟩))), (6, (.int .i64 (p1.Code.length : Int))), (7, (.slice a1432 s1441.length c1433)), (8, (.slice a1437 ((s554.2 ++ [(s554.1.length : Int)]).length) c1438))] ∧ KM.le K K1427 ∧ SlK 63 K1427 a2 c3 p1.Params ∧ SlK 77 K1427 a5 c6 p1.Code ∧ SlK 92 K1427 a8 c9 p1.Handlers ∧ OwnS 77 K1427 (.slice a1432 s1441.length c1433) s1441 C1434 ∧ OwnS 3 K1427 (.slice a1437 ((s554.2 ++ [(s554.1.length : Int)]).length) c1438) (s554.2 ++ [(s554.1.length : Int)]) C1439 ∧ Sat w K1427 (flat [[(b16, Cl [(.string p1.Name), (.slice a2 p1.Params.length c3), (.int .i64 p1.Ret.Kind), (.string p1.Ret.Class), (.bool p1.Static), (.bool p1.Abstract), (.int .i64 p1.Locals), (.slice a5 p1.Code.length c6), (.slice a8 p1.Handlers.length c9)] 67)], [(b18, Cl [(.string ByteArray.empty), (.slice none 0 0), (.int .i64 0), (.string ByteArray.empty), (.bool false), (.bool false), (.int .i64 0), (.slice none 0 0), (.slice none 0 0)] 67)], C1434, C1439, L])) (fun J hJ => ?_) ?_
  · replace hf := hst1443
    refine s_seq ?_
    refine s_reg ?_
    refine s_v rfl rfl rfl ?_
    refine s_v rfl rfl rfl ?_
    refine s_v rfl rfl rfl ?_
    refine s_nil ?_
    refine qn ?_
    refine s_block ?_
    refine s_loopp (fun n τ w => ∃ (v1691 : (List api_Instr)) (v1692 : Int) (K1677 : KM) (a1682 : Option Addr) (c1683 : Nat) (C1684 : Chunks) (a1687 : Option Addr) (c1688 : Nat) (C1689 : Chunks), rewrite_Method.l1 fu p1 s554 n v1691 v1692 = some res1442 ∧ τ = [(2, (.pointer (some ⟨b16, 0, none⟩))), (4, (.pointer (some ⟨b18, 0, none⟩))), (6, (.int .i64 (p1.Code.length : Int))), (7, (.slice a1682 v1691.length c1683)), (8, (.slice a1687 ((s554.2 ++ [(s554.1.length : Int)]).length) c1688)), (59, (.slice a1682 v1691.length c1683)), (60, (.int .i64 (s554.1.length : Int))), (61, (.int .i64 v1692))] ∧ KM.le K K1677 ∧ SlK 63 K1677 a2 c3 p1.Params ∧ SlK 77 K1677 a5 c6 p1.Code ∧ SlK 92 K1677 a8 c9 p1.Handlers ∧ OwnS 77 K1677 (.slice a1682 v1691.length c1683) v1691 C1684 ∧ OwnS 3 K1677 (.slice a1687 ((s554.2 ++ [(s554.1.length : Int)]).length) c1688) (s554.2 ++ [(s554.1.length : Int)]) C1689 ∧ Sat w K1677 (flat [[(b16, Cl [(.string p1.Name), (.slice a2 p1.Params.length c3), (.int .i64 p1.Ret.Kind), (.string p1.Ret.Class), (.bool p1.Static), (.bool p1.Abstract), (.int .i64 p1.Locals), (.slice a5 p1.Code.length c6), (.slice a8 p1.Handlers.length c9)] 67)], [(b18, Cl [(.string ByteArray.empty), (.slice none 0 0), (.int .i64 0), (.string ByteArray.empty), (.bool false), (.bool false), (.int .i64 0), (.slice none 0 0), (.slice none 0 0)] 67)], C1684, C1689, L])) _ ⟨s554.1, 0, K540, a545, c546, C547, a1081, c1082, C1083, hf, rfl, hle, h541, h542, h543, h544, h1084, (hS.sel [1, 2, 3, 4, 5] rfl)⟩ ⟨rfl, rfl, rfl, rfl, rfl, rfl, rfl, rfl, trivial⟩ ?_ ?_
    · rintro _ _ ⟨_, _, _, _, _, _, _, _, _, hf, _⟩
      exact absurd hf (by simp [rewrite_Method.l1])
    rintro n _ w Y hY ⟨v1691, v1692, K1677, a1682, c1683, C1684, a1687, c1688, C1689, hf, rfl, hle, h1678, h1679, h1680, h1681, h1686, hS⟩
    rw [rewrite_Method.l1] at hf
    refine s_seq ?_
    refine s_reg ?_
    refine s_v rfl rfl rfl ?_
    refine s_nil ?_
    refine qn ?_
    refine s_seq ?_
    refine s_if rfl (fun hc => ?_) (fun hc => ?_)
    · replace hf := bif_t hc hf
      refine s_skip ?_
      refine qn ?_
      obtain ⟨res1746, hst1747, hm1748⟩ := LR.then_some hf
      refine s_cut (fun τ w => ∃ (s1745 : (List api_Instr)) (K1731 : KM) (a1736 : Option Addr) (c1737 : Nat) (C1738 : Chunks) (a1741 : Option Addr) (c1742 : Nat) (C1743 : Chunks), res1746 = .brk s1745 ∧ τ = [(2, (.pointer (some ⟨b16, 0, none⟩))), (4, (.pointer (some ⟨b18, 0, none⟩))), (6, (.int .i64 (p1.Code.length : Int))), (7, (.slice a1736 s1745.length c1737)), (8, (.slice a1741 ((s554.2 ++ [(s554.1.length : Int)]).length) c1742)), (59, (.slice a1736 s1745.length c1737)), (60, (.int .i64 (s554.1.length : Int))), (61, (.int .i64 v1692))] ∧ KM.le K K1731 ∧ SlK 63 K1731 a2 c3 p1.Params ∧ SlK 77 K1731 a5 c6 p1.Code ∧ SlK 92 K1731 a8 c9 p1.Handlers ∧ OwnS 77 K1731 (.slice a1736 s1745.length c1737) s1745 C1738 ∧ OwnS 3 K1731 (.slice a1741 ((s554.2 ++ [(s554.1.length : Int)]).length) c1742) (s554.2 ++ [(s554.1.length : Int)]) C1743 ∧ Sat w K1731 (flat [[(b16, Cl [(.string p1.Name), (.slice a2 p1.Params.length c3), (.int .i64 p1.Ret.Kind), (.string p1.Ret.Class), (.bool p1.Static), (.bool p1.Abstract), (.int .i64 p1.Locals), (.slice a5 p1.Code.length c6), (.slice a8 p1.Handlers.length c9)] 67)], [(b18, Cl [(.string ByteArray.empty), (.slice none 0 0), (.int .i64 0), (.string ByteArray.empty), (.bool false), (.bool false), (.int .i64 0), (.slice none 0 0), (.slice none 0 0)] 67)], C1738, C1743, L])) (fun J hJ => ?_) ?_
      · replace hf := hst1747
        refine s_block ?_
        refine s_seq ?_
        refine s_reg ?_
        refine s_v rfl rfl rfl ?_
        obtain ⟨x1749, hx1750, hf⟩ := Option.bind_eq_some_iff.1 hf
        refine s_ixo 2 hS rfl h1681 hx1750 rfl rfl rfl rfl rfl rfl rfl ?_
        intro b1751 l1752 cs1755 l1753 hcs_ hC1756 hun1754
        obtain rfl := hcs_
        subst hC1756
        replace hS : Sat w K1677 (flat [[(b16, Cl [(.string p1.Name), (.slice a2 p1.Params.length c3), (.int .i64 p1.Ret.Kind), (.string p1.Ret.Class), (.bool p1.Static), (.bool p1.Abstract), (.int .i64 p1.Locals), (.slice a5 p1.Code.length c6), (.slice a8 p1.Handlers.length c9)] 67)], [(b18, Cl [(.string ByteArray.empty), (.slice none 0 0), (.int .i64 0), (.string ByteArray.empty), (.bool false), (.bool false), (.int .i64 0), (.slice none 0 0), (.slice none 0 0)] 67)], [(b1751, Cl (l1752 ++ (([(.int .i64 x1749.Op), (.int .i32 x1749.N), (.int .i64 x1749.K), (.string x1749.S), (.string x1749.Class), (.string x1749.Name), (.string x1749.Desc)] : List Value) ++ l1753)) 77)], C1689, L]) := hS
        refine s_ldm (v := (.agg #[(.int .i64 x1749.Op), (.int .i32 x1749.N), (.int .i64 x1749.K), (.string x1749.S), (.string x1749.Class), (.string x1749.Name), (.string x1749.Desc)])) 2 0 hS rfl rfl rfl rfl rfl ?_
        refine s_al hS rfl rfl rfl ?_
        intro b1757 w hS
        replace hS : Sat w K1677 (flat [[(b1757, Cl [(.int .i64 0), (.int .i32 0), (.int .i64 0), (.string ByteArray.empty), (.string ByteArray.empty), (.string ByteArray.empty), (.string ByteArray.empty)] 77)], [(b16, Cl [(.string p1.Name), (.slice a2 p1.Params.length c3), (.int .i64 p1.Ret.Kind), (.string p1.Ret.Class), (.bool p1.Static), (.bool p1.Abstract), (.int .i64 p1.Locals), (.slice a5 p1.Code.length c6), (.slice a8 p1.Handlers.length c9)] 67)], [(b18, Cl [(.string ByteArray.empty), (.slice none 0 0), (.int .i64 0), (.string ByteArray.empty), (.bool false), (.bool false), (.int .i64 0), (.slice none 0 0), (.slice none 0 0)] 67)], [(b1751, Cl (l1752 ++ (([(.int .i64 x1749.Op), (.int .i32 x1749.N), (.int .i64 x1749.K), (.string x1749.S), (.string x1749.Class), (.string x1749.Name), (.string x1749.Desc)] : List Value) ++ l1753)) 77)], C1689, L]) := hS
        refine s_v rfl rfl rfl ?_
        refine s_st (cs' := [(.int .i64 x1749.Op), (.int .i32 x1749.N), (.int .i64 x1749.K), (.string x1749.S), (.string x1749.Class), (.string x1749.Name), (.string x1749.Desc)]) 0 hS rfl rfl rfl rfl rfl ?_
        intro w hS
        replace hS : Sat w K1677 (flat [[(b1757, Cl [(.int .i64 x1749.Op), (.int .i32 x1749.N), (.int .i64 x1749.K), (.string x1749.S), (.string x1749.Class), (.string x1749.Name), (.string x1749.Desc)] 77)], [(b16, Cl [(.string p1.Name), (.slice a2 p1.Params.length c3), (.int .i64 p1.Ret.Kind), (.string p1.Ret.Class), (.bool p1.Static), (.bool p1.Abstract), (.int .i64 p1.Locals), (.slice a5 p1.Code.length c6), (.slice a8 p1.Handlers.length c9)] 67)], [(b18, Cl [(.string ByteArray.empty), (.slice none 0 0), (.int .i64 0), (.string ByteArray.empty), (.bool false), (.bool false), (.int .i64 0), (.slice none 0 0), (.slice none 0 0)] 67)], [(b1751, Cl (l1752 ++ (([(.int .i64 x1749.Op), (.int .i32 x1749.N), (.int .i64 x1749.K), (.string x1749.S), (.string x1749.Class), (.string x1749.Name), (.string x1749.Desc)] : List Value) ++ l1753)) 77)], C1689, L]) := hS
        refine s_nil ?_
        refine qn ?_
        refine s_seq ?_
        refine s_seq ?_
        refine s_reg ?_
        refine s_v rfl rfl rfl ?_
        refine s_ld 0 hS rfl rfl rfl rfl rfl ?_
        obtain ⟨x1759, hx1760, hf⟩ := Option.bind_eq_some_iff.1 hf
        refine s_call isf54 hS.nilG (op_Jumps_spec hx1760) rfl rfl rfl ?_
        rintro _ K1761 C1763 w hk1762 rfl hS
        replace hS := hS.drop1
        replace h1678 := h1678.mono hk1762
        replace h1679 := h1679.mono hk1762
        replace h1680 := h1680.mono hk1762
        replace h1681 := h1681.mono hk1762
        replace h1686 := h1686.mono hk1762
        replace hle := hle.trans hk1762
        refine s_v rfl rfl rfl ?_
        refine s_nil ?_
        refine qn ?_
        refine s_if rfl (fun hc => ?_) (fun hc => ?_)
        · replace hf := bif_t hc hf
          refine s_exit ?_
          refine qxt ?_
          refine qxb ?_
          refine qn ?_
          have hq := Option.some.inj hf
          subst hq
          refine s_join hJ _ ⟨v1691, K1761, a1682, c1683, [(b1751, Cl (l1752 ++ (([(.int .i64 x1749.Op), (.int .i32 x1749.N), (.int .i64 x1749.K), (.string x1749.S), (.string x1749.Class), (.string x1749.Name), (.string x1749.Desc)] : List Value) ++ l1753)) 77)], a1687, c1688, C1689, rfl, rfl, hle, h1678, h1679, h1680, h1681, h1686, (hS.sel [1, 2, 3, 4, 5] rfl)⟩ ⟨rfl, rfl, rfl, rfl, rfl, rfl, rfl, rfl, trivial⟩
        replace hf := bif_f hc hf
        refine s_skip ?_
        refine qn ?_
        refine s_seq ?_
        refine s_seq ?_
        refine s_reg ?_
        refine s_v rfl rfl rfl ?_
        refine s_ld 0 hS rfl rfl rfl rfl rfl ?_
        refine s_v rfl rfl rfl ?_
        refine s_v rfl rfl rfl ?_
        obtain ⟨x1764, hx1765, hf⟩ := Option.bind_eq_some_iff.1 hf
        refine s_call isf55 hS.nilG (rewrite_within_spec hx1765) rfl rfl rfl ?_
        rintro _ K1766 C1768 w hk1767 rfl hS
        replace hS := hS.drop1
        replace h1678 := h1678.mono hk1767
        replace h1679 := h1679.mono hk1767
        replace h1680 := h1680.mono hk1767
        replace h1681 := h1681.mono hk1767
        replace h1686 := h1686.mono hk1767
        replace hle := hle.trans hk1767
        refine s_v rfl rfl rfl ?_
        refine s_nil ?_
        refine qn ?_
        refine s_if rfl (fun hc => ?_) (fun hc => ?_)
        · replace hf := bif_t hc hf
          refine s_seq ?_
          refine s_reg ?_
          refine s_v (v := (.agg #[(.string ByteArray.empty), (.slice none 0 0), (.int .i64 0), (.string ByteArray.empty), (.bool false), (.bool false), (.int .i64 0), (.slice none 0 0), (.slice none 0 0)])) rfl rfl rfl ?_
          refine s_st (cs' := [(.string ByteArray.empty), (.slice none 0 0), (.int .i64 0), (.string ByteArray.empty), (.bool false), (.bool false), (.int .i64 0), (.slice none 0 0), (.slice none 0 0)]) 2 hS rfl rfl rfl rfl rfl ?_
          intro w hS
          replace hS : Sat w K1766 (flat [[(b1757, Cl [(.int .i64 x1749.Op), (.int .i32 x1749.N), (.int .i64 x1749.K), (.string x1749.S), (.string x1749.Class), (.string x1749.Name), (.string x1749.Desc)] 77)], [(b16, Cl [(.string p1.Name), (.slice a2 p1.Params.length c3), (.int .i64 p1.Ret.Kind), (.string p1.Ret.Class), (.bool p1.Static), (.bool p1.Abstract), (.int .i64 p1.Locals), (.slice a5 p1.Code.length c6), (.slice a8 p1.Handlers.length c9)] 67)], [(b18, Cl [(.string ByteArray.empty), (.slice none 0 0), (.int .i64 0), (.string ByteArray.empty), (.bool false), (.bool false), (.int .i64 0), (.slice none 0 0), (.slice none 0 0)] 67)], [(b1751, Cl (l1752 ++ (([(.int .i64 x1749.Op), (.int .i32 x1749.N), (.int .i64 x1749.K), (.string x1749.S), (.string x1749.Class), (.string x1749.Name), (.string x1749.Desc)] : List Value) ++ l1753)) 77)], C1689, L]) := hS
          refine s_v rfl rfl rfl ?_
          refine s_nil ?_
          refine qn ?_
          refine s_rets ?_
          refine qrt ?_
          refine qrb ?_
          refine qrt ?_
          replace hf := LR.esc_some hf hm1748
          refine qrt ?_
          refine qrb ?_
          refine qrt ?_
          replace hf := LR.esc_some hf hm1444
          replace hS := hS.nilG
          replace hS := hS.nilG
          have hq := Option.some.inj hf
          subst hq
          refine s_ret2 rfl (rv_c (v := (.agg #[(.string ByteArray.empty), (.slice none 0 0), (.int .i64 0), (.string ByteArray.empty), (.bool false), (.bool false), (.int .i64 0), (.slice none 0 0), (.slice none 0 0)])) 4 hS rfl rfl rfl) (rv_t rfl) ?_
          exact ⟨K1766, _, hle, ⟨none, 0, none, 0, none, 0, [], [], rfl, SlK.nil, OwnS.nil, OwnS.nil, rfl⟩, Sat.shut [[], []] (hS.sel [1, 0, 7] rfl)⟩
        replace hf := bif_f hc hf
        refine s_skip ?_
        refine qn ?_
        refine s_reg ?_
        refine s_v rfl rfl rfl ?_
        refine s_v rfl rfl rfl ?_
        refine s_v rfl rfl rfl ?_
        refine s_v rfl rfl rfl ?_
        refine s_ld 0 hS rfl rfl rfl rfl rfl ?_
        obtain ⟨x1771, hx1772, hf⟩ := Option.bind_eq_some_iff.1 hf
        refine s_ixo 4 hS rfl h1686 hx1772 rfl rfl rfl rfl rfl rfl rfl ?_
        intro b1773 l1774 cs1777 l1775 hcs_ hC1778 hun1776
        obtain rfl := hcs_
        subst hC1778
        replace hS : Sat w K1766 (flat [[(b1757, Cl [(.int .i64 x1749.Op), (.int .i32 x1749.N), (.int .i64 x1749.K), (.string x1749.S), (.string x1749.Class), (.string x1749.Name), (.string x1749.Desc)] 77)], [(b16, Cl [(.string p1.Name), (.slice a2 p1.Params.length c3), (.int .i64 p1.Ret.Kind), (.string p1.Ret.Class), (.bool p1.Static), (.bool p1.Abstract), (.int .i64 p1.Locals), (.slice a5 p1.Code.length c6), (.slice a8 p1.Handlers.length c9)] 67)], [(b18, Cl [(.string ByteArray.empty), (.slice none 0 0), (.int .i64 0), (.string ByteArray.empty), (.bool false), (.bool false), (.int .i64 0), (.slice none 0 0), (.slice none 0 0)] 67)], [(b1751, Cl (l1752 ++ (([(.int .i64 x1749.Op), (.int .i32 x1749.N), (.int .i64 x1749.K), (.string x1749.S), (.string x1749.Class), (.string x1749.Name), (.string x1749.Desc)] : List Value) ++ l1753)) 77)], [(b1773, Cl (l1774 ++ (([(.int .i64 x1771)] : List Value) ++ l1775)) 3)], L]) := hS
        refine s_ldm 4 0 hS rfl rfl rfl rfl rfl ?_
        generalize hCg_ : ([(b1751, Cl (l1752 ++ (([(.int .i64 x1749.Op), (.int .i32 x1749.N), (.int .i64 x1749.K), (.string x1749.S), (.string x1749.Class), (.string x1749.Name), (.string x1749.Desc)] : List Value) ++ l1753)) 77)] : Chunks) = C1779 at hS h1681
        clear hCg_
        obtain ⟨x1780, hx1781, hf⟩ := Option.bind_eq_some_iff.1 hf
        refine s_ixo 3 hS rfl h1681 hx1781 rfl rfl rfl rfl rfl rfl rfl ?_
        intro b1782 l1783 cs1786 l1784 hcs_ hC1787 hun1785
        obtain rfl := hcs_
        subst hC1787
        replace hS : Sat w K1766 (flat [[(b1757, Cl [(.int .i64 x1749.Op), (.int .i32 x1749.N), (.int .i64 x1749.K), (.string x1749.S), (.string x1749.Class), (.string x1749.Name), (.string x1749.Desc)] 77)], [(b16, Cl [(.string p1.Name), (.slice a2 p1.Params.length c3), (.int .i64 p1.Ret.Kind), (.string p1.Ret.Class), (.bool p1.Static), (.bool p1.Abstract), (.int .i64 p1.Locals), (.slice a5 p1.Code.length c6), (.slice a8 p1.Handlers.length c9)] 67)], [(b18, Cl [(.string ByteArray.empty), (.slice none 0 0), (.int .i64 0), (.string ByteArray.empty), (.bool false), (.bool false), (.int .i64 0), (.slice none 0 0), (.slice none 0 0)] 67)], [(b1782, Cl (l1783 ++ (([(.int .i64 x1780.Op), (.int .i32 x1780.N), (.int .i64 x1780.K), (.string x1780.S), (.string x1780.Class), (.string x1780.Name), (.string x1780.Desc)] : List Value) ++ l1784)) 77)], [(b1773, Cl (l1774 ++ (([(.int .i64 x1771)] : List Value) ++ l1775)) 3)], L]) := hS
        refine s_v rfl rfl rfl ?_
        refine s_stm (cs' := [(.int .i64 x1780.Op), (.int .i32 x1780.N), (.int .i64 x1771), (.string x1780.S), (.string x1780.Class), (.string x1780.Name), (.string x1780.Desc)]) 3 2 hS rfl rfl rfl rfl rfl ?_
        intro w hS
        replace hS : Sat w K1766 (flat [[(b1757, Cl [(.int .i64 x1749.Op), (.int .i32 x1749.N), (.int .i64 x1749.K), (.string x1749.S), (.string x1749.Class), (.string x1749.Name), (.string x1749.Desc)] 77)], [(b16, Cl [(.string p1.Name), (.slice a2 p1.Params.length c3), (.int .i64 p1.Ret.Kind), (.string p1.Ret.Class), (.bool p1.Static), (.bool p1.Abstract), (.int .i64 p1.Locals), (.slice a5 p1.Code.length c6), (.slice a8 p1.Handlers.length c9)] 67)], [(b18, Cl [(.string ByteArray.empty), (.slice none 0 0), (.int .i64 0), (.string ByteArray.empty), (.bool false), (.bool false), (.int .i64 0), (.slice none 0 0), (.slice none 0 0)] 67)], [(b1782, Cl (l1783 ++ (([(.int .i64 x1780.Op), (.int .i32 x1780.N), (.int .i64 x1771), (.string x1780.S), (.string x1780.Class), (.string x1780.Name), (.string x1780.Desc)] : List Value) ++ l1784)) 77)], [(b1773, Cl (l1774 ++ (([(.int .i64 x1771)] : List Value) ++ l1775)) 3)], L]) := hS
        have h1788 := hun1785 K1766 _ _ (KM.le.refl _) (show GoData.cells 77 _ (api_Instr.mk x1780.Op x1780.N x1771 x1780.S x1780.Class x1780.Name x1780.Desc) _ from rfl)
        refine s_nil ?_
        refine qbn ?_
        refine qn ?_
        have hq := Option.some.inj hf
        subst hq
        refine s_join hJ _ ⟨(v1691.set (v1692 : Int).toNat (api_Instr.mk x1780.Op x1780.N x1771 x1780.S x1780.Class x1780.Name x1780.Desc)), K1766, a1682, c1683, [(b1782, Cl (l1783 ++ (([(.int .i64 x1780.Op), (.int .i32 x1780.N), (.int .i64 x1771), (.string x1780.S), (.string x1780.Class), (.string x1780.Name), (.string x1780.Desc)] : List Value) ++ l1784)) 77)], a1687, c1688, [(b1773, Cl (l1774 ++ (([(.int .i64 x1771)] : List Value) ++ l1775)) 3)], rfl, rfl, hle, h1678, h1679, h1680, (by first | exact h1788 | (simp only [List.length_set]; exact h1788)), h1686, (by first | exact (hS.sel [1, 2, 3, 4, 5] rfl) | (simp only [List.length_set]; exact (hS.sel [1, 2, 3, 4, 5] rfl)))⟩ ⟨rfl, rfl, rfl, (by simp only [List.length_set]; rfl), rfl, (by simp only [List.length_set]; rfl), rfl, rfl, trivial⟩
      rintro _ w ⟨s1745, K1731, a1736, c1737, C1738, a1741, c1742, C1743, rfl, rfl, hle, h1732, h1733, h1734, h1735, h1740, hS⟩
      replace hf := LR.elim_brk hm1748
      refine s_reg ?_
      refine s_v rfl rfl rfl ?_
      refine s_v rfl rfl rfl ?_
      refine s_nil ?_
      refine qn ?_
      refine s_join hY _ ⟨s1745, w64 (v1692 + 1), K1731, a1736, c1737, C1738, a1741, c1742, C1743, hf, rfl, hle, h1732, h1733, h1734, h1735, h1740, hS⟩ ⟨rfl, rfl, rfl, rfl, rfl, rfl, rfl, rfl, trivial⟩
    · replace hf := bif_f hc hf
      refine s_exit ?_
      refine qxt ?_
      refine qxt ?_
      refine qxb ?_
      refine qn ?_
      have hq := Option.some.inj hf
      subst hq
      refine s_join hJ _ ⟨v1691, K1677, a1682, c1683, C1684, a1687, c1688, C1689, rfl, rfl, hle, h1678, h1679, h1680, h1681, h1686, hS⟩ ⟨rfl, rfl, rfl, rfl, rfl, trivial⟩
  rintro _ w ⟨s1441, K1427, a1432, c1433, C1434, a1437, c1438, C1439, rfl, rfl, hle, h1428, h1429, h1430, h1431, h1436, hS⟩
  replace hf := LR.elim_brk hm1444
  refine s_seq ?_
  refine s_reg ?_
  refine s_v rfl rfl rfl ?_
  refine s_ld 0 hS rfl rfl rfl rfl rfl ?_
  obtain ⟨x1789, hx1790, hf⟩ := Option.bind_eq_some_iff.1 hf
  refine s_call isf56 hS.nilG (slices_Clone_api_Handler_api_Handler_spec hx1790 h1430) rfl rfl rfl ?_
  rintro _ K1791 C1793 w hk1792 ⟨a1794, c1795, rfl, h1796⟩ hS
  replace h1428 := h1428.mono hk1792
  replace h1429 := h1429.mono hk1792
  replace h1430 := h1430.mono hk1792
  replace h1431 := h1431.mono hk1792
  replace h1436 := h1436.mono hk1792
  replace hle := hle.trans hk1792
  refine s_v rfl rfl rfl ?_
  refine s_st (cs' := [(.string p1.Name), (.slice a2 p1.Params.length c3), (.int .i64 p1.Ret.Kind), (.string p1.Ret.Class), (.bool p1.Static), (.bool p1.Abstract), (.int .i64 p1.Locals), (.slice a5 p1.Code.length c6), (.slice a1794 x1789.length c1795)]) 1 hS rfl rfl rfl rfl rfl ?_
  intro w hS
  replace hS : Sat w K1791 (flat [C1793, [(b16, Cl [(.string p1.Name), (.slice a2 p1.Params.length c3), (.int .i64 p1.Ret.Kind), (.string p1.Ret.Class), (.bool p1.Static), (.bool p1.Abstract), (.int .i64 p1.Locals), (.slice a5 p1.Code.length c6), (.slice a1794 x1789.length c1795)] 67)], [(b18, Cl [(.string ByteArray.empty), (.slice none 0 0), (.int .i64 0), (.string ByteArray.empty), (.bool false), (.bool false), (.int .i64 0), (.slice none 0 0), (.slice none 0 0)] 67)], C1434, C1439, L]) := hS
  refine s_nil ?_
  refine qn ?_
  obtain ⟨res2443, hst2444, hm2445⟩ := LR.then_some hf
  refine s_cut (fun τ w => ∃ (s2442 : (List api_Handler)) (K2429 : KM) (a2433 : Option Addr) (c2434 : Nat) (C2435 : Chunks) (a2438 : Option Addr) (c2439 : Nat) (C2440 : Chunks), res2443 = .brk s2442 ∧ τ = [(2, (.pointer (some ⟨b16, 0, none⟩))), (4, (.pointer (some ⟨b18, 0, none⟩))), (7, (.slice a2438 s1441.length c2439))] ∧ KM.le K K2429 ∧ SlK 63 K2429 a2 c3 p1.Params ∧ SlK 77 K2429 a5 c6 p1.Code ∧ OwnS 92 K2429 (.slice a2433 s2442.length c2434) s2442 C2435 ∧ OwnS 77 K2429 (.slice a2438 s1441.length c2439) s1441 C2440 ∧ Sat w K2429 (flat [[(b16, Cl [(.string p1.Name), (.slice a2 p1.Params.length c3), (.int .i64 p1.Ret.Kind), (.string p1.Ret.Class), (.bool p1.Static), (.bool p1.Abstract), (.int .i64 p1.Locals), (.slice a5 p1.Code.length c6), (.slice a2433 s2442.length c2434)] 67)], C2435, [(b18, Cl [(.string ByteArray.empty), (.slice none 0 0), (.int .i64 0), (.string ByteArray.empty), (.bool false), (.bool false), (.int .i64 0), (.slice none 0 0), (.slice none 0 0)] 67)], C2440, L])) (fun J hJ => ?_) ?_
  · replace hf := hst2444
    refine s_seq ?_
    refine s_reg ?_
    refine s_v rfl rfl rfl ?_
    refine s_ld 1 hS rfl rfl rfl rfl rfl ?_
    refine s_v rfl rfl rfl ?_
    refine s_v rfl rfl rfl ?_
    refine s_nil ?_
    refine qn ?_
    refine s_block ?_
    refine s_loopp (fun n τ w => ∃ (v2890 : (List api_Handler)) (v2891 : Int) (K2872 : KM) (a2876 : Option Addr) (c2877 : Nat) (C2878 : Chunks) (a2881 : Option Addr) (c2882 : Nat) (C2883 : Chunks) (a2886 : Option Addr) (c2887 : Nat) (C2888 : Chunks), rewrite_Method.l2 fu p1 s554 x1789 n v2890 v2891 = some res2443 ∧ τ = [(2, (.pointer (some ⟨b16, 0, none⟩))), (4, (.pointer (some ⟨b18, 0, none⟩))), (6, (.int .i64 (p1.Code.length : Int))), (7, (.slice a2881 s1441.length c2882)), (8, (.slice a2886 ((s554.2 ++ [(s554.1.length : Int)]).length) c2887)), (92, (.slice a2876 v2890.length c2877)), (93, (.int .i64 (x1789.length : Int))), (94, (.int .i64 v2891))] ∧ KM.le K K2872 ∧ SlK 63 K2872 a2 c3 p1.Params ∧ SlK 77 K2872 a5 c6 p1.Code ∧ OwnS 92 K2872 (.slice a2876 v2890.length c2877) v2890 C2878 ∧ OwnS 77 K2872 (.slice a2881 s1441.length c2882) s1441 C2883 ∧ OwnS 3 K2872 (.slice a2886 ((s554.2 ++ [(s554.1.length : Int)]).length) c2887) (s554.2 ++ [(s554.1.length : Int)]) C2888 ∧ Sat w K2872 (flat [[(b16, Cl [(.string p1.Name), (.slice a2 p1.Params.length c3), (.int .i64 p1.Ret.Kind), (.string p1.Ret.Class), (.bool p1.Static), (.bool p1.Abstract), (.int .i64 p1.Locals), (.slice a5 p1.Code.length c6), (.slice a2876 v2890.length c2877)] 67)], C2878, [(b18, Cl [(.string ByteArray.empty), (.slice none 0 0), (.int .i64 0), (.string ByteArray.empty), (.bool false), (.bool false), (.int .i64 0), (.slice none 0 0), (.slice none 0 0)] 67)], C2883, C2888, L])) _ ⟨x1789, 0, K1791, a1794, c1795, C1793, a1432, c1433, C1434, a1437, c1438, C1439, hf, rfl, hle, h1428, h1429, h1796, h1431, h1436, (hS.sel [1, 0, 2, 3, 4, 5] rfl)⟩ ⟨rfl, rfl, rfl, rfl, rfl, rfl, rfl, rfl, trivial⟩ ?_ ?_
    · rintro _ _ ⟨_, _, _, _, _, _, _, _, _, _, _, _, hf, _⟩
      exact absurd hf (by simp [rewrite_Method.l2])
    rintro n _ w Y hY ⟨v2890, v2891, K2872, a2876, c2877, C2878, a2881, c2882, C2883, a2886, c2887, C2888, hf, rfl, hle, h2873, h2874, h2875, h2880, h2885, hS⟩
    rw [rewrite_Method.l2] at hf
    refine s_seq ?_
    refine s_reg ?_
    refine s_v rfl rfl rfl ?_
    refine s_nil ?_
    refine qn ?_
    refine s_seq ?_
    refine s_if rfl (fun hc => ?_) (fun hc => ?_)
    · replace hf := bif_t hc hf
      refine s_skip ?_
      refine qn ?_
      refine s_seq ?_
      refine s_block ?_
      refine s_seq ?_
      refine s_reg ?_
      refine s_v rfl rfl rfl ?_
      obtain ⟨x2892, hx2893, hf⟩ := Option.bind_eq_some_iff.1 hf
      refine s_ixo 1 hS rfl h2875 hx2893 rfl rfl rfl rfl rfl rfl rfl ?_
      intro b2894 l2895 cs2898 l2896 hcs_ hC2899 hun2897
      obtain rfl := hcs_
      subst hC2899
      replace hS : Sat w K2872 (flat [[(b16, Cl [(.string p1.Name), (.slice a2 p1.Params.length c3), (.int .i64 p1.Ret.Kind), (.string p1.Ret.Class), (.bool p1.Static), (.bool p1.Abstract), (.int .i64 p1.Locals), (.slice a5 p1.Code.length c6), (.slice a2876 v2890.length c2877)] 67)], [(b2894, Cl (l2895 ++ (([(.int .i64 x2892.From), (.int .i64 x2892.To), (.int .i64 x2892.At), (.string x2892.Catch)] : List Value) ++ l2896)) 92)], [(b18, Cl [(.string ByteArray.empty), (.slice none 0 0), (.int .i64 0), (.string ByteArray.empty), (.bool false), (.bool false), (.int .i64 0), (.slice none 0 0), (.slice none 0 0)] 67)], C2883, C2888, L]) := hS
      refine s_ldm (v := (.agg #[(.int .i64 x2892.From), (.int .i64 x2892.To), (.int .i64 x2892.At), (.string x2892.Catch)])) 1 0 hS rfl rfl rfl rfl rfl ?_
      refine s_al hS rfl rfl rfl ?_
      intro b2900 w hS
      replace hS : Sat w K2872 (flat [[(b2900, Cl [(.int .i64 0), (.int .i64 0), (.int .i64 0), (.string ByteArray.empty)] 92)], [(b16, Cl [(.string p1.Name), (.slice a2 p1.Params.length c3), (.int .i64 p1.Ret.Kind), (.string p1.Ret.Class), (.bool p1.Static), (.bool p1.Abstract), (.int .i64 p1.Locals), (.slice a5 p1.Code.length c6), (.slice a2876 v2890.length c2877)] 67)], [(b2894, Cl (l2895 ++ (([(.int .i64 x2892.From), (.int .i64 x2892.To), (.int .i64 x2892.At), (.string x2892.Catch)] : List Value) ++ l2896)) 92)], [(b18, Cl [(.string ByteArray.empty), (.slice none 0 0), (.int .i64 0), (.string ByteArray.empty), (.bool false), (.bool false), (.int .i64 0), (.slice none 0 0), (.slice none 0 0)] 67)], C2883, C2888, L]) := hS
      refine s_v rfl rfl rfl ?_
      refine s_st (cs' := [(.int .i64 x2892.From), (.int .i64 x2892.To), (.int .i64 x2892.At), (.string x2892.Catch)]) 0 hS rfl rfl rfl rfl rfl ?_
      intro w hS
      replace hS : Sat w K2872 (flat [[(b2900, Cl [(.int .i64 x2892.From), (.int .i64 x2892.To), (.int .i64 x2892.At), (.string x2892.Catch)] 92)], [(b16, Cl [(.string p1.Name), (.slice a2 p1.Params.length c3), (.int .i64 p1.Ret.Kind), (.string p1.Ret.Class), (.bool p1.Static), (.bool p1.Abstract), (.int .i64 p1.Locals), (.slice a5 p1.Code.length c6), (.slice a2876 v2890.length c2877)] 67)], [(b2894, Cl (l2895 ++ (([(.int .i64 x2892.From), (.int .i64 x2892.To), (.int .i64 x2892.At), (.string x2892.Catch)] : List Value) ++ l2896)) 92)], [(b18, Cl [(.string ByteArray.empty), (.slice none 0 0), (.int .i64 0), (.string ByteArray.empty), (.bool false), (.bool false), (.int .i64 0), (.slice none 0 0), (.slice none 0 0)] 67)], C2883, C2888, L]) := hS
      refine s_nil ?_
      refine qn ?_
      refine s_seq ?_
      refine s_seq ?_
      refine s_reg ?_
      refine s_v rfl rfl rfl ?_
      refine s_ld 0 hS rfl rfl rfl rfl rfl ?_
      refine s_v rfl rfl rfl ?_
      refine s_v rfl rfl rfl ?_
      obtain ⟨x2902, hx2903, hf⟩ := Option.bind_eq_some_iff.1 hf
      refine s_call isf55 hS.nilG (rewrite_within_spec hx2903) rfl rfl rfl ?_
      rintro _ K2904 C2906 w hk2905 rfl hS
      replace hS := hS.drop1
      replace h2873 := h2873.mono hk2905
      replace h2874 := h2874.mono hk2905
      replace h2875 := h2875.mono hk2905
      replace h2880 := h2880.mono hk2905
      replace h2885 := h2885.mono hk2905
      replace hle := hle.trans hk2905
      refine s_v rfl rfl rfl ?_
      refine s_v rfl rfl rfl ?_
      obtain ⟨s2930, hst2931, hf⟩ := Option.bind_eq_some_iff.1 hf
      refine r_cut [_, _, _, _, _, _] (fun τ w => ∃ (K2912 : KM) (a2916 : Option Addr) (c2917 : Nat) (C2918 : Chunks) (a2921 : Option Addr) (c2922 : Nat) (C2923 : Chunks) (a2926 : Option Addr) (c2927 : Nat) (C2928 : Chunks), τ = [(2, (.pointer (some ⟨b16, 0, none⟩))), (4, (.pointer (some ⟨b18, 0, none⟩))), (6, (.int .i64 (p1.Code.length : Int))), (7, (.slice a2921 s1441.length c2922)), (8, (.slice a2926 ((s554.2 ++ [(s554.1.length : Int)]).length) c2927)), (13, (.int .i64 v2891)), (14, (.pointer (some ⟨b2900, 0, none⟩))), (92, (.slice a2916 v2890.length c2917)), (93, (.int .i64 (x1789.length : Int))), (94, (.int .i64 v2891)), (111, (.bool s2930))] ∧ KM.le K K2912 ∧ SlK 63 K2912 a2 c3 p1.Params ∧ SlK 77 K2912 a5 c6 p1.Code ∧ OwnS 92 K2912 (.slice a2916 v2890.length c2917) v2890 C2918 ∧ OwnS 77 K2912 (.slice a2921 s1441.length c2922) s1441 C2923 ∧ OwnS 3 K2912 (.slice a2926 ((s554.2 ++ [(s554.1.length : Int)]).length) c2927) (s554.2 ++ [(s554.1.length : Int)]) C2928 ∧ Sat w K2912 (flat [[(b16, Cl [(.string p1.Name), (.slice a2 p1.Params.length c3), (.int .i64 p1.Ret.Kind), (.string p1.Ret.Class), (.bool p1.Static), (.bool p1.Abstract), (.int .i64 p1.Locals), (.slice a5 p1.Code.length c6), (.slice a2916 v2890.length c2917)] 67)], C2918, [(b18, Cl [(.string ByteArray.empty), (.slice none 0 0), (.int .i64 0), (.string ByteArray.empty), (.bool false), (.bool false), (.int .i64 0), (.slice none 0 0), (.slice none 0 0)] 67)], C2923, C2928, [(b2900, Cl [(.int .i64 x2892.From), (.int .i64 x2892.To), (.int .i64 x2892.At), (.string x2892.Catch)] 92)], L])) rfl (fun J hJ => ?_) ?_
      · replace hf := hst2931
        cases hc : (!x2902)
        · replace hf := bif_f hc hf
          refine s_v rfl rfl rfl ?_
          refine s_ld 0 hS rfl rfl rfl rfl rfl ?_
          refine s_v rfl rfl rfl ?_
          obtain ⟨x2932, hx2933, hf⟩ := Option.bind_eq_some_iff.1 hf
          refine s_call isf55 hS.nilG (rewrite_within_spec hx2933) rfl rfl rfl ?_
          rintro _ K2934 C2936 w hk2935 rfl hS
          replace hS := hS.drop1
          replace h2873 := h2873.mono hk2935
          replace h2874 := h2874.mono hk2935
          replace h2875 := h2875.mono hk2935
          replace h2880 := h2880.mono hk2935
          replace h2885 := h2885.mono hk2935
          replace hle := hle.trans hk2935
          refine s_v rfl rfl rfl ?_
          refine s_v rfl rfl rfl ?_
          have hq := Option.some.inj hf
          subst hq
          refine r_join hJ _ ⟨K2934, a2876, c2877, [(b2894, Cl (l2895 ++ (([(.int .i64 x2892.From), (.int .i64 x2892.To), (.int .i64 x2892.At), (.string x2892.Catch)] : List Value) ++ l2896)) 92)], a2881, c2882, C2883, a2886, c2887, C2888, rfl, hle, h2873, h2874, h2875, h2880, h2885, (hS.sel [1, 2, 3, 4, 5, 0, 6] rfl)⟩ ⟨rfl, rfl, rfl, rfl, rfl, rfl, rfl, rfl, rfl, rfl, rfl, trivial⟩
        · replace hf := bif_t hc hf
          refine s_no rfl rfl ?_
          refine s_no rfl rfl ?_
          refine s_no rfl rfl ?_
          refine s_no rfl rfl ?_
          refine s_no rfl rfl ?_
          refine s_v rfl rfl rfl ?_
          have hq := Option.some.inj hf
          subst hq
          refine r_join hJ _ ⟨K2904, a2876, c2877, [(b2894, Cl (l2895 ++ (([(.int .i64 x2892.From), (.int .i64 x2892.To), (.int .i64 x2892.At), (.string x2892.Catch)] : List Value) ++ l2896)) 92)], a2881, c2882, C2883, a2886, c2887, C2888, rfl, hle, h2873, h2874, h2875, h2880, h2885, (hS.sel [1, 2, 3, 4, 5, 0, 6] rfl)⟩ ⟨rfl, rfl, rfl, rfl, rfl, rfl, rfl, rfl, rfl, rfl, rfl, trivial⟩
      rintro _ w ⟨K2912, a2916, c2917, C2918, a2921, c2922, C2923, a2926, c2927, C2928, rfl, hle, h2913, h2914, h2915, h2920, h2925, hS⟩
      refine s_v rfl rfl rfl ?_
      obtain ⟨s2960, hst2961, hf⟩ := Option.bind_eq_some_iff.1 hf
      refine r_cut [_, _, _, _, _, _, _] (fun τ w => ∃ (K2942 : KM) (a2946 : Option Addr) (c2947 : Nat) (C2948 : Chunks) (a2951 : Option Addr) (c2952 : Nat) (C2953 : Chunks) (a2956 : Option Addr) (c2957 : Nat) (C2958 : Chunks), τ = [(2, (.pointer (some ⟨b16, 0, none⟩))), (4, (.pointer (some ⟨b18, 0, none⟩))), (6, (.int .i64 (p1.Code.length : Int))), (7, (.slice a2951 s1441.length c2952)), (8, (.slice a2956 ((s554.2 ++ [(s554.1.length : Int)]).length) c2957)), (13, (.int .i64 v2891)), (14, (.pointer (some ⟨b2900, 0, none⟩))), (92, (.slice a2946 v2890.length c2947)), (93, (.int .i64 (x1789.length : Int))), (94, (.int .i64 v2891)), (119, (.bool s2960))] ∧ KM.le K K2942 ∧ SlK 63 K2942 a2 c3 p1.Params ∧ SlK 77 K2942 a5 c6 p1.Code ∧ OwnS 92 K2942 (.slice a2946 v2890.length c2947) v2890 C2948 ∧ OwnS 77 K2942 (.slice a2951 s1441.length c2952) s1441 C2953 ∧ OwnS 3 K2942 (.slice a2956 ((s554.2 ++ [(s554.1.length : Int)]).length) c2957) (s554.2 ++ [(s554.1.length : Int)]) C2958 ∧ Sat w K2942 (flat [[(b16, Cl [(.string p1.Name), (.slice a2 p1.Params.length c3), (.int .i64 p1.Ret.Kind), (.string p1.Ret.Class), (.bool p1.Static), (.bool p1.Abstract), (.int .i64 p1.Locals), (.slice a5 p1.Code.length c6), (.slice a2946 v2890.length c2947)] 67)], C2948, [(b18, Cl [(.string ByteArray.empty), (.slice none 0 0), (.int .i64 0), (.string ByteArray.empty), (.bool false), (.bool false), (.int .i64 0), (.slice none 0 0), (.slice none 0 0)] 67)], C2953, C2958, [(b2900, Cl [(.int .i64 x2892.From), (.int .i64 x2892.To), (.int .i64 x2892.At), (.string x2892.Catch)] 92)], L])) rfl (fun J hJ => ?_) ?_
      · replace hf := hst2961
        cases hc : s2930
        · replace hf := bif_f hc hf
          refine s_v rfl rfl rfl ?_
          refine s_ld 5 hS rfl rfl rfl rfl rfl ?_
          refine s_v rfl rfl rfl ?_
          refine s_v rfl rfl rfl ?_
          obtain ⟨x2962, hx2963, hf⟩ := Option.bind_eq_some_iff.1 hf
          refine s_call isf55 hS.nilG (rewrite_within_spec hx2963) rfl rfl rfl ?_
          rintro _ K2964 C2966 w hk2965 rfl hS
          replace hS := hS.drop1
          replace h2913 := h2913.mono hk2965
          replace h2914 := h2914.mono hk2965
          replace h2915 := h2915.mono hk2965
          replace h2920 := h2920.mono hk2965
          replace h2925 := h2925.mono hk2965
          replace hle := hle.trans hk2965
          refine s_v rfl rfl rfl ?_
          refine s_v rfl rfl rfl ?_
          have hq := Option.some.inj hf
          subst hq
          refine r_join hJ _ ⟨K2964, a2916, c2917, C2918, a2921, c2922, C2923, a2926, c2927, C2928, rfl, hle, h2913, h2914, h2915, h2920, h2925, hS⟩ ⟨rfl, rfl, rfl, rfl, rfl, rfl, rfl, rfl, rfl, rfl, rfl, trivial⟩
        · replace hf := bif_t hc hf
          refine s_no rfl rfl ?_
          refine s_no rfl rfl ?_
          refine s_no rfl rfl ?_
          refine s_no rfl rfl ?_
          refine s_no rfl rfl ?_
          refine s_no rfl rfl ?_
          refine s_v rfl rfl rfl ?_
          have hq := Option.some.inj hf
          subst hq
          refine r_join hJ _ ⟨K2912, a2916, c2917, C2918, a2921, c2922, C2923, a2926, c2927, C2928, rfl, hle, h2913, h2914, h2915, h2920, h2925, hS⟩ ⟨rfl, rfl, rfl, rfl, rfl, rfl, rfl, rfl, rfl, rfl, rfl, trivial⟩
      rintro _ w ⟨K2942, a2946, c2947, C2948, a2951, c2952, C2953, a2956, c2957, C2958, rfl, hle, h2943, h2944, h2945, h2950, h2955, hS⟩
      refine s_nil ?_
      refine qn ?_
      refine s_if rfl (fun hc => ?_) (fun hc => ?_)
      · replace hf := bif_t hc hf
        refine s_seq ?_
        refine s_reg ?_
        refine s_v (v := (.agg #[(.string ByteArray.empty), (.slice none 0 0), (.int .i64 0), (.string ByteArray.empty), (.bool false), (.bool false), (.int .i64 0), (.slice none 0 0), (.slice none 0 0)])) rfl rfl rfl ?_
        refine s_st (cs' := [(.string ByteArray.empty), (.slice none 0 0), (.int .i64 0), (.string ByteArray.empty), (.bool false), (.bool false), (.int .i64 0), (.slice none 0 0), (.slice none 0 0)]) 2 hS rfl rfl rfl rfl rfl ?_
        intro w hS
        replace hS : Sat w K2942 (flat [[(b16, Cl [(.string p1.Name), (.slice a2 p1.Params.length c3), (.int .i64 p1.Ret.Kind), (.string p1.Ret.Class), (.bool p1.Static), (.bool p1.Abstract), (.int .i64 p1.Locals), (.slice a5 p1.Code.length c6), (.slice a2946 v2890.length c2947)] 67)], C2948, [(b18, Cl [(.string ByteArray.empty), (.slice none 0 0), (.int .i64 0), (.string ByteArray.empty), (.bool false), (.bool false), (.int .i64 0), (.slice none 0 0), (.slice none 0 0)] 67)], C2953, C2958, [(b2900, Cl [(.int .i64 x2892.From), (.int .i64 x2892.To), (.int .i64 x2892.At), (.string x2892.Catch)] 92)], L]) := hS
        refine s_v rfl rfl rfl ?_
        refine s_nil ?_
        refine qn ?_
        refine s_rets ?_
        refine qrt ?_
        refine qrb ?_
        refine qrt ?_
        refine qrt ?_
        refine qrb ?_
        refine qrt ?_
        replace hf := LR.esc_some hf hm2445
        replace hS := hS.nilG
        replace hS := hS.nilG
        have hq := Option.some.inj hf
        subst hq
        refine s_ret2 rfl (rv_c (v := (.agg #[(.string ByteArray.empty), (.slice none 0 0), (.int .i64 0), (.string ByteArray.empty), (.bool false), (.bool false), (.int .i64 0), (.slice none 0 0), (.slice none 0 0)])) 4 hS rfl rfl rfl) (rv_t rfl) ?_
        exact ⟨K2942, _, hle, ⟨none, 0, none, 0, none, 0, [], [], rfl, SlK.nil, OwnS.nil, OwnS.nil, rfl⟩, Sat.shut [[], []] (hS.sel [1, 0, 8] rfl)⟩
      replace hf := bif_f hc hf
      refine s_skip ?_
      refine qn ?_
      refine d_start [0, 2, 3, 4, 5, 6] [(26, [1])] hS ?_
      intro w hS
      refine d_v 0 (fun _ _ _ _ _ h => h) [0, 2, 3, 4, 5, 6] hS rfl rfl rfl (by kernel_rfl) rfl rfl ?_
      refine d_ld 1 0 (fun _ _ _ _ _ h => h) [0, 2, 3, 4, 5, 6] hS rfl rfl rfl rfl rfl (by kernel_rfl) rfl rfl ?_
      refine d_v 2 (fun _ _ _ _ _ h => h) [0, 2, 3, 4, 5, 6] hS rfl rfl rfl (by kernel_rfl) rfl rfl ?_
      refine d_v 3 (fun _ _ _ _ _ h => h) [0, 2, 3, 4, 5, 6] hS rfl rfl rfl (by kernel_rfl) rfl rfl ?_
      refine d_ld 4 0 (fun _ _ _ _ _ h => h) [0, 2, 3, 4, 5, 6] hS rfl rfl rfl rfl rfl (by kernel_rfl) rfl rfl ?_
      refine d_v 5 (fun _ _ _ _ _ h => h) [0, 2, 3, 4, 5, 6] hS rfl rfl rfl (by kernel_rfl) rfl rfl ?_
      refine d_v 6 (fun _ _ _ _ _ h => h) [0, 2, 3, 4, 5, 6] hS rfl rfl rfl (by kernel_rfl) rfl rfl ?_
      refine d_ld 7 0 (fun _ _ _ _ _ h => h) [0, 2, 3, 4, 5, 6] hS rfl rfl rfl rfl rfl (by kernel_rfl) rfl rfl ?_
      refine d_v 8 (fun _ _ _ _ _ h => h) [0, 2, 3, 4, 5, 6] hS rfl rfl rfl (by kernel_rfl) rfl rfl ?_
      refine d_v 9 (fun _ _ _ _ _ h => h) [0, 2, 3, 4, 5, 6] hS rfl rfl rfl (by kernel_rfl) rfl rfl ?_
      refine d_v 10 (fun _ _ _ _ _ h => h) [0, 2, 3, 4, 5, 6] hS rfl rfl rfl (by kernel_rfl) rfl rfl ?_
      refine d_ld 11 4 (fun _ _ _ _ _ h => h) [0, 2, 3, 4, 5, 6] hS rfl rfl rfl rfl rfl (by kernel_rfl) rfl rfl ?_
      obtain ⟨x3024, hx3025, hf⟩ := Option.bind_eq_some_iff.1 hf
      refine d_ixo 12 4 (fun _ _ _ _ _ h => h) [0, 2, 3, 4, 5, 6] hS rfl h2955 hx3025 rfl rfl rfl rfl rfl rfl rfl (by kernel_rfl) rfl rfl ?_
      intro b3026 l3027 cs3030 l3028 hcs_ hC3031 hun3029
      obtain rfl := hcs_
      subst hC3031
      replace hS : Sat w K2942 (flat [[(b16, Cl [(.string p1.Name), (.slice a2 p1.Params.length c3), (.int .i64 p1.Ret.Kind), (.string p1.Ret.Class), (.bool p1.Static), (.bool p1.Abstract), (.int .i64 p1.Locals), (.slice a5 p1.Code.length c6), (.slice a2946 v2890.length c2947)] 67)], C2948, [(b18, Cl [(.string ByteArray.empty), (.slice none 0 0), (.int .i64 0), (.string ByteArray.empty), (.bool false), (.bool false), (.int .i64 0), (.slice none 0 0), (.slice none 0 0)] 67)], C2953, [(b3026, Cl (l3027 ++ (([(.int .i64 x3024)] : List Value) ++ l3028)) 3)], [(b2900, Cl [(.int .i64 x2892.From), (.int .i64 x2892.To), (.int .i64 x2892.At), (.string x2892.Catch)] 92)], L]) := hS
      refine d_ldm 13 3 0 (fun _ _ _ _ _ h => h) [0, 2, 3, 4, 5, 6] hS rfl rfl rfl rfl rfl (by kernel_rfl) rfl rfl ?_
      refine d_v 14 (fun _ _ _ _ _ h => h) [0, 2, 3, 4, 5, 6] hS rfl rfl rfl (by kernel_rfl) rfl rfl ?_
      refine d_v 15 (fun _ _ _ _ _ h => h) [0, 2, 3, 4, 5, 6] hS rfl rfl rfl (by kernel_rfl) rfl rfl ?_
      refine d_ld 16 4 (fun _ _ _ _ _ h => h) [0, 2, 3, 4, 5, 6] hS rfl rfl rfl rfl rfl (by kernel_rfl) rfl rfl ?_
      generalize hCg_ : ([(b3026, Cl (l3027 ++ (([(.int .i64 x3024)] : List Value) ++ l3028)) 3)] : Chunks) = C3032 at hS h2955 ⊢
      clear hCg_
      obtain ⟨x3033, hx3034, hf⟩ := Option.bind_eq_some_iff.1 hf
      refine d_ixo 17 4 (fun _ _ _ _ _ h => h) [0, 2, 3, 4, 5, 6] hS rfl h2955 hx3034 rfl rfl rfl rfl rfl rfl rfl (by kernel_rfl) rfl rfl ?_
      intro b3035 l3036 cs3039 l3037 hcs_ hC3040 hun3038
      obtain rfl := hcs_
      subst hC3040
      replace hS : Sat w K2942 (flat [[(b16, Cl [(.string p1.Name), (.slice a2 p1.Params.length c3), (.int .i64 p1.Ret.Kind), (.string p1.Ret.Class), (.bool p1.Static), (.bool p1.Abstract), (.int .i64 p1.Locals), (.slice a5 p1.Code.length c6), (.slice a2946 v2890.length c2947)] 67)], C2948, [(b18, Cl [(.string ByteArray.empty), (.slice none 0 0), (.int .i64 0), (.string ByteArray.empty), (.bool false), (.bool false), (.int .i64 0), (.slice none 0 0), (.slice none 0 0)] 67)], C2953, [(b3035, Cl (l3036 ++ (([(.int .i64 x3033)] : List Value) ++ l3037)) 3)], [(b2900, Cl [(.int .i64 x2892.From), (.int .i64 x2892.To), (.int .i64 x2892.At), (.string x2892.Catch)] 92)], L]) := hS
      refine d_ldm 18 3 0 (fun _ _ _ _ _ h => h) [0, 2, 3, 4, 5, 6] hS rfl rfl rfl rfl rfl (by kernel_rfl) rfl rfl ?_
      refine d_v 19 (fun _ _ _ _ _ h => h) [0, 2, 3, 4, 5, 6] hS rfl rfl rfl (by kernel_rfl) rfl rfl ?_
      refine d_v 20 (fun _ _ _ _ _ h => h) [0, 2, 3, 4, 5, 6] hS rfl rfl rfl (by kernel_rfl) rfl rfl ?_
      refine d_ld 21 4 (fun _ _ _ _ _ h => h) [0, 2, 3, 4, 5, 6] hS rfl rfl rfl rfl rfl (by kernel_rfl) rfl rfl ?_
      generalize hCg_ : ([(b3035, Cl (l3036 ++ (([(.int .i64 x3033)] : List Value) ++ l3037)) 3)] : Chunks) = C3041 at hS h2955 ⊢
      clear hCg_
      obtain ⟨x3042, hx3043, hf⟩ := Option.bind_eq_some_iff.1 hf
      refine d_ixo 22 4 (fun _ _ _ _ _ h => h) [0, 2, 3, 4, 5, 6] hS rfl h2955 hx3043 rfl rfl rfl rfl rfl rfl rfl (by kernel_rfl) rfl rfl ?_
      intro b3044 l3045 cs3048 l3046 hcs_ hC3049 hun3047
      obtain rfl := hcs_
      subst hC3049
      replace hS : Sat w K2942 (flat [[(b16, Cl [(.string p1.Name), (.slice a2 p1.Params.length c3), (.int .i64 p1.Ret.Kind), (.string p1.Ret.Class), (.bool p1.Static), (.bool p1.Abstract), (.int .i64 p1.Locals), (.slice a5 p1.Code.length c6), (.slice a2946 v2890.length c2947)] 67)], C2948, [(b18, Cl [(.string ByteArray.empty), (.slice none 0 0), (.int .i64 0), (.string ByteArray.empty), (.bool false), (.bool false), (.int .i64 0), (.slice none 0 0), (.slice none 0 0)] 67)], C2953, [(b3044, Cl (l3045 ++ (([(.int .i64 x3042)] : List Value) ++ l3046)) 3)], [(b2900, Cl [(.int .i64 x2892.From), (.int .i64 x2892.To), (.int .i64 x2892.At), (.string x2892.Catch)] 92)], L]) := hS
      refine d_ldm 23 3 0 (fun _ _ _ _ _ h => h) [0, 2, 3, 4, 5, 6] hS rfl rfl rfl rfl rfl (by kernel_rfl) rfl rfl ?_
      obtain ⟨x3050, hx3051, hf⟩ := Option.bind_eq_some_iff.1 hf
      refine d_ixo 24 1 (fun _ _ _ _ _ h => h) [0, 2, 3, 4, 5, 6] hS rfl h2945 hx3051 rfl rfl rfl rfl rfl rfl rfl (by kernel_rfl) rfl rfl ?_
      intro b3052 l3053 cs3056 l3054 hcs_ hC3057 hun3055
      obtain rfl := hcs_
      subst hC3057
      replace hS : Sat w K2942 (flat [[(b16, Cl [(.string p1.Name), (.slice a2 p1.Params.length c3), (.int .i64 p1.Ret.Kind), (.string p1.Ret.Class), (.bool p1.Static), (.bool p1.Abstract), (.int .i64 p1.Locals), (.slice a5 p1.Code.length c6), (.slice a2946 v2890.length c2947)] 67)], [(b3052, Cl (l3053 ++ (([(.int .i64 x3050.From), (.int .i64 x3050.To), (.int .i64 x3050.At), (.string x3050.Catch)] : List Value) ++ l3054)) 92)], [(b18, Cl [(.string ByteArray.empty), (.slice none 0 0), (.int .i64 0), (.string ByteArray.empty), (.bool false), (.bool false), (.int .i64 0), (.slice none 0 0), (.slice none 0 0)] 67)], C2953, [(b3044, Cl (l3045 ++ (([(.int .i64 x3042)] : List Value) ++ l3046)) 3)], [(b2900, Cl [(.int .i64 x2892.From), (.int .i64 x2892.To), (.int .i64 x2892.At), (.string x2892.Catch)] 92)], L]) := hS
      refine d_v 25 (fun _ _ _ _ _ h => h) [0, 2, 3, 4, 5, 6] hS rfl rfl rfl (by kernel_rfl) rfl rfl ?_
      refine d_op 26 rfl (by kernel_rfl) (by kernel_rfl) (fun X hX => ?_)
      have hlq := KM.le.refl K2942
      refine s_stm (cs' := [(.int .i64 x3024), (.int .i64 x3050.To), (.int .i64 x3050.At), (.string x3050.Catch)]) 1 0 hS rfl rfl rfl rfl rfl ?_
      intro w hS
      replace hS : Sat w K2942 (flat [[(b16, Cl [(.string p1.Name), (.slice a2 p1.Params.length c3), (.int .i64 p1.Ret.Kind), (.string p1.Ret.Class), (.bool p1.Static), (.bool p1.Abstract), (.int .i64 p1.Locals), (.slice a5 p1.Code.length c6), (.slice a2946 v2890.length c2947)] 67)], [(b3052, Cl (l3053 ++ (([(.int .i64 x3024), (.int .i64 x3050.To), (.int .i64 x3050.At), (.string x3050.Catch)] : List Value) ++ l3054)) 92)], [(b18, Cl [(.string ByteArray.empty), (.slice none 0 0), (.int .i64 0), (.string ByteArray.empty), (.bool false), (.bool false), (.int .i64 0), (.slice none 0 0), (.slice none 0 0)] 67)], C2953, [(b3044, Cl (l3045 ++ (([(.int .i64 x3042)] : List Value) ++ l3046)) 3)], [(b2900, Cl [(.int .i64 x2892.From), (.int .i64 x2892.To), (.int .i64 x2892.At), (.string x2892.Catch)] 92)], L]) := hS
      have h3058 := hun3055 K2942 _ _ (KM.le.refl _) (show GoData.cells 92 _ (api_Handler.mk x3024 x3050.To x3050.At x3050.Catch) _ from rfl)
      refine d_go [0, 2, 3, 4, 5, 6] [0, 2, 3, 4, 5, 6] [(29, [1])] [none] hX hS hlq rfl rfl ⟨rfl, trivial⟩ ?_
      generalize hCg_ : ([(b3052, Cl (l3053 ++ (([(.int .i64 x3024), (.int .i64 x3050.To), (.int .i64 x3050.At), (.string x3050.Catch)] : List Value) ++ l3054)) 92)] : Chunks) = C3059 at hS h3058 ⊢
      clear hCg_
      obtain ⟨x3060, hx3061, hf⟩ := Option.bind_eq_some_iff.1 hf
      refine d_ixo 27 1 (fun _ _ _ _ _ h => h) [0, 2, 3, 4, 5, 6] hS rfl h3058 hx3061 rfl rfl rfl rfl rfl rfl rfl (by kernel_rfl) rfl rfl ?_
      intro b3062 l3063 cs3066 l3064 hcs_ hC3067 hun3065
      obtain rfl := hcs_
      subst hC3067
      replace hS : Sat w K2942 (flat [[(b16, Cl [(.string p1.Name), (.slice a2 p1.Params.length c3), (.int .i64 p1.Ret.Kind), (.string p1.Ret.Class), (.bool p1.Static), (.bool p1.Abstract), (.int .i64 p1.Locals), (.slice a5 p1.Code.length c6), (.slice a2946 v2890.length c2947)] 67)], [(b3062, Cl (l3063 ++ (([(.int .i64 x3060.From), (.int .i64 x3060.To), (.int .i64 x3060.At), (.string x3060.Catch)] : List Value) ++ l3064)) 92)], [(b18, Cl [(.string ByteArray.empty), (.slice none 0 0), (.int .i64 0), (.string ByteArray.empty), (.bool false), (.bool false), (.int .i64 0), (.slice none 0 0), (.slice none 0 0)] 67)], C2953, [(b3044, Cl (l3045 ++ (([(.int .i64 x3042)] : List Value) ++ l3046)) 3)], [(b2900, Cl [(.int .i64 x2892.From), (.int .i64 x2892.To), (.int .i64 x2892.At), (.string x2892.Catch)] 92)], L]) := hS
      refine d_v 28 (fun _ _ _ _ _ h => h) [0, 2, 3, 4, 5, 6] hS rfl rfl rfl (by kernel_rfl) rfl rfl ?_
      refine d_op 29 rfl (by kernel_rfl) (by kernel_rfl) (fun X hX => ?_)
      have hlq := KM.le.refl K2942
      refine s_stm (cs' := [(.int .i64 x3060.From), (.int .i64 x3033), (.int .i64 x3060.At), (.string x3060.Catch)]) 1 1 hS rfl rfl rfl rfl rfl ?_
      intro w hS
      replace hS : Sat w K2942 (flat [[(b16, Cl [(.string p1.Name), (.slice a2 p1.Params.length c3), (.int .i64 p1.Ret.Kind), (.string p1.Ret.Class), (.bool p1.Static), (.bool p1.Abstract), (.int .i64 p1.Locals), (.slice a5 p1.Code.length c6), (.slice a2946 v2890.length c2947)] 67)], [(b3062, Cl (l3063 ++ (([(.int .i64 x3060.From), (.int .i64 x3033), (.int .i64 x3060.At), (.string x3060.Catch)] : List Value) ++ l3064)) 92)], [(b18, Cl [(.string ByteArray.empty), (.slice none 0 0), (.int .i64 0), (.string ByteArray.empty), (.bool false), (.bool false), (.int .i64 0), (.slice none 0 0), (.slice none 0 0)] 67)], C2953, [(b3044, Cl (l3045 ++ (([(.int .i64 x3042)] : List Value) ++ l3046)) 3)], [(b2900, Cl [(.int .i64 x2892.From), (.int .i64 x2892.To), (.int .i64 x2892.At), (.string x2892.Catch)] 92)], L]) := hS
      have h3068 := hun3065 K2942 _ _ (KM.le.refl _) (show GoData.cells 92 _ (api_Handler.mk x3060.From x3033 x3060.At x3060.Catch) _ from rfl)
      refine d_go [0, 2, 3, 4, 5, 6] [0, 2, 3, 4, 5, 6] [(32, [1])] [none] hX hS hlq rfl rfl ⟨rfl, trivial⟩ ?_
      generalize hCg_ : ([(b3062, Cl (l3063 ++ (([(.int .i64 x3060.From), (.int .i64 x3033), (.int .i64 x3060.At), (.string x3060.Catch)] : List Value) ++ l3064)) 92)] : Chunks) = C3069 at hS h3068 ⊢
      clear hCg_
      obtain ⟨x3070, hx3071, hf⟩ := Option.bind_eq_some_iff.1 hf
      refine d_ixo 30 1 (fun _ _ _ _ _ h => h) [0, 2, 3, 4, 5, 6] hS rfl h3068 hx3071 rfl rfl rfl rfl rfl rfl rfl (by kernel_rfl) rfl rfl ?_
      intro b3072 l3073 cs3076 l3074 hcs_ hC3077 hun3075
      obtain rfl := hcs_
      subst hC3077
      replace hS : Sat w K2942 (flat [[(b16, Cl [(.string p1.Name), (.slice a2 p1.Params.length c3), (.int .i64 p1.Ret.Kind), (.string p1.Ret.Class), (.bool p1.Static), (.bool p1.Abstract), (.int .i64 p1.Locals), (.slice a5 p1.Code.length c6), (.slice a2946 v2890.length c2947)] 67)], [(b3072, Cl (l3073 ++ (([(.int .i64 x3070.From), (.int .i64 x3070.To), (.int .i64 x3070.At), (.string x3070.Catch)] : List Value) ++ l3074)) 92)], [(b18, Cl [(.string ByteArray.empty), (.slice none 0 0), (.int .i64 0), (.string ByteArray.empty), (.bool false), (.bool false), (.int .i64 0), (.slice none 0 0), (.slice none 0 0)] 67)], C2953, [(b3044, Cl (l3045 ++ (([(.int .i64 x3042)] : List Value) ++ l3046)) 3)], [(b2900, Cl [(.int .i64 x2892.From), (.int .i64 x2892.To), (.int .i64 x2892.At), (.string x2892.Catch)] 92)], L]) := hS
      refine d_v 31 (fun _ _ _ _ _ h => h) [0, 2, 3, 4, 5, 6] hS rfl rfl rfl (by kernel_rfl) rfl rfl ?_
      refine d_op 32 rfl (by kernel_rfl) (by kernel_rfl) (fun X hX => ?_)
      have hlq := KM.le.refl K2942
      refine s_stm (cs' := [(.int .i64 x3070.From), (.int .i64 x3070.To), (.int .i64 x3042), (.string x3070.Catch)]) 1 2 hS rfl rfl rfl rfl rfl ?_
      intro w hS
      replace hS : Sat w K2942 (flat [[(b16, Cl [(.string p1.Name), (.slice a2 p1.Params.length c3), (.int .i64 p1.Ret.Kind), (.string p1.Ret.Class), (.bool p1.Static), (.bool p1.Abstract), (.int .i64 p1.Locals), (.slice a5 p1.Code.length c6), (.slice a2946 v2890.length c2947)] 67)], [(b3072, Cl (l3073 ++ (([(.int .i64 x3070.From), (.int .i64 x3070.To), (.int .i64 x3042), (.string x3070.Catch)] : List Value) ++ l3074)) 92)], [(b18, Cl [(.string ByteArray.empty), (.slice none 0 0), (.int .i64 0), (.string ByteArray.empty), (.bool false), (.bool false), (.int .i64 0), (.slice none 0 0), (.slice none 0 0)] 67)], C2953, [(b3044, Cl (l3045 ++ (([(.int .i64 x3042)] : List Value) ++ l3046)) 3)], [(b2900, Cl [(.int .i64 x2892.From), (.int .i64 x2892.To), (.int .i64 x2892.At), (.string x2892.Catch)] 92)], L]) := hS
      have h3078 := hun3075 K2942 _ _ (KM.le.refl _) (show GoData.cells 92 _ (api_Handler.mk x3070.From x3070.To x3042 x3070.Catch) _ from rfl)
      refine d_go [0, 2, 3, 4, 5, 6] [0, 1, 2, 3, 4, 5, 6] [] [none] hX hS hlq rfl rfl ⟨rfl, trivial⟩ ?_
      refine d_end (by kernel_rfl) ?_
      refine qbn ?_
      refine qn ?_
      refine s_reg ?_
      refine s_v rfl rfl rfl ?_
      refine s_v rfl rfl rfl ?_
      refine s_nil ?_
      refine qn ?_
      refine s_join hY _ ⟨(((v2890.set (v2891 : Int).toNat (api_Handler.mk x3024 x3050.To x3050.At x3050.Catch)).set (v2891 : Int).toNat (api_Handler.mk x3060.From x3033 x3060.At x3060.Catch)).set (v2891 : Int).toNat (api_Handler.mk x3070.From x3070.To x3042 x3070.Catch)), w64 (v2891 + 1), K2942, a2946, c2947, [(b3072, Cl (l3073 ++ (([(.int .i64 x3070.From), (.int .i64 x3070.To), (.int .i64 x3042), (.string x3070.Catch)] : List Value) ++ l3074)) 92)], a2951, c2952, C2953, a2956, c2957, [(b3044, Cl (l3045 ++ (([(.int .i64 x3042)] : List Value) ++ l3046)) 3)], hf, rfl, hle, h2943, h2944, (by first | exact h3078 | (simp only [List.length_set]; exact h3078)), h2950, h2955, (by first | exact (hS.sel [0, 1, 2, 3, 4, 6] rfl) | (simp only [List.length_set]; exact (hS.sel [0, 1, 2, 3, 4, 6] rfl)))⟩ ⟨rfl, rfl, rfl, rfl, rfl, (by simp only [List.length_set]; rfl), rfl, rfl, trivial⟩
    · replace hf := bif_f hc hf
      refine s_exit ?_
      refine qxt ?_
      refine qxt ?_
      refine qxb ?_
      refine qn ?_
      have hq := Option.some.inj hf
      subst hq
      refine s_join hJ _ ⟨v2890, K2872, a2876, c2877, C2878, a2881, c2882, C2883, rfl, rfl, hle, h2873, h2874, h2875, h2880, (hS.sel [0, 1, 2, 3, 5] rfl)⟩ ⟨rfl, rfl, rfl, trivial⟩
  rintro _ w ⟨s2442, K2429, a2433, c2434, C2435, a2438, c2439, C2440, rfl, rfl, hle, h2430, h2431, h2432, h2437, hS⟩
  replace hf := LR.elim_brk hm2445
  refine s_seq ?_
  refine s_seq ?_
  refine s_reg ?_
  refine s_v rfl rfl rfl ?_
  refine s_v rfl rfl rfl ?_
  refine s_st (cs' := [(.string p1.Name), (.slice a2 p1.Params.length c3), (.int .i64 p1.Ret.Kind), (.string p1.Ret.Class), (.bool p1.Static), (.bool p1.Abstract), (.int .i64 p1.Locals), (.slice a2438 s1441.length c2439), (.slice a2433 s2442.length c2434)]) 0 hS rfl rfl rfl rfl rfl ?_
  intro w hS
  replace hS : Sat w K2429 (flat [[(b16, Cl [(.string p1.Name), (.slice a2 p1.Params.length c3), (.int .i64 p1.Ret.Kind), (.string p1.Ret.Class), (.bool p1.Static), (.bool p1.Abstract), (.int .i64 p1.Locals), (.slice a2438 s1441.length c2439), (.slice a2433 s2442.length c2434)] 67)], C2435, [(b18, Cl [(.string ByteArray.empty), (.slice none 0 0), (.int .i64 0), (.string ByteArray.empty), (.bool false), (.bool false), (.int .i64 0), (.slice none 0 0), (.slice none 0 0)] 67)], C2440, L]) := hS
  refine s_nil ?_
  refine qn ?_
  refine s_seq ?_
  refine s_reg ?_
  refine s_v rfl rfl rfl ?_
  refine s_v rfl rfl rfl ?_
  refine s_v rfl rfl rfl ?_
  refine s_nil ?_
  refine qn ?_
  refine s_if rfl (fun hc => ?_) (fun hc => ?_)
  · replace hf := bif_t hc hf
    refine s_seq ?_
    refine s_reg ?_
    refine s_v (v := (.agg #[(.string ByteArray.empty), (.slice none 0 0), (.int .i64 0), (.string ByteArray.empty), (.bool false), (.bool false), (.int .i64 0), (.slice none 0 0), (.slice none 0 0)])) rfl rfl rfl ?_
    refine s_st (cs' := [(.string ByteArray.empty), (.slice none 0 0), (.int .i64 0), (.string ByteArray.empty), (.bool false), (.bool false), (.int .i64 0), (.slice none 0 0), (.slice none 0 0)]) 2 hS rfl rfl rfl rfl rfl ?_
    intro w hS
    replace hS : Sat w K2429 (flat [[(b16, Cl [(.string p1.Name), (.slice a2 p1.Params.length c3), (.int .i64 p1.Ret.Kind), (.string p1.Ret.Class), (.bool p1.Static), (.bool p1.Abstract), (.int .i64 p1.Locals), (.slice a2438 s1441.length c2439), (.slice a2433 s2442.length c2434)] 67)], C2435, [(b18, Cl [(.string ByteArray.empty), (.slice none 0 0), (.int .i64 0), (.string ByteArray.empty), (.bool false), (.bool false), (.int .i64 0), (.slice none 0 0), (.slice none 0 0)] 67)], C2440, L]) := hS
    refine s_v rfl rfl rfl ?_
    refine s_nil ?_
    refine qn ?_
    refine s_rets ?_
    refine qrt ?_
    replace hS := hS.nilG
    replace hS := hS.nilG
    have hq := Option.some.inj hf
    subst hq
    refine s_ret2 rfl (rv_c (v := (.agg #[(.string ByteArray.empty), (.slice none 0 0), (.int .i64 0), (.string ByteArray.empty), (.bool false), (.bool false), (.int .i64 0), (.slice none 0 0), (.slice none 0 0)])) 4 hS rfl rfl rfl) (rv_t rfl) ?_
    exact ⟨K2429, _, hle, ⟨none, 0, none, 0, none, 0, [], [], rfl, SlK.nil, OwnS.nil, OwnS.nil, rfl⟩, Sat.shut [[], []] (hS.sel [1, 0, 6] rfl)⟩
  replace hf := bif_f hc hf
  refine s_skip ?_
  refine qn ?_
  refine s_seq ?_
  refine s_reg ?_
  refine s_ld (v := (.agg #[(.string p1.Name), (.slice a2 p1.Params.length c3), (.int .i64 p1.Ret.Kind), (.string p1.Ret.Class), (.bool p1.Static), (.bool p1.Abstract), (.int .i64 p1.Locals), (.slice a2438 s1441.length c2439), (.slice a2433 s2442.length c2434)])) 0 hS rfl rfl rfl rfl rfl ?_
  refine s_st (cs' := [(.string p1.Name), (.slice a2 p1.Params.length c3), (.int .i64 p1.Ret.Kind), (.string p1.Ret.Class), (.bool p1.Static), (.bool p1.Abstract), (.int .i64 p1.Locals), (.slice a2438 s1441.length c2439), (.slice a2433 s2442.length c2434)]) 2 hS rfl rfl rfl rfl rfl ?_
  intro w hS
  replace hS : Sat w K2429 (flat [[(b16, Cl [(.string p1.Name), (.slice a2 p1.Params.length c3), (.int .i64 p1.Ret.Kind), (.string p1.Ret.Class), (.bool p1.Static), (.bool p1.Abstract), (.int .i64 p1.Locals), (.slice a2438 s1441.length c2439), (.slice a2433 s2442.length c2434)] 67)], C2435, [(b18, Cl [(.string p1.Name), (.slice a2 p1.Params.length c3), (.int .i64 p1.Ret.Kind), (.string p1.Ret.Class), (.bool p1.Static), (.bool p1.Abstract), (.int .i64 p1.Locals), (.slice a2438 s1441.length c2439), (.slice a2433 s2442.length c2434)] 67)], C2440, L]) := hS
  refine s_v rfl rfl rfl ?_
  refine s_nil ?_
  refine qn ?_
  refine s_rets ?_
  have hq := Option.some.inj hf
  subst hq
  refine s_ret2 rfl (rv_c (v := (.agg #[(.string p1.Name), (.slice a2 p1.Params.length c3), (.int .i64 p1.Ret.Kind), (.string p1.Ret.Class), (.bool p1.Static), (.bool p1.Abstract), (.int .i64 p1.Locals), (.slice a2438 s1441.length c2439), (.slice a2433 s2442.length c2434)])) 2 hS rfl rfl rfl) (rv_t rfl) ?_
  exact ⟨K2429, _, hle, ⟨a2, c3, a2438, c2439, a2433, c2434, C2440, C2435, rfl, h2430, h2437, h2432, rfl⟩, Sat.shut [C2440, C2435] (hS.sel [3, 1, 4] rfl)⟩
-- 29 bonsai/bonsailaw19.known
def bonsailaw19_known.fn (fu : Nat) : Option Bool := (rewrite_Method.fn fu (api_Method.mk ByteArray.empty [] (api_Type.mk 0 ByteArray.empty) false false 0 [(api_Instr.mk 3 0 0 ByteArray.empty ByteArray.empty ByteArray.empty ByteArray.empty), (api_Instr.mk 19 0 0 ByteArray.empty ByteArray.empty ByteArray.empty ByteArray.empty)] [(api_Handler.mk 0 1 1 (⟨#[70, 97, 117, 108, 116]⟩ : ByteArray))]) [[(api_Instr.mk 3 0 0 ByteArray.empty ByteArray.empty ByteArray.empty ByteArray.empty), (api_Instr.mk 6 0 0 ByteArray.empty ByteArray.empty ByteArray.empty ByteArray.empty), (api_Instr.mk 3 0 0 ByteArray.empty ByteArray.empty ByteArray.empty ByteArray.empty)]]).bind fun x31 => (rewrite_Method.fn fu (api_Method.mk ByteArray.empty [] (api_Type.mk 0 ByteArray.empty) false false 0 [(api_Instr.mk 3 0 0 ByteArray.empty ByteArray.empty ByteArray.empty ByteArray.empty), (api_Instr.mk 19 0 0 ByteArray.empty ByteArray.empty ByteArray.empty ByteArray.empty)] [(api_Handler.mk 0 1 1 (⟨#[70, 97, 117, 108, 116]⟩ : ByteArray))]) []).bind fun x65 => (idx [(api_Instr.mk 3 0 0 ByteArray.empty ByteArray.empty ByteArray.empty ByteArray.empty), (api_Instr.mk 19 0 0 ByteArray.empty ByteArray.empty ByteArray.empty ByteArray.empty)] 1).bind fun x90 => (rewrite_Method.fn fu (api_Method.mk ByteArray.empty [] (api_Type.mk 0 ByteArray.empty) false false 0 ([(api_Instr.mk 3 0 0 ByteArray.empty ByteArray.empty ByteArray.empty ByteArray.empty), (api_Instr.mk 19 0 0 ByteArray.empty ByteArray.empty ByteArray.empty ByteArray.empty)].set (1 : Int).toNat (api_Instr.mk x90.Op x90.N 2 x90.S x90.Class x90.Name x90.Desc)) [(api_Handler.mk 0 1 1 (⟨#[70, 97, 117, 108, 116]⟩ : ByteArray))]) []).bind fun x108 => (bif x31.2 then (some ((x31.1.Code.length : Int) == 4)) else (some false)).bind fun s153 => (bif s153 then ((idx x31.1.Code 3).bind fun x186 => some (x186.K == 0)) else (some false)).bind fun s184 => (bif s184 then (some ((x31.1.Handlers.length : Int) == 1)) else (some false)).bind fun s215 => (bif s215 then ((idx x31.1.Handlers 0).bind fun x248 => some (x248.To == 3)) else (some false)).bind fun s246 => (bif s246 then ((idx x31.1.Handlers 0).bind fun x287 => some (x287.At == 3)) else (some false)).bind fun s285 => (bif s285 then (some x65.2) else (some false)).bind fun s316 => (bif s316 then (some ((x65.1.Code.length : Int) == 2)) else (some false)).bind fun s329 => (bif s329 then (some (!x108.2)) else (some false)).bind fun s342 => (bif s342 then ((rewrite_Fits.fn x31.1).bind fun x372 => some x372) else (some false)).bind fun s362 => (bif s362 then ((rewrite_Fits.fn (api_Method.mk ByteArray.empty [] (api_Type.mk 0 ByteArray.empty) false false 201 [] [])).bind fun x389 => some (!x389)) else (some false)).bind fun s387 => some s387
theorem bonsailaw19_known_spec {K : KM} {fu : Nat} {r : Bool} (hf : bonsailaw19_known.fn fu = some r) : Sp Try.prog 29 [] K [] (fun K' C v => v = (.bool r)) := by
  unfold bonsailaw19_known.fn at hf
  refine spec_enter isf29 rfl ?_
  intro w L hS
  replace hS : Sat w K (flat [L]) := hS
  have hle := KM.le.refl K
  unfold bod29 Try.f29
  dsimp only [Option.getD_some, argSlots]
  refine s_seq ?_
  refine s_reg ?_
  refine s_v rfl rfl rfl ?_
  refine s_nil ?_
  refine qn ?_
  refine s_seq ?_
  refine s_reg ?_
  refine s_v (v := (.agg #[(.int .i64 3), (.int .i32 0), (.int .i64 0), (.string ByteArray.empty), (.string ByteArray.empty), (.string ByteArray.empty), (.string ByteArray.empty)])) rfl rfl rfl ?_
  refine s_v (v := (.agg #[(.int .i64 19), (.int .i32 0), (.int .i64 0), (.string ByteArray.empty), (.string ByteArray.empty), (.string ByteArray.empty), (.string ByteArray.empty)])) rfl rfl rfl ?_
  refine s_bw (cs := [(.int .i64 3), (.int .i32 0), (.int .i64 0), (.string ByteArray.empty), (.string ByteArray.empty), (.string ByteArray.empty), (.string ByteArray.empty), (.int .i64 19), (.int .i32 0), (.int .i64 0), (.string ByteArray.empty), (.string ByteArray.empty), (.string ByteArray.empty), (.string ByteArray.empty)]) hS rfl rfl rfl rfl rfl rfl rfl rfl rfl ?_
  intro b2 w hS
  refine s_v (v := (.agg #[(.int .i64 0), (.int .i64 1), (.int .i64 1), (.string (⟨#[70, 97, 117, 108, 116]⟩ : ByteArray))])) rfl rfl rfl ?_
  refine s_bw (cs := [(.int .i64 0), (.int .i64 1), (.int .i64 1), (.string (⟨#[70, 97, 117, 108, 116]⟩ : ByteArray))]) hS rfl rfl rfl rfl rfl rfl rfl rfl rfl ?_
  intro b4 w hS
  refine s_v (v := (.agg #[(.string ByteArray.empty), (.slice none 0 0), (.int .i64 0), (.string ByteArray.empty), (.bool false), (.bool false), (.int .i64 0), (.slice (some ⟨b2, 0, none⟩) 2 2), (.slice (some ⟨b4, 0, none⟩) 1 1)])) rfl rfl rfl ?_
  refine s_al hS rfl rfl rfl ?_
  intro b6 w hS
  replace hS : Sat w K (flat [[(b6, Cl [(.string ByteArray.empty), (.slice none 0 0), (.int .i64 0), (.string ByteArray.empty), (.bool false), (.bool false), (.int .i64 0), (.slice none 0 0), (.slice none 0 0)] 67)], [(b4, Cl [(.int .i64 0), (.int .i64 1), (.int .i64 1), (.string (⟨#[70, 97, 117, 108, 116]⟩ : ByteArray))] 92)], [(b2, Cl [(.int .i64 3), (.int .i32 0), (.int .i64 0), (.string ByteArray.empty), (.string ByteArray.empty), (.string ByteArray.empty), (.string ByteArray.empty), (.int .i64 19), (.int .i32 0), (.int .i64 0), (.string ByteArray.empty), (.string ByteArray.empty), (.string ByteArray.empty), (.string ByteArray.empty)] 77)], L]) := hS
  refine s_st (cs' := [(.string ByteArray.empty), (.slice none 0 0), (.int .i64 0), (.string ByteArray.empty), (.bool false), (.bool false), (.int .i64 0), (.slice (some ⟨b2, 0, none⟩) 2 2), (.slice (some ⟨b4, 0, none⟩) 1 1)]) 0 hS rfl rfl rfl rfl rfl ?_
  intro w hS
  replace hS : Sat w K (flat [[(b6, Cl [(.string ByteArray.empty), (.slice none 0 0), (.int .i64 0), (.string ByteArray.empty), (.bool false), (.bool false), (.int .i64 0), (.slice (some ⟨b2, 0, none⟩) 2 2), (.slice (some ⟨b4, 0, none⟩) 1 1)] 67)], [(b4, Cl [(.int .i64 0), (.int .i64 1), (.int .i64 1), (.string (⟨#[70, 97, 117, 108, 116]⟩ : ByteArray))] 92)], [(b2, Cl [(.int .i64 3), (.int .i32 0), (.int .i64 0), (.string ByteArray.empty), (.string ByteArray.empty), (.string ByteArray.empty), (.string ByteArray.empty), (.int .i64 19), (.int .i32 0), (.int .i64 0), (.string ByteArray.empty), (.string ByteArray.empty), (.string ByteArray.empty), (.string ByteArray.empty)] 77)], L]) := hS
  refine s_nil ?_
  refine qn ?_
  refine s_seq ?_
  refine s_reg ?_
  refine s_ld (v := (.agg #[(.string ByteArray.empty), (.slice none 0 0), (.int .i64 0), (.string ByteArray.empty), (.bool false), (.bool false), (.int .i64 0), (.slice (some ⟨b2, 0, none⟩) 2 2), (.slice (some ⟨b4, 0, none⟩) 1 1)])) 0 hS rfl rfl rfl rfl rfl ?_
  refine s_v (v := (.agg #[(.int .i64 3), (.int .i32 0), (.int .i64 0), (.string ByteArray.empty), (.string ByteArray.empty), (.string ByteArray.empty), (.string ByteArray.empty)])) rfl rfl rfl ?_
  refine s_v (v := (.agg #[(.int .i64 6), (.int .i32 0), (.int .i64 0), (.string ByteArray.empty), (.string ByteArray.empty), (.string ByteArray.empty), (.string ByteArray.empty)])) rfl rfl rfl ?_
  refine s_v (v := (.agg #[(.int .i64 3), (.int .i32 0), (.int .i64 0), (.string ByteArray.empty), (.string ByteArray.empty), (.string ByteArray.empty), (.string ByteArray.empty)])) rfl rfl rfl ?_
  refine s_bw (cs := [(.int .i64 3), (.int .i32 0), (.int .i64 0), (.string ByteArray.empty), (.string ByteArray.empty), (.string ByteArray.empty), (.string ByteArray.empty), (.int .i64 6), (.int .i32 0), (.int .i64 0), (.string ByteArray.empty), (.string ByteArray.empty), (.string ByteArray.empty), (.string ByteArray.empty), (.int .i64 3), (.int .i32 0), (.int .i64 0), (.string ByteArray.empty), (.string ByteArray.empty), (.string ByteArray.empty), (.string ByteArray.empty)]) hS rfl rfl rfl rfl rfl rfl rfl rfl rfl ?_
  intro b8 w hS
  refine s_bw (cs := [(.slice (some ⟨b8, 0, none⟩) 3 3)]) hS rfl rfl rfl rfl rfl rfl rfl rfl rfl ?_
  intro b10 w hS
  have h12 : OwnS 77 K (.slice (some ⟨b2, 0, none⟩) 2 2) [(api_Instr.mk 3 0 0 ByteArray.empty ByteArray.empty ByteArray.empty ByteArray.empty), (api_Instr.mk 19 0 0 ByteArray.empty ByteArray.empty ByteArray.empty ByteArray.empty)] [(b2, Cl [(.int .i64 3), (.int .i32 0), (.int .i64 0), (.string ByteArray.empty), (.string ByteArray.empty), (.string ByteArray.empty), (.string ByteArray.empty), (.int .i64 19), (.int .i32 0), (.int .i64 0), (.string ByteArray.empty), (.string ByteArray.empty), (.string ByteArray.empty), (.string ByteArray.empty)] 77)] := OwnS.lit ⟨[(.int .i64 3), (.int .i32 0), (.int .i64 0), (.string ByteArray.empty), (.string ByteArray.empty), (.string ByteArray.empty), (.string ByteArray.empty)], _, rfl, rfl, ⟨[(.int .i64 19), (.int .i32 0), (.int .i64 0), (.string ByteArray.empty), (.string ByteArray.empty), (.string ByteArray.empty), (.string ByteArray.empty)], _, rfl, rfl, rfl⟩⟩ rfl rfl
  have h13 : OwnS 92 K (.slice (some ⟨b4, 0, none⟩) 1 1) [(api_Handler.mk 0 1 1 (⟨#[70, 97, 117, 108, 116]⟩ : ByteArray))] [(b4, Cl [(.int .i64 0), (.int .i64 1), (.int .i64 1), (.string (⟨#[70, 97, 117, 108, 116]⟩ : ByteArray))] 92)] := OwnS.lit ⟨[(.int .i64 0), (.int .i64 1), (.int .i64 1), (.string (⟨#[70, 97, 117, 108, 116]⟩ : ByteArray))], _, rfl, rfl, rfl⟩ rfl rfl
  have h14 : OwnS 77 K (.slice (some ⟨b8, 0, none⟩) 3 3) [(api_Instr.mk 3 0 0 ByteArray.empty ByteArray.empty ByteArray.empty ByteArray.empty), (api_Instr.mk 6 0 0 ByteArray.empty ByteArray.empty ByteArray.empty ByteArray.empty), (api_Instr.mk 3 0 0 ByteArray.empty ByteArray.empty ByteArray.empty ByteArray.empty)] [(b8, Cl [(.int .i64 3), (.int .i32 0), (.int .i64 0), (.string ByteArray.empty), (.string ByteArray.empty), (.string ByteArray.empty), (.string ByteArray.empty), (.int .i64 6), (.int .i32 0), (.int .i64 0), (.string ByteArray.empty), (.string ByteArray.empty), (.string ByteArray.empty), (.string ByteArray.empty), (.int .i64 3), (.int .i32 0), (.int .i64 0), (.string ByteArray.empty), (.string ByteArray.empty), (.string ByteArray.empty), (.string ByteArray.empty)] 77)] := OwnS.lit ⟨[(.int .i64 3), (.int .i32 0), (.int .i64 0), (.string ByteArray.empty), (.string ByteArray.empty), (.string ByteArray.empty), (.string ByteArray.empty)], _, rfl, rfl, ⟨[(.int .i64 6), (.int .i32 0), (.int .i64 0), (.string ByteArray.empty), (.string ByteArray.empty), (.string ByteArray.empty), (.string ByteArray.empty)], _, rfl, rfl, ⟨[(.int .i64 3), (.int .i32 0), (.int .i64 0), (.string ByteArray.empty), (.string ByteArray.empty), (.string ByteArray.empty), (.string ByteArray.empty)], _, rfl, rfl, rfl⟩⟩⟩ rfl rfl
  obtain ⟨K15, hk16, h17, hS⟩ := h14.freeze (hS.sel [1, 0, 2, 3, 4, 5] rfl)
  replace h12 := h12.mono hk16
  replace h13 := h13.mono hk16
  replace hle := hle.trans hk16
  have h18 : OwnS 64 K15 (.slice (some ⟨b10, 0, none⟩) 1 1) [[(api_Instr.mk 3 0 0 ByteArray.empty ByteArray.empty ByteArray.empty ByteArray.empty), (api_Instr.mk 6 0 0 ByteArray.empty ByteArray.empty ByteArray.empty ByteArray.empty), (api_Instr.mk 3 0 0 ByteArray.empty ByteArray.empty ByteArray.empty ByteArray.empty)]] [(b10, Cl [(.slice (some ⟨b8, 0, none⟩) 3 3)] 64)] := OwnS.lit ⟨[(.slice (some ⟨b8, 0, none⟩) 3 3)], _, rfl, ⟨(some ⟨b8, 0, none⟩), 3, rfl, h17⟩, rfl⟩ rfl rfl
  obtain ⟨K19, hk20, h21, hS, hth22⟩ := OwnS.lend h12 (hS.sel [3, 0, 1, 2, 4] rfl)
  obtain ⟨K23, hk24, h25, hS, hth26⟩ := OwnS.lend (h13.mono hk20) (hS.sel [2, 0, 1, 3] rfl)
  obtain ⟨K27, hk28, h29, hS, hth30⟩ := OwnS.lend (h18.mono (hk20.trans hk24)) (hS.sel [0, 1, 2] rfl)
  obtain ⟨x31, hx32, hf⟩ := Option.bind_eq_some_iff.1 hf
  refine s_call isf33 hS.nilG (rewrite_Method_spec hx32 SlK.nil (h21.mono (hk24.trans hk28)) (h25.mono hk28) h29) rfl rfl rfl ?_
  rintro _ K33 _ w hk34 ⟨a36, c37, a39, c40, a42, c43, C45, C46, rfl, h38, h41, h44, rfl⟩ hS
  replace hS := hS.open
  replace hS : Sat w K33 (flat [C45, C46, [(b6, Cl [(.string ByteArray.empty), (.slice none 0 0), (.int .i64 0), (.string ByteArray.empty), (.bool false), (.bool false), (.int .i64 0), (.slice (some ⟨b2, 0, none⟩) 2 2), (.slice (some ⟨b4, 0, none⟩) 1 1)] 67)], L]) := hS
  obtain ⟨K49, hk50, hS⟩ := hth30 _ _ _ hk34 hS
  obtain ⟨K51, hk52, hS⟩ := hth26 _ _ _ hk50 hS
  obtain ⟨K53, hk54, hS⟩ := hth22 _ _ _ hk52 hS
  replace hS : Sat w K53 (flat [[(b2, Cl [(.int .i64 3), (.int .i32 0), (.int .i64 0), (.string ByteArray.empty), (.string ByteArray.empty), (.string ByteArray.empty), (.string ByteArray.empty), (.int .i64 19), (.int .i32 0), (.int .i64 0), (.string ByteArray.empty), (.string ByteArray.empty), (.string ByteArray.empty), (.string ByteArray.empty)] 77)], [(b4, Cl [(.int .i64 0), (.int .i64 1), (.int .i64 1), (.string (⟨#[70, 97, 117, 108, 116]⟩ : ByteArray))] 92)], [(b10, Cl [(.slice (some ⟨b8, 0, none⟩) 3 3)] 64)], C45, C46, [(b6, Cl [(.string ByteArray.empty), (.slice none 0 0), (.int .i64 0), (.string ByteArray.empty), (.bool false), (.bool false), (.int .i64 0), (.slice (some ⟨b2, 0, none⟩) 2 2), (.slice (some ⟨b4, 0, none⟩) 1 1)] 67)], L]) := hS
  replace h41 := OwnS.any (K' := K53) h41
  replace h44 := OwnS.any (K' := K53) h44
  replace h12 := h12.mono hk54
  replace h13 := h13.mono hk54
  replace h18 := h18.mono hk54
  replace h17 := h17.mono hk54
  replace hle := hle.trans hk54
  refine s_v rfl rfl rfl ?_
  refine s_v rfl rfl rfl ?_
  refine s_v rfl rfl rfl ?_
  refine s_al hS rfl rfl rfl ?_
  intro b55 w hS
  replace hS : Sat w K53 (flat [[(b55, Cl [(.string ByteArray.empty), (.slice none 0 0), (.int .i64 0), (.string ByteArray.empty), (.bool false), (.bool false), (.int .i64 0), (.slice none 0 0), (.slice none 0 0)] 67)], [(b2, Cl [(.int .i64 3), (.int .i32 0), (.int .i64 0), (.string ByteArray.empty), (.string ByteArray.empty), (.string ByteArray.empty), (.string ByteArray.empty), (.int .i64 19), (.int .i32 0), (.int .i64 0), (.string ByteArray.empty), (.string ByteArray.empty), (.string ByteArray.empty), (.string ByteArray.empty)] 77)], [(b4, Cl [(.int .i64 0), (.int .i64 1), (.int .i64 1), (.string (⟨#[70, 97, 117, 108, 116]⟩ : ByteArray))] 92)], [(b10, Cl [(.slice (some ⟨b8, 0, none⟩) 3 3)] 64)], C45, C46, [(b6, Cl [(.string ByteArray.empty), (.slice none 0 0), (.int .i64 0), (.string ByteArray.empty), (.bool false), (.bool false), (.int .i64 0), (.slice (some ⟨b2, 0, none⟩) 2 2), (.slice (some ⟨b4, 0, none⟩) 1 1)] 67)], L]) := hS
  refine s_st (cs' := [(.string x31.1.Name), (.slice a36 x31.1.Params.length c37), (.int .i64 x31.1.Ret.Kind), (.string x31.1.Ret.Class), (.bool x31.1.Static), (.bool x31.1.Abstract), (.int .i64 x31.1.Locals), (.slice a39 x31.1.Code.length c40), (.slice a42 x31.1.Handlers.length c43)]) 0 hS rfl rfl rfl rfl rfl ?_
  intro w hS
  replace hS : Sat w K53 (flat [[(b55, Cl [(.string x31.1.Name), (.slice a36 x31.1.Params.length c37), (.int .i64 x31.1.Ret.Kind), (.string x31.1.Ret.Class), (.bool x31.1.Static), (.bool x31.1.Abstract), (.int .i64 x31.1.Locals), (.slice a39 x31.1.Code.length c40), (.slice a42 x31.1.Handlers.length c43)] 67)], [(b2, Cl [(.int .i64 3), (.int .i32 0), (.int .i64 0), (.string ByteArray.empty), (.string ByteArray.empty), (.string ByteArray.empty), (.string ByteArray.empty), (.int .i64 19), (.int .i32 0), (.int .i64 0), (.string ByteArray.empty), (.string ByteArray.empty), (.string ByteArray.empty), (.string ByteArray.empty)] 77)], [(b4, Cl [(.int .i64 0), (.int .i64 1), (.int .i64 1), (.string (⟨#[70, 97, 117, 108, 116]⟩ : ByteArray))] 92)], [(b10, Cl [(.slice (some ⟨b8, 0, none⟩) 3 3)] 64)], C45, C46, [(b6, Cl [(.string ByteArray.empty), (.slice none 0 0), (.int .i64 0), (.string ByteArray.empty), (.bool false), (.bool false), (.int .i64 0), (.slice (some ⟨b2, 0, none⟩) 2 2), (.slice (some ⟨b4, 0, none⟩) 1 1)] 67)], L]) := hS
  refine s_v rfl rfl rfl ?_
  refine s_nil ?_
  refine qn ?_
  refine s_seq ?_
  refine s_reg ?_
  refine s_ld (v := (.agg #[(.string ByteArray.empty), (.slice none 0 0), (.int .i64 0), (.string ByteArray.empty), (.bool false), (.bool false), (.int .i64 0), (.slice (some ⟨b2, 0, none⟩) 2 2), (.slice (some ⟨b4, 0, none⟩) 1 1)])) 6 hS rfl rfl rfl rfl rfl ?_
  obtain ⟨K57, hk58, h59, hS, hth60⟩ := OwnS.lend h12 (hS.sel [1, 0, 2, 3, 4, 5, 6, 7] rfl)
  obtain ⟨K61, hk62, h63, hS, hth64⟩ := OwnS.lend (h13.mono hk58) (hS.sel [1, 0, 2, 3, 4, 5, 6] rfl)
  obtain ⟨x65, hx66, hf⟩ := Option.bind_eq_some_iff.1 hf
  refine s_call isf33 hS.nilG (rewrite_Method_spec hx66 SlK.nil (h59.mono hk62) h63 SlK.nil) rfl rfl rfl ?_
  rintro _ K67 _ w hk68 ⟨a70, c71, a73, c74, a76, c77, C79, C80, rfl, h72, h75, h78, rfl⟩ hS
  replace hS := hS.open
  replace hS : Sat w K67 (flat [C79, C80, [(b55, Cl [(.string x31.1.Name), (.slice a36 x31.1.Params.length c37), (.int .i64 x31.1.Ret.Kind), (.string x31.1.Ret.Class), (.bool x31.1.Static), (.bool x31.1.Abstract), (.int .i64 x31.1.Locals), (.slice a39 x31.1.Code.length c40), (.slice a42 x31.1.Handlers.length c43)] 67)], [(b10, Cl [(.slice (some ⟨b8, 0, none⟩) 3 3)] 64)], C45, C46, [(b6, Cl [(.string ByteArray.empty), (.slice none 0 0), (.int .i64 0), (.string ByteArray.empty), (.bool false), (.bool false), (.int .i64 0), (.slice (some ⟨b2, 0, none⟩) 2 2), (.slice (some ⟨b4, 0, none⟩) 1 1)] 67)], L]) := hS
  obtain ⟨K83, hk84, hS⟩ := hth64 _ _ _ hk68 hS
  obtain ⟨K85, hk86, hS⟩ := hth60 _ _ _ hk84 hS
  replace hS : Sat w K85 (flat [[(b2, Cl [(.int .i64 3), (.int .i32 0), (.int .i64 0), (.string ByteArray.empty), (.string ByteArray.empty), (.string ByteArray.empty), (.string ByteArray.empty), (.int .i64 19), (.int .i32 0), (.int .i64 0), (.string ByteArray.empty), (.string ByteArray.empty), (.string ByteArray.empty), (.string ByteArray.empty)] 77)], [(b4, Cl [(.int .i64 0), (.int .i64 1), (.int .i64 1), (.string (⟨#[70, 97, 117, 108, 116]⟩ : ByteArray))] 92)], C79, C80, [(b55, Cl [(.string x31.1.Name), (.slice a36 x31.1.Params.length c37), (.int .i64 x31.1.Ret.Kind), (.string x31.1.Ret.Class), (.bool x31.1.Static), (.bool x31.1.Abstract), (.int .i64 x31.1.Locals), (.slice a39 x31.1.Code.length c40), (.slice a42 x31.1.Handlers.length c43)] 67)], [(b10, Cl [(.slice (some ⟨b8, 0, none⟩) 3 3)] 64)], C45, C46, [(b6, Cl [(.string ByteArray.empty), (.slice none 0 0), (.int .i64 0), (.string ByteArray.empty), (.bool false), (.bool false), (.int .i64 0), (.slice (some ⟨b2, 0, none⟩) 2 2), (.slice (some ⟨b4, 0, none⟩) 1 1)] 67)], L]) := hS
  replace h75 := OwnS.any (K' := K85) h75
  replace h78 := OwnS.any (K' := K85) h78
  replace h12 := h12.mono hk86
  replace h13 := h13.mono hk86
  replace h41 := h41.mono hk86
  replace h44 := h44.mono hk86
  replace hle := hle.trans hk86
  refine s_v rfl rfl rfl ?_
  refine s_v rfl rfl rfl ?_
  refine s_v rfl rfl rfl ?_
  refine s_al hS rfl rfl rfl ?_
  intro b87 w hS
  replace hS : Sat w K85 (flat [[(b87, Cl [(.string ByteArray.empty), (.slice none 0 0), (.int .i64 0), (.string ByteArray.empty), (.bool false), (.bool false), (.int .i64 0), (.slice none 0 0), (.slice none 0 0)] 67)], [(b2, Cl [(.int .i64 3), (.int .i32 0), (.int .i64 0), (.string ByteArray.empty), (.string ByteArray.empty), (.string ByteArray.empty), (.string ByteArray.empty), (.int .i64 19), (.int .i32 0), (.int .i64 0), (.string ByteArray.empty), (.string ByteArray.empty), (.string ByteArray.empty), (.string ByteArray.empty)] 77)], [(b4, Cl [(.int .i64 0), (.int .i64 1), (.int .i64 1), (.string (⟨#[70, 97, 117, 108, 116]⟩ : ByteArray))] 92)], C79, C80, [(b55, Cl [(.string x31.1.Name), (.slice a36 x31.1.Params.length c37), (.int .i64 x31.1.Ret.Kind), (.string x31.1.Ret.Class), (.bool x31.1.Static), (.bool x31.1.Abstract), (.int .i64 x31.1.Locals), (.slice a39 x31.1.Code.length c40), (.slice a42 x31.1.Handlers.length c43)] 67)], [(b10, Cl [(.slice (some ⟨b8, 0, none⟩) 3 3)] 64)], C45, C46, [(b6, Cl [(.string ByteArray.empty), (.slice none 0 0), (.int .i64 0), (.string ByteArray.empty), (.bool false), (.bool false), (.int .i64 0), (.slice (some ⟨b2, 0, none⟩) 2 2), (.slice (some ⟨b4, 0, none⟩) 1 1)] 67)], L]) := hS
  refine s_st (cs' := [(.string x65.1.Name), (.slice a70 x65.1.Params.length c71), (.int .i64 x65.1.Ret.Kind), (.string x65.1.Ret.Class), (.bool x65.1.Static), (.bool x65.1.Abstract), (.int .i64 x65.1.Locals), (.slice a73 x65.1.Code.length c74), (.slice a76 x65.1.Handlers.length c77)]) 0 hS rfl rfl rfl rfl rfl ?_
  intro w hS
  replace hS : Sat w K85 (flat [[(b87, Cl [(.string x65.1.Name), (.slice a70 x65.1.Params.length c71), (.int .i64 x65.1.Ret.Kind), (.string x65.1.Ret.Class), (.bool x65.1.Static), (.bool x65.1.Abstract), (.int .i64 x65.1.Locals), (.slice a73 x65.1.Code.length c74), (.slice a76 x65.1.Handlers.length c77)] 67)], [(b2, Cl [(.int .i64 3), (.int .i32 0), (.int .i64 0), (.string ByteArray.empty), (.string ByteArray.empty), (.string ByteArray.empty), (.string ByteArray.empty), (.int .i64 19), (.int .i32 0), (.int .i64 0), (.string ByteArray.empty), (.string ByteArray.empty), (.string ByteArray.empty), (.string ByteArray.empty)] 77)], [(b4, Cl [(.int .i64 0), (.int .i64 1), (.int .i64 1), (.string (⟨#[70, 97, 117, 108, 116]⟩ : ByteArray))] 92)], C79, C80, [(b55, Cl [(.string x31.1.Name), (.slice a36 x31.1.Params.length c37), (.int .i64 x31.1.Ret.Kind), (.string x31.1.Ret.Class), (.bool x31.1.Static), (.bool x31.1.Abstract), (.int .i64 x31.1.Locals), (.slice a39 x31.1.Code.length c40), (.slice a42 x31.1.Handlers.length c43)] 67)], [(b10, Cl [(.slice (some ⟨b8, 0, none⟩) 3 3)] 64)], C45, C46, [(b6, Cl [(.string ByteArray.empty), (.slice none 0 0), (.int .i64 0), (.string ByteArray.empty), (.bool false), (.bool false), (.int .i64 0), (.slice (some ⟨b2, 0, none⟩) 2 2), (.slice (some ⟨b4, 0, none⟩) 1 1)] 67)], L]) := hS
  refine s_v rfl rfl rfl ?_
  refine s_nil ?_
  refine qn ?_
  refine s_seq ?_
  refine s_reg ?_
  refine s_v rfl rfl rfl ?_
  refine s_ld 9 hS rfl rfl rfl rfl rfl ?_
  generalize hCg_ : ([(b2, Cl [(.int .i64 3), (.int .i32 0), (.int .i64 0), (.string ByteArray.empty), (.string ByteArray.empty), (.string ByteArray.empty), (.string ByteArray.empty), (.int .i64 19), (.int .i32 0), (.int .i64 0), (.string ByteArray.empty), (.string ByteArray.empty), (.string ByteArray.empty), (.string ByteArray.empty)] 77)] : Chunks) = C89 at hS h12
  clear hCg_
  obtain ⟨x90, hx91, hf⟩ := Option.bind_eq_some_iff.1 hf
  refine s_ixo 1 hS rfl h12 hx91 rfl rfl rfl rfl rfl rfl rfl ?_
  intro b92 l93 cs96 l94 hcs_ hC97 hun95
  obtain rfl := hcs_
  subst hC97
  replace hS : Sat w K85 (flat [[(b87, Cl [(.string x65.1.Name), (.slice a70 x65.1.Params.length c71), (.int .i64 x65.1.Ret.Kind), (.string x65.1.Ret.Class), (.bool x65.1.Static), (.bool x65.1.Abstract), (.int .i64 x65.1.Locals), (.slice a73 x65.1.Code.length c74), (.slice a76 x65.1.Handlers.length c77)] 67)], [(b92, Cl (l93 ++ (([(.int .i64 x90.Op), (.int .i32 x90.N), (.int .i64 x90.K), (.string x90.S), (.string x90.Class), (.string x90.Name), (.string x90.Desc)] : List Value) ++ l94)) 77)], [(b4, Cl [(.int .i64 0), (.int .i64 1), (.int .i64 1), (.string (⟨#[70, 97, 117, 108, 116]⟩ : ByteArray))] 92)], C79, C80, [(b55, Cl [(.string x31.1.Name), (.slice a36 x31.1.Params.length c37), (.int .i64 x31.1.Ret.Kind), (.string x31.1.Ret.Class), (.bool x31.1.Static), (.bool x31.1.Abstract), (.int .i64 x31.1.Locals), (.slice a39 x31.1.Code.length c40), (.slice a42 x31.1.Handlers.length c43)] 67)], [(b10, Cl [(.slice (some ⟨b8, 0, none⟩) 3 3)] 64)], C45, C46, [(b6, Cl [(.string ByteArray.empty), (.slice none 0 0), (.int .i64 0), (.string ByteArray.empty), (.bool false), (.bool false), (.int .i64 0), (.slice (some ⟨b2, 0, none⟩) 2 2), (.slice (some ⟨b4, 0, none⟩) 1 1)] 67)], L]) := hS
  refine s_v rfl rfl rfl ?_
  refine s_stm (cs' := [(.int .i64 x90.Op), (.int .i32 x90.N), (.int .i64 2), (.string x90.S), (.string x90.Class), (.string x90.Name), (.string x90.Desc)]) 1 2 hS rfl rfl rfl rfl rfl ?_
  intro w hS
  replace hS : Sat w K85 (flat [[(b87, Cl [(.string x65.1.Name), (.slice a70 x65.1.Params.length c71), (.int .i64 x65.1.Ret.Kind), (.string x65.1.Ret.Class), (.bool x65.1.Static), (.bool x65.1.Abstract), (.int .i64 x65.1.Locals), (.slice a73 x65.1.Code.length c74), (.slice a76 x65.1.Handlers.length c77)] 67)], [(b92, Cl (l93 ++ (([(.int .i64 x90.Op), (.int .i32 x90.N), (.int .i64 2), (.string x90.S), (.string x90.Class), (.string x90.Name), (.string x90.Desc)] : List Value) ++ l94)) 77)], [(b4, Cl [(.int .i64 0), (.int .i64 1), (.int .i64 1), (.string (⟨#[70, 97, 117, 108, 116]⟩ : ByteArray))] 92)], C79, C80, [(b55, Cl [(.string x31.1.Name), (.slice a36 x31.1.Params.length c37), (.int .i64 x31.1.Ret.Kind), (.string x31.1.Ret.Class), (.bool x31.1.Static), (.bool x31.1.Abstract), (.int .i64 x31.1.Locals), (.slice a39 x31.1.Code.length c40), (.slice a42 x31.1.Handlers.length c43)] 67)], [(b10, Cl [(.slice (some ⟨b8, 0, none⟩) 3 3)] 64)], C45, C46, [(b6, Cl [(.string ByteArray.empty), (.slice none 0 0), (.int .i64 0), (.string ByteArray.empty), (.bool false), (.bool false), (.int .i64 0), (.slice (some ⟨b2, 0, none⟩) 2 2), (.slice (some ⟨b4, 0, none⟩) 1 1)] 67)], L]) := hS
  have h98 := hun95 K85 _ _ (KM.le.refl _) (show GoData.cells 77 _ (api_Instr.mk x90.Op x90.N 2 x90.S x90.Class x90.Name x90.Desc) _ from rfl)
  refine s_nil ?_
  refine qn ?_
  refine s_seq ?_
  refine s_reg ?_
  refine s_ld (v := (.agg #[(.string ByteArray.empty), (.slice none 0 0), (.int .i64 0), (.string ByteArray.empty), (.bool false), (.bool false), (.int .i64 0), (.slice (some ⟨b2, 0, none⟩) 2 2), (.slice (some ⟨b4, 0, none⟩) 1 1)])) 9 hS rfl rfl rfl rfl rfl ?_
  generalize hCg_ : ([(b92, Cl (l93 ++ (([(.int .i64 x90.Op), (.int .i32 x90.N), (.int .i64 2), (.string x90.S), (.string x90.Class), (.string x90.Name), (.string x90.Desc)] : List Value) ++ l94)) 77)] : Chunks) = C99 at hS h98
  clear hCg_
  obtain ⟨K100, hk101, h102, hS, hth103⟩ := OwnS.lend h98 (hS.sel [1, 0, 2, 3, 4, 5, 6, 7, 8, 9, 10] rfl)
  obtain ⟨K104, hk105, h106, hS, hth107⟩ := OwnS.lend (h13.mono hk101) (hS.sel [1, 0, 2, 3, 4, 5, 6, 7, 8, 9] rfl)
  obtain ⟨x108, hx109, hf⟩ := Option.bind_eq_some_iff.1 hf
  refine s_call isf33 hS.nilG (rewrite_Method_spec hx109 SlK.nil (h102.mono hk105) h106 SlK.nil) rfl rfl rfl ?_
  rintro _ K110 _ w hk111 ⟨a113, c114, a116, c117, a119, c120, C122, C123, rfl, h115, h118, h121, rfl⟩ hS
  replace hS := hS.open
  replace hS : Sat w K110 (flat [C122, C123, [(b87, Cl [(.string x65.1.Name), (.slice a70 x65.1.Params.length c71), (.int .i64 x65.1.Ret.Kind), (.string x65.1.Ret.Class), (.bool x65.1.Static), (.bool x65.1.Abstract), (.int .i64 x65.1.Locals), (.slice a73 x65.1.Code.length c74), (.slice a76 x65.1.Handlers.length c77)] 67)], C79, C80, [(b55, Cl [(.string x31.1.Name), (.slice a36 x31.1.Params.length c37), (.int .i64 x31.1.Ret.Kind), (.string x31.1.Ret.Class), (.bool x31.1.Static), (.bool x31.1.Abstract), (.int .i64 x31.1.Locals), (.slice a39 x31.1.Code.length c40), (.slice a42 x31.1.Handlers.length c43)] 67)], [(b10, Cl [(.slice (some ⟨b8, 0, none⟩) 3 3)] 64)], C45, C46, [(b6, Cl [(.string ByteArray.empty), (.slice none 0 0), (.int .i64 0), (.string ByteArray.empty), (.bool false), (.bool false), (.int .i64 0), (.slice (some ⟨b2, 0, none⟩) 2 2), (.slice (some ⟨b4, 0, none⟩) 1 1)] 67)], L]) := hS
  obtain ⟨K126, hk127, hS⟩ := hth107 _ _ _ hk111 hS
  obtain ⟨K128, hk129, hS⟩ := hth103 _ _ _ hk127 hS
  replace hS : Sat w K128 (flat [C99, [(b4, Cl [(.int .i64 0), (.int .i64 1), (.int .i64 1), (.string (⟨#[70, 97, 117, 108, 116]⟩ : ByteArray))] 92)], C122, C123, [(b87, Cl [(.string x65.1.Name), (.slice a70 x65.1.Params.length c71), (.int .i64 x65.1.Ret.Kind), (.string x65.1.Ret.Class), (.bool x65.1.Static), (.bool x65.1.Abstract), (.int .i64 x65.1.Locals), (.slice a73 x65.1.Code.length c74), (.slice a76 x65.1.Handlers.length c77)] 67)], C79, C80, [(b55, Cl [(.string x31.1.Name), (.slice a36 x31.1.Params.length c37), (.int .i64 x31.1.Ret.Kind), (.string x31.1.Ret.Class), (.bool x31.1.Static), (.bool x31.1.Abstract), (.int .i64 x31.1.Locals), (.slice a39 x31.1.Code.length c40), (.slice a42 x31.1.Handlers.length c43)] 67)], [(b10, Cl [(.slice (some ⟨b8, 0, none⟩) 3 3)] 64)], C45, C46, [(b6, Cl [(.string ByteArray.empty), (.slice none 0 0), (.int .i64 0), (.string ByteArray.empty), (.bool false), (.bool false), (.int .i64 0), (.slice (some ⟨b2, 0, none⟩) 2 2), (.slice (some ⟨b4, 0, none⟩) 1 1)] 67)], L]) := hS
  replace h118 := OwnS.any (K' := K128) h118
  replace h121 := OwnS.any (K' := K128) h121
  replace h41 := h41.mono hk129
  replace h44 := h44.mono hk129
  replace h75 := h75.mono hk129
  replace h78 := h78.mono hk129
  replace h98 := h98.mono hk129
  replace h13 := h13.mono hk129
  replace hle := hle.trans hk129
  refine s_v rfl rfl rfl ?_
  refine s_v rfl rfl rfl ?_
  refine s_v rfl rfl rfl ?_
  refine s_al hS rfl rfl rfl ?_
  intro b130 w hS
  replace hS : Sat w K128 (flat [[(b130, Cl [(.string ByteArray.empty), (.slice none 0 0), (.int .i64 0), (.string ByteArray.empty), (.bool false), (.bool false), (.int .i64 0), (.slice none 0 0), (.slice none 0 0)] 67)], C99, [(b4, Cl [(.int .i64 0), (.int .i64 1), (.int .i64 1), (.string (⟨#[70, 97, 117, 108, 116]⟩ : ByteArray))] 92)], C122, C123, [(b87, Cl [(.string x65.1.Name), (.slice a70 x65.1.Params.length c71), (.int .i64 x65.1.Ret.Kind), (.string x65.1.Ret.Class), (.bool x65.1.Static), (.bool x65.1.Abstract), (.int .i64 x65.1.Locals), (.slice a73 x65.1.Code.length c74), (.slice a76 x65.1.Handlers.length c77)] 67)], C79, C80, [(b55, Cl [(.string x31.1.Name), (.slice a36 x31.1.Params.length c37), (.int .i64 x31.1.Ret.Kind), (.string x31.1.Ret.Class), (.bool x31.1.Static), (.bool x31.1.Abstract), (.int .i64 x31.1.Locals), (.slice a39 x31.1.Code.length c40), (.slice a42 x31.1.Handlers.length c43)] 67)], [(b10, Cl [(.slice (some ⟨b8, 0, none⟩) 3 3)] 64)], C45, C46, [(b6, Cl [(.string ByteArray.empty), (.slice none 0 0), (.int .i64 0), (.string ByteArray.empty), (.bool false), (.bool false), (.int .i64 0), (.slice (some ⟨b2, 0, none⟩) 2 2), (.slice (some ⟨b4, 0, none⟩) 1 1)] 67)], L]) := hS
  refine s_st (cs' := [(.string x108.1.Name), (.slice a113 x108.1.Params.length c114), (.int .i64 x108.1.Ret.Kind), (.string x108.1.Ret.Class), (.bool x108.1.Static), (.bool x108.1.Abstract), (.int .i64 x108.1.Locals), (.slice a116 x108.1.Code.length c117), (.slice a119 x108.1.Handlers.length c120)]) 0 hS rfl rfl rfl rfl rfl ?_
  intro w hS
  replace hS : Sat w K128 (flat [[(b130, Cl [(.string x108.1.Name), (.slice a113 x108.1.Params.length c114), (.int .i64 x108.1.Ret.Kind), (.string x108.1.Ret.Class), (.bool x108.1.Static), (.bool x108.1.Abstract), (.int .i64 x108.1.Locals), (.slice a116 x108.1.Code.length c117), (.slice a119 x108.1.Handlers.length c120)] 67)], C99, [(b4, Cl [(.int .i64 0), (.int .i64 1), (.int .i64 1), (.string (⟨#[70, 97, 117, 108, 116]⟩ : ByteArray))] 92)], C122, C123, [(b87, Cl [(.string x65.1.Name), (.slice a70 x65.1.Params.length c71), (.int .i64 x65.1.Ret.Kind), (.string x65.1.Ret.Class), (.bool x65.1.Static), (.bool x65.1.Abstract), (.int .i64 x65.1.Locals), (.slice a73 x65.1.Code.length c74), (.slice a76 x65.1.Handlers.length c77)] 67)], C79, C80, [(b55, Cl [(.string x31.1.Name), (.slice a36 x31.1.Params.length c37), (.int .i64 x31.1.Ret.Kind), (.string x31.1.Ret.Class), (.bool x31.1.Static), (.bool x31.1.Abstract), (.int .i64 x31.1.Locals), (.slice a39 x31.1.Code.length c40), (.slice a42 x31.1.Handlers.length c43)] 67)], [(b10, Cl [(.slice (some ⟨b8, 0, none⟩) 3 3)] 64)], C45, C46, [(b6, Cl [(.string ByteArray.empty), (.slice none 0 0), (.int .i64 0), (.string ByteArray.empty), (.bool false), (.bool false), (.int .i64 0), (.slice (some ⟨b2, 0, none⟩) 2 2), (.slice (some ⟨b4, 0, none⟩) 1 1)] 67)], L]) := hS
  refine s_v rfl rfl rfl ?_
  refine s_nil ?_
  refine qn ?_
  refine s_seq ?_
  refine s_reg ?_
  refine s_v rfl rfl rfl ?_
  refine s_v rfl rfl rfl ?_
  obtain ⟨s153, hst154, hf⟩ := Option.bind_eq_some_iff.1 hf
  refine r_cut [_, _, _, _, _] (fun τ w => ∃ (K132 : KM) (a134 : Option Addr) (c135 : Nat) (C136 : Chunks) (a139 : Option Addr) (c140 : Nat) (C141 : Chunks) (a144 : Option Addr) (c145 : Nat) (C146 : Chunks) (a149 : Option Addr) (c150 : Nat) (C151 : Chunks), τ = [(2, (.pointer (some ⟨b55, 0, none⟩))), (4, (.pointer (some ⟨b87, 0, none⟩))), (5, (.bool x65.2)), (7, (.bool x108.2)), (44, (.bool s153))] ∧ KM.le K K132 ∧ OwnS 77 K132 (.slice a134 x31.1.Code.length c135) x31.1.Code C136 ∧ OwnS 92 K132 (.slice a139 x31.1.Handlers.length c140) x31.1.Handlers C141 ∧ OwnS 77 K132 (.slice a144 x65.1.Code.length c145) x65.1.Code C146 ∧ OwnS 92 K132 (.slice a149 x65.1.Handlers.length c150) x65.1.Handlers C151 ∧ Sat w K132 (flat [[(b55, Cl [(.string x31.1.Name), (.slice a36 x31.1.Params.length c37), (.int .i64 x31.1.Ret.Kind), (.string x31.1.Ret.Class), (.bool x31.1.Static), (.bool x31.1.Abstract), (.int .i64 x31.1.Locals), (.slice a134 x31.1.Code.length c135), (.slice a139 x31.1.Handlers.length c140)] 67)], C136, C141, [(b87, Cl [(.string x65.1.Name), (.slice a70 x65.1.Params.length c71), (.int .i64 x65.1.Ret.Kind), (.string x65.1.Ret.Class), (.bool x65.1.Static), (.bool x65.1.Abstract), (.int .i64 x65.1.Locals), (.slice a144 x65.1.Code.length c145), (.slice a149 x65.1.Handlers.length c150)] 67)], C146, C151, L])) rfl (fun J hJ => ?_) ?_
  · replace hf := hst154
    cases hc : x31.2
    · replace hf := bif_f hc hf
      refine s_no rfl rfl ?_
      refine s_no rfl rfl ?_
      refine s_no rfl rfl ?_
      refine s_no rfl rfl ?_
      refine s_v rfl rfl rfl ?_
      have hq := Option.some.inj hf
      subst hq
      refine r_join hJ _ ⟨K128, a39, c40, C45, a42, c43, C46, a73, c74, C79, a76, c77, C80, rfl, hle, h41, h44, h75, h78, (hS.sel [8, 10, 11, 5, 6, 7, 13] rfl)⟩ ⟨rfl, rfl, rfl, rfl, rfl, trivial⟩
    · replace hf := bif_t hc hf
      refine s_v rfl rfl rfl ?_
      refine s_ld 8 hS rfl rfl rfl rfl rfl ?_
      refine s_v rfl rfl rfl ?_
      refine s_v rfl rfl rfl ?_
      refine s_v rfl rfl rfl ?_
      have hq := Option.some.inj hf
      subst hq
      refine r_join hJ _ ⟨K128, a39, c40, C45, a42, c43, C46, a73, c74, C79, a76, c77, C80, rfl, hle, h41, h44, h75, h78, (hS.sel [8, 10, 11, 5, 6, 7, 13] rfl)⟩ ⟨rfl, rfl, rfl, rfl, rfl, trivial⟩
  rintro _ w ⟨K132, a134, c135, C136, a139, c140, C141, a144, c145, C146, a149, c150, C151, rfl, hle, h133, h138, h143, h148, hS⟩
  refine s_v rfl rfl rfl ?_
  obtain ⟨s184, hst185, hf⟩ := Option.bind_eq_some_iff.1 hf
  refine r_cut [_, _, _, _, _, _, _] (fun τ w => ∃ (K163 : KM) (a165 : Option Addr) (c166 : Nat) (C167 : Chunks) (a170 : Option Addr) (c171 : Nat) (C172 : Chunks) (a175 : Option Addr) (c176 : Nat) (C177 : Chunks) (a180 : Option Addr) (c181 : Nat) (C182 : Chunks), τ = [(2, (.pointer (some ⟨b55, 0, none⟩))), (4, (.pointer (some ⟨b87, 0, none⟩))), (5, (.bool x65.2)), (7, (.bool x108.2)), (52, (.bool s184))] ∧ KM.le K K163 ∧ OwnS 77 K163 (.slice a165 x31.1.Code.length c166) x31.1.Code C167 ∧ OwnS 92 K163 (.slice a170 x31.1.Handlers.length c171) x31.1.Handlers C172 ∧ OwnS 77 K163 (.slice a175 x65.1.Code.length c176) x65.1.Code C177 ∧ OwnS 92 K163 (.slice a180 x65.1.Handlers.length c181) x65.1.Handlers C182 ∧ Sat w K163 (flat [[(b55, Cl [(.string x31.1.Name), (.slice a36 x31.1.Params.length c37), (.int .i64 x31.1.Ret.Kind), (.string x31.1.Ret.Class), (.bool x31.1.Static), (.bool x31.1.Abstract), (.int .i64 x31.1.Locals), (.slice a165 x31.1.Code.length c166), (.slice a170 x31.1.Handlers.length c171)] 67)], C167, C172, [(b87, Cl [(.string x65.1.Name), (.slice a70 x65.1.Params.length c71), (.int .i64 x65.1.Ret.Kind), (.string x65.1.Ret.Class), (.bool x65.1.Static), (.bool x65.1.Abstract), (.int .i64 x65.1.Locals), (.slice a175 x65.1.Code.length c176), (.slice a180 x65.1.Handlers.length c181)] 67)], C177, C182, L])) rfl (fun J hJ => ?_) ?_
  · replace hf := hst185
    cases hc : s153
    · replace hf := bif_f hc hf
      refine s_no rfl rfl ?_
      refine s_no rfl rfl ?_
      refine s_no rfl rfl ?_
      refine s_no rfl rfl ?_
      refine s_no rfl rfl ?_
      refine s_no rfl rfl ?_
      refine s_v rfl rfl rfl ?_
      have hq := Option.some.inj hf
      subst hq
      refine r_join hJ _ ⟨K132, a134, c135, C136, a139, c140, C141, a144, c145, C146, a149, c150, C151, rfl, hle, h133, h138, h143, h148, hS⟩ ⟨rfl, rfl, rfl, rfl, rfl, trivial⟩
    · replace hf := bif_t hc hf
      refine s_v rfl rfl rfl ?_
      refine s_ld 0 hS rfl rfl rfl rfl rfl ?_
      obtain ⟨x186, hx187, hf⟩ := Option.bind_eq_some_iff.1 hf
      refine s_ixo 1 hS rfl h133 hx187 rfl rfl rfl rfl rfl rfl rfl ?_
      intro b188 l189 cs192 l190 hcs_ hC193 hun191
      obtain rfl := hcs_
      subst hC193
      replace hS : Sat w K132 (flat [[(b55, Cl [(.string x31.1.Name), (.slice a36 x31.1.Params.length c37), (.int .i64 x31.1.Ret.Kind), (.string x31.1.Ret.Class), (.bool x31.1.Static), (.bool x31.1.Abstract), (.int .i64 x31.1.Locals), (.slice a134 x31.1.Code.length c135), (.slice a139 x31.1.Handlers.length c140)] 67)], [(b188, Cl (l189 ++ (([(.int .i64 x186.Op), (.int .i32 x186.N), (.int .i64 x186.K), (.string x186.S), (.string x186.Class), (.string x186.Name), (.string x186.Desc)] : List Value) ++ l190)) 77)], C141, [(b87, Cl [(.string x65.1.Name), (.slice a70 x65.1.Params.length c71), (.int .i64 x65.1.Ret.Kind), (.string x65.1.Ret.Class), (.bool x65.1.Static), (.bool x65.1.Abstract), (.int .i64 x65.1.Locals), (.slice a144 x65.1.Code.length c145), (.slice a149 x65.1.Handlers.length c150)] 67)], C146, C151, L]) := hS
      refine s_v rfl rfl rfl ?_
      refine s_ldm 1 2 hS rfl rfl rfl rfl rfl ?_
      refine s_v rfl rfl rfl ?_
      refine s_v rfl rfl rfl ?_
      have hq := Option.some.inj hf
      subst hq
      refine r_join hJ _ ⟨K132, a134, c135, [(b188, Cl (l189 ++ (([(.int .i64 x186.Op), (.int .i32 x186.N), (.int .i64 x186.K), (.string x186.S), (.string x186.Class), (.string x186.Name), (.string x186.Desc)] : List Value) ++ l190)) 77)], a139, c140, C141, a144, c145, C146, a149, c150, C151, rfl, hle, h133, h138, h143, h148, hS⟩ ⟨rfl, rfl, rfl, rfl, rfl, trivial⟩
  rintro _ w ⟨K163, a165, c166, C167, a170, c171, C172, a175, c176, C177, a180, c181, C182, rfl, hle, h164, h169, h174, h179, hS⟩
  refine s_v rfl rfl rfl ?_
  obtain ⟨s215, hst216, hf⟩ := Option.bind_eq_some_iff.1 hf
  refine r_cut [_, _, _, _, _] (fun τ w => ∃ (K194 : KM) (a196 : Option Addr) (c197 : Nat) (C198 : Chunks) (a201 : Option Addr) (c202 : Nat) (C203 : Chunks) (a206 : Option Addr) (c207 : Nat) (C208 : Chunks) (a211 : Option Addr) (c212 : Nat) (C213 : Chunks), τ = [(2, (.pointer (some ⟨b55, 0, none⟩))), (4, (.pointer (some ⟨b87, 0, none⟩))), (5, (.bool x65.2)), (7, (.bool x108.2)), (58, (.bool s215))] ∧ KM.le K K194 ∧ OwnS 77 K194 (.slice a196 x31.1.Code.length c197) x31.1.Code C198 ∧ OwnS 92 K194 (.slice a201 x31.1.Handlers.length c202) x31.1.Handlers C203 ∧ OwnS 77 K194 (.slice a206 x65.1.Code.length c207) x65.1.Code C208 ∧ OwnS 92 K194 (.slice a211 x65.1.Handlers.length c212) x65.1.Handlers C213 ∧ Sat w K194 (flat [[(b55, Cl [(.string x31.1.Name), (.slice a36 x31.1.Params.length c37), (.int .i64 x31.1.Ret.Kind), (.string x31.1.Ret.Class), (.bool x31.1.Static), (.bool x31.1.Abstract), (.int .i64 x31.1.Locals), (.slice a196 x31.1.Code.length c197), (.slice a201 x31.1.Handlers.length c202)] 67)], C198, C203, [(b87, Cl [(.string x65.1.Name), (.slice a70 x65.1.Params.length c71), (.int .i64 x65.1.Ret.Kind), (.string x65.1.Ret.Class), (.bool x65.1.Static), (.bool x65.1.Abstract), (.int .i64 x65.1.Locals), (.slice a206 x65.1.Code.length c207), (.slice a211 x65.1.Handlers.length c212)] 67)], C208, C213, L])) rfl (fun J hJ => ?_) ?_
  · replace hf := hst216
    cases hc : s184
    · replace hf := bif_f hc hf
      refine s_no rfl rfl ?_
      refine s_no rfl rfl ?_
      refine s_no rfl rfl ?_
      refine s_no rfl rfl ?_
      refine s_v rfl rfl rfl ?_
      have hq := Option.some.inj hf
      subst hq
      refine r_join hJ _ ⟨K163, a165, c166, C167, a170, c171, C172, a175, c176, C177, a180, c181, C182, rfl, hle, h164, h169, h174, h179, hS⟩ ⟨rfl, rfl, rfl, rfl, rfl, trivial⟩
    · replace hf := bif_t hc hf
      refine s_v rfl rfl rfl ?_
      refine s_ld 0 hS rfl rfl rfl rfl rfl ?_
      refine s_v rfl rfl rfl ?_
      refine s_v rfl rfl rfl ?_
      refine s_v rfl rfl rfl ?_
      have hq := Option.some.inj hf
      subst hq
      refine r_join hJ _ ⟨K163, a165, c166, C167, a170, c171, C172, a175, c176, C177, a180, c181, C182, rfl, hle, h164, h169, h174, h179, hS⟩ ⟨rfl, rfl, rfl, rfl, rfl, trivial⟩
  rintro _ w ⟨K194, a196, c197, C198, a201, c202, C203, a206, c207, C208, a211, c212, C213, rfl, hle, h195, h200, h205, h210, hS⟩
  refine s_v rfl rfl rfl ?_
  obtain ⟨s246, hst247, hf⟩ := Option.bind_eq_some_iff.1 hf
  refine r_cut [_, _, _, _, _, _, _] (fun τ w => ∃ (K225 : KM) (a227 : Option Addr) (c228 : Nat) (C229 : Chunks) (a232 : Option Addr) (c233 : Nat) (C234 : Chunks) (a237 : Option Addr) (c238 : Nat) (C239 : Chunks) (a242 : Option Addr) (c243 : Nat) (C244 : Chunks), τ = [(2, (.pointer (some ⟨b55, 0, none⟩))), (4, (.pointer (some ⟨b87, 0, none⟩))), (5, (.bool x65.2)), (7, (.bool x108.2)), (66, (.bool s246))] ∧ KM.le K K225 ∧ OwnS 77 K225 (.slice a227 x31.1.Code.length c228) x31.1.Code C229 ∧ OwnS 92 K225 (.slice a232 x31.1.Handlers.length c233) x31.1.Handlers C234 ∧ OwnS 77 K225 (.slice a237 x65.1.Code.length c238) x65.1.Code C239 ∧ OwnS 92 K225 (.slice a242 x65.1.Handlers.length c243) x65.1.Handlers C244 ∧ Sat w K225 (flat [[(b55, Cl [(.string x31.1.Name), (.slice a36 x31.1.Params.length c37), (.int .i64 x31.1.Ret.Kind), (.string x31.1.Ret.Class), (.bool x31.1.Static), (.bool x31.1.Abstract), (.int .i64 x31.1.Locals), (.slice a227 x31.1.Code.length c228), (.slice a232 x31.1.Handlers.length c233)] 67)], C229, C234, [(b87, Cl [(.string x65.1.Name), (.slice a70 x65.1.Params.length c71), (.int .i64 x65.1.Ret.Kind), (.string x65.1.Ret.Class), (.bool x65.1.Static), (.bool x65.1.Abstract), (.int .i64 x65.1.Locals), (.slice a237 x65.1.Code.length c238), (.slice a242 x65.1.Handlers.length c243)] 67)], C239, C244, L])) rfl (fun J hJ => ?_) ?_
  · replace hf := hst247
    cases hc : s215
    · replace hf := bif_f hc hf
      refine s_no rfl rfl ?_
      refine s_no rfl rfl ?_
      refine s_no rfl rfl ?_
      refine s_no rfl rfl ?_
      refine s_no rfl rfl ?_
      refine s_no rfl rfl ?_
      refine s_v rfl rfl rfl ?_
      have hq := Option.some.inj hf
      subst hq
      refine r_join hJ _ ⟨K194, a196, c197, C198, a201, c202, C203, a206, c207, C208, a211, c212, C213, rfl, hle, h195, h200, h205, h210, hS⟩ ⟨rfl, rfl, rfl, rfl, rfl, trivial⟩
    · replace hf := bif_t hc hf
      refine s_v rfl rfl rfl ?_
      refine s_ld 0 hS rfl rfl rfl rfl rfl ?_
      obtain ⟨x248, hx249, hf⟩ := Option.bind_eq_some_iff.1 hf
      refine s_ixo 2 hS rfl h200 hx249 rfl rfl rfl rfl rfl rfl rfl ?_
      intro b250 l251 cs254 l252 hcs_ hC255 hun253
      obtain rfl := hcs_
      subst hC255
      replace hS : Sat w K194 (flat [[(b55, Cl [(.string x31.1.Name), (.slice a36 x31.1.Params.length c37), (.int .i64 x31.1.Ret.Kind), (.string x31.1.Ret.Class), (.bool x31.1.Static), (.bool x31.1.Abstract), (.int .i64 x31.1.Locals), (.slice a196 x31.1.Code.length c197), (.slice a201 x31.1.Handlers.length c202)] 67)], C198, [(b250, Cl (l251 ++ (([(.int .i64 x248.From), (.int .i64 x248.To), (.int .i64 x248.At), (.string x248.Catch)] : List Value) ++ l252)) 92)], [(b87, Cl [(.string x65.1.Name), (.slice a70 x65.1.Params.length c71), (.int .i64 x65.1.Ret.Kind), (.string x65.1.Ret.Class), (.bool x65.1.Static), (.bool x65.1.Abstract), (.int .i64 x65.1.Locals), (.slice a206 x65.1.Code.length c207), (.slice a211 x65.1.Handlers.length c212)] 67)], C208, C213, L]) := hS
      refine s_v rfl rfl rfl ?_
      refine s_ldm 2 1 hS rfl rfl rfl rfl rfl ?_
      refine s_v rfl rfl rfl ?_
      refine s_v rfl rfl rfl ?_
      have hq := Option.some.inj hf
      subst hq
      refine r_join hJ _ ⟨K194, a196, c197, C198, a201, c202, [(b250, Cl (l251 ++ (([(.int .i64 x248.From), (.int .i64 x248.To), (.int .i64 x248.At), (.string x248.Catch)] : List Value) ++ l252)) 92)], a206, c207, C208, a211, c212, C213, rfl, hle, h195, h200, h205, h210, hS⟩ ⟨rfl, rfl, rfl, rfl, rfl, trivial⟩
  rintro _ w ⟨K225, a227, c228, C229, a232, c233, C234, a237, c238, C239, a242, c243, C244, rfl, hle, h226, h231, h236, h241, hS⟩
  refine s_v rfl rfl rfl ?_
  obtain ⟨s285, hst286, hf⟩ := Option.bind_eq_some_iff.1 hf
  refine r_cut [_, _, _, _, _, _, _] (fun τ w => ∃ (K264 : KM) (a266 : Option Addr) (c267 : Nat) (C268 : Chunks) (a271 : Option Addr) (c272 : Nat) (C273 : Chunks) (a276 : Option Addr) (c277 : Nat) (C278 : Chunks) (a281 : Option Addr) (c282 : Nat) (C283 : Chunks), τ = [(2, (.pointer (some ⟨b55, 0, none⟩))), (4, (.pointer (some ⟨b87, 0, none⟩))), (5, (.bool x65.2)), (7, (.bool x108.2)), (74, (.bool s285))] ∧ KM.le K K264 ∧ OwnS 77 K264 (.slice a266 x31.1.Code.length c267) x31.1.Code C268 ∧ OwnS 92 K264 (.slice a271 x31.1.Handlers.length c272) x31.1.Handlers C273 ∧ OwnS 77 K264 (.slice a276 x65.1.Code.length c277) x65.1.Code C278 ∧ OwnS 92 K264 (.slice a281 x65.1.Handlers.length c282) x65.1.Handlers C283 ∧ Sat w K264 (flat [[(b55, Cl [(.string x31.1.Name), (.slice a36 x31.1.Params.length c37), (.int .i64 x31.1.Ret.Kind), (.string x31.1.Ret.Class), (.bool x31.1.Static), (.bool x31.1.Abstract), (.int .i64 x31.1.Locals), (.slice a266 x31.1.Code.length c267), (.slice a271 x31.1.Handlers.length c272)] 67)], C268, C273, [(b87, Cl [(.string x65.1.Name), (.slice a70 x65.1.Params.length c71), (.int .i64 x65.1.Ret.Kind), (.string x65.1.Ret.Class), (.bool x65.1.Static), (.bool x65.1.Abstract), (.int .i64 x65.1.Locals), (.slice a276 x65.1.Code.length c277), (.slice a281 x65.1.Handlers.length c282)] 67)], C278, C283, L])) rfl (fun J hJ => ?_) ?_
  · replace hf := hst286
    cases hc : s246
    · replace hf := bif_f hc hf
      refine s_no rfl rfl ?_
      refine s_no rfl rfl ?_
      refine s_no rfl rfl ?_
      refine s_no rfl rfl ?_
      refine s_no rfl rfl ?_
      refine s_no rfl rfl ?_
      refine s_v rfl rfl rfl ?_
      have hq := Option.some.inj hf
      subst hq
      refine r_join hJ _ ⟨K225, a227, c228, C229, a232, c233, C234, a237, c238, C239, a242, c243, C244, rfl, hle, h226, h231, h236, h241, hS⟩ ⟨rfl, rfl, rfl, rfl, rfl, trivial⟩
    · replace hf := bif_t hc hf
      refine s_v rfl rfl rfl ?_
      refine s_ld 0 hS rfl rfl rfl rfl rfl ?_
      obtain ⟨x287, hx288, hf⟩ := Option.bind_eq_some_iff.1 hf
      refine s_ixo 2 hS rfl h231 hx288 rfl rfl rfl rfl rfl rfl rfl ?_
      intro b289 l290 cs293 l291 hcs_ hC294 hun292
      obtain rfl := hcs_
      subst hC294
      replace hS : Sat w K225 (flat [[(b55, Cl [(.string x31.1.Name), (.slice a36 x31.1.Params.length c37), (.int .i64 x31.1.Ret.Kind), (.string x31.1.Ret.Class), (.bool x31.1.Static), (.bool x31.1.Abstract), (.int .i64 x31.1.Locals), (.slice a227 x31.1.Code.length c228), (.slice a232 x31.1.Handlers.length c233)] 67)], C229, [(b289, Cl (l290 ++ (([(.int .i64 x287.From), (.int .i64 x287.To), (.int .i64 x287.At), (.string x287.Catch)] : List Value) ++ l291)) 92)], [(b87, Cl [(.string x65.1.Name), (.slice a70 x65.1.Params.length c71), (.int .i64 x65.1.Ret.Kind), (.string x65.1.Ret.Class), (.bool x65.1.Static), (.bool x65.1.Abstract), (.int .i64 x65.1.Locals), (.slice a237 x65.1.Code.length c238), (.slice a242 x65.1.Handlers.length c243)] 67)], C239, C244, L]) := hS
      refine s_v rfl rfl rfl ?_
      refine s_ldm 2 2 hS rfl rfl rfl rfl rfl ?_
      refine s_v rfl rfl rfl ?_
      refine s_v rfl rfl rfl ?_
      have hq := Option.some.inj hf
      subst hq
      refine r_join hJ _ ⟨K225, a227, c228, C229, a232, c233, [(b289, Cl (l290 ++ (([(.int .i64 x287.From), (.int .i64 x287.To), (.int .i64 x287.At), (.string x287.Catch)] : List Value) ++ l291)) 92)], a237, c238, C239, a242, c243, C244, rfl, hle, h226, h231, h236, h241, hS⟩ ⟨rfl, rfl, rfl, rfl, rfl, trivial⟩
  rintro _ w ⟨K264, a266, c267, C268, a271, c272, C273, a276, c277, C278, a281, c282, C283, rfl, hle, h265, h270, h275, h280, hS⟩
  refine s_v rfl rfl rfl ?_
  obtain ⟨s316, hst317, hf⟩ := Option.bind_eq_some_iff.1 hf
  refine r_cut [_, _] (fun τ w => ∃ (K295 : KM) (a297 : Option Addr) (c298 : Nat) (C299 : Chunks) (a302 : Option Addr) (c303 : Nat) (C304 : Chunks) (a307 : Option Addr) (c308 : Nat) (C309 : Chunks) (a312 : Option Addr) (c313 : Nat) (C314 : Chunks), τ = [(2, (.pointer (some ⟨b55, 0, none⟩))), (4, (.pointer (some ⟨b87, 0, none⟩))), (7, (.bool x108.2)), (77, (.bool s316))] ∧ KM.le K K295 ∧ OwnS 77 K295 (.slice a297 x31.1.Code.length c298) x31.1.Code C299 ∧ OwnS 92 K295 (.slice a302 x31.1.Handlers.length c303) x31.1.Handlers C304 ∧ OwnS 77 K295 (.slice a307 x65.1.Code.length c308) x65.1.Code C309 ∧ OwnS 92 K295 (.slice a312 x65.1.Handlers.length c313) x65.1.Handlers C314 ∧ Sat w K295 (flat [[(b55, Cl [(.string x31.1.Name), (.slice a36 x31.1.Params.length c37), (.int .i64 x31.1.Ret.Kind), (.string x31.1.Ret.Class), (.bool x31.1.Static), (.bool x31.1.Abstract), (.int .i64 x31.1.Locals), (.slice a297 x31.1.Code.length c298), (.slice a302 x31.1.Handlers.length c303)] 67)], C299, C304, [(b87, Cl [(.string x65.1.Name), (.slice a70 x65.1.Params.length c71), (.int .i64 x65.1.Ret.Kind), (.string x65.1.Ret.Class), (.bool x65.1.Static), (.bool x65.1.Abstract), (.int .i64 x65.1.Locals), (.slice a307 x65.1.Code.length c308), (.slice a312 x65.1.Handlers.length c313)] 67)], C309, C314, L])) rfl (fun J hJ => ?_) ?_
  · replace hf := hst317
    cases hc : s285
    · replace hf := bif_f hc hf
      refine s_no rfl rfl ?_
      refine s_v rfl rfl rfl ?_
      have hq := Option.some.inj hf
      subst hq
      refine r_join hJ _ ⟨K264, a266, c267, C268, a271, c272, C273, a276, c277, C278, a281, c282, C283, rfl, hle, h265, h270, h275, h280, hS⟩ ⟨rfl, rfl, rfl, rfl, trivial⟩
    · replace hf := bif_t hc hf
      refine s_v rfl rfl rfl ?_
      refine s_v rfl rfl rfl ?_
      have hq := Option.some.inj hf
      subst hq
      refine r_join hJ _ ⟨K264, a266, c267, C268, a271, c272, C273, a276, c277, C278, a281, c282, C283, rfl, hle, h265, h270, h275, h280, hS⟩ ⟨rfl, rfl, rfl, rfl, trivial⟩
  rintro _ w ⟨K295, a297, c298, C299, a302, c303, C304, a307, c308, C309, a312, c313, C314, rfl, hle, h296, h301, h306, h311, hS⟩
  refine s_v rfl rfl rfl ?_
  obtain ⟨s329, hst330, hf⟩ := Option.bind_eq_some_iff.1 hf
  refine r_cut [_, _, _, _, _] (fun τ w => ∃ (K318 : KM) (a320 : Option Addr) (c321 : Nat) (C322 : Chunks) (a325 : Option Addr) (c326 : Nat) (C327 : Chunks), τ = [(2, (.pointer (some ⟨b55, 0, none⟩))), (7, (.bool x108.2)), (83, (.bool s329))] ∧ KM.le K K318 ∧ OwnS 77 K318 (.slice a320 x31.1.Code.length c321) x31.1.Code C322 ∧ OwnS 92 K318 (.slice a325 x31.1.Handlers.length c326) x31.1.Handlers C327 ∧ Sat w K318 (flat [[(b55, Cl [(.string x31.1.Name), (.slice a36 x31.1.Params.length c37), (.int .i64 x31.1.Ret.Kind), (.string x31.1.Ret.Class), (.bool x31.1.Static), (.bool x31.1.Abstract), (.int .i64 x31.1.Locals), (.slice a320 x31.1.Code.length c321), (.slice a325 x31.1.Handlers.length c326)] 67)], C322, C327, L])) rfl (fun J hJ => ?_) ?_
  · replace hf := hst330
    cases hc : s316
    · replace hf := bif_f hc hf
      refine s_no rfl rfl ?_
      refine s_no rfl rfl ?_
      refine s_no rfl rfl ?_
      refine s_no rfl rfl ?_
      refine s_v rfl rfl rfl ?_
      have hq := Option.some.inj hf
      subst hq
      refine r_join hJ _ ⟨K295, a297, c298, C299, a302, c303, C304, rfl, hle, h296, h301, (hS.sel [0, 1, 2, 6] rfl)⟩ ⟨rfl, rfl, rfl, trivial⟩
    · replace hf := bif_t hc hf
      refine s_v rfl rfl rfl ?_
      refine s_ld 3 hS rfl rfl rfl rfl rfl ?_
      refine s_v rfl rfl rfl ?_
      refine s_v rfl rfl rfl ?_
      refine s_v rfl rfl rfl ?_
      have hq := Option.some.inj hf
      subst hq
      refine r_join hJ _ ⟨K295, a297, c298, C299, a302, c303, C304, rfl, hle, h296, h301, (hS.sel [0, 1, 2, 6] rfl)⟩ ⟨rfl, rfl, rfl, trivial⟩
  rintro _ w ⟨K318, a320, c321, C322, a325, c326, C327, rfl, hle, h319, h324, hS⟩
  refine s_v rfl rfl rfl ?_
  obtain ⟨s342, hst343, hf⟩ := Option.bind_eq_some_iff.1 hf
  refine r_cut [_, _, _] (fun τ w => ∃ (K331 : KM) (a333 : Option Addr) (c334 : Nat) (C335 : Chunks) (a338 : Option Addr) (c339 : Nat) (C340 : Chunks), τ = [(2, (.pointer (some ⟨b55, 0, none⟩))), (87, (.bool s342))] ∧ KM.le K K331 ∧ OwnS 77 K331 (.slice a333 x31.1.Code.length c334) x31.1.Code C335 ∧ OwnS 92 K331 (.slice a338 x31.1.Handlers.length c339) x31.1.Handlers C340 ∧ Sat w K331 (flat [[(b55, Cl [(.string x31.1.Name), (.slice a36 x31.1.Params.length c37), (.int .i64 x31.1.Ret.Kind), (.string x31.1.Ret.Class), (.bool x31.1.Static), (.bool x31.1.Abstract), (.int .i64 x31.1.Locals), (.slice a333 x31.1.Code.length c334), (.slice a338 x31.1.Handlers.length c339)] 67)], C335, C340, L])) rfl (fun J hJ => ?_) ?_
  · replace hf := hst343
    cases hc : s329
    · replace hf := bif_f hc hf
      refine s_no rfl rfl ?_
      refine s_no rfl rfl ?_
      refine s_v rfl rfl rfl ?_
      have hq := Option.some.inj hf
      subst hq
      refine r_join hJ _ ⟨K318, a320, c321, C322, a325, c326, C327, rfl, hle, h319, h324, hS⟩ ⟨rfl, rfl, trivial⟩
    · replace hf := bif_t hc hf
      refine s_v rfl rfl rfl ?_
      refine s_v rfl rfl rfl ?_
      refine s_v rfl rfl rfl ?_
      have hq := Option.some.inj hf
      subst hq
      refine r_join hJ _ ⟨K318, a320, c321, C322, a325, c326, C327, rfl, hle, h319, h324, hS⟩ ⟨rfl, rfl, trivial⟩
  rintro _ w ⟨K331, a333, c334, C335, a338, c339, C340, rfl, hle, h332, h337, hS⟩
  refine s_v rfl rfl rfl ?_
  obtain ⟨s362, hst363, hf⟩ := Option.bind_eq_some_iff.1 hf
  refine r_cut [_, _, _] (fun τ w => ∃ (K361 : KM), τ = [(91, (.bool s362))] ∧ KM.le K K361 ∧ Sat w K361 (flat [L])) rfl (fun J hJ => ?_) ?_
  · replace hf := hst363
    cases hc : s342
    · replace hf := bif_f hc hf
      refine s_no rfl rfl ?_
      refine s_no rfl rfl ?_
      refine s_v rfl rfl rfl ?_
      have hq := Option.some.inj hf
      subst hq
      refine r_join hJ _ ⟨K331, rfl, hle, (hS.sel [3] rfl)⟩ ⟨rfl, trivial⟩
    · replace hf := bif_t hc hf
      refine s_ld (v := (.agg #[(.string x31.1.Name), (.slice a36 x31.1.Params.length c37), (.int .i64 x31.1.Ret.Kind), (.string x31.1.Ret.Class), (.bool x31.1.Static), (.bool x31.1.Abstract), (.int .i64 x31.1.Locals), (.slice a333 x31.1.Code.length c334), (.slice a338 x31.1.Handlers.length c339)])) 0 hS rfl rfl rfl rfl rfl ?_
      obtain ⟨K364, hk365, h366, hS, hth367⟩ := OwnS.lend h332 (hS.sel [1, 0, 2, 3] rfl)
      obtain ⟨K368, hk369, h370, hS, hth371⟩ := OwnS.lend (h337.mono hk365) (hS.sel [1, 0, 2] rfl)
      obtain ⟨x372, hx373, hf⟩ := Option.bind_eq_some_iff.1 hf
      refine s_call isf36 hS.nilG (rewrite_Fits_spec hx373) rfl rfl rfl ?_
      rintro _ K374 C376 w hk375 rfl hS
      replace hS := hS.drop1
      obtain ⟨K377, hk378, hS⟩ := hth371 _ _ _ hk375 hS
      obtain ⟨K379, hk380, hS⟩ := hth367 _ _ _ hk378 hS
      replace hS : Sat w K379 (flat [C335, C340, [(b55, Cl [(.string x31.1.Name), (.slice a36 x31.1.Params.length c37), (.int .i64 x31.1.Ret.Kind), (.string x31.1.Ret.Class), (.bool x31.1.Static), (.bool x31.1.Abstract), (.int .i64 x31.1.Locals), (.slice a333 x31.1.Code.length c334), (.slice a338 x31.1.Handlers.length c339)] 67)], L]) := hS
      replace h332 := h332.mono hk380
      replace h337 := h337.mono hk380
      replace hle := hle.trans hk380
      refine s_v rfl rfl rfl ?_
      have hq := Option.some.inj hf
      subst hq
      refine r_join hJ _ ⟨K379, rfl, hle, (hS.sel [3] rfl)⟩ ⟨rfl, trivial⟩
  rintro _ w ⟨K361, rfl, hle, hS⟩
  refine s_v rfl rfl rfl ?_
  obtain ⟨s387, hst388, hf⟩ := Option.bind_eq_some_iff.1 hf
  refine r_cut [_, _, _, _] (fun τ w => ∃ (K386 : KM), τ = [(96, (.bool s387))] ∧ KM.le K K386 ∧ Sat w K386 (flat [L])) rfl (fun J hJ => ?_) ?_
  · replace hf := hst388
    cases hc : s362
    · replace hf := bif_f hc hf
      refine s_no rfl rfl ?_
      refine s_no rfl rfl ?_
      refine s_no rfl rfl ?_
      refine s_v rfl rfl rfl ?_
      have hq := Option.some.inj hf
      subst hq
      refine r_join hJ _ ⟨K361, rfl, hle, hS⟩ ⟨rfl, trivial⟩
    · replace hf := bif_t hc hf
      refine s_v (v := (.agg #[(.string ByteArray.empty), (.slice none 0 0), (.int .i64 0), (.string ByteArray.empty), (.bool false), (.bool false), (.int .i64 201), (.slice none 0 0), (.slice none 0 0)])) rfl rfl rfl ?_
      obtain ⟨x389, hx390, hf⟩ := Option.bind_eq_some_iff.1 hf
      refine s_call isf36 hS.nilG (rewrite_Fits_spec hx390) rfl rfl rfl ?_
      rintro _ K391 C393 w hk392 rfl hS
      replace hS := hS.drop1
      replace hle := hle.trans hk392
      refine s_v rfl rfl rfl ?_
      refine s_v rfl rfl rfl ?_
      have hq := Option.some.inj hf
      subst hq
      refine r_join hJ _ ⟨K391, rfl, hle, hS⟩ ⟨rfl, trivial⟩
  rintro _ w ⟨K386, rfl, hle, hS⟩
  refine s_v rfl rfl rfl ?_
  refine s_nil ?_
  refine qn ?_
  refine s_rets ?_
  have hq := Option.some.inj hf
  subst hq
  refine s_ret1 rfl (rv_t rfl) ?_
  exact ⟨K386, _, hle, rfl, Sat.nilG (hS.sel [0] rfl)⟩
-- 10 bonsai/bonsailaw19.RewriteFits
def bonsailaw19_RewriteFits.fn (fu : Nat) (p1 : Int) (p2 : Int) (p3 : Int) : Option Bool := (bonsailaw19_known.fn fu).bind fun x5 => bif !x5 then (some false) else ((guardB (mayMake (w64 (2000 + (w64 ((w64 (Int.tmod p1 5)) - 2)))) 88) (guardB (mayMake (w64 (50 + (w64 ((w64 (Int.tmod p3 5)) - 2)))) 40) (some (w64 ((w64 (Int.tmod p1 5)) - 2), w64 ((w64 (Int.tmod p2 5)) - 2), w64 ((w64 (Int.tmod p3 5)) - 2), w64 (200 + (w64 ((w64 (Int.tmod p2 5)) - 2))), (List.replicate (w64 (2000 + (w64 ((w64 (Int.tmod p1 5)) - 2)))).toNat (GoZero.zero 77 (α := api_Instr))), (List.replicate (w64 (50 + (w64 ((w64 (Int.tmod p3 5)) - 2)))).toNat (GoZero.zero 92 (α := api_Handler))))))).bind fun s233 => (rewrite_Fits.fn (api_Method.mk ByteArray.empty [] (api_Type.mk 0 ByteArray.empty) false false s233.2.2.2.1 s233.2.2.2.2.1 s233.2.2.2.2.2)).bind fun x381 => (bif decide (s233.1 ≤ 0) then (some (decide (s233.2.1 ≤ 0))) else (some false)).bind fun s387 => (bif s387 then (some (decide (s233.2.2.1 ≤ 0))) else (some false)).bind fun s390 => some (x381 == s390))
theorem bonsailaw19_RewriteFits_spec {K : KM} {fu : Nat} {p1 : Int} {p2 : Int} {p3 : Int} {r : Bool} (hf : bonsailaw19_RewriteFits.fn fu p1 p2 p3 = some r) : Sp Try.prog 10 [(.int .u8 p1), (.int .u8 p2), (.int .u8 p3)] K [] (fun K' C v => v = (.bool r)) := by
  unfold bonsailaw19_RewriteFits.fn at hf
  refine spec_enter isf10 rfl ?_
  intro w L hS
  replace hS : Sat w K (flat [L]) := hS
  have hle := KM.le.refl K
  unfold bod10 Try.f10
  dsimp only [Option.getD_some, argSlots]
  refine s_seq ?_
  refine s_reg ?_
  refine s_v rfl rfl rfl ?_
  refine s_nil ?_
  refine qn ?_
  refine s_seq ?_
  refine s_seq ?_
  refine s_reg ?_
  obtain ⟨x5, hx6, hf⟩ := Option.bind_eq_some_iff.1 hf
  refine s_call isf29 hS.nilG (bonsailaw19_known_spec hx6) rfl rfl rfl ?_
  rintro _ K7 C9 w hk8 rfl hS
  replace hS := hS.drop1
  replace hle := hle.trans hk8
  refine s_v rfl rfl rfl ?_
  refine s_nil ?_
  refine qn ?_
  refine s_if rfl (fun hc => ?_) (fun hc => ?_)
  · replace hf := bif_t hc hf
    refine s_seq ?_
    refine s_reg ?_
    refine s_v rfl rfl rfl ?_
    refine s_nil ?_
    refine qn ?_
    refine s_rets ?_
    refine qrt ?_
    have hq := Option.some.inj hf
    subst hq
    refine s_ret1 rfl (rv_t rfl) ?_
    exact ⟨K7, _, hle, rfl, Sat.nilG (hS.sel [0] rfl)⟩
  replace hf := bif_f hc hf
  refine s_skip ?_
  refine qn ?_
  refine s_seq ?_
  refine s_reg ?_
  refine s_v rfl rfl rfl ?_
  refine s_v rfl rfl rfl ?_
  refine s_v rfl rfl rfl ?_
  refine s_v rfl rfl rfl ?_
  refine s_v rfl rfl rfl ?_
  refine s_v rfl rfl rfl ?_
  refine s_v rfl rfl rfl ?_
  refine s_v rfl rfl rfl ?_
  refine s_v rfl rfl rfl ?_
  refine s_v rfl rfl rfl ?_
  refine s_v rfl rfl rfl ?_
  refine s_v rfl rfl rfl ?_
  refine s_v rfl rfl rfl ?_
  refine s_v rfl rfl rfl ?_
  refine s_v rfl rfl rfl ?_
  refine s_nil ?_
  refine qn ?_
  obtain ⟨s233, hst234, hf⟩ := Option.bind_eq_some_iff.1 hf
  refine s_cut (fun τ w => ∃ (K220 : KM) (b221 : Nat) (a224 : Option Addr) (c225 : Nat) (C226 : Chunks) (a229 : Option Addr) (c230 : Nat) (C231 : Chunks), τ = [(7, (.int .i64 s233.1)), (8, (.int .i64 s233.2.1)), (9, (.int .i64 s233.2.2.1)), (10, (.pointer (some ⟨b221, 0, none⟩)))] ∧ KM.le K K220 ∧ OwnS 77 K220 (.slice a224 s233.2.2.2.2.1.length c225) s233.2.2.2.2.1 C226 ∧ OwnS 92 K220 (.slice a229 s233.2.2.2.2.2.length c230) s233.2.2.2.2.2 C231 ∧ Sat w K220 (flat [[(b221, Cl [(.string ByteArray.empty), (.slice none 0 0), (.int .i64 0), (.string ByteArray.empty), (.bool false), (.bool false), (.int .i64 s233.2.2.2.1), (.slice a224 s233.2.2.2.2.1.length c225), (.slice a229 s233.2.2.2.2.2.length c230)] 67)], C226, C231, L])) (fun J hJ => ?_) ?_
  · replace hf := hst234
    refine d_start [0] [] hS ?_
    intro w hS
    refine d_v 0 (fun _ _ _ _ _ h => h) [0] hS rfl rfl rfl (by kernel_rfl) rfl rfl ?_
    refine d_v 1 (fun _ _ _ _ _ h => h) [0] hS rfl rfl rfl (by kernel_rfl) rfl rfl ?_
    refine d_v 3 (fun _ _ _ _ _ h => h) [0] hS rfl rfl rfl (by kernel_rfl) rfl rfl ?_
    refine d_v 4 (fun _ _ _ _ _ h => h) [0] hS rfl rfl rfl (by kernel_rfl) rfl rfl ?_
    refine d_v 5 (fun _ _ _ _ _ h => h) [0] hS rfl rfl rfl (by kernel_rfl) rfl rfl ?_
    refine d_v 6 (fun _ _ _ _ _ h => h) [0] hS rfl rfl rfl (by kernel_rfl) rfl rfl ?_
    refine d_ops [2, 7, 9] (by kernel_rfl) rfl (.cons ⟨rfl, (by kernel_rfl), fun X hX => ?_⟩ (.cons ⟨rfl, (by kernel_rfl), fun X hX => ?_⟩ (.cons ⟨rfl, (by kernel_rfl), fun X hX => ?_⟩ AllB.nil)))
    · have hlq := KM.le.refl K7
      obtain ⟨hm305, hf⟩ := guardB_some hf
      refine s_mks (e := 77) (α := api_Instr) hS rfl rfl rfl rfl (mayMake_le hm305).1 (mayMake_le hm305).2 rfl rfl rfl rfl rfl rfl ?_
      intro a306 c307 w C308 h309 hS
      refine d_go [1] [0, 1] [] [] hX hS hlq rfl rfl trivial ?_
      refine d_ops [7, 9] (by kernel_rfl) rfl (.cons ⟨rfl, (by kernel_rfl), fun X hX => ?_⟩ (.cons ⟨rfl, (by kernel_rfl), fun X hX => ?_⟩ AllB.nil))
      · have hlq := KM.le.refl K7
        obtain ⟨hm311, hf⟩ := guardB_some hf
        refine s_mks (e := 92) (α := api_Handler) hS rfl rfl rfl rfl (mayMake_le hm311).1 (mayMake_le hm311).2 rfl rfl rfl rfl rfl rfl ?_
        intro a312 c313 w C314 h315 hS
        refine d_go [1, 2] [0, 1, 2] [] [] hX hS hlq rfl rfl trivial ?_
        refine d_v (v := (.agg #[(.string ByteArray.empty), (.slice none 0 0), (.int .i64 0), (.string ByteArray.empty), (.bool false), (.bool false), (.int .i64 (w64 (200 + (w64 ((w64 (Int.tmod p2 5)) - 2))))), (.slice a306 ((List.replicate (w64 (2000 + (w64 ((w64 (Int.tmod p1 5)) - 2)))).toNat (GoZero.zero 77 (α := api_Instr))).length) c307), (.slice a312 ((List.replicate (w64 (50 + (w64 ((w64 (Int.tmod p3 5)) - 2)))).toNat (GoZero.zero 92 (α := api_Handler))).length) c313)])) 8 (fun _ _ _ _ _ h => h) [0, 1, 2] hS rfl rfl rfl (by kernel_rfl) rfl rfl ?_
        refine d_op 9 rfl (by kernel_rfl) (by kernel_rfl) (fun X hX => ?_)
        have hlq := KM.le.refl K7
        refine s_al hS rfl rfl rfl ?_
        intro b317 w hS
        replace hS : Sat w K7 (flat [[(b317, Cl [(.string ByteArray.empty), (.slice none 0 0), (.int .i64 0), (.string ByteArray.empty), (.bool false), (.bool false), (.int .i64 0), (.slice none 0 0), (.slice none 0 0)] 67)], C314, C308, L]) := hS
        refine d_go [1, 2, 3] [1, 2, 3] [(10, [0])] [] hX hS hlq rfl rfl trivial ?_
        refine d_op 10 rfl (by kernel_rfl) (by kernel_rfl) (fun X hX => ?_)
        have hlq := KM.le.refl K7
        refine s_st (cs' := [(.string ByteArray.empty), (.slice none 0 0), (.int .i64 0), (.string ByteArray.empty), (.bool false), (.bool false), (.int .i64 (w64 (200 + (w64 ((w64 (Int.tmod p2 5)) - 2))))), (.slice a306 ((List.replicate (w64 (2000 + (w64 ((w64 (Int.tmod p1 5)) - 2)))).toNat (GoZero.zero 77 (α := api_Instr))).length) c307), (.slice a312 ((List.replicate (w64 (50 + (w64 ((w64 (Int.tmod p3 5)) - 2)))).toNat (GoZero.zero 92 (α := api_Handler))).length) c313)]) 0 hS rfl rfl rfl rfl rfl ?_
        intro w hS
        replace hS : Sat w K7 (flat [[(b317, Cl [(.string ByteArray.empty), (.slice none 0 0), (.int .i64 0), (.string ByteArray.empty), (.bool false), (.bool false), (.int .i64 (w64 (200 + (w64 ((w64 (Int.tmod p2 5)) - 2))))), (.slice a306 ((List.replicate (w64 (2000 + (w64 ((w64 (Int.tmod p1 5)) - 2)))).toNat (GoZero.zero 77 (α := api_Instr))).length) c307), (.slice a312 ((List.replicate (w64 (50 + (w64 ((w64 (Int.tmod p3 5)) - 2)))).toNat (GoZero.zero 92 (α := api_Handler))).length) c313)] 67)], C314, C308, L]) := hS
        refine d_go [1, 2, 3] [0, 1, 2, 3] [] [none] hX hS hlq rfl rfl ⟨rfl, trivial⟩ ?_
        refine d_end (by kernel_rfl) ?_
        refine qn ?_
        have hq := Option.some.inj hf
        subst hq
        refine s_join hJ _ ⟨K7, b317, a306, c307, C308, a312, c313, C314, rfl, hle, h309, h315, (hS.sel [0, 2, 1, 3] rfl)⟩ ⟨rfl, rfl, rfl, rfl, trivial⟩
      · obtain ⟨hm311, hf⟩ := guardB_some hf
        replace hf : (guardB (mayMake (w64 (50 + (w64 ((w64 (Int.tmod p3 5)) - 2)))) 40) (some (w64 ((w64 (Int.tmod p1 5)) - 2), w64 ((w64 (Int.tmod p2 5)) - 2), w64 ((w64 (Int.tmod p3 5)) - 2), w64 (200 + (w64 ((w64 (Int.tmod p2 5)) - 2))), (List.replicate (w64 (2000 + (w64 ((w64 (Int.tmod p1 5)) - 2)))).toNat (GoZero.zero 77 (α := api_Instr))), (List.replicate (w64 (50 + (w64 ((w64 (Int.tmod p3 5)) - 2)))).toNat (GoZero.zero 92 (α := api_Handler)))))) = _ := Eq.trans (by simp only [hm311, guardB, cond_true, Option.bind_some]) hf
        have hlq := KM.le.refl K7
        refine s_al hS rfl rfl rfl ?_
        intro b319 w hS
        replace hS : Sat w K7 (flat [[(b319, Cl [(.string ByteArray.empty), (.slice none 0 0), (.int .i64 0), (.string ByteArray.empty), (.bool false), (.bool false), (.int .i64 0), (.slice none 0 0), (.slice none 0 0)] 67)], C308, L]) := hS
        refine d_go [1, 2] [1, 2] [(10, [0])] [] hX hS hlq rfl rfl trivial ?_
        refine d_op 7 rfl (by kernel_rfl) (by kernel_rfl) (fun X hX => ?_)
        have hlq := KM.le.refl K7
        obtain ⟨hm321, hf⟩ := guardB_some hf
        refine s_mks (e := 92) (α := api_Handler) hS rfl rfl rfl rfl (mayMake_le hm321).1 (mayMake_le hm321).2 rfl rfl rfl rfl rfl rfl ?_
        intro a322 c323 w C324 h325 hS
        refine d_go [2, 3] [0, 2, 3] [(10, [1])] [some 0] hX hS hlq rfl rfl ⟨rfl, trivial⟩ ?_
        refine d_v (v := (.agg #[(.string ByteArray.empty), (.slice none 0 0), (.int .i64 0), (.string ByteArray.empty), (.bool false), (.bool false), (.int .i64 (w64 (200 + (w64 ((w64 (Int.tmod p2 5)) - 2))))), (.slice a306 ((List.replicate (w64 (2000 + (w64 ((w64 (Int.tmod p1 5)) - 2)))).toNat (GoZero.zero 77 (α := api_Instr))).length) c307), (.slice a322 ((List.replicate (w64 (50 + (w64 ((w64 (Int.tmod p3 5)) - 2)))).toNat (GoZero.zero 92 (α := api_Handler))).length) c323)])) 8 (fun _ _ _ _ _ h => h) [0, 2, 3] hS rfl rfl rfl (by kernel_rfl) rfl rfl ?_
        refine d_op 10 rfl (by kernel_rfl) (by kernel_rfl) (fun X hX => ?_)
        have hlq := KM.le.refl K7
        refine s_st (cs' := [(.string ByteArray.empty), (.slice none 0 0), (.int .i64 0), (.string ByteArray.empty), (.bool false), (.bool false), (.int .i64 (w64 (200 + (w64 ((w64 (Int.tmod p2 5)) - 2))))), (.slice a306 ((List.replicate (w64 (2000 + (w64 ((w64 (Int.tmod p1 5)) - 2)))).toNat (GoZero.zero 77 (α := api_Instr))).length) c307), (.slice a322 ((List.replicate (w64 (50 + (w64 ((w64 (Int.tmod p3 5)) - 2)))).toNat (GoZero.zero 92 (α := api_Handler))).length) c323)]) 1 hS rfl rfl rfl rfl rfl ?_
        intro w hS
        replace hS : Sat w K7 (flat [C324, [(b319, Cl [(.string ByteArray.empty), (.slice none 0 0), (.int .i64 0), (.string ByteArray.empty), (.bool false), (.bool false), (.int .i64 (w64 (200 + (w64 ((w64 (Int.tmod p2 5)) - 2))))), (.slice a306 ((List.replicate (w64 (2000 + (w64 ((w64 (Int.tmod p1 5)) - 2)))).toNat (GoZero.zero 77 (α := api_Instr))).length) c307), (.slice a322 ((List.replicate (w64 (50 + (w64 ((w64 (Int.tmod p3 5)) - 2)))).toNat (GoZero.zero 92 (α := api_Handler))).length) c323)] 67)], C308, L]) := hS
        refine d_go [0, 2, 3] [0, 1, 2, 3] [] [none] hX hS hlq rfl rfl ⟨rfl, trivial⟩ ?_
        refine d_end (by kernel_rfl) ?_
        refine qn ?_
        have hq := Option.some.inj hf
        subst hq
        refine s_join hJ _ ⟨K7, b319, a306, c307, C308, a322, c323, C324, rfl, hle, h309, h325, (hS.sel [1, 2, 0, 3] rfl)⟩ ⟨rfl, rfl, rfl, rfl, trivial⟩
    · obtain ⟨hm305, hf⟩ := guardB_some hf
      obtain ⟨hm311, hf⟩ := guardB_some hf
      replace hf : (guardB (mayMake (w64 (50 + (w64 ((w64 (Int.tmod p3 5)) - 2)))) 40) (guardB (mayMake (w64 (2000 + (w64 ((w64 (Int.tmod p1 5)) - 2)))) 88) (some (w64 ((w64 (Int.tmod p1 5)) - 2), w64 ((w64 (Int.tmod p2 5)) - 2), w64 ((w64 (Int.tmod p3 5)) - 2), w64 (200 + (w64 ((w64 (Int.tmod p2 5)) - 2))), (List.replicate (w64 (2000 + (w64 ((w64 (Int.tmod p1 5)) - 2)))).toNat (GoZero.zero 77 (α := api_Instr))), (List.replicate (w64 (50 + (w64 ((w64 (Int.tmod p3 5)) - 2)))).toNat (GoZero.zero 92 (α := api_Handler))))))) = _ := Eq.trans (by simp only [hm305, hm311, guardB, cond_true, Option.bind_some]) hf
      have hlq := KM.le.refl K7
      obtain ⟨hm327, hf⟩ := guardB_some hf
      refine s_mks (e := 92) (α := api_Handler) hS rfl rfl rfl rfl (mayMake_le hm327).1 (mayMake_le hm327).2 rfl rfl rfl rfl rfl rfl ?_
      intro a328 c329 w C330 h331 hS
      refine d_go [1] [0, 1] [] [] hX hS hlq rfl rfl trivial ?_
      refine d_ops [2, 9] (by kernel_rfl) rfl (.cons ⟨rfl, (by kernel_rfl), fun X hX => ?_⟩ (.cons ⟨rfl, (by kernel_rfl), fun X hX => ?_⟩ AllB.nil))
      · have hlq := KM.le.refl K7
        obtain ⟨hm333, hf⟩ := guardB_some hf
        refine s_mks (e := 77) (α := api_Instr) hS rfl rfl rfl rfl (mayMake_le hm333).1 (mayMake_le hm333).2 rfl rfl rfl rfl rfl rfl ?_
        intro a334 c335 w C336 h337 hS
        refine d_go [1, 2] [0, 1, 2] [] [] hX hS hlq rfl rfl trivial ?_
        refine d_v (v := (.agg #[(.string ByteArray.empty), (.slice none 0 0), (.int .i64 0), (.string ByteArray.empty), (.bool false), (.bool false), (.int .i64 (w64 (200 + (w64 ((w64 (Int.tmod p2 5)) - 2))))), (.slice a334 ((List.replicate (w64 (2000 + (w64 ((w64 (Int.tmod p1 5)) - 2)))).toNat (GoZero.zero 77 (α := api_Instr))).length) c335), (.slice a328 ((List.replicate (w64 (50 + (w64 ((w64 (Int.tmod p3 5)) - 2)))).toNat (GoZero.zero 92 (α := api_Handler))).length) c329)])) 8 (fun _ _ _ _ _ h => h) [0, 1, 2] hS rfl rfl rfl (by kernel_rfl) rfl rfl ?_
        refine d_op 9 rfl (by kernel_rfl) (by kernel_rfl) (fun X hX => ?_)
        have hlq := KM.le.refl K7
        refine s_al hS rfl rfl rfl ?_
        intro b339 w hS
        replace hS : Sat w K7 (flat [[(b339, Cl [(.string ByteArray.empty), (.slice none 0 0), (.int .i64 0), (.string ByteArray.empty), (.bool false), (.bool false), (.int .i64 0), (.slice none 0 0), (.slice none 0 0)] 67)], C336, C330, L]) := hS
        refine d_go [1, 2, 3] [1, 2, 3] [(10, [0])] [] hX hS hlq rfl rfl trivial ?_
        refine d_op 10 rfl (by kernel_rfl) (by kernel_rfl) (fun X hX => ?_)
        have hlq := KM.le.refl K7
        refine s_st (cs' := [(.string ByteArray.empty), (.slice none 0 0), (.int .i64 0), (.string ByteArray.empty), (.bool false), (.bool false), (.int .i64 (w64 (200 + (w64 ((w64 (Int.tmod p2 5)) - 2))))), (.slice a334 ((List.replicate (w64 (2000 + (w64 ((w64 (Int.tmod p1 5)) - 2)))).toNat (GoZero.zero 77 (α := api_Instr))).length) c335), (.slice a328 ((List.replicate (w64 (50 + (w64 ((w64 (Int.tmod p3 5)) - 2)))).toNat (GoZero.zero 92 (α := api_Handler))).length) c329)]) 0 hS rfl rfl rfl rfl rfl ?_
        intro w hS
        replace hS : Sat w K7 (flat [[(b339, Cl [(.string ByteArray.empty), (.slice none 0 0), (.int .i64 0), (.string ByteArray.empty), (.bool false), (.bool false), (.int .i64 (w64 (200 + (w64 ((w64 (Int.tmod p2 5)) - 2))))), (.slice a334 ((List.replicate (w64 (2000 + (w64 ((w64 (Int.tmod p1 5)) - 2)))).toNat (GoZero.zero 77 (α := api_Instr))).length) c335), (.slice a328 ((List.replicate (w64 (50 + (w64 ((w64 (Int.tmod p3 5)) - 2)))).toNat (GoZero.zero 92 (α := api_Handler))).length) c329)] 67)], C336, C330, L]) := hS
        refine d_go [1, 2, 3] [0, 1, 2, 3] [] [none] hX hS hlq rfl rfl ⟨rfl, trivial⟩ ?_
        refine d_end (by kernel_rfl) ?_
        refine qn ?_
        have hq := Option.some.inj hf
        subst hq
        refine s_join hJ _ ⟨K7, b339, a334, c335, C336, a328, c329, C330, rfl, hle, h337, h331, hS⟩ ⟨rfl, rfl, rfl, rfl, trivial⟩
      · obtain ⟨hm333, hf⟩ := guardB_some hf
        replace hf : (guardB (mayMake (w64 (2000 + (w64 ((w64 (Int.tmod p1 5)) - 2)))) 88) (some (w64 ((w64 (Int.tmod p1 5)) - 2), w64 ((w64 (Int.tmod p2 5)) - 2), w64 ((w64 (Int.tmod p3 5)) - 2), w64 (200 + (w64 ((w64 (Int.tmod p2 5)) - 2))), (List.replicate (w64 (2000 + (w64 ((w64 (Int.tmod p1 5)) - 2)))).toNat (GoZero.zero 77 (α := api_Instr))), (List.replicate (w64 (50 + (w64 ((w64 (Int.tmod p3 5)) - 2)))).toNat (GoZero.zero 92 (α := api_Handler)))))) = _ := Eq.trans (by simp only [hm333, guardB, cond_true, Option.bind_some]) hf
        have hlq := KM.le.refl K7
        refine s_al hS rfl rfl rfl ?_
        intro b341 w hS
        replace hS : Sat w K7 (flat [[(b341, Cl [(.string ByteArray.empty), (.slice none 0 0), (.int .i64 0), (.string ByteArray.empty), (.bool false), (.bool false), (.int .i64 0), (.slice none 0 0), (.slice none 0 0)] 67)], C330, L]) := hS
        refine d_go [1, 2] [1, 2] [(10, [0])] [] hX hS hlq rfl rfl trivial ?_
        refine d_op 2 rfl (by kernel_rfl) (by kernel_rfl) (fun X hX => ?_)
        have hlq := KM.le.refl K7
        obtain ⟨hm343, hf⟩ := guardB_some hf
        refine s_mks (e := 77) (α := api_Instr) hS rfl rfl rfl rfl (mayMake_le hm343).1 (mayMake_le hm343).2 rfl rfl rfl rfl rfl rfl ?_
        intro a344 c345 w C346 h347 hS
        refine d_go [2, 3] [0, 2, 3] [(10, [1])] [some 0] hX hS hlq rfl rfl ⟨rfl, trivial⟩ ?_
        refine d_v (v := (.agg #[(.string ByteArray.empty), (.slice none 0 0), (.int .i64 0), (.string ByteArray.empty), (.bool false), (.bool false), (.int .i64 (w64 (200 + (w64 ((w64 (Int.tmod p2 5)) - 2))))), (.slice a344 ((List.replicate (w64 (2000 + (w64 ((w64 (Int.tmod p1 5)) - 2)))).toNat (GoZero.zero 77 (α := api_Instr))).length) c345), (.slice a328 ((List.replicate (w64 (50 + (w64 ((w64 (Int.tmod p3 5)) - 2)))).toNat (GoZero.zero 92 (α := api_Handler))).length) c329)])) 8 (fun _ _ _ _ _ h => h) [0, 2, 3] hS rfl rfl rfl (by kernel_rfl) rfl rfl ?_
        refine d_op 10 rfl (by kernel_rfl) (by kernel_rfl) (fun X hX => ?_)
        have hlq := KM.le.refl K7
        refine s_st (cs' := [(.string ByteArray.empty), (.slice none 0 0), (.int .i64 0), (.string ByteArray.empty), (.bool false), (.bool false), (.int .i64 (w64 (200 + (w64 ((w64 (Int.tmod p2 5)) - 2))))), (.slice a344 ((List.replicate (w64 (2000 + (w64 ((w64 (Int.tmod p1 5)) - 2)))).toNat (GoZero.zero 77 (α := api_Instr))).length) c345), (.slice a328 ((List.replicate (w64 (50 + (w64 ((w64 (Int.tmod p3 5)) - 2)))).toNat (GoZero.zero 92 (α := api_Handler))).length) c329)]) 1 hS rfl rfl rfl rfl rfl ?_
        intro w hS
        replace hS : Sat w K7 (flat [C346, [(b341, Cl [(.string ByteArray.empty), (.slice none 0 0), (.int .i64 0), (.string ByteArray.empty), (.bool false), (.bool false), (.int .i64 (w64 (200 + (w64 ((w64 (Int.tmod p2 5)) - 2))))), (.slice a344 ((List.replicate (w64 (2000 + (w64 ((w64 (Int.tmod p1 5)) - 2)))).toNat (GoZero.zero 77 (α := api_Instr))).length) c345), (.slice a328 ((List.replicate (w64 (50 + (w64 ((w64 (Int.tmod p3 5)) - 2)))).toNat (GoZero.zero 92 (α := api_Handler))).length) c329)] 67)], C330, L]) := hS
        refine d_go [0, 2, 3] [0, 1, 2, 3] [] [none] hX hS hlq rfl rfl ⟨rfl, trivial⟩ ?_
        refine d_end (by kernel_rfl) ?_
        refine qn ?_
        have hq := Option.some.inj hf
        subst hq
        refine s_join hJ _ ⟨K7, b341, a344, c345, C346, a328, c329, C330, rfl, hle, h347, h331, (hS.sel [1, 0, 2, 3] rfl)⟩ ⟨rfl, rfl, rfl, rfl, trivial⟩
    · obtain ⟨hm305, hf⟩ := guardB_some hf
      obtain ⟨hm311, hf⟩ := guardB_some hf
      replace hf : (guardB (mayMake (w64 (2000 + (w64 ((w64 (Int.tmod p1 5)) - 2)))) 88) (guardB (mayMake (w64 (50 + (w64 ((w64 (Int.tmod p3 5)) - 2)))) 40) (some (w64 ((w64 (Int.tmod p1 5)) - 2), w64 ((w64 (Int.tmod p2 5)) - 2), w64 ((w64 (Int.tmod p3 5)) - 2), w64 (200 + (w64 ((w64 (Int.tmod p2 5)) - 2))), (List.replicate (w64 (2000 + (w64 ((w64 (Int.tmod p1 5)) - 2)))).toNat (GoZero.zero 77 (α := api_Instr))), (List.replicate (w64 (50 + (w64 ((w64 (Int.tmod p3 5)) - 2)))).toNat (GoZero.zero 92 (α := api_Handler))))))) = _ := Eq.trans (by simp only [hm305, hm311, guardB, cond_true, Option.bind_some]) hf
      have hlq := KM.le.refl K7
      refine s_al hS rfl rfl rfl ?_
      intro b349 w hS
      replace hS : Sat w K7 (flat [[(b349, Cl [(.string ByteArray.empty), (.slice none 0 0), (.int .i64 0), (.string ByteArray.empty), (.bool false), (.bool false), (.int .i64 0), (.slice none 0 0), (.slice none 0 0)] 67)], L]) := hS
      refine d_go [1] [1] [(10, [0])] [] hX hS hlq rfl rfl trivial ?_
      refine d_ops [2, 7] (by kernel_rfl) rfl (.cons ⟨rfl, (by kernel_rfl), fun X hX => ?_⟩ (.cons ⟨rfl, (by kernel_rfl), fun X hX => ?_⟩ AllB.nil))
      · have hlq := KM.le.refl K7
        obtain ⟨hm351, hf⟩ := guardB_some hf
        refine s_mks (e := 77) (α := api_Instr) hS rfl rfl rfl rfl (mayMake_le hm351).1 (mayMake_le hm351).2 rfl rfl rfl rfl rfl rfl ?_
        intro a352 c353 w C354 h355 hS
        refine d_go [2] [0, 2] [(10, [1])] [some 0] hX hS hlq rfl rfl ⟨rfl, trivial⟩ ?_
        refine d_op 7 rfl (by kernel_rfl) (by kernel_rfl) (fun X hX => ?_)
        have hlq := KM.le.refl K7
        obtain ⟨hm357, hf⟩ := guardB_some hf
        refine s_mks (e := 92) (α := api_Handler) hS rfl rfl rfl rfl (mayMake_le hm357).1 (mayMake_le hm357).2 rfl rfl rfl rfl rfl rfl ?_
        intro a358 c359 w C360 h361 hS
        refine d_go [1, 3] [0, 1, 3] [(10, [2])] [some 0] hX hS hlq rfl rfl ⟨rfl, trivial⟩ ?_
        refine d_v (v := (.agg #[(.string ByteArray.empty), (.slice none 0 0), (.int .i64 0), (.string ByteArray.empty), (.bool false), (.bool false), (.int .i64 (w64 (200 + (w64 ((w64 (Int.tmod p2 5)) - 2))))), (.slice a352 ((List.replicate (w64 (2000 + (w64 ((w64 (Int.tmod p1 5)) - 2)))).toNat (GoZero.zero 77 (α := api_Instr))).length) c353), (.slice a358 ((List.replicate (w64 (50 + (w64 ((w64 (Int.tmod p3 5)) - 2)))).toNat (GoZero.zero 92 (α := api_Handler))).length) c359)])) 8 (fun _ _ _ _ _ h => h) [0, 1, 3] hS rfl rfl rfl (by kernel_rfl) rfl rfl ?_
        refine d_op 10 rfl (by kernel_rfl) (by kernel_rfl) (fun X hX => ?_)
        have hlq := KM.le.refl K7
        refine s_st (cs' := [(.string ByteArray.empty), (.slice none 0 0), (.int .i64 0), (.string ByteArray.empty), (.bool false), (.bool false), (.int .i64 (w64 (200 + (w64 ((w64 (Int.tmod p2 5)) - 2))))), (.slice a352 ((List.replicate (w64 (2000 + (w64 ((w64 (Int.tmod p1 5)) - 2)))).toNat (GoZero.zero 77 (α := api_Instr))).length) c353), (.slice a358 ((List.replicate (w64 (50 + (w64 ((w64 (Int.tmod p3 5)) - 2)))).toNat (GoZero.zero 92 (α := api_Handler))).length) c359)]) 2 hS rfl rfl rfl rfl rfl ?_
        intro w hS
        replace hS : Sat w K7 (flat [C360, C354, [(b349, Cl [(.string ByteArray.empty), (.slice none 0 0), (.int .i64 0), (.string ByteArray.empty), (.bool false), (.bool false), (.int .i64 (w64 (200 + (w64 ((w64 (Int.tmod p2 5)) - 2))))), (.slice a352 ((List.replicate (w64 (2000 + (w64 ((w64 (Int.tmod p1 5)) - 2)))).toNat (GoZero.zero 77 (α := api_Instr))).length) c353), (.slice a358 ((List.replicate (w64 (50 + (w64 ((w64 (Int.tmod p3 5)) - 2)))).toNat (GoZero.zero 92 (α := api_Handler))).length) c359)] 67)], L]) := hS
        refine d_go [0, 1, 3] [0, 1, 2, 3] [] [none] hX hS hlq rfl rfl ⟨rfl, trivial⟩ ?_
        refine d_end (by kernel_rfl) ?_
        refine qn ?_
        have hq := Option.some.inj hf
        subst hq
        refine s_join hJ _ ⟨K7, b349, a352, c353, C354, a358, c359, C360, rfl, hle, h355, h361, (hS.sel [2, 1, 0, 3] rfl)⟩ ⟨rfl, rfl, rfl, rfl, trivial⟩
      · obtain ⟨hm351, hf⟩ := guardB_some hf
        obtain ⟨hm357, hf⟩ := guardB_some hf
        replace hf : (guardB (mayMake (w64 (50 + (w64 ((w64 (Int.tmod p3 5)) - 2)))) 40) (guardB (mayMake (w64 (2000 + (w64 ((w64 (Int.tmod p1 5)) - 2)))) 88) (some (w64 ((w64 (Int.tmod p1 5)) - 2), w64 ((w64 (Int.tmod p2 5)) - 2), w64 ((w64 (Int.tmod p3 5)) - 2), w64 (200 + (w64 ((w64 (Int.tmod p2 5)) - 2))), (List.replicate (w64 (2000 + (w64 ((w64 (Int.tmod p1 5)) - 2)))).toNat (GoZero.zero 77 (α := api_Instr))), (List.replicate (w64 (50 + (w64 ((w64 (Int.tmod p3 5)) - 2)))).toNat (GoZero.zero 92 (α := api_Handler))))))) = _ := Eq.trans (by simp only [hm351, hm357, guardB, cond_true, Option.bind_some]) hf
        have hlq := KM.le.refl K7
        obtain ⟨hm363, hf⟩ := guardB_some hf
        refine s_mks (e := 92) (α := api_Handler) hS rfl rfl rfl rfl (mayMake_le hm363).1 (mayMake_le hm363).2 rfl rfl rfl rfl rfl rfl ?_
        intro a364 c365 w C366 h367 hS
        refine d_go [2] [0, 2] [(10, [1])] [some 0] hX hS hlq rfl rfl ⟨rfl, trivial⟩ ?_
        refine d_op 2 rfl (by kernel_rfl) (by kernel_rfl) (fun X hX => ?_)
        have hlq := KM.le.refl K7
        obtain ⟨hm369, hf⟩ := guardB_some hf
        refine s_mks (e := 77) (α := api_Instr) hS rfl rfl rfl rfl (mayMake_le hm369).1 (mayMake_le hm369).2 rfl rfl rfl rfl rfl rfl ?_
        intro a370 c371 w C372 h373 hS
        refine d_go [1, 3] [0, 1, 3] [(10, [2])] [some 0] hX hS hlq rfl rfl ⟨rfl, trivial⟩ ?_
        refine d_v (v := (.agg #[(.string ByteArray.empty), (.slice none 0 0), (.int .i64 0), (.string ByteArray.empty), (.bool false), (.bool false), (.int .i64 (w64 (200 + (w64 ((w64 (Int.tmod p2 5)) - 2))))), (.slice a370 ((List.replicate (w64 (2000 + (w64 ((w64 (Int.tmod p1 5)) - 2)))).toNat (GoZero.zero 77 (α := api_Instr))).length) c371), (.slice a364 ((List.replicate (w64 (50 + (w64 ((w64 (Int.tmod p3 5)) - 2)))).toNat (GoZero.zero 92 (α := api_Handler))).length) c365)])) 8 (fun _ _ _ _ _ h => h) [0, 1, 3] hS rfl rfl rfl (by kernel_rfl) rfl rfl ?_
        refine d_op 10 rfl (by kernel_rfl) (by kernel_rfl) (fun X hX => ?_)
        have hlq := KM.le.refl K7
        refine s_st (cs' := [(.string ByteArray.empty), (.slice none 0 0), (.int .i64 0), (.string ByteArray.empty), (.bool false), (.bool false), (.int .i64 (w64 (200 + (w64 ((w64 (Int.tmod p2 5)) - 2))))), (.slice a370 ((List.replicate (w64 (2000 + (w64 ((w64 (Int.tmod p1 5)) - 2)))).toNat (GoZero.zero 77 (α := api_Instr))).length) c371), (.slice a364 ((List.replicate (w64 (50 + (w64 ((w64 (Int.tmod p3 5)) - 2)))).toNat (GoZero.zero 92 (α := api_Handler))).length) c365)]) 2 hS rfl rfl rfl rfl rfl ?_
        intro w hS
        replace hS : Sat w K7 (flat [C372, C366, [(b349, Cl [(.string ByteArray.empty), (.slice none 0 0), (.int .i64 0), (.string ByteArray.empty), (.bool false), (.bool false), (.int .i64 (w64 (200 + (w64 ((w64 (Int.tmod p2 5)) - 2))))), (.slice a370 ((List.replicate (w64 (2000 + (w64 ((w64 (Int.tmod p1 5)) - 2)))).toNat (GoZero.zero 77 (α := api_Instr))).length) c371), (.slice a364 ((List.replicate (w64 (50 + (w64 ((w64 (Int.tmod p3 5)) - 2)))).toNat (GoZero.zero 92 (α := api_Handler))).length) c365)] 67)], L]) := hS
        refine d_go [0, 1, 3] [0, 1, 2, 3] [] [none] hX hS hlq rfl rfl ⟨rfl, trivial⟩ ?_
        refine d_end (by kernel_rfl) ?_
        refine qn ?_
        have hq := Option.some.inj hf
        subst hq
        refine s_join hJ _ ⟨K7, b349, a370, c371, C372, a364, c365, C366, rfl, hle, h373, h367, (hS.sel [2, 0, 1, 3] rfl)⟩ ⟨rfl, rfl, rfl, rfl, trivial⟩
  rintro _ w ⟨K220, b221, a224, c225, C226, a229, c230, C231, rfl, hle, h223, h228, hS⟩
  refine s_seq ?_
  refine s_reg ?_
  refine s_ld (v := (.agg #[(.string ByteArray.empty), (.slice none 0 0), (.int .i64 0), (.string ByteArray.empty), (.bool false), (.bool false), (.int .i64 s233.2.2.2.1), (.slice a224 s233.2.2.2.2.1.length c225), (.slice a229 s233.2.2.2.2.2.length c230)])) 0 hS rfl rfl rfl rfl rfl ?_
  obtain ⟨K375, hk376, h377, hS⟩ := h223.freeze (hS.sel [1, 0, 2, 3] rfl)
  replace h228 := h228.mono hk376
  replace hle := hle.trans hk376
  obtain ⟨K378, hk379, h380, hS⟩ := h228.freeze (hS.sel [1, 0, 2] rfl)
  replace h377 := h377.mono hk379
  replace hle := hle.trans hk379
  obtain ⟨x381, hx382, hf⟩ := Option.bind_eq_some_iff.1 hf
  refine s_call isf36 hS.nilG (rewrite_Fits_spec hx382) rfl rfl rfl ?_
  rintro _ K383 C385 w hk384 rfl hS
  replace hS := hS.drop1
  replace h377 := h377.mono hk384
  replace h380 := h380.mono hk384
  replace hle := hle.trans hk384
  refine s_v rfl rfl rfl ?_
  refine s_v rfl rfl rfl ?_
  refine s_v rfl rfl rfl ?_
  obtain ⟨s387, hst388, hf⟩ := Option.bind_eq_some_iff.1 hf
  refine r_cut [_, _, _] (fun τ w => ∃ (K386 : KM), τ = [(9, (.int .i64 s233.2.2.1)), (35, (.bool x381)), (41, (.bool s387))] ∧ KM.le K K386 ∧ Sat w K386 (flat [L])) rfl (fun J hJ => ?_) ?_
  · replace hf := hst388
    cases hc : (decide (s233.1 ≤ 0))
    · replace hf := bif_f hc hf
      refine s_no rfl rfl ?_
      refine s_no rfl rfl ?_
      refine s_v rfl rfl rfl ?_
      have hq := Option.some.inj hf
      subst hq
      refine r_join hJ _ ⟨K383, rfl, hle, (hS.sel [1] rfl)⟩ ⟨rfl, rfl, rfl, trivial⟩
    · replace hf := bif_t hc hf
      refine s_v rfl rfl rfl ?_
      refine s_v rfl rfl rfl ?_
      refine s_v rfl rfl rfl ?_
      have hq := Option.some.inj hf
      subst hq
      refine r_join hJ _ ⟨K383, rfl, hle, (hS.sel [1] rfl)⟩ ⟨rfl, rfl, rfl, trivial⟩
  rintro _ w ⟨K386, rfl, hle, hS⟩
  refine s_v rfl rfl rfl ?_
  obtain ⟨s390, hst391, hf⟩ := Option.bind_eq_some_iff.1 hf
  refine r_cut [_, _, _] (fun τ w => ∃ (K389 : KM), τ = [(35, (.bool x381)), (45, (.bool s390))] ∧ KM.le K K389 ∧ Sat w K389 (flat [L])) rfl (fun J hJ => ?_) ?_
  · replace hf := hst391
    cases hc : s387
    · replace hf := bif_f hc hf
      refine s_no rfl rfl ?_
      refine s_no rfl rfl ?_
      refine s_v rfl rfl rfl ?_
      have hq := Option.some.inj hf
      subst hq
      refine r_join hJ _ ⟨K386, rfl, hle, hS⟩ ⟨rfl, rfl, trivial⟩
    · replace hf := bif_t hc hf
      refine s_v rfl rfl rfl ?_
      refine s_v rfl rfl rfl ?_
      refine s_v rfl rfl rfl ?_
      have hq := Option.some.inj hf
      subst hq
      refine r_join hJ _ ⟨K386, rfl, hle, hS⟩ ⟨rfl, rfl, trivial⟩
  rintro _ w ⟨K389, rfl, hle, hS⟩
  refine s_v rfl rfl rfl ?_
  refine s_v rfl rfl rfl ?_
  refine s_nil ?_
  refine qn ?_
  refine s_rets ?_
  have hq := Option.some.inj hf
  subst hq
  refine s_ret1 rfl (rv_t rfl) ?_
  exact ⟨K389, _, hle, rfl, Sat.nilG (hS.sel [0] rfl)⟩
end Go.Proofs.Ytgaldjnnfkdohaa
