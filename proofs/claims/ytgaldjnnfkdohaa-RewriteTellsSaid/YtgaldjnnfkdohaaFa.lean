/- Functions of the program, and their walks: what each reckons, and that its code reckons it. -/
import Derived.Test.YtgaldjnnfkdohaaTy
set_option linter.unusedVariables false
set_option linter.unusedSimpArgs false
set_option maxHeartbeats 0
set_option maxRecDepth 100000
namespace Go.Proofs.Ytgaldjnnfkdohaa
open Go Go.Fw
noncomputable def bod54 : Code := Try.f54.body.getD .skip
theorem isf54 : IsFn Try.prog 54 Try.f54 bod54 := ⟨Try.func54, rfl, by decide⟩
noncomputable def bod55 : Code := Try.f55.body.getD .skip
theorem isf55 : IsFn Try.prog 55 Try.f55 bod55 := ⟨Try.func55, rfl, by decide⟩
noncomputable def bod56 : Code := Try.f56.body.getD .skip
theorem isf56 : IsFn Try.prog 56 Try.f56 bod56 := ⟨Try.func56, rfl, by decide⟩
noncomputable def bod36 : Code := Try.f36.body.getD .skip
theorem isf36 : IsFn Try.prog 36 Try.f36 bod36 := ⟨Try.func36, rfl, by decide⟩
noncomputable def bod33 : Code := Try.f33.body.getD .skip
theorem isf33 : IsFn Try.prog 33 Try.f33 bod33 := ⟨Try.func33, rfl, by decide⟩
noncomputable def bod29 : Code := Try.f29.body.getD .skip
theorem isf29 : IsFn Try.prog 29 Try.f29 bod29 := ⟨Try.func29, rfl, by decide⟩
noncomputable def bod10 : Code := Try.f10.body.getD .skip
theorem isf10 : IsFn Try.prog 10 Try.f10 bod10 := ⟨Try.func10, rfl, by decide⟩
-- 54 bonsai/op.Jumps
def op_Jumps.fn (p1 : Int) : Option Bool := (bif p1 == 19 then (some true) else (some (p1 == 20))).bind fun s4 => some s4
theorem op_Jumps_spec {K : KM} {p1 : Int} {r : Bool} (hf : op_Jumps.fn p1 = some r) : Sp Try.prog 54 [(.int .i64 p1)] K [] (fun K' C v => v = (.bool r)) := by
  unfold op_Jumps.fn at hf
  refine spec_enter isf54 rfl ?_
  intro w L hS
  replace hS : Sat w K (flat [L]) := hS
  have hle := KM.le.refl K
  unfold bod54 Try.f54
  dsimp only [Option.getD_some, argSlots]
  refine s_seq (s_reg ?_)
  refine s_v rfl rfl rfl ?_
  refine s_nil (qn (s_seq (s_reg ?_)))
  iterate 3 refine s_v rfl rfl rfl ?_
  obtain ⟨s4, hst5, hf⟩ := bs hf
  refine r_cut [_, _, _] (fun τ w => ∃ (K3 : KM), τ = [(8, (.bool s4))] ∧ KM.le K K3 ∧ Sat w K3 (flat [L])) rfl (fun J hJ => ?_) ?_
  · replace hf := hst5
    cases hc : (p1 == 19)
    · replace hf := bif_f hc hf
      iterate 3 refine s_v rfl rfl rfl ?_
      have hq := Option.some.inj hf
      subst hq
      refine r_join hJ _ ⟨K, rfl, hle, hS⟩ ⟨rfl, trivial⟩
    replace hf := bif_t hc hf
    refine s_no rfl rfl ?_
    refine s_no rfl rfl ?_
    refine s_v rfl rfl rfl ?_
    have hq := Option.some.inj hf
    subst hq
    refine r_join hJ _ ⟨K, rfl, hle, hS⟩ ⟨rfl, trivial⟩
  rintro _ w ⟨K3, rfl, hle, hS⟩
  refine s_v rfl rfl rfl ?_
  refine s_nil (qn (s_rets ?_))
  have hq := Option.some.inj hf
  subst hq
  refine s_ret1 rfl (rv_t rfl) ?_
  exact ⟨K3, _, hle, rfl, Sat.nilG (hS.sel [0] rfl)⟩
-- 55 bonsai/rewrite.within
def rewrite_within.fn (p1 : Int) (p2 : Int) : Option Bool := (bif decide (p1 ≥ 0) then (some (decide (p1 ≤ p2))) else (some false)).bind fun s5 => some s5
theorem rewrite_within_spec {K : KM} {p1 : Int} {p2 : Int} {r : Bool} (hf : rewrite_within.fn p1 p2 = some r) : Sp Try.prog 55 [(.int .i64 p1), (.int .i64 p2)] K [] (fun K' C v => v = (.bool r)) := by
  unfold rewrite_within.fn at hf
  refine spec_enter isf55 rfl ?_
  intro w L hS
  replace hS : Sat w K (flat [L]) := hS
  have hle := KM.le.refl K
  unfold bod55 Try.f55
  dsimp only [Option.getD_some, argSlots]
  refine s_seq (s_reg ?_)
  refine s_v rfl rfl rfl ?_
  refine s_nil (qn (s_seq (s_reg ?_)))
  iterate 3 refine s_v rfl rfl rfl ?_
  obtain ⟨s5, hst6, hf⟩ := bs hf
  refine r_cut [_, _, _, _] (fun τ w => ∃ (K4 : KM), τ = [(11, (.bool s5))] ∧ KM.le K K4 ∧ Sat w K4 (flat [L])) rfl (fun J hJ => ?_) ?_
  · replace hf := hst6
    cases hc : (decide (p1 ≥ 0))
    · replace hf := bif_f hc hf
      refine s_no rfl rfl ?_
      refine s_no rfl rfl ?_
      refine s_no rfl rfl ?_
      refine s_v rfl rfl rfl ?_
      have hq := Option.some.inj hf
      subst hq
      refine r_join hJ _ ⟨K, rfl, hle, hS⟩ ⟨rfl, trivial⟩
    replace hf := bif_t hc hf
    iterate 4 refine s_v rfl rfl rfl ?_
    have hq := Option.some.inj hf
    subst hq
    refine r_join hJ _ ⟨K, rfl, hle, hS⟩ ⟨rfl, trivial⟩
  rintro _ w ⟨K4, rfl, hle, hS⟩
  refine s_v rfl rfl rfl ?_
  refine s_nil (qn (s_rets ?_))
  have hq := Option.some.inj hf
  subst hq
  refine s_ret1 rfl (rv_t rfl) ?_
  exact ⟨K4, _, hle, rfl, Sat.nilG (hS.sel [0] rfl)⟩
-- 56 slices.Clone[[]bonsai/api.Handler,bonsai/api.Handler]
def slices_Clone_api_Handler_api_Handler.fn (p1 : (List api_Handler)) : Option (List api_Handler) := guardB (roomy ([] : (List api_Handler)).length p1.length 40) (some p1)
theorem slices_Clone_api_Handler_api_Handler_spec {K : KM} {p1 : (List api_Handler)} {r : (List api_Handler)} {a2 : Option Addr} {c3 : Nat} (hf : slices_Clone_api_Handler_api_Handler.fn p1 = some r) (h4 : SlK 92 K a2 c3 p1) : Sp Try.prog 56 [(.slice a2 p1.length c3)] K [] (fun K' C v => ∃ (a : Option Addr) (c : Nat), v = (.slice a r.length c) ∧ OwnS 92 K' (.slice a r.length c) r C) := by
  unfold slices_Clone_api_Handler_api_Handler.fn at hf
  obtain ⟨hm, hf⟩ := gs hf
  have hq := Option.some.inj hf; subst hq
  refine spec_enter isf56 rfl ?_
  intro w L hS
  replace hS : Sat w K (flat [L]) := hS
  have hle := KM.le.refl K
  unfold bod56 Try.f56
  dsimp only [Option.getD_some, argSlots]
  refine s_seq ?_
  refine s_reg ?_
  refine s_v rfl rfl rfl ?_
  refine s_nil ?_
  refine qn ?_
  refine s_seq ?_
  refine s_seq ?_
  refine s_reg ?_
  refine s_v rfl rfl rfl ?_
  refine s_eqn (e := 92) rfl rfl rfl rfl rfl rfl ?_
  refine s_nil ?_
  refine qn ?_
  refine s_if rfl (fun hc => ?_) (fun hc => ?_)
  · cases a2 with
    | some _ => cases hc
    | none =>
      have h0 := h4.none_nil; subst h0
      refine s_seq ?_; refine s_reg ?_; refine s_v rfl rfl rfl ?_; refine s_nil ?_; refine qn ?_
      refine s_rets ?_; refine qrt ?_
      refine s_ret1 rfl (rv_t rfl) ?_
      exact ⟨K, [], hle, ⟨none, 0, rfl, OwnS.nil⟩, hS⟩
  · refine s_skip ?_; refine qn ?_
    refine s_seq ?_; refine s_reg ?_
    refine s_bw (cs := []) hS rfl rfl rfl rfl rfl rfl rfl rfl rfl ?_
    intro b w hS
    refine s_v rfl rfl rfl ?_
    have h5 : OwnS 92 K (.slice (some ⟨b, 0, none⟩) 0 0) ([] : (List api_Handler)) [(b, Cl [] 92)] := OwnS.lit (Cat.nil) rfl rfl
    refine s_appk (e := 92) 0 hS rfl h5 h4 rfl rfl rfl rfl rfl rfl rfl (roomy_le hm) rfl rfl rfl ?_
    intro a c w C h6 hS
    refine s_v rfl rfl rfl ?_
    refine s_nil ?_
    refine qn ?_
    refine s_rets ?_
    refine s_ret1 rfl (rv_t rfl) ?_
    exact ⟨K, C, hle, ⟨a, c, rfl, h6⟩, hS⟩
-- 36 bonsai/rewrite.Fits
def rewrite_Fits.fn (p1 : api_Method) : Option Bool := (bif decide ((p1.Code.length : Int) ≤ 2000) then (some (decide (p1.Locals ≤ 200))) else (some false)).bind fun s15 => (bif s15 then (some (decide ((p1.Handlers.length : Int) ≤ 50))) else (some false)).bind fun s18 => some s18
theorem rewrite_Fits_spec {K : KM} {p1 : api_Method} {r : Bool} {a2 : Option Addr} {c3 : Nat} {a5 : Option Addr} {c6 : Nat} {a8 : Option Addr} {c9 : Nat} (hf : rewrite_Fits.fn p1 = some r) : Sp Try.prog 36 [(.agg (vv67 p1 a2 c3 a5 c6 a8 c9).toArray)] K [] (fun K' C v => v = (.bool r)) := by
  unfold rewrite_Fits.fn at hf
  refine spec_enter isf36 rfl ?_
  intro w L hS
  replace hS : Sat w K (flat [L]) := hS
  have hle := KM.le.refl K
  unfold bod36 Try.f36
  dsimp only [Option.getD_some, argSlots]
  refine s_seq (s_reg ?_)
  refine s_bx hS rfl rfl rfl ?_
  intro b12 w hS
  replace hS : Sat w K (flat ([(b12, Cl (vv67 p1 a2 c3 a5 c6 a8 c9) 67)] :: _)) := hS
  refine s_v rfl rfl rfl ?_
  refine s_nil (qn (s_seq (s_reg ?_)))
  refine s_v rfl rfl rfl ?_
  refine s_ld 0 hS rfl rfl rfl rfl rfl ?_
  iterate 3 refine s_v rfl rfl rfl ?_
  obtain ⟨s15, hst16, hf⟩ := bs hf
  refine r_cut [_, _, _, _] (fun τ w => ∃ (K14 : KM), τ = [(1, (.pointer (some ⟨b12, 0, none⟩))), (11, (.bool s15))] ∧ KM.le K K14 ∧ Sat w K14 (flat [[(b12, Cl (vv67 p1 a2 c3 a5 c6 a8 c9) 67)], L])) rfl (fun J hJ => ?_) ?_
  · replace hf := hst16
    cases hc : (decide ((p1.Code.length : Int) ≤ 2000))
    · replace hf := bif_f hc hf
      refine s_no rfl rfl ?_
      refine s_no rfl rfl ?_
      refine s_no rfl rfl ?_
      refine s_v rfl rfl rfl ?_
      have hq := Option.some.inj hf
      subst hq
      refine r_join hJ _ ⟨K, rfl, hle, hS⟩ ⟨rfl, rfl, trivial⟩
    replace hf := bif_t hc hf
    refine s_v rfl rfl rfl ?_
    refine s_ld 0 hS rfl rfl rfl rfl rfl ?_
    iterate 2 refine s_v rfl rfl rfl ?_
    have hq := Option.some.inj hf
    subst hq
    refine r_join hJ _ ⟨K, rfl, hle, hS⟩ ⟨rfl, rfl, trivial⟩
  rintro _ w ⟨K14, rfl, hle, hS⟩
  refine s_v rfl rfl rfl ?_
  obtain ⟨s18, hst19, hf⟩ := bs hf
  refine r_cut [_, _, _, _, _] (fun τ w => ∃ (K17 : KM), τ = [(17, (.bool s18))] ∧ KM.le K K17 ∧ Sat w K17 (flat [L])) rfl (fun J hJ => ?_) ?_
  · replace hf := hst19
    cases hc : s15
    · replace hf := bif_f hc hf
      refine s_no rfl rfl ?_
      refine s_no rfl rfl ?_
      refine s_no rfl rfl ?_
      refine s_no rfl rfl ?_
      refine s_v rfl rfl rfl ?_
      have hq := Option.some.inj hf
      subst hq
      refine r_join hJ _ ⟨K14, rfl, hle, (hS.sel [1] rfl)⟩ ⟨rfl, trivial⟩
    replace hf := bif_t hc hf
    refine s_v rfl rfl rfl ?_
    refine s_ld 0 hS rfl rfl rfl rfl rfl ?_
    iterate 3 refine s_v rfl rfl rfl ?_
    have hq := Option.some.inj hf
    subst hq
    refine r_join hJ _ ⟨K14, rfl, hle, (hS.sel [1] rfl)⟩ ⟨rfl, trivial⟩
  rintro _ w ⟨K17, rfl, hle, hS⟩
  refine s_v rfl rfl rfl ?_
  refine s_nil (qn (s_rets ?_))
  have hq := Option.some.inj hf
  subst hq
  refine s_ret1 rfl (rv_t rfl) ?_
  exact ⟨K17, _, hle, rfl, Sat.nilG (hS.sel [0] rfl)⟩
-- 33 bonsai/rewrite.Method
def rewrite_Method.l0 (fu : Nat) (p1 : api_Method) (p11 : (List (List api_Instr))) : Nat → (List api_Instr) → (List Int) → Int → Option ((List api_Instr) × (List Int))
  | 0, _, _, _ => none
  | k + 1, v919, v920, v921 => bif decide (v921 < (p1.Code.length : Int)) then (((idx p1.Code v921).bind fun x1010 => guardB (roomy v920.length 1 8) ((bif decide (v921 < (p11.length : Int)) then ((idx p11 v921).bind fun x1050 => some (decide ((x1050.length : Int) > 0))) else (some false)).bind fun s1048 => bif s1048 then ((idx p11 v921).bind fun x1058 => guardB (roomy v919.length x1058.length 88) (some (v919 ++ x1058))) else (guardB (roomy v919.length 1 88) (some (v919 ++ ([x1010] : List api_Instr)))))).bind fun s1008 => rewrite_Method.l0 fu p1 p11 k s1008 (v920 ++ ([(v919.length : Int)] : List Int)) (w64 (v921 + 1))) else (some (v919, v920))
def rewrite_Method.l1 (fu : Nat) (p1 : api_Method) (s554 : ((List api_Instr) × (List Int))) : Nat → (List api_Instr) → Int → Option (LR (List api_Instr) (api_Method × Bool))
  | 0, _, _ => none
  | k + 1, v1731, v1732 => bif decide (v1732 < (s554.1.length : Int)) then (LR.then ((idx v1731 v1732).bind fun x1793 => (op_Jumps.fn x1793.Op).bind fun x1804 => bif !x1804 then (some (.brk v1731)) else ((rewrite_within.fn x1793.K (w64 ((p1.Code.length : Int) - 1))).bind fun x1809 => bif !x1809 then (LR.esc (LR.esc (some ((api_Method.mk ByteArray.empty [] (api_Type.mk 0 ByteArray.empty) false false 0 ([] : List api_Instr) ([] : List api_Handler)), false)))) else ((idx (s554.2 ++ ([(s554.1.length : Int)] : List Int)) x1793.K).bind fun x1816 => (idx v1731 v1732).bind fun x1826 => some (.brk (v1731.set (v1732 : Int).toNat (api_Instr.mk x1826.Op x1826.N x1816 x1826.S x1826.Class x1826.Name x1826.Desc)))))) fun s1789 => rewrite_Method.l1 fu p1 s554 k s1789 (w64 (v1732 + 1))) else (some (.brk v1731))
def rewrite_Method.l2 (fu : Nat) (p1 : api_Method) (s554 : ((List api_Instr) × (List Int))) (x1837 : (List api_Handler)) : Nat → (List api_Handler) → Int → Option (LR (List api_Handler) (api_Method × Bool))
  | 0, _, _ => none
  | k + 1, v3323, v3324 => bif decide (v3324 < (x1837.length : Int)) then ((idx v3323 v3324).bind fun x3325 => (rewrite_within.fn x3325.From (w64 ((p1.Code.length : Int) - 1))).bind fun x3336 => (bif !x3336 then (some true) else ((rewrite_within.fn x3325.To (p1.Code.length : Int)).bind fun x3366 => some (!x3366))).bind fun s3364 => (bif s3364 then (some true) else ((rewrite_within.fn x3325.At (w64 ((p1.Code.length : Int) - 1))).bind fun x3396 => some (!x3396))).bind fun s3394 => bif s3394 then (LR.esc (some ((api_Method.mk ByteArray.empty [] (api_Type.mk 0 ByteArray.empty) false false 0 ([] : List api_Instr) ([] : List api_Handler)), false))) else ((idx (s554.2 ++ ([(s554.1.length : Int)] : List Int)) x3325.From).bind fun x3525 => (idx (s554.2 ++ ([(s554.1.length : Int)] : List Int)) x3325.To).bind fun x3535 => (idx (s554.2 ++ ([(s554.1.length : Int)] : List Int)) x3325.At).bind fun x3545 => (idx v3323 v3324).bind fun x3554 => (idx (v3323.set (v3324 : Int).toNat (api_Handler.mk x3525 x3554.To x3554.At x3554.Catch)) v3324).bind fun x3566 => (idx ((v3323.set (v3324 : Int).toNat (api_Handler.mk x3525 x3554.To x3554.At x3554.Catch)).set (v3324 : Int).toNat (api_Handler.mk x3566.From x3535 x3566.At x3566.Catch)) v3324).bind fun x3578 => rewrite_Method.l2 fu p1 s554 x1837 k (((v3323.set (v3324 : Int).toNat (api_Handler.mk x3525 x3554.To x3554.At x3554.Catch)).set (v3324 : Int).toNat (api_Handler.mk x3566.From x3535 x3566.At x3566.Catch)).set (v3324 : Int).toNat (api_Handler.mk x3578.From x3578.To x3545 x3578.Catch)) (w64 (v3324 + 1)))) else (some (.brk v3323))
def rewrite_Method.fn (fu : Nat) (p1 : api_Method) (p11 : (List (List api_Instr))) : Option (api_Method × Bool) := (rewrite_Method.l0 fu p1 p11 fu ([] : List api_Instr) ([] : List Int) 0).bind fun s554 => guardB (roomy s554.2.length 1 8) (LR.then (rewrite_Method.l1 fu p1 s554 fu s554.1 0) fun s1465 => (slices_Clone_api_Handler_api_Handler.fn p1.Handlers).bind fun x1837 => LR.then (rewrite_Method.l2 fu p1 s554 x1837 fu x1837 0) fun s2721 => bif decide ((s1465.length : Int) > 2000) then (some ((api_Method.mk ByteArray.empty [] (api_Type.mk 0 ByteArray.empty) false false 0 ([] : List api_Instr) ([] : List api_Handler)), false)) else (some ((api_Method.mk p1.Name p1.Params (api_Type.mk p1.Ret.Kind p1.Ret.Class) p1.Static p1.Abstract p1.Locals s1465 s2721), true)))
theorem rewrite_Method_spec {K : KM} {fu : Nat} {p1 : api_Method} {p11 : (List (List api_Instr))} {r : (api_Method × Bool)} {a2 : Option Addr} {c3 : Nat} {a5 : Option Addr} {c6 : Nat} {a8 : Option Addr} {c9 : Nat} {a12 : Option Addr} {c13 : Nat} (hf : rewrite_Method.fn fu p1 p11 = some r) (h4 : SlK 63 K a2 c3 p1.Params) (h7 : SlK 77 K a5 c6 p1.Code) (h10 : SlK 92 K a8 c9 p1.Handlers) (h14 : SlK 64 K a12 c13 p11) : Sp Try.prog 33 [(.agg (vv67 p1 a2 c3 a5 c6 a8 c9).toArray), (.slice a12 p11.length c13)] K [] (fun K' C v => ∃ (a3591 : Option Addr) (c3592 : Nat) (a3594 : Option Addr) (c3595 : Nat) (a3597 : Option Addr) (c3598 : Nat) (C_0 : Chunks) (C_1 : Chunks), v = (.tuple #[(.agg (vv67 r.1 a3591 c3592 a3594 c3595 a3597 c3598).toArray), (.bool r.2)]) ∧ SlK 63 K' a3591 c3592 r.1.Params ∧ OwnS 77 K' (.slice a3594 r.1.Code.length c3595) r.1.Code C_0 ∧ OwnS 92 K' (.slice a3597 r.1.Handlers.length c3598) r.1.Handlers C_1 ∧ C = flat [C_0, C_1]) := by
  unfold rewrite_Method.fn at hf
  refine spec_enter isf33 rfl ?_
  intro w L hS
  replace hS : Sat w K (flat [L]) := hS
  have hle := KM.le.refl K
  unfold bod33 Try.f33
  dsimp only [Option.getD_some, argSlots]
  refine s_seq (s_reg ?_)
  refine s_bx hS rfl rfl rfl ?_
  intro b16 w hS
  replace hS : Sat w K (flat ([(b16, Cl (vv67 p1 a2 c3 a5 c6 a8 c9) 67)] :: _)) := hS
  refine s_al hS rfl rfl rfl ?_
  intro b18 w hS
  replace hS : Sat w K (flat ([(b18, Cl [(.string ByteArray.empty), (.slice none 0 0), (.int .i64 0), (.string ByteArray.empty), (.bool false), (.bool false), (.int .i64 0), (.slice none 0 0), (.slice none 0 0)] 67)] :: _)) := hS
  refine s_v rfl rfl rfl ?_
  refine s_nil (qn (s_seq (s_reg ?_)))
  refine s_v rfl rfl rfl ?_
  refine s_ld 1 hS rfl rfl rfl rfl rfl ?_
  iterate 2 refine s_v rfl rfl rfl ?_
  refine s_nil (qn (s_seq (s_reg ?_)))
  refine s_v rfl rfl rfl ?_
  refine s_nil (qn (s_seq (s_reg ?_)))
  refine s_v rfl rfl rfl ?_
  refine s_nil (qn ?_)
  obtain ⟨s554, hst555, hf⟩ := bs hf
  refine s_cut (fun τ w => ∃ (K540 : KM) (a545 : Option Addr) (c546 : Nat) (C547 : Chunks) (a550 : Option Addr) (c551 : Nat) (C552 : Chunks), τ = [(2, (.pointer (some ⟨b16, 0, none⟩))), (4, (.pointer (some ⟨b18, 0, none⟩))), (6, (.int .i64 (p1.Code.length : Int))), (7, (.slice a545 s554.1.length c546)), (8, (.slice a550 s554.2.length c551))] ∧ KM.le K K540 ∧ SlK 63 K540 a2 c3 p1.Params ∧ SlK 77 K540 a5 c6 p1.Code ∧ SlK 92 K540 a8 c9 p1.Handlers ∧ OwnS 77 K540 (.slice a545 s554.1.length c546) s554.1 C547 ∧ OwnS 3 K540 (.slice a550 s554.2.length c551) s554.2 C552 ∧ Sat w K540 (flat [[(b16, Cl (vv67 p1 a2 c3 a5 c6 a8 c9) 67)], [(b18, Cl [(.string ByteArray.empty), (.slice none 0 0), (.int .i64 0), (.string ByteArray.empty), (.bool false), (.bool false), (.int .i64 0), (.slice none 0 0), (.slice none 0 0)] 67)], C547, C552, L])) (fun J hJ => ?_) ?_
  · replace hf := hst555
    refine s_seq (s_reg ?_)
    refine s_v rfl rfl rfl ?_
    refine s_ld 1 hS rfl rfl rfl rfl rfl ?_
    iterate 2 refine s_v rfl rfl rfl ?_
    refine s_nil (qn (s_block ?_))
    replace hS := hS.nilG
    replace hS := hS.nilG
    refine s_loopp (fun n τ w => ∃ (v919 : (List api_Instr)) (v920 : (List Int)) (v921 : Int) (K903 : KM) (a909 : Option Addr) (c910 : Nat) (C911 : Chunks) (a914 : Option Addr) (c915 : Nat) (C916 : Chunks), rewrite_Method.l0 fu p1 p11 n v919 v920 v921 = some s554 ∧ τ = [(1, (.slice a12 p11.length c13)), (2, (.pointer (some ⟨b16, 0, none⟩))), (4, (.pointer (some ⟨b18, 0, none⟩))), (6, (.int .i64 (p1.Code.length : Int))), (7, (.slice a909 v919.length c910)), (8, (.slice a914 v920.length c915)), (19, (.slice a5 p1.Code.length c6)), (20, (.int .i64 (p1.Code.length : Int))), (21, (.int .i64 v921))] ∧ KM.le K K903 ∧ SlK 64 K903 a12 c13 p11 ∧ SlK 63 K903 a2 c3 p1.Params ∧ SlK 77 K903 a5 c6 p1.Code ∧ SlK 92 K903 a8 c9 p1.Handlers ∧ OwnS 77 K903 (.slice a909 v919.length c910) v919 C911 ∧ OwnS 3 K903 (.slice a914 v920.length c915) v920 C916 ∧ SlK 77 K903 a5 c6 p1.Code ∧ Sat w K903 (flat [[(b16, Cl (vv67 p1 a2 c3 a5 c6 a8 c9) 67)], [(b18, Cl [(.string ByteArray.empty), (.slice none 0 0), (.int .i64 0), (.string ByteArray.empty), (.bool false), (.bool false), (.int .i64 0), (.slice none 0 0), (.slice none 0 0)] 67)], C911, C916, L])) _ ⟨([] : List api_Instr), ([] : List Int), 0, K, none, 0, [], none, 0, [], hf, rfl, hle, h14, h4, h7, h10, OwnS.nil, OwnS.nil, h7, (hS.sel [3, 2, 1, 0, 4] rfl)⟩ ⟨rfl, rfl, rfl, rfl, rfl, rfl, rfl, rfl, rfl, trivial⟩ ?_ ?_
    · rintro _ _ ⟨_, _, _, _, _, _, _, _, _, _, hf, _⟩
      exact absurd hf (by simp [rewrite_Method.l0])
    rintro n _ w Y hY ⟨v919, v920, v921, K903, a909, c910, C911, a914, c915, C916, hf, rfl, hle, h904, h905, h906, h907, h908, h913, h918, hS⟩
    rw [rewrite_Method.l0] at hf
    refine s_seq (s_reg ?_)
    refine s_v rfl rfl rfl ?_
    refine s_nil (qn (s_seq ?_))
    refine s_if rfl (fun hc => ?_) (fun hc => ?_)
    · replace hf := bif_t hc hf
      refine s_skip (qn ?_)
      obtain ⟨s1008, hst1009, hf⟩ := bs hf
      refine s_cut (fun τ w => ∃ (K992 : KM) (a998 : Option Addr) (c999 : Nat) (C1000 : Chunks) (a1003 : Option Addr) (c1004 : Nat) (C1005 : Chunks), τ = [(1, (.slice a12 p11.length c13)), (2, (.pointer (some ⟨b16, 0, none⟩))), (4, (.pointer (some ⟨b18, 0, none⟩))), (6, (.int .i64 (p1.Code.length : Int))), (7, (.slice a998 s1008.length c999)), (8, (.slice a1003 ((v920 ++ ([(v919.length : Int)] : List Int)).length) c1004)), (19, (.slice a5 p1.Code.length c6)), (20, (.int .i64 (p1.Code.length : Int))), (21, (.int .i64 v921))] ∧ KM.le K K992 ∧ SlK 64 K992 a12 c13 p11 ∧ SlK 63 K992 a2 c3 p1.Params ∧ SlK 77 K992 a5 c6 p1.Code ∧ SlK 92 K992 a8 c9 p1.Handlers ∧ OwnS 77 K992 (.slice a998 s1008.length c999) s1008 C1000 ∧ OwnS 3 K992 (.slice a1003 ((v920 ++ ([(v919.length : Int)] : List Int)).length) c1004) (v920 ++ ([(v919.length : Int)] : List Int)) C1005 ∧ SlK 77 K992 a5 c6 p1.Code ∧ Sat w K992 (flat [[(b16, Cl (vv67 p1 a2 c3 a5 c6 a8 c9) 67)], [(b18, Cl [(.string ByteArray.empty), (.slice none 0 0), (.int .i64 0), (.string ByteArray.empty), (.bool false), (.bool false), (.int .i64 0), (.slice none 0 0), (.slice none 0 0)] 67)], C1000, C1005, L])) (fun J hJ => ?_) ?_
      · replace hf := hst1009
        refine s_block (s_seq (s_reg ?_))
        refine s_v rfl rfl rfl ?_
        obtain ⟨x1010, hx1011, hf⟩ := bs hf
        refine s_ixk h918 rfl hx1011 rfl rfl rfl rfl rfl rfl rfl ?_
        rintro b1012 o1013 _ rfl h1014
        refine s_ldk (v := (.agg (vv77 x1010).toArray)) 0 hS h1014 rfl rfl rfl rfl ?_
        refine s_al hS rfl rfl rfl ?_
        intro b1015 w hS
        replace hS : Sat w K903 (flat ([(b1015, Cl [(.int .i64 0), (.int .i32 0), (.int .i64 0), (.string ByteArray.empty), (.string ByteArray.empty), (.string ByteArray.empty), (.string ByteArray.empty)] 77)] :: _)) := hS
        refine s_v rfl rfl rfl ?_
        refine s_st (cs' := (vv77 x1010)) 0 hS rfl rfl rfl rfl rfl ?_
        intro w hS
        replace hS : Sat w _ (flat [_, _, _, _, _, _]) := hS
        refine s_nil (qn (s_seq (s_reg ?_)))
        iterate 3 refine s_v rfl rfl rfl ?_
        refine s_bwc (cs := [(.int .i64 (v919.length : Int))]) hS rfl rfl rfl rfl rfl rfl rfl rfl rfl rfl ?_
        intro b1017 w hS
        obtain ⟨hm1019, hf⟩ := gs hf
        refine s_appv (e := 3) (ys := ([(v919.length : Int)] : List Int)) 5 0 hS rfl h913 rfl ⟨[(.int .i64 (v919.length : Int))], _, rfl, rfl, rfl⟩ rfl rfl rfl rfl rfl rfl rfl rfl (roomy_le hm1019) rfl rfl rfl ?_
        intro a1020 c1021 w C1022 h1023 hS
        replace hS : Sat w _ (flat [_, _, _, _, _, _, _]) := hS
        refine s_v rfl rfl rfl ?_
        refine s_nil (qn ?_)
        replace hS : Sat w K903 (flat [_, _, _, _, _, _]) := (hS.sel [1, 2, 3, 4, 5, 6] rfl)
        refine s_seq (s_reg ?_)
        iterate 5 refine s_v rfl rfl rfl ?_
        obtain ⟨s1048, hst1049, hf⟩ := bs hf
        refine r_cut [_, _, _, _, _, _, _] (fun τ w => ∃ (K1032 : KM) (C1040 : Chunks) (C1045 : Chunks), τ = [(1, (.slice a12 p11.length c13)), (2, (.pointer (some ⟨b16, 0, none⟩))), (4, (.pointer (some ⟨b18, 0, none⟩))), (6, (.int .i64 (p1.Code.length : Int))), (7, (.slice a909 v919.length c910)), (8, (.slice a1020 ((v920 ++ ([(v919.length : Int)] : List Int)).length) c1021)), (9, (.int .i64 v921)), (10, (.pointer (some ⟨b1015, 0, none⟩))), (19, (.slice a5 p1.Code.length c6)), (20, (.int .i64 (p1.Code.length : Int))), (21, (.int .i64 v921)), (42, (.bool s1048))] ∧ KM.le K K1032 ∧ SlK 64 K1032 a12 c13 p11 ∧ SlK 63 K1032 a2 c3 p1.Params ∧ SlK 77 K1032 a5 c6 p1.Code ∧ SlK 92 K1032 a8 c9 p1.Handlers ∧ OwnS 77 K1032 (.slice a909 v919.length c910) v919 C1040 ∧ OwnS 3 K1032 (.slice a1020 ((v920 ++ ([(v919.length : Int)] : List Int)).length) c1021) (v920 ++ ([(v919.length : Int)] : List Int)) C1045 ∧ SlK 77 K1032 a5 c6 p1.Code ∧ Sat w K1032 (flat [[(b16, Cl (vv67 p1 a2 c3 a5 c6 a8 c9) 67)], [(b18, Cl [(.string ByteArray.empty), (.slice none 0 0), (.int .i64 0), (.string ByteArray.empty), (.bool false), (.bool false), (.int .i64 0), (.slice none 0 0), (.slice none 0 0)] 67)], C1040, C1045, [(b1015, Cl (vv77 x1010) 77)], L])) rfl (fun J hJ => ?_) ?_
        · replace hf := hst1049
          cases hc : (decide (v921 < (p11.length : Int)))
          · replace hf := bif_f hc hf
            refine s_no rfl rfl ?_
            refine s_no rfl rfl ?_
            refine s_no rfl rfl ?_
            refine s_no rfl rfl ?_
            refine s_no rfl rfl ?_
            refine s_no rfl rfl ?_
            refine s_v rfl rfl rfl ?_
            have hq := Option.some.inj hf
            subst hq
            refine r_join hJ _ ⟨K903, C911, C1022, rfl, hle, h904, h905, h906, h907, h908, h1023, h918, (hS.sel [1, 2, 3, 4, 0, 5] rfl)⟩ ⟨rfl, rfl, rfl, rfl, rfl, rfl, rfl, rfl, rfl, rfl, rfl, rfl, trivial⟩
          replace hf := bif_t hc hf
          iterate 2 refine s_v rfl rfl rfl ?_
          obtain ⟨x1050, hx1051, hf⟩ := bs hf
          refine s_ixk h904 rfl hx1051 rfl rfl rfl rfl rfl rfl rfl ?_
          rintro b1055 o1056 _ ⟨a1052, c1053, rfl, h1054⟩ h1057
          refine s_ldk 0 hS h1057 rfl rfl rfl rfl ?_
          iterate 3 refine s_v rfl rfl rfl ?_
          have hq := Option.some.inj hf
          subst hq
          refine r_join hJ _ ⟨K903, C911, C1022, rfl, hle, h904, h905, h906, h907, h908, h1023, h918, (hS.sel [1, 2, 3, 4, 0, 5] rfl)⟩ ⟨rfl, rfl, rfl, rfl, rfl, rfl, rfl, rfl, rfl, rfl, rfl, rfl, trivial⟩
        rintro _ w ⟨K1032, C1040, C1045, rfl, hle, h1033, h1034, h1035, h1036, h1037, h1042, h1047, hS⟩
        refine s_nil (qn ?_)
        refine s_if rfl (fun hc => ?_) (fun hc => ?_)
        · replace hf := bif_t hc hf
          refine s_reg ?_
          iterate 3 refine s_v rfl rfl rfl ?_
          obtain ⟨x1058, hx1059, hf⟩ := bs hf
          refine s_ixk h1033 rfl hx1059 rfl rfl rfl rfl rfl rfl rfl ?_
          rintro b1063 o1064 _ ⟨a1060, c1061, rfl, h1062⟩ h1065
          refine s_ldk 0 hS h1065 rfl rfl rfl rfl ?_
          obtain ⟨hm1066, hf⟩ := gs hf
          refine s_appk (e := 77) 2 hS rfl h1037 h1062 rfl rfl rfl rfl rfl rfl rfl (roomy_le hm1066) rfl rfl rfl ?_
          intro a1067 c1068 w C1069 h1070 hS
          replace hS : Sat w _ (flat [_, _, _, _, _, _]) := hS
          refine s_v rfl rfl rfl ?_
          refine s_nil (qbn (qn ?_))
          have hq := Option.some.inj hf
          subst hq
          refine s_join hJ _ ⟨K1032, a1067, c1068, C1069, a1020, c1021, C1045, rfl, hle, h1033, h1034, h1035, h1036, h1070, h1042, h1047, (hS.sel [0, 1, 2, 3, 5] rfl)⟩ ⟨rfl, rfl, rfl, rfl, rfl, rfl, rfl, rfl, rfl, trivial⟩
        replace hf := bif_f hc hf
        refine s_reg ?_
        refine s_v rfl rfl rfl ?_
        refine s_ld (v := (.agg (vv77 x1010).toArray)) 4 hS rfl rfl rfl rfl rfl ?_
        refine s_bwc (cs := (vv77 x1010)) hS rfl rfl rfl rfl rfl rfl rfl rfl rfl rfl ?_
        intro b1071 w hS
        obtain ⟨hm1073, hf⟩ := gs hf
        refine s_appv (e := 77) (ys := ([x1010] : List api_Instr)) 3 0 hS rfl h1037 rfl ⟨(vv77 x1010), _, rfl, rfl, rfl⟩ rfl rfl rfl rfl rfl rfl rfl rfl (roomy_le hm1073) rfl rfl rfl ?_
        intro a1074 c1075 w C1076 h1077 hS
        replace hS : Sat w _ (flat [_, _, _, _, _, _, _]) := hS
        refine s_v rfl rfl rfl ?_
        refine s_nil (qbn (qn ?_))
        have hq := Option.some.inj hf
        subst hq
        refine s_join hJ _ ⟨K1032, a1074, c1075, C1076, a1020, c1021, C1045, rfl, hle, h1033, h1034, h1035, h1036, h1077, h1042, h1047, (hS.sel [1, 2, 3, 4, 6] rfl)⟩ ⟨rfl, rfl, rfl, rfl, rfl, rfl, rfl, rfl, rfl, trivial⟩
      rintro _ w ⟨K992, a998, c999, C1000, a1003, c1004, C1005, rfl, hle, h993, h994, h995, h996, h997, h1002, h1007, hS⟩
      refine s_reg ?_
      iterate 2 refine s_v rfl rfl rfl ?_
      refine s_nil (qn ?_)
      refine s_join hY _ ⟨s1008, (v920 ++ ([(v919.length : Int)] : List Int)), w64 (v921 + 1), K992, a998, c999, C1000, a1003, c1004, C1005, hf, rfl, hle, h993, h994, h995, h996, h997, h1002, h1007, hS⟩ ⟨rfl, rfl, rfl, rfl, rfl, rfl, rfl, rfl, rfl, trivial⟩
    replace hf := bif_f hc hf
    refine s_exit (qxt (qxt (qxb (qn ?_))))
    have hq := Option.some.inj hf
    subst hq
    refine s_join hJ _ ⟨K903, a909, c910, C911, a914, c915, C916, rfl, hle, h905, h906, h907, h908, h913, hS⟩ ⟨rfl, rfl, rfl, rfl, rfl, trivial⟩
  rintro _ w ⟨K540, a545, c546, C547, a550, c551, C552, rfl, hle, h541, h542, h543, h544, h549, hS⟩
  refine s_seq (s_reg ?_)
  iterate 3 refine s_v rfl rfl rfl ?_
  refine s_bwc (cs := [(.int .i64 (s554.1.length : Int))]) hS rfl rfl rfl rfl rfl rfl rfl rfl rfl rfl ?_
  intro b1078 w hS
  obtain ⟨hm1080, hf⟩ := gs hf
  refine s_appv (e := 3) (ys := ([(s554.1.length : Int)] : List Int)) 4 0 hS rfl h549 rfl ⟨[(.int .i64 (s554.1.length : Int))], _, rfl, rfl, rfl⟩ rfl rfl rfl rfl rfl rfl rfl rfl (roomy_le hm1080) rfl rfl rfl ?_
  intro a1081 c1082 w C1083 h1084 hS
  replace hS : Sat w _ (flat [_, _, _, _, _, _]) := hS
  refine s_v rfl rfl rfl ?_
  refine s_nil (qn ?_)
  replace hS : Sat w K540 (flat [_, _, _, _, _]) := (hS.sel [1, 2, 3, 4, 5] rfl)
  obtain ⟨res1466, hst1467, hm1468⟩ := LR.then_some hf
  refine s_cut (fun τ w => ∃ (s1465 : (List api_Instr)) (K1451 : KM) (C1458 : Chunks) (C1463 : Chunks), res1466 = .brk s1465 ∧ τ = [(2, (.pointer (some ⟨b16, 0, none⟩))), (4, (.pointer (some ⟨b18, 0, none⟩))), (6, (.int .i64 (p1.Code.length : Int))), (7, (.slice a545 s1465.length c546)), (8, (.slice a1081 ((s554.2 ++ ([(s554.1.length : Int)] : List Int)).length) c1082))] ∧ KM.le K K1451 ∧ SlK 63 K1451 a2 c3 p1.Params ∧ SlK 77 K1451 a5 c6 p1.Code ∧ SlK 92 K1451 a8 c9 p1.Handlers ∧ OwnS 77 K1451 (.slice a545 s1465.length c546) s1465 C1458 ∧ OwnS 3 K1451 (.slice a1081 ((s554.2 ++ ([(s554.1.length : Int)] : List Int)).length) c1082) (s554.2 ++ ([(s554.1.length : Int)] : List Int)) C1463 ∧ Sat w K1451 (flat [[(b16, Cl (vv67 p1 a2 c3 a5 c6 a8 c9) 67)], [(b18, Cl [(.string ByteArray.empty), (.slice none 0 0), (.int .i64 0), (.string ByteArray.empty), (.bool false), (.bool false), (.int .i64 0), (.slice none 0 0), (.slice none 0 0)] 67)], C1458, C1463, L])) (fun J hJ => ?_) ?_
  · replace hf := hst1467
    refine s_seq (s_reg ?_)
    iterate 3 refine s_v rfl rfl rfl ?_
    refine s_nil (qn (s_block ?_))
    refine s_loopp (fun n τ w => ∃ (v1731 : (List api_Instr)) (v1732 : Int) (K1717 : KM) (C1724 : Chunks) (C1729 : Chunks), rewrite_Method.l1 fu p1 s554 n v1731 v1732 = some res1466 ∧ τ = [(2, (.pointer (some ⟨b16, 0, none⟩))), (4, (.pointer (some ⟨b18, 0, none⟩))), (6, (.int .i64 (p1.Code.length : Int))), (7, (.slice a545 v1731.length c546)), (8, (.slice a1081 ((s554.2 ++ ([(s554.1.length : Int)] : List Int)).length) c1082)), (59, (.slice a545 v1731.length c546)), (60, (.int .i64 (s554.1.length : Int))), (61, (.int .i64 v1732))] ∧ KM.le K K1717 ∧ SlK 63 K1717 a2 c3 p1.Params ∧ SlK 77 K1717 a5 c6 p1.Code ∧ SlK 92 K1717 a8 c9 p1.Handlers ∧ OwnS 77 K1717 (.slice a545 v1731.length c546) v1731 C1724 ∧ OwnS 3 K1717 (.slice a1081 ((s554.2 ++ ([(s554.1.length : Int)] : List Int)).length) c1082) (s554.2 ++ ([(s554.1.length : Int)] : List Int)) C1729 ∧ Sat w K1717 (flat [[(b16, Cl (vv67 p1 a2 c3 a5 c6 a8 c9) 67)], [(b18, Cl [(.string ByteArray.empty), (.slice none 0 0), (.int .i64 0), (.string ByteArray.empty), (.bool false), (.bool false), (.int .i64 0), (.slice none 0 0), (.slice none 0 0)] 67)], C1724, C1729, L])) _ ⟨s554.1, 0, K540, C547, C1083, hf, rfl, hle, h541, h542, h543, h544, h1084, hS⟩ ⟨rfl, rfl, rfl, rfl, rfl, rfl, rfl, rfl, trivial⟩ ?_ ?_
    · rintro _ _ ⟨_, _, _, _, _, hf, _⟩
      exact absurd hf (by simp [rewrite_Method.l1])
    rintro n _ w Y hY ⟨v1731, v1732, K1717, C1724, C1729, hf, rfl, hle, h1718, h1719, h1720, h1721, h1726, hS⟩
    rw [rewrite_Method.l1] at hf
    refine s_seq (s_reg ?_)
    refine s_v rfl rfl rfl ?_
    refine s_nil (qn (s_seq ?_))
    refine s_if rfl (fun hc => ?_) (fun hc => ?_)
    · replace hf := bif_t hc hf
      refine s_skip (qn ?_)
      obtain ⟨res1790, hst1791, hm1792⟩ := LR.then_some hf
      refine s_cut (fun τ w => ∃ (s1789 : (List api_Instr)) (K1775 : KM) (C1782 : Chunks) (C1787 : Chunks), res1790 = .brk s1789 ∧ τ = [(2, (.pointer (some ⟨b16, 0, none⟩))), (4, (.pointer (some ⟨b18, 0, none⟩))), (6, (.int .i64 (p1.Code.length : Int))), (7, (.slice a545 s1789.length c546)), (8, (.slice a1081 ((s554.2 ++ ([(s554.1.length : Int)] : List Int)).length) c1082)), (59, (.slice a545 s1789.length c546)), (60, (.int .i64 (s554.1.length : Int))), (61, (.int .i64 v1732))] ∧ KM.le K K1775 ∧ SlK 63 K1775 a2 c3 p1.Params ∧ SlK 77 K1775 a5 c6 p1.Code ∧ SlK 92 K1775 a8 c9 p1.Handlers ∧ OwnS 77 K1775 (.slice a545 s1789.length c546) s1789 C1782 ∧ OwnS 3 K1775 (.slice a1081 ((s554.2 ++ ([(s554.1.length : Int)] : List Int)).length) c1082) (s554.2 ++ ([(s554.1.length : Int)] : List Int)) C1787 ∧ Sat w K1775 (flat [[(b16, Cl (vv67 p1 a2 c3 a5 c6 a8 c9) 67)], [(b18, Cl [(.string ByteArray.empty), (.slice none 0 0), (.int .i64 0), (.string ByteArray.empty), (.bool false), (.bool false), (.int .i64 0), (.slice none 0 0), (.slice none 0 0)] 67)], C1782, C1787, L])) (fun J hJ => ?_) ?_
      · replace hf := hst1791
        refine s_block (s_seq (s_reg ?_))
        refine s_v rfl rfl rfl ?_
        obtain ⟨x1793, hx1794, hf⟩ := bs hf
        refine s_ixo 2 hS rfl h1721 hx1794 rfl rfl rfl rfl rfl rfl rfl ?_
        intro b1795 l1796 cs1799 l1797 hcs_ hC1800 hun1798
        obtain rfl := hcs_
        subst hC1800
        have hq1801 := KM.le.refl K1717
        refine s_ldm (v := (.agg (vv77 x1793).toArray)) 2 0 hS rfl rfl rfl rfl rfl ?_
        refine s_al hS rfl rfl rfl ?_
        intro b1802 w hS
        replace hS : Sat w K1717 (flat ([(b1802, Cl [(.int .i64 0), (.int .i32 0), (.int .i64 0), (.string ByteArray.empty), (.string ByteArray.empty), (.string ByteArray.empty), (.string ByteArray.empty)] 77)] :: _)) := hS
        refine s_v rfl rfl rfl ?_
        refine s_st (cs' := (vv77 x1793)) 0 hS rfl rfl rfl rfl rfl ?_
        intro w hS
        replace hS : Sat w _ (flat [_, _, _, _, _, _]) := hS
        refine s_nil (qn (s_seq (s_seq (s_reg ?_))))
        refine s_v rfl rfl rfl ?_
        refine s_ld 0 hS rfl rfl rfl rfl rfl ?_
        obtain ⟨x1804, hx1805, hf⟩ := bs hf
        refine s_call isf54 hS.nilG (op_Jumps_spec hx1805) rfl rfl rfl ?_
        rintro _ K1806 C1808 w hk1807 rfl hS
        replace hS := hS.drop1
        refine s_v rfl rfl rfl ?_
        refine s_nil (qn ?_)
        refine s_if rfl (fun hc => ?_) (fun hc => ?_)
        · replace hf := bif_t hc hf
          refine s_exit (qxt (qxb (qn ?_)))
          have hq := Option.some.inj hf
          subst hq
          replace h1718 := h1718.mono hk1807
          replace h1719 := h1719.mono hk1807
          replace h1720 := h1720.mono hk1807
          replace h1721 := h1721.mono hk1807
          replace h1726 := h1726.mono hk1807
          replace hle := hle.trans hk1807
          refine s_join hJ _ ⟨v1731, K1806, [(b1795, Cl (l1796 ++ (((vv77 x1793) : List Value) ++ l1797)) 77)], C1729, rfl, rfl, hle, h1718, h1719, h1720, h1721, h1726, (hS.sel [1, 2, 3, 4, 5] rfl)⟩ ⟨rfl, rfl, rfl, rfl, rfl, rfl, rfl, rfl, trivial⟩
        replace hf := bif_f hc hf
        refine s_skip (qn (s_seq (s_seq (s_reg ?_))))
        refine s_v rfl rfl rfl ?_
        refine s_ld 0 hS rfl rfl rfl rfl rfl ?_
        iterate 2 refine s_v rfl rfl rfl ?_
        obtain ⟨x1809, hx1810, hf⟩ := bs hf
        refine s_call isf55 hS.nilG (rewrite_within_spec hx1810) rfl rfl rfl ?_
        rintro _ K1811 C1813 w hk1812 rfl hS
        replace hS := hS.drop1
        refine s_v rfl rfl rfl ?_
        refine s_nil (qn ?_)
        refine s_if rfl (fun hc => ?_) (fun hc => ?_)
        · replace hf := bif_t hc hf
          refine s_seq (s_reg ?_)
          refine s_v (v := (.agg #[(.string ByteArray.empty), (.slice none 0 0), (.int .i64 0), (.string ByteArray.empty), (.bool false), (.bool false), (.int .i64 0), (.slice none 0 0), (.slice none 0 0)])) rfl rfl rfl ?_
          refine s_st (cs' := [(.string ByteArray.empty), (.slice none 0 0), (.int .i64 0), (.string ByteArray.empty), (.bool false), (.bool false), (.int .i64 0), (.slice none 0 0), (.slice none 0 0)]) 2 hS rfl rfl rfl rfl rfl ?_
          intro w hS
          replace hS : Sat w _ (flat [_, _, _, _, _, _]) := hS
          refine s_v rfl rfl rfl ?_
          refine s_nil (qn ?_)
          replace hS : Sat w K1811 (flat [_, _]) := (hS.sel [2, 5] rfl)
          refine s_rets (qrt (qrb (qrt ?_)))
          replace hf := LR.esc_some hf hm1792
          refine qrt (qrb (qrt ?_))
          replace hf := LR.esc_some hf hm1468
          replace hS := hS.nilG
          replace hS := hS.nilG
          have hq := Option.some.inj hf
          subst hq
          refine s_ret2 rfl (rv_c (v := (.agg #[(.string ByteArray.empty), (.slice none 0 0), (.int .i64 0), (.string ByteArray.empty), (.bool false), (.bool false), (.int .i64 0), (.slice none 0 0), (.slice none 0 0)])) 2 hS rfl rfl rfl) (rv_t rfl) ?_
          replace hle := hle.trans (hk1807.trans hk1812)
          exact ⟨K1811, _, hle, ⟨none, 0, none, 0, none, 0, [], [], rfl, SlK.nil, OwnS.nil, OwnS.nil, rfl⟩, Sat.shut2 (hS.sel [1, 0, 3] rfl)⟩
        replace hf := bif_f hc hf
        refine s_skip (qn (s_reg ?_))
        iterate 4 refine s_v rfl rfl rfl ?_
        refine s_ld 0 hS rfl rfl rfl rfl rfl ?_
        obtain ⟨x1816, hx1817, hf⟩ := bs hf
        replace h1726 := h1726.mono (hk1807.trans hk1812)
        refine s_ixo 4 hS rfl h1726 hx1817 rfl rfl rfl rfl rfl rfl rfl ?_
        intro b1818 l1819 cs1822 l1820 hcs_ hC1823 hun1821
        obtain rfl := hcs_
        subst hC1823
        have hq1824 := KM.le.refl K1811
        refine s_ldm 4 0 hS rfl rfl rfl rfl rfl ?_
        replace h1721 := h1721.mono (hk1807.trans hk1812)
        generalize hCg_ : ([(b1795, Cl (l1796 ++ (((vv77 x1793) : List Value) ++ l1797)) 77)] : Chunks) = C1825 at hS h1721
        clear hCg_
        obtain ⟨x1826, hx1827, hf⟩ := bs hf
        refine s_ixo 3 hS rfl h1721 hx1827 rfl rfl rfl rfl rfl rfl rfl ?_
        intro b1828 l1829 cs1832 l1830 hcs_ hC1833 hun1831
        obtain rfl := hcs_
        subst hC1833
        have hq1834 := KM.le.refl K1811
        refine s_v rfl rfl rfl ?_
        refine s_stm (cs' := [(.int .i64 x1826.Op), (.int .i32 x1826.N), (.int .i64 x1816), (.string x1826.S), (.string x1826.Class), (.string x1826.Name), (.string x1826.Desc)]) 3 2 hS rfl rfl rfl rfl rfl ?_
        intro w hS
        replace hS : Sat w _ (flat [_, _, _, _, _, _]) := hS
        have h1835 := hun1831 K1811 _ _ hq1834 (show GoData.cells 77 _ (api_Instr.mk x1826.Op x1826.N x1816 x1826.S x1826.Class x1826.Name x1826.Desc) _ from rfl)
        have hl1836 := OwnS.len h1835
        refine s_nil (qbn (qn ?_))
        have hq := Option.some.inj hf
        subst hq
        replace h1718 := h1718.mono (hk1807.trans hk1812)
        replace h1719 := h1719.mono (hk1807.trans hk1812)
        replace h1720 := h1720.mono (hk1807.trans hk1812)
        replace hle := hle.trans (hk1807.trans hk1812)
        refine s_join hJ _ ⟨(v1731.set (v1732 : Int).toNat (api_Instr.mk x1826.Op x1826.N x1816 x1826.S x1826.Class x1826.Name x1826.Desc)), K1811, [(b1828, Cl (l1829 ++ (([(.int .i64 x1826.Op), (.int .i32 x1826.N), (.int .i64 x1816), (.string x1826.S), (.string x1826.Class), (.string x1826.Name), (.string x1826.Desc)] : List Value) ++ l1830)) 77)], [(b1818, Cl (l1819 ++ (([(.int .i64 x1816)] : List Value) ++ l1820)) 3)], rfl, rfl, hle, h1718, h1719, h1720, (OwnS.norm h1835), h1726, (by (try rw [hl1836]); (try rw [hl1836]); exact (hS.sel [1, 2, 3, 4, 5] rfl))⟩ ⟨rfl, rfl, rfl, (by rw [hl1836]; rfl), rfl, (by rw [hl1836]; rfl), rfl, rfl, trivial⟩
      rintro _ w ⟨s1789, K1775, C1782, C1787, rfl, rfl, hle, h1776, h1777, h1778, h1779, h1784, hS⟩
      replace hf := LR.elim_brk hm1792
      refine s_reg ?_
      iterate 2 refine s_v rfl rfl rfl ?_
      refine s_nil (qn ?_)
      refine s_join hY _ ⟨s1789, w64 (v1732 + 1), K1775, C1782, C1787, hf, rfl, hle, h1776, h1777, h1778, h1779, h1784, hS⟩ ⟨rfl, rfl, rfl, rfl, rfl, rfl, rfl, rfl, trivial⟩
    replace hf := bif_f hc hf
    refine s_exit (qxt (qxt (qxb (qn ?_))))
    have hq := Option.some.inj hf
    subst hq
    refine s_join hJ _ ⟨v1731, K1717, C1724, C1729, rfl, rfl, hle, h1718, h1719, h1720, h1721, h1726, hS⟩ ⟨rfl, rfl, rfl, rfl, rfl, trivial⟩
  rintro _ w ⟨s1465, K1451, C1458, C1463, rfl, rfl, hle, h1452, h1453, h1454, h1455, h1460, hS⟩
  replace hf := LR.elim_brk hm1468
  refine s_seq (s_reg ?_)
  refine s_v rfl rfl rfl ?_
  refine s_ld 0 hS rfl rfl rfl rfl rfl ?_
  obtain ⟨x1837, hx1838, hf⟩ := bs hf
  refine s_call isf56 hS.nilG (slices_Clone_api_Handler_api_Handler_spec hx1838 h1454) rfl rfl rfl ?_
  rintro _ K1839 C1841 w hk1840 ⟨a1842, c1843, rfl, h1844⟩ hS
  refine s_v rfl rfl rfl ?_
  refine s_st (cs' := [(.string p1.Name), (.slice a2 p1.Params.length c3), (.int .i64 p1.Ret.Kind), (.string p1.Ret.Class), (.bool p1.Static), (.bool p1.Abstract), (.int .i64 p1.Locals), (.slice a5 p1.Code.length c6), (.slice a1842 x1837.length c1843)]) 1 hS rfl rfl rfl rfl rfl ?_
  intro w hS
  replace hS : Sat w _ (flat [_, _, _, _, _, _]) := hS
  refine s_nil (qn ?_)
  obtain ⟨res2722, hst2723, hm2724⟩ := LR.then_some hf
  refine s_cut (fun τ w => ∃ (s2721 : (List api_Handler)) (K2708 : KM) (C2714 : Chunks) (C2719 : Chunks), res2722 = .brk s2721 ∧ τ = [(2, (.pointer (some ⟨b16, 0, none⟩))), (4, (.pointer (some ⟨b18, 0, none⟩))), (7, (.slice a545 s1465.length c546))] ∧ KM.le K K2708 ∧ SlK 63 K2708 a2 c3 p1.Params ∧ SlK 77 K2708 a5 c6 p1.Code ∧ OwnS 92 K2708 (.slice a1842 s2721.length c1843) s2721 C2714 ∧ OwnS 77 K2708 (.slice a545 s1465.length c546) s1465 C2719 ∧ Sat w K2708 (flat [[(b16, Cl [(.string p1.Name), (.slice a2 p1.Params.length c3), (.int .i64 p1.Ret.Kind), (.string p1.Ret.Class), (.bool p1.Static), (.bool p1.Abstract), (.int .i64 p1.Locals), (.slice a5 p1.Code.length c6), (.slice a1842 s2721.length c1843)] 67)], C2714, [(b18, Cl [(.string ByteArray.empty), (.slice none 0 0), (.int .i64 0), (.string ByteArray.empty), (.bool false), (.bool false), (.int .i64 0), (.slice none 0 0), (.slice none 0 0)] 67)], C2719, L])) (fun J hJ => ?_) ?_
  · replace hf := hst2723
    refine s_seq (s_reg ?_)
    refine s_v rfl rfl rfl ?_
    refine s_ld 1 hS rfl rfl rfl rfl rfl ?_
    iterate 2 refine s_v rfl rfl rfl ?_
    refine s_nil (qn (s_block ?_))
    replace h1452 := h1452.mono hk1840
    replace h1453 := h1453.mono hk1840
    replace h1455 := h1455.mono hk1840
    replace h1460 := h1460.mono hk1840
    replace hle := hle.trans hk1840
    refine s_loopp (fun n τ w => ∃ (v3323 : (List api_Handler)) (v3324 : Int) (K3305 : KM) (C3311 : Chunks) (C3316 : Chunks) (C3321 : Chunks), rewrite_Method.l2 fu p1 s554 x1837 n v3323 v3324 = some res2722 ∧ τ = [(2, (.pointer (some ⟨b16, 0, none⟩))), (4, (.pointer (some ⟨b18, 0, none⟩))), (6, (.int .i64 (p1.Code.length : Int))), (7, (.slice a545 s1465.length c546)), (8, (.slice a1081 ((s554.2 ++ ([(s554.1.length : Int)] : List Int)).length) c1082)), (92, (.slice a1842 v3323.length c1843)), (93, (.int .i64 (x1837.length : Int))), (94, (.int .i64 v3324))] ∧ KM.le K K3305 ∧ SlK 63 K3305 a2 c3 p1.Params ∧ SlK 77 K3305 a5 c6 p1.Code ∧ OwnS 92 K3305 (.slice a1842 v3323.length c1843) v3323 C3311 ∧ OwnS 77 K3305 (.slice a545 s1465.length c546) s1465 C3316 ∧ OwnS 3 K3305 (.slice a1081 ((s554.2 ++ ([(s554.1.length : Int)] : List Int)).length) c1082) (s554.2 ++ ([(s554.1.length : Int)] : List Int)) C3321 ∧ Sat w K3305 (flat [[(b16, Cl [(.string p1.Name), (.slice a2 p1.Params.length c3), (.int .i64 p1.Ret.Kind), (.string p1.Ret.Class), (.bool p1.Static), (.bool p1.Abstract), (.int .i64 p1.Locals), (.slice a5 p1.Code.length c6), (.slice a1842 v3323.length c1843)] 67)], C3311, [(b18, Cl [(.string ByteArray.empty), (.slice none 0 0), (.int .i64 0), (.string ByteArray.empty), (.bool false), (.bool false), (.int .i64 0), (.slice none 0 0), (.slice none 0 0)] 67)], C3316, C3321, L])) _ ⟨x1837, 0, K1839, C1841, C1458, C1463, hf, rfl, hle, h1452, h1453, h1844, h1455, h1460, (hS.sel [1, 0, 2, 3, 4, 5] rfl)⟩ ⟨rfl, rfl, rfl, rfl, rfl, rfl, rfl, rfl, trivial⟩ ?_ ?_
    · rintro _ _ ⟨_, _, _, _, _, _, hf, _⟩
      exact absurd hf (by simp [rewrite_Method.l2])
    rintro n _ w Y hY ⟨v3323, v3324, K3305, C3311, C3316, C3321, hf, rfl, hle, h3306, h3307, h3308, h3313, h3318, hS⟩
    rw [rewrite_Method.l2] at hf
    refine s_seq (s_reg ?_)
    refine s_v rfl rfl rfl ?_
    refine s_nil (qn (s_seq ?_))
    refine s_if rfl (fun hc => ?_) (fun hc => ?_)
    · replace hf := bif_t hc hf
      refine s_skip (qn (s_seq (s_block (s_seq (s_reg ?_)))))
      refine s_v rfl rfl rfl ?_
      obtain ⟨x3325, hx3326, hf⟩ := bs hf
      refine s_ixo 1 hS rfl h3308 hx3326 rfl rfl rfl rfl rfl rfl rfl ?_
      intro b3327 l3328 cs3331 l3329 hcs_ hC3332 hun3330
      obtain rfl := hcs_
      subst hC3332
      have hq3333 := KM.le.refl K3305
      refine s_ldm (v := (.agg (vv92 x3325).toArray)) 1 0 hS rfl rfl rfl rfl rfl ?_
      refine s_al hS rfl rfl rfl ?_
      intro b3334 w hS
      replace hS : Sat w K3305 (flat ([(b3334, Cl [(.int .i64 0), (.int .i64 0), (.int .i64 0), (.string ByteArray.empty)] 92)] :: _)) := hS
      refine s_v rfl rfl rfl ?_
      refine s_st (cs' := (vv92 x3325)) 0 hS rfl rfl rfl rfl rfl ?_
      intro w hS
      replace hS : Sat w _ (flat [_, _, _, _, _, _, _]) := hS
      refine s_nil (qn (s_seq (s_seq (s_reg ?_))))
      refine s_v rfl rfl rfl ?_
      refine s_ld 0 hS rfl rfl rfl rfl rfl ?_
      iterate 2 refine s_v rfl rfl rfl ?_
      obtain ⟨x3336, hx3337, hf⟩ := bs hf
      refine s_call isf55 hS.nilG (rewrite_within_spec hx3337) rfl rfl rfl ?_
      rintro _ K3338 C3340 w hk3339 rfl hS
      replace hS := hS.drop1
      iterate 2 refine s_v rfl rfl rfl ?_
      obtain ⟨s3364, hst3365, hf⟩ := bs hf
      refine r_cut [_, _, _, _, _, _] (fun τ w => ∃ (K3346 : KM) (C3352 : Chunks) (C3357 : Chunks) (C3362 : Chunks), τ = [(2, (.pointer (some ⟨b16, 0, none⟩))), (4, (.pointer (some ⟨b18, 0, none⟩))), (6, (.int .i64 (p1.Code.length : Int))), (7, (.slice a545 s1465.length c546)), (8, (.slice a1081 ((s554.2 ++ ([(s554.1.length : Int)] : List Int)).length) c1082)), (13, (.int .i64 v3324)), (14, (.pointer (some ⟨b3334, 0, none⟩))), (92, (.slice a1842 v3323.length c1843)), (93, (.int .i64 (x1837.length : Int))), (94, (.int .i64 v3324)), (111, (.bool s3364))] ∧ KM.le K K3346 ∧ SlK 63 K3346 a2 c3 p1.Params ∧ SlK 77 K3346 a5 c6 p1.Code ∧ OwnS 92 K3346 (.slice a1842 v3323.length c1843) v3323 C3352 ∧ OwnS 77 K3346 (.slice a545 s1465.length c546) s1465 C3357 ∧ OwnS 3 K3346 (.slice a1081 ((s554.2 ++ ([(s554.1.length : Int)] : List Int)).length) c1082) (s554.2 ++ ([(s554.1.length : Int)] : List Int)) C3362 ∧ Sat w K3346 (flat [[(b16, Cl [(.string p1.Name), (.slice a2 p1.Params.length c3), (.int .i64 p1.Ret.Kind), (.string p1.Ret.Class), (.bool p1.Static), (.bool p1.Abstract), (.int .i64 p1.Locals), (.slice a5 p1.Code.length c6), (.slice a1842 v3323.length c1843)] 67)], C3352, [(b18, Cl [(.string ByteArray.empty), (.slice none 0 0), (.int .i64 0), (.string ByteArray.empty), (.bool false), (.bool false), (.int .i64 0), (.slice none 0 0), (.slice none 0 0)] 67)], C3357, C3362, [(b3334, Cl (vv92 x3325) 92)], L])) rfl (fun J hJ => ?_) ?_
      · replace hf := hst3365
        cases hc : (!x3336)
        · replace hf := bif_f hc hf
          refine s_v rfl rfl rfl ?_
          refine s_ld 0 hS rfl rfl rfl rfl rfl ?_
          refine s_v rfl rfl rfl ?_
          obtain ⟨x3366, hx3367, hf⟩ := bs hf
          refine s_call isf55 hS.nilG (rewrite_within_spec hx3367) rfl rfl rfl ?_
          rintro _ K3368 C3370 w hk3369 rfl hS
          replace hS := hS.drop1
          iterate 2 refine s_v rfl rfl rfl ?_
          have hq := Option.some.inj hf
          subst hq
          replace h3306 := h3306.mono (hk3339.trans hk3369)
          replace h3307 := h3307.mono (hk3339.trans hk3369)
          replace h3308 := h3308.mono (hk3339.trans hk3369)
          replace h3313 := h3313.mono (hk3339.trans hk3369)
          replace h3318 := h3318.mono (hk3339.trans hk3369)
          replace hle := hle.trans (hk3339.trans hk3369)
          refine r_join hJ _ ⟨K3368, [(b3327, Cl (l3328 ++ (((vv92 x3325) : List Value) ++ l3329)) 92)], C3316, C3321, rfl, hle, h3306, h3307, h3308, h3313, h3318, (hS.sel [1, 2, 3, 4, 5, 0, 6] rfl)⟩ ⟨rfl, rfl, rfl, rfl, rfl, rfl, rfl, rfl, rfl, rfl, rfl, trivial⟩
        replace hf := bif_t hc hf
        refine s_no rfl rfl ?_
        refine s_no rfl rfl ?_
        refine s_no rfl rfl ?_
        refine s_no rfl rfl ?_
        refine s_no rfl rfl ?_
        refine s_v rfl rfl rfl ?_
        have hq := Option.some.inj hf
        subst hq
        replace h3306 := h3306.mono hk3339
        replace h3307 := h3307.mono hk3339
        replace h3308 := h3308.mono hk3339
        replace h3313 := h3313.mono hk3339
        replace h3318 := h3318.mono hk3339
        replace hle := hle.trans hk3339
        refine r_join hJ _ ⟨K3338, [(b3327, Cl (l3328 ++ (((vv92 x3325) : List Value) ++ l3329)) 92)], C3316, C3321, rfl, hle, h3306, h3307, h3308, h3313, h3318, (hS.sel [1, 2, 3, 4, 5, 0, 6] rfl)⟩ ⟨rfl, rfl, rfl, rfl, rfl, rfl, rfl, rfl, rfl, rfl, rfl, trivial⟩
      rintro _ w ⟨K3346, C3352, C3357, C3362, rfl, hle, h3347, h3348, h3349, h3354, h3359, hS⟩
      refine s_v rfl rfl rfl ?_
      obtain ⟨s3394, hst3395, hf⟩ := bs hf
      refine r_cut [_, _, _, _, _, _, _] (fun τ w => ∃ (K3376 : KM) (C3382 : Chunks) (C3387 : Chunks) (C3392 : Chunks), τ = [(2, (.pointer (some ⟨b16, 0, none⟩))), (4, (.pointer (some ⟨b18, 0, none⟩))), (6, (.int .i64 (p1.Code.length : Int))), (7, (.slice a545 s1465.length c546)), (8, (.slice a1081 ((s554.2 ++ ([(s554.1.length : Int)] : List Int)).length) c1082)), (13, (.int .i64 v3324)), (14, (.pointer (some ⟨b3334, 0, none⟩))), (92, (.slice a1842 v3323.length c1843)), (93, (.int .i64 (x1837.length : Int))), (94, (.int .i64 v3324)), (119, (.bool s3394))] ∧ KM.le K K3376 ∧ SlK 63 K3376 a2 c3 p1.Params ∧ SlK 77 K3376 a5 c6 p1.Code ∧ OwnS 92 K3376 (.slice a1842 v3323.length c1843) v3323 C3382 ∧ OwnS 77 K3376 (.slice a545 s1465.length c546) s1465 C3387 ∧ OwnS 3 K3376 (.slice a1081 ((s554.2 ++ ([(s554.1.length : Int)] : List Int)).length) c1082) (s554.2 ++ ([(s554.1.length : Int)] : List Int)) C3392 ∧ Sat w K3376 (flat [[(b16, Cl [(.string p1.Name), (.slice a2 p1.Params.length c3), (.int .i64 p1.Ret.Kind), (.string p1.Ret.Class), (.bool p1.Static), (.bool p1.Abstract), (.int .i64 p1.Locals), (.slice a5 p1.Code.length c6), (.slice a1842 v3323.length c1843)] 67)], C3382, [(b18, Cl [(.string ByteArray.empty), (.slice none 0 0), (.int .i64 0), (.string ByteArray.empty), (.bool false), (.bool false), (.int .i64 0), (.slice none 0 0), (.slice none 0 0)] 67)], C3387, C3392, [(b3334, Cl (vv92 x3325) 92)], L])) rfl (fun J hJ => ?_) ?_
      · replace hf := hst3395
        cases hc : s3364
        · replace hf := bif_f hc hf
          refine s_v rfl rfl rfl ?_
          refine s_ld 5 hS rfl rfl rfl rfl rfl ?_
          iterate 2 refine s_v rfl rfl rfl ?_
          obtain ⟨x3396, hx3397, hf⟩ := bs hf
          refine s_call isf55 hS.nilG (rewrite_within_spec hx3397) rfl rfl rfl ?_
          rintro _ K3398 C3400 w hk3399 rfl hS
          replace hS := hS.drop1
          iterate 2 refine s_v rfl rfl rfl ?_
          have hq := Option.some.inj hf
          subst hq
          replace h3347 := h3347.mono hk3399
          replace h3348 := h3348.mono hk3399
          replace h3349 := h3349.mono hk3399
          replace h3354 := h3354.mono hk3399
          replace h3359 := h3359.mono hk3399
          replace hle := hle.trans hk3399
          refine r_join hJ _ ⟨K3398, C3352, C3357, C3362, rfl, hle, h3347, h3348, h3349, h3354, h3359, hS⟩ ⟨rfl, rfl, rfl, rfl, rfl, rfl, rfl, rfl, rfl, rfl, rfl, trivial⟩
        replace hf := bif_t hc hf
        refine s_no rfl rfl ?_
        refine s_no rfl rfl ?_
        refine s_no rfl rfl ?_
        refine s_no rfl rfl ?_
        refine s_no rfl rfl ?_
        refine s_no rfl rfl ?_
        refine s_v rfl rfl rfl ?_
        have hq := Option.some.inj hf
        subst hq
        refine r_join hJ _ ⟨K3346, C3352, C3357, C3362, rfl, hle, h3347, h3348, h3349, h3354, h3359, hS⟩ ⟨rfl, rfl, rfl, rfl, rfl, rfl, rfl, rfl, rfl, rfl, rfl, trivial⟩
      rintro _ w ⟨K3376, C3382, C3387, C3392, rfl, hle, h3377, h3378, h3379, h3384, h3389, hS⟩
      refine s_nil (qn ?_)
      refine s_if rfl (fun hc => ?_) (fun hc => ?_)
      · replace hf := bif_t hc hf
        refine s_seq (s_reg ?_)
        refine s_v (v := (.agg #[(.string ByteArray.empty), (.slice none 0 0), (.int .i64 0), (.string ByteArray.empty), (.bool false), (.bool false), (.int .i64 0), (.slice none 0 0), (.slice none 0 0)])) rfl rfl rfl ?_
        refine s_st (cs' := [(.string ByteArray.empty), (.slice none 0 0), (.int .i64 0), (.string ByteArray.empty), (.bool false), (.bool false), (.int .i64 0), (.slice none 0 0), (.slice none 0 0)]) 2 hS rfl rfl rfl rfl rfl ?_
        intro w hS
        replace hS : Sat w _ (flat [_, _, _, _, _, _, _]) := hS
        refine s_v rfl rfl rfl ?_
        refine s_nil (qn ?_)
        replace hS : Sat w K3376 (flat [_, _]) := (hS.sel [2, 6] rfl)
        refine s_rets (qrt (qrb (qrt (qrt (qrb (qrt ?_))))))
        replace hf := LR.esc_some hf hm2724
        replace hS := hS.nilG
        replace hS := hS.nilG
        have hq := Option.some.inj hf
        subst hq
        refine s_ret2 rfl (rv_c (v := (.agg #[(.string ByteArray.empty), (.slice none 0 0), (.int .i64 0), (.string ByteArray.empty), (.bool false), (.bool false), (.int .i64 0), (.slice none 0 0), (.slice none 0 0)])) 2 hS rfl rfl rfl) (rv_t rfl) ?_
        exact ⟨K3376, _, hle, ⟨none, 0, none, 0, none, 0, [], [], rfl, SlK.nil, OwnS.nil, OwnS.nil, rfl⟩, Sat.shut2 (hS.sel [1, 0, 3] rfl)⟩
      replace hf := bif_f hc hf
      refine s_skip (qn ?_)
      refine d_start [0, 4, 5] [(26, [1])] hS ?_
      intro w hS
      refine d_v 0 (fun _ _ _ _ _ h => h) [0, 4, 5] hS rfl rfl rfl (by kernel_rfl) rfl rfl ?_
      refine d_ld 1 0 (fun _ _ _ _ _ h => h) [0, 4, 5] hS rfl rfl rfl rfl rfl (by kernel_rfl) rfl rfl ?_
      refine d_v 2 (fun _ _ _ _ _ h => h) [0, 4, 5] hS rfl rfl rfl (by kernel_rfl) rfl rfl ?_
      refine d_v 3 (fun _ _ _ _ _ h => h) [0, 4, 5] hS rfl rfl rfl (by kernel_rfl) rfl rfl ?_
      refine d_ld 4 0 (fun _ _ _ _ _ h => h) [0, 4, 5] hS rfl rfl rfl rfl rfl (by kernel_rfl) rfl rfl ?_
      refine d_v 5 (fun _ _ _ _ _ h => h) [0, 4, 5] hS rfl rfl rfl (by kernel_rfl) rfl rfl ?_
      refine d_v 6 (fun _ _ _ _ _ h => h) [0, 4, 5] hS rfl rfl rfl (by kernel_rfl) rfl rfl ?_
      refine d_ld 7 0 (fun _ _ _ _ _ h => h) [0, 4, 5] hS rfl rfl rfl rfl rfl (by kernel_rfl) rfl rfl ?_
      refine d_v 8 (fun _ _ _ _ _ h => h) [0, 4, 5] hS rfl rfl rfl (by kernel_rfl) rfl rfl ?_
      refine d_v 9 (fun _ _ _ _ _ h => h) [0, 4, 5] hS rfl rfl rfl (by kernel_rfl) rfl rfl ?_
      refine d_v 10 (fun _ _ _ _ _ h => h) [0, 4, 5] hS rfl rfl rfl (by kernel_rfl) rfl rfl ?_
      refine d_ld 11 2 (fun _ _ _ _ _ h => h) [0, 4, 5] hS rfl rfl rfl rfl rfl (by kernel_rfl) rfl rfl ?_
      obtain ⟨x3525, hx3526, hf⟩ := bs hf
      refine d_ixo 12 4 (fun _ _ _ _ _ h => h) [0, 4, 5] hS rfl h3389 hx3526 rfl rfl rfl rfl rfl rfl rfl (by kernel_rfl) rfl rfl ?_
      intro b3527 l3528 cs3531 l3529 hcs_ hC3532 hun3530
      obtain rfl := hcs_
      subst hC3532
      have hq3533 := KM.le.refl K3376
      refine d_ldm 13 1 0 (fun _ _ _ _ _ h => h) [0, 4, 5] hS rfl rfl rfl rfl rfl (by kernel_rfl) rfl rfl ?_
      refine d_v 14 (fun _ _ _ _ _ h => h) [0, 4, 5] hS rfl rfl rfl (by kernel_rfl) rfl rfl ?_
      refine d_v 15 (fun _ _ _ _ _ h => h) [0, 4, 5] hS rfl rfl rfl (by kernel_rfl) rfl rfl ?_
      refine d_ld 16 2 (fun _ _ _ _ _ h => h) [0, 4, 5] hS rfl rfl rfl rfl rfl (by kernel_rfl) rfl rfl ?_
      generalize hCg_ : ([(b3527, Cl (l3528 ++ (([(.int .i64 x3525)] : List Value) ++ l3529)) 3)] : Chunks) = C3534 at hS h3389 ⊢
      clear hCg_
      obtain ⟨x3535, hx3536, hf⟩ := bs hf
      refine d_ixo 17 4 (fun _ _ _ _ _ h => h) [0, 4, 5] hS rfl h3389 hx3536 rfl rfl rfl rfl rfl rfl rfl (by kernel_rfl) rfl rfl ?_
      intro b3537 l3538 cs3541 l3539 hcs_ hC3542 hun3540
      obtain rfl := hcs_
      subst hC3542
      have hq3543 := KM.le.refl K3376
      refine d_ldm 18 1 0 (fun _ _ _ _ _ h => h) [0, 4, 5] hS rfl rfl rfl rfl rfl (by kernel_rfl) rfl rfl ?_
      refine d_v 19 (fun _ _ _ _ _ h => h) [0, 4, 5] hS rfl rfl rfl (by kernel_rfl) rfl rfl ?_
      refine d_v 20 (fun _ _ _ _ _ h => h) [0, 4, 5] hS rfl rfl rfl (by kernel_rfl) rfl rfl ?_
      refine d_ld 21 2 (fun _ _ _ _ _ h => h) [0, 4, 5] hS rfl rfl rfl rfl rfl (by kernel_rfl) rfl rfl ?_
      generalize hCg_ : ([(b3537, Cl (l3538 ++ (([(.int .i64 x3535)] : List Value) ++ l3539)) 3)] : Chunks) = C3544 at hS h3389 ⊢
      clear hCg_
      obtain ⟨x3545, hx3546, hf⟩ := bs hf
      refine d_ixo 22 4 (fun _ _ _ _ _ h => h) [0, 4, 5] hS rfl h3389 hx3546 rfl rfl rfl rfl rfl rfl rfl (by kernel_rfl) rfl rfl ?_
      intro b3547 l3548 cs3551 l3549 hcs_ hC3552 hun3550
      obtain rfl := hcs_
      subst hC3552
      have hq3553 := KM.le.refl K3376
      refine d_ldm 23 1 0 (fun _ _ _ _ _ h => h) [0, 4, 5] hS rfl rfl rfl rfl rfl (by kernel_rfl) rfl rfl ?_
      obtain ⟨x3554, hx3555, hf⟩ := bs hf
      refine d_ixo 24 1 (fun _ _ _ _ _ h => h) [0, 4, 5] hS rfl h3379 hx3555 rfl rfl rfl rfl rfl rfl rfl (by kernel_rfl) rfl rfl ?_
      intro b3556 l3557 cs3560 l3558 hcs_ hC3561 hun3559
      obtain rfl := hcs_
      subst hC3561
      have hq3562 := KM.le.refl K3376
      refine d_v 25 (fun _ _ _ _ _ h => h) [0, 4, 5] hS rfl rfl rfl (by kernel_rfl) rfl rfl ?_
      refine d_op 26 rfl (by kernel_rfl) (by kernel_rfl) (fun X hX => ?_)
      have hlq := KM.le.refl K3376
      refine s_stm (cs' := [(.int .i64 x3525), (.int .i64 x3554.To), (.int .i64 x3554.At), (.string x3554.Catch)]) 1 0 hS rfl rfl rfl rfl rfl ?_
      intro w hS
      replace hS : Sat w _ (flat [_, _, _, _, _, _, _]) := hS
      have h3563 := hun3559 K3376 _ _ hq3562 (show GoData.cells 92 _ (api_Handler.mk x3525 x3554.To x3554.At x3554.Catch) _ from rfl)
      have hl3564 := OwnS.len h3563
      refine d_go [0, 4, 5] [0, 4, 5] [(29, [1])] [none] hX hS hlq rfl rfl ⟨rfl, trivial⟩ ?_
      generalize hCg_ : ([(b3556, Cl (l3557 ++ (([(.int .i64 x3525), (.int .i64 x3554.To), (.int .i64 x3554.At), (.string x3554.Catch)] : List Value) ++ l3558)) 92)] : Chunks) = C3565 at hS h3563 ⊢
      clear hCg_
      obtain ⟨x3566, hx3567, hf⟩ := bs hf
      refine d_ixo 27 1 (fun _ _ _ _ _ h => h) [0, 4, 5] hS rfl h3563 hx3567 rfl rfl rfl rfl rfl rfl rfl (by kernel_rfl) rfl rfl ?_
      intro b3568 l3569 cs3572 l3570 hcs_ hC3573 hun3571
      obtain rfl := hcs_
      subst hC3573
      have hq3574 := KM.le.refl K3376
      refine d_v 28 (fun _ _ _ _ _ h => h) [0, 4, 5] hS rfl rfl rfl (by kernel_rfl) rfl rfl ?_
      refine d_op 29 rfl (by kernel_rfl) (by kernel_rfl) (fun X hX => ?_)
      have hlq := KM.le.refl K3376
      refine s_stm (cs' := [(.int .i64 x3566.From), (.int .i64 x3535), (.int .i64 x3566.At), (.string x3566.Catch)]) 1 1 hS rfl rfl rfl rfl rfl ?_
      intro w hS
      replace hS : Sat w _ (flat [_, _, _, _, _, _, _]) := hS
      have h3575 := hun3571 K3376 _ _ hq3574 (show GoData.cells 92 _ (api_Handler.mk x3566.From x3535 x3566.At x3566.Catch) _ from rfl)
      have hl3576 := OwnS.len h3575
      refine d_go [0, 4, 5] [0, 4, 5] [(32, [1])] [none] hX hS hlq rfl rfl ⟨rfl, trivial⟩ ?_
      generalize hCg_ : ([(b3568, Cl (l3569 ++ (([(.int .i64 x3566.From), (.int .i64 x3535), (.int .i64 x3566.At), (.string x3566.Catch)] : List Value) ++ l3570)) 92)] : Chunks) = C3577 at hS h3575 ⊢
      clear hCg_
      obtain ⟨x3578, hx3579, hf⟩ := bs hf
      refine d_ixo 30 1 (fun _ _ _ _ _ h => h) [0, 4, 5] hS rfl h3575 hx3579 rfl rfl rfl rfl rfl rfl rfl (by kernel_rfl) rfl rfl ?_
      intro b3580 l3581 cs3584 l3582 hcs_ hC3585 hun3583
      obtain rfl := hcs_
      subst hC3585
      have hq3586 := KM.le.refl K3376
      refine d_v 31 (fun _ _ _ _ _ h => h) [0, 4, 5] hS rfl rfl rfl (by kernel_rfl) rfl rfl ?_
      refine d_op 32 rfl (by kernel_rfl) (by kernel_rfl) (fun X hX => ?_)
      have hlq := KM.le.refl K3376
      refine s_stm (cs' := [(.int .i64 x3578.From), (.int .i64 x3578.To), (.int .i64 x3545), (.string x3578.Catch)]) 1 2 hS rfl rfl rfl rfl rfl ?_
      intro w hS
      replace hS : Sat w _ (flat [_, _, _, _, _, _, _]) := hS
      have h3587 := hun3583 K3376 _ _ hq3586 (show GoData.cells 92 _ (api_Handler.mk x3578.From x3578.To x3545 x3578.Catch) _ from rfl)
      have hl3588 := OwnS.len h3587
      refine d_go [0, 4, 5] [0, 1, 4, 5] [] [none] hX hS hlq rfl rfl ⟨rfl, trivial⟩ ?_
      refine d_end (by kernel_rfl) ?_
      refine qbn (qn ?_)
      replace hS : Sat w K3376 (flat [_, _, _, _, _, _]) := (hS.sel [0, 1, 2, 3, 4, 6] rfl)
      refine s_reg ?_
      iterate 2 refine s_v rfl rfl rfl ?_
      refine s_nil (qn ?_)
      refine s_join hY _ ⟨(((v3323.set (v3324 : Int).toNat (api_Handler.mk x3525 x3554.To x3554.At x3554.Catch)).set (v3324 : Int).toNat (api_Handler.mk x3566.From x3535 x3566.At x3566.Catch)).set (v3324 : Int).toNat (api_Handler.mk x3578.From x3578.To x3545 x3578.Catch)), w64 (v3324 + 1), K3376, [(b3580, Cl (l3581 ++ (([(.int .i64 x3578.From), (.int .i64 x3578.To), (.int .i64 x3545), (.string x3578.Catch)] : List Value) ++ l3582)) 92)], C3387, [(b3547, Cl (l3548 ++ (([(.int .i64 x3545)] : List Value) ++ l3549)) 3)], hf, rfl, hle, h3377, h3378, (OwnS.norm h3587), h3384, h3389, (by (try rw [hl3588]); (try rw [hl3588]); exact hS)⟩ ⟨rfl, rfl, rfl, rfl, rfl, (by rw [hl3588]; rfl), rfl, rfl, trivial⟩
    replace hf := bif_f hc hf
    refine s_exit (qxt (qxt (qxb (qn ?_))))
    have hq := Option.some.inj hf
    subst hq
    refine s_join hJ _ ⟨v3323, K3305, C3311, C3316, rfl, rfl, hle, h3306, h3307, h3308, h3313, (hS.sel [0, 1, 2, 3, 5] rfl)⟩ ⟨rfl, rfl, rfl, trivial⟩
  rintro _ w ⟨s2721, K2708, C2714, C2719, rfl, rfl, hle, h2709, h2710, h2711, h2716, hS⟩
  replace hf := LR.elim_brk hm2724
  refine s_seq (s_seq (s_reg ?_))
  iterate 2 refine s_v rfl rfl rfl ?_
  refine s_st (cs' := [(.string p1.Name), (.slice a2 p1.Params.length c3), (.int .i64 p1.Ret.Kind), (.string p1.Ret.Class), (.bool p1.Static), (.bool p1.Abstract), (.int .i64 p1.Locals), (.slice a545 s1465.length c546), (.slice a1842 s2721.length c1843)]) 0 hS rfl rfl rfl rfl rfl ?_
  intro w hS
  replace hS : Sat w _ (flat [_, _, _, _, _]) := hS
  refine s_nil (qn (s_seq (s_reg ?_)))
  iterate 3 refine s_v rfl rfl rfl ?_
  refine s_nil (qn ?_)
  refine s_if rfl (fun hc => ?_) (fun hc => ?_)
  · replace hf := bif_t hc hf
    refine s_seq (s_reg ?_)
    refine s_v (v := (.agg #[(.string ByteArray.empty), (.slice none 0 0), (.int .i64 0), (.string ByteArray.empty), (.bool false), (.bool false), (.int .i64 0), (.slice none 0 0), (.slice none 0 0)])) rfl rfl rfl ?_
    refine s_st (cs' := [(.string ByteArray.empty), (.slice none 0 0), (.int .i64 0), (.string ByteArray.empty), (.bool false), (.bool false), (.int .i64 0), (.slice none 0 0), (.slice none 0 0)]) 2 hS rfl rfl rfl rfl rfl ?_
    intro w hS
    replace hS : Sat w _ (flat [_, _, _, _, _]) := hS
    refine s_v rfl rfl rfl ?_
    refine s_nil (qn ?_)
    replace hS : Sat w K2708 (flat [_, _]) := (hS.sel [2, 4] rfl)
    refine s_rets (qrt ?_)
    replace hS := hS.nilG
    replace hS := hS.nilG
    have hq := Option.some.inj hf
    subst hq
    refine s_ret2 rfl (rv_c (v := (.agg #[(.string ByteArray.empty), (.slice none 0 0), (.int .i64 0), (.string ByteArray.empty), (.bool false), (.bool false), (.int .i64 0), (.slice none 0 0), (.slice none 0 0)])) 2 hS rfl rfl rfl) (rv_t rfl) ?_
    exact ⟨K2708, _, hle, ⟨none, 0, none, 0, none, 0, [], [], rfl, SlK.nil, OwnS.nil, OwnS.nil, rfl⟩, Sat.shut2 (hS.sel [1, 0, 3] rfl)⟩
  replace hf := bif_f hc hf
  refine s_skip (qn (s_seq (s_reg ?_)))
  refine s_ld (v := (.agg #[(.string p1.Name), (.slice a2 p1.Params.length c3), (.int .i64 p1.Ret.Kind), (.string p1.Ret.Class), (.bool p1.Static), (.bool p1.Abstract), (.int .i64 p1.Locals), (.slice a545 s1465.length c546), (.slice a1842 s2721.length c1843)])) 0 hS rfl rfl rfl rfl rfl ?_
  refine s_st (cs' := [(.string p1.Name), (.slice a2 p1.Params.length c3), (.int .i64 p1.Ret.Kind), (.string p1.Ret.Class), (.bool p1.Static), (.bool p1.Abstract), (.int .i64 p1.Locals), (.slice a545 s1465.length c546), (.slice a1842 s2721.length c1843)]) 2 hS rfl rfl rfl rfl rfl ?_
  intro w hS
  replace hS : Sat w _ (flat [_, _, _, _, _]) := hS
  refine s_v rfl rfl rfl ?_
  refine s_nil (qn ?_)
  replace hS : Sat w K2708 (flat [_, _, _, _]) := (hS.sel [1, 2, 3, 4] rfl)
  refine s_rets ?_
  have hq := Option.some.inj hf
  subst hq
  refine s_ret2 rfl (rv_c (v := (.agg #[(.string p1.Name), (.slice a2 p1.Params.length c3), (.int .i64 p1.Ret.Kind), (.string p1.Ret.Class), (.bool p1.Static), (.bool p1.Abstract), (.int .i64 p1.Locals), (.slice a545 s1465.length c546), (.slice a1842 s2721.length c1843)])) 1 hS rfl rfl rfl) (rv_t rfl) ?_
  exact ⟨K2708, _, hle, ⟨a2, c3, a545, c546, a1842, c1843, C2719, C2714, rfl, h2709, h2716, h2711, rfl⟩, Sat.shut2 (hS.sel [2, 0, 3] rfl)⟩
-- 29 bonsai/bonsailaw19.known
def bonsailaw19_known.fn (fu : Nat) : Option Bool := (rewrite_Method.fn fu (api_Method.mk ByteArray.empty [] (api_Type.mk 0 ByteArray.empty) false false 0 [(api_Instr.mk 3 0 0 ByteArray.empty ByteArray.empty ByteArray.empty ByteArray.empty), (api_Instr.mk 19 0 0 ByteArray.empty ByteArray.empty ByteArray.empty ByteArray.empty)] [(api_Handler.mk 0 1 1 (⟨#[70, 97, 117, 108, 116]⟩ : ByteArray))]) [[(api_Instr.mk 3 0 0 ByteArray.empty ByteArray.empty ByteArray.empty ByteArray.empty), (api_Instr.mk 6 0 0 ByteArray.empty ByteArray.empty ByteArray.empty ByteArray.empty), (api_Instr.mk 3 0 0 ByteArray.empty ByteArray.empty ByteArray.empty ByteArray.empty)]]).bind fun x31 => (rewrite_Method.fn fu (api_Method.mk ByteArray.empty [] (api_Type.mk 0 ByteArray.empty) false false 0 [(api_Instr.mk 3 0 0 ByteArray.empty ByteArray.empty ByteArray.empty ByteArray.empty), (api_Instr.mk 19 0 0 ByteArray.empty ByteArray.empty ByteArray.empty ByteArray.empty)] [(api_Handler.mk 0 1 1 (⟨#[70, 97, 117, 108, 116]⟩ : ByteArray))]) []).bind fun x65 => (idx [(api_Instr.mk 3 0 0 ByteArray.empty ByteArray.empty ByteArray.empty ByteArray.empty), (api_Instr.mk 19 0 0 ByteArray.empty ByteArray.empty ByteArray.empty ByteArray.empty)] 1).bind fun x90 => (rewrite_Method.fn fu (api_Method.mk ByteArray.empty [] (api_Type.mk 0 ByteArray.empty) false false 0 ([(api_Instr.mk 3 0 0 ByteArray.empty ByteArray.empty ByteArray.empty ByteArray.empty), (api_Instr.mk 19 0 0 ByteArray.empty ByteArray.empty ByteArray.empty ByteArray.empty)].set (1 : Int).toNat (api_Instr.mk x90.Op x90.N 2 x90.S x90.Class x90.Name x90.Desc)) [(api_Handler.mk 0 1 1 (⟨#[70, 97, 117, 108, 116]⟩ : ByteArray))]) []).bind fun x110 => (bif x31.2 then (some ((x31.1.Code.length : Int) == 4)) else (some false)).bind fun s155 => (bif s155 then ((idx x31.1.Code 3).bind fun x189 => some (x189.K == 0)) else (some false)).bind fun s187 => (bif s187 then (some ((x31.1.Handlers.length : Int) == 1)) else (some false)).bind fun s219 => (bif s219 then ((idx x31.1.Handlers 0).bind fun x253 => some (x253.To == 3)) else (some false)).bind fun s251 => (bif s251 then ((idx x31.1.Handlers 0).bind fun x294 => some (x294.At == 3)) else (some false)).bind fun s292 => (bif s292 then (some x65.2) else (some false)).bind fun s324 => (bif s324 then (some ((x65.1.Code.length : Int) == 2)) else (some false)).bind fun s337 => (bif s337 then (some (!x110.2)) else (some false)).bind fun s350 => (bif s350 then ((rewrite_Fits.fn x31.1).bind fun x380 => some x380) else (some false)).bind fun s370 => (bif s370 then ((rewrite_Fits.fn (api_Method.mk ByteArray.empty [] (api_Type.mk 0 ByteArray.empty) false false 201 [] [])).bind fun x397 => some (!x397)) else (some false)).bind fun s395 => some s395
theorem bonsailaw19_known_spec {K : KM} {fu : Nat} {r : Bool} (hf : bonsailaw19_known.fn fu = some r) : Sp Try.prog 29 [] K [] (fun K' C v => v = (.bool r)) := by
  unfold bonsailaw19_known.fn at hf
  refine spec_enter isf29 rfl ?_
  intro w L hS
  replace hS : Sat w K (flat [L]) := hS
  have hle := KM.le.refl K
  unfold bod29 Try.f29
  dsimp only [Option.getD_some, argSlots]
  refine s_seq (s_reg ?_)
  refine s_v rfl rfl rfl ?_
  refine s_nil (qn (s_seq (s_reg ?_)))
  refine s_v (v := (.agg #[(.int .i64 3), (.int .i32 0), (.int .i64 0), (.string ByteArray.empty), (.string ByteArray.empty), (.string ByteArray.empty), (.string ByteArray.empty)])) rfl rfl rfl ?_
  refine s_v (v := (.agg #[(.int .i64 19), (.int .i32 0), (.int .i64 0), (.string ByteArray.empty), (.string ByteArray.empty), (.string ByteArray.empty), (.string ByteArray.empty)])) rfl rfl rfl ?_
  refine s_bwc (cs := [(.int .i64 3), (.int .i32 0), (.int .i64 0), (.string ByteArray.empty), (.string ByteArray.empty), (.string ByteArray.empty), (.string ByteArray.empty), (.int .i64 19), (.int .i32 0), (.int .i64 0), (.string ByteArray.empty), (.string ByteArray.empty), (.string ByteArray.empty), (.string ByteArray.empty)]) hS rfl rfl rfl rfl rfl rfl rfl rfl rfl rfl ?_
  intro b2 w hS
  refine s_v (v := (.agg #[(.int .i64 0), (.int .i64 1), (.int .i64 1), (.string (⟨#[70, 97, 117, 108, 116]⟩ : ByteArray))])) rfl rfl rfl ?_
  refine s_bwc (cs := [(.int .i64 0), (.int .i64 1), (.int .i64 1), (.string (⟨#[70, 97, 117, 108, 116]⟩ : ByteArray))]) hS rfl rfl rfl rfl rfl rfl rfl rfl rfl rfl ?_
  intro b4 w hS
  refine s_v (v := (.agg #[(.string ByteArray.empty), (.slice none 0 0), (.int .i64 0), (.string ByteArray.empty), (.bool false), (.bool false), (.int .i64 0), (.slice (some ⟨b2, 0, none⟩) 2 2), (.slice (some ⟨b4, 0, none⟩) 1 1)])) rfl rfl rfl ?_
  refine s_al hS rfl rfl rfl ?_
  intro b6 w hS
  replace hS : Sat w K (flat ([(b6, Cl [(.string ByteArray.empty), (.slice none 0 0), (.int .i64 0), (.string ByteArray.empty), (.bool false), (.bool false), (.int .i64 0), (.slice none 0 0), (.slice none 0 0)] 67)] :: _)) := hS
  refine s_st (cs' := [(.string ByteArray.empty), (.slice none 0 0), (.int .i64 0), (.string ByteArray.empty), (.bool false), (.bool false), (.int .i64 0), (.slice (some ⟨b2, 0, none⟩) 2 2), (.slice (some ⟨b4, 0, none⟩) 1 1)]) 0 hS rfl rfl rfl rfl rfl ?_
  intro w hS
  replace hS : Sat w _ (flat [_, _, _, _]) := hS
  refine s_nil (qn (s_seq (s_reg ?_)))
  refine s_ld (v := (.agg #[(.string ByteArray.empty), (.slice none 0 0), (.int .i64 0), (.string ByteArray.empty), (.bool false), (.bool false), (.int .i64 0), (.slice (some ⟨b2, 0, none⟩) 2 2), (.slice (some ⟨b4, 0, none⟩) 1 1)])) 0 hS rfl rfl rfl rfl rfl ?_
  refine s_v (v := (.agg #[(.int .i64 3), (.int .i32 0), (.int .i64 0), (.string ByteArray.empty), (.string ByteArray.empty), (.string ByteArray.empty), (.string ByteArray.empty)])) rfl rfl rfl ?_
  refine s_v (v := (.agg #[(.int .i64 6), (.int .i32 0), (.int .i64 0), (.string ByteArray.empty), (.string ByteArray.empty), (.string ByteArray.empty), (.string ByteArray.empty)])) rfl rfl rfl ?_
  refine s_v (v := (.agg #[(.int .i64 3), (.int .i32 0), (.int .i64 0), (.string ByteArray.empty), (.string ByteArray.empty), (.string ByteArray.empty), (.string ByteArray.empty)])) rfl rfl rfl ?_
  refine s_bwc (cs := [(.int .i64 3), (.int .i32 0), (.int .i64 0), (.string ByteArray.empty), (.string ByteArray.empty), (.string ByteArray.empty), (.string ByteArray.empty), (.int .i64 6), (.int .i32 0), (.int .i64 0), (.string ByteArray.empty), (.string ByteArray.empty), (.string ByteArray.empty), (.string ByteArray.empty), (.int .i64 3), (.int .i32 0), (.int .i64 0), (.string ByteArray.empty), (.string ByteArray.empty), (.string ByteArray.empty), (.string ByteArray.empty)]) hS rfl rfl rfl rfl rfl rfl rfl rfl rfl rfl ?_
  intro b8 w hS
  refine s_bwc (cs := [(.slice (some ⟨b8, 0, none⟩) 3 3)]) hS rfl rfl rfl rfl rfl rfl rfl rfl rfl rfl ?_
  intro b10 w hS
  have h12 : OwnS 77 K (.slice (some ⟨b2, 0, none⟩) 2 2) [(api_Instr.mk 3 0 0 ByteArray.empty ByteArray.empty ByteArray.empty ByteArray.empty), (api_Instr.mk 19 0 0 ByteArray.empty ByteArray.empty ByteArray.empty ByteArray.empty)] [(b2, Cl [(.int .i64 3), (.int .i32 0), (.int .i64 0), (.string ByteArray.empty), (.string ByteArray.empty), (.string ByteArray.empty), (.string ByteArray.empty), (.int .i64 19), (.int .i32 0), (.int .i64 0), (.string ByteArray.empty), (.string ByteArray.empty), (.string ByteArray.empty), (.string ByteArray.empty)] 77)] := OwnS.lit ⟨[(.int .i64 3), (.int .i32 0), (.int .i64 0), (.string ByteArray.empty), (.string ByteArray.empty), (.string ByteArray.empty), (.string ByteArray.empty)], _, rfl, rfl, ⟨[(.int .i64 19), (.int .i32 0), (.int .i64 0), (.string ByteArray.empty), (.string ByteArray.empty), (.string ByteArray.empty), (.string ByteArray.empty)], _, rfl, rfl, rfl⟩⟩ rfl rfl
  have h13 : OwnS 92 K (.slice (some ⟨b4, 0, none⟩) 1 1) [(api_Handler.mk 0 1 1 (⟨#[70, 97, 117, 108, 116]⟩ : ByteArray))] [(b4, Cl [(.int .i64 0), (.int .i64 1), (.int .i64 1), (.string (⟨#[70, 97, 117, 108, 116]⟩ : ByteArray))] 92)] := OwnS.lit ⟨[(.int .i64 0), (.int .i64 1), (.int .i64 1), (.string (⟨#[70, 97, 117, 108, 116]⟩ : ByteArray))], _, rfl, rfl, rfl⟩ rfl rfl
  have h14 : OwnS 77 K (.slice (some ⟨b8, 0, none⟩) 3 3) [(api_Instr.mk 3 0 0 ByteArray.empty ByteArray.empty ByteArray.empty ByteArray.empty), (api_Instr.mk 6 0 0 ByteArray.empty ByteArray.empty ByteArray.empty ByteArray.empty), (api_Instr.mk 3 0 0 ByteArray.empty ByteArray.empty ByteArray.empty ByteArray.empty)] [(b8, Cl [(.int .i64 3), (.int .i32 0), (.int .i64 0), (.string ByteArray.empty), (.string ByteArray.empty), (.string ByteArray.empty), (.string ByteArray.empty), (.int .i64 6), (.int .i32 0), (.int .i64 0), (.string ByteArray.empty), (.string ByteArray.empty), (.string ByteArray.empty), (.string ByteArray.empty), (.int .i64 3), (.int .i32 0), (.int .i64 0), (.string ByteArray.empty), (.string ByteArray.empty), (.string ByteArray.empty), (.string ByteArray.empty)] 77)] := OwnS.lit ⟨[(.int .i64 3), (.int .i32 0), (.int .i64 0), (.string ByteArray.empty), (.string ByteArray.empty), (.string ByteArray.empty), (.string ByteArray.empty)], _, rfl, rfl, ⟨[(.int .i64 6), (.int .i32 0), (.int .i64 0), (.string ByteArray.empty), (.string ByteArray.empty), (.string ByteArray.empty), (.string ByteArray.empty)], _, rfl, rfl, ⟨[(.int .i64 3), (.int .i32 0), (.int .i64 0), (.string ByteArray.empty), (.string ByteArray.empty), (.string ByteArray.empty), (.string ByteArray.empty)], _, rfl, rfl, rfl⟩⟩⟩ rfl rfl
  obtain ⟨K15, hk16, h17, hS⟩ := h14.freeze (hS.sel [1, 0, 2, 3, 4, 5] rfl)
  replace hS : Sat w _ (flat [_, _, _, _, _]) := hS
  have h18 : OwnS 64 K15 (.slice (some ⟨b10, 0, none⟩) 1 1) [[(api_Instr.mk 3 0 0 ByteArray.empty ByteArray.empty ByteArray.empty ByteArray.empty), (api_Instr.mk 6 0 0 ByteArray.empty ByteArray.empty ByteArray.empty ByteArray.empty), (api_Instr.mk 3 0 0 ByteArray.empty ByteArray.empty ByteArray.empty ByteArray.empty)]] [(b10, Cl [(.slice (some ⟨b8, 0, none⟩) 3 3)] 64)] := OwnS.lit ⟨[(.slice (some ⟨b8, 0, none⟩) 3 3)], _, rfl, ⟨(some ⟨b8, 0, none⟩), 3, rfl, h17⟩, rfl⟩ rfl rfl
  replace h12 := h12.mono hk16
  obtain ⟨K19, hk20, h21, hS, hth22⟩ := OwnS.lend h12 (hS.sel [3, 0, 1, 2, 4] rfl)
  replace hS : Sat w _ (flat [_, _, _, _]) := hS
  replace h13 := h13.mono hk16
  obtain ⟨K23, hk24, h25, hS, hth26⟩ := OwnS.lend (h13.mono hk20) (hS.sel [2, 0, 1, 3] rfl)
  replace hS : Sat w _ (flat [_, _, _]) := hS
  obtain ⟨K27, hk28, h29, hS, hth30⟩ := OwnS.lend (h18.mono (hk20.trans hk24)) (hS.sel [0, 1, 2] rfl)
  replace hS : Sat w _ (flat [_, _]) := hS
  obtain ⟨x31, hx32, hf⟩ := bs hf
  refine s_call isf33 hS.nilG (rewrite_Method_spec hx32 SlK.nil (h21.mono (hk24.trans hk28)) (h25.mono hk28) h29) rfl rfl rfl ?_
  rintro _ K33 _ w hk34 ⟨a36, c37, a39, c40, a42, c43, C45, C46, rfl, h38, h41, h44, rfl⟩ hS
  replace hS := hS.open2
  obtain ⟨K49, hk50, hS⟩ := hth30 _ _ _ hk34 hS
  obtain ⟨K51, hk52, hS⟩ := hth26 _ _ _ hk50 hS
  obtain ⟨K53, hk54, hS⟩ := hth22 _ _ _ hk52 hS
  replace h41 := OwnS.any (K' := K53) h41
  replace h44 := OwnS.any (K' := K53) h44
  iterate 3 refine s_v rfl rfl rfl ?_
  refine s_al hS rfl rfl rfl ?_
  intro b55 w hS
  replace hS : Sat w K53 (flat ([(b55, Cl [(.string ByteArray.empty), (.slice none 0 0), (.int .i64 0), (.string ByteArray.empty), (.bool false), (.bool false), (.int .i64 0), (.slice none 0 0), (.slice none 0 0)] 67)] :: _)) := hS
  refine s_st (cs' := (vv67 x31.1 a36 c37 a39 c40 a42 c43)) 0 hS rfl rfl rfl rfl rfl ?_
  intro w hS
  replace hS : Sat w _ (flat [_, _, _, _, _, _, _, _]) := hS
  refine s_v rfl rfl rfl ?_
  refine s_nil (qn ?_)
  replace hS : Sat w K53 (flat [_, _, _, _, _, _, _]) := (hS.sel [0, 1, 2, 4, 5, 6, 7] rfl)
  refine s_seq (s_reg ?_)
  refine s_ld (v := (.agg #[(.string ByteArray.empty), (.slice none 0 0), (.int .i64 0), (.string ByteArray.empty), (.bool false), (.bool false), (.int .i64 0), (.slice (some ⟨b2, 0, none⟩) 2 2), (.slice (some ⟨b4, 0, none⟩) 1 1)])) 5 hS rfl rfl rfl rfl rfl ?_
  replace h12 := h12.mono hk54
  obtain ⟨K57, hk58, h59, hS, hth60⟩ := OwnS.lend h12 (hS.sel [1, 0, 2, 3, 4, 5, 6] rfl)
  replace hS : Sat w _ (flat [_, _, _, _, _, _]) := hS
  replace h13 := h13.mono hk54
  obtain ⟨K61, hk62, h63, hS, hth64⟩ := OwnS.lend (h13.mono hk58) (hS.sel [1, 0, 2, 3, 4, 5] rfl)
  replace hS : Sat w _ (flat [_, _, _, _, _]) := hS
  obtain ⟨x65, hx66, hf⟩ := bs hf
  refine s_call isf33 hS.nilG (rewrite_Method_spec hx66 SlK.nil (h59.mono hk62) h63 SlK.nil) rfl rfl rfl ?_
  rintro _ K67 _ w hk68 ⟨a70, c71, a73, c74, a76, c77, C79, C80, rfl, h72, h75, h78, rfl⟩ hS
  replace hS := hS.open2
  obtain ⟨K83, hk84, hS⟩ := hth64 _ _ _ hk68 hS
  obtain ⟨K85, hk86, hS⟩ := hth60 _ _ _ hk84 hS
  replace h75 := OwnS.any (K' := K85) h75
  replace h78 := OwnS.any (K' := K85) h78
  iterate 3 refine s_v rfl rfl rfl ?_
  refine s_al hS rfl rfl rfl ?_
  intro b87 w hS
  replace hS : Sat w K85 (flat ([(b87, Cl [(.string ByteArray.empty), (.slice none 0 0), (.int .i64 0), (.string ByteArray.empty), (.bool false), (.bool false), (.int .i64 0), (.slice none 0 0), (.slice none 0 0)] 67)] :: _)) := hS
  refine s_st (cs' := (vv67 x65.1 a70 c71 a73 c74 a76 c77)) 0 hS rfl rfl rfl rfl rfl ?_
  intro w hS
  replace hS : Sat w _ (flat [_, _, _, _, _, _, _, _, _, _]) := hS
  refine s_v rfl rfl rfl ?_
  refine s_nil (qn (s_seq (s_reg ?_)))
  refine s_v rfl rfl rfl ?_
  refine s_ld 8 hS rfl rfl rfl rfl rfl ?_
  replace h12 := h12.mono hk86
  generalize hCg_ : ([(b2, Cl [(.int .i64 3), (.int .i32 0), (.int .i64 0), (.string ByteArray.empty), (.string ByteArray.empty), (.string ByteArray.empty), (.string ByteArray.empty), (.int .i64 19), (.int .i32 0), (.int .i64 0), (.string ByteArray.empty), (.string ByteArray.empty), (.string ByteArray.empty), (.string ByteArray.empty)] 77)] : Chunks) = C89 at hS h12
  clear hCg_
  obtain ⟨x90, hx91, hf⟩ := bs hf
  refine s_ixo 1 hS rfl h12 hx91 rfl rfl rfl rfl rfl rfl rfl ?_
  intro b92 l93 cs96 l94 hcs_ hC97 hun95
  obtain rfl := hcs_
  subst hC97
  have hq98 := KM.le.refl K85
  refine s_v rfl rfl rfl ?_
  refine s_stm (cs' := [(.int .i64 x90.Op), (.int .i32 x90.N), (.int .i64 2), (.string x90.S), (.string x90.Class), (.string x90.Name), (.string x90.Desc)]) 1 2 hS rfl rfl rfl rfl rfl ?_
  intro w hS
  replace hS : Sat w _ (flat [_, _, _, _, _, _, _, _, _, _]) := hS
  have h99 := hun95 K85 _ _ hq98 (show GoData.cells 77 _ (api_Instr.mk x90.Op x90.N 2 x90.S x90.Class x90.Name x90.Desc) _ from rfl)
  have hl100 := OwnS.len h99
  refine s_nil (qn (s_seq (s_reg ?_)))
  refine s_ld (v := (.agg #[(.string ByteArray.empty), (.slice none 0 0), (.int .i64 0), (.string ByteArray.empty), (.bool false), (.bool false), (.int .i64 0), (.slice (some ⟨b2, 0, none⟩) 2 2), (.slice (some ⟨b4, 0, none⟩) 1 1)])) 8 hS rfl rfl rfl rfl rfl ?_
  generalize hCg_ : ([(b92, Cl (l93 ++ (([(.int .i64 x90.Op), (.int .i32 x90.N), (.int .i64 2), (.string x90.S), (.string x90.Class), (.string x90.Name), (.string x90.Desc)] : List Value) ++ l94)) 77)] : Chunks) = C101 at hS h99
  clear hCg_
  obtain ⟨K102, hk103, h104, hS, hth105⟩ := OwnS.lend h99 (hS.sel [1, 0, 2, 3, 4, 5, 6, 7, 8, 9] rfl)
  replace hS : Sat w _ (flat [_, _, _, _, _, _, _, _, _]) := hS
  replace h13 := h13.mono hk86
  obtain ⟨K106, hk107, h108, hS, hth109⟩ := OwnS.lend (h13.mono hk103) (hS.sel [1, 0, 2, 3, 4, 5, 6, 7, 8] rfl)
  replace hS : Sat w _ (flat [_, _, _, _, _, _, _, _]) := hS
  obtain ⟨x110, hx111, hf⟩ := bs hf
  refine s_call isf33 hS.nilG (rewrite_Method_spec hx111 SlK.nil (h104.mono hk107) h108 SlK.nil) (by (try rw [hl100]); rfl) rfl rfl ?_
  rintro _ K112 _ w hk113 ⟨a115, c116, a118, c119, a121, c122, C124, C125, rfl, h117, h120, h123, rfl⟩ hS
  replace hS := hS.open2
  obtain ⟨K128, hk129, hS⟩ := hth109 _ _ _ hk113 hS
  obtain ⟨K130, hk131, hS⟩ := hth105 _ _ _ hk129 hS
  replace h120 := OwnS.any (K' := K130) h120
  replace h123 := OwnS.any (K' := K130) h123
  iterate 3 refine s_v rfl rfl rfl ?_
  refine s_al hS rfl rfl rfl ?_
  intro b132 w hS
  replace hS : Sat w K130 (flat ([(b132, Cl [(.string ByteArray.empty), (.slice none 0 0), (.int .i64 0), (.string ByteArray.empty), (.bool false), (.bool false), (.int .i64 0), (.slice none 0 0), (.slice none 0 0)] 67)] :: _)) := hS
  refine s_st (cs' := (vv67 x110.1 a115 c116 a118 c119 a121 c122)) 0 hS rfl rfl rfl rfl rfl ?_
  intro w hS
  replace hS : Sat w _ (flat [_, _, _, _, _, _, _, _, _, _, _, _, _]) := hS
  refine s_v rfl rfl rfl ?_
  refine s_nil (qn ?_)
  replace hS : Sat w K130 (flat [_, _, _, _, _, _, _]) := (hS.sel [5, 6, 7, 8, 9, 10, 12] rfl)
  refine s_seq (s_reg ?_)
  iterate 2 refine s_v rfl rfl rfl ?_
  obtain ⟨s155, hst156, hf⟩ := bs hf
  have hkk0 := ((hk16.trans hk54).trans hk86).trans hk131
  refine r_cut [_, _, _, _, _] (fun τ w => ∃ (K134 : KM) (C138 : Chunks) (C143 : Chunks) (C148 : Chunks) (C153 : Chunks), τ = [(2, (.pointer (some ⟨b55, 0, none⟩))), (4, (.pointer (some ⟨b87, 0, none⟩))), (5, (.bool x65.2)), (7, (.bool x110.2)), (44, (.bool s155))] ∧ KM.le K K134 ∧ OwnS 77 K134 (.slice a39 x31.1.Code.length c40) x31.1.Code C138 ∧ OwnS 92 K134 (.slice a42 x31.1.Handlers.length c43) x31.1.Handlers C143 ∧ OwnS 77 K134 (.slice a73 x65.1.Code.length c74) x65.1.Code C148 ∧ OwnS 92 K134 (.slice a76 x65.1.Handlers.length c77) x65.1.Handlers C153 ∧ Sat w K134 (flat [[(b55, Cl (vv67 x31.1 a36 c37 a39 c40 a42 c43) 67)], C138, C143, [(b87, Cl (vv67 x65.1 a70 c71 a73 c74 a76 c77) 67)], C148, C153, L])) rfl (fun J hJ => ?_) ?_
  · replace hf := hst156
    cases hc : x31.2
    · replace hf := bif_f hc hf
      refine s_no rfl rfl ?_
      refine s_no rfl rfl ?_
      refine s_no rfl rfl ?_
      refine s_no rfl rfl ?_
      refine s_v rfl rfl rfl ?_
      have hq := Option.some.inj hf
      subst hq
      replace hle := hle.trans hkk0
      replace h41 := h41.mono (hk86.trans hk131)
      replace h44 := h44.mono (hk86.trans hk131)
      replace h75 := h75.mono hk131
      replace h78 := h78.mono hk131
      refine r_join hJ _ ⟨K130, C45, C46, C79, C80, rfl, hle, h41, h44, h75, h78, (hS.sel [3, 4, 5, 0, 1, 2, 6] rfl)⟩ ⟨rfl, rfl, rfl, rfl, rfl, trivial⟩
    replace hf := bif_t hc hf
    refine s_v rfl rfl rfl ?_
    refine s_ld 3 hS rfl rfl rfl rfl rfl ?_
    iterate 3 refine s_v rfl rfl rfl ?_
    have hq := Option.some.inj hf
    subst hq
    replace hle := hle.trans hkk0
    replace h41 := h41.mono (hk86.trans hk131)
    replace h44 := h44.mono (hk86.trans hk131)
    replace h75 := h75.mono hk131
    replace h78 := h78.mono hk131
    refine r_join hJ _ ⟨K130, C45, C46, C79, C80, rfl, hle, h41, h44, h75, h78, (hS.sel [3, 4, 5, 0, 1, 2, 6] rfl)⟩ ⟨rfl, rfl, rfl, rfl, rfl, trivial⟩
  rintro _ w ⟨K134, C138, C143, C148, C153, rfl, hle, h135, h140, h145, h150, hS⟩
  refine s_v rfl rfl rfl ?_
  obtain ⟨s187, hst188, hf⟩ := bs hf
  refine r_cut [_, _, _, _, _, _, _] (fun τ w => ∃ (K166 : KM) (C170 : Chunks) (C175 : Chunks) (C180 : Chunks) (C185 : Chunks), τ = [(2, (.pointer (some ⟨b55, 0, none⟩))), (4, (.pointer (some ⟨b87, 0, none⟩))), (5, (.bool x65.2)), (7, (.bool x110.2)), (52, (.bool s187))] ∧ KM.le K K166 ∧ OwnS 77 K166 (.slice a39 x31.1.Code.length c40) x31.1.Code C170 ∧ OwnS 92 K166 (.slice a42 x31.1.Handlers.length c43) x31.1.Handlers C175 ∧ OwnS 77 K166 (.slice a73 x65.1.Code.length c74) x65.1.Code C180 ∧ OwnS 92 K166 (.slice a76 x65.1.Handlers.length c77) x65.1.Handlers C185 ∧ Sat w K166 (flat [[(b55, Cl (vv67 x31.1 a36 c37 a39 c40 a42 c43) 67)], C170, C175, [(b87, Cl (vv67 x65.1 a70 c71 a73 c74 a76 c77) 67)], C180, C185, L])) rfl (fun J hJ => ?_) ?_
  · replace hf := hst188
    cases hc : s155
    · replace hf := bif_f hc hf
      refine s_no rfl rfl ?_
      refine s_no rfl rfl ?_
      refine s_no rfl rfl ?_
      refine s_no rfl rfl ?_
      refine s_no rfl rfl ?_
      refine s_no rfl rfl ?_
      refine s_v rfl rfl rfl ?_
      have hq := Option.some.inj hf
      subst hq
      refine r_join hJ _ ⟨K134, C138, C143, C148, C153, rfl, hle, h135, h140, h145, h150, hS⟩ ⟨rfl, rfl, rfl, rfl, rfl, trivial⟩
    replace hf := bif_t hc hf
    refine s_v rfl rfl rfl ?_
    refine s_ld 0 hS rfl rfl rfl rfl rfl ?_
    obtain ⟨x189, hx190, hf⟩ := bs hf
    refine s_ixo 1 hS rfl h135 hx190 rfl rfl rfl rfl rfl rfl rfl ?_
    intro b191 l192 cs195 l193 hcs_ hC196 hun194
    obtain rfl := hcs_
    subst hC196
    have hq197 := KM.le.refl K134
    refine s_v rfl rfl rfl ?_
    refine s_ldm 1 2 hS rfl rfl rfl rfl rfl ?_
    iterate 2 refine s_v rfl rfl rfl ?_
    have hq := Option.some.inj hf
    subst hq
    refine r_join hJ _ ⟨K134, [(b191, Cl (l192 ++ (((vv77 x189) : List Value) ++ l193)) 77)], C143, C148, C153, rfl, hle, h135, h140, h145, h150, hS⟩ ⟨rfl, rfl, rfl, rfl, rfl, trivial⟩
  rintro _ w ⟨K166, C170, C175, C180, C185, rfl, hle, h167, h172, h177, h182, hS⟩
  refine s_v rfl rfl rfl ?_
  obtain ⟨s219, hst220, hf⟩ := bs hf
  refine r_cut [_, _, _, _, _] (fun τ w => ∃ (K198 : KM) (C202 : Chunks) (C207 : Chunks) (C212 : Chunks) (C217 : Chunks), τ = [(2, (.pointer (some ⟨b55, 0, none⟩))), (4, (.pointer (some ⟨b87, 0, none⟩))), (5, (.bool x65.2)), (7, (.bool x110.2)), (58, (.bool s219))] ∧ KM.le K K198 ∧ OwnS 77 K198 (.slice a39 x31.1.Code.length c40) x31.1.Code C202 ∧ OwnS 92 K198 (.slice a42 x31.1.Handlers.length c43) x31.1.Handlers C207 ∧ OwnS 77 K198 (.slice a73 x65.1.Code.length c74) x65.1.Code C212 ∧ OwnS 92 K198 (.slice a76 x65.1.Handlers.length c77) x65.1.Handlers C217 ∧ Sat w K198 (flat [[(b55, Cl (vv67 x31.1 a36 c37 a39 c40 a42 c43) 67)], C202, C207, [(b87, Cl (vv67 x65.1 a70 c71 a73 c74 a76 c77) 67)], C212, C217, L])) rfl (fun J hJ => ?_) ?_
  · replace hf := hst220
    cases hc : s187
    · replace hf := bif_f hc hf
      refine s_no rfl rfl ?_
      refine s_no rfl rfl ?_
      refine s_no rfl rfl ?_
      refine s_no rfl rfl ?_
      refine s_v rfl rfl rfl ?_
      have hq := Option.some.inj hf
      subst hq
      refine r_join hJ _ ⟨K166, C170, C175, C180, C185, rfl, hle, h167, h172, h177, h182, hS⟩ ⟨rfl, rfl, rfl, rfl, rfl, trivial⟩
    replace hf := bif_t hc hf
    refine s_v rfl rfl rfl ?_
    refine s_ld 0 hS rfl rfl rfl rfl rfl ?_
    iterate 3 refine s_v rfl rfl rfl ?_
    have hq := Option.some.inj hf
    subst hq
    refine r_join hJ _ ⟨K166, C170, C175, C180, C185, rfl, hle, h167, h172, h177, h182, hS⟩ ⟨rfl, rfl, rfl, rfl, rfl, trivial⟩
  rintro _ w ⟨K198, C202, C207, C212, C217, rfl, hle, h199, h204, h209, h214, hS⟩
  refine s_v rfl rfl rfl ?_
  obtain ⟨s251, hst252, hf⟩ := bs hf
  refine r_cut [_, _, _, _, _, _, _] (fun τ w => ∃ (K230 : KM) (C234 : Chunks) (C239 : Chunks) (C244 : Chunks) (C249 : Chunks), τ = [(2, (.pointer (some ⟨b55, 0, none⟩))), (4, (.pointer (some ⟨b87, 0, none⟩))), (5, (.bool x65.2)), (7, (.bool x110.2)), (66, (.bool s251))] ∧ KM.le K K230 ∧ OwnS 77 K230 (.slice a39 x31.1.Code.length c40) x31.1.Code C234 ∧ OwnS 92 K230 (.slice a42 x31.1.Handlers.length c43) x31.1.Handlers C239 ∧ OwnS 77 K230 (.slice a73 x65.1.Code.length c74) x65.1.Code C244 ∧ OwnS 92 K230 (.slice a76 x65.1.Handlers.length c77) x65.1.Handlers C249 ∧ Sat w K230 (flat [[(b55, Cl (vv67 x31.1 a36 c37 a39 c40 a42 c43) 67)], C234, C239, [(b87, Cl (vv67 x65.1 a70 c71 a73 c74 a76 c77) 67)], C244, C249, L])) rfl (fun J hJ => ?_) ?_
  · replace hf := hst252
    cases hc : s219
    · replace hf := bif_f hc hf
      refine s_no rfl rfl ?_
      refine s_no rfl rfl ?_
      refine s_no rfl rfl ?_
      refine s_no rfl rfl ?_
      refine s_no rfl rfl ?_
      refine s_no rfl rfl ?_
      refine s_v rfl rfl rfl ?_
      have hq := Option.some.inj hf
      subst hq
      refine r_join hJ _ ⟨K198, C202, C207, C212, C217, rfl, hle, h199, h204, h209, h214, hS⟩ ⟨rfl, rfl, rfl, rfl, rfl, trivial⟩
    replace hf := bif_t hc hf
    refine s_v rfl rfl rfl ?_
    refine s_ld 0 hS rfl rfl rfl rfl rfl ?_
    obtain ⟨x253, hx254, hf⟩ := bs hf
    refine s_ixo 2 hS rfl h204 hx254 rfl rfl rfl rfl rfl rfl rfl ?_
    intro b255 l256 cs259 l257 hcs_ hC260 hun258
    obtain rfl := hcs_
    subst hC260
    have hq261 := KM.le.refl K198
    refine s_v rfl rfl rfl ?_
    refine s_ldm 2 1 hS rfl rfl rfl rfl rfl ?_
    iterate 2 refine s_v rfl rfl rfl ?_
    have hq := Option.some.inj hf
    subst hq
    refine r_join hJ _ ⟨K198, C202, [(b255, Cl (l256 ++ (((vv92 x253) : List Value) ++ l257)) 92)], C212, C217, rfl, hle, h199, h204, h209, h214, hS⟩ ⟨rfl, rfl, rfl, rfl, rfl, trivial⟩
  rintro _ w ⟨K230, C234, C239, C244, C249, rfl, hle, h231, h236, h241, h246, hS⟩
  refine s_v rfl rfl rfl ?_
  obtain ⟨s292, hst293, hf⟩ := bs hf
  refine r_cut [_, _, _, _, _, _, _] (fun τ w => ∃ (K271 : KM) (C275 : Chunks) (C280 : Chunks) (C285 : Chunks) (C290 : Chunks), τ = [(2, (.pointer (some ⟨b55, 0, none⟩))), (4, (.pointer (some ⟨b87, 0, none⟩))), (5, (.bool x65.2)), (7, (.bool x110.2)), (74, (.bool s292))] ∧ KM.le K K271 ∧ OwnS 77 K271 (.slice a39 x31.1.Code.length c40) x31.1.Code C275 ∧ OwnS 92 K271 (.slice a42 x31.1.Handlers.length c43) x31.1.Handlers C280 ∧ OwnS 77 K271 (.slice a73 x65.1.Code.length c74) x65.1.Code C285 ∧ OwnS 92 K271 (.slice a76 x65.1.Handlers.length c77) x65.1.Handlers C290 ∧ Sat w K271 (flat [[(b55, Cl (vv67 x31.1 a36 c37 a39 c40 a42 c43) 67)], C275, C280, [(b87, Cl (vv67 x65.1 a70 c71 a73 c74 a76 c77) 67)], C285, C290, L])) rfl (fun J hJ => ?_) ?_
  · replace hf := hst293
    cases hc : s251
    · replace hf := bif_f hc hf
      refine s_no rfl rfl ?_
      refine s_no rfl rfl ?_
      refine s_no rfl rfl ?_
      refine s_no rfl rfl ?_
      refine s_no rfl rfl ?_
      refine s_no rfl rfl ?_
      refine s_v rfl rfl rfl ?_
      have hq := Option.some.inj hf
      subst hq
      refine r_join hJ _ ⟨K230, C234, C239, C244, C249, rfl, hle, h231, h236, h241, h246, hS⟩ ⟨rfl, rfl, rfl, rfl, rfl, trivial⟩
    replace hf := bif_t hc hf
    refine s_v rfl rfl rfl ?_
    refine s_ld 0 hS rfl rfl rfl rfl rfl ?_
    obtain ⟨x294, hx295, hf⟩ := bs hf
    refine s_ixo 2 hS rfl h236 hx295 rfl rfl rfl rfl rfl rfl rfl ?_
    intro b296 l297 cs300 l298 hcs_ hC301 hun299
    obtain rfl := hcs_
    subst hC301
    have hq302 := KM.le.refl K230
    refine s_v rfl rfl rfl ?_
    refine s_ldm 2 2 hS rfl rfl rfl rfl rfl ?_
    iterate 2 refine s_v rfl rfl rfl ?_
    have hq := Option.some.inj hf
    subst hq
    refine r_join hJ _ ⟨K230, C234, [(b296, Cl (l297 ++ (((vv92 x294) : List Value) ++ l298)) 92)], C244, C249, rfl, hle, h231, h236, h241, h246, hS⟩ ⟨rfl, rfl, rfl, rfl, rfl, trivial⟩
  rintro _ w ⟨K271, C275, C280, C285, C290, rfl, hle, h272, h277, h282, h287, hS⟩
  refine s_v rfl rfl rfl ?_
  obtain ⟨s324, hst325, hf⟩ := bs hf
  refine r_cut [_, _] (fun τ w => ∃ (K303 : KM) (C307 : Chunks) (C312 : Chunks) (C317 : Chunks) (C322 : Chunks), τ = [(2, (.pointer (some ⟨b55, 0, none⟩))), (4, (.pointer (some ⟨b87, 0, none⟩))), (7, (.bool x110.2)), (77, (.bool s324))] ∧ KM.le K K303 ∧ OwnS 77 K303 (.slice a39 x31.1.Code.length c40) x31.1.Code C307 ∧ OwnS 92 K303 (.slice a42 x31.1.Handlers.length c43) x31.1.Handlers C312 ∧ OwnS 77 K303 (.slice a73 x65.1.Code.length c74) x65.1.Code C317 ∧ OwnS 92 K303 (.slice a76 x65.1.Handlers.length c77) x65.1.Handlers C322 ∧ Sat w K303 (flat [[(b55, Cl (vv67 x31.1 a36 c37 a39 c40 a42 c43) 67)], C307, C312, [(b87, Cl (vv67 x65.1 a70 c71 a73 c74 a76 c77) 67)], C317, C322, L])) rfl (fun J hJ => ?_) ?_
  · replace hf := hst325
    cases hc : s292
    · replace hf := bif_f hc hf
      refine s_no rfl rfl ?_
      refine s_v rfl rfl rfl ?_
      have hq := Option.some.inj hf
      subst hq
      refine r_join hJ _ ⟨K271, C275, C280, C285, C290, rfl, hle, h272, h277, h282, h287, hS⟩ ⟨rfl, rfl, rfl, rfl, trivial⟩
    replace hf := bif_t hc hf
    iterate 2 refine s_v rfl rfl rfl ?_
    have hq := Option.some.inj hf
    subst hq
    refine r_join hJ _ ⟨K271, C275, C280, C285, C290, rfl, hle, h272, h277, h282, h287, hS⟩ ⟨rfl, rfl, rfl, rfl, trivial⟩
  rintro _ w ⟨K303, C307, C312, C317, C322, rfl, hle, h304, h309, h314, h319, hS⟩
  refine s_v rfl rfl rfl ?_
  obtain ⟨s337, hst338, hf⟩ := bs hf
  refine r_cut [_, _, _, _, _] (fun τ w => ∃ (K326 : KM) (C330 : Chunks) (C335 : Chunks), τ = [(2, (.pointer (some ⟨b55, 0, none⟩))), (7, (.bool x110.2)), (83, (.bool s337))] ∧ KM.le K K326 ∧ OwnS 77 K326 (.slice a39 x31.1.Code.length c40) x31.1.Code C330 ∧ OwnS 92 K326 (.slice a42 x31.1.Handlers.length c43) x31.1.Handlers C335 ∧ Sat w K326 (flat [[(b55, Cl (vv67 x31.1 a36 c37 a39 c40 a42 c43) 67)], C330, C335, L])) rfl (fun J hJ => ?_) ?_
  · replace hf := hst338
    cases hc : s324
    · replace hf := bif_f hc hf
      refine s_no rfl rfl ?_
      refine s_no rfl rfl ?_
      refine s_no rfl rfl ?_
      refine s_no rfl rfl ?_
      refine s_v rfl rfl rfl ?_
      have hq := Option.some.inj hf
      subst hq
      refine r_join hJ _ ⟨K303, C307, C312, rfl, hle, h304, h309, (hS.sel [0, 1, 2, 6] rfl)⟩ ⟨rfl, rfl, rfl, trivial⟩
    replace hf := bif_t hc hf
    refine s_v rfl rfl rfl ?_
    refine s_ld 3 hS rfl rfl rfl rfl rfl ?_
    iterate 3 refine s_v rfl rfl rfl ?_
    have hq := Option.some.inj hf
    subst hq
    refine r_join hJ _ ⟨K303, C307, C312, rfl, hle, h304, h309, (hS.sel [0, 1, 2, 6] rfl)⟩ ⟨rfl, rfl, rfl, trivial⟩
  rintro _ w ⟨K326, C330, C335, rfl, hle, h327, h332, hS⟩
  refine s_v rfl rfl rfl ?_
  obtain ⟨s350, hst351, hf⟩ := bs hf
  refine r_cut [_, _, _] (fun τ w => ∃ (K339 : KM) (C343 : Chunks) (C348 : Chunks), τ = [(2, (.pointer (some ⟨b55, 0, none⟩))), (87, (.bool s350))] ∧ KM.le K K339 ∧ OwnS 77 K339 (.slice a39 x31.1.Code.length c40) x31.1.Code C343 ∧ OwnS 92 K339 (.slice a42 x31.1.Handlers.length c43) x31.1.Handlers C348 ∧ Sat w K339 (flat [[(b55, Cl (vv67 x31.1 a36 c37 a39 c40 a42 c43) 67)], C343, C348, L])) rfl (fun J hJ => ?_) ?_
  · replace hf := hst351
    cases hc : s337
    · replace hf := bif_f hc hf
      refine s_no rfl rfl ?_
      refine s_no rfl rfl ?_
      refine s_v rfl rfl rfl ?_
      have hq := Option.some.inj hf
      subst hq
      refine r_join hJ _ ⟨K326, C330, C335, rfl, hle, h327, h332, hS⟩ ⟨rfl, rfl, trivial⟩
    replace hf := bif_t hc hf
    iterate 3 refine s_v rfl rfl rfl ?_
    have hq := Option.some.inj hf
    subst hq
    refine r_join hJ _ ⟨K326, C330, C335, rfl, hle, h327, h332, hS⟩ ⟨rfl, rfl, trivial⟩
  rintro _ w ⟨K339, C343, C348, rfl, hle, h340, h345, hS⟩
  refine s_v rfl rfl rfl ?_
  obtain ⟨s370, hst371, hf⟩ := bs hf
  refine r_cut [_, _, _] (fun τ w => ∃ (K369 : KM), τ = [(91, (.bool s370))] ∧ KM.le K K369 ∧ Sat w K369 (flat [L])) rfl (fun J hJ => ?_) ?_
  · replace hf := hst371
    cases hc : s350
    · replace hf := bif_f hc hf
      refine s_no rfl rfl ?_
      refine s_no rfl rfl ?_
      refine s_v rfl rfl rfl ?_
      have hq := Option.some.inj hf
      subst hq
      refine r_join hJ _ ⟨K339, rfl, hle, (hS.sel [3] rfl)⟩ ⟨rfl, trivial⟩
    replace hf := bif_t hc hf
    refine s_ld (v := (.agg (vv67 x31.1 a36 c37 a39 c40 a42 c43).toArray)) 0 hS rfl rfl rfl rfl rfl ?_
    obtain ⟨K372, hk373, h374, hS, hth375⟩ := OwnS.lend h340 (hS.sel [1, 0, 2, 3] rfl)
    replace hS : Sat w _ (flat [_, _, _]) := hS
    obtain ⟨K376, hk377, h378, hS, hth379⟩ := OwnS.lend (h345.mono hk373) (hS.sel [1, 0, 2] rfl)
    replace hS : Sat w _ (flat [_, _]) := hS
    obtain ⟨x380, hx381, hf⟩ := bs hf
    refine s_call isf36 hS.nilG (rewrite_Fits_spec hx381) rfl rfl rfl ?_
    rintro _ K382 C384 w hk383 rfl hS
    replace hS := hS.drop1
    obtain ⟨K385, hk386, hS⟩ := hth379 _ _ _ hk383 hS
    obtain ⟨K387, hk388, hS⟩ := hth375 _ _ _ hk386 hS
    refine s_v rfl rfl rfl ?_
    have hq := Option.some.inj hf
    subst hq
    replace hle := hle.trans hk388
    refine r_join hJ _ ⟨K387, rfl, hle, (hS.sel [3] rfl)⟩ ⟨rfl, trivial⟩
  rintro _ w ⟨K369, rfl, hle, hS⟩
  refine s_v rfl rfl rfl ?_
  obtain ⟨s395, hst396, hf⟩ := bs hf
  refine r_cut [_, _, _, _] (fun τ w => ∃ (K394 : KM), τ = [(96, (.bool s395))] ∧ KM.le K K394 ∧ Sat w K394 (flat [L])) rfl (fun J hJ => ?_) ?_
  · replace hf := hst396
    cases hc : s370
    · replace hf := bif_f hc hf
      refine s_no rfl rfl ?_
      refine s_no rfl rfl ?_
      refine s_no rfl rfl ?_
      refine s_v rfl rfl rfl ?_
      have hq := Option.some.inj hf
      subst hq
      refine r_join hJ _ ⟨K369, rfl, hle, hS⟩ ⟨rfl, trivial⟩
    replace hf := bif_t hc hf
    refine s_v (v := (.agg #[(.string ByteArray.empty), (.slice none 0 0), (.int .i64 0), (.string ByteArray.empty), (.bool false), (.bool false), (.int .i64 201), (.slice none 0 0), (.slice none 0 0)])) rfl rfl rfl ?_
    obtain ⟨x397, hx398, hf⟩ := bs hf
    refine s_call isf36 hS.nilG (rewrite_Fits_spec hx398) rfl rfl rfl ?_
    rintro _ K399 C401 w hk400 rfl hS
    replace hS := hS.drop1
    iterate 2 refine s_v rfl rfl rfl ?_
    have hq := Option.some.inj hf
    subst hq
    replace hle := hle.trans hk400
    refine r_join hJ _ ⟨K399, rfl, hle, hS⟩ ⟨rfl, trivial⟩
  rintro _ w ⟨K394, rfl, hle, hS⟩
  refine s_v rfl rfl rfl ?_
  refine s_nil (qn (s_rets ?_))
  have hq := Option.some.inj hf
  subst hq
  refine s_ret1 rfl (rv_t rfl) ?_
  exact ⟨K394, _, hle, rfl, Sat.nilG (hS.sel [0] rfl)⟩
-- 10 bonsai/bonsailaw19.RewriteFits
def bonsailaw19_RewriteFits.fn (fu : Nat) (p1 : Int) (p2 : Int) (p3 : Int) : Option Bool := (bonsailaw19_known.fn fu).bind fun x5 => bif !x5 then (some false) else (guardB (mayMake (w64 (2000 + (w64 ((w64 (Int.tmod p1 5)) - 2)))) 88) (guardB (mayMake (w64 (50 + (w64 ((w64 (Int.tmod p3 5)) - 2)))) 40) ((rewrite_Fits.fn (api_Method.mk ByteArray.empty [] (api_Type.mk 0 ByteArray.empty) false false (w64 (200 + (w64 ((w64 (Int.tmod p2 5)) - 2)))) (List.replicate (w64 (2000 + (w64 ((w64 (Int.tmod p1 5)) - 2)))).toNat (GoZero.zero 77 (α := api_Instr))) (List.replicate (w64 (50 + (w64 ((w64 (Int.tmod p3 5)) - 2)))).toNat (GoZero.zero 92 (α := api_Handler))))).bind fun x130 => (bif decide ((w64 ((w64 (Int.tmod p1 5)) - 2)) ≤ 0) then (some (w64 ((w64 (Int.tmod p3 5)) - 2), decide ((w64 ((w64 (Int.tmod p2 5)) - 2)) ≤ 0))) else (some (w64 ((w64 (Int.tmod p3 5)) - 2), false))).bind fun s136 => (bif s136.2 then (some (decide (s136.1 ≤ 0))) else (some false)).bind fun s139 => some (x130 == s139))))
theorem bonsailaw19_RewriteFits_spec {K : KM} {fu : Nat} {p1 : Int} {p2 : Int} {p3 : Int} {r : Bool} (hf : bonsailaw19_RewriteFits.fn fu p1 p2 p3 = some r) : Sp Try.prog 10 [(.int .u8 p1), (.int .u8 p2), (.int .u8 p3)] K [] (fun K' C v => v = (.bool r)) := by
  unfold bonsailaw19_RewriteFits.fn at hf
  refine spec_enter isf10 rfl ?_
  intro w L hS
  replace hS : Sat w K (flat [L]) := hS
  have hle := KM.le.refl K
  unfold bod10 Try.f10
  dsimp only [Option.getD_some, argSlots]
  refine s_seq (s_reg ?_)
  refine s_v rfl rfl rfl ?_
  refine s_nil (qn (s_seq (s_seq (s_reg ?_))))
  obtain ⟨x5, hx6, hf⟩ := bs hf
  refine s_call isf29 hS.nilG (bonsailaw19_known_spec hx6) rfl rfl rfl ?_
  rintro _ K7 C9 w hk8 rfl hS
  replace hS := hS.drop1
  refine s_v rfl rfl rfl ?_
  refine s_nil (qn ?_)
  refine s_if rfl (fun hc => ?_) (fun hc => ?_)
  · replace hf := bif_t hc hf
    refine s_seq (s_reg ?_)
    refine s_v rfl rfl rfl ?_
    refine s_nil (qn (s_rets (qrt ?_)))
    have hq := Option.some.inj hf
    subst hq
    refine s_ret1 rfl (rv_t rfl) ?_
    replace hle := hle.trans hk8
    exact ⟨K7, _, hle, rfl, Sat.nilG (hS.sel [0] rfl)⟩
  replace hf := bif_f hc hf
  refine s_skip (qn (s_seq (s_reg ?_)))
  iterate 15 refine s_v rfl rfl rfl ?_
  refine s_nil (qn (s_seq ?_))
  obtain ⟨hm40, hf⟩ := gs hf
  obtain ⟨hm77, hf⟩ := gs hf
  refine d_make (G := [L]) [⟨9, some 10, [], [], fun K D v C => ∃ (b110 : Nat), v = (.pointer (some ⟨b110, 0, none⟩)) ∧ C = [(b110, Cl [(.string ByteArray.empty), (.slice none 0 0), (.int .i64 0), (.string ByteArray.empty), (.bool false), (.bool false), (.int .i64 0), (.slice none 0 0), (.slice none 0 0)] 67)]⟩, ⟨8, some 33, [], [27, 32], fun K D v C => ∃ (a98 : Option Addr) (c99 : Nat) (a101 : Option Addr) (c102 : Nat), v = (.agg #[(.string ByteArray.empty), (.slice none 0 0), (.int .i64 0), (.string ByteArray.empty), (.bool false), (.bool false), (.int .i64 (w64 (200 + (w64 ((w64 (Int.tmod p2 5)) - 2))))), (.slice a98 ((List.replicate (w64 (2000 + (w64 ((w64 (Int.tmod p1 5)) - 2)))).toNat (GoZero.zero 77 (α := api_Instr))).length) c99), (.slice a101 ((List.replicate (w64 (50 + (w64 ((w64 (Int.tmod p3 5)) - 2)))).toNat (GoZero.zero 92 (α := api_Handler))).length) c102)]) ∧ D 27 = some (.slice a98 ((List.replicate (w64 (2000 + (w64 ((w64 (Int.tmod p1 5)) - 2)))).toNat (GoZero.zero 77 (α := api_Instr))).length) c99) ∧ D 32 = some (.slice a101 ((List.replicate (w64 (50 + (w64 ((w64 (Int.tmod p3 5)) - 2)))).toNat (GoZero.zero 92 (α := api_Handler))).length) c102) ∧ C = []⟩, ⟨7, some 32, [], [], fun K D v C => ∃ (C84 : Chunks) (a85 : Option Addr) (c86 : Nat), v = (.slice a85 ((List.replicate (w64 (50 + (w64 ((w64 (Int.tmod p3 5)) - 2)))).toNat (GoZero.zero 92 (α := api_Handler))).length) c86) ∧ OwnS 92 K (.slice a85 ((List.replicate (w64 (50 + (w64 ((w64 (Int.tmod p3 5)) - 2)))).toNat (GoZero.zero 92 (α := api_Handler))).length) c86) (List.replicate (w64 (50 + (w64 ((w64 (Int.tmod p3 5)) - 2)))).toNat (GoZero.zero 92 (α := api_Handler))) C84 ∧ C84 = C⟩, ⟨6, some 31, [], [], fun K D v C => v = (.int .i64 (w64 (50 + (w64 ((w64 (Int.tmod p3 5)) - 2))))) ∧ C = []⟩, ⟨5, some 30, [], [], fun K D v C => v = (.int .i64 (w64 ((w64 (Int.tmod p3 5)) - 2))) ∧ C = []⟩, ⟨4, some 29, [], [], fun K D v C => v = (.int .i64 (w64 (200 + (w64 ((w64 (Int.tmod p2 5)) - 2))))) ∧ C = []⟩, ⟨3, some 28, [], [], fun K D v C => v = (.int .i64 (w64 ((w64 (Int.tmod p2 5)) - 2))) ∧ C = []⟩, ⟨2, some 27, [], [], fun K D v C => ∃ (C47 : Chunks) (a48 : Option Addr) (c49 : Nat), v = (.slice a48 ((List.replicate (w64 (2000 + (w64 ((w64 (Int.tmod p1 5)) - 2)))).toNat (GoZero.zero 77 (α := api_Instr))).length) c49) ∧ OwnS 77 K (.slice a48 ((List.replicate (w64 (2000 + (w64 ((w64 (Int.tmod p1 5)) - 2)))).toNat (GoZero.zero 77 (α := api_Instr))).length) c49) (List.replicate (w64 (2000 + (w64 ((w64 (Int.tmod p1 5)) - 2)))).toNat (GoZero.zero 77 (α := api_Instr))) C47 ∧ C47 = C⟩, ⟨1, some 26, [], [], fun K D v C => v = (.int .i64 (w64 (2000 + (w64 ((w64 (Int.tmod p1 5)) - 2))))) ∧ C = []⟩, ⟨0, some 25, [], [], fun K D v C => v = (.int .i64 (w64 ((w64 (Int.tmod p1 5)) - 2))) ∧ C = []⟩] #[true, true, true, true, true, true, true, true, true, true, false] 0 1 ⟨by kernel_rfl, by kernel_rfl, by kernel_rfl, by kernel_rfl, by kernel_rfl, by kernel_rfl, by kernel_rfl⟩ rfl (by kernel_rfl) rfl hS ⟨?_, ?_, ?_, ?_, ?_, ?_, ?_, ?_, ?_, ?_, trivial⟩ ?_
  · refine ⟨_, rfl, rfl, rfl, ?_⟩
    intro K104 w Y105 σ hl0 hS hd hs X hX
    replace hS : Sat w K104 (flat [_, Y105]) := Sat.unnil hS
    have hh107 : within [] σ := trivial
    refine rg_head hh107 ?_
    have hle := KM.le.refl K104
    refine s_al hS rfl rfl rfl ?_
    intro b108 w hS
    replace hS : Sat w K104 (flat ([(b108, Cl [(.string ByteArray.empty), (.slice none 0 0), (.int .i64 0), (.string ByteArray.empty), (.bool false), (.bool false), (.int .i64 0), (.slice none 0 0), (.slice none 0 0)] 67)] :: _)) := hS
    refine s_nil ?_
    exact hX _ _ _ _ _ hh107 hle ⟨b108, rfl, rfl⟩ hS
  · refine ⟨_, rfl, rfl, rfl, ?_⟩
    intro K88 w Y89 σ hl0 hS hd hs X hX
    replace hS : Sat w K88 (flat [_, Y89]) := Sat.unnil hS
    obtain ⟨_, _, _, hk92, hv91, C47, a48, c49, rfl, h50, _⟩ := hd 7 _ rfl (by kernel_rfl)
    obtain ⟨_, _, _, hk94, hv93, rfl, _⟩ := hd 5 _ rfl (by kernel_rfl)
    obtain ⟨_, _, _, hk96, hv95, C84, a85, c86, rfl, h87, _⟩ := hd 2 _ rfl (by kernel_rfl)
    have hh97 : within [(27, (.slice a48 ((List.replicate (w64 (2000 + (w64 ((w64 (Int.tmod p1 5)) - 2)))).toNat (GoZero.zero 77 (α := api_Instr))).length) c49)), (29, (.int .i64 (w64 (200 + (w64 ((w64 (Int.tmod p2 5)) - 2)))))), (32, (.slice a85 ((List.replicate (w64 (50 + (w64 ((w64 (Int.tmod p3 5)) - 2)))).toNat (GoZero.zero 92 (α := api_Handler))).length) c86))] σ := ⟨hv91, hv93, hv95, trivial⟩
    refine rg_head hh97 ?_
    have hle := KM.le.refl K88
    refine s_v (v := (.agg #[(.string ByteArray.empty), (.slice none 0 0), (.int .i64 0), (.string ByteArray.empty), (.bool false), (.bool false), (.int .i64 (w64 (200 + (w64 ((w64 (Int.tmod p2 5)) - 2))))), (.slice a48 ((List.replicate (w64 (2000 + (w64 ((w64 (Int.tmod p1 5)) - 2)))).toNat (GoZero.zero 77 (α := api_Instr))).length) c49), (.slice a85 ((List.replicate (w64 (50 + (w64 ((w64 (Int.tmod p3 5)) - 2)))).toNat (GoZero.zero 92 (α := api_Handler))).length) c86)])) rfl rfl rfl ?_
    refine s_nil ?_
    exact hX _ _ _ _ _ hh97 hle ⟨a48, c49, a85, c86, rfl, hv91, hv95, rfl⟩ hS.nilG
  · refine ⟨_, rfl, rfl, rfl, ?_⟩
    intro K71 w Y72 σ hl0 hS hd hs X hX
    replace hS : Sat w K71 (flat [_, Y72]) := Sat.unnil hS
    obtain ⟨_, _, _, hk75, hv74, rfl, _⟩ := hd 3 _ rfl (by kernel_rfl)
    have hh76 : within [(31, (.int .i64 (w64 (50 + (w64 ((w64 (Int.tmod p3 5)) - 2))))))] σ := ⟨hv74, trivial⟩
    refine rg_head hh76 ?_
    have hle := KM.le.refl K71
    refine s_mks (e := 92) (α := api_Handler) hS rfl rfl rfl rfl (mayMake_le hm77).1 (mayMake_le hm77).2 rfl rfl rfl rfl rfl rfl ?_
    intro a78 c79 w C80 h81 hS
    refine s_nil ?_
    exact hX _ _ _ _ _ hh76 hle ⟨C80, a78, c79, rfl, h81, rfl⟩ hS
  · refine ⟨_, rfl, rfl, rfl, ?_⟩
    intro K65 w Y66 σ hl0 hS hd hs X hX
    replace hS : Sat w K65 (flat [_, Y66]) := Sat.unnil hS
    obtain ⟨_, _, _, hk69, hv68, rfl, _⟩ := hd 4 _ rfl (by kernel_rfl)
    have hh70 : within [(30, (.int .i64 (w64 ((w64 (Int.tmod p3 5)) - 2))))] σ := ⟨hv68, trivial⟩
    refine rg_head hh70 ?_
    have hle := KM.le.refl K65
    refine s_v rfl rfl rfl ?_
    refine s_nil ?_
    exact hX _ _ _ _ _ hh70 hle ⟨rfl, rfl⟩ hS.nilG
  · refine ⟨_, rfl, rfl, rfl, ?_⟩
    intro K61 w Y62 σ hl0 hS hd hs X hX
    replace hS : Sat w K61 (flat [_, Y62]) := Sat.unnil hS
    have hh64 : within [(9, (.int .i64 (w64 ((w64 (Int.tmod p3 5)) - 2))))] σ := ⟨hs 9 _ rfl rfl, trivial⟩
    refine rg_head hh64 ?_
    have hle := KM.le.refl K61
    refine s_v rfl rfl rfl ?_
    refine s_nil ?_
    exact hX _ _ _ _ _ hh64 hle ⟨rfl, rfl⟩ hS.nilG
  · refine ⟨_, rfl, rfl, rfl, ?_⟩
    intro K55 w Y56 σ hl0 hS hd hs X hX
    replace hS : Sat w K55 (flat [_, Y56]) := Sat.unnil hS
    obtain ⟨_, _, _, hk59, hv58, rfl, _⟩ := hd 6 _ rfl (by kernel_rfl)
    have hh60 : within [(28, (.int .i64 (w64 ((w64 (Int.tmod p2 5)) - 2))))] σ := ⟨hv58, trivial⟩
    refine rg_head hh60 ?_
    have hle := KM.le.refl K55
    refine s_v rfl rfl rfl ?_
    refine s_nil ?_
    exact hX _ _ _ _ _ hh60 hle ⟨rfl, rfl⟩ hS.nilG
  · refine ⟨_, rfl, rfl, rfl, ?_⟩
    intro K51 w Y52 σ hl0 hS hd hs X hX
    replace hS : Sat w K51 (flat [_, Y52]) := Sat.unnil hS
    have hh54 : within [(8, (.int .i64 (w64 ((w64 (Int.tmod p2 5)) - 2))))] σ := ⟨hs 8 _ rfl rfl, trivial⟩
    refine rg_head hh54 ?_
    have hle := KM.le.refl K51
    refine s_v rfl rfl rfl ?_
    refine s_nil ?_
    exact hX _ _ _ _ _ hh54 hle ⟨rfl, rfl⟩ hS.nilG
  · refine ⟨_, rfl, rfl, rfl, ?_⟩
    intro K34 w Y35 σ hl0 hS hd hs X hX
    replace hS : Sat w K34 (flat [_, Y35]) := Sat.unnil hS
    obtain ⟨_, _, _, hk38, hv37, rfl, _⟩ := hd 8 _ rfl (by kernel_rfl)
    have hh39 : within [(26, (.int .i64 (w64 (2000 + (w64 ((w64 (Int.tmod p1 5)) - 2))))))] σ := ⟨hv37, trivial⟩
    refine rg_head hh39 ?_
    have hle := KM.le.refl K34
    refine s_mks (e := 77) (α := api_Instr) hS rfl rfl rfl rfl (mayMake_le hm40).1 (mayMake_le hm40).2 rfl rfl rfl rfl rfl rfl ?_
    intro a41 c42 w C43 h44 hS
    refine s_nil ?_
    exact hX _ _ _ _ _ hh39 hle ⟨C43, a41, c42, rfl, h44, rfl⟩ hS
  · refine ⟨_, rfl, rfl, rfl, ?_⟩
    intro K28 w Y29 σ hl0 hS hd hs X hX
    replace hS : Sat w K28 (flat [_, Y29]) := Sat.unnil hS
    obtain ⟨_, _, _, hk32, hv31, rfl, _⟩ := hd 9 _ rfl (by kernel_rfl)
    have hh33 : within [(25, (.int .i64 (w64 ((w64 (Int.tmod p1 5)) - 2))))] σ := ⟨hv31, trivial⟩
    refine rg_head hh33 ?_
    have hle := KM.le.refl K28
    refine s_v rfl rfl rfl ?_
    refine s_nil ?_
    exact hX _ _ _ _ _ hh33 hle ⟨rfl, rfl⟩ hS.nilG
  · refine ⟨_, rfl, rfl, rfl, ?_⟩
    intro K24 w Y25 σ hl0 hS hd hs X hX
    replace hS : Sat w K24 (flat [_, Y25]) := Sat.unnil hS
    have hh27 : within [(7, (.int .i64 (w64 ((w64 (Int.tmod p1 5)) - 2))))] σ := ⟨hs 7 _ rfl rfl, trivial⟩
    refine rg_head hh27 ?_
    have hle := KM.le.refl K24
    refine s_v rfl rfl rfl ?_
    refine s_nil ?_
    exact hX _ _ _ _ _ hh27 hle ⟨rfl, rfl⟩ hS.nilG
  rintro K112 w _ _ hk113 hO hS
  obtain ⟨_, _, _, _, _, rfl, rfl, hk114, ⟨b110, rfl, rfl⟩, hO⟩ := hO
  obtain ⟨_, _, _, _, _, rfl, rfl, hk115, ⟨a98, c99, a101, c102, rfl, hr100, hr103, rfl⟩, hO⟩ := hO
  obtain ⟨_, _, _, _, _, rfl, rfl, hk116, ⟨C84, a85, c86, rfl, h87, rfl⟩, hO⟩ := hO
  obtain ⟨_, _, _, _, _, rfl, rfl, hk117, ⟨rfl, rfl⟩, hO⟩ := hO
  obtain ⟨_, _, _, _, _, rfl, rfl, hk118, ⟨rfl, rfl⟩, hO⟩ := hO
  obtain ⟨_, _, _, _, _, rfl, rfl, hk119, ⟨rfl, rfl⟩, hO⟩ := hO
  obtain ⟨_, _, _, _, _, rfl, rfl, hk120, ⟨rfl, rfl⟩, hO⟩ := hO
  obtain ⟨_, _, _, _, _, rfl, rfl, hk121, ⟨C47, a48, c49, rfl, h50, rfl⟩, hO⟩ := hO
  obtain ⟨_, _, _, _, _, rfl, rfl, hk122, ⟨rfl, rfl⟩, hO⟩ := hO
  obtain ⟨_, _, _, _, _, rfl, rfl, hk123, ⟨rfl, rfl⟩, hO⟩ := hO
  obtain ⟨rfl, rfl⟩ := hO
  obtain ⟨rfl, rfl⟩ := lnk_s2 (show some _ = some _ from hr100)
  obtain ⟨rfl, rfl⟩ := lnk_s2 (show some _ = some _ from hr103)
  replace hS : Sat w K112 (flat [[(b110, Cl [(.string ByteArray.empty), (.slice none 0 0), (.int .i64 0), (.string ByteArray.empty), (.bool false), (.bool false), (.int .i64 0), (.slice none 0 0), (.slice none 0 0)] 67)], C84, C47, L]) := hS.sel [0, 2, 7, 10] rfl
  refine At.weaken [(7, (.int .i64 (w64 ((w64 (Int.tmod p1 5)) - 2)))), (8, (.int .i64 (w64 ((w64 (Int.tmod p2 5)) - 2)))), (9, (.int .i64 (w64 ((w64 (Int.tmod p3 5)) - 2)))), (10, (.pointer (some ⟨b110, 0, none⟩))), (33, (.agg #[(.string ByteArray.empty), (.slice none 0 0), (.int .i64 0), (.string ByteArray.empty), (.bool false), (.bool false), (.int .i64 (w64 (200 + (w64 ((w64 (Int.tmod p2 5)) - 2))))), (.slice a48 ((List.replicate (w64 (2000 + (w64 ((w64 (Int.tmod p1 5)) - 2)))).toNat (GoZero.zero 77 (α := api_Instr))).length) c49), (.slice a85 ((List.replicate (w64 (50 + (w64 ((w64 (Int.tmod p3 5)) - 2)))).toNat (GoZero.zero 92 (α := api_Handler))).length) c86)]))] ⟨rfl, rfl, rfl, rfl, rfl, trivial⟩ ?_
  refine d_on [] [] hS ?_
  refine d_op 10 rfl (by kernel_rfl) (by kernel_rfl) (fun X hX => ?_)
  have hlq := KM.le.refl K112
  refine s_st (cs' := [(.string ByteArray.empty), (.slice none 0 0), (.int .i64 0), (.string ByteArray.empty), (.bool false), (.bool false), (.int .i64 (w64 (200 + (w64 ((w64 (Int.tmod p2 5)) - 2))))), (.slice a48 ((List.replicate (w64 (2000 + (w64 ((w64 (Int.tmod p1 5)) - 2)))).toNat (GoZero.zero 77 (α := api_Instr))).length) c49), (.slice a85 ((List.replicate (w64 (50 + (w64 ((w64 (Int.tmod p3 5)) - 2)))).toNat (GoZero.zero 92 (α := api_Handler))).length) c86)]) 0 hS rfl rfl rfl rfl rfl ?_
  intro w hS
  replace hS : Sat w _ (flat [_, _, _, _]) := hS
  refine d_go [] [] [] [] hX hS hlq rfl rfl trivial ?_
  refine d_end (by kernel_rfl) ?_
  refine qn (s_seq (s_reg ?_))
  refine s_ld (v := (.agg #[(.string ByteArray.empty), (.slice none 0 0), (.int .i64 0), (.string ByteArray.empty), (.bool false), (.bool false), (.int .i64 (w64 (200 + (w64 ((w64 (Int.tmod p2 5)) - 2))))), (.slice a48 ((List.replicate (w64 (2000 + (w64 ((w64 (Int.tmod p1 5)) - 2)))).toNat (GoZero.zero 77 (α := api_Instr))).length) c49), (.slice a85 ((List.replicate (w64 (50 + (w64 ((w64 (Int.tmod p3 5)) - 2)))).toNat (GoZero.zero 92 (α := api_Handler))).length) c86)])) 0 hS rfl rfl rfl rfl rfl ?_
  replace h50 := h50.mono hk121
  obtain ⟨K124, hk125, h126, hS⟩ := h50.freeze (hS.sel [2, 0, 1, 3] rfl)
  replace hS : Sat w _ (flat [_, _, _]) := hS
  replace h87 := h87.mono (hk116.trans hk125)
  obtain ⟨K127, hk128, h129, hS⟩ := h87.freeze (hS.sel [1, 0, 2] rfl)
  replace hS : Sat w _ (flat [_, _]) := hS
  obtain ⟨x130, hx131, hf⟩ := bs hf
  refine s_call isf36 hS.nilG (rewrite_Fits_spec hx131) rfl rfl rfl ?_
  rintro _ K132 C134 w hk133 rfl hS
  replace hS := hS.drop1
  iterate 3 refine s_v rfl rfl rfl ?_
  obtain ⟨s136, hst137, hf⟩ := bs hf
  have hkk0 := (((hk8.trans hk113).trans hk125).trans hk128).trans hk133
  refine r_cut [_, _, _] (fun τ w => ∃ (K135 : KM), τ = [(9, (.int .i64 s136.1)), (35, (.bool x130)), (41, (.bool s136.2))] ∧ KM.le K K135 ∧ Sat w K135 (flat [L])) rfl (fun J hJ => ?_) ?_
  · replace hf := hst137
    cases hc : (decide ((w64 ((w64 (Int.tmod p1 5)) - 2)) ≤ 0))
    · replace hf := bif_f hc hf
      refine s_no rfl rfl ?_
      refine s_no rfl rfl ?_
      refine s_v rfl rfl rfl ?_
      have hq := Option.some.inj hf
      subst hq
      replace hle := hle.trans hkk0
      refine r_join hJ _ ⟨K132, rfl, hle, (hS.sel [1] rfl)⟩ ⟨rfl, rfl, rfl, trivial⟩
    replace hf := bif_t hc hf
    iterate 3 refine s_v rfl rfl rfl ?_
    have hq := Option.some.inj hf
    subst hq
    replace hle := hle.trans hkk0
    refine r_join hJ _ ⟨K132, rfl, hle, (hS.sel [1] rfl)⟩ ⟨rfl, rfl, rfl, trivial⟩
  rintro _ w ⟨K135, rfl, hle, hS⟩
  refine s_v rfl rfl rfl ?_
  obtain ⟨s139, hst140, hf⟩ := bs hf
  refine r_cut [_, _, _] (fun τ w => ∃ (K138 : KM), τ = [(35, (.bool x130)), (45, (.bool s139))] ∧ KM.le K K138 ∧ Sat w K138 (flat [L])) rfl (fun J hJ => ?_) ?_
  · replace hf := hst140
    cases hc : s136.2
    · replace hf := bif_f hc hf
      refine s_no rfl rfl ?_
      refine s_no rfl rfl ?_
      refine s_v rfl rfl rfl ?_
      have hq := Option.some.inj hf
      subst hq
      refine r_join hJ _ ⟨K135, rfl, hle, hS⟩ ⟨rfl, rfl, trivial⟩
    replace hf := bif_t hc hf
    iterate 3 refine s_v rfl rfl rfl ?_
    have hq := Option.some.inj hf
    subst hq
    refine r_join hJ _ ⟨K135, rfl, hle, hS⟩ ⟨rfl, rfl, trivial⟩
  rintro _ w ⟨K138, rfl, hle, hS⟩
  iterate 2 refine s_v rfl rfl rfl ?_
  refine s_nil (qn (s_rets ?_))
  have hq := Option.some.inj hf
  subst hq
  refine s_ret1 rfl (rv_t rfl) ?_
  exact ⟨K138, _, hle, rfl, Sat.nilG (hS.sel [0] rfl)⟩
end Go.Proofs.Ytgaldjnnfkdohaa
