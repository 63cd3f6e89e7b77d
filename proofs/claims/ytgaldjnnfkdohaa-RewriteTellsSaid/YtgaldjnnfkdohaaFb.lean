/- Functions of the program, and their walks: what each reckons, and that its code reckons it. -/
import Derived.Test.YtgaldjnnfkdohaaFa
set_option linter.unusedVariables false
set_option linter.unusedSimpArgs false
set_option maxHeartbeats 0
set_option maxRecDepth 100000
namespace Go.Proofs.Ytgaldjnnfkdohaa
open Go Go.Fw
noncomputable def bod46 : Code := Try.f46.body.getD .skip
theorem isf46 : IsFn Try.prog 46 Try.f46 bod46 := ⟨Try.func46, rfl, by decide⟩
noncomputable def bod49 : Code := Try.f49.body.getD .skip
theorem isf49 : IsFn Try.prog 49 Try.f49 bod49 := ⟨Try.func49, rfl, by decide⟩
noncomputable def bod51 : Code := Try.f51.body.getD .skip
theorem isf51 : IsFn Try.prog 51 Try.f51 bod51 := ⟨Try.func51, rfl, by decide⟩
noncomputable def bod50 : Code := Try.f50.body.getD .skip
theorem isf50 : IsFn Try.prog 50 Try.f50 bod50 := ⟨Try.func50, rfl, by decide⟩
noncomputable def bod63 : Code := Try.f63.body.getD .skip
theorem isf63 : IsFn Try.prog 63 Try.f63 bod63 := ⟨Try.func63, rfl, by decide⟩
noncomputable def bod59 : Code := Try.f59.body.getD .skip
theorem isf59 : IsFn Try.prog 59 Try.f59 bod59 := ⟨Try.func59, rfl, by decide⟩
noncomputable def bod60 : Code := Try.f60.body.getD .skip
theorem isf60 : IsFn Try.prog 60 Try.f60 bod60 := ⟨Try.func60, rfl, by decide⟩
noncomputable def bod67 : Code := Try.f67.body.getD .skip
theorem isf67 : IsFn Try.prog 67 Try.f67 bod67 := ⟨Try.func67, rfl, by decide⟩
noncomputable def bod65 : Code := Try.f65.body.getD .skip
theorem isf65 : IsFn Try.prog 65 Try.f65 bod65 := ⟨Try.func65, rfl, by decide⟩
noncomputable def bod66 : Code := Try.f66.body.getD .skip
theorem isf66 : IsFn Try.prog 66 Try.f66 bod66 := ⟨Try.func66, rfl, by decide⟩
noncomputable def bod58 : Code := Try.f58.body.getD .skip
theorem isf58 : IsFn Try.prog 58 Try.f58 bod58 := ⟨Try.func58, rfl, by decide⟩
noncomputable def bod68 : Code := Try.f68.body.getD .skip
theorem isf68 : IsFn Try.prog 68 Try.f68 bod68 := ⟨Try.func68, rfl, by decide⟩
noncomputable def bod69 : Code := Try.f69.body.getD .skip
theorem isf69 : IsFn Try.prog 69 Try.f69 bod69 := ⟨Try.func69, rfl, by decide⟩
noncomputable def bod48 : Code := Try.f48.body.getD .skip
theorem isf48 : IsFn Try.prog 48 Try.f48 bod48 := ⟨Try.func48, rfl, by decide⟩
noncomputable def bod64 : Code := Try.f64.body.getD .skip
theorem isf64 : IsFn Try.prog 64 Try.f64 bod64 := ⟨Try.func64, rfl, by decide⟩
noncomputable def bod47 : Code := Try.f47.body.getD .skip
theorem isf47 : IsFn Try.prog 47 Try.f47 bod47 := ⟨Try.func47, rfl, by decide⟩
-- 46 bonsai/bonsaiseat.typ
def bonsaiseat_typ.fn (p1 : Int) : Option api_Type := some (api_Type.mk p1 ByteArray.empty)
theorem bonsaiseat_typ_spec {K : KM} {p1 : Int} {r : api_Type} (hf : bonsaiseat_typ.fn p1 = some r) : Sp Try.prog 46 [(.int .i64 p1)] K [] (fun K' C v => v = (.agg (vv63 r).toArray)) := by
  unfold bonsaiseat_typ.fn at hf
  refine spec_enter isf46 rfl ?_
  intro w L hS
  replace hS : Sat w K (flat [L]) := hS
  have hle := KM.le.refl K
  unfold bod46 Try.f46
  dsimp only [Option.getD_some, argSlots]
  refine s_seq (s_reg ?_)
  refine s_al hS rfl rfl rfl ?_
  intro b3 w hS
  replace hS : Sat w K (flat ([(b3, Cl [(.int .i64 0), (.string ByteArray.empty)] 63)] :: _)) := hS
  refine s_nil (qn (s_seq (s_reg ?_)))
  refine s_v rfl rfl rfl ?_
  refine s_v (v := (.agg #[(.int .i64 p1), (.string ByteArray.empty)])) rfl rfl rfl ?_
  refine s_st (cs' := [(.int .i64 p1), (.string ByteArray.empty)]) 0 hS rfl rfl rfl rfl rfl ?_
  intro w hS
  replace hS : Sat w _ (flat [_, _]) := hS
  refine s_nil (qn (s_rets ?_))
  have hq := Option.some.inj hf
  subst hq
  refine s_ret1 rfl (rv_c (v := (.agg #[(.int .i64 p1), (.string ByteArray.empty)])) 0 hS rfl rfl rfl) ?_
  exact ⟨K, _, hle, rfl, Sat.nilG (hS.sel [1] rfl)⟩
-- 49 bonsai/bonsaiseat.of
def bonsaiseat_of.fn (p1 : Int) (p2 : ByteArray) : Option api_Instr := some (api_Instr.mk p1 0 0 ByteArray.empty p2 ByteArray.empty ByteArray.empty)
theorem bonsaiseat_of_spec {K : KM} {p1 : Int} {p2 : ByteArray} {r : api_Instr} (hf : bonsaiseat_of.fn p1 p2 = some r) : Sp Try.prog 49 [(.int .i64 p1), (.string p2)] K [] (fun K' C v => v = (.agg (vv77 r).toArray)) := by
  unfold bonsaiseat_of.fn at hf
  refine spec_enter isf49 rfl ?_
  intro w L hS
  replace hS : Sat w K (flat [L]) := hS
  have hle := KM.le.refl K
  unfold bod49 Try.f49
  dsimp only [Option.getD_some, argSlots]
  refine s_seq (s_reg ?_)
  refine s_al hS rfl rfl rfl ?_
  intro b4 w hS
  replace hS : Sat w K (flat ([(b4, Cl [(.int .i64 0), (.int .i32 0), (.int .i64 0), (.string ByteArray.empty), (.string ByteArray.empty), (.string ByteArray.empty), (.string ByteArray.empty)] 77)] :: _)) := hS
  refine s_nil (qn (s_seq (s_reg ?_)))
  iterate 2 refine s_v rfl rfl rfl ?_
  refine s_v (v := (.agg #[(.int .i64 p1), (.int .i32 0), (.int .i64 0), (.string ByteArray.empty), (.string p2), (.string ByteArray.empty), (.string ByteArray.empty)])) rfl rfl rfl ?_
  refine s_st (cs' := [(.int .i64 p1), (.int .i32 0), (.int .i64 0), (.string ByteArray.empty), (.string p2), (.string ByteArray.empty), (.string ByteArray.empty)]) 0 hS rfl rfl rfl rfl rfl ?_
  intro w hS
  replace hS : Sat w _ (flat [_, _]) := hS
  refine s_nil (qn (s_rets ?_))
  have hq := Option.some.inj hf
  subst hq
  refine s_ret1 rfl (rv_c (v := (.agg #[(.int .i64 p1), (.int .i32 0), (.int .i64 0), (.string ByteArray.empty), (.string p2), (.string ByteArray.empty), (.string ByteArray.empty)])) 0 hS rfl rfl rfl) ?_
  exact ⟨K, _, hle, rfl, Sat.nilG (hS.sel [1] rfl)⟩
-- 51 bonsai/bonsaiseat.at
def bonsaiseat_at.fn (p1 : Int) (p2 : Int) : Option api_Instr := some (api_Instr.mk p1 0 p2 ByteArray.empty ByteArray.empty ByteArray.empty ByteArray.empty)
theorem bonsaiseat_at_spec {K : KM} {p1 : Int} {p2 : Int} {r : api_Instr} (hf : bonsaiseat_at.fn p1 p2 = some r) : Sp Try.prog 51 [(.int .i64 p1), (.int .i64 p2)] K [] (fun K' C v => v = (.agg (vv77 r).toArray)) := by
  unfold bonsaiseat_at.fn at hf
  refine spec_enter isf51 rfl ?_
  intro w L hS
  replace hS : Sat w K (flat [L]) := hS
  have hle := KM.le.refl K
  unfold bod51 Try.f51
  dsimp only [Option.getD_some, argSlots]
  refine s_seq (s_reg ?_)
  refine s_al hS rfl rfl rfl ?_
  intro b4 w hS
  replace hS : Sat w K (flat ([(b4, Cl [(.int .i64 0), (.int .i32 0), (.int .i64 0), (.string ByteArray.empty), (.string ByteArray.empty), (.string ByteArray.empty), (.string ByteArray.empty)] 77)] :: _)) := hS
  refine s_nil (qn (s_seq (s_reg ?_)))
  iterate 2 refine s_v rfl rfl rfl ?_
  refine s_v (v := (.agg #[(.int .i64 p1), (.int .i32 0), (.int .i64 p2), (.string ByteArray.empty), (.string ByteArray.empty), (.string ByteArray.empty), (.string ByteArray.empty)])) rfl rfl rfl ?_
  refine s_st (cs' := [(.int .i64 p1), (.int .i32 0), (.int .i64 p2), (.string ByteArray.empty), (.string ByteArray.empty), (.string ByteArray.empty), (.string ByteArray.empty)]) 0 hS rfl rfl rfl rfl rfl ?_
  intro w hS
  replace hS : Sat w _ (flat [_, _]) := hS
  refine s_nil (qn (s_rets ?_))
  have hq := Option.some.inj hf
  subst hq
  refine s_ret1 rfl (rv_c (v := (.agg #[(.int .i64 p1), (.int .i32 0), (.int .i64 p2), (.string ByteArray.empty), (.string ByteArray.empty), (.string ByteArray.empty), (.string ByteArray.empty)])) 0 hS rfl rfl rfl) ?_
  exact ⟨K, _, hle, rfl, Sat.nilG (hS.sel [1] rfl)⟩
-- 50 bonsai/bonsaiseat.one
def bonsaiseat_one.fn (p1 : Int) : Option api_Instr := some (api_Instr.mk p1 0 0 ByteArray.empty ByteArray.empty ByteArray.empty ByteArray.empty)
theorem bonsaiseat_one_spec {K : KM} {p1 : Int} {r : api_Instr} (hf : bonsaiseat_one.fn p1 = some r) : Sp Try.prog 50 [(.int .i64 p1)] K [] (fun K' C v => v = (.agg (vv77 r).toArray)) := by
  unfold bonsaiseat_one.fn at hf
  refine spec_enter isf50 rfl ?_
  intro w L hS
  replace hS : Sat w K (flat [L]) := hS
  have hle := KM.le.refl K
  unfold bod50 Try.f50
  dsimp only [Option.getD_some, argSlots]
  refine s_seq (s_reg ?_)
  refine s_al hS rfl rfl rfl ?_
  intro b3 w hS
  replace hS : Sat w K (flat ([(b3, Cl [(.int .i64 0), (.int .i32 0), (.int .i64 0), (.string ByteArray.empty), (.string ByteArray.empty), (.string ByteArray.empty), (.string ByteArray.empty)] 77)] :: _)) := hS
  refine s_nil (qn (s_seq (s_reg ?_)))
  refine s_v rfl rfl rfl ?_
  refine s_v (v := (.agg #[(.int .i64 p1), (.int .i32 0), (.int .i64 0), (.string ByteArray.empty), (.string ByteArray.empty), (.string ByteArray.empty), (.string ByteArray.empty)])) rfl rfl rfl ?_
  refine s_st (cs' := [(.int .i64 p1), (.int .i32 0), (.int .i64 0), (.string ByteArray.empty), (.string ByteArray.empty), (.string ByteArray.empty), (.string ByteArray.empty)]) 0 hS rfl rfl rfl rfl rfl ?_
  intro w hS
  replace hS : Sat w _ (flat [_, _]) := hS
  refine s_nil (qn (s_rets ?_))
  have hq := Option.some.inj hf
  subst hq
  refine s_ret1 rfl (rv_c (v := (.agg #[(.int .i64 p1), (.int .i32 0), (.int .i64 0), (.string ByteArray.empty), (.string ByteArray.empty), (.string ByteArray.empty), (.string ByteArray.empty)])) 0 hS rfl rfl rfl) ?_
  exact ⟨K, _, hle, rfl, Sat.nilG (hS.sel [1] rfl)⟩
-- 63 bonsai/bonsaiseat.ref
def bonsaiseat_ref.fn (p1 : ByteArray) : Option api_Type := some (api_Type.mk 4 p1)
theorem bonsaiseat_ref_spec {K : KM} {p1 : ByteArray} {r : api_Type} (hf : bonsaiseat_ref.fn p1 = some r) : Sp Try.prog 63 [(.string p1)] K [] (fun K' C v => v = (.agg (vv63 r).toArray)) := by
  unfold bonsaiseat_ref.fn at hf
  refine spec_enter isf63 rfl ?_
  intro w L hS
  replace hS : Sat w K (flat [L]) := hS
  have hle := KM.le.refl K
  unfold bod63 Try.f63
  dsimp only [Option.getD_some, argSlots]
  refine s_seq (s_reg ?_)
  refine s_al hS rfl rfl rfl ?_
  intro b3 w hS
  replace hS : Sat w K (flat ([(b3, Cl [(.int .i64 0), (.string ByteArray.empty)] 63)] :: _)) := hS
  refine s_nil (qn (s_seq (s_reg ?_)))
  refine s_v rfl rfl rfl ?_
  refine s_v (v := (.agg #[(.int .i64 4), (.string p1)])) rfl rfl rfl ?_
  refine s_st (cs' := [(.int .i64 4), (.string p1)]) 0 hS rfl rfl rfl rfl rfl ?_
  intro w hS
  replace hS : Sat w _ (flat [_, _]) := hS
  refine s_nil (qn (s_rets ?_))
  have hq := Option.some.inj hf
  subst hq
  refine s_ret1 rfl (rv_c (v := (.agg #[(.int .i64 4), (.string p1)])) 0 hS rfl rfl rfl) ?_
  exact ⟨K, _, hle, rfl, Sat.nilG (hS.sel [1] rfl)⟩
-- 59 bonsai/bonsaiseat.num
def bonsaiseat_num.fn (p1 : Int) : Option api_Instr := some (api_Instr.mk 1 (w32 p1) 0 ByteArray.empty ByteArray.empty ByteArray.empty ByteArray.empty)
theorem bonsaiseat_num_spec {K : KM} {p1 : Int} {r : api_Instr} (hf : bonsaiseat_num.fn p1 = some r) : Sp Try.prog 59 [(.int .i64 p1)] K [] (fun K' C v => v = (.agg (vv77 r).toArray)) := by
  unfold bonsaiseat_num.fn at hf
  refine spec_enter isf59 rfl ?_
  intro w L hS
  replace hS : Sat w K (flat [L]) := hS
  have hle := KM.le.refl K
  unfold bod59 Try.f59
  dsimp only [Option.getD_some, argSlots]
  refine s_seq (s_reg ?_)
  refine s_al hS rfl rfl rfl ?_
  intro b3 w hS
  replace hS : Sat w K (flat ([(b3, Cl [(.int .i64 0), (.int .i32 0), (.int .i64 0), (.string ByteArray.empty), (.string ByteArray.empty), (.string ByteArray.empty), (.string ByteArray.empty)] 77)] :: _)) := hS
  refine s_nil (qn (s_seq (s_reg ?_)))
  iterate 2 refine s_v rfl rfl rfl ?_
  refine s_v (v := (.agg #[(.int .i64 1), (.int .i32 (w32 p1)), (.int .i64 0), (.string ByteArray.empty), (.string ByteArray.empty), (.string ByteArray.empty), (.string ByteArray.empty)])) rfl rfl rfl ?_
  refine s_st (cs' := [(.int .i64 1), (.int .i32 (w32 p1)), (.int .i64 0), (.string ByteArray.empty), (.string ByteArray.empty), (.string ByteArray.empty), (.string ByteArray.empty)]) 0 hS rfl rfl rfl rfl rfl ?_
  intro w hS
  replace hS : Sat w _ (flat [_, _]) := hS
  refine s_nil (qn (s_rets ?_))
  have hq := Option.some.inj hf
  subst hq
  refine s_ret1 rfl (rv_c (v := (.agg #[(.int .i64 1), (.int .i32 (w32 p1)), (.int .i64 0), (.string ByteArray.empty), (.string ByteArray.empty), (.string ByteArray.empty), (.string ByteArray.empty)])) 0 hS rfl rfl rfl) ?_
  exact ⟨K, _, hle, rfl, Sat.nilG (hS.sel [1] rfl)⟩
-- 60 bonsai/bonsaiseat.str
def bonsaiseat_str.fn (p1 : ByteArray) : Option api_Instr := some (api_Instr.mk 2 0 0 p1 ByteArray.empty ByteArray.empty ByteArray.empty)
theorem bonsaiseat_str_spec {K : KM} {p1 : ByteArray} {r : api_Instr} (hf : bonsaiseat_str.fn p1 = some r) : Sp Try.prog 60 [(.string p1)] K [] (fun K' C v => v = (.agg (vv77 r).toArray)) := by
  unfold bonsaiseat_str.fn at hf
  refine spec_enter isf60 rfl ?_
  intro w L hS
  replace hS : Sat w K (flat [L]) := hS
  have hle := KM.le.refl K
  unfold bod60 Try.f60
  dsimp only [Option.getD_some, argSlots]
  refine s_seq (s_reg ?_)
  refine s_al hS rfl rfl rfl ?_
  intro b3 w hS
  replace hS : Sat w K (flat ([(b3, Cl [(.int .i64 0), (.int .i32 0), (.int .i64 0), (.string ByteArray.empty), (.string ByteArray.empty), (.string ByteArray.empty), (.string ByteArray.empty)] 77)] :: _)) := hS
  refine s_nil (qn (s_seq (s_reg ?_)))
  refine s_v rfl rfl rfl ?_
  refine s_v (v := (.agg #[(.int .i64 2), (.int .i32 0), (.int .i64 0), (.string p1), (.string ByteArray.empty), (.string ByteArray.empty), (.string ByteArray.empty)])) rfl rfl rfl ?_
  refine s_st (cs' := [(.int .i64 2), (.int .i32 0), (.int .i64 0), (.string p1), (.string ByteArray.empty), (.string ByteArray.empty), (.string ByteArray.empty)]) 0 hS rfl rfl rfl rfl rfl ?_
  intro w hS
  replace hS : Sat w _ (flat [_, _]) := hS
  refine s_nil (qn (s_rets ?_))
  have hq := Option.some.inj hf
  subst hq
  refine s_ret1 rfl (rv_c (v := (.agg #[(.int .i64 2), (.int .i32 0), (.int .i64 0), (.string p1), (.string ByteArray.empty), (.string ByteArray.empty), (.string ByteArray.empty)])) 0 hS rfl rfl rfl) ?_
  exact ⟨K, _, hle, rfl, Sat.nilG (hS.sel [1] rfl)⟩
-- 67 bonsai/bonsaiseat.word
def bonsaiseat_word.fn (p1 : Int) : Option ByteArray := (idx ([(⟨#[97]⟩ : ByteArray), (⟨#[98, 99]⟩ : ByteArray), (⟨#[]⟩ : ByteArray), (⟨#[120, 32, 121]⟩ : ByteArray), (⟨#[48]⟩ : ByteArray)] : List ByteArray) (Int.tmod p1 5)).bind fun x7 => some x7
theorem bonsaiseat_word_spec {K : KM} {p1 : Int} {r : ByteArray} (hf : bonsaiseat_word.fn p1 = some r) : Sp Try.prog 67 [(.int .u8 p1)] K [] (fun K' C v => v = (.string r)) := by
  unfold bonsaiseat_word.fn at hf
  refine spec_enter isf67 rfl ?_
  intro w L hS
  replace hS : Sat w K (flat [L]) := hS
  have hle := KM.le.refl K
  unfold bod67 Try.f67
  dsimp only [Option.getD_some, argSlots]
  refine s_seq (s_reg ?_)
  refine s_v rfl rfl rfl ?_
  refine s_nil (qn (s_seq (s_reg ?_)))
  refine s_bwc (cs := [(.string (⟨#[97]⟩ : ByteArray)), (.string (⟨#[98, 99]⟩ : ByteArray)), (.string (⟨#[]⟩ : ByteArray)), (.string (⟨#[120, 32, 121]⟩ : ByteArray)), (.string (⟨#[48]⟩ : ByteArray))]) hS rfl rfl rfl rfl rfl rfl rfl rfl rfl rfl ?_
  intro b3 w hS
  iterate 2 refine s_v rfl rfl rfl ?_
  have h5 : OwnS 9 K (.slice (some ⟨b3, 0, none⟩) 5 5) ([(⟨#[97]⟩ : ByteArray), (⟨#[98, 99]⟩ : ByteArray), (⟨#[]⟩ : ByteArray), (⟨#[120, 32, 121]⟩ : ByteArray), (⟨#[48]⟩ : ByteArray)] : List ByteArray) [(b3, Cl [(.string (⟨#[97]⟩ : ByteArray)), (.string (⟨#[98, 99]⟩ : ByteArray)), (.string (⟨#[]⟩ : ByteArray)), (.string (⟨#[120, 32, 121]⟩ : ByteArray)), (.string (⟨#[48]⟩ : ByteArray))] 9)] := OwnS.lit ⟨[(.string (⟨#[97]⟩ : ByteArray))], _, rfl, rfl, ⟨[(.string (⟨#[98, 99]⟩ : ByteArray))], _, rfl, rfl, ⟨[(.string (⟨#[]⟩ : ByteArray))], _, rfl, rfl, ⟨[(.string (⟨#[120, 32, 121]⟩ : ByteArray))], _, rfl, rfl, ⟨[(.string (⟨#[48]⟩ : ByteArray))], _, rfl, rfl, rfl⟩⟩⟩⟩⟩ rfl rfl
  generalize hCg_ : ([(b3, Cl [(.string (⟨#[97]⟩ : ByteArray)), (.string (⟨#[98, 99]⟩ : ByteArray)), (.string (⟨#[]⟩ : ByteArray)), (.string (⟨#[120, 32, 121]⟩ : ByteArray)), (.string (⟨#[48]⟩ : ByteArray))] 9)] : Chunks) = C6 at hS h5
  clear hCg_
  obtain ⟨x7, hx8, hf⟩ := bs hf
  refine s_ixo 0 hS rfl h5 hx8 rfl rfl rfl rfl rfl rfl rfl ?_
  intro b9 l10 cs13 l11 hcs_ hC14 hun12
  obtain rfl := hcs_
  subst hC14
  have hq15 := KM.le.refl K
  refine s_ldm 0 0 hS rfl rfl rfl rfl rfl ?_
  refine s_v rfl rfl rfl ?_
  refine s_nil (qn ?_)
  replace hS : Sat w K (flat [_]) := (hS.sel [1] rfl)
  refine s_rets ?_
  have hq := Option.some.inj hf
  subst hq
  refine s_ret1 rfl (rv_t rfl) ?_
  exact ⟨K, _, hle, rfl, Sat.nilG (hS.sel [0] rfl)⟩
-- 65 bonsai/bonsaiseat.call
def bonsaiseat_call.fn (p1 : Int) (p2 : ByteArray) (p3 : ByteArray) (p4 : ByteArray) : Option api_Instr := some (api_Instr.mk p1 0 0 ByteArray.empty p2 p3 p4)
theorem bonsaiseat_call_spec {K : KM} {p1 : Int} {p2 : ByteArray} {p3 : ByteArray} {p4 : ByteArray} {r : api_Instr} (hf : bonsaiseat_call.fn p1 p2 p3 p4 = some r) : Sp Try.prog 65 [(.int .i64 p1), (.string p2), (.string p3), (.string p4)] K [] (fun K' C v => v = (.agg (vv77 r).toArray)) := by
  unfold bonsaiseat_call.fn at hf
  refine spec_enter isf65 rfl ?_
  intro w L hS
  replace hS : Sat w K (flat [L]) := hS
  have hle := KM.le.refl K
  unfold bod65 Try.f65
  dsimp only [Option.getD_some, argSlots]
  refine s_seq (s_reg ?_)
  refine s_al hS rfl rfl rfl ?_
  intro b6 w hS
  replace hS : Sat w K (flat ([(b6, Cl [(.int .i64 0), (.int .i32 0), (.int .i64 0), (.string ByteArray.empty), (.string ByteArray.empty), (.string ByteArray.empty), (.string ByteArray.empty)] 77)] :: _)) := hS
  refine s_nil (qn (s_seq (s_reg ?_)))
  iterate 4 refine s_v rfl rfl rfl ?_
  refine s_v (v := (.agg #[(.int .i64 p1), (.int .i32 0), (.int .i64 0), (.string ByteArray.empty), (.string p2), (.string p3), (.string p4)])) rfl rfl rfl ?_
  refine s_st (cs' := [(.int .i64 p1), (.int .i32 0), (.int .i64 0), (.string ByteArray.empty), (.string p2), (.string p3), (.string p4)]) 0 hS rfl rfl rfl rfl rfl ?_
  intro w hS
  replace hS : Sat w _ (flat [_, _]) := hS
  refine s_nil (qn (s_rets ?_))
  have hq := Option.some.inj hf
  subst hq
  refine s_ret1 rfl (rv_c (v := (.agg #[(.int .i64 p1), (.int .i32 0), (.int .i64 0), (.string ByteArray.empty), (.string p2), (.string p3), (.string p4)])) 0 hS rfl rfl rfl) ?_
  exact ⟨K, _, hle, rfl, Sat.nilG (hS.sel [1] rfl)⟩
-- 66 bonsai/bonsaiseat.part
def bonsaiseat_part.fn (p1 : Int) (p2 : ByteArray) (p3 : ByteArray) : Option api_Instr := some (api_Instr.mk p1 0 0 ByteArray.empty p2 p3 ByteArray.empty)
theorem bonsaiseat_part_spec {K : KM} {p1 : Int} {p2 : ByteArray} {p3 : ByteArray} {r : api_Instr} (hf : bonsaiseat_part.fn p1 p2 p3 = some r) : Sp Try.prog 66 [(.int .i64 p1), (.string p2), (.string p3)] K [] (fun K' C v => v = (.agg (vv77 r).toArray)) := by
  unfold bonsaiseat_part.fn at hf
  refine spec_enter isf66 rfl ?_
  intro w L hS
  replace hS : Sat w K (flat [L]) := hS
  have hle := KM.le.refl K
  unfold bod66 Try.f66
  dsimp only [Option.getD_some, argSlots]
  refine s_seq (s_reg ?_)
  refine s_al hS rfl rfl rfl ?_
  intro b5 w hS
  replace hS : Sat w K (flat ([(b5, Cl [(.int .i64 0), (.int .i32 0), (.int .i64 0), (.string ByteArray.empty), (.string ByteArray.empty), (.string ByteArray.empty), (.string ByteArray.empty)] 77)] :: _)) := hS
  refine s_nil (qn (s_seq (s_reg ?_)))
  iterate 3 refine s_v rfl rfl rfl ?_
  refine s_v (v := (.agg #[(.int .i64 p1), (.int .i32 0), (.int .i64 0), (.string ByteArray.empty), (.string p2), (.string p3), (.string ByteArray.empty)])) rfl rfl rfl ?_
  refine s_st (cs' := [(.int .i64 p1), (.int .i32 0), (.int .i64 0), (.string ByteArray.empty), (.string p2), (.string p3), (.string ByteArray.empty)]) 0 hS rfl rfl rfl rfl rfl ?_
  intro w hS
  replace hS : Sat w _ (flat [_, _]) := hS
  refine s_nil (qn (s_rets ?_))
  have hq := Option.some.inj hf
  subst hq
  refine s_ret1 rfl (rv_c (v := (.agg #[(.int .i64 p1), (.int .i32 0), (.int .i64 0), (.string ByteArray.empty), (.string p2), (.string p3), (.string ByteArray.empty)])) 0 hS rfl rfl rfl) ?_
  exact ⟨K, _, hle, rfl, Sat.nilG (hS.sel [1] rfl)⟩
-- 58 (*bonsai/bonsaiseat.builder).add
def bonsaiseat_builder_add.fn (p1 : bonsaiseat_builder) (p14 : (List api_Instr)) : Option bonsaiseat_builder := guardB (roomy p1.l_.length p14.length 88) (some (bonsaiseat_builder.mk (p1.l_ ++ p14) p1.h_))
theorem bonsaiseat_builder_add_spec {K : KM} {p1 : bonsaiseat_builder} {p14 : (List api_Instr)} {r : bonsaiseat_builder} {b2 : Nat} {a3 : Option Addr} {c4 : Nat} {a6 : Option Addr} {c7 : Nat} {C10 : Chunks} {C11 : Chunks} {a15 : Option Addr} {c16 : Nat} (hf : bonsaiseat_builder_add.fn p1 p14 = some r) (h5 : OwnS 77 K (.slice a3 p1.l_.length c4) p1.l_ C10) (h8 : OwnS 92 K (.slice a6 p1.h_.length c7) p1.h_ C11) (h17 : SlK 77 K a15 c16 p14) : Sp Try.prog 58 [(.pointer (some ⟨b2, 0, none⟩)), (.slice a15 p14.length c16)] K (flat [[(b2, Cl (vv127 p1 a3 c4 a6 c7) 127)], C10, C11]) (fun K' C v => ∃ (a24 : Option Addr) (c25 : Nat) (a27 : Option Addr) (c28 : Nat) (C_0 : Chunks) (C_1 : Chunks), v = (.tuple #[]) ∧ OwnS 77 K' (.slice a24 r.l_.length c25) r.l_ C_0 ∧ OwnS 92 K' (.slice a27 r.h_.length c28) r.h_ C_1 ∧ C = flat [[(b2, Cl (vv127 r a24 c25 a27 c28) 127)], C_0, C_1]) := by
  unfold bonsaiseat_builder_add.fn at hf
  refine spec_enter isf58 rfl ?_
  intro w L hS
  replace hS : Sat w K (flat [[(b2, Cl (vv127 p1 a3 c4 a6 c7) 127)], C10, C11, L]) := hS.open
  have hle := KM.le.refl K
  unfold bod58 Try.f58
  dsimp only [Option.getD_some, argSlots]
  refine s_reg ?_
  iterate 4 refine s_v rfl rfl rfl ?_
  refine s_ld 0 hS rfl rfl rfl rfl rfl ?_
  refine s_v rfl rfl rfl ?_
  obtain ⟨hm19, hf⟩ := gs hf
  refine s_appk (e := 77) 1 hS rfl h5 h17 rfl rfl rfl rfl rfl rfl rfl (roomy_le hm19) rfl rfl rfl ?_
  intro a20 c21 w C22 h23 hS
  replace hS : Sat w _ (flat [_, _, _, _]) := hS
  iterate 2 refine s_v rfl rfl rfl ?_
  refine s_st (cs' := [(.slice a20 ((p1.l_ ++ p14).length) c21), (.slice a6 p1.h_.length c7)]) 0 hS rfl rfl rfl rfl rfl ?_
  intro w hS
  replace hS : Sat w _ (flat [_, _, _, _]) := hS
  refine s_nil ?_
  have hq := Option.some.inj hf
  subst hq
  refine s_fall0 rfl ?_
  exact ⟨K, _, hle, ⟨a20, c21, a6, c7, C22, C11, rfl, h23, h8, rfl⟩, Sat.shut3 hS⟩
-- 68 (*bonsai/bonsaiseat.builder).try
def bonsaiseat_builder_try.fn (p1 : bonsaiseat_builder) (p14 : Int) (p15 : ByteArray) (p16 : ByteArray) : Option bonsaiseat_builder := (bonsaiseat_at.fn 19 (w64 ((p1.l_.length : Int) + 4))).bind fun x18 => (bonsaiseat_builder_add.fn p1 [x18]).bind fun x29 => (bonsaiseat_one.fn 6).bind fun x45 => (bonsaiseat_str.fn p16).bind fun x50 => (bonsaiseat_one.fn 41).bind fun x55 => (bonsaiseat_builder_add.fn x29 [x45, x50, x55]).bind fun x66 => guardB (roomy x66.h_.length 1 40) (some (bonsaiseat_builder.mk x66.l_ (x66.h_ ++ ([(api_Handler.mk p14 (p1.l_.length : Int) (w64 ((p1.l_.length : Int) + 1)) p15)] : List api_Handler))))
theorem bonsaiseat_builder_try_spec {K : KM} {p1 : bonsaiseat_builder} {p14 : Int} {p15 : ByteArray} {p16 : ByteArray} {r : bonsaiseat_builder} {b2 : Nat} {a3 : Option Addr} {c4 : Nat} {a6 : Option Addr} {c7 : Nat} {C10 : Chunks} {C11 : Chunks} (hf : bonsaiseat_builder_try.fn p1 p14 p15 p16 = some r) (h5 : OwnS 77 K (.slice a3 p1.l_.length c4) p1.l_ C10) (h8 : OwnS 92 K (.slice a6 p1.h_.length c7) p1.h_ C11) : Sp Try.prog 68 [(.pointer (some ⟨b2, 0, none⟩)), (.int .i64 p14), (.string p15), (.string p16)] K (flat [[(b2, Cl (vv127 p1 a3 c4 a6 c7) 127)], C10, C11]) (fun K' C v => ∃ (a89 : Option Addr) (c90 : Nat) (a92 : Option Addr) (c93 : Nat) (C_0 : Chunks) (C_1 : Chunks), v = (.tuple #[]) ∧ OwnS 77 K' (.slice a89 r.l_.length c90) r.l_ C_0 ∧ OwnS 92 K' (.slice a92 r.h_.length c93) r.h_ C_1 ∧ C = flat [[(b2, Cl (vv127 r a89 c90 a92 c93) 127)], C_0, C_1]) := by
  unfold bonsaiseat_builder_try.fn at hf
  refine spec_enter isf68 rfl ?_
  intro w L hS
  replace hS : Sat w K (flat [[(b2, Cl (vv127 p1 a3 c4 a6 c7) 127)], C10, C11, L]) := hS.open
  have hle := KM.le.refl K
  unfold bod68 Try.f68
  dsimp only [Option.getD_some, argSlots]
  refine s_seq (s_reg ?_)
  iterate 3 refine s_v rfl rfl rfl ?_
  refine s_ld 0 hS rfl rfl rfl rfl rfl ?_
  iterate 2 refine s_v rfl rfl rfl ?_
  refine s_nil (qn (s_seq (s_reg ?_)))
  iterate 3 refine s_v rfl rfl rfl ?_
  obtain ⟨x18, hx19, hf⟩ := bs hf
  refine s_call isf51 hS.nilG (bonsaiseat_at_spec hx19) rfl rfl rfl ?_
  rintro _ K20 C22 w hk21 rfl hS
  replace hS := hS.drop1
  refine s_bwc (cs := (vv77 x18)) hS rfl rfl rfl rfl rfl rfl rfl rfl rfl rfl ?_
  intro b23 w hS
  have h25 : OwnS 77 K20 (.slice (some ⟨b23, 0, none⟩) 1 1) [x18] [(b23, Cl (vv77 x18) 77)] := OwnS.lit ⟨(vv77 x18), _, rfl, rfl, rfl⟩ rfl rfl
  obtain ⟨K26, hk27, h28, hS⟩ := h25.freeze (hS.sel [0, 1, 2, 3, 4] rfl)
  replace hS : Sat w _ (flat [_, _, _, _]) := hS
  obtain ⟨x29, hx30, hf⟩ := bs hf
  replace h5 := h5.mono (hk21.trans hk27)
  replace h8 := h8.mono (hk21.trans hk27)
  refine s_call isf58 (Sat.shut3 hS) (bonsaiseat_builder_add_spec hx30 h5 h8 h28) rfl rfl rfl ?_
  rintro _ K31 _ w hk32 ⟨a34, c35, a37, c38, C41, C42, rfl, h36, h39, rfl⟩ hS
  replace hS := hS.open3
  refine s_nil (qn (s_seq (s_reg ?_)))
  refine s_v rfl rfl rfl ?_
  obtain ⟨x45, hx46, hf⟩ := bs hf
  refine s_call isf50 hS.nilG (bonsaiseat_one_spec hx46) rfl rfl rfl ?_
  rintro _ K47 C49 w hk48 rfl hS
  replace hS := hS.drop1
  refine s_v rfl rfl rfl ?_
  obtain ⟨x50, hx51, hf⟩ := bs hf
  refine s_call isf60 hS.nilG (bonsaiseat_str_spec hx51) rfl rfl rfl ?_
  rintro _ K52 C54 w hk53 rfl hS
  replace hS := hS.drop1
  obtain ⟨x55, hx56, hf⟩ := bs hf
  refine s_call isf50 hS.nilG (bonsaiseat_one_spec hx56) rfl rfl rfl ?_
  rintro _ K57 C59 w hk58 rfl hS
  replace hS := hS.drop1
  refine s_bwc (cs := ((vv77 x45) ++ ((vv77 x50) ++ ((vv77 x55) ++ [])))) hS rfl rfl rfl rfl rfl rfl rfl rfl rfl rfl ?_
  intro b60 w hS
  have h62 : OwnS 77 K57 (.slice (some ⟨b60, 0, none⟩) 3 3) [x45, x50, x55] [(b60, Cl ((vv77 x45) ++ ((vv77 x50) ++ ((vv77 x55) ++ []))) 77)] := OwnS.lit ⟨(vv77 x45), _, rfl, rfl, ⟨(vv77 x50), _, rfl, rfl, ⟨(vv77 x55), _, rfl, rfl, rfl⟩⟩⟩ rfl rfl
  obtain ⟨K63, hk64, h65, hS⟩ := h62.freeze (hS.sel [0, 1, 2, 3, 4] rfl)
  replace hS : Sat w _ (flat [_, _, _, _]) := hS
  obtain ⟨x66, hx67, hf⟩ := bs hf
  have hkk0 := ((hk48.trans hk53).trans hk58).trans hk64
  replace h36 := h36.mono hkk0
  replace h39 := h39.mono hkk0
  refine s_call isf58 (Sat.shut3 hS) (bonsaiseat_builder_add_spec hx67 h36 h39 h65) rfl rfl rfl ?_
  rintro _ K68 _ w hk69 ⟨a71, c72, a74, c75, C78, C79, rfl, h73, h76, rfl⟩ hS
  replace hS := hS.open3
  refine s_nil (qn (s_reg ?_))
  iterate 4 refine s_v rfl rfl rfl ?_
  refine s_ld 0 hS rfl rfl rfl rfl rfl ?_
  iterate 5 refine s_v rfl rfl rfl ?_
  refine s_v (v := (.agg #[(.int .i64 p14), (.int .i64 (p1.l_.length : Int)), (.int .i64 (w64 ((p1.l_.length : Int) + 1))), (.string p15)])) rfl rfl rfl ?_
  refine s_bwc (cs := [(.int .i64 p14), (.int .i64 (p1.l_.length : Int)), (.int .i64 (w64 ((p1.l_.length : Int) + 1))), (.string p15)]) hS rfl rfl rfl rfl rfl rfl rfl rfl rfl rfl ?_
  intro b82 w hS
  obtain ⟨hm84, hf⟩ := gs hf
  refine s_appv (e := 92) (ys := ([(api_Handler.mk p14 (p1.l_.length : Int) (w64 ((p1.l_.length : Int) + 1)) p15)] : List api_Handler)) 3 0 hS rfl h76 rfl ⟨[(.int .i64 p14), (.int .i64 (p1.l_.length : Int)), (.int .i64 (w64 ((p1.l_.length : Int) + 1))), (.string p15)], _, rfl, rfl, rfl⟩ rfl rfl rfl rfl rfl rfl rfl rfl (roomy_le hm84) rfl rfl rfl ?_
  intro a85 c86 w C87 h88 hS
  replace hS : Sat w _ (flat [_, _, _, _, _]) := hS
  iterate 2 refine s_v rfl rfl rfl ?_
  refine s_st (cs' := [(.slice a71 x66.l_.length c72), (.slice a85 ((x66.h_ ++ ([(api_Handler.mk p14 (p1.l_.length : Int) (w64 ((p1.l_.length : Int) + 1)) p15)] : List api_Handler)).length) c86)]) 1 hS rfl rfl rfl rfl rfl ?_
  intro w hS
  replace hS : Sat w _ (flat [_, _, _, _, _]) := hS
  refine s_nil ?_
  have hq := Option.some.inj hf
  subst hq
  refine s_fall0 rfl ?_
  have hkk1 := ((((((hk21.trans hk27).trans hk32).trans hk48).trans hk53).trans hk58).trans hk64).trans hk69
  replace hle := hle.trans hkk1
  exact ⟨K68, _, hle, ⟨a71, c72, a85, c86, C78, C87, rfl, h73, h88, rfl⟩, Sat.shut3 (hS.sel [1, 2, 3, 4] rfl)⟩
-- 69 bonsai/bonsaiseat.class
def bonsaiseat_class.fn (p1 : Int) : Option ByteArray := (idx ([(⟨#[65]⟩ : ByteArray), (⟨#[66]⟩ : ByteArray), (⟨#[67]⟩ : ByteArray), (⟨#[68]⟩ : ByteArray)] : List ByteArray) (Int.tmod p1 4)).bind fun x7 => some x7
theorem bonsaiseat_class_spec {K : KM} {p1 : Int} {r : ByteArray} (hf : bonsaiseat_class.fn p1 = some r) : Sp Try.prog 69 [(.int .u8 p1)] K [] (fun K' C v => v = (.string r)) := by
  unfold bonsaiseat_class.fn at hf
  refine spec_enter isf69 rfl ?_
  intro w L hS
  replace hS : Sat w K (flat [L]) := hS
  have hle := KM.le.refl K
  unfold bod69 Try.f69
  dsimp only [Option.getD_some, argSlots]
  refine s_seq (s_reg ?_)
  refine s_v rfl rfl rfl ?_
  refine s_nil (qn (s_seq (s_reg ?_)))
  refine s_bwc (cs := [(.string (⟨#[65]⟩ : ByteArray)), (.string (⟨#[66]⟩ : ByteArray)), (.string (⟨#[67]⟩ : ByteArray)), (.string (⟨#[68]⟩ : ByteArray))]) hS rfl rfl rfl rfl rfl rfl rfl rfl rfl rfl ?_
  intro b3 w hS
  iterate 2 refine s_v rfl rfl rfl ?_
  have h5 : OwnS 9 K (.slice (some ⟨b3, 0, none⟩) 4 4) ([(⟨#[65]⟩ : ByteArray), (⟨#[66]⟩ : ByteArray), (⟨#[67]⟩ : ByteArray), (⟨#[68]⟩ : ByteArray)] : List ByteArray) [(b3, Cl [(.string (⟨#[65]⟩ : ByteArray)), (.string (⟨#[66]⟩ : ByteArray)), (.string (⟨#[67]⟩ : ByteArray)), (.string (⟨#[68]⟩ : ByteArray))] 9)] := OwnS.lit ⟨[(.string (⟨#[65]⟩ : ByteArray))], _, rfl, rfl, ⟨[(.string (⟨#[66]⟩ : ByteArray))], _, rfl, rfl, ⟨[(.string (⟨#[67]⟩ : ByteArray))], _, rfl, rfl, ⟨[(.string (⟨#[68]⟩ : ByteArray))], _, rfl, rfl, rfl⟩⟩⟩⟩ rfl rfl
  generalize hCg_ : ([(b3, Cl [(.string (⟨#[65]⟩ : ByteArray)), (.string (⟨#[66]⟩ : ByteArray)), (.string (⟨#[67]⟩ : ByteArray)), (.string (⟨#[68]⟩ : ByteArray))] 9)] : Chunks) = C6 at hS h5
  clear hCg_
  obtain ⟨x7, hx8, hf⟩ := bs hf
  refine s_ixo 0 hS rfl h5 hx8 rfl rfl rfl rfl rfl rfl rfl ?_
  intro b9 l10 cs13 l11 hcs_ hC14 hun12
  obtain rfl := hcs_
  subst hC14
  have hq15 := KM.le.refl K
  refine s_ldm 0 0 hS rfl rfl rfl rfl rfl ?_
  refine s_v rfl rfl rfl ?_
  refine s_nil (qn ?_)
  replace hS : Sat w K (flat [_]) := (hS.sel [1] rfl)
  refine s_rets ?_
  have hq := Option.some.inj hf
  subst hq
  refine s_ret1 rfl (rv_t rfl) ?_
  exact ⟨K, _, hle, rfl, Sat.nilG (hS.sel [0] rfl)⟩
-- 48 bonsai/bonsaiseat.method
def bonsaiseat_method.fn (p1 : ByteArray) (p2 : (List api_Type)) (p6 : api_Type) (p7 : Bool) (p8 : Int) (p9 : (List api_Instr)) : Option api_Method := some (api_Method.mk p1 p2 (api_Type.mk p6.Kind p6.Class) p7 false p8 p9 [])
theorem bonsaiseat_method_spec {K : KM} {p1 : ByteArray} {p2 : (List api_Type)} {p6 : api_Type} {p7 : Bool} {p8 : Int} {p9 : (List api_Instr)} {r : api_Method} {a3 : Option Addr} {c4 : Nat} {a10 : Option Addr} {c11 : Nat} (hf : bonsaiseat_method.fn p1 p2 p6 p7 p8 p9 = some r) (h5 : SlK 63 K a3 c4 p2) (h12 : SlK 77 K a10 c11 p9) : Sp Try.prog 48 [(.string p1), (.slice a3 p2.length c4), (.agg (vv63 p6).toArray), (.bool p7), (.int .i64 p8), (.slice a10 p9.length c11)] K [] (fun K' C v => ∃ (a18 : Option Addr) (c19 : Nat) (a21 : Option Addr) (c22 : Nat) (a24 : Option Addr) (c25 : Nat), v = (.agg (vv67 r a18 c19 a21 c22 a24 c25).toArray) ∧ SlK 63 K' a18 c19 r.Params ∧ SlK 77 K' a21 c22 r.Code ∧ SlK 92 K' a24 c25 r.Handlers) := by
  unfold bonsaiseat_method.fn at hf
  refine spec_enter isf48 rfl ?_
  intro w L hS
  replace hS : Sat w K (flat [L]) := hS
  have hle := KM.le.refl K
  unfold bod48 Try.f48
  dsimp only [Option.getD_some, argSlots]
  refine s_seq (s_reg ?_)
  refine s_bx hS rfl rfl rfl ?_
  intro b14 w hS
  replace hS : Sat w K (flat ([(b14, Cl (vv63 p6) 63)] :: _)) := hS
  refine s_al hS rfl rfl rfl ?_
  intro b16 w hS
  replace hS : Sat w K (flat ([(b16, Cl [(.string ByteArray.empty), (.slice none 0 0), (.int .i64 0), (.string ByteArray.empty), (.bool false), (.bool false), (.int .i64 0), (.slice none 0 0), (.slice none 0 0)] 67)] :: _)) := hS
  refine s_nil (qn (s_seq (s_reg ?_)))
  iterate 2 refine s_v rfl rfl rfl ?_
  refine s_ld (v := (.agg (vv63 p6).toArray)) 1 hS rfl rfl rfl rfl rfl ?_
  iterate 3 refine s_v rfl rfl rfl ?_
  refine s_v (v := (.agg #[(.string p1), (.slice a3 p2.length c4), (.int .i64 p6.Kind), (.string p6.Class), (.bool p7), (.bool false), (.int .i64 p8), (.slice a10 p9.length c11), (.slice none 0 0)])) rfl rfl rfl ?_
  refine s_st (cs' := [(.string p1), (.slice a3 p2.length c4), (.int .i64 p6.Kind), (.string p6.Class), (.bool p7), (.bool false), (.int .i64 p8), (.slice a10 p9.length c11), (.slice none 0 0)]) 0 hS rfl rfl rfl rfl rfl ?_
  intro w hS
  replace hS : Sat w _ (flat [_, _, _]) := hS
  refine s_nil (qn ?_)
  replace hS : Sat w K (flat [_, _]) := (hS.sel [0, 2] rfl)
  refine s_rets ?_
  have hq := Option.some.inj hf
  subst hq
  refine s_ret1 rfl (rv_c (v := (.agg #[(.string p1), (.slice a3 p2.length c4), (.int .i64 p6.Kind), (.string p6.Class), (.bool p7), (.bool false), (.int .i64 p8), (.slice a10 p9.length c11), (.slice none 0 0)])) 0 hS rfl rfl rfl) ?_
  exact ⟨K, _, hle, ⟨a3, c4, a10, c11, none, 0, rfl, h5, h12, SlK.nil⟩, Sat.nilG (hS.sel [1] rfl)⟩
-- 64 bonsai/bonsaiseat.run
def bonsaiseat_run.fn (p1 : ByteArray) (p2 : Int) : Option api_Method := (bonsaiseat_typ.fn 1).bind fun x6 => (bonsaiseat_at.fn 4 0).bind fun x11 => (bonsaiseat_part.fn 26 (⟨#[66, 97, 115, 101]⟩ : ByteArray) (⟨#[120]⟩ : ByteArray)).bind fun x16 => (bonsaiseat_num.fn (w64 (Int.tmod p2 5))).bind fun x21 => (bonsaiseat_one.fn 8).bind fun x26 => (bonsaiseat_one.fn 39).bind fun x31 => (bonsaiseat_method.fn (⟨#[114, 117, 110]⟩ : ByteArray) [] x6 false 1 [x11, x16, x21, x26, x31]).bind fun x42 => (bif (Int.tmod (w8 (Int.tdiv p2 5)) 4) == 1 then ((bonsaiseat_str.fn p1).bind fun x196 => (bonsaiseat_one.fn 41).bind fun x201 => guardB (roomy [x196, x201].length x42.Code.length 88) (some ([x196, x201] ++ x42.Code))) else (bif (Int.tmod (w8 (Int.tdiv p2 5)) 4) == 2 then ((bonsaiseat_at.fn 4 0).bind fun x255 => (bonsaiseat_num.fn 9).bind fun x260 => (bonsaiseat_part.fn 27 (⟨#[66, 97, 115, 101]⟩ : ByteArray) (⟨#[119]⟩ : ByteArray)).bind fun x265 => (bonsaiseat_at.fn 4 0).bind fun x270 => (bonsaiseat_num.fn (w64 p2)).bind fun x275 => (bonsaiseat_part.fn 27 (⟨#[66, 97, 115, 101]⟩ : ByteArray) (⟨#[120]⟩ : ByteArray)).bind fun x280 => guardB (roomy [x255, x260, x265, x270, x275, x280].length x42.Code.length 88) (some ([x255, x260, x265, x270, x275, x280] ++ x42.Code))) else (some x42.Code))).bind fun s176 => some (api_Method.mk x42.Name x42.Params (api_Type.mk x42.Ret.Kind x42.Ret.Class) x42.Static x42.Abstract x42.Locals s176 x42.Handlers)
theorem bonsaiseat_run_spec {K : KM} {p1 : ByteArray} {p2 : Int} {r : api_Method} (hf : bonsaiseat_run.fn p1 p2 = some r) : Sp Try.prog 64 [(.string p1), (.int .u8 p2)] K [] (fun K' C v => ∃ (a296 : Option Addr) (c297 : Nat) (a299 : Option Addr) (c300 : Nat) (a302 : Option Addr) (c303 : Nat), v = (.agg (vv67 r a296 c297 a299 c300 a302 c303).toArray) ∧ SlK 63 K' a296 c297 r.Params ∧ SlK 77 K' a299 c300 r.Code ∧ SlK 92 K' a302 c303 r.Handlers) := by
  unfold bonsaiseat_run.fn at hf
  refine spec_enter isf64 rfl ?_
  intro w L hS
  replace hS : Sat w K (flat [L]) := hS
  have hle := KM.le.refl K
  unfold bod64 Try.f64
  dsimp only [Option.getD_some, argSlots]
  refine s_seq (s_reg ?_)
  refine s_al hS rfl rfl rfl ?_
  intro b4 w hS
  replace hS : Sat w K (flat ([(b4, Cl [(.string ByteArray.empty), (.slice none 0 0), (.int .i64 0), (.string ByteArray.empty), (.bool false), (.bool false), (.int .i64 0), (.slice none 0 0), (.slice none 0 0)] 67)] :: _)) := hS
  refine s_nil (qn (s_seq (s_reg ?_)))
  obtain ⟨x6, hx7, hf⟩ := bs hf
  refine s_call isf46 hS.nilG (bonsaiseat_typ_spec hx7) rfl rfl rfl ?_
  rintro _ K8 C10 w hk9 rfl hS
  replace hS := hS.drop1
  obtain ⟨x11, hx12, hf⟩ := bs hf
  refine s_call isf51 hS.nilG (bonsaiseat_at_spec hx12) rfl rfl rfl ?_
  rintro _ K13 C15 w hk14 rfl hS
  replace hS := hS.drop1
  obtain ⟨x16, hx17, hf⟩ := bs hf
  refine s_call isf66 hS.nilG (bonsaiseat_part_spec hx17) rfl rfl rfl ?_
  rintro _ K18 C20 w hk19 rfl hS
  replace hS := hS.drop1
  iterate 3 refine s_v rfl rfl rfl ?_
  obtain ⟨x21, hx22, hf⟩ := bs hf
  refine s_call isf59 hS.nilG (bonsaiseat_num_spec hx22) rfl rfl rfl ?_
  rintro _ K23 C25 w hk24 rfl hS
  replace hS := hS.drop1
  obtain ⟨x26, hx27, hf⟩ := bs hf
  refine s_call isf50 hS.nilG (bonsaiseat_one_spec hx27) rfl rfl rfl ?_
  rintro _ K28 C30 w hk29 rfl hS
  replace hS := hS.drop1
  obtain ⟨x31, hx32, hf⟩ := bs hf
  refine s_call isf50 hS.nilG (bonsaiseat_one_spec hx32) rfl rfl rfl ?_
  rintro _ K33 C35 w hk34 rfl hS
  replace hS := hS.drop1
  refine s_bwc (cs := ((vv77 x11) ++ ((vv77 x16) ++ ((vv77 x21) ++ ((vv77 x26) ++ ((vv77 x31) ++ [])))))) hS rfl rfl rfl rfl rfl rfl rfl rfl rfl rfl ?_
  intro b36 w hS
  have h38 : OwnS 77 K33 (.slice (some ⟨b36, 0, none⟩) 5 5) [x11, x16, x21, x26, x31] [(b36, Cl ((vv77 x11) ++ ((vv77 x16) ++ ((vv77 x21) ++ ((vv77 x26) ++ ((vv77 x31) ++ []))))) 77)] := OwnS.lit ⟨(vv77 x11), _, rfl, rfl, ⟨(vv77 x16), _, rfl, rfl, ⟨(vv77 x21), _, rfl, rfl, ⟨(vv77 x26), _, rfl, rfl, ⟨(vv77 x31), _, rfl, rfl, rfl⟩⟩⟩⟩⟩ rfl rfl
  obtain ⟨K39, hk40, h41, hS⟩ := h38.freeze (hS.sel [0, 1, 2] rfl)
  replace hS : Sat w _ (flat [_, _]) := hS
  obtain ⟨x42, hx43, hf⟩ := bs hf
  refine s_call isf48 hS.nilG (bonsaiseat_method_spec hx43 SlK.nil h41) rfl rfl rfl ?_
  rintro _ K44 C46 w hk45 ⟨a47, c48, a50, c51, a53, c54, rfl, h49, h52, h55⟩ hS
  replace hS := hS.drop1
  refine s_al hS rfl rfl rfl ?_
  intro b56 w hS
  replace hS : Sat w K44 (flat ([(b56, Cl [(.string ByteArray.empty), (.slice none 0 0), (.int .i64 0), (.string ByteArray.empty), (.bool false), (.bool false), (.int .i64 0), (.slice none 0 0), (.slice none 0 0)] 67)] :: _)) := hS
  refine s_st (cs' := (vv67 x42 a47 c48 a50 c51 a53 c54)) 0 hS rfl rfl rfl rfl rfl ?_
  intro w hS
  replace hS : Sat w _ (flat [_, _, _]) := hS
  refine s_nil (qn ?_)
  obtain ⟨s176, hst177, hf⟩ := bs hf
  have hkk0 := ((((((hk9.trans hk14).trans hk19).trans hk24).trans hk29).trans hk34).trans hk40).trans hk45
  refine s_cut (fun τ w => ∃ (K170 : KM) (a173 : Option Addr) (c174 : Nat), τ = [(4, (.pointer (some ⟨b4, 0, none⟩))), (5, (.pointer (some ⟨b56, 0, none⟩)))] ∧ KM.le K K170 ∧ SlK 63 K170 a47 c48 x42.Params ∧ SlK 77 K170 a173 c174 s176 ∧ SlK 92 K170 a53 c54 x42.Handlers ∧ Sat w K170 (flat [[(b4, Cl [(.string ByteArray.empty), (.slice none 0 0), (.int .i64 0), (.string ByteArray.empty), (.bool false), (.bool false), (.int .i64 0), (.slice none 0 0), (.slice none 0 0)] 67)], [(b56, Cl [(.string x42.Name), (.slice a47 x42.Params.length c48), (.int .i64 x42.Ret.Kind), (.string x42.Ret.Class), (.bool x42.Static), (.bool x42.Abstract), (.int .i64 x42.Locals), (.slice a173 s176.length c174), (.slice a53 x42.Handlers.length c54)] 67)], L])) (fun J hJ => ?_) ?_
  · replace hf := hst177
    refine s_seq (s_reg ?_)
    iterate 3 refine s_v rfl rfl rfl ?_
    refine s_nil (qn (s_block (s_seq (s_reg ?_))))
    iterate 2 refine s_v rfl rfl rfl ?_
    refine s_nil (qn ?_)
    refine s_if rfl (fun hc => ?_) (fun hc => ?_)
    · replace hf := bif_t hc hf
      refine d_start [] [(8, [0])] hS ?_
      intro w hS
      refine d_v 0 (fun _ _ _ _ _ h => h) [] hS rfl rfl rfl (by kernel_rfl) rfl rfl ?_
      refine d_v 4 (fun _ _ _ _ _ h => h) [] hS rfl rfl rfl (by kernel_rfl) rfl rfl ?_
      refine d_ldh 5 0 (fun _ _ _ _ _ h => h) [] hS rfl rfl rfl (by kernel_rfl) rfl rfl (by kernel_rfl) rfl rfl ?_
      refine d_op 1 rfl (by kernel_rfl) (by kernel_rfl) (fun X hX => ?_)
      have hlq := KM.le.refl K44
      obtain ⟨x196, hx197, hf⟩ := bs hf
      refine s_call isf60 hS.nilG (bonsaiseat_str_spec hx197) rfl rfl rfl ?_
      rintro _ K198 C200 w hk199 rfl hS
      replace hS := hS.drop1
      replace hlq := hlq.trans hk199
      refine d_go [] [] [(8, [0])] [some 0] hX hS hlq rfl rfl ⟨rfl, trivial⟩ ?_
      refine d_op 2 rfl (by kernel_rfl) (by kernel_rfl) (fun X hX => ?_)
      have hlq := KM.le.refl K198
      obtain ⟨x201, hx202, hf⟩ := bs hf
      refine s_call isf50 hS.nilG (bonsaiseat_one_spec hx202) rfl rfl rfl ?_
      rintro _ K203 C205 w hk204 rfl hS
      replace hS := hS.drop1
      replace hlq := hlq.trans hk204
      refine d_go [] [] [(8, [0])] [some 0] hX hS hlq rfl rfl ⟨rfl, trivial⟩ ?_
      refine d_op 3 rfl (by kernel_rfl) (by kernel_rfl) (fun X hX => ?_)
      have hlq := KM.le.refl K203
      refine s_bwc (cs := ((vv77 x196) ++ ((vv77 x201) ++ []))) hS rfl rfl rfl rfl rfl rfl rfl rfl rfl rfl ?_
      intro b206 w hS
      refine d_go [] [] [(8, [1])] [some 0] hX hS hlq rfl rfl ⟨rfl, trivial⟩ ?_
      refine d_op 6 rfl (by kernel_rfl) (by kernel_rfl) (fun X hX => ?_)
      have hlq := KM.le.refl K203
      have h208 : OwnS 77 K203 (.slice (some ⟨b206, 0, none⟩) 2 2) [x196, x201] [(b206, Cl ((vv77 x196) ++ ((vv77 x201) ++ [])) 77)] := OwnS.lit ⟨(vv77 x196), _, rfl, rfl, ⟨(vv77 x201), _, rfl, rfl, rfl⟩⟩ rfl rfl
      obtain ⟨hm209, hf⟩ := gs hf
      replace h52 := h52.mono (hk199.trans hk204)
      refine s_appk (e := 77) 0 hS rfl h208 h52 rfl rfl rfl rfl rfl rfl rfl (roomy_le hm209) rfl rfl rfl ?_
      intro a210 c211 w C212 h213 hS
      replace hS : Sat w _ (flat [_, _, _, _]) := hS
      refine d_go [] [] [(8, [1])] [some 0] hX hS hlq rfl rfl ⟨rfl, trivial⟩ ?_
      refine d_v 7 (fun _ _ _ _ _ h => h) [] hS rfl rfl rfl (by kernel_rfl) rfl rfl ?_
      refine d_op 8 rfl (by kernel_rfl) (by kernel_rfl) (fun X hX => ?_)
      have hlq := KM.le.refl K203
      refine s_st (cs' := [(.string x42.Name), (.slice a47 x42.Params.length c48), (.int .i64 x42.Ret.Kind), (.string x42.Ret.Class), (.bool x42.Static), (.bool x42.Abstract), (.int .i64 x42.Locals), (.slice a210 (([x196, x201] ++ x42.Code).length) c211), (.slice a53 x42.Handlers.length c54)]) 1 hS rfl rfl rfl rfl rfl ?_
      intro w hS
      replace hS : Sat w _ (flat [_, _, _, _]) := hS
      refine d_go [] [1] [] [none] hX hS hlq rfl rfl ⟨rfl, trivial⟩ ?_
      refine d_end (by kernel_rfl) ?_
      refine qbn (qn ?_)
      obtain ⟨K214, hk215, h216, hS⟩ := h213.freeze (hS.sel [0, 1, 2, 3] rfl)
      replace hS : Sat w _ (flat [_, _, _]) := hS
      have hq := Option.some.inj hf
      subst hq
      have hkk1 := ((hkk0.trans hk199).trans hk204).trans hk215
      replace hle := hle.trans hkk1
      replace h49 := h49.mono ((hk199.trans hk204).trans hk215)
      replace h55 := h55.mono ((hk199.trans hk204).trans hk215)
      refine s_join hJ _ ⟨K214, a210, c211, rfl, hle, h49, h216, h55, (hS.sel [1, 0, 2] rfl)⟩ ⟨rfl, rfl, trivial⟩
    replace hf := bif_f hc hf
    refine s_seq (s_reg ?_)
    iterate 2 refine s_v rfl rfl rfl ?_
    refine s_nil (qn ?_)
    refine s_if rfl (fun hc => ?_) (fun hc => ?_)
    · replace hf := bif_t hc hf
      refine d_start [] [(13, [0])] hS ?_
      intro w hS
      refine d_v 4 (fun _ _ _ _ _ h => h) [] hS rfl rfl rfl (by kernel_rfl) rfl rfl ?_
      refine d_v 5 (fun _ _ _ _ _ h => h) [] hS rfl rfl rfl (by kernel_rfl) rfl rfl ?_
      refine d_v 9 (fun _ _ _ _ _ h => h) [] hS rfl rfl rfl (by kernel_rfl) rfl rfl ?_
      refine d_ldh 10 0 (fun _ _ _ _ _ h => h) [] hS rfl rfl rfl (by kernel_rfl) rfl rfl (by kernel_rfl) rfl rfl ?_
      refine d_op 0 rfl (by kernel_rfl) (by kernel_rfl) (fun X hX => ?_)
      have hlq := KM.le.refl K44
      obtain ⟨x255, hx256, hf⟩ := bs hf
      refine s_call isf51 hS.nilG (bonsaiseat_at_spec hx256) rfl rfl rfl ?_
      rintro _ K257 C259 w hk258 rfl hS
      replace hS := hS.drop1
      replace hlq := hlq.trans hk258
      refine d_go [] [] [(13, [0])] [some 0] hX hS hlq rfl rfl ⟨rfl, trivial⟩ ?_
      refine d_op 1 rfl (by kernel_rfl) (by kernel_rfl) (fun X hX => ?_)
      have hlq := KM.le.refl K257
      obtain ⟨x260, hx261, hf⟩ := bs hf
      refine s_call isf59 hS.nilG (bonsaiseat_num_spec hx261) rfl rfl rfl ?_
      rintro _ K262 C264 w hk263 rfl hS
      replace hS := hS.drop1
      replace hlq := hlq.trans hk263
      refine d_go [] [] [(13, [0])] [some 0] hX hS hlq rfl rfl ⟨rfl, trivial⟩ ?_
      refine d_op 2 rfl (by kernel_rfl) (by kernel_rfl) (fun X hX => ?_)
      have hlq := KM.le.refl K262
      obtain ⟨x265, hx266, hf⟩ := bs hf
      refine s_call isf66 hS.nilG (bonsaiseat_part_spec hx266) rfl rfl rfl ?_
      rintro _ K267 C269 w hk268 rfl hS
      replace hS := hS.drop1
      replace hlq := hlq.trans hk268
      refine d_go [] [] [(13, [0])] [some 0] hX hS hlq rfl rfl ⟨rfl, trivial⟩ ?_
      refine d_op 3 rfl (by kernel_rfl) (by kernel_rfl) (fun X hX => ?_)
      have hlq := KM.le.refl K267
      obtain ⟨x270, hx271, hf⟩ := bs hf
      refine s_call isf51 hS.nilG (bonsaiseat_at_spec hx271) rfl rfl rfl ?_
      rintro _ K272 C274 w hk273 rfl hS
      replace hS := hS.drop1
      replace hlq := hlq.trans hk273
      refine d_go [] [] [(13, [0])] [some 0] hX hS hlq rfl rfl ⟨rfl, trivial⟩ ?_
      refine d_op 6 rfl (by kernel_rfl) (by kernel_rfl) (fun X hX => ?_)
      have hlq := KM.le.refl K272
      obtain ⟨x275, hx276, hf⟩ := bs hf
      refine s_call isf59 hS.nilG (bonsaiseat_num_spec hx276) rfl rfl rfl ?_
      rintro _ K277 C279 w hk278 rfl hS
      replace hS := hS.drop1
      replace hlq := hlq.trans hk278
      refine d_go [] [] [(13, [0])] [some 0] hX hS hlq rfl rfl ⟨rfl, trivial⟩ ?_
      refine d_op 7 rfl (by kernel_rfl) (by kernel_rfl) (fun X hX => ?_)
      have hlq := KM.le.refl K277
      obtain ⟨x280, hx281, hf⟩ := bs hf
      refine s_call isf66 hS.nilG (bonsaiseat_part_spec hx281) rfl rfl rfl ?_
      rintro _ K282 C284 w hk283 rfl hS
      replace hS := hS.drop1
      replace hlq := hlq.trans hk283
      refine d_go [] [] [(13, [0])] [some 0] hX hS hlq rfl rfl ⟨rfl, trivial⟩ ?_
      refine d_op 8 rfl (by kernel_rfl) (by kernel_rfl) (fun X hX => ?_)
      have hlq := KM.le.refl K282
      refine s_bwc (cs := ((vv77 x255) ++ ((vv77 x260) ++ ((vv77 x265) ++ ((vv77 x270) ++ ((vv77 x275) ++ ((vv77 x280) ++ []))))))) hS rfl rfl rfl rfl rfl rfl rfl rfl rfl rfl ?_
      intro b285 w hS
      refine d_go [] [] [(13, [1])] [some 0] hX hS hlq rfl rfl ⟨rfl, trivial⟩ ?_
      refine d_op 11 rfl (by kernel_rfl) (by kernel_rfl) (fun X hX => ?_)
      have hlq := KM.le.refl K282
      have h287 : OwnS 77 K282 (.slice (some ⟨b285, 0, none⟩) 6 6) [x255, x260, x265, x270, x275, x280] [(b285, Cl ((vv77 x255) ++ ((vv77 x260) ++ ((vv77 x265) ++ ((vv77 x270) ++ ((vv77 x275) ++ ((vv77 x280) ++ [])))))) 77)] := OwnS.lit ⟨(vv77 x255), _, rfl, rfl, ⟨(vv77 x260), _, rfl, rfl, ⟨(vv77 x265), _, rfl, rfl, ⟨(vv77 x270), _, rfl, rfl, ⟨(vv77 x275), _, rfl, rfl, ⟨(vv77 x280), _, rfl, rfl, rfl⟩⟩⟩⟩⟩⟩ rfl rfl
      obtain ⟨hm288, hf⟩ := gs hf
      have hkk2 := ((((hk258.trans hk263).trans hk268).trans hk273).trans hk278).trans hk283
      replace h52 := h52.mono hkk2
      refine s_appk (e := 77) 0 hS rfl h287 h52 rfl rfl rfl rfl rfl rfl rfl (roomy_le hm288) rfl rfl rfl ?_
      intro a289 c290 w C291 h292 hS
      replace hS : Sat w _ (flat [_, _, _, _]) := hS
      refine d_go [] [] [(13, [1])] [some 0] hX hS hlq rfl rfl ⟨rfl, trivial⟩ ?_
      refine d_v 12 (fun _ _ _ _ _ h => h) [] hS rfl rfl rfl (by kernel_rfl) rfl rfl ?_
      refine d_op 13 rfl (by kernel_rfl) (by kernel_rfl) (fun X hX => ?_)
      have hlq := KM.le.refl K282
      refine s_st (cs' := [(.string x42.Name), (.slice a47 x42.Params.length c48), (.int .i64 x42.Ret.Kind), (.string x42.Ret.Class), (.bool x42.Static), (.bool x42.Abstract), (.int .i64 x42.Locals), (.slice a289 (([x255, x260, x265, x270, x275, x280] ++ x42.Code).length) c290), (.slice a53 x42.Handlers.length c54)]) 1 hS rfl rfl rfl rfl rfl ?_
      intro w hS
      replace hS : Sat w _ (flat [_, _, _, _]) := hS
      refine d_go [] [1] [] [none] hX hS hlq rfl rfl ⟨rfl, trivial⟩ ?_
      refine d_end (by kernel_rfl) ?_
      refine qbn (qn ?_)
      obtain ⟨K293, hk294, h295, hS⟩ := h292.freeze (hS.sel [0, 1, 2, 3] rfl)
      replace hS : Sat w _ (flat [_, _, _]) := hS
      have hq := Option.some.inj hf
      subst hq
      have hkk3 := ((((((hkk0.trans hk258).trans hk263).trans hk268).trans hk273).trans hk278).trans hk283).trans hk294
      replace hle := hle.trans hkk3
      have hkk4 := hkk2.trans hk294
      replace h49 := h49.mono hkk4
      replace h55 := h55.mono hkk4
      refine s_join hJ _ ⟨K293, a289, c290, rfl, hle, h49, h295, h55, (hS.sel [1, 0, 2] rfl)⟩ ⟨rfl, rfl, trivial⟩
    replace hf := bif_f hc hf
    refine s_skip (qbn (qn ?_))
    have hq := Option.some.inj hf
    subst hq
    replace hle := hle.trans hkk0
    refine s_join hJ _ ⟨K44, a50, c51, rfl, hle, h49, h52, h55, (hS.sel [1, 0, 2] rfl)⟩ ⟨rfl, rfl, trivial⟩
  rintro _ w ⟨K170, a173, c174, rfl, hle, h171, h172, h175, hS⟩
  refine s_seq (s_reg ?_)
  refine s_ld (v := (.agg #[(.string x42.Name), (.slice a47 x42.Params.length c48), (.int .i64 x42.Ret.Kind), (.string x42.Ret.Class), (.bool x42.Static), (.bool x42.Abstract), (.int .i64 x42.Locals), (.slice a173 s176.length c174), (.slice a53 x42.Handlers.length c54)])) 1 hS rfl rfl rfl rfl rfl ?_
  refine s_st (cs' := [(.string x42.Name), (.slice a47 x42.Params.length c48), (.int .i64 x42.Ret.Kind), (.string x42.Ret.Class), (.bool x42.Static), (.bool x42.Abstract), (.int .i64 x42.Locals), (.slice a173 s176.length c174), (.slice a53 x42.Handlers.length c54)]) 0 hS rfl rfl rfl rfl rfl ?_
  intro w hS
  replace hS : Sat w _ (flat [_, _, _]) := hS
  refine s_nil (qn ?_)
  replace hS : Sat w K170 (flat [_, _]) := (hS.sel [0, 2] rfl)
  refine s_rets ?_
  have hq := Option.some.inj hf
  subst hq
  refine s_ret1 rfl (rv_c (v := (.agg #[(.string x42.Name), (.slice a47 x42.Params.length c48), (.int .i64 x42.Ret.Kind), (.string x42.Ret.Class), (.bool x42.Static), (.bool x42.Abstract), (.int .i64 x42.Locals), (.slice a173 s176.length c174), (.slice a53 x42.Handlers.length c54)])) 0 hS rfl rfl rfl) ?_
  exact ⟨K170, _, hle, ⟨a47, c48, a173, c174, a53, c54, rfl, h171, h172, h175⟩, Sat.nilG (hS.sel [1] rfl)⟩
-- 47 bonsai/bonsaiseat.clinit
def bonsaiseat_clinit.fn (p1 : ByteArray) : Option api_Method := (bonsaiseat_typ.fn 5).bind fun x5 => (bonsaiseat_str.fn p1).bind fun x10 => (bonsaiseat_one.fn 41).bind fun x15 => (bonsaiseat_one.fn 40).bind fun x20 => (bonsaiseat_method.fn (⟨#[99, 108, 105, 110, 105, 116]⟩ : ByteArray) [] x5 true 0 [x10, x15, x20]).bind fun x31 => some x31
theorem bonsaiseat_clinit_spec {K : KM} {p1 : ByteArray} {r : api_Method} (hf : bonsaiseat_clinit.fn p1 = some r) : Sp Try.prog 47 [(.string p1)] K [] (fun K' C v => ∃ (a45 : Option Addr) (c46 : Nat) (a48 : Option Addr) (c49 : Nat) (a51 : Option Addr) (c52 : Nat), v = (.agg (vv67 r a45 c46 a48 c49 a51 c52).toArray) ∧ SlK 63 K' a45 c46 r.Params ∧ SlK 77 K' a48 c49 r.Code ∧ SlK 92 K' a51 c52 r.Handlers) := by
  unfold bonsaiseat_clinit.fn at hf
  refine spec_enter isf47 rfl ?_
  intro w L hS
  replace hS : Sat w K (flat [L]) := hS
  have hle := KM.le.refl K
  unfold bod47 Try.f47
  dsimp only [Option.getD_some, argSlots]
  refine s_seq (s_reg ?_)
  refine s_al hS rfl rfl rfl ?_
  intro b3 w hS
  replace hS : Sat w K (flat ([(b3, Cl [(.string ByteArray.empty), (.slice none 0 0), (.int .i64 0), (.string ByteArray.empty), (.bool false), (.bool false), (.int .i64 0), (.slice none 0 0), (.slice none 0 0)] 67)] :: _)) := hS
  refine s_nil (qn (s_seq (s_reg ?_)))
  obtain ⟨x5, hx6, hf⟩ := bs hf
  refine s_call isf46 hS.nilG (bonsaiseat_typ_spec hx6) rfl rfl rfl ?_
  rintro _ K7 C9 w hk8 rfl hS
  replace hS := hS.drop1
  refine s_v rfl rfl rfl ?_
  obtain ⟨x10, hx11, hf⟩ := bs hf
  refine s_call isf60 hS.nilG (bonsaiseat_str_spec hx11) rfl rfl rfl ?_
  rintro _ K12 C14 w hk13 rfl hS
  replace hS := hS.drop1
  obtain ⟨x15, hx16, hf⟩ := bs hf
  refine s_call isf50 hS.nilG (bonsaiseat_one_spec hx16) rfl rfl rfl ?_
  rintro _ K17 C19 w hk18 rfl hS
  replace hS := hS.drop1
  obtain ⟨x20, hx21, hf⟩ := bs hf
  refine s_call isf50 hS.nilG (bonsaiseat_one_spec hx21) rfl rfl rfl ?_
  rintro _ K22 C24 w hk23 rfl hS
  replace hS := hS.drop1
  refine s_bwc (cs := ((vv77 x10) ++ ((vv77 x15) ++ ((vv77 x20) ++ [])))) hS rfl rfl rfl rfl rfl rfl rfl rfl rfl rfl ?_
  intro b25 w hS
  have h27 : OwnS 77 K22 (.slice (some ⟨b25, 0, none⟩) 3 3) [x10, x15, x20] [(b25, Cl ((vv77 x10) ++ ((vv77 x15) ++ ((vv77 x20) ++ []))) 77)] := OwnS.lit ⟨(vv77 x10), _, rfl, rfl, ⟨(vv77 x15), _, rfl, rfl, ⟨(vv77 x20), _, rfl, rfl, rfl⟩⟩⟩ rfl rfl
  obtain ⟨K28, hk29, h30, hS⟩ := h27.freeze (hS.sel [0, 1, 2] rfl)
  replace hS : Sat w _ (flat [_, _]) := hS
  obtain ⟨x31, hx32, hf⟩ := bs hf
  refine s_call isf48 hS.nilG (bonsaiseat_method_spec hx32 SlK.nil h30) rfl rfl rfl ?_
  rintro _ K33 C35 w hk34 ⟨a36, c37, a39, c40, a42, c43, rfl, h38, h41, h44⟩ hS
  replace hS := hS.drop1
  refine s_st (cs' := (vv67 x31 a36 c37 a39 c40 a42 c43)) 0 hS rfl rfl rfl rfl rfl ?_
  intro w hS
  replace hS : Sat w _ (flat [_, _]) := hS
  refine s_nil (qn (s_rets ?_))
  have hq := Option.some.inj hf
  subst hq
  refine s_ret1 rfl (rv_c (v := (.agg (vv67 x31 a36 c37 a39 c40 a42 c43).toArray)) 0 hS rfl rfl rfl) ?_
  have hkk0 := ((((hk8.trans hk13).trans hk18).trans hk23).trans hk29).trans hk34
  replace hle := hle.trans hkk0
  exact ⟨K33, _, hle, ⟨a36, c37, a39, c40, a42, c43, rfl, h38, h41, h44⟩, Sat.nilG (hS.sel [1] rfl)⟩
end Go.Proofs.Ytgaldjnnfkdohaa
