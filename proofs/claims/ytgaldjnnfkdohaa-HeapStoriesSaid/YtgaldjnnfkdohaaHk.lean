/- Functions of the program, and their walks: what each reckons, and that its code reckons it. -/
import Derived.Test.YtgaldjnnfkdohaaHf
set_option linter.unusedVariables false
set_option linter.unusedSimpArgs false
set_option maxHeartbeats 0
set_option maxRecDepth 100000
namespace Go.Proofs.Ytgaldjnnfkdohaa
open Go Go.Fw
noncomputable def bod12 : Code := Try.f12.body.getD .skip
theorem isf12 : IsFn Try.prog 12 Try.f12 bod12 := ⟨Try.func12, rfl, by decide⟩
-- 12 bonsai/bonsailaw15.known
def bonsailaw15_known.fn : Option Bool := (heap_New.fn 4).bind fun x2 => (heap_Heap_Object.fn x2 (⟨#[65]⟩ : ByteArray) [(api_Field.mk (⟨#[120]⟩ : ByteArray) (api_Type.mk 0 ByteArray.empty) false)]).bind fun x20 => (heap_Heap_Array.fn x20.2.2 2).bind fun x33 => (heap_Heap_Array.fn x33.2.2 1).bind fun x46 => (heap_Heap_Put.fn x46.2.2 x20.1 0 (heap_Value.mk 7 ByteArray.empty 0)).bind fun x59 => (heap_Heap_Get.fn x59.2 x20.1 0).bind fun x70 => (heap_Heap_Get.fn x70.2.2 x20.1 1).bind fun x83 => (bif x20.2.1 then (some (x20.1.Ref == 1)) else (some false)).bind fun s102 => (bif s102 then (some (!x33.2.1)) else (some false)).bind fun s110 => (bif s110 then (some x46.2.1) else (some false)).bind fun s118 => (bif s118 then (some (x46.1.Ref == 2)) else (some false)).bind fun s126 => (bif s126 then (some x59.1) else (some false)).bind fun s134 => (bif s134 then (some x70.2.1) else (some false)).bind fun s142 => (bif s142 then (some (x70.1.N == 7)) else (some false)).bind fun s150 => (bif s150 then (some (!x83.2.1)) else (some false)).bind fun s158 => (bif s158 then ((heap_Heap_Class.fn x83.2.2 x20.1).bind fun x179 => some (x179.2.l_, x179.2.used_, x179.2.most_, x179.1.toList == (⟨#[65]⟩ : ByteArray).toList)) else (some (x83.2.2.l_, x83.2.2.used_, x83.2.2.most_, false))).bind fun s177 => (bif s177.2.2.2 then ((heap_Heap_Class.fn (heap_Heap.mk s177.1 s177.2.1 s177.2.2.1) x46.1).bind fun x209 => some (x209.2.l_, x209.2.used_, x209.2.most_, x209.1.toList == (⟨#[]⟩ : ByteArray).toList)) else (some (s177.1, s177.2.1, s177.2.2.1, false))).bind fun s207 => (bif s207.2.2.2 then ((heap_Heap_Len.fn (heap_Heap.mk s207.1 s207.2.1 s207.2.2.1) x46.1).bind fun x239 => some (x239.2.l_, x239.2.used_, x239.2.most_, x239.1 == 1)) else (some (s207.1, s207.2.1, s207.2.2.1, false))).bind fun s237 => (bif s237.2.2.2 then ((heap_Heap_Used.fn (heap_Heap.mk s237.1 s237.2.1 s237.2.2.1)).bind fun x264 => some (x264.1 == 4)) else (some false)).bind fun s262 => some s262
theorem bonsailaw15_known_spec {K : KM} {r : Bool} (hf : bonsailaw15_known.fn = some r) : Sp Try.prog 12 [] K [] (fun K' C v => v = (.bool r)) := by
  unfold bonsailaw15_known.fn at hf
  refine spec_enter isf12 rfl ?_
  intro w L hS
  replace hS : Sat w K (flat [L]) := hS
  have hle := KM.le.refl K
  unfold bod12 Try.f12
  dsimp only [Option.getD_some, argSlots]
  refine s_seq (s_reg ?_)
  refine s_v rfl rfl rfl ?_
  refine s_nil (qn (s_seq (s_reg ?_)))
  obtain ⟨x2, hx3, hf⟩ := bs hf
  refine s_call isf13 hS.nilG (heap_New_spec hx3) rfl rfl rfl ?_
  rintro _ K4 _ w hk5 ⟨b7, a8, c9, C12, rfl, h10, rfl⟩ hS
  replace hS := hS.open2
  refine s_v rfl rfl rfl ?_
  refine s_nil (qn (s_seq (s_seq (s_reg ?_))))
  iterate 2 refine s_v rfl rfl rfl ?_
  refine s_nil (qn ?_)
  refine s_if (b := false) rfl (fun h => nomatch h) (fun _ => ?_)
  refine s_skip (qn (s_seq (s_reg ?_)))
  refine s_v rfl rfl rfl ?_
  refine s_v (v := (.agg #[(.string (⟨#[120]⟩ : ByteArray)), (.int .i64 0), (.string ByteArray.empty), (.bool false)])) rfl rfl rfl ?_
  refine s_bwc (cs := [(.string (⟨#[120]⟩ : ByteArray)), (.int .i64 0), (.string ByteArray.empty), (.bool false)]) hS rfl rfl rfl rfl rfl rfl rfl rfl rfl rfl ?_
  intro b14 w hS
  have h16 : OwnS 97 K4 (.slice (some ⟨b14, 0, none⟩) 1 1) [(api_Field.mk (⟨#[120]⟩ : ByteArray) (api_Type.mk 0 ByteArray.empty) false)] [(b14, Cl [(.string (⟨#[120]⟩ : ByteArray)), (.int .i64 0), (.string ByteArray.empty), (.bool false)] 97)] := OwnS.lit ⟨[(.string (⟨#[120]⟩ : ByteArray)), (.int .i64 0), (.string ByteArray.empty), (.bool false)], _, rfl, rfl, rfl⟩ rfl rfl
  obtain ⟨K17, hk18, h19, hS⟩ := h16.freeze (hS.sel [0, 1, 2, 3] rfl)
  replace hS : Sat w _ (flat [_, _, _]) := hS
  obtain ⟨x20, hx21, hf⟩ := bs hf
  replace h10 := h10.mono hk18
  refine s_call isf15 (Sat.shut2 hS) (heap_Heap_Object_spec hx21 h10) rfl rfl rfl ?_
  rintro _ K22 _ w hk23 ⟨a25, c26, C29, rfl, h27, rfl⟩ hS
  replace hS := hS.open2
  iterate 3 refine s_v rfl rfl rfl ?_
  refine s_al hS rfl rfl rfl ?_
  intro b31 w hS
  replace hS : Sat w K22 (flat ([(b31, Cl [(.int .i32 0), (.string ByteArray.empty), (.int .i64 0)] 32)] :: _)) := hS
  refine s_st (cs' := (vv32 x20.1)) 0 hS rfl rfl rfl rfl rfl ?_
  intro w hS
  replace hS : Sat w _ (flat [_, _, _, _]) := hS
  refine s_v rfl rfl rfl ?_
  refine s_nil (qn (s_seq (s_reg ?_)))
  refine s_v rfl rfl rfl ?_
  obtain ⟨x33, hx34, hf⟩ := bs hf
  refine s_call isf18 (Sat.shut2 (hS.sel [1, 2, 0, 3] rfl)) (heap_Heap_Array_spec hx34 h27) rfl rfl rfl ?_
  rintro _ K35 _ w hk36 ⟨a38, c39, C42, rfl, h40, rfl⟩ hS
  replace hS := hS.open2
  iterate 3 refine s_v rfl rfl rfl ?_
  refine s_al hS rfl rfl rfl ?_
  intro b44 w hS
  replace hS : Sat w K35 (flat ([(b44, Cl [(.int .i32 0), (.string ByteArray.empty), (.int .i64 0)] 32)] :: _)) := hS
  refine s_st (cs' := (vv32 x33.1)) 0 hS rfl rfl rfl rfl rfl ?_
  intro w hS
  replace hS : Sat w _ (flat [_, _, _, _, _]) := hS
  refine s_v rfl rfl rfl ?_
  refine s_nil (qn ?_)
  replace hS : Sat w K35 (flat [_, _, _, _]) := (hS.sel [1, 2, 3, 4] rfl)
  refine s_seq (s_reg ?_)
  refine s_v rfl rfl rfl ?_
  obtain ⟨x46, hx47, hf⟩ := bs hf
  refine s_call isf18 (Sat.shut2 hS) (heap_Heap_Array_spec hx47 h40) rfl rfl rfl ?_
  rintro _ K48 _ w hk49 ⟨a51, c52, C55, rfl, h53, rfl⟩ hS
  replace hS := hS.open2
  iterate 3 refine s_v rfl rfl rfl ?_
  refine s_al hS rfl rfl rfl ?_
  intro b57 w hS
  replace hS : Sat w K48 (flat ([(b57, Cl [(.int .i32 0), (.string ByteArray.empty), (.int .i64 0)] 32)] :: _)) := hS
  refine s_st (cs' := (vv32 x46.1)) 0 hS rfl rfl rfl rfl rfl ?_
  intro w hS
  replace hS : Sat w _ (flat [_, _, _, _, _]) := hS
  refine s_v rfl rfl rfl ?_
  refine s_nil (qn (s_seq (s_reg ?_)))
  refine s_v rfl rfl rfl ?_
  refine s_ld (v := (.agg (vv32 x20.1).toArray)) 3 hS rfl rfl rfl rfl rfl ?_
  refine s_v (v := (.agg #[(.int .i32 7), (.string ByteArray.empty), (.int .i64 0)])) rfl rfl rfl ?_
  obtain ⟨x59, hx60, hf⟩ := bs hf
  refine s_call isf20 (Sat.shut2 (hS.sel [1, 2, 0, 3, 4] rfl)) (heap_Heap_Put_spec hx60 h53) rfl rfl rfl ?_
  rintro _ K61 _ w hk62 ⟨a64, c65, C68, rfl, h66, rfl⟩ hS
  replace hS := hS.open2
  refine s_v rfl rfl rfl ?_
  refine s_nil (qn (s_seq (s_reg ?_)))
  refine s_v rfl rfl rfl ?_
  refine s_ld (v := (.agg (vv32 x20.1).toArray)) 3 hS rfl rfl rfl rfl rfl ?_
  obtain ⟨x70, hx71, hf⟩ := bs hf
  refine s_call isf22 (Sat.shut2 hS) (heap_Heap_Get_spec hx71 h66) rfl rfl rfl ?_
  rintro _ K72 _ w hk73 ⟨a75, c76, C79, rfl, h77, rfl⟩ hS
  replace hS := hS.open2
  iterate 3 refine s_v rfl rfl rfl ?_
  refine s_al hS rfl rfl rfl ?_
  intro b81 w hS
  replace hS : Sat w K72 (flat ([(b81, Cl [(.int .i32 0), (.string ByteArray.empty), (.int .i64 0)] 32)] :: _)) := hS
  refine s_st (cs' := (vv32 x70.1)) 0 hS rfl rfl rfl rfl rfl ?_
  intro w hS
  replace hS : Sat w _ (flat [_, _, _, _, _, _]) := hS
  refine s_v rfl rfl rfl ?_
  refine s_nil (qn (s_seq (s_reg ?_)))
  refine s_v rfl rfl rfl ?_
  refine s_ld (v := (.agg (vv32 x20.1).toArray)) 4 hS rfl rfl rfl rfl rfl ?_
  obtain ⟨x83, hx84, hf⟩ := bs hf
  refine s_call isf22 (Sat.shut2 (hS.sel [1, 2, 0, 3, 4, 5] rfl)) (heap_Heap_Get_spec hx84 h77) rfl rfl rfl ?_
  rintro _ K85 _ w hk86 ⟨a88, c89, C92, rfl, h90, rfl⟩ hS
  replace hS := hS.open2
  iterate 3 refine s_v rfl rfl rfl ?_
  refine s_al hS rfl rfl rfl ?_
  intro b94 w hS
  replace hS : Sat w K85 (flat ([(b94, Cl [(.int .i32 0), (.string ByteArray.empty), (.int .i64 0)] 32)] :: _)) := hS
  refine s_st (cs' := (vv32 x83.1)) 0 hS rfl rfl rfl rfl rfl ?_
  intro w hS
  replace hS : Sat w _ (flat [_, _, _, _, _, _, _]) := hS
  refine s_v rfl rfl rfl ?_
  refine s_nil (qn ?_)
  replace hS : Sat w K85 (flat [_, _, _, _, _, _]) := (hS.sel [1, 2, 3, 4, 5, 6] rfl)
  refine s_seq (s_reg ?_)
  iterate 2 refine s_v rfl rfl rfl ?_
  obtain ⟨s102, hst103, hf⟩ := bs hf
  have hkk0 := ((((((hk5.trans hk18).trans hk23).trans hk36).trans hk49).trans hk62).trans hk73).trans hk86
  refine r_cut [_, _, _, _] (fun τ w => ∃ (K96 : KM) (C100 : Chunks), τ = [(1, (.pointer (some ⟨b7, 0, none⟩))), (2, (.pointer (some ⟨b31, 0, none⟩))), (5, (.bool x33.2.1)), (6, (.pointer (some ⟨b57, 0, none⟩))), (7, (.bool x46.2.1)), (8, (.bool x59.1)), (9, (.pointer (some ⟨b81, 0, none⟩))), (10, (.bool x70.2.1)), (12, (.bool x83.2.1)), (54, (.bool s102))] ∧ KM.le K K96 ∧ OwnD 105 D105 K96 (.slice a88 x83.2.2.l_.length c89) x83.2.2.l_ C100 ∧ Sat w K96 (flat [[(b7, Cl (vv100 x83.2.2 a88 c89) 100)], C100, [(b31, Cl (vv32 x20.1) 32)], [(b57, Cl (vv32 x46.1) 32)], [(b81, Cl (vv32 x70.1) 32)], L])) rfl (fun J hJ => ?_) ?_
  · replace hf := hst103
    cases hc : x20.2.1
    · replace hf := bif_f hc hf
      refine s_no rfl rfl ?_
      refine s_no rfl rfl ?_
      refine s_no rfl rfl ?_
      refine s_v rfl rfl rfl ?_
      have hq := Option.some.inj hf
      subst hq
      replace hle := hle.trans hkk0
      refine r_join hJ _ ⟨K85, C92, rfl, hle, h90, (hS.sel [0, 1, 4, 3, 2, 5] rfl)⟩ ⟨rfl, rfl, rfl, rfl, rfl, rfl, rfl, rfl, rfl, rfl, trivial⟩
    replace hf := bif_t hc hf
    refine s_v rfl rfl rfl ?_
    refine s_ld 4 hS rfl rfl rfl rfl rfl ?_
    iterate 2 refine s_v rfl rfl rfl ?_
    have hq := Option.some.inj hf
    subst hq
    replace hle := hle.trans hkk0
    refine r_join hJ _ ⟨K85, C92, rfl, hle, h90, (hS.sel [0, 1, 4, 3, 2, 5] rfl)⟩ ⟨rfl, rfl, rfl, rfl, rfl, rfl, rfl, rfl, rfl, rfl, trivial⟩
  rintro _ w ⟨K96, C100, rfl, hle, h97, hS⟩
  refine s_v rfl rfl rfl ?_
  obtain ⟨s110, hst111, hf⟩ := bs hf
  refine r_cut [_, _, _] (fun τ w => ∃ (K104 : KM) (C108 : Chunks), τ = [(1, (.pointer (some ⟨b7, 0, none⟩))), (2, (.pointer (some ⟨b31, 0, none⟩))), (6, (.pointer (some ⟨b57, 0, none⟩))), (7, (.bool x46.2.1)), (8, (.bool x59.1)), (9, (.pointer (some ⟨b81, 0, none⟩))), (10, (.bool x70.2.1)), (12, (.bool x83.2.1)), (58, (.bool s110))] ∧ KM.le K K104 ∧ OwnD 105 D105 K104 (.slice a88 x83.2.2.l_.length c89) x83.2.2.l_ C108 ∧ Sat w K104 (flat [[(b7, Cl (vv100 x83.2.2 a88 c89) 100)], C108, [(b31, Cl (vv32 x20.1) 32)], [(b57, Cl (vv32 x46.1) 32)], [(b81, Cl (vv32 x70.1) 32)], L])) rfl (fun J hJ => ?_) ?_
  · replace hf := hst111
    cases hc : s102
    · replace hf := bif_f hc hf
      refine s_no rfl rfl ?_
      refine s_no rfl rfl ?_
      refine s_v rfl rfl rfl ?_
      have hq := Option.some.inj hf
      subst hq
      refine r_join hJ _ ⟨K96, C100, rfl, hle, h97, hS⟩ ⟨rfl, rfl, rfl, rfl, rfl, rfl, rfl, rfl, rfl, trivial⟩
    replace hf := bif_t hc hf
    iterate 3 refine s_v rfl rfl rfl ?_
    have hq := Option.some.inj hf
    subst hq
    refine r_join hJ _ ⟨K96, C100, rfl, hle, h97, hS⟩ ⟨rfl, rfl, rfl, rfl, rfl, rfl, rfl, rfl, rfl, trivial⟩
  rintro _ w ⟨K104, C108, rfl, hle, h105, hS⟩
  refine s_v rfl rfl rfl ?_
  obtain ⟨s118, hst119, hf⟩ := bs hf
  refine r_cut [_, _] (fun τ w => ∃ (K112 : KM) (C116 : Chunks), τ = [(1, (.pointer (some ⟨b7, 0, none⟩))), (2, (.pointer (some ⟨b31, 0, none⟩))), (6, (.pointer (some ⟨b57, 0, none⟩))), (8, (.bool x59.1)), (9, (.pointer (some ⟨b81, 0, none⟩))), (10, (.bool x70.2.1)), (12, (.bool x83.2.1)), (61, (.bool s118))] ∧ KM.le K K112 ∧ OwnD 105 D105 K112 (.slice a88 x83.2.2.l_.length c89) x83.2.2.l_ C116 ∧ Sat w K112 (flat [[(b7, Cl (vv100 x83.2.2 a88 c89) 100)], C116, [(b31, Cl (vv32 x20.1) 32)], [(b57, Cl (vv32 x46.1) 32)], [(b81, Cl (vv32 x70.1) 32)], L])) rfl (fun J hJ => ?_) ?_
  · replace hf := hst119
    cases hc : s110
    · replace hf := bif_f hc hf
      refine s_no rfl rfl ?_
      refine s_v rfl rfl rfl ?_
      have hq := Option.some.inj hf
      subst hq
      refine r_join hJ _ ⟨K104, C108, rfl, hle, h105, hS⟩ ⟨rfl, rfl, rfl, rfl, rfl, rfl, rfl, rfl, trivial⟩
    replace hf := bif_t hc hf
    iterate 2 refine s_v rfl rfl rfl ?_
    have hq := Option.some.inj hf
    subst hq
    refine r_join hJ _ ⟨K104, C108, rfl, hle, h105, hS⟩ ⟨rfl, rfl, rfl, rfl, rfl, rfl, rfl, rfl, trivial⟩
  rintro _ w ⟨K112, C116, rfl, hle, h113, hS⟩
  refine s_v rfl rfl rfl ?_
  obtain ⟨s126, hst127, hf⟩ := bs hf
  refine r_cut [_, _, _, _] (fun τ w => ∃ (K120 : KM) (C124 : Chunks), τ = [(1, (.pointer (some ⟨b7, 0, none⟩))), (2, (.pointer (some ⟨b31, 0, none⟩))), (6, (.pointer (some ⟨b57, 0, none⟩))), (8, (.bool x59.1)), (9, (.pointer (some ⟨b81, 0, none⟩))), (10, (.bool x70.2.1)), (12, (.bool x83.2.1)), (66, (.bool s126))] ∧ KM.le K K120 ∧ OwnD 105 D105 K120 (.slice a88 x83.2.2.l_.length c89) x83.2.2.l_ C124 ∧ Sat w K120 (flat [[(b7, Cl (vv100 x83.2.2 a88 c89) 100)], C124, [(b31, Cl (vv32 x20.1) 32)], [(b57, Cl (vv32 x46.1) 32)], [(b81, Cl (vv32 x70.1) 32)], L])) rfl (fun J hJ => ?_) ?_
  · replace hf := hst127
    cases hc : s118
    · replace hf := bif_f hc hf
      refine s_no rfl rfl ?_
      refine s_no rfl rfl ?_
      refine s_no rfl rfl ?_
      refine s_v rfl rfl rfl ?_
      have hq := Option.some.inj hf
      subst hq
      refine r_join hJ _ ⟨K112, C116, rfl, hle, h113, hS⟩ ⟨rfl, rfl, rfl, rfl, rfl, rfl, rfl, rfl, trivial⟩
    replace hf := bif_t hc hf
    refine s_v rfl rfl rfl ?_
    refine s_ld 3 hS rfl rfl rfl rfl rfl ?_
    iterate 2 refine s_v rfl rfl rfl ?_
    have hq := Option.some.inj hf
    subst hq
    refine r_join hJ _ ⟨K112, C116, rfl, hle, h113, hS⟩ ⟨rfl, rfl, rfl, rfl, rfl, rfl, rfl, rfl, trivial⟩
  rintro _ w ⟨K120, C124, rfl, hle, h121, hS⟩
  refine s_v rfl rfl rfl ?_
  obtain ⟨s134, hst135, hf⟩ := bs hf
  refine r_cut [_, _] (fun τ w => ∃ (K128 : KM) (C132 : Chunks), τ = [(1, (.pointer (some ⟨b7, 0, none⟩))), (2, (.pointer (some ⟨b31, 0, none⟩))), (6, (.pointer (some ⟨b57, 0, none⟩))), (9, (.pointer (some ⟨b81, 0, none⟩))), (10, (.bool x70.2.1)), (12, (.bool x83.2.1)), (69, (.bool s134))] ∧ KM.le K K128 ∧ OwnD 105 D105 K128 (.slice a88 x83.2.2.l_.length c89) x83.2.2.l_ C132 ∧ Sat w K128 (flat [[(b7, Cl (vv100 x83.2.2 a88 c89) 100)], C132, [(b31, Cl (vv32 x20.1) 32)], [(b57, Cl (vv32 x46.1) 32)], [(b81, Cl (vv32 x70.1) 32)], L])) rfl (fun J hJ => ?_) ?_
  · replace hf := hst135
    cases hc : s126
    · replace hf := bif_f hc hf
      refine s_no rfl rfl ?_
      refine s_v rfl rfl rfl ?_
      have hq := Option.some.inj hf
      subst hq
      refine r_join hJ _ ⟨K120, C124, rfl, hle, h121, hS⟩ ⟨rfl, rfl, rfl, rfl, rfl, rfl, rfl, trivial⟩
    replace hf := bif_t hc hf
    iterate 2 refine s_v rfl rfl rfl ?_
    have hq := Option.some.inj hf
    subst hq
    refine r_join hJ _ ⟨K120, C124, rfl, hle, h121, hS⟩ ⟨rfl, rfl, rfl, rfl, rfl, rfl, rfl, trivial⟩
  rintro _ w ⟨K128, C132, rfl, hle, h129, hS⟩
  refine s_v rfl rfl rfl ?_
  obtain ⟨s142, hst143, hf⟩ := bs hf
  refine r_cut [_, _] (fun τ w => ∃ (K136 : KM) (C140 : Chunks), τ = [(1, (.pointer (some ⟨b7, 0, none⟩))), (2, (.pointer (some ⟨b31, 0, none⟩))), (6, (.pointer (some ⟨b57, 0, none⟩))), (9, (.pointer (some ⟨b81, 0, none⟩))), (12, (.bool x83.2.1)), (72, (.bool s142))] ∧ KM.le K K136 ∧ OwnD 105 D105 K136 (.slice a88 x83.2.2.l_.length c89) x83.2.2.l_ C140 ∧ Sat w K136 (flat [[(b7, Cl (vv100 x83.2.2 a88 c89) 100)], C140, [(b31, Cl (vv32 x20.1) 32)], [(b57, Cl (vv32 x46.1) 32)], [(b81, Cl (vv32 x70.1) 32)], L])) rfl (fun J hJ => ?_) ?_
  · replace hf := hst143
    cases hc : s134
    · replace hf := bif_f hc hf
      refine s_no rfl rfl ?_
      refine s_v rfl rfl rfl ?_
      have hq := Option.some.inj hf
      subst hq
      refine r_join hJ _ ⟨K128, C132, rfl, hle, h129, hS⟩ ⟨rfl, rfl, rfl, rfl, rfl, rfl, trivial⟩
    replace hf := bif_t hc hf
    iterate 2 refine s_v rfl rfl rfl ?_
    have hq := Option.some.inj hf
    subst hq
    refine r_join hJ _ ⟨K128, C132, rfl, hle, h129, hS⟩ ⟨rfl, rfl, rfl, rfl, rfl, rfl, trivial⟩
  rintro _ w ⟨K136, C140, rfl, hle, h137, hS⟩
  refine s_v rfl rfl rfl ?_
  obtain ⟨s150, hst151, hf⟩ := bs hf
  refine r_cut [_, _, _, _] (fun τ w => ∃ (K144 : KM) (C148 : Chunks), τ = [(1, (.pointer (some ⟨b7, 0, none⟩))), (2, (.pointer (some ⟨b31, 0, none⟩))), (6, (.pointer (some ⟨b57, 0, none⟩))), (12, (.bool x83.2.1)), (77, (.bool s150))] ∧ KM.le K K144 ∧ OwnD 105 D105 K144 (.slice a88 x83.2.2.l_.length c89) x83.2.2.l_ C148 ∧ Sat w K144 (flat [[(b7, Cl (vv100 x83.2.2 a88 c89) 100)], C148, [(b31, Cl (vv32 x20.1) 32)], [(b57, Cl (vv32 x46.1) 32)], L])) rfl (fun J hJ => ?_) ?_
  · replace hf := hst151
    cases hc : s142
    · replace hf := bif_f hc hf
      refine s_no rfl rfl ?_
      refine s_no rfl rfl ?_
      refine s_no rfl rfl ?_
      refine s_v rfl rfl rfl ?_
      have hq := Option.some.inj hf
      subst hq
      refine r_join hJ _ ⟨K136, C140, rfl, hle, h137, (hS.sel [0, 1, 2, 3, 5] rfl)⟩ ⟨rfl, rfl, rfl, rfl, rfl, trivial⟩
    replace hf := bif_t hc hf
    refine s_v rfl rfl rfl ?_
    refine s_ld 4 hS rfl rfl rfl rfl rfl ?_
    iterate 2 refine s_v rfl rfl rfl ?_
    have hq := Option.some.inj hf
    subst hq
    refine r_join hJ _ ⟨K136, C140, rfl, hle, h137, (hS.sel [0, 1, 2, 3, 5] rfl)⟩ ⟨rfl, rfl, rfl, rfl, rfl, trivial⟩
  rintro _ w ⟨K144, C148, rfl, hle, h145, hS⟩
  refine s_v rfl rfl rfl ?_
  obtain ⟨s158, hst159, hf⟩ := bs hf
  refine r_cut [_, _, _] (fun τ w => ∃ (K152 : KM) (C156 : Chunks), τ = [(1, (.pointer (some ⟨b7, 0, none⟩))), (2, (.pointer (some ⟨b31, 0, none⟩))), (6, (.pointer (some ⟨b57, 0, none⟩))), (81, (.bool s158))] ∧ KM.le K K152 ∧ OwnD 105 D105 K152 (.slice a88 x83.2.2.l_.length c89) x83.2.2.l_ C156 ∧ Sat w K152 (flat [[(b7, Cl (vv100 x83.2.2 a88 c89) 100)], C156, [(b31, Cl (vv32 x20.1) 32)], [(b57, Cl (vv32 x46.1) 32)], L])) rfl (fun J hJ => ?_) ?_
  · replace hf := hst159
    cases hc : s150
    · replace hf := bif_f hc hf
      refine s_no rfl rfl ?_
      refine s_no rfl rfl ?_
      refine s_v rfl rfl rfl ?_
      have hq := Option.some.inj hf
      subst hq
      refine r_join hJ _ ⟨K144, C148, rfl, hle, h145, hS⟩ ⟨rfl, rfl, rfl, rfl, trivial⟩
    replace hf := bif_t hc hf
    iterate 3 refine s_v rfl rfl rfl ?_
    have hq := Option.some.inj hf
    subst hq
    refine r_join hJ _ ⟨K144, C148, rfl, hle, h145, hS⟩ ⟨rfl, rfl, rfl, rfl, trivial⟩
  rintro _ w ⟨K152, C156, rfl, hle, h153, hS⟩
  refine s_v rfl rfl rfl ?_
  obtain ⟨s177, hst178, hf⟩ := bs hf
  refine r_cut [_, _, _, _, _] (fun τ w => ∃ (K171 : KM) (a173 : Option Addr) (c174 : Nat) (C175 : Chunks), τ = [(1, (.pointer (some ⟨b7, 0, none⟩))), (6, (.pointer (some ⟨b57, 0, none⟩))), (87, (.bool s177.2.2.2))] ∧ KM.le K K171 ∧ OwnD 105 D105 K171 (.slice a173 s177.1.length c174) s177.1 C175 ∧ Sat w K171 (flat [[(b7, Cl [(.slice a173 s177.1.length c174), (.int .i64 s177.2.1), (.int .i64 s177.2.2.1)] 100)], C175, [(b57, Cl (vv32 x46.1) 32)], L])) rfl (fun J hJ => ?_) ?_
  · replace hf := hst178
    cases hc : s158
    · replace hf := bif_f hc hf
      refine s_no rfl rfl ?_
      refine s_no rfl rfl ?_
      refine s_no rfl rfl ?_
      refine s_no rfl rfl ?_
      refine s_v rfl rfl rfl ?_
      have hq := Option.some.inj hf
      subst hq
      refine r_join hJ _ ⟨K152, a88, c89, C156, rfl, hle, h153, (hS.sel [0, 1, 3, 4] rfl)⟩ ⟨rfl, rfl, rfl, trivial⟩
    replace hf := bif_t hc hf
    refine s_v rfl rfl rfl ?_
    refine s_ld (v := (.agg (vv32 x20.1).toArray)) 2 hS rfl rfl rfl rfl rfl ?_
    obtain ⟨x179, hx180, hf⟩ := bs hf
    refine s_call isf27 (Sat.shut2 hS) (heap_Heap_Class_spec hx180 h153) rfl rfl rfl ?_
    rintro _ K181 _ w hk182 ⟨a184, c185, C188, rfl, h186, rfl⟩ hS
    replace hS := hS.open2
    iterate 2 refine s_v rfl rfl rfl ?_
    have hq := Option.some.inj hf
    subst hq
    replace hle := hle.trans hk182
    refine r_join hJ _ ⟨K181, a184, c185, C188, rfl, hle, h186, (hS.sel [0, 1, 3, 4] rfl)⟩ ⟨rfl, rfl, rfl, trivial⟩
  rintro _ w ⟨K171, a173, c174, C175, rfl, hle, h172, hS⟩
  refine s_v rfl rfl rfl ?_
  obtain ⟨s207, hst208, hf⟩ := bs hf
  refine r_cut [_, _, _, _, _] (fun τ w => ∃ (K201 : KM) (a203 : Option Addr) (c204 : Nat) (C205 : Chunks), τ = [(1, (.pointer (some ⟨b7, 0, none⟩))), (6, (.pointer (some ⟨b57, 0, none⟩))), (93, (.bool s207.2.2.2))] ∧ KM.le K K201 ∧ OwnD 105 D105 K201 (.slice a203 s207.1.length c204) s207.1 C205 ∧ Sat w K201 (flat [[(b7, Cl [(.slice a203 s207.1.length c204), (.int .i64 s207.2.1), (.int .i64 s207.2.2.1)] 100)], C205, [(b57, Cl (vv32 x46.1) 32)], L])) rfl (fun J hJ => ?_) ?_
  · replace hf := hst208
    cases hc : s177.2.2.2
    · replace hf := bif_f hc hf
      refine s_no rfl rfl ?_
      refine s_no rfl rfl ?_
      refine s_no rfl rfl ?_
      refine s_no rfl rfl ?_
      refine s_v rfl rfl rfl ?_
      have hq := Option.some.inj hf
      subst hq
      refine r_join hJ _ ⟨K171, a173, c174, C175, rfl, hle, h172, hS⟩ ⟨rfl, rfl, rfl, trivial⟩
    replace hf := bif_t hc hf
    refine s_v rfl rfl rfl ?_
    refine s_ld (v := (.agg (vv32 x46.1).toArray)) 2 hS rfl rfl rfl rfl rfl ?_
    obtain ⟨x209, hx210, hf⟩ := bs hf
    refine s_call isf27 (Sat.shut2 hS) (heap_Heap_Class_spec hx210 h172) rfl rfl rfl ?_
    rintro _ K211 _ w hk212 ⟨a214, c215, C218, rfl, h216, rfl⟩ hS
    replace hS := hS.open2
    iterate 2 refine s_v rfl rfl rfl ?_
    have hq := Option.some.inj hf
    subst hq
    replace hle := hle.trans hk212
    refine r_join hJ _ ⟨K211, a214, c215, C218, rfl, hle, h216, hS⟩ ⟨rfl, rfl, rfl, trivial⟩
  rintro _ w ⟨K201, a203, c204, C205, rfl, hle, h202, hS⟩
  refine s_v rfl rfl rfl ?_
  obtain ⟨s237, hst238, hf⟩ := bs hf
  refine r_cut [_, _, _, _, _] (fun τ w => ∃ (K231 : KM) (a233 : Option Addr) (c234 : Nat) (C235 : Chunks), τ = [(1, (.pointer (some ⟨b7, 0, none⟩))), (99, (.bool s237.2.2.2))] ∧ KM.le K K231 ∧ OwnD 105 D105 K231 (.slice a233 s237.1.length c234) s237.1 C235 ∧ Sat w K231 (flat [[(b7, Cl [(.slice a233 s237.1.length c234), (.int .i64 s237.2.1), (.int .i64 s237.2.2.1)] 100)], C235, L])) rfl (fun J hJ => ?_) ?_
  · replace hf := hst238
    cases hc : s207.2.2.2
    · replace hf := bif_f hc hf
      refine s_no rfl rfl ?_
      refine s_no rfl rfl ?_
      refine s_no rfl rfl ?_
      refine s_no rfl rfl ?_
      refine s_v rfl rfl rfl ?_
      have hq := Option.some.inj hf
      subst hq
      refine r_join hJ _ ⟨K201, a203, c204, C205, rfl, hle, h202, (hS.sel [0, 1, 3] rfl)⟩ ⟨rfl, rfl, trivial⟩
    replace hf := bif_t hc hf
    refine s_v rfl rfl rfl ?_
    refine s_ld (v := (.agg (vv32 x46.1).toArray)) 2 hS rfl rfl rfl rfl rfl ?_
    obtain ⟨x239, hx240, hf⟩ := bs hf
    refine s_call isf25 (Sat.shut2 hS) (heap_Heap_Len_spec hx240 h202) rfl rfl rfl ?_
    rintro _ K241 _ w hk242 ⟨a244, c245, C248, rfl, h246, rfl⟩ hS
    replace hS := hS.open2
    iterate 2 refine s_v rfl rfl rfl ?_
    have hq := Option.some.inj hf
    subst hq
    replace hle := hle.trans hk242
    refine r_join hJ _ ⟨K241, a244, c245, C248, rfl, hle, h246, (hS.sel [0, 1, 3] rfl)⟩ ⟨rfl, rfl, trivial⟩
  rintro _ w ⟨K231, a233, c234, C235, rfl, hle, h232, hS⟩
  refine s_v rfl rfl rfl ?_
  obtain ⟨s262, hst263, hf⟩ := bs hf
  refine r_cut [_, _, _, _] (fun τ w => ∃ (K261 : KM), τ = [(104, (.bool s262))] ∧ KM.le K K261 ∧ Sat w K261 (flat [L])) rfl (fun J hJ => ?_) ?_
  · replace hf := hst263
    cases hc : s237.2.2.2
    · replace hf := bif_f hc hf
      refine s_no rfl rfl ?_
      refine s_no rfl rfl ?_
      refine s_no rfl rfl ?_
      refine s_v rfl rfl rfl ?_
      have hq := Option.some.inj hf
      subst hq
      refine r_join hJ _ ⟨K231, rfl, hle, (hS.sel [2] rfl)⟩ ⟨rfl, trivial⟩
    replace hf := bif_t hc hf
    refine s_v rfl rfl rfl ?_
    obtain ⟨x264, hx265, hf⟩ := bs hf
    refine s_call isf24 (Sat.shut2 hS) (heap_Heap_Used_spec hx265 h232) rfl rfl rfl ?_
    rintro _ K266 _ w hk267 ⟨a269, c270, C273, rfl, h271, rfl⟩ hS
    replace hS := hS.open2
    iterate 2 refine s_v rfl rfl rfl ?_
    have hq := Option.some.inj hf
    subst hq
    replace hle := hle.trans hk267
    refine r_join hJ _ ⟨K266, rfl, hle, (hS.sel [2] rfl)⟩ ⟨rfl, trivial⟩
  rintro _ w ⟨K261, rfl, hle, hS⟩
  refine s_v rfl rfl rfl ?_
  refine s_nil (qn (s_rets ?_))
  have hq := Option.some.inj hf
  subst hq
  refine s_ret1 rfl (rv_t rfl) ?_
  exact ⟨K261, _, hle, rfl, Sat.nilG (hS.sel [0] rfl)⟩
end Go.Proofs.Ytgaldjnnfkdohaa
