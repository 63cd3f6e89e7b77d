/- Functions of the program, and their walks: what each reckons, and that its code reckons it. -/
import Derived.Test.YtgaldjnnfkdohaaHa
set_option linter.unusedVariables false
set_option linter.unusedSimpArgs false
set_option maxHeartbeats 0
set_option maxRecDepth 100000
namespace Go.Proofs.Ytgaldjnnfkdohaa
open Go Go.Fw
noncomputable def bod15 : Code := Try.f15.body.getD .skip
theorem isf15 : IsFn Try.prog 15 Try.f15 bod15 := ⟨Try.func15, rfl, by decide⟩
noncomputable def bod16 : Code := Try.f16.body.getD .skip
theorem isf16 : IsFn Try.prog 16 Try.f16 bod16 := ⟨Try.func16, rfl, by decide⟩
noncomputable def bod18 : Code := Try.f18.body.getD .skip
theorem isf18 : IsFn Try.prog 18 Try.f18 bod18 := ⟨Try.func18, rfl, by decide⟩
noncomputable def bod19 : Code := Try.f19.body.getD .skip
theorem isf19 : IsFn Try.prog 19 Try.f19 bod19 := ⟨Try.func19, rfl, by decide⟩
noncomputable def bod17 : Code := Try.f17.body.getD .skip
theorem isf17 : IsFn Try.prog 17 Try.f17 bod17 := ⟨Try.func17, rfl, by decide⟩
-- 15 (*bonsai/heap.Heap).Object
def heap_Heap_Object.fn (p1 : heap_Heap) (p9 : ByteArray) (p10 : (List api_Field)) : Option (heap_Value × Bool × heap_Heap) := (heap_Heap_add.fn p1 p9 (p10.length : Int)).bind fun x17 => some (x17.1, x17.2.1, x17.2.2)
theorem heap_Heap_Object_spec {K : KM} {p1 : heap_Heap} {p9 : ByteArray} {p10 : (List api_Field)} {r : (heap_Value × Bool × heap_Heap)} {b2 : Nat} {a3 : Option Addr} {c4 : Nat} {C7 : Chunks} {a11 : Option Addr} {c12 : Nat} (hf : heap_Heap_Object.fn p1 p9 p10 = some r) (h5 : OwnD 105 D105 K (.slice a3 p1.l_.length c4) p1.l_ C7) : Sp Try.prog 15 [(.pointer (some ⟨b2, 0, none⟩)), (.string p9), (.slice a11 p10.length c12)] K (flat [[(b2, Cl (vv100 p1 a3 c4) 100)], C7]) (fun K' C v => ∃ (a28 : Option Addr) (c29 : Nat) (C_0 : Chunks), v = (.tuple #[(.agg (vv32 r.1).toArray), (.bool r.2.1)]) ∧ OwnD 105 D105 K' (.slice a28 r.2.2.l_.length c29) r.2.2.l_ C_0 ∧ C = flat [[(b2, Cl (vv100 r.2.2 a28 c29) 100)], C_0]) := by
  unfold heap_Heap_Object.fn at hf
  refine spec_enter isf15 rfl ?_
  intro w L hS
  replace hS : Sat w K (flat [[(b2, Cl (vv100 p1 a3 c4) 100)], C7, L]) := hS.open
  have hle := KM.le.refl K
  unfold bod15 Try.f15
  dsimp only [Option.getD_some, argSlots]
  refine s_seq (s_reg ?_)
  refine s_al hS rfl rfl rfl ?_
  intro b15 w hS
  replace hS : Sat w K (flat ([(b15, Cl [(.int .i32 0), (.string ByteArray.empty), (.int .i64 0)] 32)] :: _)) := hS
  refine s_v rfl rfl rfl ?_
  refine s_nil (qn (s_seq (s_reg ?_)))
  iterate 4 refine s_v rfl rfl rfl ?_
  obtain ⟨x17, hx18, hf⟩ := bs hf
  refine s_call isf40 (Sat.shut2 (hS.sel [1, 2, 0, 3] rfl)) (heap_Heap_add_spec hx18 h5) rfl rfl rfl ?_
  rintro _ K19 _ w hk20 ⟨a22, c23, C26, rfl, h24, rfl⟩ hS
  replace hS := hS.open2
  iterate 2 refine s_v rfl rfl rfl ?_
  refine s_st (cs' := (vv32 x17.1)) 2 hS rfl rfl rfl rfl rfl ?_
  intro w hS
  replace hS : Sat w _ (flat [_, _, _, _]) := hS
  refine s_v rfl rfl rfl ?_
  refine s_nil (qn (s_rets ?_))
  have hq := Option.some.inj hf
  subst hq
  refine s_ret2 rfl (rv_c (v := (.agg (vv32 x17.1).toArray)) 2 hS rfl rfl rfl) (rv_t rfl) ?_
  replace hle := hle.trans hk20
  exact ⟨K19, _, hle, ⟨a22, c23, C26, rfl, h24, rfl⟩, Sat.shut2 (hS.sel [0, 1, 3] rfl)⟩
-- 16 (*bonsai/bonsairef15.Heap).Object
def bonsairef15_Heap_Object.fn (p1 : bonsairef15_Heap) (p9 : ByteArray) (p10 : Int) : Option (bonsairef15_Value × Bool × bonsairef15_Heap) := (bonsairef15_Heap_take.fn p1 p9 p10).bind fun x14 => some (x14.1, x14.2.1, x14.2.2)
theorem bonsairef15_Heap_Object_spec {K : KM} {p1 : bonsairef15_Heap} {p9 : ByteArray} {p10 : Int} {r : (bonsairef15_Value × Bool × bonsairef15_Heap)} {b2 : Nat} {a3 : Option Addr} {c4 : Nat} {C7 : Chunks} (hf : bonsairef15_Heap_Object.fn p1 p9 p10 = some r) (h5 : OwnD 108 D108 K (.slice a3 p1.L.length c4) p1.L C7) : Sp Try.prog 16 [(.pointer (some ⟨b2, 0, none⟩)), (.string p9), (.int .i64 p10)] K (flat [[(b2, Cl (vv49 p1 a3 c4) 49)], C7]) (fun K' C v => ∃ (a25 : Option Addr) (c26 : Nat) (C_0 : Chunks), v = (.tuple #[(.agg (vv33 r.1).toArray), (.bool r.2.1)]) ∧ OwnD 108 D108 K' (.slice a25 r.2.2.L.length c26) r.2.2.L C_0 ∧ C = flat [[(b2, Cl (vv49 r.2.2 a25 c26) 49)], C_0]) := by
  unfold bonsairef15_Heap_Object.fn at hf
  refine spec_enter isf16 rfl ?_
  intro w L hS
  replace hS : Sat w K (flat [[(b2, Cl (vv49 p1 a3 c4) 49)], C7, L]) := hS.open
  have hle := KM.le.refl K
  unfold bod16 Try.f16
  dsimp only [Option.getD_some, argSlots]
  refine s_seq (s_reg ?_)
  refine s_al hS rfl rfl rfl ?_
  intro b12 w hS
  replace hS : Sat w K (flat ([(b12, Cl [(.int .i32 0), (.string ByteArray.empty), (.int .i64 0)] 33)] :: _)) := hS
  refine s_v rfl rfl rfl ?_
  refine s_nil (qn (s_seq (s_reg ?_)))
  iterate 3 refine s_v rfl rfl rfl ?_
  obtain ⟨x14, hx15, hf⟩ := bs hf
  refine s_call isf41 (Sat.shut2 (hS.sel [1, 2, 0, 3] rfl)) (bonsairef15_Heap_take_spec hx15 h5) rfl rfl rfl ?_
  rintro _ K16 _ w hk17 ⟨a19, c20, C23, rfl, h21, rfl⟩ hS
  replace hS := hS.open2
  iterate 2 refine s_v rfl rfl rfl ?_
  refine s_st (cs' := (vv33 x14.1)) 2 hS rfl rfl rfl rfl rfl ?_
  intro w hS
  replace hS : Sat w _ (flat [_, _, _, _]) := hS
  refine s_v rfl rfl rfl ?_
  refine s_nil (qn (s_rets ?_))
  have hq := Option.some.inj hf
  subst hq
  refine s_ret2 rfl (rv_c (v := (.agg (vv33 x14.1).toArray)) 2 hS rfl rfl rfl) (rv_t rfl) ?_
  replace hle := hle.trans hk17
  exact ⟨K16, _, hle, ⟨a19, c20, C23, rfl, h21, rfl⟩, Sat.shut2 (hS.sel [0, 1, 3] rfl)⟩
-- 18 (*bonsai/heap.Heap).Array
def heap_Heap_Array.fn (p1 : heap_Heap) (p9 : Int) : Option (heap_Value × Bool × heap_Heap) := bif decide (p9 < 0) then (some ((heap_Value.mk 0 ByteArray.empty 0), false, p1)) else ((heap_Heap_add.fn p1 (⟨#[]⟩ : ByteArray) (w64 p9)).bind fun x13 => some (x13.1, x13.2.1, x13.2.2))
theorem heap_Heap_Array_spec {K : KM} {p1 : heap_Heap} {p9 : Int} {r : (heap_Value × Bool × heap_Heap)} {b2 : Nat} {a3 : Option Addr} {c4 : Nat} {C7 : Chunks} (hf : heap_Heap_Array.fn p1 p9 = some r) (h5 : OwnD 105 D105 K (.slice a3 p1.l_.length c4) p1.l_ C7) : Sp Try.prog 18 [(.pointer (some ⟨b2, 0, none⟩)), (.int .i32 p9)] K (flat [[(b2, Cl (vv100 p1 a3 c4) 100)], C7]) (fun K' C v => ∃ (a24 : Option Addr) (c25 : Nat) (C_0 : Chunks), v = (.tuple #[(.agg (vv32 r.1).toArray), (.bool r.2.1)]) ∧ OwnD 105 D105 K' (.slice a24 r.2.2.l_.length c25) r.2.2.l_ C_0 ∧ C = flat [[(b2, Cl (vv100 r.2.2 a24 c25) 100)], C_0]) := by
  unfold heap_Heap_Array.fn at hf
  refine spec_enter isf18 rfl ?_
  intro w L hS
  replace hS : Sat w K (flat [[(b2, Cl (vv100 p1 a3 c4) 100)], C7, L]) := hS.open
  have hle := KM.le.refl K
  unfold bod18 Try.f18
  dsimp only [Option.getD_some, argSlots]
  refine s_seq (s_reg ?_)
  refine s_al hS rfl rfl rfl ?_
  intro b11 w hS
  replace hS : Sat w K (flat ([(b11, Cl [(.int .i32 0), (.string ByteArray.empty), (.int .i64 0)] 32)] :: _)) := hS
  refine s_v rfl rfl rfl ?_
  refine s_nil (qn (s_seq (s_seq (s_reg ?_))))
  iterate 2 refine s_v rfl rfl rfl ?_
  refine s_nil (qn ?_)
  refine s_if rfl (fun hc => ?_) (fun hc => ?_)
  · replace hf := bif_t hc hf
    refine s_seq (s_reg ?_)
    refine s_v (v := (.agg #[(.int .i32 0), (.string ByteArray.empty), (.int .i64 0)])) rfl rfl rfl ?_
    refine s_st (cs' := [(.int .i32 0), (.string ByteArray.empty), (.int .i64 0)]) 0 hS rfl rfl rfl rfl rfl ?_
    intro w hS
    replace hS : Sat w _ (flat [_, _, _, _]) := hS
    refine s_v rfl rfl rfl ?_
    refine s_nil (qn (s_rets (qrt ?_)))
    have hq := Option.some.inj hf
    subst hq
    refine s_ret2 rfl (rv_c (v := (.agg #[(.int .i32 0), (.string ByteArray.empty), (.int .i64 0)])) 0 hS rfl rfl rfl) (rv_t rfl) ?_
    exact ⟨K, _, hle, ⟨a3, c4, C7, rfl, h5, rfl⟩, Sat.shut2 (hS.sel [1, 2, 3] rfl)⟩
  replace hf := bif_f hc hf
  refine s_skip (qn (s_seq (s_reg ?_)))
  iterate 3 refine s_v rfl rfl rfl ?_
  obtain ⟨x13, hx14, hf⟩ := bs hf
  refine s_call isf40 (Sat.shut2 (hS.sel [1, 2, 0, 3] rfl)) (heap_Heap_add_spec hx14 h5) rfl rfl rfl ?_
  rintro _ K15 _ w hk16 ⟨a18, c19, C22, rfl, h20, rfl⟩ hS
  replace hS := hS.open2
  iterate 2 refine s_v rfl rfl rfl ?_
  refine s_st (cs' := (vv32 x13.1)) 2 hS rfl rfl rfl rfl rfl ?_
  intro w hS
  replace hS : Sat w _ (flat [_, _, _, _]) := hS
  refine s_v rfl rfl rfl ?_
  refine s_nil (qn (s_rets ?_))
  have hq := Option.some.inj hf
  subst hq
  refine s_ret2 rfl (rv_c (v := (.agg (vv32 x13.1).toArray)) 2 hS rfl rfl rfl) (rv_t rfl) ?_
  replace hle := hle.trans hk16
  exact ⟨K15, _, hle, ⟨a18, c19, C22, rfl, h20, rfl⟩, Sat.shut2 (hS.sel [0, 1, 3] rfl)⟩
-- 19 (*bonsai/bonsairef15.Heap).Array
def bonsairef15_Heap_Array.fn (p1 : bonsairef15_Heap) (p9 : Int) : Option (bonsairef15_Value × Bool × bonsairef15_Heap) := bif decide (p9 < 0) then (some ((bonsairef15_Value.mk 0 ByteArray.empty 0), false, p1)) else ((bonsairef15_Heap_take.fn p1 (⟨#[]⟩ : ByteArray) (w64 p9)).bind fun x13 => some (x13.1, x13.2.1, x13.2.2))
theorem bonsairef15_Heap_Array_spec {K : KM} {p1 : bonsairef15_Heap} {p9 : Int} {r : (bonsairef15_Value × Bool × bonsairef15_Heap)} {b2 : Nat} {a3 : Option Addr} {c4 : Nat} {C7 : Chunks} (hf : bonsairef15_Heap_Array.fn p1 p9 = some r) (h5 : OwnD 108 D108 K (.slice a3 p1.L.length c4) p1.L C7) : Sp Try.prog 19 [(.pointer (some ⟨b2, 0, none⟩)), (.int .i32 p9)] K (flat [[(b2, Cl (vv49 p1 a3 c4) 49)], C7]) (fun K' C v => ∃ (a24 : Option Addr) (c25 : Nat) (C_0 : Chunks), v = (.tuple #[(.agg (vv33 r.1).toArray), (.bool r.2.1)]) ∧ OwnD 108 D108 K' (.slice a24 r.2.2.L.length c25) r.2.2.L C_0 ∧ C = flat [[(b2, Cl (vv49 r.2.2 a24 c25) 49)], C_0]) := by
  unfold bonsairef15_Heap_Array.fn at hf
  refine spec_enter isf19 rfl ?_
  intro w L hS
  replace hS : Sat w K (flat [[(b2, Cl (vv49 p1 a3 c4) 49)], C7, L]) := hS.open
  have hle := KM.le.refl K
  unfold bod19 Try.f19
  dsimp only [Option.getD_some, argSlots]
  refine s_seq (s_reg ?_)
  refine s_al hS rfl rfl rfl ?_
  intro b11 w hS
  replace hS : Sat w K (flat ([(b11, Cl [(.int .i32 0), (.string ByteArray.empty), (.int .i64 0)] 33)] :: _)) := hS
  refine s_v rfl rfl rfl ?_
  refine s_nil (qn (s_seq (s_seq (s_reg ?_))))
  iterate 2 refine s_v rfl rfl rfl ?_
  refine s_nil (qn ?_)
  refine s_if rfl (fun hc => ?_) (fun hc => ?_)
  · replace hf := bif_t hc hf
    refine s_seq (s_reg ?_)
    refine s_v (v := (.agg #[(.int .i32 0), (.string ByteArray.empty), (.int .i64 0)])) rfl rfl rfl ?_
    refine s_st (cs' := [(.int .i32 0), (.string ByteArray.empty), (.int .i64 0)]) 0 hS rfl rfl rfl rfl rfl ?_
    intro w hS
    replace hS : Sat w _ (flat [_, _, _, _]) := hS
    refine s_v rfl rfl rfl ?_
    refine s_nil (qn (s_rets (qrt ?_)))
    have hq := Option.some.inj hf
    subst hq
    refine s_ret2 rfl (rv_c (v := (.agg #[(.int .i32 0), (.string ByteArray.empty), (.int .i64 0)])) 0 hS rfl rfl rfl) (rv_t rfl) ?_
    exact ⟨K, _, hle, ⟨a3, c4, C7, rfl, h5, rfl⟩, Sat.shut2 (hS.sel [1, 2, 3] rfl)⟩
  replace hf := bif_f hc hf
  refine s_skip (qn (s_seq (s_reg ?_)))
  iterate 3 refine s_v rfl rfl rfl ?_
  obtain ⟨x13, hx14, hf⟩ := bs hf
  refine s_call isf41 (Sat.shut2 (hS.sel [1, 2, 0, 3] rfl)) (bonsairef15_Heap_take_spec hx14 h5) rfl rfl rfl ?_
  rintro _ K15 _ w hk16 ⟨a18, c19, C22, rfl, h20, rfl⟩ hS
  replace hS := hS.open2
  iterate 2 refine s_v rfl rfl rfl ?_
  refine s_st (cs' := (vv33 x13.1)) 2 hS rfl rfl rfl rfl rfl ?_
  intro w hS
  replace hS : Sat w _ (flat [_, _, _, _]) := hS
  refine s_v rfl rfl rfl ?_
  refine s_nil (qn (s_rets ?_))
  have hq := Option.some.inj hf
  subst hq
  refine s_ret2 rfl (rv_c (v := (.agg (vv33 x13.1).toArray)) 2 hS rfl rfl rfl) (rv_t rfl) ?_
  replace hle := hle.trans hk16
  exact ⟨K15, _, hle, ⟨a18, c19, C22, rfl, h20, rfl⟩, Sat.shut2 (hS.sel [0, 1, 3] rfl)⟩
-- 17 bonsai/bonsailaw15.alike
def bonsailaw15_alike.fn (p1 : heap_Value) (p2 : bonsairef15_Value) : Option Bool := (bif p1.N == p2.N then (some (p1.S.toList == p2.S.toList)) else (some false)).bind fun s9 => (bif s9 then (some (p1.Ref == p2.Ref)) else (some false)).bind fun s12 => some s12
theorem bonsailaw15_alike_spec {K : KM} {p1 : heap_Value} {p2 : bonsairef15_Value} {r : Bool} (hf : bonsailaw15_alike.fn p1 p2 = some r) : Sp Try.prog 17 [(.agg (vv32 p1).toArray), (.agg (vv33 p2).toArray)] K [] (fun K' C v => v = (.bool r)) := by
  unfold bonsailaw15_alike.fn at hf
  refine spec_enter isf17 rfl ?_
  intro w L hS
  replace hS : Sat w K (flat [L]) := hS
  have hle := KM.le.refl K
  unfold bod17 Try.f17
  dsimp only [Option.getD_some, argSlots]
  refine s_seq (s_reg ?_)
  refine s_bx hS rfl rfl rfl ?_
  intro b4 w hS
  replace hS : Sat w K (flat ([(b4, Cl (vv32 p1) 32)] :: _)) := hS
  refine s_bx hS rfl rfl rfl ?_
  intro b6 w hS
  replace hS : Sat w K (flat ([(b6, Cl (vv33 p2) 33)] :: _)) := hS
  refine s_v rfl rfl rfl ?_
  refine s_nil (qn (s_seq (s_reg ?_)))
  refine s_v rfl rfl rfl ?_
  refine s_ld 1 hS rfl rfl rfl rfl rfl ?_
  refine s_v rfl rfl rfl ?_
  refine s_ld 0 hS rfl rfl rfl rfl rfl ?_
  iterate 2 refine s_v rfl rfl rfl ?_
  obtain ⟨s9, hst10, hf⟩ := bs hf
  refine r_cut [_, _, _, _, _, _] (fun τ w => ∃ (K8 : KM), τ = [(2, (.pointer (some ⟨b4, 0, none⟩))), (3, (.pointer (some ⟨b6, 0, none⟩))), (16, (.bool s9))] ∧ KM.le K K8 ∧ Sat w K8 (flat [[(b4, Cl (vv32 p1) 32)], [(b6, Cl (vv33 p2) 33)], L])) rfl (fun J hJ => ?_) ?_
  · replace hf := hst10
    cases hc : (p1.N == p2.N)
    · replace hf := bif_f hc hf
      refine s_no rfl rfl ?_
      refine s_no rfl rfl ?_
      refine s_no rfl rfl ?_
      refine s_no rfl rfl ?_
      refine s_no rfl rfl ?_
      refine s_v rfl rfl rfl ?_
      have hq := Option.some.inj hf
      subst hq
      refine r_join hJ _ ⟨K, rfl, hle, (hS.sel [1, 0, 2] rfl)⟩ ⟨rfl, rfl, rfl, trivial⟩
    replace hf := bif_t hc hf
    refine s_v rfl rfl rfl ?_
    refine s_ld 1 hS rfl rfl rfl rfl rfl ?_
    refine s_v rfl rfl rfl ?_
    refine s_ld 0 hS rfl rfl rfl rfl rfl ?_
    iterate 2 refine s_v rfl rfl rfl ?_
    have hq := Option.some.inj hf
    subst hq
    refine r_join hJ _ ⟨K, rfl, hle, (hS.sel [1, 0, 2] rfl)⟩ ⟨rfl, rfl, rfl, trivial⟩
  rintro _ w ⟨K8, rfl, hle, hS⟩
  refine s_v rfl rfl rfl ?_
  obtain ⟨s12, hst13, hf⟩ := bs hf
  refine r_cut [_, _, _, _, _, _] (fun τ w => ∃ (K11 : KM), τ = [(23, (.bool s12))] ∧ KM.le K K11 ∧ Sat w K11 (flat [L])) rfl (fun J hJ => ?_) ?_
  · replace hf := hst13
    cases hc : s9
    · replace hf := bif_f hc hf
      refine s_no rfl rfl ?_
      refine s_no rfl rfl ?_
      refine s_no rfl rfl ?_
      refine s_no rfl rfl ?_
      refine s_no rfl rfl ?_
      refine s_v rfl rfl rfl ?_
      have hq := Option.some.inj hf
      subst hq
      refine r_join hJ _ ⟨K8, rfl, hle, (hS.sel [2] rfl)⟩ ⟨rfl, trivial⟩
    replace hf := bif_t hc hf
    refine s_v rfl rfl rfl ?_
    refine s_ld 0 hS rfl rfl rfl rfl rfl ?_
    refine s_v rfl rfl rfl ?_
    refine s_ld 1 hS rfl rfl rfl rfl rfl ?_
    iterate 2 refine s_v rfl rfl rfl ?_
    have hq := Option.some.inj hf
    subst hq
    refine r_join hJ _ ⟨K8, rfl, hle, (hS.sel [2] rfl)⟩ ⟨rfl, trivial⟩
  rintro _ w ⟨K11, rfl, hle, hS⟩
  refine s_v rfl rfl rfl ?_
  refine s_nil (qn (s_rets ?_))
  have hq := Option.some.inj hf
  subst hq
  refine s_ret1 rfl (rv_t rfl) ?_
  exact ⟨K11, _, hle, rfl, Sat.nilG (hS.sel [0] rfl)⟩
end Go.Proofs.Ytgaldjnnfkdohaa
