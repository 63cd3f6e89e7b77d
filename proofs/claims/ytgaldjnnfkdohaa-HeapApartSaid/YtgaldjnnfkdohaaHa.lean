/- Functions of the program, and their walks: what each reckons, and that its code reckons it. -/
import Derived.Test.YtgaldjnnfkdohaaHty
set_option linter.unusedVariables false
set_option linter.unusedSimpArgs false
set_option maxHeartbeats 0
set_option maxRecDepth 100000
namespace Go.Proofs.Ytgaldjnnfkdohaa
open Go Go.Fw
noncomputable def bod24 : Code := Try.f24.body.getD .skip
theorem isf24 : IsFn Try.prog 24 Try.f24 bod24 := ⟨Try.func24, rfl, by decide⟩
noncomputable def bod13 : Code := Try.f13.body.getD .skip
theorem isf13 : IsFn Try.prog 13 Try.f13 bod13 := ⟨Try.func13, rfl, by decide⟩
noncomputable def bod14 : Code := Try.f14.body.getD .skip
theorem isf14 : IsFn Try.prog 14 Try.f14 bod14 := ⟨Try.func14, rfl, by decide⟩
noncomputable def bod43 : Code := Try.f43.body.getD .skip
theorem isf43 : IsFn Try.prog 43 Try.f43 bod43 := ⟨Try.func43, rfl, by decide⟩
noncomputable def bod26 : Code := Try.f26.body.getD .skip
theorem isf26 : IsFn Try.prog 26 Try.f26 bod26 := ⟨Try.func26, rfl, by decide⟩
noncomputable def bod28 : Code := Try.f28.body.getD .skip
theorem isf28 : IsFn Try.prog 28 Try.f28 bod28 := ⟨Try.func28, rfl, by decide⟩
noncomputable def bod23 : Code := Try.f23.body.getD .skip
theorem isf23 : IsFn Try.prog 23 Try.f23 bod23 := ⟨Try.func23, rfl, by decide⟩
noncomputable def bod21 : Code := Try.f21.body.getD .skip
theorem isf21 : IsFn Try.prog 21 Try.f21 bod21 := ⟨Try.func21, rfl, by decide⟩
noncomputable def bod40 : Code := Try.f40.body.getD .skip
theorem isf40 : IsFn Try.prog 40 Try.f40 bod40 := ⟨Try.func40, rfl, by decide⟩
noncomputable def bod41 : Code := Try.f41.body.getD .skip
theorem isf41 : IsFn Try.prog 41 Try.f41 bod41 := ⟨Try.func41, rfl, by decide⟩
-- 24 (*bonsai/heap.Heap).Used
def heap_Heap_Used.fn (p1 : heap_Heap) : Option (Int × heap_Heap) := some (p1.used_, p1)
theorem heap_Heap_Used_spec {K : KM} {p1 : heap_Heap} {r : (Int × heap_Heap)} {b2 : Nat} {a3 : Option Addr} {c4 : Nat} {C7 : Chunks} (hf : heap_Heap_Used.fn p1 = some r) (h5 : OwnD 105 D105 K (.slice a3 p1.l_.length c4) p1.l_ C7) : Sp Try.prog 24 [(.pointer (some ⟨b2, 0, none⟩))] K (flat [[(b2, Cl (vv100 p1 a3 c4) 100)], C7]) (fun K' C v => ∃ (a10 : Option Addr) (c11 : Nat) (C_0 : Chunks), v = (.int .i64 r.1) ∧ OwnD 105 D105 K' (.slice a10 r.2.l_.length c11) r.2.l_ C_0 ∧ C = flat [[(b2, Cl (vv100 r.2 a10 c11) 100)], C_0]) := by
  unfold heap_Heap_Used.fn at hf
  refine spec_enter isf24 rfl ?_
  intro w L hS
  replace hS : Sat w K (flat [[(b2, Cl (vv100 p1 a3 c4) 100)], C7, L]) := hS.open
  have hle := KM.le.refl K
  unfold bod24 Try.f24
  dsimp only [Option.getD_some, argSlots]
  refine s_seq (s_reg ?_)
  refine s_v rfl rfl rfl ?_
  refine s_nil (qn (s_seq (s_reg ?_)))
  iterate 3 refine s_v rfl rfl rfl ?_
  refine s_ld 0 hS rfl rfl rfl rfl rfl ?_
  refine s_v rfl rfl rfl ?_
  refine s_nil (qn (s_rets ?_))
  have hq := Option.some.inj hf
  subst hq
  refine s_ret1 rfl (rv_t rfl) ?_
  exact ⟨K, _, hle, ⟨a3, c4, C7, rfl, h5, rfl⟩, Sat.shut2 hS⟩
-- 13 bonsai/heap.New
def heap_New.fn (p1 : Int) : Option heap_Heap := some (heap_Heap.mk ([] : List heap_thing) 0 (if 0 > p1 then 0 else p1))
theorem heap_New_spec {K : KM} {p1 : Int} {r : heap_Heap} (hf : heap_New.fn p1 = some r) : Sp Try.prog 13 [(.int .i64 p1)] K [] (fun K' C v => ∃ (b6 : Nat) (a7 : Option Addr) (c8 : Nat) (C_0 : Chunks), v = (.pointer (some ⟨b6, 0, none⟩)) ∧ OwnD 105 D105 K' (.slice a7 r.l_.length c8) r.l_ C_0 ∧ C = flat [[(b6, Cl (vv100 r a7 c8) 100)], C_0]) := by
  unfold heap_New.fn at hf
  refine spec_enter isf13 rfl ?_
  intro w L hS
  replace hS : Sat w K (flat [L]) := hS
  have hle := KM.le.refl K
  unfold bod13 Try.f13
  dsimp only [Option.getD_some, argSlots]
  refine s_seq (s_reg ?_)
  refine s_v rfl rfl rfl ?_
  refine s_nil (qn (s_seq (s_reg ?_)))
  iterate 2 refine s_v rfl rfl rfl ?_
  refine s_v (v := (.agg #[(.slice none 0 0), (.int .i64 0), (.int .i64 (if 0 > p1 then 0 else p1))])) rfl rfl rfl ?_
  refine s_bx hS rfl rfl rfl ?_
  intro b3 w hS
  replace hS : Sat w K (flat ([(b3, Cl [(.slice none 0 0), (.int .i64 0), (.int .i64 (if 0 > p1 then 0 else p1))] 100)] :: _)) := hS
  refine s_v rfl rfl rfl ?_
  refine s_nil (qn (s_rets ?_))
  replace hS := hS.nilG
  have hq := Option.some.inj hf
  subst hq
  refine s_ret1 rfl (rv_t rfl) ?_
  exact ⟨K, _, hle, ⟨b3, none, 0, [], rfl, OwnD.nil, rfl⟩, Sat.shut2 (hS.sel [1, 0, 2] rfl)⟩
-- 14 bonsai/bonsairef15.NewHeap
def bonsairef15_NewHeap.fn (p1 : Int) : Option bonsairef15_Heap := some (bonsairef15_Heap.mk (if 0 > p1 then 0 else p1) 0 ([] : List bonsairef15_thing))
theorem bonsairef15_NewHeap_spec {K : KM} {p1 : Int} {r : bonsairef15_Heap} (hf : bonsairef15_NewHeap.fn p1 = some r) : Sp Try.prog 14 [(.int .i64 p1)] K [] (fun K' C v => ∃ (b6 : Nat) (a7 : Option Addr) (c8 : Nat) (C_0 : Chunks), v = (.pointer (some ⟨b6, 0, none⟩)) ∧ OwnD 108 D108 K' (.slice a7 r.L.length c8) r.L C_0 ∧ C = flat [[(b6, Cl (vv49 r a7 c8) 49)], C_0]) := by
  unfold bonsairef15_NewHeap.fn at hf
  refine spec_enter isf14 rfl ?_
  intro w L hS
  replace hS : Sat w K (flat [L]) := hS
  have hle := KM.le.refl K
  unfold bod14 Try.f14
  dsimp only [Option.getD_some, argSlots]
  refine s_seq (s_reg ?_)
  refine s_v rfl rfl rfl ?_
  refine s_nil (qn (s_seq (s_reg ?_)))
  iterate 2 refine s_v rfl rfl rfl ?_
  refine s_v (v := (.agg #[(.int .i64 (if 0 > p1 then 0 else p1)), (.int .i64 0), (.slice none 0 0)])) rfl rfl rfl ?_
  refine s_bx hS rfl rfl rfl ?_
  intro b3 w hS
  replace hS : Sat w K (flat ([(b3, Cl [(.int .i64 (if 0 > p1 then 0 else p1)), (.int .i64 0), (.slice none 0 0)] 49)] :: _)) := hS
  refine s_v rfl rfl rfl ?_
  refine s_nil (qn (s_rets ?_))
  replace hS := hS.nilG
  have hq := Option.some.inj hf
  subst hq
  refine s_ret1 rfl (rv_t rfl) ?_
  exact ⟨K, _, hle, ⟨b3, none, 0, [], rfl, OwnD.nil, rfl⟩, Sat.shut2 (hS.sel [1, 0, 2] rfl)⟩
-- 43 (*bonsai/bonsairef15.Heap).there
def bonsairef15_Heap_there.fn (p1 : bonsairef15_Heap) (p9 : bonsairef15_Value) : Option (Bool × bonsairef15_Heap) := (bif decide (p9.Ref ≥ 1) then (some (decide (p9.Ref ≤ (p1.L.length : Int)))) else (some false)).bind fun s19 => some (s19, p1)
theorem bonsairef15_Heap_there_spec {K : KM} {p1 : bonsairef15_Heap} {p9 : bonsairef15_Value} {r : (Bool × bonsairef15_Heap)} {b2 : Nat} {a3 : Option Addr} {c4 : Nat} {C7 : Chunks} (hf : bonsairef15_Heap_there.fn p1 p9 = some r) (h5 : OwnD 108 D108 K (.slice a3 p1.L.length c4) p1.L C7) : Sp Try.prog 43 [(.pointer (some ⟨b2, 0, none⟩)), (.agg (vv33 p9).toArray)] K (flat [[(b2, Cl (vv49 p1 a3 c4) 49)], C7]) (fun K' C v => ∃ (a21 : Option Addr) (c22 : Nat) (C_0 : Chunks), v = (.bool r.1) ∧ OwnD 108 D108 K' (.slice a21 r.2.L.length c22) r.2.L C_0 ∧ C = flat [[(b2, Cl (vv49 r.2 a21 c22) 49)], C_0]) := by
  unfold bonsairef15_Heap_there.fn at hf
  refine spec_enter isf43 rfl ?_
  intro w L hS
  replace hS : Sat w K (flat [[(b2, Cl (vv49 p1 a3 c4) 49)], C7, L]) := hS.open
  have hle := KM.le.refl K
  unfold bod43 Try.f43
  dsimp only [Option.getD_some, argSlots]
  refine s_seq (s_reg ?_)
  refine s_bx hS rfl rfl rfl ?_
  intro b11 w hS
  replace hS : Sat w K (flat ([(b11, Cl (vv33 p9) 33)] :: _)) := hS
  refine s_v rfl rfl rfl ?_
  refine s_nil (qn ?_)
  obtain ⟨s19, hst20, hf⟩ := bs hf
  refine s_cut (fun τ w => ∃ (K13 : KM) (C17 : Chunks), τ = [(0, (.pointer (some ⟨b2, 0, none⟩))), (4, (.bool s19))] ∧ KM.le K K13 ∧ OwnD 108 D108 K13 (.slice a3 p1.L.length c4) p1.L C17 ∧ Sat w K13 (flat [[(b2, Cl (vv49 p1 a3 c4) 49)], C17, L])) (fun J hJ => ?_) ?_
  · replace hf := hst20
    refine d_start [0, 1] [] hS ?_
    intro w hS
    refine d_v 0 (fun _ _ _ _ _ h => h) [0, 1] hS rfl rfl rfl (by kernel_rfl) rfl rfl ?_
    refine d_ld 1 0 (fun _ _ _ _ _ h => h) [0, 1] hS rfl rfl rfl rfl rfl (by kernel_rfl) rfl rfl ?_
    refine d_v 2 (fun _ _ _ _ _ h => h) [0, 1] hS rfl rfl rfl (by kernel_rfl) rfl rfl ?_
    refine d_v 3 (fun _ _ _ _ _ h => h) [0, 1] hS rfl rfl rfl (by kernel_rfl) rfl rfl ?_
    cases hc : (decide (p9.Ref ≥ 1))
    · replace hf := bif_f hc hf
      refine d_no 4 (fun _ _ _ _ _ h => h) [0, 1] hS rfl rfl (by kernel_rfl) rfl rfl ?_
      refine d_no 5 (fun _ _ _ _ _ h => h) [0, 1] hS rfl rfl (by kernel_rfl) rfl rfl ?_
      refine d_no 6 (fun _ _ _ _ _ h => h) [0, 1] hS rfl rfl (by kernel_rfl) rfl rfl ?_
      refine d_no 7 (fun _ _ _ _ _ h => h) [0, 1] hS rfl rfl (by kernel_rfl) rfl rfl ?_
      refine d_no 8 (fun _ _ _ _ _ h => h) [0, 1] hS rfl rfl (by kernel_rfl) rfl rfl ?_
      refine d_no 9 (fun _ _ _ _ _ h => h) [0, 1] hS rfl rfl (by kernel_rfl) rfl rfl ?_
      refine d_no 10 (fun _ _ _ _ _ h => h) [0, 1] hS rfl rfl (by kernel_rfl) rfl rfl ?_
      refine d_no 11 (fun _ _ _ _ _ h => h) [0, 1] hS rfl rfl (by kernel_rfl) rfl rfl ?_
      refine d_v 12 (fun _ _ _ _ _ h => h) [0, 1] hS rfl rfl rfl (by kernel_rfl) rfl rfl ?_
      refine d_v 13 (fun _ _ _ _ _ h => h) [0, 1] hS rfl rfl rfl (by kernel_rfl) rfl rfl ?_
      refine d_end (by kernel_rfl) ?_
      refine qn ?_
      have hq := Option.some.inj hf
      subst hq
      refine s_join hJ _ ⟨K, C7, rfl, hle, h5, (hS.sel [1, 2, 3] rfl)⟩ ⟨rfl, rfl, trivial⟩
    replace hf := bif_t hc hf
    refine d_v 4 (fun _ _ _ _ _ h => h) [0, 1] hS rfl rfl rfl (by kernel_rfl) rfl rfl ?_
    refine d_ld 5 0 (fun _ _ _ _ _ h => h) [0, 1] hS rfl rfl rfl rfl rfl (by kernel_rfl) rfl rfl ?_
    refine d_v 6 (fun _ _ _ _ _ h => h) [0, 1] hS rfl rfl rfl (by kernel_rfl) rfl rfl ?_
    refine d_v 7 (fun _ _ _ _ _ h => h) [0, 1] hS rfl rfl rfl (by kernel_rfl) rfl rfl ?_
    refine d_v 8 (fun _ _ _ _ _ h => h) [0, 1] hS rfl rfl rfl (by kernel_rfl) rfl rfl ?_
    refine d_ld 9 1 (fun _ _ _ _ _ h => h) [0, 1] hS rfl rfl rfl rfl rfl (by kernel_rfl) rfl rfl ?_
    refine d_v 10 (fun _ _ _ _ _ h => h) [0, 1] hS rfl rfl rfl (by kernel_rfl) rfl rfl ?_
    refine d_v 11 (fun _ _ _ _ _ h => h) [0, 1] hS rfl rfl rfl (by kernel_rfl) rfl rfl ?_
    refine d_v 12 (fun _ _ _ _ _ h => h) [0, 1] hS rfl rfl rfl (by kernel_rfl) rfl rfl ?_
    refine d_v 13 (fun _ _ _ _ _ h => h) [0, 1] hS rfl rfl rfl (by kernel_rfl) rfl rfl ?_
    refine d_end (by kernel_rfl) ?_
    refine qn ?_
    have hq := Option.some.inj hf
    subst hq
    refine s_join hJ _ ⟨K, C7, rfl, hle, h5, (hS.sel [1, 2, 3] rfl)⟩ ⟨rfl, rfl, trivial⟩
  rintro _ w ⟨K13, C17, rfl, hle, h14, hS⟩
  refine s_rets ?_
  have hq := Option.some.inj hf
  subst hq
  refine s_ret1 rfl (rv_t rfl) ?_
  exact ⟨K13, _, hle, ⟨a3, c4, C17, rfl, h14, rfl⟩, Sat.shut2 hS⟩
-- 26 (*bonsai/bonsairef15.Heap).Len
def bonsairef15_Heap_Len.fn (p1 : bonsairef15_Heap) (p9 : bonsairef15_Value) : Option (Int × bonsairef15_Heap) := (bonsairef15_Heap_there.fn p1 p9).bind fun x13 => bif !x13.1 then (some (0, x13.2)) else ((idx x13.2.L (w64 (p9.Ref - 1))).bind fun x24 => some ((x24.l_.length : Int), (bonsairef15_Heap.mk x13.2.Most x13.2.Used (x13.2.L.set (w64 (p9.Ref - 1) : Int).toNat x24))))
theorem bonsairef15_Heap_Len_spec {K : KM} {p1 : bonsairef15_Heap} {p9 : bonsairef15_Value} {r : (Int × bonsairef15_Heap)} {b2 : Nat} {a3 : Option Addr} {c4 : Nat} {C7 : Chunks} (hf : bonsairef15_Heap_Len.fn p1 p9 = some r) (h5 : OwnD 108 D108 K (.slice a3 p1.L.length c4) p1.L C7) : Sp Try.prog 26 [(.pointer (some ⟨b2, 0, none⟩)), (.agg (vv33 p9).toArray)] K (flat [[(b2, Cl (vv49 p1 a3 c4) 49)], C7]) (fun K' C v => ∃ (a47 : Option Addr) (c48 : Nat) (C_0 : Chunks), v = (.int .i64 r.1) ∧ OwnD 108 D108 K' (.slice a47 r.2.L.length c48) r.2.L C_0 ∧ C = flat [[(b2, Cl (vv49 r.2 a47 c48) 49)], C_0]) := by
  unfold bonsairef15_Heap_Len.fn at hf
  refine spec_enter isf26 rfl ?_
  intro w L hS
  replace hS : Sat w K (flat [[(b2, Cl (vv49 p1 a3 c4) 49)], C7, L]) := hS.open
  have hle := KM.le.refl K
  unfold bod26 Try.f26
  dsimp only [Option.getD_some, argSlots]
  refine s_seq (s_reg ?_)
  refine s_bx hS rfl rfl rfl ?_
  intro b11 w hS
  replace hS : Sat w K (flat ([(b11, Cl (vv33 p9) 33)] :: _)) := hS
  refine s_v rfl rfl rfl ?_
  refine s_nil (qn (s_seq (s_seq (s_reg ?_))))
  refine s_v rfl rfl rfl ?_
  refine s_ld (v := (.agg (vv33 p9).toArray)) 0 hS rfl rfl rfl rfl rfl ?_
  obtain ⟨x13, hx14, hf⟩ := bs hf
  refine s_call isf43 (Sat.shut2 (hS.sel [1, 2, 0, 3] rfl)) (bonsairef15_Heap_there_spec hx14 h5) rfl rfl rfl ?_
  rintro _ K15 _ w hk16 ⟨a18, c19, C22, rfl, h20, rfl⟩ hS
  replace hS := hS.open2
  refine s_v rfl rfl rfl ?_
  refine s_nil (qn ?_)
  refine s_if rfl (fun hc => ?_) (fun hc => ?_)
  · replace hf := bif_t hc hf
    refine s_seq (s_reg ?_)
    refine s_v rfl rfl rfl ?_
    refine s_nil (qn ?_)
    replace hS : Sat w K15 (flat [_, _, _]) := (hS.sel [0, 1, 3] rfl)
    refine s_rets (qrt ?_)
    have hq := Option.some.inj hf
    subst hq
    refine s_ret1 rfl (rv_t rfl) ?_
    replace hle := hle.trans hk16
    exact ⟨K15, _, hle, ⟨a18, c19, C22, rfl, h20, rfl⟩, Sat.shut2 hS⟩
  replace hf := bif_f hc hf
  refine s_skip (qn (s_seq ?_))
  obtain ⟨x24, hx25, hf⟩ := bs hf
  obtain ⟨b26, l27, _, l29, C30, C31, ⟨a34, c35, rfl, h36⟩, hfo32, hS, hun33⟩ := ix_foc (hS.sel [1, 0, 2, 3] rfl) h20 hx25
  have hq39 := KM.le.refl K15
  replace hS : Sat w _ (flat [_, _, _, _, _, _]) := hS
  refine d_start [0, 3, 4] [] hS ?_
  intro w hS
  refine d_v 0 (fun _ _ _ _ _ h => h) [0, 3, 4] hS rfl rfl rfl (by kernel_rfl) rfl rfl ?_
  refine d_v 1 (fun _ _ _ _ _ h => h) [0, 3, 4] hS rfl rfl rfl (by kernel_rfl) rfl rfl ?_
  refine d_v 2 (fun _ _ _ _ _ h => h) [0, 3, 4] hS rfl rfl rfl (by kernel_rfl) rfl rfl ?_
  refine d_ld 3 1 (fun _ _ _ _ _ h => h) [0, 3, 4] hS rfl rfl rfl rfl rfl (by kernel_rfl) rfl rfl ?_
  refine d_v 4 (fun _ _ _ _ _ h => h) [0, 3, 4] hS rfl rfl rfl (by kernel_rfl) rfl rfl ?_
  refine d_ld 5 2 (fun _ _ _ _ _ h => h) [0, 3, 4] hS rfl rfl rfl rfl rfl (by kernel_rfl) rfl rfl ?_
  refine d_v 6 (fun _ _ _ _ _ h => h) [0, 3, 4] hS rfl rfl rfl (by kernel_rfl) rfl rfl ?_
  refine d_ixf 7 (fun _ _ _ _ _ h => h) [0, 3, 4] hS hfo32 rfl rfl rfl rfl rfl rfl rfl (by kernel_rfl) rfl rfl ?_
  refine d_v 8 (fun _ _ _ _ _ h => h) [0, 3, 4] hS rfl rfl rfl (by kernel_rfl) rfl rfl ?_
  refine d_ldm 9 0 1 (fun _ _ _ _ _ h => h) [0, 3, 4] hS rfl rfl rfl rfl rfl (by kernel_rfl) rfl rfl ?_
  refine d_v 10 (fun _ _ _ _ _ h => h) [0, 3, 4] hS rfl rfl rfl (by kernel_rfl) rfl rfl ?_
  refine d_v 11 (fun _ _ _ _ _ h => h) [0, 3, 4] hS rfl rfl rfl (by kernel_rfl) rfl rfl ?_
  refine d_end (by kernel_rfl) ?_
  refine qn ?_
  replace hS : Sat w K15 (flat [_, _, _, _, _]) := (hS.sel [0, 1, 2, 3, 5] rfl)
  refine s_rets ?_
  have h43 := hun33 K15 _ _ _ hq39 (show D108.rep K15 x24 (vv108 x24 a34 c35) _ from ⟨a34, c35, rfl, h36⟩)
  replace hS := Sat.join3 (hS.sel [0, 1, 2, 3, 4] rfl)
  generalize hCg_ : ([(b26, Cl (l27 ++ (((vv108 x24 a34 c35) : List Value) ++ l29)) 108)] ++ (C30 ++ C31) : Chunks) = C44 at hS h43
  clear hCg_
  have hl45 := OwnD.len h43
  replace hS : Sat w _ (flat [_, _, _]) := hS
  have h46 := OwnD.norm h43
  replace hS : Sat w K15 (flat [C44, [(b2, Cl [(.int .i64 x13.2.Most), (.int .i64 x13.2.Used), (.slice a18 ((x13.2.L.set (w64 (p9.Ref - 1) : Int).toNat x24).length) c19)] 49)], L]) := by rw [hl45]; exact hS
  have hq := Option.some.inj hf
  subst hq
  refine s_ret1 rfl (rv_t rfl) ?_
  replace hle := hle.trans hk16
  exact ⟨K15, _, hle, ⟨a18, c19, C44, rfl, h46, rfl⟩, Sat.shut2 (hS.sel [1, 0, 2] rfl)⟩
-- 28 (*bonsai/bonsairef15.Heap).Class
def bonsairef15_Heap_Class.fn (p1 : bonsairef15_Heap) (p9 : bonsairef15_Value) : Option (ByteArray × bonsairef15_Heap) := (bonsairef15_Heap_there.fn p1 p9).bind fun x13 => bif !x13.1 then (some ((⟨#[]⟩ : ByteArray), x13.2)) else ((idx x13.2.L (w64 (p9.Ref - 1))).bind fun x24 => some (x24.class_, (bonsairef15_Heap.mk x13.2.Most x13.2.Used (x13.2.L.set (w64 (p9.Ref - 1) : Int).toNat x24))))
theorem bonsairef15_Heap_Class_spec {K : KM} {p1 : bonsairef15_Heap} {p9 : bonsairef15_Value} {r : (ByteArray × bonsairef15_Heap)} {b2 : Nat} {a3 : Option Addr} {c4 : Nat} {C7 : Chunks} (hf : bonsairef15_Heap_Class.fn p1 p9 = some r) (h5 : OwnD 108 D108 K (.slice a3 p1.L.length c4) p1.L C7) : Sp Try.prog 28 [(.pointer (some ⟨b2, 0, none⟩)), (.agg (vv33 p9).toArray)] K (flat [[(b2, Cl (vv49 p1 a3 c4) 49)], C7]) (fun K' C v => ∃ (a47 : Option Addr) (c48 : Nat) (C_0 : Chunks), v = (.string r.1) ∧ OwnD 108 D108 K' (.slice a47 r.2.L.length c48) r.2.L C_0 ∧ C = flat [[(b2, Cl (vv49 r.2 a47 c48) 49)], C_0]) := by
  unfold bonsairef15_Heap_Class.fn at hf
  refine spec_enter isf28 rfl ?_
  intro w L hS
  replace hS : Sat w K (flat [[(b2, Cl (vv49 p1 a3 c4) 49)], C7, L]) := hS.open
  have hle := KM.le.refl K
  unfold bod28 Try.f28
  dsimp only [Option.getD_some, argSlots]
  refine s_seq (s_reg ?_)
  refine s_bx hS rfl rfl rfl ?_
  intro b11 w hS
  replace hS : Sat w K (flat ([(b11, Cl (vv33 p9) 33)] :: _)) := hS
  refine s_v rfl rfl rfl ?_
  refine s_nil (qn (s_seq (s_seq (s_reg ?_))))
  refine s_v rfl rfl rfl ?_
  refine s_ld (v := (.agg (vv33 p9).toArray)) 0 hS rfl rfl rfl rfl rfl ?_
  obtain ⟨x13, hx14, hf⟩ := bs hf
  refine s_call isf43 (Sat.shut2 (hS.sel [1, 2, 0, 3] rfl)) (bonsairef15_Heap_there_spec hx14 h5) rfl rfl rfl ?_
  rintro _ K15 _ w hk16 ⟨a18, c19, C22, rfl, h20, rfl⟩ hS
  replace hS := hS.open2
  refine s_v rfl rfl rfl ?_
  refine s_nil (qn ?_)
  refine s_if rfl (fun hc => ?_) (fun hc => ?_)
  · replace hf := bif_t hc hf
    refine s_seq (s_reg ?_)
    refine s_v rfl rfl rfl ?_
    refine s_nil (qn ?_)
    replace hS : Sat w K15 (flat [_, _, _]) := (hS.sel [0, 1, 3] rfl)
    refine s_rets (qrt ?_)
    have hq := Option.some.inj hf
    subst hq
    refine s_ret1 rfl (rv_t rfl) ?_
    replace hle := hle.trans hk16
    exact ⟨K15, _, hle, ⟨a18, c19, C22, rfl, h20, rfl⟩, Sat.shut2 hS⟩
  replace hf := bif_f hc hf
  refine s_skip (qn (s_seq ?_))
  obtain ⟨x24, hx25, hf⟩ := bs hf
  obtain ⟨b26, l27, _, l29, C30, C31, ⟨a34, c35, rfl, h36⟩, hfo32, hS, hun33⟩ := ix_foc (hS.sel [1, 0, 2, 3] rfl) h20 hx25
  have hq39 := KM.le.refl K15
  replace hS : Sat w _ (flat [_, _, _, _, _, _]) := hS
  refine d_start [0, 3, 4] [] hS ?_
  intro w hS
  refine d_v 0 (fun _ _ _ _ _ h => h) [0, 3, 4] hS rfl rfl rfl (by kernel_rfl) rfl rfl ?_
  refine d_v 1 (fun _ _ _ _ _ h => h) [0, 3, 4] hS rfl rfl rfl (by kernel_rfl) rfl rfl ?_
  refine d_v 2 (fun _ _ _ _ _ h => h) [0, 3, 4] hS rfl rfl rfl (by kernel_rfl) rfl rfl ?_
  refine d_ld 3 1 (fun _ _ _ _ _ h => h) [0, 3, 4] hS rfl rfl rfl rfl rfl (by kernel_rfl) rfl rfl ?_
  refine d_v 4 (fun _ _ _ _ _ h => h) [0, 3, 4] hS rfl rfl rfl (by kernel_rfl) rfl rfl ?_
  refine d_ld 5 2 (fun _ _ _ _ _ h => h) [0, 3, 4] hS rfl rfl rfl rfl rfl (by kernel_rfl) rfl rfl ?_
  refine d_v 6 (fun _ _ _ _ _ h => h) [0, 3, 4] hS rfl rfl rfl (by kernel_rfl) rfl rfl ?_
  refine d_ixf 7 (fun _ _ _ _ _ h => h) [0, 3, 4] hS hfo32 rfl rfl rfl rfl rfl rfl rfl (by kernel_rfl) rfl rfl ?_
  refine d_v 8 (fun _ _ _ _ _ h => h) [0, 3, 4] hS rfl rfl rfl (by kernel_rfl) rfl rfl ?_
  refine d_ldm 9 0 0 (fun _ _ _ _ _ h => h) [0, 3, 4] hS rfl rfl rfl rfl rfl (by kernel_rfl) rfl rfl ?_
  refine d_v 10 (fun _ _ _ _ _ h => h) [0, 3, 4] hS rfl rfl rfl (by kernel_rfl) rfl rfl ?_
  refine d_end (by kernel_rfl) ?_
  refine qn ?_
  replace hS : Sat w K15 (flat [_, _, _, _, _]) := (hS.sel [0, 1, 2, 3, 5] rfl)
  refine s_rets ?_
  have h43 := hun33 K15 _ _ _ hq39 (show D108.rep K15 x24 (vv108 x24 a34 c35) _ from ⟨a34, c35, rfl, h36⟩)
  replace hS := Sat.join3 (hS.sel [0, 1, 2, 3, 4] rfl)
  generalize hCg_ : ([(b26, Cl (l27 ++ (((vv108 x24 a34 c35) : List Value) ++ l29)) 108)] ++ (C30 ++ C31) : Chunks) = C44 at hS h43
  clear hCg_
  have hl45 := OwnD.len h43
  replace hS : Sat w _ (flat [_, _, _]) := hS
  have h46 := OwnD.norm h43
  replace hS : Sat w K15 (flat [C44, [(b2, Cl [(.int .i64 x13.2.Most), (.int .i64 x13.2.Used), (.slice a18 ((x13.2.L.set (w64 (p9.Ref - 1) : Int).toNat x24).length) c19)] 49)], L]) := by rw [hl45]; exact hS
  have hq := Option.some.inj hf
  subst hq
  refine s_ret1 rfl (rv_t rfl) ?_
  replace hle := hle.trans hk16
  exact ⟨K15, _, hle, ⟨a18, c19, C44, rfl, h46, rfl⟩, Sat.shut2 (hS.sel [1, 0, 2] rfl)⟩
-- 23 (*bonsai/bonsairef15.Heap).Get
def bonsairef15_Heap_Get.fn (p1 : bonsairef15_Heap) (p9 : bonsairef15_Value) (p10 : Int) : Option (bonsairef15_Value × Bool × bonsairef15_Heap) := (bif decide (p10 < 0) then (some (p1.Most, p1.Used, p1.L, true)) else ((bonsairef15_Heap_Len.fn p1 p9).bind fun x35 => some (x35.2.Most, x35.2.Used, x35.2.L, decide (p10 ≥ x35.1)))).bind fun s33 => bif s33.2.2.2 then (some ((bonsairef15_Value.mk 0 ByteArray.empty 0), false, (bonsairef15_Heap.mk s33.1 s33.2.1 s33.2.2.1))) else ((idx s33.2.2.1 (w64 (p9.Ref - 1))).bind fun x46 => (idx x46.l_ p10).bind fun x83 => some (x83, true, (bonsairef15_Heap.mk s33.1 s33.2.1 (s33.2.2.1.set (w64 (p9.Ref - 1) : Int).toNat x46))))
theorem bonsairef15_Heap_Get_spec {K : KM} {p1 : bonsairef15_Heap} {p9 : bonsairef15_Value} {p10 : Int} {r : (bonsairef15_Value × Bool × bonsairef15_Heap)} {b2 : Nat} {a3 : Option Addr} {c4 : Nat} {C7 : Chunks} (hf : bonsairef15_Heap_Get.fn p1 p9 p10 = some r) (h5 : OwnD 108 D108 K (.slice a3 p1.L.length c4) p1.L C7) : Sp Try.prog 23 [(.pointer (some ⟨b2, 0, none⟩)), (.agg (vv33 p9).toArray), (.int .i64 p10)] K (flat [[(b2, Cl (vv49 p1 a3 c4) 49)], C7]) (fun K' C v => ∃ (a97 : Option Addr) (c98 : Nat) (C_0 : Chunks), v = (.tuple #[(.agg (vv33 r.1).toArray), (.bool r.2.1)]) ∧ OwnD 108 D108 K' (.slice a97 r.2.2.L.length c98) r.2.2.L C_0 ∧ C = flat [[(b2, Cl (vv49 r.2.2 a97 c98) 49)], C_0]) := by
  unfold bonsairef15_Heap_Get.fn at hf
  refine spec_enter isf23 rfl ?_
  intro w L hS
  replace hS : Sat w K (flat [[(b2, Cl (vv49 p1 a3 c4) 49)], C7, L]) := hS.open
  have hle := KM.le.refl K
  unfold bod23 Try.f23
  dsimp only [Option.getD_some, argSlots]
  refine s_seq (s_reg ?_)
  refine s_bx hS rfl rfl rfl ?_
  intro b12 w hS
  replace hS : Sat w K (flat ([(b12, Cl (vv33 p9) 33)] :: _)) := hS
  refine s_al hS rfl rfl rfl ?_
  intro b14 w hS
  replace hS : Sat w K (flat ([(b14, Cl [(.int .i32 0), (.string ByteArray.empty), (.int .i64 0)] 33)] :: _)) := hS
  refine s_v rfl rfl rfl ?_
  refine s_nil (qn (s_seq (s_seq (s_reg ?_))))
  iterate 3 refine s_v rfl rfl rfl ?_
  obtain ⟨s33, hst34, hf⟩ := bs hf
  refine r_cut [_, _, _, _, _, _] (fun τ w => ∃ (K27 : KM) (a29 : Option Addr) (c30 : Nat) (C31 : Chunks), τ = [(0, (.pointer (some ⟨b2, 0, none⟩))), (2, (.int .i64 p10)), (4, (.pointer (some ⟨b12, 0, none⟩))), (6, (.pointer (some ⟨b14, 0, none⟩))), (16, (.bool s33.2.2.2))] ∧ KM.le K K27 ∧ OwnD 108 D108 K27 (.slice a29 s33.2.2.1.length c30) s33.2.2.1 C31 ∧ Sat w K27 (flat [[(b2, Cl [(.int .i64 s33.1), (.int .i64 s33.2.1), (.slice a29 s33.2.2.1.length c30)] 49)], C31, [(b12, Cl (vv33 p9) 33)], [(b14, Cl [(.int .i32 0), (.string ByteArray.empty), (.int .i64 0)] 33)], L])) rfl (fun J hJ => ?_) ?_
  · replace hf := hst34
    cases hc : (decide (p10 < 0))
    · replace hf := bif_f hc hf
      iterate 2 refine s_v rfl rfl rfl ?_
      refine s_ld (v := (.agg (vv33 p9).toArray)) 1 hS rfl rfl rfl rfl rfl ?_
      obtain ⟨x35, hx36, hf⟩ := bs hf
      refine s_call isf26 (Sat.shut2 (hS.sel [2, 3, 0, 1, 4] rfl)) (bonsairef15_Heap_Len_spec hx36 h5) rfl rfl rfl ?_
      rintro _ K37 _ w hk38 ⟨a40, c41, C44, rfl, h42, rfl⟩ hS
      replace hS := hS.open2
      iterate 2 refine s_v rfl rfl rfl ?_
      have hq := Option.some.inj hf
      subst hq
      replace hle := hle.trans hk38
      refine r_join hJ _ ⟨K37, a40, c41, C44, rfl, hle, h42, (hS.sel [0, 1, 3, 2, 4] rfl)⟩ ⟨rfl, rfl, rfl, rfl, rfl, trivial⟩
    replace hf := bif_t hc hf
    refine s_no rfl rfl ?_
    refine s_no rfl rfl ?_
    refine s_no rfl rfl ?_
    refine s_no rfl rfl ?_
    refine s_no rfl rfl ?_
    refine s_v rfl rfl rfl ?_
    have hq := Option.some.inj hf
    subst hq
    refine r_join hJ _ ⟨K, a3, c4, C7, rfl, hle, h5, (hS.sel [2, 3, 1, 0, 4] rfl)⟩ ⟨rfl, rfl, rfl, rfl, rfl, trivial⟩
  rintro _ w ⟨K27, a29, c30, C31, rfl, hle, h28, hS⟩
  refine s_nil (qn ?_)
  refine s_if rfl (fun hc => ?_) (fun hc => ?_)
  · replace hf := bif_t hc hf
    refine s_seq (s_reg ?_)
    refine s_v (v := (.agg #[(.int .i32 0), (.string ByteArray.empty), (.int .i64 0)])) rfl rfl rfl ?_
    refine s_st (cs' := [(.int .i32 0), (.string ByteArray.empty), (.int .i64 0)]) 3 hS rfl rfl rfl rfl rfl ?_
    intro w hS
    replace hS : Sat w _ (flat [_, _, _, _, _]) := hS
    refine s_v rfl rfl rfl ?_
    refine s_nil (qn ?_)
    replace hS : Sat w K27 (flat [_, _, _, _]) := (hS.sel [0, 1, 3, 4] rfl)
    refine s_rets (qrt ?_)
    have hq := Option.some.inj hf
    subst hq
    refine s_ret2 rfl (rv_c (v := (.agg #[(.int .i32 0), (.string ByteArray.empty), (.int .i64 0)])) 2 hS rfl rfl rfl) (rv_t rfl) ?_
    exact ⟨K27, _, hle, ⟨a29, c30, C31, rfl, h28, rfl⟩, Sat.shut2 (hS.sel [0, 1, 3] rfl)⟩
  replace hf := bif_f hc hf
  refine s_skip (qn (s_seq ?_))
  obtain ⟨x46, hx47, hf⟩ := bs hf
  obtain ⟨b48, l49, _, l51, C52, C53, ⟨a56, c57, rfl, h58⟩, hfo54, hS, hun55⟩ := ix_foc (hS.sel [1, 0, 2, 3, 4] rfl) h28 hx47
  have hq61 := KM.le.refl K27
  replace hS : Sat w _ (flat [_, _, _, _, _, _, _]) := hS
  refine d_start [0, 1, 3, 4] [] hS ?_
  intro w hS
  refine d_v 0 (fun _ _ _ _ _ h => h) [0, 1, 3, 4] hS rfl rfl rfl (by kernel_rfl) rfl rfl ?_
  refine d_v 1 (fun _ _ _ _ _ h => h) [0, 1, 3, 4] hS rfl rfl rfl (by kernel_rfl) rfl rfl ?_
  refine d_v 2 (fun _ _ _ _ _ h => h) [0, 1, 3, 4] hS rfl rfl rfl (by kernel_rfl) rfl rfl ?_
  refine d_ld 3 2 (fun _ _ _ _ _ h => h) [0, 1, 3, 4] hS rfl rfl rfl rfl rfl (by kernel_rfl) rfl rfl ?_
  refine d_v 4 (fun _ _ _ _ _ h => h) [0, 1, 3, 4] hS rfl rfl rfl (by kernel_rfl) rfl rfl ?_
  refine d_ld 5 3 (fun _ _ _ _ _ h => h) [0, 1, 3, 4] hS rfl rfl rfl rfl rfl (by kernel_rfl) rfl rfl ?_
  refine d_v 6 (fun _ _ _ _ _ h => h) [0, 1, 3, 4] hS rfl rfl rfl (by kernel_rfl) rfl rfl ?_
  refine d_ixf 7 (fun _ _ _ _ _ h => h) [0, 1, 3, 4] hS hfo54 rfl rfl rfl rfl rfl rfl rfl (by kernel_rfl) rfl rfl ?_
  refine d_v 8 (fun _ _ _ _ _ h => h) [0, 1, 3, 4] hS rfl rfl rfl (by kernel_rfl) rfl rfl ?_
  refine d_ldm 9 0 1 (fun _ _ _ _ _ h => h) [0, 1, 3, 4] hS rfl rfl rfl rfl rfl (by kernel_rfl) rfl rfl ?_
  refine d_v 10 (fun _ _ _ _ _ h => h) [0, 1, 3, 4] hS rfl rfl rfl (by kernel_rfl) rfl rfl ?_
  obtain ⟨x83, hx84, hf⟩ := bs hf
  refine d_ixo 11 1 (fun _ _ _ _ _ h => h) [0, 1, 3, 4] hS rfl h58 hx84 rfl rfl rfl rfl rfl rfl rfl (by kernel_rfl) rfl rfl ?_
  intro b85 l86 cs89 l87 hcs_ hC90 hun88
  obtain rfl := hcs_
  subst hC90
  have hq91 := KM.le.refl K27
  refine d_ldm (v := (.agg (vv33 x83).toArray)) 12 1 0 (fun _ _ _ _ _ h => h) [0, 1, 3, 4] hS rfl rfl rfl rfl rfl (by kernel_rfl) rfl rfl ?_
  refine d_op 13 rfl (by kernel_rfl) (by kernel_rfl) (fun X hX => ?_)
  have hlq := KM.le.refl K27
  refine s_st (cs' := (vv33 x83)) 5 hS rfl rfl rfl rfl rfl ?_
  intro w hS
  replace hS : Sat w _ (flat [_, _, _, _, _, _, _]) := hS
  refine d_go [0, 1, 3, 4] [0, 1, 3, 4] [] [] hX hS hlq rfl rfl trivial ?_
  refine d_v 14 (fun _ _ _ _ _ h => h) [0, 1, 3, 4] hS rfl rfl rfl (by kernel_rfl) rfl rfl ?_
  refine d_end (by kernel_rfl) ?_
  refine qn ?_
  replace hS : Sat w K27 (flat [_, _, _, _, _, _]) := (hS.sel [0, 1, 2, 3, 5, 6] rfl)
  refine s_rets ?_
  generalize hCg_ : ([(b85, Cl (l86 ++ (((vv33 x83) : List Value) ++ l87)) 33)] : Chunks) = C92 at hS h58
  clear hCg_
  have h93 := hun55 K27 _ _ _ hq61 (show D108.rep K27 x46 (vv108 x46 a56 c57) _ from ⟨a56, c57, rfl, h58⟩)
  replace hS := Sat.join3 (hS.sel [0, 1, 2, 3, 4, 5] rfl)
  generalize hCg_ : ([(b48, Cl (l49 ++ (((vv108 x46 a56 c57) : List Value) ++ l51)) 108)] ++ (C92 ++ C53) : Chunks) = C94 at hS h93
  clear hCg_
  have hl95 := OwnD.len h93
  replace hS : Sat w _ (flat [_, _, _, _]) := hS
  have h96 := OwnD.norm h93
  replace hS : Sat w K27 (flat [C94, [(b2, Cl [(.int .i64 s33.1), (.int .i64 s33.2.1), (.slice a29 ((s33.2.2.1.set (w64 (p9.Ref - 1) : Int).toNat x46).length) c30)] 49)], [(b14, Cl (vv33 x83) 33)], L]) := by rw [hl95]; exact hS
  have hq := Option.some.inj hf
  subst hq
  refine s_ret2 rfl (rv_c (v := (.agg (vv33 x83).toArray)) 2 hS rfl rfl rfl) (rv_t rfl) ?_
  exact ⟨K27, _, hle, ⟨a29, c30, C94, rfl, h96, rfl⟩, Sat.shut2 (hS.sel [1, 0, 3] rfl)⟩
-- 21 (*bonsai/bonsairef15.Heap).Put
def bonsairef15_Heap_Put.fn (p1 : bonsairef15_Heap) (p9 : bonsairef15_Value) (p10 : Int) (p11 : bonsairef15_Value) : Option (Bool × bonsairef15_Heap) := (bif decide (p10 < 0) then (some (p1.Most, p1.Used, p1.L, true)) else ((bonsairef15_Heap_Len.fn p1 p9).bind fun x36 => some (x36.2.Most, x36.2.Used, x36.2.L, decide (p10 ≥ x36.1)))).bind fun s34 => bif s34.2.2.2 then (some (false, (bonsairef15_Heap.mk s34.1 s34.2.1 s34.2.2.1))) else ((idx s34.2.2.1 (w64 (p9.Ref - 1))).bind fun x47 => (idx x47.l_ p10).bind fun x86 => some (true, (bonsairef15_Heap.mk s34.1 s34.2.1 (s34.2.2.1.set (w64 (p9.Ref - 1) : Int).toNat (bonsairef15_thing.mk x47.class_ (x47.l_.set (p10 : Int).toNat p11))))))
theorem bonsairef15_Heap_Put_spec {K : KM} {p1 : bonsairef15_Heap} {p9 : bonsairef15_Value} {p10 : Int} {p11 : bonsairef15_Value} {r : (Bool × bonsairef15_Heap)} {b2 : Nat} {a3 : Option Addr} {c4 : Nat} {C7 : Chunks} (hf : bonsairef15_Heap_Put.fn p1 p9 p10 p11 = some r) (h5 : OwnD 108 D108 K (.slice a3 p1.L.length c4) p1.L C7) : Sp Try.prog 21 [(.pointer (some ⟨b2, 0, none⟩)), (.agg (vv33 p9).toArray), (.int .i64 p10), (.agg (vv33 p11).toArray)] K (flat [[(b2, Cl (vv49 p1 a3 c4) 49)], C7]) (fun K' C v => ∃ (a102 : Option Addr) (c103 : Nat) (C_0 : Chunks), v = (.bool r.1) ∧ OwnD 108 D108 K' (.slice a102 r.2.L.length c103) r.2.L C_0 ∧ C = flat [[(b2, Cl (vv49 r.2 a102 c103) 49)], C_0]) := by
  unfold bonsairef15_Heap_Put.fn at hf
  refine spec_enter isf21 rfl ?_
  intro w L hS
  replace hS : Sat w K (flat [[(b2, Cl (vv49 p1 a3 c4) 49)], C7, L]) := hS.open
  have hle := KM.le.refl K
  unfold bod21 Try.f21
  dsimp only [Option.getD_some, argSlots]
  refine s_seq (s_reg ?_)
  refine s_bx hS rfl rfl rfl ?_
  intro b13 w hS
  replace hS : Sat w K (flat ([(b13, Cl (vv33 p9) 33)] :: _)) := hS
  refine s_bx hS rfl rfl rfl ?_
  intro b15 w hS
  replace hS : Sat w K (flat ([(b15, Cl (vv33 p11) 33)] :: _)) := hS
  refine s_v rfl rfl rfl ?_
  refine s_nil (qn (s_seq (s_seq (s_reg ?_))))
  iterate 3 refine s_v rfl rfl rfl ?_
  obtain ⟨s34, hst35, hf⟩ := bs hf
  refine r_cut [_, _, _, _, _, _] (fun τ w => ∃ (K28 : KM) (a30 : Option Addr) (c31 : Nat) (C32 : Chunks), τ = [(0, (.pointer (some ⟨b2, 0, none⟩))), (2, (.int .i64 p10)), (5, (.pointer (some ⟨b13, 0, none⟩))), (7, (.pointer (some ⟨b15, 0, none⟩))), (17, (.bool s34.2.2.2))] ∧ KM.le K K28 ∧ OwnD 108 D108 K28 (.slice a30 s34.2.2.1.length c31) s34.2.2.1 C32 ∧ Sat w K28 (flat [[(b2, Cl [(.int .i64 s34.1), (.int .i64 s34.2.1), (.slice a30 s34.2.2.1.length c31)] 49)], C32, [(b13, Cl (vv33 p9) 33)], [(b15, Cl (vv33 p11) 33)], L])) rfl (fun J hJ => ?_) ?_
  · replace hf := hst35
    cases hc : (decide (p10 < 0))
    · replace hf := bif_f hc hf
      iterate 2 refine s_v rfl rfl rfl ?_
      refine s_ld (v := (.agg (vv33 p9).toArray)) 1 hS rfl rfl rfl rfl rfl ?_
      obtain ⟨x36, hx37, hf⟩ := bs hf
      refine s_call isf26 (Sat.shut2 (hS.sel [2, 3, 0, 1, 4] rfl)) (bonsairef15_Heap_Len_spec hx37 h5) rfl rfl rfl ?_
      rintro _ K38 _ w hk39 ⟨a41, c42, C45, rfl, h43, rfl⟩ hS
      replace hS := hS.open2
      iterate 2 refine s_v rfl rfl rfl ?_
      have hq := Option.some.inj hf
      subst hq
      replace hle := hle.trans hk39
      refine r_join hJ _ ⟨K38, a41, c42, C45, rfl, hle, h43, (hS.sel [0, 1, 3, 2, 4] rfl)⟩ ⟨rfl, rfl, rfl, rfl, rfl, trivial⟩
    replace hf := bif_t hc hf
    refine s_no rfl rfl ?_
    refine s_no rfl rfl ?_
    refine s_no rfl rfl ?_
    refine s_no rfl rfl ?_
    refine s_no rfl rfl ?_
    refine s_v rfl rfl rfl ?_
    have hq := Option.some.inj hf
    subst hq
    refine r_join hJ _ ⟨K, a3, c4, C7, rfl, hle, h5, (hS.sel [2, 3, 1, 0, 4] rfl)⟩ ⟨rfl, rfl, rfl, rfl, rfl, trivial⟩
  rintro _ w ⟨K28, a30, c31, C32, rfl, hle, h29, hS⟩
  refine s_nil (qn ?_)
  refine s_if rfl (fun hc => ?_) (fun hc => ?_)
  · replace hf := bif_t hc hf
    refine s_seq (s_reg ?_)
    refine s_v rfl rfl rfl ?_
    refine s_nil (qn ?_)
    replace hS : Sat w K28 (flat [_, _, _]) := (hS.sel [0, 1, 4] rfl)
    refine s_rets (qrt ?_)
    have hq := Option.some.inj hf
    subst hq
    refine s_ret1 rfl (rv_t rfl) ?_
    exact ⟨K28, _, hle, ⟨a30, c31, C32, rfl, h29, rfl⟩, Sat.shut2 hS⟩
  replace hf := bif_f hc hf
  refine s_skip (qn (s_seq ?_))
  obtain ⟨x47, hx48, hf⟩ := bs hf
  obtain ⟨b49, l50, _, l52, C53, C54, ⟨a57, c58, rfl, h59⟩, hfo55, hS, hun56⟩ := ix_foc (hS.sel [1, 0, 2, 3, 4] rfl) h29 hx48
  have hq62 := KM.le.refl K28
  replace hS : Sat w _ (flat [_, _, _, _, _, _, _]) := hS
  refine d_start [3, 4, 5] [(13, [0]), (13, [1])] hS ?_
  intro w hS
  refine d_v 0 (fun _ _ _ _ _ h => h) [3, 4, 5] hS rfl rfl rfl (by kernel_rfl) rfl rfl ?_
  refine d_v 1 (fun _ _ _ _ _ h => h) [3, 4, 5] hS rfl rfl rfl (by kernel_rfl) rfl rfl ?_
  refine d_v 2 (fun _ _ _ _ _ h => h) [3, 4, 5] hS rfl rfl rfl (by kernel_rfl) rfl rfl ?_
  refine d_ld 3 0 (fun _ _ _ _ _ h => h) [3, 4, 5] hS rfl rfl rfl rfl rfl (by kernel_rfl) rfl rfl ?_
  refine d_v 4 (fun _ _ _ _ _ h => h) [3, 4, 5] hS rfl rfl rfl (by kernel_rfl) rfl rfl ?_
  refine d_ld 5 1 (fun _ _ _ _ _ h => h) [3, 4, 5] hS rfl rfl rfl rfl rfl (by kernel_rfl) rfl rfl ?_
  refine d_v 6 (fun _ _ _ _ _ h => h) [3, 4, 5] hS rfl rfl rfl (by kernel_rfl) rfl rfl ?_
  refine d_ixf 7 (fun _ _ _ _ _ h => h) [3, 4, 5] hS hfo55 rfl rfl rfl rfl rfl rfl rfl (by kernel_rfl) rfl rfl ?_
  refine d_v 8 (fun _ _ _ _ _ h => h) [3, 4, 5] hS rfl rfl rfl (by kernel_rfl) rfl rfl ?_
  refine d_ldmh 9 0 1 (fun _ _ _ _ _ h => h) [3, 4, 5] hS rfl rfl rfl (by kernel_rfl) rfl rfl (by kernel_rfl) rfl rfl ?_
  refine d_v 10 (fun _ _ _ _ _ h => h) [3, 4, 5] hS rfl rfl rfl (by kernel_rfl) rfl rfl ?_
  refine d_ld (v := (.agg (vv33 p11).toArray)) 11 2 (fun _ _ _ _ _ h => h) [3, 4, 5] hS rfl rfl rfl rfl rfl (by kernel_rfl) rfl rfl ?_
  obtain ⟨x86, hx87, hf⟩ := bs hf
  refine d_ixo 12 1 (fun _ _ _ _ _ h => h) [3, 4, 5] hS rfl h59 hx87 rfl rfl rfl rfl rfl rfl rfl (by kernel_rfl) rfl rfl ?_
  intro b88 l89 cs92 l90 hcs_ hC93 hun91
  obtain rfl := hcs_
  subst hC93
  have hq94 := KM.le.refl K28
  refine d_op 13 rfl (by kernel_rfl) (by kernel_rfl) (fun X hX => ?_)
  have hlq := KM.le.refl K28
  refine s_stm (cs' := (vv33 p11)) 1 0 hS rfl rfl rfl rfl rfl ?_
  intro w hS
  replace hS : Sat w _ (flat [_, _, _, _, _, _, _]) := hS
  have h95 := hun91 K28 _ _ hq94 (show GoData.cells 33 _ p11 _ from rfl)
  have hl96 := OwnS.len h95
  refine d_go [3, 4, 5] [0, 1, 3, 4, 5] [] [none, none] hX hS hlq rfl rfl ⟨rfl, rfl, trivial⟩ ?_
  refine d_end (by kernel_rfl) ?_
  refine qn ?_
  replace hS : Sat w K28 (flat [_, _, _, _, _]) := (hS.sel [0, 1, 2, 3, 6] rfl)
  refine s_seq (s_reg ?_)
  refine s_v rfl rfl rfl ?_
  refine s_nil (qn (s_rets ?_))
  generalize hCg_ : ([(b88, Cl (l89 ++ (((vv33 p11) : List Value) ++ l90)) 33)] : Chunks) = C97 at hS h95
  clear hCg_
  have h98 := hun56 K28 _ _ _ hq62 (show D108.rep K28 (bonsairef15_thing.mk x47.class_ (x47.l_.set (p10 : Int).toNat p11)) [(.string x47.class_), (.slice a57 x47.l_.length c58)] _ from ⟨a57, c58, (by rw [hl96]), (OwnS.norm h95)⟩)
  replace hS := Sat.join3 (hS.sel [0, 1, 2, 3, 4] rfl)
  generalize hCg_ : ([(b49, Cl (l50 ++ (([(.string x47.class_), (.slice a57 x47.l_.length c58)] : List Value) ++ l52)) 108)] ++ (C97 ++ C54) : Chunks) = C99 at hS h98
  clear hCg_
  have hl100 := OwnD.len h98
  replace hS : Sat w _ (flat [_, _, _]) := hS
  have h101 := OwnD.norm h98
  replace hS : Sat w K28 (flat [C99, [(b2, Cl [(.int .i64 s34.1), (.int .i64 s34.2.1), (.slice a30 ((s34.2.2.1.set (w64 (p9.Ref - 1) : Int).toNat (bonsairef15_thing.mk x47.class_ (x47.l_.set (p10 : Int).toNat p11))).length) c31)] 49)], L]) := by rw [hl100]; exact hS
  have hq := Option.some.inj hf
  subst hq
  refine s_ret1 rfl (rv_t rfl) ?_
  exact ⟨K28, _, hle, ⟨a30, c31, C99, rfl, h101, rfl⟩, Sat.shut2 (hS.sel [1, 0, 2] rfl)⟩
-- 40 (*bonsai/heap.Heap).add
def heap_Heap_add.fn (p1 : heap_Heap) (p9 : ByteArray) (p10 : Int) : Option (heap_Value × Bool × heap_Heap) := bif decide (p10 ≥ (w64 (p1.most_ - p1.used_))) then (some ((heap_Value.mk 0 ByteArray.empty 0), false, p1)) else (guardB (mayMake p10 32) (guardB (roomy p1.l_.length 1 40) (some ((heap_Value.mk 0 ByteArray.empty ((p1.l_ ++ ([(heap_thing.mk p9 (List.replicate p10.toNat (GoZero.zero 32 (α := heap_Value))))] : List heap_thing)).length : Int)), true, (heap_Heap.mk (p1.l_ ++ ([(heap_thing.mk p9 (List.replicate p10.toNat (GoZero.zero 32 (α := heap_Value))))] : List heap_thing)) (w64 (p1.used_ + (w64 (p10 + 1)))) p1.most_)))))
theorem heap_Heap_add_spec {K : KM} {p1 : heap_Heap} {p9 : ByteArray} {p10 : Int} {r : (heap_Value × Bool × heap_Heap)} {b2 : Nat} {a3 : Option Addr} {c4 : Nat} {C7 : Chunks} (hf : heap_Heap_add.fn p1 p9 p10 = some r) (h5 : OwnD 105 D105 K (.slice a3 p1.l_.length c4) p1.l_ C7) : Sp Try.prog 40 [(.pointer (some ⟨b2, 0, none⟩)), (.string p9), (.int .i64 p10)] K (flat [[(b2, Cl (vv100 p1 a3 c4) 100)], C7]) (fun K' C v => ∃ (a40 : Option Addr) (c41 : Nat) (C_0 : Chunks), v = (.tuple #[(.agg (vv32 r.1).toArray), (.bool r.2.1)]) ∧ OwnD 105 D105 K' (.slice a40 r.2.2.l_.length c41) r.2.2.l_ C_0 ∧ C = flat [[(b2, Cl (vv100 r.2.2 a40 c41) 100)], C_0]) := by
  unfold heap_Heap_add.fn at hf
  refine spec_enter isf40 rfl ?_
  intro w L hS
  replace hS : Sat w K (flat [[(b2, Cl (vv100 p1 a3 c4) 100)], C7, L]) := hS.open
  have hle := KM.le.refl K
  unfold bod40 Try.f40
  dsimp only [Option.getD_some, argSlots]
  refine s_seq (s_reg ?_)
  refine s_al hS rfl rfl rfl ?_
  intro b12 w hS
  replace hS : Sat w K (flat ([(b12, Cl [(.int .i32 0), (.string ByteArray.empty), (.int .i64 0)] 32)] :: _)) := hS
  refine s_v rfl rfl rfl ?_
  refine s_nil (qn (s_seq (s_seq ?_)))
  refine d_start [1] [] hS ?_
  intro w hS
  refine d_v 0 (fun _ _ _ _ _ h => h) [1] hS rfl rfl rfl (by kernel_rfl) rfl rfl ?_
  refine d_v 1 (fun _ _ _ _ _ h => h) [1] hS rfl rfl rfl (by kernel_rfl) rfl rfl ?_
  refine d_v 2 (fun _ _ _ _ _ h => h) [1] hS rfl rfl rfl (by kernel_rfl) rfl rfl ?_
  refine d_v 3 (fun _ _ _ _ _ h => h) [1] hS rfl rfl rfl (by kernel_rfl) rfl rfl ?_
  refine d_ld 4 0 (fun _ _ _ _ _ h => h) [1] hS rfl rfl rfl rfl rfl (by kernel_rfl) rfl rfl ?_
  refine d_v 5 (fun _ _ _ _ _ h => h) [1] hS rfl rfl rfl (by kernel_rfl) rfl rfl ?_
  refine d_v 6 (fun _ _ _ _ _ h => h) [1] hS rfl rfl rfl (by kernel_rfl) rfl rfl ?_
  refine d_v 7 (fun _ _ _ _ _ h => h) [1] hS rfl rfl rfl (by kernel_rfl) rfl rfl ?_
  refine d_ld 8 0 (fun _ _ _ _ _ h => h) [1] hS rfl rfl rfl rfl rfl (by kernel_rfl) rfl rfl ?_
  refine d_v 9 (fun _ _ _ _ _ h => h) [1] hS rfl rfl rfl (by kernel_rfl) rfl rfl ?_
  refine d_v 10 (fun _ _ _ _ _ h => h) [1] hS rfl rfl rfl (by kernel_rfl) rfl rfl ?_
  refine d_end (by kernel_rfl) ?_
  refine qn ?_
  refine s_if rfl (fun hc => ?_) (fun hc => ?_)
  · replace hf := bif_t hc hf
    refine s_seq (s_reg ?_)
    refine s_v (v := (.agg #[(.int .i32 0), (.string ByteArray.empty), (.int .i64 0)])) rfl rfl rfl ?_
    refine s_st (cs' := [(.int .i32 0), (.string ByteArray.empty), (.int .i64 0)]) 0 hS rfl rfl rfl rfl rfl ?_
    intro w hS
    replace hS : Sat w _ (flat [_, _, _, _]) := hS
    refine s_v rfl rfl rfl ?_
    refine s_nil (qn (s_rets (qrt ?_)))
    have hq := Option.some.inj hf
    subst hq
    refine s_ret2 rfl (rv_c (v := (.agg #[(.int .i32 0), (.string ByteArray.empty), (.int .i64 0)])) 0 hS rfl rfl rfl) (rv_t rfl) ?_
    exact ⟨K, _, hle, ⟨a3, c4, C7, rfl, h5, rfl⟩, Sat.shut2 (hS.sel [1, 2, 3] rfl)⟩
  replace hf := bif_f hc hf
  refine s_skip (qn (s_seq (s_reg ?_)))
  iterate 3 refine s_v rfl rfl rfl ?_
  refine s_ld 1 hS rfl rfl rfl rfl rfl ?_
  iterate 5 refine s_v rfl rfl rfl ?_
  refine s_st (cs' := [(.slice a3 p1.l_.length c4), (.int .i64 (w64 (p1.used_ + (w64 (p10 + 1))))), (.int .i64 p1.most_)]) 1 hS rfl rfl rfl rfl rfl ?_
  intro w hS
  replace hS : Sat w _ (flat [_, _, _, _]) := hS
  refine s_nil (qn (s_seq ?_))
  refine d_start [] [(13, [1])] hS ?_
  intro w hS
  refine d_v 0 (fun _ _ _ _ _ h => h) [] hS rfl rfl rfl (by kernel_rfl) rfl rfl ?_
  refine d_v 1 (fun _ _ _ _ _ h => h) [] hS rfl rfl rfl (by kernel_rfl) rfl rfl ?_
  refine d_v 2 (fun _ _ _ _ _ h => h) [] hS rfl rfl rfl (by kernel_rfl) rfl rfl ?_
  refine d_v 3 (fun _ _ _ _ _ h => h) [] hS rfl rfl rfl (by kernel_rfl) rfl rfl ?_
  refine d_ldh 4 0 (fun _ _ _ _ _ h => h) [] hS rfl rfl rfl (by kernel_rfl) rfl rfl (by kernel_rfl) rfl rfl ?_
  refine d_v 5 (fun _ _ _ _ _ h => h) [] hS rfl rfl rfl (by kernel_rfl) rfl rfl ?_
  refine d_v 6 (fun _ _ _ _ _ h => h) [] hS rfl rfl rfl (by kernel_rfl) rfl rfl ?_
  refine d_op 7 rfl (by kernel_rfl) (by kernel_rfl) (fun X hX => ?_)
  have hlq := KM.le.refl K
  obtain ⟨hm27, hf⟩ := gs hf
  refine s_mks (e := 32) (α := heap_Value) hS rfl rfl rfl rfl (mayMake_le hm27).1 (mayMake_le hm27).2 rfl rfl rfl rfl rfl rfl ?_
  intro a28 c29 w C30 h31 hS
  refine d_go [] [] [(13, [2])] [some 0] hX hS hlq rfl rfl ⟨rfl, trivial⟩ ?_
  refine d_v (v := (.agg #[(.string p9), (.slice a28 ((List.replicate p10.toNat (GoZero.zero 32 (α := heap_Value))).length) c29)])) 8 (fun _ _ _ _ _ h => h) [] hS rfl rfl rfl (by kernel_rfl) rfl rfl ?_
  refine d_op 9 rfl (by kernel_rfl) (by kernel_rfl) (fun X hX => ?_)
  have hlq := KM.le.refl K
  refine s_bwc (cs := [(.string p9), (.slice a28 ((List.replicate p10.toNat (GoZero.zero 32 (α := heap_Value))).length) c29)]) hS rfl rfl rfl rfl rfl rfl rfl rfl rfl rfl ?_
  intro b33 w hS
  refine d_go [] [] [(13, [3])] [some 0] hX hS hlq rfl rfl ⟨rfl, trivial⟩ ?_
  refine d_op 10 rfl (by kernel_rfl) (by kernel_rfl) (fun X hX => ?_)
  have hlq := KM.le.refl K
  obtain ⟨hm35, hf⟩ := gs hf
  refine s_appx (e := 105) (D := D105) (ys := ([(heap_thing.mk p9 (List.replicate p10.toNat (GoZero.zero 32 (α := heap_Value))))] : List heap_thing)) 0 (hS.sel [4, 1, 0, 2, 3, 5] rfl) h5 rfl ⟨[(.string p9), (.slice a28 ((List.replicate p10.toNat (GoZero.zero 32 (α := heap_Value))).length) c29)], [], _, [], rfl, (List.append_nil _).symm, ⟨a28, c29, rfl, h31⟩, ⟨rfl, rfl⟩⟩ rfl rfl rfl rfl rfl rfl rfl rfl (roomy_le hm35) rfl rfl rfl ?_
  intro a36 c37 w C38 h39 hS
  replace hS : Sat w _ (flat [_, _, _, _, _]) := hS
  refine d_go [] [] [(13, [3])] [some 0] hX hS hlq rfl rfl ⟨rfl, trivial⟩ ?_
  refine d_v 11 (fun _ _ _ _ _ h => h) [] hS rfl rfl rfl (by kernel_rfl) rfl rfl ?_
  refine d_v 12 (fun _ _ _ _ _ h => h) [] hS rfl rfl rfl (by kernel_rfl) rfl rfl ?_
  refine d_op 13 rfl (by kernel_rfl) (by kernel_rfl) (fun X hX => ?_)
  have hlq := KM.le.refl K
  refine s_st (cs' := [(.slice a36 ((p1.l_ ++ ([(heap_thing.mk p9 (List.replicate p10.toNat (GoZero.zero 32 (α := heap_Value))))] : List heap_thing)).length) c37), (.int .i64 (w64 (p1.used_ + (w64 (p10 + 1))))), (.int .i64 p1.most_)]) 3 hS rfl rfl rfl rfl rfl ?_
  intro w hS
  replace hS : Sat w _ (flat [_, _, _, _, _]) := hS
  refine d_go [] [3] [] [none] hX hS hlq rfl rfl ⟨rfl, trivial⟩ ?_
  refine d_end (by kernel_rfl) ?_
  refine qn ?_
  replace hS : Sat w K (flat [_, _, _, _]) := (hS.sel [0, 2, 3, 4] rfl)
  refine s_seq (s_reg ?_)
  iterate 3 refine s_v rfl rfl rfl ?_
  refine s_ld 2 hS rfl rfl rfl rfl rfl ?_
  refine s_v rfl rfl rfl ?_
  refine s_v (v := (.agg #[(.int .i32 0), (.string ByteArray.empty), (.int .i64 ((p1.l_ ++ ([(heap_thing.mk p9 (List.replicate p10.toNat (GoZero.zero 32 (α := heap_Value))))] : List heap_thing)).length : Int))])) rfl rfl rfl ?_
  refine s_st (cs' := [(.int .i32 0), (.string ByteArray.empty), (.int .i64 ((p1.l_ ++ ([(heap_thing.mk p9 (List.replicate p10.toNat (GoZero.zero 32 (α := heap_Value))))] : List heap_thing)).length : Int))]) 1 hS rfl rfl rfl rfl rfl ?_
  intro w hS
  replace hS : Sat w _ (flat [_, _, _, _]) := hS
  refine s_v rfl rfl rfl ?_
  refine s_nil (qn (s_rets ?_))
  have hq := Option.some.inj hf
  subst hq
  refine s_ret2 rfl (rv_c (v := (.agg #[(.int .i32 0), (.string ByteArray.empty), (.int .i64 ((p1.l_ ++ ([(heap_thing.mk p9 (List.replicate p10.toNat (GoZero.zero 32 (α := heap_Value))))] : List heap_thing)).length : Int))])) 1 hS rfl rfl rfl) (rv_t rfl) ?_
  exact ⟨K, _, hle, ⟨a36, c37, C38, rfl, h39, rfl⟩, Sat.shut2 (hS.sel [2, 0, 3] rfl)⟩
-- 41 (*bonsai/bonsairef15.Heap).take
def bonsairef15_Heap_take.fn (p1 : bonsairef15_Heap) (p9 : ByteArray) (p10 : Int) : Option (bonsairef15_Value × Bool × bonsairef15_Heap) := bif decide (p10 ≥ (w64 (p1.Most - p1.Used))) then (some ((bonsairef15_Value.mk 0 ByteArray.empty 0), false, p1)) else (guardB (mayMake p10 32) (guardB (roomy p1.L.length 1 40) (some ((bonsairef15_Value.mk 0 ByteArray.empty ((p1.L ++ ([(bonsairef15_thing.mk p9 (List.replicate p10.toNat (GoZero.zero 33 (α := bonsairef15_Value))))] : List bonsairef15_thing)).length : Int)), true, (bonsairef15_Heap.mk p1.Most (w64 (p1.Used + (w64 (p10 + 1)))) (p1.L ++ ([(bonsairef15_thing.mk p9 (List.replicate p10.toNat (GoZero.zero 33 (α := bonsairef15_Value))))] : List bonsairef15_thing)))))))
theorem bonsairef15_Heap_take_spec {K : KM} {p1 : bonsairef15_Heap} {p9 : ByteArray} {p10 : Int} {r : (bonsairef15_Value × Bool × bonsairef15_Heap)} {b2 : Nat} {a3 : Option Addr} {c4 : Nat} {C7 : Chunks} (hf : bonsairef15_Heap_take.fn p1 p9 p10 = some r) (h5 : OwnD 108 D108 K (.slice a3 p1.L.length c4) p1.L C7) : Sp Try.prog 41 [(.pointer (some ⟨b2, 0, none⟩)), (.string p9), (.int .i64 p10)] K (flat [[(b2, Cl (vv49 p1 a3 c4) 49)], C7]) (fun K' C v => ∃ (a40 : Option Addr) (c41 : Nat) (C_0 : Chunks), v = (.tuple #[(.agg (vv33 r.1).toArray), (.bool r.2.1)]) ∧ OwnD 108 D108 K' (.slice a40 r.2.2.L.length c41) r.2.2.L C_0 ∧ C = flat [[(b2, Cl (vv49 r.2.2 a40 c41) 49)], C_0]) := by
  unfold bonsairef15_Heap_take.fn at hf
  refine spec_enter isf41 rfl ?_
  intro w L hS
  replace hS : Sat w K (flat [[(b2, Cl (vv49 p1 a3 c4) 49)], C7, L]) := hS.open
  have hle := KM.le.refl K
  unfold bod41 Try.f41
  dsimp only [Option.getD_some, argSlots]
  refine s_seq (s_reg ?_)
  refine s_al hS rfl rfl rfl ?_
  intro b12 w hS
  replace hS : Sat w K (flat ([(b12, Cl [(.int .i32 0), (.string ByteArray.empty), (.int .i64 0)] 33)] :: _)) := hS
  refine s_v rfl rfl rfl ?_
  refine s_nil (qn (s_seq (s_seq ?_)))
  refine d_start [1] [] hS ?_
  intro w hS
  refine d_v 0 (fun _ _ _ _ _ h => h) [1] hS rfl rfl rfl (by kernel_rfl) rfl rfl ?_
  refine d_v 1 (fun _ _ _ _ _ h => h) [1] hS rfl rfl rfl (by kernel_rfl) rfl rfl ?_
  refine d_v 2 (fun _ _ _ _ _ h => h) [1] hS rfl rfl rfl (by kernel_rfl) rfl rfl ?_
  refine d_v 3 (fun _ _ _ _ _ h => h) [1] hS rfl rfl rfl (by kernel_rfl) rfl rfl ?_
  refine d_ld 4 0 (fun _ _ _ _ _ h => h) [1] hS rfl rfl rfl rfl rfl (by kernel_rfl) rfl rfl ?_
  refine d_v 5 (fun _ _ _ _ _ h => h) [1] hS rfl rfl rfl (by kernel_rfl) rfl rfl ?_
  refine d_v 6 (fun _ _ _ _ _ h => h) [1] hS rfl rfl rfl (by kernel_rfl) rfl rfl ?_
  refine d_v 7 (fun _ _ _ _ _ h => h) [1] hS rfl rfl rfl (by kernel_rfl) rfl rfl ?_
  refine d_ld 8 0 (fun _ _ _ _ _ h => h) [1] hS rfl rfl rfl rfl rfl (by kernel_rfl) rfl rfl ?_
  refine d_v 9 (fun _ _ _ _ _ h => h) [1] hS rfl rfl rfl (by kernel_rfl) rfl rfl ?_
  refine d_v 10 (fun _ _ _ _ _ h => h) [1] hS rfl rfl rfl (by kernel_rfl) rfl rfl ?_
  refine d_end (by kernel_rfl) ?_
  refine qn ?_
  refine s_if rfl (fun hc => ?_) (fun hc => ?_)
  · replace hf := bif_t hc hf
    refine s_seq (s_reg ?_)
    refine s_v (v := (.agg #[(.int .i32 0), (.string ByteArray.empty), (.int .i64 0)])) rfl rfl rfl ?_
    refine s_st (cs' := [(.int .i32 0), (.string ByteArray.empty), (.int .i64 0)]) 0 hS rfl rfl rfl rfl rfl ?_
    intro w hS
    replace hS : Sat w _ (flat [_, _, _, _]) := hS
    refine s_v rfl rfl rfl ?_
    refine s_nil (qn (s_rets (qrt ?_)))
    have hq := Option.some.inj hf
    subst hq
    refine s_ret2 rfl (rv_c (v := (.agg #[(.int .i32 0), (.string ByteArray.empty), (.int .i64 0)])) 0 hS rfl rfl rfl) (rv_t rfl) ?_
    exact ⟨K, _, hle, ⟨a3, c4, C7, rfl, h5, rfl⟩, Sat.shut2 (hS.sel [1, 2, 3] rfl)⟩
  replace hf := bif_f hc hf
  refine s_skip (qn (s_seq (s_reg ?_)))
  iterate 3 refine s_v rfl rfl rfl ?_
  refine s_ld 1 hS rfl rfl rfl rfl rfl ?_
  iterate 5 refine s_v rfl rfl rfl ?_
  refine s_st (cs' := [(.int .i64 p1.Most), (.int .i64 (w64 (p1.Used + (w64 (p10 + 1))))), (.slice a3 p1.L.length c4)]) 1 hS rfl rfl rfl rfl rfl ?_
  intro w hS
  replace hS : Sat w _ (flat [_, _, _, _]) := hS
  refine s_nil (qn (s_seq ?_))
  refine d_start [] [(13, [1])] hS ?_
  intro w hS
  refine d_v 0 (fun _ _ _ _ _ h => h) [] hS rfl rfl rfl (by kernel_rfl) rfl rfl ?_
  refine d_v 1 (fun _ _ _ _ _ h => h) [] hS rfl rfl rfl (by kernel_rfl) rfl rfl ?_
  refine d_v 2 (fun _ _ _ _ _ h => h) [] hS rfl rfl rfl (by kernel_rfl) rfl rfl ?_
  refine d_v 3 (fun _ _ _ _ _ h => h) [] hS rfl rfl rfl (by kernel_rfl) rfl rfl ?_
  refine d_ldh 4 0 (fun _ _ _ _ _ h => h) [] hS rfl rfl rfl (by kernel_rfl) rfl rfl (by kernel_rfl) rfl rfl ?_
  refine d_v 5 (fun _ _ _ _ _ h => h) [] hS rfl rfl rfl (by kernel_rfl) rfl rfl ?_
  refine d_v 6 (fun _ _ _ _ _ h => h) [] hS rfl rfl rfl (by kernel_rfl) rfl rfl ?_
  refine d_op 7 rfl (by kernel_rfl) (by kernel_rfl) (fun X hX => ?_)
  have hlq := KM.le.refl K
  obtain ⟨hm27, hf⟩ := gs hf
  refine s_mks (e := 33) (α := bonsairef15_Value) hS rfl rfl rfl rfl (mayMake_le hm27).1 (mayMake_le hm27).2 rfl rfl rfl rfl rfl rfl ?_
  intro a28 c29 w C30 h31 hS
  refine d_go [] [] [(13, [2])] [some 0] hX hS hlq rfl rfl ⟨rfl, trivial⟩ ?_
  refine d_v (v := (.agg #[(.string p9), (.slice a28 ((List.replicate p10.toNat (GoZero.zero 33 (α := bonsairef15_Value))).length) c29)])) 8 (fun _ _ _ _ _ h => h) [] hS rfl rfl rfl (by kernel_rfl) rfl rfl ?_
  refine d_op 9 rfl (by kernel_rfl) (by kernel_rfl) (fun X hX => ?_)
  have hlq := KM.le.refl K
  refine s_bwc (cs := [(.string p9), (.slice a28 ((List.replicate p10.toNat (GoZero.zero 33 (α := bonsairef15_Value))).length) c29)]) hS rfl rfl rfl rfl rfl rfl rfl rfl rfl rfl ?_
  intro b33 w hS
  refine d_go [] [] [(13, [3])] [some 0] hX hS hlq rfl rfl ⟨rfl, trivial⟩ ?_
  refine d_op 10 rfl (by kernel_rfl) (by kernel_rfl) (fun X hX => ?_)
  have hlq := KM.le.refl K
  obtain ⟨hm35, hf⟩ := gs hf
  refine s_appx (e := 108) (D := D108) (ys := ([(bonsairef15_thing.mk p9 (List.replicate p10.toNat (GoZero.zero 33 (α := bonsairef15_Value))))] : List bonsairef15_thing)) 0 (hS.sel [4, 1, 0, 2, 3, 5] rfl) h5 rfl ⟨[(.string p9), (.slice a28 ((List.replicate p10.toNat (GoZero.zero 33 (α := bonsairef15_Value))).length) c29)], [], _, [], rfl, (List.append_nil _).symm, ⟨a28, c29, rfl, h31⟩, ⟨rfl, rfl⟩⟩ rfl rfl rfl rfl rfl rfl rfl rfl (roomy_le hm35) rfl rfl rfl ?_
  intro a36 c37 w C38 h39 hS
  replace hS : Sat w _ (flat [_, _, _, _, _]) := hS
  refine d_go [] [] [(13, [3])] [some 0] hX hS hlq rfl rfl ⟨rfl, trivial⟩ ?_
  refine d_v 11 (fun _ _ _ _ _ h => h) [] hS rfl rfl rfl (by kernel_rfl) rfl rfl ?_
  refine d_v 12 (fun _ _ _ _ _ h => h) [] hS rfl rfl rfl (by kernel_rfl) rfl rfl ?_
  refine d_op 13 rfl (by kernel_rfl) (by kernel_rfl) (fun X hX => ?_)
  have hlq := KM.le.refl K
  refine s_st (cs' := [(.int .i64 p1.Most), (.int .i64 (w64 (p1.Used + (w64 (p10 + 1))))), (.slice a36 ((p1.L ++ ([(bonsairef15_thing.mk p9 (List.replicate p10.toNat (GoZero.zero 33 (α := bonsairef15_Value))))] : List bonsairef15_thing)).length) c37)]) 3 hS rfl rfl rfl rfl rfl ?_
  intro w hS
  replace hS : Sat w _ (flat [_, _, _, _, _]) := hS
  refine d_go [] [3] [] [none] hX hS hlq rfl rfl ⟨rfl, trivial⟩ ?_
  refine d_end (by kernel_rfl) ?_
  refine qn ?_
  replace hS : Sat w K (flat [_, _, _, _]) := (hS.sel [0, 2, 3, 4] rfl)
  refine s_seq (s_reg ?_)
  iterate 3 refine s_v rfl rfl rfl ?_
  refine s_ld 2 hS rfl rfl rfl rfl rfl ?_
  refine s_v rfl rfl rfl ?_
  refine s_v (v := (.agg #[(.int .i32 0), (.string ByteArray.empty), (.int .i64 ((p1.L ++ ([(bonsairef15_thing.mk p9 (List.replicate p10.toNat (GoZero.zero 33 (α := bonsairef15_Value))))] : List bonsairef15_thing)).length : Int))])) rfl rfl rfl ?_
  refine s_st (cs' := [(.int .i32 0), (.string ByteArray.empty), (.int .i64 ((p1.L ++ ([(bonsairef15_thing.mk p9 (List.replicate p10.toNat (GoZero.zero 33 (α := bonsairef15_Value))))] : List bonsairef15_thing)).length : Int))]) 1 hS rfl rfl rfl rfl rfl ?_
  intro w hS
  replace hS : Sat w _ (flat [_, _, _, _]) := hS
  refine s_v rfl rfl rfl ?_
  refine s_nil (qn (s_rets ?_))
  have hq := Option.some.inj hf
  subst hq
  refine s_ret2 rfl (rv_c (v := (.agg #[(.int .i32 0), (.string ByteArray.empty), (.int .i64 ((p1.L ++ ([(bonsairef15_thing.mk p9 (List.replicate p10.toNat (GoZero.zero 33 (α := bonsairef15_Value))))] : List bonsairef15_thing)).length : Int))])) 1 hS rfl rfl rfl) (rv_t rfl) ?_
  exact ⟨K, _, hle, ⟨a36, c37, C38, rfl, h39, rfl⟩, Sat.shut2 (hS.sel [2, 0, 3] rfl)⟩
end Go.Proofs.Ytgaldjnnfkdohaa
