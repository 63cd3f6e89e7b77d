/- heap.Class, heap.Len: what a value refers to, asked. -/
import Derived.Test.YtgaldjnnfkdohaaHc
set_option linter.unusedVariables false
set_option linter.unusedSimpArgs false
set_option maxHeartbeats 0
set_option maxRecDepth 100000
namespace Go.Proofs.Ytgaldjnnfkdohaa
open Go Go.Fw
noncomputable def bod27 : Code := Try.f27.body.getD .skip
theorem isf27 : IsFn Try.prog 27 Try.f27 bod27 := ⟨Try.func27, rfl, by decide⟩
noncomputable def bod25 : Code := Try.f25.body.getD .skip
theorem isf25 : IsFn Try.prog 25 Try.f25 bod25 := ⟨Try.func25, rfl, by decide⟩
def heap_Heap_Class.fn (p1 : heap_Heap) (p9 : heap_Value) : Option (ByteArray × heap_Heap) := (heap_Heap_of.fn p1 p9).bind fun x => some (x.class_, heap_Heap_of.put p1 p9 x)
theorem heap_Heap_Class_spec {K : KM} {p1 : heap_Heap} {p9 : heap_Value} {r : (ByteArray × heap_Heap)} {b2 : Nat} {a3 : Option Addr} {c4 : Nat} {C7 : Chunks} (hf : heap_Heap_Class.fn p1 p9 = some r) (h5 : OwnD 105 D105 K (.slice a3 p1.l_.length c4) p1.l_ C7) : Sp Try.prog 27 [(.pointer (some ⟨b2, 0, none⟩)), (.agg (vv32 p9).toArray)] K (flat [[(b2, Cl (vv100 p1 a3 c4) 100)], C7]) (fun K' C v => ∃ (a47 : Option Addr) (c48 : Nat) (C_0 : Chunks), v = (.string r.1) ∧ OwnD 105 D105 K' (.slice a47 r.2.l_.length c48) r.2.l_ C_0 ∧ C = flat [[(b2, Cl (vv100 r.2 a47 c48) 100)], C_0]) := by
  unfold heap_Heap_Class.fn at hf
  refine spec_enter isf27 rfl ?_
  intro w L hS
  replace hS : Sat w K (flat [[(b2, Cl (vv100 p1 a3 c4) 100)], C7, L]) := hS.open
  have hle := KM.le.refl K
  unfold bod27 Try.f27
  dsimp only [Option.getD_some, argSlots]
  refine s_seq (s_reg ?_)
  refine s_bx hS rfl rfl rfl ?_
  intro b11 w hS
  replace hS : Sat w K (flat ([(b11, Cl (vv32 p9) 32)] :: _)) := hS
  refine s_v rfl rfl rfl ?_
  refine s_nil (qn (s_seq (s_reg ?_)))
  refine s_v rfl rfl rfl ?_
  refine s_ld (v := (.agg (vv32 p9).toArray)) 0 hS rfl rfl rfl rfl rfl ?_
  obtain ⟨x13, hx14, hf⟩ := bs hf
  refine s_call isf42 (Sat.shut2 (hS.sel [1, 2, 0, 3] rfl)) (heap_Heap_of_spec hx14 h5) rfl rfl rfl ?_
  rintro _ K15 _ w hk16 ⟨bb, l1, l2, a, c, Ce, Cr, rfl, h, rfl, hb⟩ hS
  replace hS := hS.open3
  refine s_v rfl rfl rfl ?_
  refine s_v rfl rfl rfl ?_
  refine s_ldm 0 0 hS rfl rfl rfl rfl rfl ?_
  refine s_v rfl rfl rfl ?_
  refine s_nil (qn ?_)
  refine s_rets ?_
  obtain ⟨a1, c1, D, E, h1, hp⟩ := hb K15 x13 a c Ce (.refl _) h
  have hq := Option.some.inj hf
  subst hq
  refine s_ret1 rfl (rv_t rfl) ?_
  exact ⟨K15, _, hle.trans hk16, ⟨a1, c1, D, rfl, h1, rfl⟩, Sat.shut2 ((hS.back hp).sel [0, 1, 3] rfl)⟩
def heap_Heap_Len.fn (p1 : heap_Heap) (p9 : heap_Value) : Option (Int × heap_Heap) := (heap_Heap_of.fn p1 p9).bind fun x => some ((x.values_.length : Int), heap_Heap_of.put p1 p9 x)
theorem heap_Heap_Len_spec {K : KM} {p1 : heap_Heap} {p9 : heap_Value} {r : (Int × heap_Heap)} {b2 : Nat} {a3 : Option Addr} {c4 : Nat} {C7 : Chunks} (hf : heap_Heap_Len.fn p1 p9 = some r) (h5 : OwnD 105 D105 K (.slice a3 p1.l_.length c4) p1.l_ C7) : Sp Try.prog 25 [(.pointer (some ⟨b2, 0, none⟩)), (.agg (vv32 p9).toArray)] K (flat [[(b2, Cl (vv100 p1 a3 c4) 100)], C7]) (fun K' C v => ∃ (a47 : Option Addr) (c48 : Nat) (C_0 : Chunks), v = (.int .i64 r.1) ∧ OwnD 105 D105 K' (.slice a47 r.2.l_.length c48) r.2.l_ C_0 ∧ C = flat [[(b2, Cl (vv100 r.2 a47 c48) 100)], C_0]) := by
  unfold heap_Heap_Len.fn at hf
  refine spec_enter isf25 rfl ?_
  intro w L hS
  replace hS : Sat w K (flat [[(b2, Cl (vv100 p1 a3 c4) 100)], C7, L]) := hS.open
  have hle := KM.le.refl K
  unfold bod25 Try.f25
  dsimp only [Option.getD_some, argSlots]
  refine s_seq (s_reg ?_)
  refine s_bx hS rfl rfl rfl ?_
  intro b11 w hS
  replace hS : Sat w K (flat ([(b11, Cl (vv32 p9) 32)] :: _)) := hS
  refine s_v rfl rfl rfl ?_
  refine s_nil (qn (s_seq (s_reg ?_)))
  refine s_v rfl rfl rfl ?_
  refine s_ld (v := (.agg (vv32 p9).toArray)) 0 hS rfl rfl rfl rfl rfl ?_
  obtain ⟨x13, hx14, hf⟩ := bs hf
  refine s_call isf42 (Sat.shut2 (hS.sel [1, 2, 0, 3] rfl)) (heap_Heap_of_spec hx14 h5) rfl rfl rfl ?_
  rintro _ K15 _ w hk16 ⟨bb, l1, l2, a, c, Ce, Cr, rfl, h, rfl, hb⟩ hS
  replace hS := hS.open3
  refine s_v rfl rfl rfl ?_
  refine s_v rfl rfl rfl ?_
  refine s_ldm 0 1 hS rfl rfl rfl rfl rfl ?_
  refine s_v rfl rfl rfl ?_
  refine s_v rfl rfl rfl ?_
  refine s_nil (qn ?_)
  refine s_rets ?_
  obtain ⟨a1, c1, D, E, h1, hp⟩ := hb K15 x13 a c Ce (.refl _) h
  have hq := Option.some.inj hf
  subst hq
  refine s_ret1 rfl (rv_t rfl) ?_
  exact ⟨K15, _, hle.trans hk16, ⟨a1, c1, D, rfl, h1, rfl⟩, Sat.shut2 ((hS.back hp).sel [0, 1, 3] rfl)⟩
end Go.Proofs.Ytgaldjnnfkdohaa
