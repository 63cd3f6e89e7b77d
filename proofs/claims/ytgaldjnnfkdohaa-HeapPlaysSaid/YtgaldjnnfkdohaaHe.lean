/- heap.Get: a value of what a value refers to. -/
import Derived.Test.YtgaldjnnfkdohaaHd
set_option linter.unusedVariables false
set_option linter.unusedSimpArgs false
set_option maxHeartbeats 0
set_option maxRecDepth 100000
namespace Go.Proofs.Ytgaldjnnfkdohaa
open Go Go.Fw
noncomputable def bod22 : Code := Try.f22.body.getD .skip
theorem isf22 : IsFn Try.prog 22 Try.f22 bod22 := ⟨Try.func22, rfl, by decide⟩
def heap_Heap_Get.fn (p1 : heap_Heap) (p9 : heap_Value) (p10 : Int) : Option (heap_Value × Bool × heap_Heap) := (heap_Heap_of.fn p1 p9).bind fun x => (bif decide (p10 < 0) then some true else some (decide (p10 ≥ (x.values_.length : Int)))).bind fun s => bif s then some (heap_Value.mk 0 ByteArray.empty 0, false, heap_Heap_of.put p1 p9 x) else (idx x.values_ p10).bind fun u => some (u, true, heap_Heap_of.put p1 p9 x)
theorem heap_Heap_Get_spec {K : KM} {p1 : heap_Heap} {p9 : heap_Value} {p10 : Int} {r : (heap_Value × Bool × heap_Heap)} {b2 : Nat} {a3 : Option Addr} {c4 : Nat} {C7 : Chunks} (hf : heap_Heap_Get.fn p1 p9 p10 = some r) (h5 : OwnD 105 D105 K (.slice a3 p1.l_.length c4) p1.l_ C7) : Sp Try.prog 22 [(.pointer (some ⟨b2, 0, none⟩)), (.agg (vv32 p9).toArray), (.int .i64 p10)] K (flat [[(b2, Cl (vv100 p1 a3 c4) 100)], C7]) (fun K' C v => ∃ (a47 : Option Addr) (c48 : Nat) (C_0 : Chunks), v = (.tuple #[(.agg (vv32 r.1).toArray), (.bool r.2.1)]) ∧ OwnD 105 D105 K' (.slice a47 r.2.2.l_.length c48) r.2.2.l_ C_0 ∧ C = flat [[(b2, Cl (vv100 r.2.2 a47 c48) 100)], C_0]) := by
  unfold heap_Heap_Get.fn at hf
  refine spec_enter isf22 rfl ?_
  intro w L hS
  replace hS : Sat w K (flat [[(b2, Cl (vv100 p1 a3 c4) 100)], C7, L]) := hS.open
  have hle := KM.le.refl K
  unfold bod22 Try.f22
  dsimp only [Option.getD_some, argSlots]
  refine s_seq (s_reg ?_)
  refine s_bx hS rfl rfl rfl ?_
  intro b11 w hS
  replace hS : Sat w K (flat ([(b11, Cl (vv32 p9) 32)] :: _)) := hS
  refine s_al hS rfl rfl rfl ?_
  intro b12 w hS
  replace hS : Sat w K (flat ([(b12, Cl [(.int .i32 0), (.string ByteArray.empty), (.int .i64 0)] 32)] :: _)) := hS
  refine s_v rfl rfl rfl ?_
  refine s_nil (qn (s_seq (s_reg ?_)))
  refine s_v rfl rfl rfl ?_
  refine s_ld (v := (.agg (vv32 p9).toArray)) 1 hS rfl rfl rfl rfl rfl ?_
  obtain ⟨x13, hx14, hf⟩ := bs hf
  refine s_call isf42 (Sat.shut2 (hS.sel [2, 3, 0, 1, 4] rfl)) (heap_Heap_of_spec hx14 h5) rfl rfl rfl ?_
  rintro _ K15 _ w hk16 ⟨bb, l1, l2, a, c, Ce, Cr, rfl, h, rfl, hb⟩ hS
  replace hS := hS.open3
  replace hS : Sat w _ (flat [_, _, _, _, _, _]) := hS
  refine s_v rfl rfl rfl ?_
  refine s_nil (qn (s_seq (s_seq (s_reg ?_))))
  iterate 3 refine s_v rfl rfl rfl ?_
  obtain ⟨s33, hst34, hf⟩ := bs hf
  refine r_cut [_, _, _, _, _, _, _, _] (fun τ w => τ = [(0, (.pointer (some ⟨b2, 0, none⟩))), (2, (.int .i64 p10)), (6, (.pointer (some ⟨b12, 0, none⟩))), (8, (.pointer (some ⟨bb, l1.length, none⟩))), (22, (.bool s33))] ∧ Sat w K15 (flat [[(bb, Cl (l1 ++ ((vv105 x13 a c : List Value) ++ l2)) 105)], Ce, Cr, [(b12, Cl [(.int .i32 0), (.string ByteArray.empty), (.int .i64 0)] 32)], L])) rfl (fun J hJ => ?_) ?_
  · cases hc : (decide (p10 < 0))
    · replace hst34 := bif_f hc hst34
      iterate 4 refine s_v rfl rfl rfl ?_
      refine s_ldm 0 1 hS rfl rfl rfl rfl rfl ?_
      iterate 3 refine s_v rfl rfl rfl ?_
      have hq := Option.some.inj hst34
      subst hq
      refine r_join hJ _ ⟨rfl, (hS.sel [0, 1, 2, 3, 5] rfl)⟩ ⟨rfl, rfl, rfl, rfl, rfl, trivial⟩
    replace hst34 := bif_t hc hst34
    iterate 7 refine s_no rfl rfl ?_
    refine s_v rfl rfl rfl ?_
    have hq := Option.some.inj hst34
    subst hq
    refine r_join hJ _ ⟨rfl, (hS.sel [0, 1, 2, 3, 5] rfl)⟩ ⟨rfl, rfl, rfl, rfl, rfl, trivial⟩
  rintro _ w ⟨rfl, hS⟩
  refine s_nil (qn ?_)
  refine s_if rfl (fun hc => ?_) (fun hc => ?_)
  · replace hf := bif_t hc hf
    refine s_seq (s_reg ?_)
    refine s_v (v := (.agg #[(.int .i32 0), (.string ByteArray.empty), (.int .i64 0)])) rfl rfl rfl ?_
    refine s_st (cs' := [(.int .i32 0), (.string ByteArray.empty), (.int .i64 0)]) 3 hS rfl rfl rfl rfl rfl ?_
    intro w hS
    replace hS : Sat w _ (flat [_, _, _, _, _]) := hS
    refine s_v rfl rfl rfl ?_
    refine s_nil (qn ?_)
    refine s_rets (qrt ?_)
    obtain ⟨a1, c1, D, E, h1, hp⟩ := hb K15 x13 a c Ce (.refl _) h
    have hq := Option.some.inj hf
    subst hq
    refine s_ret2 rfl (rv_c (v := (.agg #[(.int .i32 0), (.string ByteArray.empty), (.int .i64 0)])) 3 hS rfl rfl rfl) (rv_t rfl) ?_
    exact ⟨K15, _, hle.trans hk16, ⟨a1, c1, D, rfl, h1, rfl⟩, Sat.shut2 ((hS.back hp).sel [0, 1, 3] rfl)⟩
  replace hf := bif_f hc hf
  refine s_skip (qn (s_seq (s_reg ?_)))
  iterate 3 refine s_v rfl rfl rfl ?_
  refine s_ldm 0 1 hS rfl rfl rfl rfl rfl ?_
  refine s_v rfl rfl rfl ?_
  obtain ⟨x83, hx84, hf⟩ := bs hf
  refine s_ixo 1 hS rfl h hx84 rfl rfl rfl rfl rfl rfl rfl ?_
  intro b85 l86 cs89 l87 hcs_ hC90 hun88
  obtain rfl := hcs_
  subst hC90
  refine s_ldm (v := (.agg (vv32 x83).toArray)) 1 0 hS rfl rfl rfl rfl rfl ?_
  refine s_st (cs' := (vv32 x83)) 3 hS rfl rfl rfl rfl rfl ?_
  intro w hS
  replace hS : Sat w _ (flat [_, _, _, _, _]) := hS
  refine s_v rfl rfl rfl ?_
  refine s_nil (qn ?_)
  refine s_rets ?_
  obtain ⟨a1, c1, D, E, h1, hp⟩ := hb K15 x13 a c _ (.refl _) h
  have hq := Option.some.inj hf
  subst hq
  refine s_ret2 rfl (rv_c (v := (.agg (vv32 x83).toArray)) 3 hS rfl rfl rfl) (rv_t rfl) ?_
  exact ⟨K15, _, hle.trans hk16, ⟨a1, c1, D, rfl, h1, rfl⟩, Sat.shut2 ((hS.back hp).sel [0, 1, 3] rfl)⟩
end Go.Proofs.Ytgaldjnnfkdohaa
