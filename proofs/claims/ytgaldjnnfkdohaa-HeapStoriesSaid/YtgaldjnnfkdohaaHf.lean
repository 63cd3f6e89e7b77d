/- heap.Put: a value of what a value refers to is set. -/
import Derived.Test.YtgaldjnnfkdohaaHe
set_option linter.unusedVariables false
set_option linter.unusedSimpArgs false
set_option maxHeartbeats 0
set_option maxRecDepth 100000
namespace Go.Proofs.Ytgaldjnnfkdohaa
open Go Go.Fw
noncomputable def bod20 : Code := Try.f20.body.getD .skip
theorem isf20 : IsFn Try.prog 20 Try.f20 bod20 := ⟨Try.func20, rfl, by decide⟩
def heap_Heap_Put.fn (p1 : heap_Heap) (p9 : heap_Value) (p10 : Int) (p11 : heap_Value) : Option (Bool × heap_Heap) := (heap_Heap_of.fn p1 p9).bind fun x => (bif decide (p10 < 0) then some true else some (decide (p10 ≥ (x.values_.length : Int)))).bind fun s => bif s then some (false, heap_Heap_of.put p1 p9 x) else (idx x.values_ p10).bind fun _ => some (true, heap_Heap_of.put p1 p9 (heap_thing.mk x.class_ (x.values_.set p10.toNat p11)))
theorem heap_Heap_Put_spec {K : KM} {p1 : heap_Heap} {p9 : heap_Value} {p10 : Int} {p11 : heap_Value} {r : (Bool × heap_Heap)} {b2 : Nat} {a3 : Option Addr} {c4 : Nat} {C7 : Chunks} (hf : heap_Heap_Put.fn p1 p9 p10 p11 = some r) (h5 : OwnD 105 D105 K (.slice a3 p1.l_.length c4) p1.l_ C7) : Sp Try.prog 20 [(.pointer (some ⟨b2, 0, none⟩)), (.agg (vv32 p9).toArray), (.int .i64 p10), (.agg (vv32 p11).toArray)] K (flat [[(b2, Cl (vv100 p1 a3 c4) 100)], C7]) (fun K' C v => ∃ (a47 : Option Addr) (c48 : Nat) (C_0 : Chunks), v = (.bool r.1) ∧ OwnD 105 D105 K' (.slice a47 r.2.l_.length c48) r.2.l_ C_0 ∧ C = flat [[(b2, Cl (vv100 r.2 a47 c48) 100)], C_0]) := by
  unfold heap_Heap_Put.fn at hf
  refine spec_enter isf20 rfl ?_
  intro w L hS
  replace hS : Sat w K (flat [[(b2, Cl (vv100 p1 a3 c4) 100)], C7, L]) := hS.open
  have hle := KM.le.refl K
  unfold bod20 Try.f20
  dsimp only [Option.getD_some, argSlots]
  refine s_seq (s_reg ?_)
  refine s_bx hS rfl rfl rfl ?_
  intro b11 w hS
  replace hS : Sat w K (flat ([(b11, Cl (vv32 p9) 32)] :: _)) := hS
  refine s_bx hS rfl rfl rfl ?_
  intro b12 w hS
  replace hS : Sat w K (flat ([(b12, Cl (vv32 p11) 32)] :: _)) := hS
  refine s_v rfl rfl rfl ?_
  refine s_nil (qn (s_seq (s_reg ?_)))
  refine s_v rfl rfl rfl ?_
  refine s_ld (v := (.agg (vv32 p9).toArray)) 1 hS rfl rfl rfl rfl rfl ?_
  obtain ⟨x13, hx14, hf⟩ := bs hf
  refine s_call isf42 (Sat.shut2 (hS.sel [2, 3, 0, 1, 4] rfl)) (heap_Heap_of_spec hx14 h5) rfl rfl rfl ?_
  rintro _ K15 _ w hk16 ⟨bb, l1, l2, a, c, Ce, Cr, rfl, h, rfl, hb⟩ hS
  replace hS := hS.open3
  replace hS : Sat w _ (flat [_, _, _, _, _, _]) := hS
  refine s_v rfl rfl rfl ?_
  refine s_nil (qn (s_seq (s_seq (s_reg ?_))))
  iterate 3 refine s_v rfl rfl rfl ?_
  obtain ⟨s33, hst34, hf⟩ := bs hf
  refine r_cut [_, _, _, _, _, _, _, _] (fun τ w => τ = [(0, (.pointer (some ⟨b2, 0, none⟩))), (2, (.int .i64 p10)), (7, (.pointer (some ⟨b12, 0, none⟩))), (9, (.pointer (some ⟨bb, l1.length, none⟩))), (23, (.bool s33))] ∧ Sat w K15 (flat [[(bb, Cl (l1 ++ ((vv105 x13 a c : List Value) ++ l2)) 105)], Ce, Cr, [(b12, Cl (vv32 p11) 32)], L])) rfl (fun J hJ => ?_) ?_
  · cases hc : (decide (p10 < 0))
    · replace hst34 := bif_f hc hst34
      iterate 4 refine s_v rfl rfl rfl ?_
      refine s_ldm 0 1 hS rfl rfl rfl rfl rfl ?_
      iterate 3 refine s_v rfl rfl rfl ?_
      have hq := Option.some.inj hst34
      subst hq
      refine r_join hJ _ ⟨rfl, (hS.sel [0, 1, 2, 3, 5] rfl)⟩ ⟨rfl, rfl, rfl, rfl, rfl, trivial⟩
    replace hst34 := bif_t hc hst34
    iterate 7 refine s_no rfl rfl ?_
    refine s_v rfl rfl rfl ?_
    have hq := Option.some.inj hst34
    subst hq
    refine r_join hJ _ ⟨rfl, (hS.sel [0, 1, 2, 3, 5] rfl)⟩ ⟨rfl, rfl, rfl, rfl, rfl, trivial⟩
  rintro _ w ⟨rfl, hS⟩
  refine s_nil (qn ?_)
  refine s_if rfl (fun hc => ?_) (fun hc => ?_)
  · replace hf := bif_t hc hf
    refine s_seq (s_reg ?_)
    refine s_v rfl rfl rfl ?_
    refine s_nil (qn ?_)
    refine s_rets (qrt ?_)
    obtain ⟨a1, c1, D, E, h1, hp⟩ := hb K15 x13 a c Ce (.refl _) h
    have hq := Option.some.inj hf
    subst hq
    refine s_ret1 rfl (rv_t rfl) ?_
    exact ⟨K15, _, hle.trans hk16, ⟨a1, c1, D, rfl, h1, rfl⟩, Sat.shut2 ((hS.back hp).sel [0, 1, 3] rfl)⟩
  replace hf := bif_f hc hf
  refine s_skip (qn (s_seq ?_))
  replace hS : Sat w K15 (flat [[(bb, Cl (l1 ++ (([.string x13.class_, .slice a x13.values_.length c] : List Value) ++ l2)) 105)], Ce, Cr, [(b12, Cl (vv32 p11) 32)], L]) := hS
  refine d_start [0, 3] [] hS ?_
  intro w hS
  refine d_v 0 (fun _ _ _ _ _ h => h) [0, 3] hS rfl rfl rfl (by kernel_rfl) rfl rfl ?_
  refine d_v 1 (fun _ _ _ _ _ h => h) [0, 3] hS rfl rfl rfl (by kernel_rfl) rfl rfl ?_
  refine d_v 2 (fun _ _ _ _ _ h => h) [0, 3] hS rfl rfl rfl (by kernel_rfl) rfl rfl ?_
  refine d_ldm 3 0 1 (fun _ _ _ _ _ h => h) [0, 3] hS rfl rfl rfl rfl rfl (by kernel_rfl) rfl rfl ?_
  refine d_v 4 (fun _ _ _ _ _ h => h) [0, 3] hS rfl rfl rfl (by kernel_rfl) rfl rfl ?_
  refine d_ld (v := (.agg (vv32 p11).toArray)) 5 1 (fun _ _ _ _ _ h => h) [0, 3] hS rfl rfl rfl rfl rfl (by kernel_rfl) rfl rfl ?_
  obtain ⟨x86, hx87, hf⟩ := bs hf
  refine d_ixo 6 1 (fun _ _ _ _ _ h => h) [0, 3] hS rfl h hx87 rfl rfl rfl rfl rfl rfl rfl (by kernel_rfl) rfl rfl ?_
  intro b88 l89 cs92 l90 hcs_ hC93 hun91
  obtain rfl := hcs_
  subst hC93
  refine d_op 7 rfl (by kernel_rfl) (by kernel_rfl) (fun X hX => ?_)
  have hlq := KM.le.refl K15
  refine s_stm (cs' := (vv32 p11)) 1 0 hS rfl rfl rfl rfl rfl ?_
  intro w hS
  replace hS : Sat w _ (flat [_, _, _, _, _]) := hS
  have h95 := hun91 K15 _ _ (.refl _) (show GoData.cells 32 _ p11 _ from rfl)
  have hl96 := OwnS.len h95
  refine d_go [0, 3] [0, 1, 3] [] [] hX hS hlq rfl rfl trivial ?_
  refine d_end (by kernel_rfl) ?_
  refine qn ?_
  replace hS : Sat w K15 (flat [_, _, _, _, _]) := hS
  refine s_seq (s_reg ?_)
  refine s_v rfl rfl rfl ?_
  refine s_nil (qn (s_rets ?_))
  obtain ⟨a1, c1, D, E, h1, hp⟩ := hb K15 (heap_thing.mk x13.class_ (x13.values_.set p10.toNat p11)) a c _ (.refl _) (OwnS.norm h95)
  replace hp : ([(bb, Cl (l1 ++ ([.string x13.class_, .slice a (x13.values_.set p10.toNat p11).length c] ++ l2)) 105)] ++ (_ ++ Cr) : Chunks).Perm _ := hp
  rw [← hl96] at hS
  have hq := Option.some.inj hf
  subst hq
  refine s_ret1 rfl (rv_t rfl) ?_
  exact ⟨K15, _, hle.trans hk16, ⟨a1, c1, D, rfl, h1, rfl⟩, Sat.shut2 ((hS.back hp).sel [0, 1, 3] rfl)⟩
end Go.Proofs.Ytgaldjnnfkdohaa
