/- heap.of: the thing that a value refers to, or a new one. -/
import Derived.Test.YtgaldjnnfkdohaaHb
set_option linter.unusedVariables false
set_option linter.unusedSimpArgs false
set_option maxHeartbeats 0
set_option maxRecDepth 100000
namespace Go.Proofs.Ytgaldjnnfkdohaa
open Go Go.Fw
noncomputable def bod42 : Code := Try.f42.body.getD .skip
theorem isf42 : IsFn Try.prog 42 Try.f42 bod42 := ⟨Try.func42, rfl, by decide⟩
-- 42 (*bonsai/heap.Heap).of
def heap_Heap_of.fn (p1 : heap_Heap) (p9 : heap_Value) : Option heap_thing := (bif decide (p9.Ref < 1) then (some true) else (some (decide (p9.Ref > (p1.l_.length : Int))))).bind fun s19 => bif s19 then (some (heap_thing.mk ByteArray.empty [])) else ((idx p1.l_ (w64 (p9.Ref - 1))).bind fun x23 => some x23)
def heap_Heap_of.put (p1 : heap_Heap) (p9 : heap_Value) (u : heap_thing) : heap_Heap := bif (bif decide (p9.Ref < 1) then true else decide (p9.Ref > (p1.l_.length : Int))) then p1 else heap_Heap.mk (p1.l_.set (w64 (p9.Ref - 1)).toNat u) p1.used_ p1.most_
/-- the chunks hold the heap again, and what is done with -/
def HBack (K : KM) (b : Nat) (h : heap_Heap) (C : Chunks) : Prop := ∃ a c D E, OwnD 105 D105 K (.slice a h.l_.length c) h.l_ D ∧ C.Perm ((b, Cl (vv100 h a c) 100) :: (D ++ E))
theorem perm_of (A B C : Chunks) (x : Nat × Obj) : (A ++ (B ++ (C ++ [x]))).Perm (x :: ((A ++ (B ++ C)) ++ [])) := by
  rw [List.append_nil, ← List.append_assoc, ← List.append_assoc, ← List.append_assoc]
  exact List.perm_append_comm
theorem perm_of2 (A B D : Chunks) (x : Nat × Obj) : (A ++ (B ++ ([x] ++ D))).Perm (x :: (D ++ (A ++ B))) := by
  rw [← List.append_assoc]
  exact List.perm_append_comm
theorem heap_Heap_of_spec {K : KM} {p1 : heap_Heap} {p9 : heap_Value} {r : heap_thing} {b2 : Nat} {a3 : Option Addr} {c4 : Nat} {C7 : Chunks} (hf : heap_Heap_of.fn p1 p9 = some r) (h5 : OwnD 105 D105 K (.slice a3 p1.l_.length c4) p1.l_ C7) : Sp Try.prog 42 [(.pointer (some ⟨b2, 0, none⟩)), (.agg (vv32 p9).toArray)] K (flat [[(b2, Cl (vv100 p1 a3 c4) 100)], C7]) (fun K' C v => ∃ (bb : Nat) (l1 l2 : List Value) (a : Option Addr) (c : Nat) (Ce Cr : Chunks), v = (.pointer (some ⟨bb, l1.length, none⟩)) ∧ OwnS 32 K' (.slice a r.values_.length c) r.values_ Ce ∧ C = flat [[(bb, Cl (l1 ++ ((vv105 r a c : List Value) ++ l2)) 105)], Ce, Cr] ∧ ∀ (K2 : KM) (u : heap_thing) (a' : Option Addr) (c' : Nat) (Ce' : Chunks), KM.le K' K2 → OwnS 32 K2 (.slice a' u.values_.length c') u.values_ Ce' → HBack K2 b2 (heap_Heap_of.put p1 p9 u) ([(bb, Cl (l1 ++ ((vv105 u a' c' : List Value) ++ l2)) 105)] ++ (Ce' ++ Cr))) := by
  unfold heap_Heap_of.fn at hf
  refine spec_enter isf42 rfl ?_
  intro w L hS
  replace hS : Sat w K (flat [[(b2, Cl (vv100 p1 a3 c4) 100)], C7, L]) := hS.open
  have hle := KM.le.refl K
  unfold bod42 Try.f42
  dsimp only [Option.getD_some, argSlots]
  refine s_seq (s_reg ?_)
  refine s_bx hS rfl rfl rfl ?_
  intro b11 w hS
  replace hS : Sat w K (flat ([(b11, Cl (vv32 p9) 32)] :: _)) := hS
  refine s_v rfl rfl rfl ?_
  refine s_nil (qn (s_seq ?_))
  obtain ⟨s19, hst20, hf⟩ := bs hf
  refine s_cut (fun τ w => ∃ (K13 : KM) (C17 : Chunks), τ = [(0, (.pointer (some ⟨b2, 0, none⟩))), (3, (.pointer (some ⟨b11, 0, none⟩))), (17, (.bool s19))] ∧ KM.le K K13 ∧ OwnD 105 D105 K13 (.slice a3 p1.l_.length c4) p1.l_ C17 ∧ Sat w K13 (flat [[(b2, Cl (vv100 p1 a3 c4) 100)], C17, [(b11, Cl (vv32 p9) 32)], L])) (fun J hJ => ?_) ?_
  · replace hf := hst20
    refine d_start [0, 1] [] hS ?_
    intro w hS
    refine d_v 0 (fun _ _ _ _ _ h => h) [0, 1] hS rfl rfl rfl (by kernel_rfl) rfl rfl ?_
    refine d_ld 1 0 (fun _ _ _ _ _ h => h) [0, 1] hS rfl rfl rfl rfl rfl (by kernel_rfl) rfl rfl ?_
    refine d_v 2 (fun _ _ _ _ _ h => h) [0, 1] hS rfl rfl rfl (by kernel_rfl) rfl rfl ?_
    refine d_v 3 (fun _ _ _ _ _ h => h) [0, 1] hS rfl rfl rfl (by kernel_rfl) rfl rfl ?_
    cases hc : (decide (p9.Ref < 1))
    · replace hf := bif_f hc hf
      refine d_v 4 (fun _ _ _ _ _ h => h) [0, 1] hS rfl rfl rfl (by kernel_rfl) rfl rfl ?_
      refine d_ld 5 0 (fun _ _ _ _ _ h => h) [0, 1] hS rfl rfl rfl rfl rfl (by kernel_rfl) rfl rfl ?_
      refine d_v 6 (fun _ _ _ _ _ h => h) [0, 1] hS rfl rfl rfl (by kernel_rfl) rfl rfl ?_
      refine d_v 7 (fun _ _ _ _ _ h => h) [0, 1] hS rfl rfl rfl (by kernel_rfl) rfl rfl ?_
      refine d_v 8 (fun _ _ _ _ _ h => h) [0, 1] hS rfl rfl rfl (by kernel_rfl) rfl rfl ?_
      refine d_ld 9 1 (fun _ _ _ _ _ h => h) [0, 1] hS rfl rfl rfl rfl rfl (by kernel_rfl) rfl rfl ?_
      refine d_v 10 (fun _ _ _ _ _ h => h) [0, 1] hS rfl rfl rfl (by kernel_rfl) rfl rfl ?_
      refine d_v 11 (fun _ _ _ _ _ h => h) [0, 1] hS rfl rfl rfl (by kernel_rfl) rfl rfl ?_
      refine d_v 12 (fun _ _ _ _ _ h => h) [0, 1] hS rfl rfl rfl (by kernel_rfl) rfl rfl ?_
      refine d_end (by kernel_rfl) ?_
      refine qn ?_
      have hq := Option.some.inj hf
      subst hq
      refine s_join hJ _ ⟨K, C7, rfl, hle, h5, (hS.sel [1, 2, 0, 3] rfl)⟩ ⟨rfl, rfl, rfl, trivial⟩
    replace hf := bif_t hc hf
    refine d_no 4 (fun _ _ _ _ _ h => h) [0, 1] hS rfl rfl (by kernel_rfl) rfl rfl ?_
    refine d_no 5 (fun _ _ _ _ _ h => h) [0, 1] hS rfl rfl (by kernel_rfl) rfl rfl ?_
    refine d_no 6 (fun _ _ _ _ _ h => h) [0, 1] hS rfl rfl (by kernel_rfl) rfl rfl ?_
    refine d_no 7 (fun _ _ _ _ _ h => h) [0, 1] hS rfl rfl (by kernel_rfl) rfl rfl ?_
    refine d_no 8 (fun _ _ _ _ _ h => h) [0, 1] hS rfl rfl (by kernel_rfl) rfl rfl ?_
    refine d_no 9 (fun _ _ _ _ _ h => h) [0, 1] hS rfl rfl (by kernel_rfl) rfl rfl ?_
    refine d_no 10 (fun _ _ _ _ _ h => h) [0, 1] hS rfl rfl (by kernel_rfl) rfl rfl ?_
    refine d_no 11 (fun _ _ _ _ _ h => h) [0, 1] hS rfl rfl (by kernel_rfl) rfl rfl ?_
    refine d_v 12 (fun _ _ _ _ _ h => h) [0, 1] hS rfl rfl rfl (by kernel_rfl) rfl rfl ?_
    refine d_end (by kernel_rfl) ?_
    refine qn ?_
    have hq := Option.some.inj hf
    subst hq
    refine s_join hJ _ ⟨K, C7, rfl, hle, h5, (hS.sel [1, 2, 0, 3] rfl)⟩ ⟨rfl, rfl, rfl, trivial⟩
  rintro _ w ⟨K13, C17, rfl, hle, h14, hS⟩
  refine s_if rfl (fun hc => ?_) (fun hc => ?_)
  · replace hf := bif_t hc hf
    refine s_seq (s_reg ?_)
    refine s_v (v := (.agg #[(.string ByteArray.empty), (.slice none 0 0)])) rfl rfl rfl ?_
    refine s_bx hS rfl rfl rfl ?_
    intro b21 w hS
    replace hS : Sat w K13 (flat ([(b21, Cl [(.string ByteArray.empty), (.slice none 0 0)] 105)] :: _)) := hS
    refine s_v rfl rfl rfl ?_
    refine s_nil (qn ?_)
    replace hS : Sat w K13 (flat [_, _, _, _]) := (hS.sel [0, 1, 2, 4] rfl)
    refine s_rets (qrt ?_)
    have hq := Option.some.inj hf
    subst hq
    refine s_ret1 rfl (rv_t rfl) ?_
    have hs0 : (bif decide (p9.Ref < 1) then true else decide (p9.Ref > (p1.l_.length : Int))) = s19 := by revert hst20; cases decide (p9.Ref < 1) <;> exact fun h => Option.some.inj h
    refine ⟨K13, _, hle, ⟨b21, [], [], none, 0, [], [(b2, Cl (vv100 p1 a3 c4) 100)] ++ C17, rfl, OwnS.nil, rfl, fun K2 u a2_ c2_ Ce_ hk2_ hu_ => ?_⟩, by simpa [flat, List.append_assoc, vv105] using hS⟩
    have e1_ : heap_Heap_of.put p1 p9 u = p1 := by unfold heap_Heap_of.put; rw [hs0, hc]; rfl
    rw [e1_]
    exact ⟨a3, c4, C17, _, h14.mono hk2_, perm_of2 _ _ _ _⟩
  replace hf := bif_f hc hf
  refine s_skip (qn (s_seq ?_))
  obtain ⟨x23, hx24, hf⟩ := bs hf
  obtain ⟨b25, l26, _, l28, C29, C30, ⟨a33, c34, rfl, h35⟩, hfo31, hS, hun32⟩ := ix_foc (hS.sel [1, 0, 2, 3] rfl) h14 hx24
  have hq38 := KM.le.refl K13
  replace hS : Sat w _ (flat [_, _, _, _, _, _]) := hS
  refine d_start [3, 4] [] hS ?_
  intro w hS
  refine d_v 0 (fun _ _ _ _ _ h => h) [3, 4] hS rfl rfl rfl (by kernel_rfl) rfl rfl ?_
  refine d_v 1 (fun _ _ _ _ _ h => h) [3, 4] hS rfl rfl rfl (by kernel_rfl) rfl rfl ?_
  refine d_v 2 (fun _ _ _ _ _ h => h) [3, 4] hS rfl rfl rfl (by kernel_rfl) rfl rfl ?_
  refine d_ld 3 0 (fun _ _ _ _ _ h => h) [3, 4] hS rfl rfl rfl rfl rfl (by kernel_rfl) rfl rfl ?_
  refine d_v 4 (fun _ _ _ _ _ h => h) [3, 4] hS rfl rfl rfl (by kernel_rfl) rfl rfl ?_
  refine d_ld 5 1 (fun _ _ _ _ _ h => h) [3, 4] hS rfl rfl rfl rfl rfl (by kernel_rfl) rfl rfl ?_
  refine d_v 6 (fun _ _ _ _ _ h => h) [3, 4] hS rfl rfl rfl (by kernel_rfl) rfl rfl ?_
  refine d_ixf 7 (fun _ _ _ _ _ h => h) [3, 4] hS hfo31 rfl rfl rfl rfl rfl rfl rfl (by kernel_rfl) rfl rfl ?_
  refine d_v 8 (fun _ _ _ _ _ h => h) [3, 4] hS rfl rfl rfl (by kernel_rfl) rfl rfl ?_
  refine d_end (by kernel_rfl) ?_
  refine qn ?_
  replace hS : Sat w K13 (flat [_, _, _, _, _]) := (hS.sel [0, 1, 2, 3, 5] rfl)
  refine s_rets ?_
  have hq := Option.some.inj hf
  subst hq
  refine s_ret1 rfl (rv_t rfl) ?_
  have hs0 : (bif decide (p9.Ref < 1) then true else decide (p9.Ref > (p1.l_.length : Int))) = s19 := by revert hst20; cases decide (p9.Ref < 1) <;> exact fun h => Option.some.inj h
  refine ⟨K13, _, hle, ⟨b25, l26, l28, a33, c34, C29, C30 ++ [(b2, Cl (vv100 p1 a3 c4) 100)], rfl, h35, rfl, fun K2 u a2_ c2_ Ce_ hk2_ hu_ => ?_⟩, by simpa [flat, List.append_assoc] using hS⟩
  have h1_ := OwnD.norm (hun32 K2 u _ _ (hq38.trans hk2_) (show D105.rep K2 u (vv105 u a2_ c2_) _ from ⟨a2_, c2_, rfl, hu_⟩))
  have hl_ := OwnD.len (hun32 K2 u _ _ (hq38.trans hk2_) (show D105.rep K2 u (vv105 u a2_ c2_) _ from ⟨a2_, c2_, rfl, hu_⟩))
  have e1_ : heap_Heap_of.put p1 p9 u = heap_Heap.mk (p1.l_.set (w64 (p9.Ref - 1)).toNat u) p1.used_ p1.most_ := by unfold heap_Heap_of.put; rw [hs0, hc]; rfl
  rw [e1_]
  refine ⟨a3, c4, _, [], h1_, ?_⟩
  show List.Perm _ ((b2, Cl [.slice a3 (p1.l_.set (w64 (p9.Ref - 1)).toNat u).length c4, .int .i64 p1.used_, .int .i64 p1.most_] 100) :: _)
  rw [hl_]
  exact perm_of _ _ _ _
end Go.Proofs.Ytgaldjnnfkdohaa
