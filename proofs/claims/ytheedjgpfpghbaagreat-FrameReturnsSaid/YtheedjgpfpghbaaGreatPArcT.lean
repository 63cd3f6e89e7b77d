/- bonsaiseat.Archive and its tree: what may be leant upon (printed by arc.py). -/
import Derived.Test.YtheedjgpfpghbaaGreatPArcM
import Derived.Test.YtheedjgpfpghbaaGreatPArcK0
import Derived.Test.YtheedjgpfpghbaaGreatPArcK1
import Derived.KernelRfl
set_option linter.unusedVariables false
namespace Go.Proofs.YtheedjgpfpghbaaGreat
open Go Go.Fw Go.Ev
theorem oM00 : (arM00.ord && arM00.low && trM00.ord && trM00.low) = true := by kernel_rfl
theorem oM01 : (arM01.ord && arM01.low && trM01.ord && trM01.low) = true := by kernel_rfl
theorem oM10 : (arM10.ord && arM10.low && trM10.ord && trM10.low) = true := by kernel_rfl
theorem oM11 : (arM11.ord && arM11.low && trM11.ord && trM11.low) = true := by kernel_rfl
theorem arDk : derOk arA arD = true := by kernel_rfl
theorem arP0 : parts arA 130 [140, 141, 142, 143, 144, 145, 146, 147] = true := by kernel_rfl
theorem arP1 : parts arA 131 [148, 149, 150, 151, 152, 153, 154, 155] = true := by kernel_rfl
theorem arP2 : parts arA 100 [120, 121, 122] = true := by kernel_rfl
@[reducible] noncomputable def arS : Sym := symS arA arD
theorem arH : @SymOk arS := symOkA arDk
noncomputable def arArgs (g0 g2 g3 : Nat) : List Value := [.agg ⟨[.chan (some g0), .chan (some 14), .chan (some g2), .chan (some g3)]⟩, .slice none 0 0, .slice none 0 0]
theorem arCov {g0 g2 : Nat} {js : List Nat} {W : List (List Value × List (Nat × Nat))} (hp : parts arA g0 js = true) (hp3 : parts arA 100 [120, 121, 122] = true) (hW : js.all (fun j => [120, 121, 122].all (fun l => W.any (fun a => sameVL a.1 (arArgs j g2 l)))) = true) :
    ∀ ρ rs, All2 (@RV arS ρ) (arArgs g0 g2 100) rs → ∃ a ∈ W, All2 (@RV arS ρ) a.1 rs := by
  letI := arS
  intro ρ rs h
  cases h with
  | cons h0 h =>
    obtain ⟨m, rfl, hm⟩ := h0.agg
    cases hq : m.toList with
    | nil => rw [hq] at hm; cases hm
    | cons u0 m1 =>
      rw [hq] at hm
      cases hm with
      | cons a0 hm => cases hm with
        | cons a1 hm => cases hm with
          | cons a2 hm => cases hm with
            | cons a3 hm =>
              cases hm
              obtain ⟨j, hj, b0⟩ := rs_parts hp a0
              obtain ⟨l, hl, b3⟩ := rs_parts hp3 a3
              have h1 := List.all_eq_true.1 (List.all_eq_true.1 hW j hj) l hl
              obtain ⟨a, ha, he⟩ := List.any_eq_true.1 h1
              refine ⟨a, ha, ?_⟩
              rw [sameVL_eq he]
              have e : m = m.toList.toArray := by simp
              refine .cons ?_ h
              rw [e, hq]
              exact .c (.agg (l := [_, _, _, _]) (.cons b0 (.cons a1 (.cons a2 (.cons b3 .nil)))))
theorem arCall {W : World} : @CallOk arS Tryz.prog (KM.all W) (arC []) := by
  letI := arS
  exact callE_ok (ctx arH) fns (primL_ok (l := []) trivial) 10000

theorem arH00 : [140, 141, 142, 143, 144, 145, 146, 147].all (fun j => [120, 121, 122].all (fun l => arW00.any (fun a => sameVL a.1 (arArgs j 110 l)))) = true := by kernel_rfl
theorem arOk00 {W : World} : arM00.ord = true ∧ @MemoOk arS Tryz.prog (KM.all W) 14 arM00 := by
  letI := arS
  have h := oM00
  simp only [Bool.and_eq_true] at h
  exact ⟨h.1.1.1, memoOk arCall h.1.1.1 h.1.1.2 (arCov arP0 arP2 arH00) arM00k⟩
theorem trOk00 {W : World} : trM00.ord = true ∧ @MemoOk arS Tryz.prog (KM.all W) 15 trM00 := by
  letI := arS
  have h := oM00
  simp only [Bool.and_eq_true] at h
  exact ⟨h.1.2, memoOk1 arCall h.1.2 h.2 trM00k⟩
theorem arH01 : [148, 149, 150, 151, 152, 153, 154, 155].all (fun j => [120, 121, 122].all (fun l => arW01.any (fun a => sameVL a.1 (arArgs j 110 l)))) = true := by kernel_rfl
theorem arOk01 {W : World} : arM01.ord = true ∧ @MemoOk arS Tryz.prog (KM.all W) 14 arM01 := by
  letI := arS
  have h := oM01
  simp only [Bool.and_eq_true] at h
  exact ⟨h.1.1.1, memoOk arCall h.1.1.1 h.1.1.2 (arCov arP1 arP2 arH01) arM01k⟩
theorem trOk01 {W : World} : trM01.ord = true ∧ @MemoOk arS Tryz.prog (KM.all W) 15 trM01 := by
  letI := arS
  have h := oM01
  simp only [Bool.and_eq_true] at h
  exact ⟨h.1.2, memoOk1 arCall h.1.2 h.2 trM01k⟩
theorem arH10 : [140, 141, 142, 143, 144, 145, 146, 147].all (fun j => [120, 121, 122].all (fun l => arW10.any (fun a => sameVL a.1 (arArgs j 111 l)))) = true := by kernel_rfl
theorem arOk10 {W : World} : arM10.ord = true ∧ @MemoOk arS Tryz.prog (KM.all W) 14 arM10 := by
  letI := arS
  have h := oM10
  simp only [Bool.and_eq_true] at h
  exact ⟨h.1.1.1, memoOk arCall h.1.1.1 h.1.1.2 (arCov arP0 arP2 arH10) arM10k⟩
theorem trOk10 {W : World} : trM10.ord = true ∧ @MemoOk arS Tryz.prog (KM.all W) 15 trM10 := by
  letI := arS
  have h := oM10
  simp only [Bool.and_eq_true] at h
  exact ⟨h.1.2, memoOk1 arCall h.1.2 h.2 trM10k⟩
theorem arH11 : [148, 149, 150, 151, 152, 153, 154, 155].all (fun j => [120, 121, 122].all (fun l => arW11.any (fun a => sameVL a.1 (arArgs j 111 l)))) = true := by kernel_rfl
theorem arOk11 {W : World} : arM11.ord = true ∧ @MemoOk arS Tryz.prog (KM.all W) 14 arM11 := by
  letI := arS
  have h := oM11
  simp only [Bool.and_eq_true] at h
  exact ⟨h.1.1.1, memoOk arCall h.1.1.1 h.1.1.2 (arCov arP1 arP2 arH11) arM11k⟩
theorem trOk11 {W : World} : trM11.ord = true ∧ @MemoOk arS Tryz.prog (KM.all W) 15 trM11 := by
  letI := arS
  have h := oM11
  simp only [Bool.and_eq_true] at h
  exact ⟨h.1.2, memoOk1 arCall h.1.2 h.2 trM11k⟩
end Go.Proofs.YtheedjgpfpghbaaGreat
