/- All cases. -/
import Derived.Test.YtheedjgpfpghbaaGreatPFrameReturns130
import Derived.Test.YtheedjgpfpghbaaGreatPFrameReturns131
set_option linter.unusedVariables false
namespace Go.Proofs.YtheedjgpfpghbaaGreat
open Go Go.Fw Go.Ev
theorem frAll : ∀ q ∈ [130, 131], ∀ r ∈ [110, 111], ∀ c ∈ [200, 201, 202, 203, 204, 205, 206, 207, 208, 209, 210, 211, 212, 213, 214, 215, 216, 217], ∀ d ∈ [200, 201, 202, 203, 204, 205, 206, 207, 208, 209, 210, 211, 212, 213, 214, 215, 216, 217], frE q r c d false true = true := by
  have key : ∀ {r q : Nat} {l l2 : List Nat}, (l.all fun c => l2.all fun d => frE q r c d false true) = true → ∀ c ∈ l, ∀ d ∈ l2, frE q r c d false true = true := fun h c hc d hd => List.all_eq_true.1 (List.all_eq_true.1 h c hc) d hd
  intro q hq r hr c hc d hd
  simp only [List.mem_cons, List.not_mem_nil, or_false] at hq hr
  have hc' : c ∈ [200, 201, 202] ∨ c ∈ [203, 204, 205] ∨ c ∈ [206, 207, 208] ∨ c ∈ [209, 210, 211] ∨ c ∈ [212, 213, 214] ∨ c ∈ [215, 216, 217] := by
    simp only [List.mem_cons, List.not_mem_nil, or_false] at hc ⊢
    omega
  rcases hq with rfl | rfl <;> rcases hr with rfl | rfl
  · rcases hc' with h | h | h | h | h | h
    · exact key fr130_110_200 c h d hd
    · exact key fr130_110_203 c h d hd
    · exact key fr130_110_206 c h d hd
    · exact key fr130_110_209 c h d hd
    · exact key fr130_110_212 c h d hd
    · exact key fr130_110_215 c h d hd
  · rcases hc' with h | h | h | h | h | h
    · exact key fr130_111_200 c h d hd
    · exact key fr130_111_203 c h d hd
    · exact key fr130_111_206 c h d hd
    · exact key fr130_111_209 c h d hd
    · exact key fr130_111_212 c h d hd
    · exact key fr130_111_215 c h d hd
  · rcases hc' with h | h | h | h | h | h
    · exact key fr131_110_200 c h d hd
    · exact key fr131_110_203 c h d hd
    · exact key fr131_110_206 c h d hd
    · exact key fr131_110_209 c h d hd
    · exact key fr131_110_212 c h d hd
    · exact key fr131_110_215 c h d hd
  · rcases hc' with h | h | h | h | h | h
    · exact key fr131_111_200 c h d hd
    · exact key fr131_111_203 c h d hd
    · exact key fr131_111_206 c h d hd
    · exact key fr131_111_209 c h d hd
    · exact key fr131_111_212 c h d hd
    · exact key fr131_111_215 c h d hd
theorem fsAll : ∀ q ∈ [130, 131], ∀ r ∈ [110, 111], ∀ d ∈ [200, 201, 202, 203, 204, 205, 206, 207, 208, 209, 210, 211, 212, 213, 214, 215, 216, 217], (frE q r 100 d true true = true ∧ frE q r 100 d false false = true) ∧ frE q r 100 d true false = true := by
  have key : ∀ {r q : Nat} {l : List Nat}, (l.all fun d => frE q r 100 d true true && frE q r 100 d false false && frE q r 100 d true false) = true → ∀ d ∈ l, (frE q r 100 d true true = true ∧ frE q r 100 d false false = true) ∧ frE q r 100 d true false = true := fun h d hd => by
    have := List.all_eq_true.1 h d hd
    simpa only [Bool.and_eq_true] using this
  intro q hq r hr d hd
  simp only [List.mem_cons, List.not_mem_nil, or_false] at hq hr
  rcases hq with rfl | rfl <;> rcases hr with rfl | rfl
  · exact key fs130_110 d hd
  · exact key fs130_111 d hd
  · exact key fs131_110 d hd
  · exact key fs131_111 d hd
theorem FrameReturns_calls (k : Arr4_uint8) (wk : GoOpen.wf Tryz.prog 22 k) (x : Int) (wx : (Lit.int .u8 x).wf = true) (y : Int) (wy : (Lit.int .u8 y).wf = true) (void value : Bool) {W : World} :
    Calls Tryz.prog 5 #[.agg #[.int .u8 k.e0, .int .u8 k.e1, .int .u8 k.e2, .int .u8 k.e3], .int .u8 x, .int .u8 y, .bool void, .bool value] W (fun e W' => e = .returned (.bool true) ∧ Go.RowKit.Below W.heap.size W W') := by
  obtain ⟨q, hq, r, hr, hk⟩ := arK wk
  obtain ⟨c, hc, hx⟩ := arIn ofP wx
  obtain ⟨d, hd, hy⟩ := arIn ofP wy
  obtain ⟨n, hn⟩ := Int.eq_ofNat_of_zero_le (u8_wf wx).1
  have h100 : RelA arA 100 (.int .u8 x) := by
    have := u8_wf wx
    rw [hn]; exact RelA.u (Nat.le_refl _) (by omega) rfl
  letI := arS
  obtain ⟨⟨s1, s2⟩, s3⟩ := fsAll q hq r hr d hd
  have hc := callE_ok (K := KM.all W) (ctx arH) fns (primL_ok flPrimsOk) 10000
  cases void with
  | true => cases value with
    | true => exact law_D hc s1 (.cons hk (.cons (arV h100) (.cons (arV hy) (.cons RV.boolI (.cons RV.boolI .nil)))))
    | false => exact law_D hc s3 (.cons hk (.cons (arV h100) (.cons (arV hy) (.cons RV.boolI (.cons RV.boolI .nil)))))
  | false => cases value with
    | true => exact law_D hc (frAll q hq r hr c ‹_› d hd) (.cons hk (.cons (arV hx) (.cons (arV hy) (.cons RV.boolI (.cons RV.boolI .nil)))))
    | false => exact law_D hc s2 (.cons hk (.cons (arV h100) (.cons (arV hy) (.cons RV.boolI (.cons RV.boolI .nil)))))
end Go.Proofs.YtheedjgpfpghbaaGreat
