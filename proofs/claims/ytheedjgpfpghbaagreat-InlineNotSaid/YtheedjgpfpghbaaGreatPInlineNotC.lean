/- All cases. -/
import Derived.Test.YtheedjgpfpghbaaGreatPInlineNot
set_option linter.unusedVariables false
namespace Go.Proofs.YtheedjgpfpghbaaGreat
open Go Go.Fw Go.Ev
theorem cs0 : (allN 8 (fun r1 => fcE 0 r1) && allN 8 (fun r1 => fcE 1 r1) && allN 8 (fun r1 => fcE 2 r1) && allN 8 (fun r1 => fcE 3 r1) && allN 8 (fun r1 => fcE 4 r1)) = true := by kernel_rfl
theorem cs5 : (allN 8 (fun r1 => fcE 5 r1) && allN 8 (fun r1 => fcE 6 r1) && allN 8 (fun r1 => fcE 7 r1) && allN 8 (fun r1 => fcE 8 r1) && allN 8 (fun r1 => fcE 9 r1)) = true := by kernel_rfl
theorem cases_ {r0 r1 : Nat} (h0 : r0 < 10) (h1 : r1 < 8) : fcE r0 r1 = true := by
  have a := cs0
  have b := cs5
  simp only [Bool.and_eq_true] at a b
  obtain ⟨⟨⟨⟨a0, a1⟩, a2⟩, a3⟩, a4⟩ := a
  obtain ⟨⟨⟨⟨b0, b1⟩, b2⟩, b3⟩, b4⟩ := b
  have : r0 = 0 ∨ r0 = 1 ∨ r0 = 2 ∨ r0 = 3 ∨ r0 = 4 ∨ r0 = 5 ∨ r0 = 6 ∨ r0 = 7 ∨ r0 = 8 ∨ r0 = 9 := by omega
  rcases this with rfl | rfl | rfl | rfl | rfl | rfl | rfl | rfl | rfl | rfl
  · exact allN_get a0 r1 h1
  · exact allN_get a1 r1 h1
  · exact allN_get a2 r1 h1
  · exact allN_get a3 r1 h1
  · exact allN_get a4 r1 h1
  · exact allN_get b0 r1 h1
  · exact allN_get b1 r1 h1
  · exact allN_get b2 r1 h1
  · exact allN_get b3 r1 h1
  · exact allN_get b4 r1 h1

theorem u8_wf {x : Int} (h : (Lit.int .u8 x).wf = true) : 0 ≤ x ∧ x ≤ 255 := (Lit.wf_int_iff .u8 x).1 h

theorem InlineNot_calls (x : Int) (wx : (Lit.int .u8 x).wf = true) (y : Int) (wy : (Lit.int .u8 y).wf = true) {W : World} :
    Calls Tryz.prog 11 #[.int .u8 x, .int .u8 y] W (fun e W' => e = .returned (.bool true) ∧ Go.RowKit.Below W.heap.size W W') := by
  have hx := u8_wf wx
  have hy := u8_wf wy
  obtain ⟨r0, e0⟩ := Int.eq_ofNat_of_zero_le (show 0 ≤ x % 10 by omega)
  obtain ⟨r1, e1⟩ := Int.eq_ofNat_of_zero_le (show 0 ≤ y % 8 by omega)
  exact fc_calls (fc_ok hx hy e0 e1) (cases_ (by omega) (by omega)) (by omega)
end Go.Proofs.YtheedjgpfpghbaaGreat
