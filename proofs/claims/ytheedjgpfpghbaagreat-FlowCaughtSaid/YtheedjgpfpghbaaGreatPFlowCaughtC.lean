/- All cases. -/
import Derived.Test.YtheedjgpfpghbaaGreatPFlowCaught
set_option linter.unusedVariables false
namespace Go.Proofs.YtheedjgpfpghbaaGreat
open Go Go.Fw Go.Ev
theorem c0_0 : fcE (fcT 0 0 5) = true := by kernel_rfl
theorem c0_1 : fcE (fcT 0 1 5) = true := by kernel_rfl
theorem c0_2 : fcE (fcT 0 2 5) = true := by kernel_rfl
theorem c0_3 : fcE (fcT 0 3 5) = true := by kernel_rfl
theorem c0_4 : fcE (fcT 0 4 5) = true := by kernel_rfl
theorem c1_0 : fcE (fcT 1 0 4) = true := by kernel_rfl
theorem c1_1 : fcE (fcT 1 1 4) = true := by kernel_rfl
theorem c1_2 : fcE (fcT 1 2 4) = true := by kernel_rfl
theorem c1_3 : fcE (fcT 1 3 4) = true := by kernel_rfl
theorem c2_0 : fcE (fcT 2 0 3) = true := by kernel_rfl
theorem c2_1 : fcE (fcT 2 1 3) = true := by kernel_rfl
theorem c2_2 : fcE (fcT 2 2 3) = true := by kernel_rfl
theorem c3_0 : fcE (fcT 3 0 2) = true := by kernel_rfl
theorem c3_1 : fcE (fcT 3 1 2) = true := by kernel_rfl
theorem c4_0 : fcE (fcT 4 0 1) = true := by kernel_rfl
theorem cases_ : AllU 5 (fun r0 => AllU (4 - r0 + 1) (fun r1 => fcE (fcT r0 r1 (4 - r0 + 1)) = true)) := ⟨⟨c4_0, trivial⟩, ⟨c3_1, c3_0, trivial⟩, ⟨c2_2, c2_1, c2_0, trivial⟩, ⟨c1_3, c1_2, c1_1, c1_0, trivial⟩, ⟨c0_4, c0_3, c0_2, c0_1, c0_0, trivial⟩, trivial⟩

theorem u8_wf {x : Int} (h : (Lit.int .u8 x).wf = true) : 0 ≤ x ∧ x ≤ 255 := (Lit.wf_int_iff .u8 x).1 h

theorem FlowCaught_calls (x : Int) (wx : (Lit.int .u8 x).wf = true) (y : Int) (wy : (Lit.int .u8 y).wf = true) {W : World} :
    Calls Tryz.prog 9 #[.int .u8 x, .int .u8 y] W (fun e W' => e = .returned (.bool true) ∧ Go.RowKit.Below W.heap.size W W') := by
  have hx := u8_wf wx
  have hy := u8_wf wy
  obtain ⟨r0, e0⟩ := Int.eq_ofNat_of_zero_le (show 0 ≤ x % 5 by omega)
  have hr0 : r0 < 5 := by omega
  have hpos : (0 : Int) < ((4 - r0 + 1 : Nat) : Int) := by omega
  obtain ⟨r1, e1⟩ := Int.eq_ofNat_of_zero_le (Int.emod_nonneg y (Int.ne_of_gt hpos))
  have hr1 : r1 < 4 - r0 + 1 := by
    have := Int.emod_lt_of_pos y hpos
    omega
  exact fc_calls (fc_ok hx hy e0 e1) (AllU.get (AllU.get cases_ r0 hr0) r1 hr1)
end Go.Proofs.YtheedjgpfpghbaaGreat
