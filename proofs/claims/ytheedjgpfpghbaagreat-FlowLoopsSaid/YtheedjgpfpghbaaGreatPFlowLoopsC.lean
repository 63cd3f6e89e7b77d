/- All cases. -/
import Derived.Test.YtheedjgpfpghbaaGreatPFlowLoops
set_option linter.unusedVariables false
namespace Go.Proofs.YtheedjgpfpghbaaGreat
open Go Go.Fw Go.Ev
theorem c0_0_0 : fcE (fcT 0 0 0) = true := by kernel_rfl
theorem c0_0_1 : fcE (fcT 0 0 1) = true := by kernel_rfl
theorem c0_0_2 : fcE (fcT 0 0 2) = true := by kernel_rfl
theorem c0_1_0 : fcE (fcT 0 1 0) = true := by kernel_rfl
theorem c0_1_1 : fcE (fcT 0 1 1) = true := by kernel_rfl
theorem c0_1_2 : fcE (fcT 0 1 2) = true := by kernel_rfl
theorem c0_2_0 : fcE (fcT 0 2 0) = true := by kernel_rfl
theorem c0_2_1 : fcE (fcT 0 2 1) = true := by kernel_rfl
theorem c0_2_2 : fcE (fcT 0 2 2) = true := by kernel_rfl
theorem c0_3_0 : fcE (fcT 0 3 0) = true := by kernel_rfl
theorem c0_3_1 : fcE (fcT 0 3 1) = true := by kernel_rfl
theorem c0_3_2 : fcE (fcT 0 3 2) = true := by kernel_rfl
theorem c0_4_0 : fcE (fcT 0 4 0) = true := by kernel_rfl
theorem c0_4_1 : fcE (fcT 0 4 1) = true := by kernel_rfl
theorem c0_4_2 : fcE (fcT 0 4 2) = true := by kernel_rfl
theorem c0_5_0 : fcE (fcT 0 5 0) = true := by kernel_rfl
theorem c0_5_1 : fcE (fcT 0 5 1) = true := by kernel_rfl
theorem c0_5_2 : fcE (fcT 0 5 2) = true := by kernel_rfl
theorem c1_0_0 : fcE (fcT 1 0 0) = true := by kernel_rfl
theorem c1_0_1 : fcE (fcT 1 0 1) = true := by kernel_rfl
theorem c1_0_2 : fcE (fcT 1 0 2) = true := by kernel_rfl
theorem c1_1_0 : fcE (fcT 1 1 0) = true := by kernel_rfl
theorem c1_1_1 : fcE (fcT 1 1 1) = true := by kernel_rfl
theorem c1_1_2 : fcE (fcT 1 1 2) = true := by kernel_rfl
theorem c1_2_0 : fcE (fcT 1 2 0) = true := by kernel_rfl
theorem c1_2_1 : fcE (fcT 1 2 1) = true := by kernel_rfl
theorem c1_2_2 : fcE (fcT 1 2 2) = true := by kernel_rfl
theorem c1_3_0 : fcE (fcT 1 3 0) = true := by kernel_rfl
theorem c1_3_1 : fcE (fcT 1 3 1) = true := by kernel_rfl
theorem c1_3_2 : fcE (fcT 1 3 2) = true := by kernel_rfl
theorem c1_4_0 : fcE (fcT 1 4 0) = true := by kernel_rfl
theorem c1_4_1 : fcE (fcT 1 4 1) = true := by kernel_rfl
theorem c1_4_2 : fcE (fcT 1 4 2) = true := by kernel_rfl
theorem c1_5_0 : fcE (fcT 1 5 0) = true := by kernel_rfl
theorem c1_5_1 : fcE (fcT 1 5 1) = true := by kernel_rfl
theorem c1_5_2 : fcE (fcT 1 5 2) = true := by kernel_rfl
theorem c2_0_0 : fcE (fcT 2 0 0) = true := by kernel_rfl
theorem c2_0_1 : fcE (fcT 2 0 1) = true := by kernel_rfl
theorem c2_0_2 : fcE (fcT 2 0 2) = true := by kernel_rfl
theorem c2_1_0 : fcE (fcT 2 1 0) = true := by kernel_rfl
theorem c2_1_1 : fcE (fcT 2 1 1) = true := by kernel_rfl
theorem c2_1_2 : fcE (fcT 2 1 2) = true := by kernel_rfl
theorem c2_2_0 : fcE (fcT 2 2 0) = true := by kernel_rfl
theorem c2_2_1 : fcE (fcT 2 2 1) = true := by kernel_rfl
theorem c2_2_2 : fcE (fcT 2 2 2) = true := by kernel_rfl
theorem c2_3_0 : fcE (fcT 2 3 0) = true := by kernel_rfl
theorem c2_3_1 : fcE (fcT 2 3 1) = true := by kernel_rfl
theorem c2_3_2 : fcE (fcT 2 3 2) = true := by kernel_rfl
theorem c2_4_0 : fcE (fcT 2 4 0) = true := by kernel_rfl
theorem c2_4_1 : fcE (fcT 2 4 1) = true := by kernel_rfl
theorem c2_4_2 : fcE (fcT 2 4 2) = true := by kernel_rfl
theorem c2_5_0 : fcE (fcT 2 5 0) = true := by kernel_rfl
theorem c2_5_1 : fcE (fcT 2 5 1) = true := by kernel_rfl
theorem c2_5_2 : fcE (fcT 2 5 2) = true := by kernel_rfl
theorem c3_0_0 : fcE (fcT 3 0 0) = true := by kernel_rfl
theorem c3_0_1 : fcE (fcT 3 0 1) = true := by kernel_rfl
theorem c3_0_2 : fcE (fcT 3 0 2) = true := by kernel_rfl
theorem c3_1_0 : fcE (fcT 3 1 0) = true := by kernel_rfl
theorem c3_1_1 : fcE (fcT 3 1 1) = true := by kernel_rfl
theorem c3_1_2 : fcE (fcT 3 1 2) = true := by kernel_rfl
theorem c3_2_0 : fcE (fcT 3 2 0) = true := by kernel_rfl
theorem c3_2_1 : fcE (fcT 3 2 1) = true := by kernel_rfl
theorem c3_2_2 : fcE (fcT 3 2 2) = true := by kernel_rfl
theorem c3_3_0 : fcE (fcT 3 3 0) = true := by kernel_rfl
theorem c3_3_1 : fcE (fcT 3 3 1) = true := by kernel_rfl
theorem c3_3_2 : fcE (fcT 3 3 2) = true := by kernel_rfl
theorem c3_4_0 : fcE (fcT 3 4 0) = true := by kernel_rfl
theorem c3_4_1 : fcE (fcT 3 4 1) = true := by kernel_rfl
theorem c3_4_2 : fcE (fcT 3 4 2) = true := by kernel_rfl
theorem c3_5_0 : fcE (fcT 3 5 0) = true := by kernel_rfl
theorem c3_5_1 : fcE (fcT 3 5 1) = true := by kernel_rfl
theorem c3_5_2 : fcE (fcT 3 5 2) = true := by kernel_rfl
theorem c4_0_0 : fcE (fcT 4 0 0) = true := by kernel_rfl
theorem c4_0_1 : fcE (fcT 4 0 1) = true := by kernel_rfl
theorem c4_0_2 : fcE (fcT 4 0 2) = true := by kernel_rfl
theorem c4_1_0 : fcE (fcT 4 1 0) = true := by kernel_rfl
theorem c4_1_1 : fcE (fcT 4 1 1) = true := by kernel_rfl
theorem c4_1_2 : fcE (fcT 4 1 2) = true := by kernel_rfl
theorem c4_2_0 : fcE (fcT 4 2 0) = true := by kernel_rfl
theorem c4_2_1 : fcE (fcT 4 2 1) = true := by kernel_rfl
theorem c4_2_2 : fcE (fcT 4 2 2) = true := by kernel_rfl
theorem c4_3_0 : fcE (fcT 4 3 0) = true := by kernel_rfl
theorem c4_3_1 : fcE (fcT 4 3 1) = true := by kernel_rfl
theorem c4_3_2 : fcE (fcT 4 3 2) = true := by kernel_rfl
theorem c4_4_0 : fcE (fcT 4 4 0) = true := by kernel_rfl
theorem c4_4_1 : fcE (fcT 4 4 1) = true := by kernel_rfl
theorem c4_4_2 : fcE (fcT 4 4 2) = true := by kernel_rfl
theorem c4_5_0 : fcE (fcT 4 5 0) = true := by kernel_rfl
theorem c4_5_1 : fcE (fcT 4 5 1) = true := by kernel_rfl
theorem c4_5_2 : fcE (fcT 4 5 2) = true := by kernel_rfl
theorem c5_0_0 : fcE (fcT 5 0 0) = true := by kernel_rfl
theorem c5_0_1 : fcE (fcT 5 0 1) = true := by kernel_rfl
theorem c5_0_2 : fcE (fcT 5 0 2) = true := by kernel_rfl
theorem c5_1_0 : fcE (fcT 5 1 0) = true := by kernel_rfl
theorem c5_1_1 : fcE (fcT 5 1 1) = true := by kernel_rfl
theorem c5_1_2 : fcE (fcT 5 1 2) = true := by kernel_rfl
theorem c5_2_0 : fcE (fcT 5 2 0) = true := by kernel_rfl
theorem c5_2_1 : fcE (fcT 5 2 1) = true := by kernel_rfl
theorem c5_2_2 : fcE (fcT 5 2 2) = true := by kernel_rfl
theorem c5_3_0 : fcE (fcT 5 3 0) = true := by kernel_rfl
theorem c5_3_1 : fcE (fcT 5 3 1) = true := by kernel_rfl
theorem c5_3_2 : fcE (fcT 5 3 2) = true := by kernel_rfl
theorem c5_4_0 : fcE (fcT 5 4 0) = true := by kernel_rfl
theorem c5_4_1 : fcE (fcT 5 4 1) = true := by kernel_rfl
theorem c5_4_2 : fcE (fcT 5 4 2) = true := by kernel_rfl
theorem c5_5_0 : fcE (fcT 5 5 0) = true := by kernel_rfl
theorem c5_5_1 : fcE (fcT 5 5 1) = true := by kernel_rfl
theorem c5_5_2 : fcE (fcT 5 5 2) = true := by kernel_rfl
theorem cases_ : AllU 6 (fun r0 => AllU 6 (fun r1 => AllU 3 (fun r2 => fcE (fcT r0 r1 r2) = true))) := ⟨⟨⟨c5_5_2, c5_5_1, c5_5_0, trivial⟩, ⟨c5_4_2, c5_4_1, c5_4_0, trivial⟩, ⟨c5_3_2, c5_3_1, c5_3_0, trivial⟩, ⟨c5_2_2, c5_2_1, c5_2_0, trivial⟩, ⟨c5_1_2, c5_1_1, c5_1_0, trivial⟩, ⟨c5_0_2, c5_0_1, c5_0_0, trivial⟩, trivial⟩, ⟨⟨c4_5_2, c4_5_1, c4_5_0, trivial⟩, ⟨c4_4_2, c4_4_1, c4_4_0, trivial⟩, ⟨c4_3_2, c4_3_1, c4_3_0, trivial⟩, ⟨c4_2_2, c4_2_1, c4_2_0, trivial⟩, ⟨c4_1_2, c4_1_1, c4_1_0, trivial⟩, ⟨c4_0_2, c4_0_1, c4_0_0, trivial⟩, trivial⟩, ⟨⟨c3_5_2, c3_5_1, c3_5_0, trivial⟩, ⟨c3_4_2, c3_4_1, c3_4_0, trivial⟩, ⟨c3_3_2, c3_3_1, c3_3_0, trivial⟩, ⟨c3_2_2, c3_2_1, c3_2_0, trivial⟩, ⟨c3_1_2, c3_1_1, c3_1_0, trivial⟩, ⟨c3_0_2, c3_0_1, c3_0_0, trivial⟩, trivial⟩, ⟨⟨c2_5_2, c2_5_1, c2_5_0, trivial⟩, ⟨c2_4_2, c2_4_1, c2_4_0, trivial⟩, ⟨c2_3_2, c2_3_1, c2_3_0, trivial⟩, ⟨c2_2_2, c2_2_1, c2_2_0, trivial⟩, ⟨c2_1_2, c2_1_1, c2_1_0, trivial⟩, ⟨c2_0_2, c2_0_1, c2_0_0, trivial⟩, trivial⟩, ⟨⟨c1_5_2, c1_5_1, c1_5_0, trivial⟩, ⟨c1_4_2, c1_4_1, c1_4_0, trivial⟩, ⟨c1_3_2, c1_3_1, c1_3_0, trivial⟩, ⟨c1_2_2, c1_2_1, c1_2_0, trivial⟩, ⟨c1_1_2, c1_1_1, c1_1_0, trivial⟩, ⟨c1_0_2, c1_0_1, c1_0_0, trivial⟩, trivial⟩, ⟨⟨c0_5_2, c0_5_1, c0_5_0, trivial⟩, ⟨c0_4_2, c0_4_1, c0_4_0, trivial⟩, ⟨c0_3_2, c0_3_1, c0_3_0, trivial⟩, ⟨c0_2_2, c0_2_1, c0_2_0, trivial⟩, ⟨c0_1_2, c0_1_1, c0_1_0, trivial⟩, ⟨c0_0_2, c0_0_1, c0_0_0, trivial⟩, trivial⟩, trivial⟩

theorem u8_wf {x : Int} (h : (Lit.int .u8 x).wf = true) : 0 ≤ x ∧ x ≤ 255 := (Lit.wf_int_iff .u8 x).1 h

theorem FlowLoops_calls (x : Int) (wx : (Lit.int .u8 x).wf = true) (y : Int) (wy : (Lit.int .u8 y).wf = true) (z : Int) (wz : (Lit.int .u8 z).wf = true) {W : World} :
    Calls Tryz.prog 7 #[.int .u8 x, .int .u8 y, .int .u8 z] W (fun e W' => e = .returned (.bool true) ∧ Go.RowKit.Below W.heap.size W W') := by
  have hx := u8_wf wx
  have hy := u8_wf wy
  have hz := u8_wf wz
  obtain ⟨r0, e0⟩ := Int.eq_ofNat_of_zero_le (show 0 ≤ x % 6 by omega)
  obtain ⟨r1, e1⟩ := Int.eq_ofNat_of_zero_le (show 0 ≤ y % 6 by omega)
  obtain ⟨r2, e2⟩ := Int.eq_ofNat_of_zero_le (show 0 ≤ z % 3 by omega)
  exact fc_calls (fc_ok hx hy hz e0 e1 e2) (AllU.get (AllU.get (AllU.get cases_ r0 (by omega)) r1 (by omega)) r2 (by omega))
end Go.Proofs.YtheedjgpfpghbaaGreat
