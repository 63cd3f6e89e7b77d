/- All cases. -/
import Derived.Test.YtheedjgpfpghbaaPFrameCounts
import Derived.DataShut
set_option linter.unusedVariables false
namespace Go.Proofs.Ytheedjgpfpghbaa
open Go Go.Fw Go.Ev
theorem c0_0 : allN 4 (fun r3 => fcE (fcT (.ofNat 0) (.chan (some 5)) 0 (.int .u8 (.ofNat r3)))) = true := by kernel_rfl
theorem c1_0 : allN 3 (fun r1 => fcE (fcT (.ofNat 0) (.int .u8 (.ofNat r1)) 1 (.chan (some 8)))) = true := by kernel_rfl
theorem c0_1 : allN 4 (fun r3 => fcE (fcT (.ofNat 1) (.chan (some 5)) 0 (.int .u8 (.ofNat r3)))) = true := by kernel_rfl
theorem c1_1 : allN 3 (fun r1 => fcE (fcT (.ofNat 1) (.int .u8 (.ofNat r1)) 1 (.chan (some 8)))) = true := by kernel_rfl
theorem c0_2 : allN 4 (fun r3 => fcE (fcT (.ofNat 2) (.chan (some 5)) 0 (.int .u8 (.ofNat r3)))) = true := by kernel_rfl
theorem c1_2 : allN 3 (fun r1 => fcE (fcT (.ofNat 2) (.int .u8 (.ofNat r1)) 1 (.chan (some 8)))) = true := by kernel_rfl
theorem c0_3 : allN 4 (fun r3 => fcE (fcT (.ofNat 3) (.chan (some 5)) 0 (.int .u8 (.ofNat r3)))) = true := by kernel_rfl
theorem c1_3 : allN 3 (fun r1 => fcE (fcT (.ofNat 3) (.int .u8 (.ofNat r1)) 1 (.chan (some 8)))) = true := by kernel_rfl
theorem c0_4 : allN 4 (fun r3 => fcE (fcT (.ofNat 4) (.chan (some 5)) 0 (.int .u8 (.ofNat r3)))) = true := by kernel_rfl
theorem c1_4 : allN 3 (fun r1 => fcE (fcT (.ofNat 4) (.int .u8 (.ofNat r1)) 1 (.chan (some 8)))) = true := by kernel_rfl
theorem c0_5 : allN 4 (fun r3 => fcE (fcT (.ofNat 5) (.chan (some 5)) 0 (.int .u8 (.ofNat r3)))) = true := by kernel_rfl
theorem c1_5 : allN 3 (fun r1 => fcE (fcT (.ofNat 5) (.int .u8 (.ofNat r1)) 1 (.chan (some 8)))) = true := by kernel_rfl
theorem c0_6 : allN 4 (fun r3 => fcE (fcT (.ofNat 6) (.chan (some 5)) 0 (.int .u8 (.ofNat r3)))) = true := by kernel_rfl
theorem c1_6 : allN 3 (fun r1 => fcE (fcT (.ofNat 6) (.int .u8 (.ofNat r1)) 1 (.chan (some 8)))) = true := by kernel_rfl
theorem c0_7 : allN 4 (fun r3 => fcE (fcT (.ofNat 7) (.chan (some 5)) 0 (.int .u8 (.ofNat r3)))) = true := by kernel_rfl
theorem c1_7 : allN 3 (fun r1 => fcE (fcT (.ofNat 7) (.int .u8 (.ofNat r1)) 1 (.chan (some 8)))) = true := by kernel_rfl
theorem c0_8 : allN 4 (fun r3 => fcE (fcT (.ofNat 8) (.chan (some 5)) 0 (.int .u8 (.ofNat r3)))) = true := by kernel_rfl
theorem c1_8 : allN 3 (fun r1 => fcE (fcT (.ofNat 8) (.int .u8 (.ofNat r1)) 1 (.chan (some 8)))) = true := by kernel_rfl
theorem c0_9 : allN 4 (fun r3 => fcE (fcT (.ofNat 9) (.chan (some 5)) 0 (.int .u8 (.ofNat r3)))) = true := by kernel_rfl
theorem c1_9 : allN 3 (fun r1 => fcE (fcT (.ofNat 9) (.int .u8 (.ofNat r1)) 1 (.chan (some 8)))) = true := by kernel_rfl
theorem c0_10 : allN 4 (fun r3 => fcE (fcT (.ofNat 10) (.chan (some 5)) 0 (.int .u8 (.ofNat r3)))) = true := by kernel_rfl
theorem c1_10 : allN 3 (fun r1 => fcE (fcT (.ofNat 10) (.int .u8 (.ofNat r1)) 1 (.chan (some 8)))) = true := by kernel_rfl
theorem c0_11 : allN 4 (fun r3 => fcE (fcT (.ofNat 11) (.chan (some 5)) 0 (.int .u8 (.ofNat r3)))) = true := by kernel_rfl
theorem c1_11 : allN 3 (fun r1 => fcE (fcT (.ofNat 11) (.int .u8 (.ofNat r1)) 1 (.chan (some 8)))) = true := by kernel_rfl
theorem c0_12 : allN 4 (fun r3 => fcE (fcT (.ofNat 12) (.chan (some 5)) 0 (.int .u8 (.ofNat r3)))) = true := by kernel_rfl
theorem c1_12 : allN 3 (fun r1 => fcE (fcT (.ofNat 12) (.int .u8 (.ofNat r1)) 1 (.chan (some 8)))) = true := by kernel_rfl
theorem c0_13 : allN 4 (fun r3 => fcE (fcT (.ofNat 13) (.chan (some 5)) 0 (.int .u8 (.ofNat r3)))) = true := by kernel_rfl
theorem c1_13 : allN 3 (fun r1 => fcE (fcT (.ofNat 13) (.int .u8 (.ofNat r1)) 1 (.chan (some 8)))) = true := by kernel_rfl
theorem cases0 : AllU 14 (fun r0 => allN 4 (fun r3 => fcE (fcT (.ofNat r0) (.chan (some 5)) 0 (.int .u8 (.ofNat r3)))) = true) := ⟨c0_13, c0_12, c0_11, c0_10, c0_9, c0_8, c0_7, c0_6, c0_5, c0_4, c0_3, c0_2, c0_1, c0_0, trivial⟩
theorem cases1 : AllU 14 (fun r0 => allN 3 (fun r1 => fcE (fcT (.ofNat r0) (.int .u8 (.ofNat r1)) 1 (.chan (some 8)))) = true) := ⟨c1_13, c1_12, c1_11, c1_10, c1_9, c1_8, c1_7, c1_6, c1_5, c1_4, c1_3, c1_2, c1_1, c1_0, trivial⟩

theorem u8_wf {x : Int} (h : (Lit.int .u8 x).wf = true) : 0 ≤ x ∧ x ≤ 255 := (Lit.wf_int_iff .u8 x).1 h

theorem FrameCounts_calls (o : Int) (wo : (Lit.int .u8 o).wf = true) (n : Int) (wn : (Lit.int .u8 n).wf = true) (d : Int) (wd : (Lit.int .u8 d).wf = true) {W : World} :
    Calls Try.prog 3 #[.int .u8 o, .int .u8 n, .int .u8 d] W (fun e W' => e = .returned (.bool true) ∧ Go.RowKit.Below W.heap.size W W') := by
  have ho := u8_wf wo
  have hn := u8_wf wn
  have hd := u8_wf wd
  obtain ⟨r0, e0⟩ := Int.eq_ofNat_of_zero_le (show 0 ≤ o % 14 by omega)
  rcases (show n / 3 % 2 = 0 ∨ n / 3 % 2 = 1 by omega) with h2 | h2
  · obtain ⟨r3, e3⟩ := Int.eq_ofNat_of_zero_le (show 0 ≤ d % 4 by omega)
    refine fc_calls (r0 := .ofNat r0) (r2 := 0) (v1 := .chan (some 5)) (v3 := .int .u8 (.ofNat r3)) (fc_ok ho hn hd e0 h2 (.inr rfl) (.inl ?_)) (allN_get (AllU.get cases0 r0 (by omega)) r3 (by omega))
    rw [e3]; rfl
  · obtain ⟨r1, e1⟩ := Int.eq_ofNat_of_zero_le (show 0 ≤ n % 3 by omega)
    refine fc_calls (r0 := .ofNat r0) (r2 := 1) (v1 := .int .u8 (.ofNat r1)) (v3 := .chan (some 8)) (fc_ok ho hn hd e0 h2 (.inl ?_) (.inr rfl)) (allN_get (AllU.get cases1 r0 (by omega)) r1 (by omega))
    rw [e1]; rfl
end Go.Proofs.Ytheedjgpfpghbaa
