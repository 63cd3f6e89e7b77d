/- All cases. -/
import Derived.Test.YtheedjgpfpghbaaGreatPFrameLocals
set_option linter.unusedVariables false
namespace Go.Proofs.YtheedjgpfpghbaaGreat
open Go Go.Fw Go.Ev
theorem fl130_110_200 : ([200, 201, 202].all fun c => [300, 301, 302, 303].all fun i => [300, 301, 302, 303].all fun j => flE 110 130 c i j) = true := by kernel_rfl
theorem fl130_110_203 : ([203, 204, 205].all fun c => [300, 301, 302, 303].all fun i => [300, 301, 302, 303].all fun j => flE 110 130 c i j) = true := by kernel_rfl
theorem fl130_110_206 : ([206, 207, 208].all fun c => [300, 301, 302, 303].all fun i => [300, 301, 302, 303].all fun j => flE 110 130 c i j) = true := by kernel_rfl
theorem fl130_110_209 : ([209, 210, 211].all fun c => [300, 301, 302, 303].all fun i => [300, 301, 302, 303].all fun j => flE 110 130 c i j) = true := by kernel_rfl
theorem fl130_110_212 : ([212, 213, 214].all fun c => [300, 301, 302, 303].all fun i => [300, 301, 302, 303].all fun j => flE 110 130 c i j) = true := by kernel_rfl
theorem fl130_110_215 : ([215, 216, 217].all fun c => [300, 301, 302, 303].all fun i => [300, 301, 302, 303].all fun j => flE 110 130 c i j) = true := by kernel_rfl
theorem fl130_111_200 : ([200, 201, 202].all fun c => [300, 301, 302, 303].all fun i => [300, 301, 302, 303].all fun j => flE 111 130 c i j) = true := by kernel_rfl
theorem fl130_111_203 : ([203, 204, 205].all fun c => [300, 301, 302, 303].all fun i => [300, 301, 302, 303].all fun j => flE 111 130 c i j) = true := by kernel_rfl
theorem fl130_111_206 : ([206, 207, 208].all fun c => [300, 301, 302, 303].all fun i => [300, 301, 302, 303].all fun j => flE 111 130 c i j) = true := by kernel_rfl
theorem fl130_111_209 : ([209, 210, 211].all fun c => [300, 301, 302, 303].all fun i => [300, 301, 302, 303].all fun j => flE 111 130 c i j) = true := by kernel_rfl
theorem fl130_111_212 : ([212, 213, 214].all fun c => [300, 301, 302, 303].all fun i => [300, 301, 302, 303].all fun j => flE 111 130 c i j) = true := by kernel_rfl
theorem fl130_111_215 : ([215, 216, 217].all fun c => [300, 301, 302, 303].all fun i => [300, 301, 302, 303].all fun j => flE 111 130 c i j) = true := by kernel_rfl
theorem fl131_110_200 : ([200, 201, 202].all fun c => [300, 301, 302, 303].all fun i => [300, 301, 302, 303].all fun j => flE 110 131 c i j) = true := by kernel_rfl
theorem fl131_110_203 : ([203, 204, 205].all fun c => [300, 301, 302, 303].all fun i => [300, 301, 302, 303].all fun j => flE 110 131 c i j) = true := by kernel_rfl
theorem fl131_110_206 : ([206, 207, 208].all fun c => [300, 301, 302, 303].all fun i => [300, 301, 302, 303].all fun j => flE 110 131 c i j) = true := by kernel_rfl
theorem fl131_110_209 : ([209, 210, 211].all fun c => [300, 301, 302, 303].all fun i => [300, 301, 302, 303].all fun j => flE 110 131 c i j) = true := by kernel_rfl
theorem fl131_110_212 : ([212, 213, 214].all fun c => [300, 301, 302, 303].all fun i => [300, 301, 302, 303].all fun j => flE 110 131 c i j) = true := by kernel_rfl
theorem fl131_110_215 : ([215, 216, 217].all fun c => [300, 301, 302, 303].all fun i => [300, 301, 302, 303].all fun j => flE 110 131 c i j) = true := by kernel_rfl
theorem fl131_111_200 : ([200, 201, 202].all fun c => [300, 301, 302, 303].all fun i => [300, 301, 302, 303].all fun j => flE 111 131 c i j) = true := by kernel_rfl
theorem fl131_111_203 : ([203, 204, 205].all fun c => [300, 301, 302, 303].all fun i => [300, 301, 302, 303].all fun j => flE 111 131 c i j) = true := by kernel_rfl
theorem fl131_111_206 : ([206, 207, 208].all fun c => [300, 301, 302, 303].all fun i => [300, 301, 302, 303].all fun j => flE 111 131 c i j) = true := by kernel_rfl
theorem fl131_111_209 : ([209, 210, 211].all fun c => [300, 301, 302, 303].all fun i => [300, 301, 302, 303].all fun j => flE 111 131 c i j) = true := by kernel_rfl
theorem fl131_111_212 : ([212, 213, 214].all fun c => [300, 301, 302, 303].all fun i => [300, 301, 302, 303].all fun j => flE 111 131 c i j) = true := by kernel_rfl
theorem fl131_111_215 : ([215, 216, 217].all fun c => [300, 301, 302, 303].all fun i => [300, 301, 302, 303].all fun j => flE 111 131 c i j) = true := by kernel_rfl
theorem flAll : ∀ q ∈ [130, 131], ∀ r ∈ [110, 111], ∀ c ∈ [200, 201, 202, 203, 204, 205, 206, 207, 208, 209, 210, 211, 212, 213, 214, 215, 216, 217], ∀ i ∈ [300, 301, 302, 303], ∀ j ∈ [300, 301, 302, 303], flE r q c i j = true := by
  have key : ∀ {r q : Nat} {l : List Nat}, (l.all fun c => [300, 301, 302, 303].all fun i => [300, 301, 302, 303].all fun j => flE r q c i j) = true → ∀ c ∈ l, ∀ i ∈ [300, 301, 302, 303], ∀ j ∈ [300, 301, 302, 303], flE r q c i j = true := fun h c hc i hi j hj => List.all_eq_true.1 (List.all_eq_true.1 (List.all_eq_true.1 h c hc) i hi) j hj
  intro q hq r hr c hc
  simp only [List.mem_cons, List.not_mem_nil, or_false] at hq hr
  have hc' : c ∈ [200, 201, 202] ∨ c ∈ [203, 204, 205] ∨ c ∈ [206, 207, 208] ∨ c ∈ [209, 210, 211] ∨ c ∈ [212, 213, 214] ∨ c ∈ [215, 216, 217] := by
    simp only [List.mem_cons, List.not_mem_nil, or_false] at hc ⊢
    omega
  rcases hq with rfl | rfl <;> rcases hr with rfl | rfl
  · rcases hc' with h | h | h | h | h | h
    · exact key fl130_110_200 c h
    · exact key fl130_110_203 c h
    · exact key fl130_110_206 c h
    · exact key fl130_110_209 c h
    · exact key fl130_110_212 c h
    · exact key fl130_110_215 c h
  · rcases hc' with h | h | h | h | h | h
    · exact key fl130_111_200 c h
    · exact key fl130_111_203 c h
    · exact key fl130_111_206 c h
    · exact key fl130_111_209 c h
    · exact key fl130_111_212 c h
    · exact key fl130_111_215 c h
  · rcases hc' with h | h | h | h | h | h
    · exact key fl131_110_200 c h
    · exact key fl131_110_203 c h
    · exact key fl131_110_206 c h
    · exact key fl131_110_209 c h
    · exact key fl131_110_212 c h
    · exact key fl131_110_215 c h
  · rcases hc' with h | h | h | h | h | h
    · exact key fl131_111_200 c h
    · exact key fl131_111_203 c h
    · exact key fl131_111_206 c h
    · exact key fl131_111_209 c h
    · exact key fl131_111_212 c h
    · exact key fl131_111_215 c h
theorem fl3 : parts arA 100 [300, 301, 302, 303] = true := by kernel_rfl
theorem FrameLocals_calls (k : Arr4_uint8) (wk : GoOpen.wf Tryz.prog 22 k) (x : Int) (wx : (Lit.int .u8 x).wf = true) (y : Int) (wy : (Lit.int .u8 y).wf = true) (a : Int) (wa : (Lit.int .u8 a).wf = true) (o : Int) (wo : (Lit.int .u8 o).wf = true) {W : World} :
    Calls Tryz.prog 4 #[.agg #[.int .u8 k.e0, .int .u8 k.e1, .int .u8 k.e2, .int .u8 k.e3], .int .u8 x, .int .u8 y, .int .u8 a, .int .u8 o] W (fun e W' => e = .returned (.bool true) ∧ Go.RowKit.Below W.heap.size W W') := by
  obtain ⟨q, hq, r, hr, hk⟩ := arK wk
  obtain ⟨c, hc, hx⟩ := arIn ofP wx
  obtain ⟨i, hi, ha⟩ := arIn fl3 wa
  obtain ⟨j, hj, ho⟩ := arIn fl3 wo
  obtain ⟨n, hn⟩ := Int.eq_ofNat_of_zero_le (u8_wf wy).1
  have hy : RelA arA 100 (.int .u8 y) := by
    have := u8_wf wy
    rw [hn]; exact RelA.u (Nat.le_refl _) (by omega) rfl
  letI := arS
  exact law_D (callE_ok (ctx arH) fns (primL_ok flPrimsOk) 10000) (flAll q hq r hr c hc i hi j hj) (.cons hk (.cons (arV hx) (.cons (arV hy) (.cons (arV ha) (.cons (arV ho) .nil)))))
end Go.Proofs.YtheedjgpfpghbaaGreat
