/- All cases. -/
import Derived.Test.YtheedjgpfpghbaaGreatPFrameReturns
set_option linter.unusedVariables false
namespace Go.Proofs.YtheedjgpfpghbaaGreat
open Go Go.Fw Go.Ev
theorem fr131_110_200 : ([200, 201, 202].all fun c => [200, 201, 202, 203, 204, 205, 206, 207, 208, 209, 210, 211, 212, 213, 214, 215, 216, 217].all fun d => frE 131 110 c d false true) = true := by kernel_rfl
theorem fr131_110_203 : ([203, 204, 205].all fun c => [200, 201, 202, 203, 204, 205, 206, 207, 208, 209, 210, 211, 212, 213, 214, 215, 216, 217].all fun d => frE 131 110 c d false true) = true := by kernel_rfl
theorem fr131_110_206 : ([206, 207, 208].all fun c => [200, 201, 202, 203, 204, 205, 206, 207, 208, 209, 210, 211, 212, 213, 214, 215, 216, 217].all fun d => frE 131 110 c d false true) = true := by kernel_rfl
theorem fr131_110_209 : ([209, 210, 211].all fun c => [200, 201, 202, 203, 204, 205, 206, 207, 208, 209, 210, 211, 212, 213, 214, 215, 216, 217].all fun d => frE 131 110 c d false true) = true := by kernel_rfl
theorem fr131_110_212 : ([212, 213, 214].all fun c => [200, 201, 202, 203, 204, 205, 206, 207, 208, 209, 210, 211, 212, 213, 214, 215, 216, 217].all fun d => frE 131 110 c d false true) = true := by kernel_rfl
theorem fr131_110_215 : ([215, 216, 217].all fun c => [200, 201, 202, 203, 204, 205, 206, 207, 208, 209, 210, 211, 212, 213, 214, 215, 216, 217].all fun d => frE 131 110 c d false true) = true := by kernel_rfl
theorem fs131_110 : ([200, 201, 202, 203, 204, 205, 206, 207, 208, 209, 210, 211, 212, 213, 214, 215, 216, 217].all fun d => frE 131 110 100 d true true && frE 131 110 100 d false false && frE 131 110 100 d true false) = true := by kernel_rfl
theorem fr131_111_200 : ([200, 201, 202].all fun c => [200, 201, 202, 203, 204, 205, 206, 207, 208, 209, 210, 211, 212, 213, 214, 215, 216, 217].all fun d => frE 131 111 c d false true) = true := by kernel_rfl
theorem fr131_111_203 : ([203, 204, 205].all fun c => [200, 201, 202, 203, 204, 205, 206, 207, 208, 209, 210, 211, 212, 213, 214, 215, 216, 217].all fun d => frE 131 111 c d false true) = true := by kernel_rfl
theorem fr131_111_206 : ([206, 207, 208].all fun c => [200, 201, 202, 203, 204, 205, 206, 207, 208, 209, 210, 211, 212, 213, 214, 215, 216, 217].all fun d => frE 131 111 c d false true) = true := by kernel_rfl
theorem fr131_111_209 : ([209, 210, 211].all fun c => [200, 201, 202, 203, 204, 205, 206, 207, 208, 209, 210, 211, 212, 213, 214, 215, 216, 217].all fun d => frE 131 111 c d false true) = true := by kernel_rfl
theorem fr131_111_212 : ([212, 213, 214].all fun c => [200, 201, 202, 203, 204, 205, 206, 207, 208, 209, 210, 211, 212, 213, 214, 215, 216, 217].all fun d => frE 131 111 c d false true) = true := by kernel_rfl
theorem fr131_111_215 : ([215, 216, 217].all fun c => [200, 201, 202, 203, 204, 205, 206, 207, 208, 209, 210, 211, 212, 213, 214, 215, 216, 217].all fun d => frE 131 111 c d false true) = true := by kernel_rfl
theorem fs131_111 : ([200, 201, 202, 203, 204, 205, 206, 207, 208, 209, 210, 211, 212, 213, 214, 215, 216, 217].all fun d => frE 131 111 100 d true true && frE 131 111 100 d false false && frE 131 111 100 d true false) = true := by kernel_rfl
end Go.Proofs.YtheedjgpfpghbaaGreat
