/- The comparison that the library's sort is handed. -/
import Derived.Test.YtdgpckcphkpclaaSl
import Derived.Test.YtdgpckcphkpclaaFwQ
import Derived.Deep.Draws
import Derived.WalkKit
import Derived.ProofKit
import Derived.Laws.Cover1
set_option linter.unusedVariables false
set_option linter.unusedSimpArgs false
set_option maxHeartbeats 0
set_option maxRecDepth 100000
namespace Go.Proofs.Ytdgpckcphkpclaa
open Go Go.Lib

def cmpStr (x y : ByteArray) : Int := if Op.bytesLess x.toList y.toList then -1 else if !(Op.bytesLess x.toList y.toList || x.toList == y.toList) then 1 else 0

theorem cloI (x y : Int) (W : World) : Calls Try.prog 31 #[.int .i64 x, .int .i64 y] W fun e w' => e = .returned (.int .i64 (Lib.compareInt x y)) ∧ ∃ q, w' = W.drewN q := by
  go_enter Try.func31, Try.ntmps31
  go_wp2
  all_goals (go_ret; refine ⟨?_, 0, rfl⟩; unfold Lib.compareInt)
  all_goals simp_all
  all_goals (rw [if_neg (by omega), if_neg (by omega)])

theorem cloS (x y : ByteArray) (W : World) : Calls Try.prog 35 #[.string x, .string y] W fun e w' => e = .returned (.int .i64 (cmpStr x y)) ∧ ∃ q, w' = W.drewN q := by
  go_enter Try.func35, Try.ntmps35
  go_wp2
  all_goals (go_ret; refine ⟨?_, 0, rfl⟩; unfold cmpStr)
  all_goals simp_all
end Go.Proofs.Ytdgpckcphkpclaa
