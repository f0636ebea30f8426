/- The example of the chapter: the kernel runs it. -/
import Derived.Test.YtadmocbjnalnmaaGreatAgeEnv
set_option linter.all false
set_option linter.unusedVariables false
set_option maxRecDepth 1000000
set_option maxHeartbeats 8000000
namespace Go.Age
open Go.Den Go.Proofs
theorem awakeOk : (match den E 24 9 [] [] with | some (.v (.bool true), _) => true | _ => false) = true := by decide +kernel
theorem f9 : ∃ H1, den E 24 9 [] [] = some (.v (.bool true), H1) := by
  have := awakeOk
  split at this
  · rename_i H1 h; exact ⟨H1, h⟩
  · cases this
theorem c9 (H : Hp) : callV E (den E 24) 9 [] H = some (.v (.bool true), H) := callV_plain rfl rfl rfl rfl f9 rfl
end Go.Age
