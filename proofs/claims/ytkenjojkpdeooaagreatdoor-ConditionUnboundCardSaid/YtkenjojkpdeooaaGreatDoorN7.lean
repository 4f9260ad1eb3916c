/- The chapter's example: a closed run. -/
import Derived.Test.YtkenjojkpdeooaaGreatDoorN6
section
set_option linter.unusedVariables false
set_option maxRecDepth 100000
set_option linter.unusedSimpArgs false
set_option linter.constructorNameAsVariable false
namespace Go.Proofs.YtkenjojkpdeooaaGreatDoor
open AI

theorem run17 : callN ctx noLoops ext 60 17 [] [] = some (.bool true, []) := by kernel_rfl
def spec17 : AI.Spec := fun xs m K => match xs, m with
  | [], [] => K (.bool true) []
  | _, _ => False
theorem f17 {cw : CallW} {lw : LoopW} : FOK cw lw 17 spec17 := by
  intro xs m K0 h
  unfold spec17 at h
  split at h
  · exact ⟨_, _, runs run17, fun K hK => hK⟩
  · exact h.elim
end Go.Proofs.YtkenjojkpdeooaaGreatDoor
end
