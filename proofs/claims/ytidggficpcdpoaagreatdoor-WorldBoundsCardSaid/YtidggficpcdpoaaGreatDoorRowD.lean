/- The row's closed facts about the program. -/
import Derived.Test.YtidggficpcdpoaaGreatDoorRows
import Derived.JoinedOf
import Derived.JoinedCond
import Derived.KernelRfl

namespace Go.Proofs.YtidggficpcdpoaaGreatDoor

theorem and_of {a b : Bool} (h1 : a = true) (h2 : b = true) : (a && b) = true := by rw [h1, h2]; rfl

set_option maxHeartbeats 8000000 in
theorem facts : joinedFacts Tryz.pinned.checked.prog 3 Tryz.f3 (OpenSpec.ofChange Rows.worldBoundsSpec).bare Rows.worldBoundsRow = true := by
  unfold joinedFacts
  repeat' (with_reducible apply and_of)
  all_goals (as_aux_lemma => kernel_rfl)
end Go.Proofs.YtidggficpcdpoaaGreatDoor
