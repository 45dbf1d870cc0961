/- WorldBounds: for every configuration and all numbers the law returns true and leaves its arguments as they were; errors.errorType holds what the program's text lays. -/
import Derived.Test.YtidggficpcdpoaaGreatDoorRowC
import Derived.Test.YtidggficpcdpoaaGreatDoorRowD
import Derived.Test.YtidggficpcdpoaaGreatDoorRows
import Derived.JoinedOf
import Derived.JoinedCond
import Derived.KernelRfl
import GoSem.ClaimGoes
import Derived.Test.YtidggficpcdpoaaGreatDoorCards
import Derived.Test.YtidggficpcdpoaaGreatDoorTie
import Derived.WalkKit
import Derived.ProofKit
import Derived.OpenShut
import Derived.Deep.DeepHandedRow
import Derived.LaidHandle
import Derived.SevenTiedAt

namespace Go.Proofs.YtidggficpcdpoaaGreatDoor

theorem noneGo : Tryz.prog.funcs.toList.any Func.goes = false := by kernel_rfl

theorem goes_none {P : Program} (h : P.funcs.toList.any Func.goes = false) (f : FuncId) : P.goes f = false := by
  have h1 : ∀ fn, fn ∈ P.funcs.toList → Func.goes fn = false := fun fn hm => by
    cases hg : Func.goes fn with
    | false => rfl
    | true => rw [List.any_eq_true.2 ⟨fn, hm, hg⟩] at h; cases h
  have h2 : P.funcs.any Func.goes = false := by
    rw [← Array.any_toList]; exact h
  have h3 : ((P.closure f).any fun g => (P.funcs[g]?).any Func.goes) = false := by
    cases hc : (P.closure f).any fun g => (P.funcs[g]?).any Func.goes with
    | false => rfl
    | true =>
      obtain ⟨g, _, hg⟩ := List.any_eq_true.1 hc
      cases hf : P.funcs[g]? with
      | none => rw [hf] at hg; cases hg
      | some fn =>
        rw [hf] at hg
        rw [Option.any_some, h1 fn (by simpa using Array.mem_of_getElem? hf)] at hg
        cases hg
  unfold Program.goes
  rw [h3, h2, Bool.and_false]; rfl

theorem goesNot : false = Rows.worldBoundsRow.goesBy Tryz.pinned.checked.prog := by
  show false = ((Tryz.prog.funcNamed Rows.worldBoundsRow.func).any Tryz.prog.goes || false)
  rw [show Tryz.prog.funcNamed Rows.worldBoundsRow.func = some 3 by kernel_rfl, Option.any_some, goes_none noneGo]
  rfl
end Go.Proofs.YtidggficpcdpoaaGreatDoor

namespace Go.Proofs.YtidggficpcdpoaaGreatDoor
open Go.ChangeShapes Go.WideShapes Go.ChangeAt Go.RowKit

theorem named3 : Tryz.pinned.checked.prog.funcNamed Rows.worldBoundsRow.func = some 3 := by kernel_rfl
theorem inst3 : decide (Func.isInstance Tryz.pinned.checked.prog Tryz.f3 Rows.worldBoundsRow.origin Rows.worldBoundsRow.targs) = true := by kernel_rfl
theorem main3 : decide (Check.packageOf Tryz.f3.name = "main") = false := by kernel_rfl

theorem said : Rows.WorldBoundsSaid :=
  OpenClaim.holds_of_cond 3 Tryz.f3 rfl rfl rfl rfl rfl rfl rfl ⟨rfl, rfl, rfl, rfl, rfl⟩ rfl rfl rfl rfl rfl named3 Tryz.func3 facts
    (of_decide_eq_true inst3) (by unfold Func.isWrapper; rw [if_neg (of_decide_eq_false main3)]; exact ⟨rfl, rfl⟩)
    (fun os started H enc _ F => by rw [OpenClaim.pre_eq_preRow]; exact lifted os started H enc F)

theorem looks_nil : true = Tryz.pinned.checked.prog.looks [] := by kernel_rfl
theorem stand24 : Tryz.prog.wantsStandIn 24 = false := by kernel_rfl
theorem stand3 : Tryz.prog.wantsStandIn 3 = false := by kernel_rfl

theorem plain (f : FuncId) (fn : Func) (hf : Tryz.pinned.checked.prog.funcNamed "spate/spatelaw20.WorldBounds" = some f) (hfn : Tryz.pinned.checked.prog.funcs[f]? = some fn) :
    true = Tryz.pinned.checked.prog.looks [] ∧ ∀ (j : Nat) t, fn.params[j]? = some t → Tryz.pinned.checked.prog.wantsStandIn t = false := by
  obtain rfl : f = 3 := Option.some.inj (named3.symm.trans hf) |>.symm
  obtain rfl : fn = Tryz.f3 := (Option.some.inj (Tryz.func3.symm.trans hfn)).symm
  refine ⟨looks_nil, fun j t ht => ?_⟩
  rw [Tryz.params3] at ht
  have hm : t = 24 ∨ t = 3 := by simpa using Array.mem_of_getElem? ht
  rcases hm with rfl | rfl
  · exact stand24
  · exact stand3

theorem byText : OpenClaim.wfByText (OpenSpec.ofChange Rows.worldBoundsSpec) Rows.worldBoundsRow = true := by kernel_rfl
theorem mainOf : Tryz.pinned.checked.prog.mainIs = some ((true, "29663bcec0a9dc3db99ece26946d01c91b5b0aab3f8b23a6a8be6c73cb74bc00").fst, (true, "29663bcec0a9dc3db99ece26946d01c91b5b0aab3f8b23a6a8be6c73cb74bc00").snd.toList) := by kernel_rfl

theorem worldBounds_card : Rows.WorldBoundsCardSaid :=
  Claim7.holds_tied_plain_at .later [] _ _ _ _ said (fun _ h => by cases h) byText (fun _ h => by cases h) worldBounds_row_tie rfl ⟨rfl, rfl⟩ mainOf rfl plain goesNot
#print axioms worldBounds_card
end Go.Proofs.YtidggficpcdpoaaGreatDoor
