/- The closed run 'spate/spatelaw20.known' of this seat's program returns true, from whatever memory, and leaves what was there as it was. -/
import Derived.Test.YtidggficpcdpoaaGreatDoorEngI
import Derived.Test.YtidggficpcdpoaaGreatDoorProg
import Derived.KernelRfl
import Derived.Below
namespace Go.Proofs.YtidggficpcdpoaaGreatDoor
open Go.Eng

set_option maxRecDepth 1000000
theorem nm161 : (Tryz.f161.name == "runtime.NumGoroutine") = false := by kernel_rfl
theorem nb161 : Tryz.f161.body.isNone = true := by kernel_rfl
theorem nx161 : Extern.findNext Tryz.f161 = none := by kernel_rfl
theorem fd161 : Extern.find Tryz.f161 = some (fun _ => do mark .disable; pure Extern.Race.none_) := by kernel_rfl
theorem nm163 : (Tryz.f163.name == "runtime.NumGoroutine") = false := by kernel_rfl
theorem nb163 : Tryz.f163.body.isNone = true := by kernel_rfl
theorem nx163 : Extern.findNext Tryz.f163 = none := by kernel_rfl
theorem fd163 : Extern.find Tryz.f163 = some (fun _ => do mark .enable; pure Extern.Race.none_) := by kernel_rfl
theorem nm164 : (Tryz.f164.name == "runtime.NumGoroutine") = false := by kernel_rfl
theorem nb164 : Tryz.f164.body.isNone = true := by kernel_rfl
theorem nx164 : Extern.findNext Tryz.f164 = none := by kernel_rfl
theorem fd164 : Extern.find Tryz.f164 = some (Extern.Race.marked .acquire) := by kernel_rfl
theorem nm166 : (Tryz.f166.name == "runtime.NumGoroutine") = false := by kernel_rfl
theorem nb166 : Tryz.f166.body.isNone = true := by kernel_rfl
theorem nx166 : Extern.findNext Tryz.f166 = none := by kernel_rfl
theorem fd166 : Extern.find Tryz.f166 = some (Extern.Race.marked .releaseMerge) := by kernel_rfl
theorem nm162 : (Tryz.f162.name == "runtime.NumGoroutine") = false := by kernel_rfl
theorem nb162 : Tryz.f162.body.isNone = true := by kernel_rfl
theorem nx162 : Extern.findNext Tryz.f162 = none := by kernel_rfl
theorem fd162 : Extern.find Tryz.f162 = some (Extern.Atomic.casT (.int .i32)) := by kernel_rfl
theorem nm167 : (Tryz.f167.name == "runtime.NumGoroutine") = false := by kernel_rfl
theorem nb167 : Tryz.f167.body.isNone = true := by kernel_rfl
theorem nx167 : Extern.findNext Tryz.f167 = none := by kernel_rfl
theorem fd167 : Extern.find Tryz.f167 = some (Extern.Atomic.update (Op.intArith .add) .i32 true) := by kernel_rfl
theorem nm135 : (Tryz.f135.name == "runtime.NumGoroutine") = false := by kernel_rfl
theorem nb135 : Tryz.f135.body.isNone = true := by kernel_rfl
theorem nx135 : Extern.findNext Tryz.f135 = none := by kernel_rfl
theorem fd135 : Extern.find Tryz.f135 = some (Extern.Atomic.update (Op.intArith .add) .i64 true) := by kernel_rfl
theorem nm314 : (Tryz.f314.name == "runtime.NumGoroutine") = false := by kernel_rfl
theorem nb314 : Tryz.f314.body.isNone = true := by kernel_rfl
theorem nx314 : Extern.findNext Tryz.f314 = none := by kernel_rfl
theorem fd314 : Extern.find Tryz.f314 = some Extern.BytealgCompare.compare := by kernel_rfl
theorem mixed : Tryz.prog.follows .mixedOrders = true := by kernel_rfl
theorem noGo : noNG Tryz.prog = true := by kernel_rfl
theorem shiftOk : shiftChk Tryz.prog 111 226 51 4 = true := by kernel_rfl

noncomputable section
def hkTree : Tr (List Value → St → OR) := (((((((((Tr.leaf).set 161 hkMark0).set 163 hkMark0).set 164 hkMark1).set 166 hkMark1).set 162 (hkCas .i32)).set 167 (hkAdd .i32)).set 135 (hkAdd .i64)).set 314 hkCmp).set 111 (hkShift 226 51 4)
def hk : Hook := fun f => hkTree.get f
end

theorem hk_ok : ∀ f h, hk f = some h → HookOk Tryz.prog h f := by
  intro f h hf
  unfold hk hkTree at hf
  simp only [Tr.get_set_if, leaf_get] at hf
  split at hf
  · rename_i e; subst e; cases hf; exact hkShift_ok mixed (zeroOk _) shiftOk
  rename_i e111
  split at hf
  · rename_i e; subst e; cases hf; exact hkCmp_ok Tryz.func314 nm314 nb314 nx314 fd314
  rename_i e314
  split at hf
  · rename_i e; subst e; cases hf; exact hkAdd_ok Tryz.func135 nm135 nb135 nx135 fd135
  rename_i e135
  split at hf
  · rename_i e; subst e; cases hf; exact hkAdd_ok Tryz.func167 nm167 nb167 nx167 fd167
  rename_i e167
  split at hf
  · rename_i e; subst e; cases hf; exact hkCas_ok Tryz.func162 nm162 nb162 nx162 fd162
  rename_i e162
  split at hf
  · rename_i e; subst e; cases hf; exact hkMark1_ok Tryz.func166 nm166 nb166 nx166 .releaseMerge fd166
  rename_i e166
  split at hf
  · rename_i e; subst e; cases hf; exact hkMark1_ok Tryz.func164 nm164 nb164 nx164 .acquire fd164
  rename_i e164
  split at hf
  · rename_i e; subst e; cases hf; exact hkMark0_ok Tryz.func163 nm163 nb163 nx163 .enable fd163
  rename_i e163
  split at hf
  · rename_i e; subst e; cases hf; exact hkMark0_ok Tryz.func161 nm161 nb161 nx161 .disable fd161
  rename_i e161
  cases hf

theorem known_run : retT (acall Tryz.prog hk (1999 + 1) (.fn 4) [] ⟨.leaf, 1000⟩) = true := by kernel_rfl

theorem known_calls (w : World) : Calls Tryz.prog 4 #[] w fun e w' => e = .returned (.bool true) ∧ RowKit.Below w.heap.size w w' := by
  obtain ⟨S, hS⟩ := retT_inv known_run
  refine acall_calls mixed (zeroOk _) hk_ok (noNG_of noGo) ?_ hS w fun ρ v' w' hv hk => ?_
  · kernel_rfl
  · cases hv
    exact ⟨rfl, hk.2.2.2.1, hk.2.2.1, hk.2.2.2.2, hk.1, hk.2.1⟩

end Go.Proofs.YtidggficpcdpoaaGreatDoor
