/- The law spatelaw20.WorldBounds returns true, whatever memory; what was there stays. -/
import Derived.Test.YtidggficpcdpoaaGreatDoorWalkD
import Derived.Test.YtidggficpcdpoaaGreatDoorKnown
import Derived.Deep.RegionHeld3

namespace Go.Proofs.YtidggficpcdpoaaGreatDoor
open Go.RowKit
set_option maxHeartbeats 8000000


theorem kp {w w' : World} {B : Nat} {v : Value} {c1 c2 c3 c4 c5 c6 c7 c8 c9 c10 c11 : Int} (hc : CfgAt w' B v c1 c2 c3 c4 c5 c6 c7 c8 c9 c10 c11) (hs : B < w'.heap.size) (hb : Below B w w') :
    w'.cell? ⟨B, 0, none⟩ = some v ∧ w'.cell? ⟨B, 1, none⟩ = some (.int .i64 c1) ∧ w'.cell? ⟨B, 2, none⟩ = some (.int .i64 c2) ∧ w'.cell? ⟨B, 3, none⟩ = some (.int .i64 c3) ∧ w'.cell? ⟨B, 4, none⟩ = some (.int .i64 c4) ∧ w'.cell? ⟨B, 5, none⟩ = some (.int .i64 c5) ∧ w'.cell? ⟨B, 6, none⟩ = some (.int .i64 c6) ∧ w'.cell? ⟨B, 7, none⟩ = some (.int .i64 c7) ∧ w'.cell? ⟨B, 8, none⟩ = some (.int .i64 c8) ∧ w'.cell? ⟨B, 9, none⟩ = some (.int .i64 c9) ∧ w'.cell? ⟨B, 10, none⟩ = some (.int .i64 c10) ∧ w'.cell? ⟨B, 11, none⟩ = some (.int .i64 c11) ∧ B < w'.heap.size ∧ Below B w w' := by
  obtain ⟨g0, g1, g2, g3, g4, g5, g6, g7, g8, g9, g10, g11⟩ := hc
  exact ⟨g0, g1, g2, g3, g4, g5, g6, g7, g8, g9, g10, g11, hs, hb⟩

set_option maxRecDepth 100000 in
theorem law_any (v : Value) (c1 c2 c3 c4 c5 c6 c7 c8 c9 c10 c11 t b c : Int) (w : World) (hv : Views w v) :
    Calls Tryz.prog 3 #[.agg #[v, .int .i64 c1, .int .i64 c2, .int .i64 c3, .int .i64 c4, .int .i64 c5, .int .i64 c6, .int .i64 c7, .int .i64 c8, .int .i64 c9, .int .i64 c10, .int .i64 c11], .int .i64 t, .int .i64 b, .int .i64 c] w
      (Gives (.bool true) w) := by
  obtain ⟨X, hX⟩ := bounds_same v c1 c2 c3 c4 c5 c6 c7 c8 c9 c10 c11 t b c w hv
  have HX := Lib.hid hX
  clear hX hv
  go_enter Tryz.func3, Tryz.ntmps3
  go_wp2
  generalize hW : w.alloc _ = W
  have hC : CfgAt W w.heap.size v c1 c2 c3 c4 c5 c6 c7 c8 c9 c10 c11 := by subst hW; simp [CfgAt]
  have hB : Below w.heap.size w W := by subst hW; exact (Below.refl _ _).alloc (Nat.le_refl _) _
  have hS : w.heap.size < W.heap.size := by subst hW; simp
  clear hW
  have HC := Lib.hid hC
  clear hC
  go_region_held3 (fun w' => w'.cell? ⟨w.heap.size, 0, none⟩ = some v ∧ w'.cell? ⟨w.heap.size, 1, none⟩ = some (.int .i64 c1) ∧ w'.cell? ⟨w.heap.size, 2, none⟩ = some (.int .i64 c2) ∧ w'.cell? ⟨w.heap.size, 3, none⟩ = some (.int .i64 c3) ∧ w'.cell? ⟨w.heap.size, 4, none⟩ = some (.int .i64 c4) ∧ w'.cell? ⟨w.heap.size, 5, none⟩ = some (.int .i64 c5) ∧ w'.cell? ⟨w.heap.size, 6, none⟩ = some (.int .i64 c6) ∧ w'.cell? ⟨w.heap.size, 7, none⟩ = some (.int .i64 c7) ∧ w'.cell? ⟨w.heap.size, 8, none⟩ = some (.int .i64 c8) ∧ w'.cell? ⟨w.heap.size, 9, none⟩ = some (.int .i64 c9) ∧ w'.cell? ⟨w.heap.size, 10, none⟩ = some (.int .i64 c10) ∧ w'.cell? ⟨w.heap.size, 11, none⟩ = some (.int .i64 c11) ∧ w.heap.size < w'.heap.size ∧ Below w.heap.size w w')
    (first
      | exact kp (w' := W.drew) HC.out hS hB.drew
      | exact kp hc1.out lt1 hb1
      | exact kp hc2.out lt2 hb2
      | exact kp hc3.out lt3 hb3)
    (first
      | (go_at_call 4; refine (known_calls _).mono ?_; rintro e w1 ⟨rfl, hk1⟩; have hc1 := Lib.hid (CfgAt.below (w := W.drew) HC.out hk1 hS); have lt1 : w.heap.size < w1.heap.size := Nat.lt_of_lt_of_le hS hk1.size; have hb1 : Below w.heap.size w w1 := hB.drew.trans (hk1.mono (Nat.le_of_lt hS)))
      | (go_at_call 5; refine (HX.out _ hb1).1.mono ?_; rintro e w2 ⟨rfl, hk2⟩; have hc2 := Lib.hid (hc1.out.below hk2 lt1); have lt2 : w.heap.size < w2.heap.size := Nat.lt_of_lt_of_le lt1 hk2.size; have hb2 : Below w.heap.size w w2 := hb1.trans (hk2.mono (Nat.le_of_lt lt1)))
      | (go_at_call 6; refine (HX.out _ hb2).2.mono ?_; rintro e w3 ⟨rfl, hk3⟩; have hc3 := Lib.hid (hc2.out.below hk3 lt2); have lt3 : w.heap.size < w3.heap.size := Nat.lt_of_lt_of_le lt2 hk3.size; have hb3 : Below w.heap.size w w3 := hb2.trans (hk3.mono (Nat.le_of_lt lt2))))
  go_wp2
  go_ret
  exact ⟨by simp, hb3⟩
end Go.Proofs.YtidggficpcdpoaaGreatDoor
