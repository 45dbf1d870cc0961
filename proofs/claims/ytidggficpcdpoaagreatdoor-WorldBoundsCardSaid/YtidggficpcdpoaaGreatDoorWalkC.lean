/- spateref18.Check comes to the same. -/
import Derived.Test.YtidggficpcdpoaaGreatDoorWalkA

namespace Go.Proofs.YtidggficpcdpoaaGreatDoor
open Go.RowKit
set_option maxHeartbeats 8000000

set_option maxRecDepth 100000 in
theorem rcheck_some (b off len cap : Nat) (s d l : Nat → Int) (c1 c2 c3 c4 c5 c6 c7 c8 c9 c10 c11 : Int) (w : World) (hb : b < w.heap.size) (hl : len ≤ maxLen)
    (hv : ∀ i, i < len → V3 w b (off + i * 3) (s i) (d i) (l i)) :
    Calls Tryz.prog 10 #[.agg #[.slice (some ⟨b, off, none⟩) len cap, .int .i64 c1, .int .i64 c2, .int .i64 c3, .int .i64 c4, .int .i64 c5, .int .i64 c6, .int .i64 c7, .int .i64 c8, .int .i64 c9, .int .i64 c10, .int .i64 c11]] w
      (Gives (.int .i64 (chkRes len s d l (cres len c1 c2 c3 c4 c5 c6 c7 c8 c9 c10 c11))) w) := by
  have HV := Lib.hid hv
  clear hv
  unfold maxLen at hl
  go_enter Tryz.func10, Tryz.ntmps10
  go_wp2
  go_loopw [3] (fun i wr => ∃ k : Nat, k ≤ len ∧ i = .int .i64 k ∧ Hid (anyBad s d l k = false) ∧ Hid (CfgAt wr w.heap.size (.slice (some ⟨b, off, none⟩) len cap) c1 c2 c3 c4 c5 c6 c7 c8 c9 c10 c11) ∧ w.heap.size < wr.heap.size ∧ Below w.heap.size w wr) (fun i _ => len - (intOf i).toNat)
  case atStart => exact ⟨0, Nat.zero_le _, rfl, rfl, by simp [CfgAt, Hid], by simp, (Below.refl _ _).alloc (Nat.le_refl _) _⟩
  case round =>
    obtain ⟨k, hk, rfl, hAny, hCfg, hsz, hbel⟩ := hrel
    have g0 := hCfg.out.1
    by_cases hlt : k < len
    · obtain ⟨v1, v2, v3⟩ := HV.out k hlt
      replace v1 := below_cell hbel hb v1
      replace v2 := below_cell hbel hb v2
      replace v3 := below_cell hbel hb v3
      by_cases hbad : vbad (s k) (d k) (l k) = true
      · have HB := Lib.hid hbad
        clear hbad
        go_wp2_with (go_at_call 14; refine (rview_bad _ _ _ _ HB.out).mono ?_; rintro e w' ⟨rfl, hw'⟩)
        go_ret
        exact ⟨ret_int (chk_bad hlt HB.out), hbel.trans (hw'.mono (by omega))⟩
      · have HB := Lib.hid (show vbad (s k) (d k) (l k) = false by simpa using hbad)
        clear hbad
        go_wp2_with (go_at_call 14; refine (rview_ok _ _ _ _ HB.out).mono ?_; rintro e w' ⟨rfl, hw'⟩)
        go_roundw
        case rel => exact ⟨k + 1, by omega, by go_num, anyBad_succ hAny.out HB.out, hCfg.out.below hw' hsz, by have := hw'.size; omega, hbel.trans (hw'.mono (by omega))⟩
        case measure => simp [intOf]; omega
    · obtain rfl : k = len := by omega
      clear g0
      obtain ⟨g0, g1, g2, g3, g4, g5, g6, g7, g8, g9, g10, g11⟩ := hCfg.out
      clear hCfg
      clear hlt HV
      go_wp2_with (go_at_call 15; refine (to_any _ _ _ _).mono ?_; rintro e w' ⟨rfl, rfl⟩)
      all_goals go_ret
      all_goals first
        | exact ⟨ret_int ((show (24 : Int) = cres _ _ _ _ _ _ _ _ _ _ _ _ from by unfold cres; rw [if_neg (by first | (simp [*]; done) | (simp [*]; exact (Bool.not_eq_true' _).mp (by assumption)))]).trans (chk_ok hAny.out)), hbel⟩
        | exact ⟨ret_int ((show (0 : Int) = cres _ _ _ _ _ _ _ _ _ _ _ _ from by unfold cres; rw [if_pos (by first | (simp [*]; done) | (simp [*]; exact (Bool.not_eq_false' _).mp (by assumption)))]).trans (chk_ok hAny.out)), hbel⟩
end Go.Proofs.YtidggficpcdpoaaGreatDoor
