/- serve.Check comes to what is told of it, for every configuration with views. -/
import Derived.Test.YtidggficpcdpoaaGreatDoorWalkA

namespace Go.Proofs.YtidggficpcdpoaaGreatDoor
open Go.RowKit
set_option maxHeartbeats 8000000

theorem in_is {n lo hi : Int} {q : Bool} (w : World) (h : inB n lo hi = q) : Calls Tryz.prog 13 #[.int .i64 n, .int .i64 lo, .int .i64 hi] w fun e w' => e = .returned (.bool q) ∧ w = w' := h ▸ in_any n lo hi w

set_option maxRecDepth 100000 in
theorem check_some (b off len cap : Nat) (s d l : Nat → Int) (c1 c2 c3 c4 c5 c6 c7 c8 c9 c10 c11 : Int) (w : World) (hb : b < w.heap.size) (hl : len ≤ maxLen)
    (hv : ∀ i, i < len → V3 w b (off + i * 3) (s i) (d i) (l i)) :
    Calls Tryz.prog 9 #[.agg #[.slice (some ⟨b, off, none⟩) len cap, .int .i64 c1, .int .i64 c2, .int .i64 c3, .int .i64 c4, .int .i64 c5, .int .i64 c6, .int .i64 c7, .int .i64 c8, .int .i64 c9, .int .i64 c10, .int .i64 c11]] w
      (Gives (.int .i64 (chkRes len s d l (cres len c1 c2 c3 c4 c5 c6 c7 c8 c9 c10 c11))) w) := by
  have HV := Lib.hid hv
  clear hv
  unfold maxLen at hl
  go_enter Tryz.func9, Tryz.ntmps9
  go_wp2
  go_loopw [9] (fun i wr => ∃ k : Nat, k ≤ len ∧ i = .int .i64 k ∧ Hid (anyBad s d l k = false) ∧ Hid (CfgAt wr w.heap.size (.slice (some ⟨b, off, none⟩) len cap) c1 c2 c3 c4 c5 c6 c7 c8 c9 c10 c11) ∧ w.heap.size < wr.heap.size ∧ Below w.heap.size w wr) (fun i _ => len - (intOf i).toNat)
  case atStart => exact ⟨0, Nat.zero_le _, rfl, rfl, by simp [CfgAt, Hid], by simp, (Below.refl _ _).alloc (Nat.le_refl _) _⟩
  case round =>
    obtain ⟨k, hk, rfl, hAny, hCfg, hsz, hbel⟩ := hrel
    by_cases hlt : k < len
    · obtain ⟨v1, v2, v3⟩ := HV.out k hlt
      replace v1 := below_cell hbel hb v1
      replace v2 := below_cell hbel hb v2
      replace v3 := below_cell hbel hb v3
      by_cases hbad : vbad (s k) (d k) (l k) = true
      · have HB := Lib.hid hbad
        clear hbad
        go_wp2_with (go_at_call 12; refine (view_bad _ _ _ _ HB.out).mono ?_; rintro e w' ⟨rfl, hw'⟩)
        go_ret
        exact ⟨ret_int (chk_bad hlt HB.out), hbel.trans ((((Below.refl _ _).alloc (Nat.le_refl _) _).mono (by omega)).trans (hw'.mono (by simp; omega)))⟩
      · have HB := Lib.hid (show vbad (s k) (d k) (l k) = false by simpa using hbad)
        clear hbad
        go_wp2_with (go_at_call 12; refine (view_ok _ _ _ _ HB.out).mono ?_; rintro e w' ⟨rfl, hw'⟩)
        have hx : Below wr.heap.size wr w' := ((Below.refl _ _).alloc (Nat.le_refl _) _).trans (hw'.mono (by simp))
        go_roundw
        case rel => exact ⟨k + 1, by omega, by go_num, anyBad_succ hAny.out HB.out, hCfg.out.below hx hsz, by have := hx.size; omega, hbel.trans (hx.mono (by omega))⟩
        case measure => simp [intOf]; omega
    · obtain rfl : k = len := by omega
      obtain ⟨g0, g1, g2, g3, g4, g5, g6, g7, g8, g9, g10, g11⟩ := hCfg.out
      clear hCfg
      clear hlt HV hk hl
      by_cases h0 : inB (k : Int) 1 4 = true
      rotate_left
      · have t0 := Lib.hid (show inB (k : Int) 1 4 = false by simpa using h0)
        clear h0
        go_wp2_with (go_at_call 13; (first | (with_reducible refine (in_is _ t0.out).mono ?_)); rintro e w' ⟨rfl, rfl⟩)
        go_ret
        exact ⟨ret_int ((show (24 : Int) = cres _ _ _ _ _ _ _ _ _ _ _ _ from by unfold cres; rw [if_neg (by simp [t0.out])]).trans (chk_ok hAny.out)), hbel⟩
      have t0 := Lib.hid h0
      clear h0
      by_cases h1 : inB c1 1 8 = true
      rotate_left
      · have t1 := Lib.hid (show inB c1 1 8 = false by simpa using h1)
        clear h1
        go_wp2_with (go_at_call 13; (first | (with_reducible refine (in_is _ t0.out).mono ?_) | (with_reducible refine (in_is _ t1.out).mono ?_)); rintro e w' ⟨rfl, rfl⟩)
        go_ret
        exact ⟨ret_int ((show (24 : Int) = cres _ _ _ _ _ _ _ _ _ _ _ _ from by unfold cres; rw [if_neg (by simp [t1.out])]).trans (chk_ok hAny.out)), hbel⟩
      have t1 := Lib.hid h1
      clear h1
      by_cases h2 : inB c2 1 8 = true
      rotate_left
      · have t2 := Lib.hid (show inB c2 1 8 = false by simpa using h2)
        clear h2
        go_wp2_with (go_at_call 13; (first | (with_reducible refine (in_is _ t0.out).mono ?_) | (with_reducible refine (in_is _ t1.out).mono ?_) | (with_reducible refine (in_is _ t2.out).mono ?_)); rintro e w' ⟨rfl, rfl⟩)
        go_ret
        exact ⟨ret_int ((show (24 : Int) = cres _ _ _ _ _ _ _ _ _ _ _ _ from by unfold cres; rw [if_neg (by simp [t2.out])]).trans (chk_ok hAny.out)), hbel⟩
      have t2 := Lib.hid h2
      clear h2
      by_cases h3 : inB c3 1 16 = true
      rotate_left
      · have t3 := Lib.hid (show inB c3 1 16 = false by simpa using h3)
        clear h3
        go_wp2_with (go_at_call 13; (first | (with_reducible refine (in_is _ t0.out).mono ?_) | (with_reducible refine (in_is _ t1.out).mono ?_) | (with_reducible refine (in_is _ t2.out).mono ?_) | (with_reducible refine (in_is _ t3.out).mono ?_)); rintro e w' ⟨rfl, rfl⟩)
        go_ret
        exact ⟨ret_int ((show (24 : Int) = cres _ _ _ _ _ _ _ _ _ _ _ _ from by unfold cres; rw [if_neg (by simp [t3.out])]).trans (chk_ok hAny.out)), hbel⟩
      have t3 := Lib.hid h3
      clear h3
      by_cases h4 : inB c4 2 1048576 = true
      rotate_left
      · have t4 := Lib.hid (show inB c4 2 1048576 = false by simpa using h4)
        clear h4
        go_wp2_with (go_at_call 13; (first | (with_reducible refine (in_is _ t0.out).mono ?_) | (with_reducible refine (in_is _ t1.out).mono ?_) | (with_reducible refine (in_is _ t2.out).mono ?_) | (with_reducible refine (in_is _ t3.out).mono ?_) | (with_reducible refine (in_is _ t4.out).mono ?_)); rintro e w' ⟨rfl, rfl⟩)
        go_ret
        exact ⟨ret_int ((show (24 : Int) = cres _ _ _ _ _ _ _ _ _ _ _ _ from by unfold cres; rw [if_neg (by simp [t4.out])]).trans (chk_ok hAny.out)), hbel⟩
      have t4 := Lib.hid h4
      clear h4
      by_cases h5 : inB c5 1 64 = true
      rotate_left
      · have t5 := Lib.hid (show inB c5 1 64 = false by simpa using h5)
        clear h5
        go_wp2_with (go_at_call 13; (first | (with_reducible refine (in_is _ t0.out).mono ?_) | (with_reducible refine (in_is _ t1.out).mono ?_) | (with_reducible refine (in_is _ t2.out).mono ?_) | (with_reducible refine (in_is _ t3.out).mono ?_) | (with_reducible refine (in_is _ t4.out).mono ?_) | (with_reducible refine (in_is _ t5.out).mono ?_)); rintro e w' ⟨rfl, rfl⟩)
        go_ret
        exact ⟨ret_int ((show (24 : Int) = cres _ _ _ _ _ _ _ _ _ _ _ _ from by unfold cres; rw [if_neg (by simp [t5.out])]).trans (chk_ok hAny.out)), hbel⟩
      have t5 := Lib.hid h5
      clear h5
      by_cases h6 : inB c6 1 64 = true
      rotate_left
      · have t6 := Lib.hid (show inB c6 1 64 = false by simpa using h6)
        clear h6
        go_wp2_with (go_at_call 13; (first | (with_reducible refine (in_is _ t0.out).mono ?_) | (with_reducible refine (in_is _ t1.out).mono ?_) | (with_reducible refine (in_is _ t2.out).mono ?_) | (with_reducible refine (in_is _ t3.out).mono ?_) | (with_reducible refine (in_is _ t4.out).mono ?_) | (with_reducible refine (in_is _ t5.out).mono ?_) | (with_reducible refine (in_is _ t6.out).mono ?_)); rintro e w' ⟨rfl, rfl⟩)
        go_ret
        exact ⟨ret_int ((show (24 : Int) = cres _ _ _ _ _ _ _ _ _ _ _ _ from by unfold cres; rw [if_neg (by simp [t6.out])]).trans (chk_ok hAny.out)), hbel⟩
      have t6 := Lib.hid h6
      clear h6
      by_cases h7 : inB c7 1 64 = true
      rotate_left
      · have t7 := Lib.hid (show inB c7 1 64 = false by simpa using h7)
        clear h7
        go_wp2_with (go_at_call 13; (first | (with_reducible refine (in_is _ t0.out).mono ?_) | (with_reducible refine (in_is _ t1.out).mono ?_) | (with_reducible refine (in_is _ t2.out).mono ?_) | (with_reducible refine (in_is _ t3.out).mono ?_) | (with_reducible refine (in_is _ t4.out).mono ?_) | (with_reducible refine (in_is _ t5.out).mono ?_) | (with_reducible refine (in_is _ t6.out).mono ?_) | (with_reducible refine (in_is _ t7.out).mono ?_)); rintro e w' ⟨rfl, rfl⟩)
        go_ret
        exact ⟨ret_int ((show (24 : Int) = cres _ _ _ _ _ _ _ _ _ _ _ _ from by unfold cres; rw [if_neg (by simp [t7.out])]).trans (chk_ok hAny.out)), hbel⟩
      have t7 := Lib.hid h7
      clear h7
      by_cases h8 : inB c8 1 64 = true
      rotate_left
      · have t8 := Lib.hid (show inB c8 1 64 = false by simpa using h8)
        clear h8
        go_wp2_with (go_at_call 13; (first | (with_reducible refine (in_is _ t0.out).mono ?_) | (with_reducible refine (in_is _ t1.out).mono ?_) | (with_reducible refine (in_is _ t2.out).mono ?_) | (with_reducible refine (in_is _ t3.out).mono ?_) | (with_reducible refine (in_is _ t4.out).mono ?_) | (with_reducible refine (in_is _ t5.out).mono ?_) | (with_reducible refine (in_is _ t6.out).mono ?_) | (with_reducible refine (in_is _ t7.out).mono ?_) | (with_reducible refine (in_is _ t8.out).mono ?_)); rintro e w' ⟨rfl, rfl⟩)
        go_ret
        exact ⟨ret_int ((show (24 : Int) = cres _ _ _ _ _ _ _ _ _ _ _ _ from by unfold cres; rw [if_neg (by simp [t8.out])]).trans (chk_ok hAny.out)), hbel⟩
      have t8 := Lib.hid h8
      clear h8
      by_cases h9 : inB c9 16 65536 = true
      rotate_left
      · have t9 := Lib.hid (show inB c9 16 65536 = false by simpa using h9)
        clear h9
        go_wp2_with (go_at_call 13; (first | (with_reducible refine (in_is _ t0.out).mono ?_) | (with_reducible refine (in_is _ t1.out).mono ?_) | (with_reducible refine (in_is _ t2.out).mono ?_) | (with_reducible refine (in_is _ t3.out).mono ?_) | (with_reducible refine (in_is _ t4.out).mono ?_) | (with_reducible refine (in_is _ t5.out).mono ?_) | (with_reducible refine (in_is _ t6.out).mono ?_) | (with_reducible refine (in_is _ t7.out).mono ?_) | (with_reducible refine (in_is _ t8.out).mono ?_) | (with_reducible refine (in_is _ t9.out).mono ?_)); rintro e w' ⟨rfl, rfl⟩)
        go_ret
        exact ⟨ret_int ((show (24 : Int) = cres _ _ _ _ _ _ _ _ _ _ _ _ from by unfold cres; rw [if_neg (by simp [t9.out])]).trans (chk_ok hAny.out)), hbel⟩
      have t9 := Lib.hid h9
      clear h9
      by_cases h10 : inB c10 1 131072 = true
      rotate_left
      · have t10 := Lib.hid (show inB c10 1 131072 = false by simpa using h10)
        clear h10
        go_wp2_with (go_at_call 13; (first | (with_reducible refine (in_is _ t0.out).mono ?_) | (with_reducible refine (in_is _ t1.out).mono ?_) | (with_reducible refine (in_is _ t2.out).mono ?_) | (with_reducible refine (in_is _ t3.out).mono ?_) | (with_reducible refine (in_is _ t4.out).mono ?_) | (with_reducible refine (in_is _ t5.out).mono ?_) | (with_reducible refine (in_is _ t6.out).mono ?_) | (with_reducible refine (in_is _ t7.out).mono ?_) | (with_reducible refine (in_is _ t8.out).mono ?_) | (with_reducible refine (in_is _ t9.out).mono ?_) | (with_reducible refine (in_is _ t10.out).mono ?_)); rintro e w' ⟨rfl, rfl⟩)
        go_ret
        exact ⟨ret_int ((show (24 : Int) = cres _ _ _ _ _ _ _ _ _ _ _ _ from by unfold cres; rw [if_neg (by simp [t10.out])]).trans (chk_ok hAny.out)), hbel⟩
      have t10 := Lib.hid h10
      clear h10
      by_cases h11 : inB c11 1 131072 = true
      rotate_left
      · have t11 := Lib.hid (show inB c11 1 131072 = false by simpa using h11)
        clear h11
        go_wp2_with (go_at_call 13; (first | (with_reducible refine (in_is _ t0.out).mono ?_) | (with_reducible refine (in_is _ t1.out).mono ?_) | (with_reducible refine (in_is _ t2.out).mono ?_) | (with_reducible refine (in_is _ t3.out).mono ?_) | (with_reducible refine (in_is _ t4.out).mono ?_) | (with_reducible refine (in_is _ t5.out).mono ?_) | (with_reducible refine (in_is _ t6.out).mono ?_) | (with_reducible refine (in_is _ t7.out).mono ?_) | (with_reducible refine (in_is _ t8.out).mono ?_) | (with_reducible refine (in_is _ t9.out).mono ?_) | (with_reducible refine (in_is _ t10.out).mono ?_) | (with_reducible refine (in_is _ t11.out).mono ?_)); rintro e w' ⟨rfl, rfl⟩)
        go_ret
        exact ⟨ret_int ((show (24 : Int) = cres _ _ _ _ _ _ _ _ _ _ _ _ from by unfold cres; rw [if_neg (by simp [t11.out])]).trans (chk_ok hAny.out)), hbel⟩
      have t11 := Lib.hid h11
      clear h11
      go_wp2_with (go_at_call 13; (first | (with_reducible refine (in_is _ t0.out).mono ?_) | (with_reducible refine (in_is _ t1.out).mono ?_) | (with_reducible refine (in_is _ t2.out).mono ?_) | (with_reducible refine (in_is _ t3.out).mono ?_) | (with_reducible refine (in_is _ t4.out).mono ?_) | (with_reducible refine (in_is _ t5.out).mono ?_) | (with_reducible refine (in_is _ t6.out).mono ?_) | (with_reducible refine (in_is _ t7.out).mono ?_) | (with_reducible refine (in_is _ t8.out).mono ?_) | (with_reducible refine (in_is _ t9.out).mono ?_) | (with_reducible refine (in_is _ t10.out).mono ?_) | (with_reducible refine (in_is _ t11.out).mono ?_)); rintro e w' ⟨rfl, rfl⟩)
      go_ret
      exact ⟨ret_int ((show (0 : Int) = cres _ _ _ _ _ _ _ _ _ _ _ _ from by unfold cres; rw [if_pos (by simp [t0.out, t1.out, t2.out, t3.out, t4.out, t5.out, t6.out, t7.out, t8.out, t9.out, t10.out, t11.out])]).trans (chk_ok hAny.out)), hbel⟩
end Go.Proofs.YtidggficpcdpoaaGreatDoor
