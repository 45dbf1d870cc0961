/- world.Bound and spateref20.Bound come to one number, for every configuration and all numbers. -/
import Derived.Test.YtidggficpcdpoaaGreatDoorWalkB
import Derived.Test.YtidggficpcdpoaaGreatDoorWalkC

namespace Go.Proofs.YtidggficpcdpoaaGreatDoor
open Go.RowKit
set_option maxHeartbeats 4000000

def okN (n : Int) : Bool := inB n 0 1048576
def psum (s d : Nat → Int) : Nat → Int
  | 0 => 0
  | k + 1 => psum s d k + (s k + d k - 1) / d k

theorem chk_three (len : Nat) (s d l : Nat → Int) (c : Int) (hc : c = 0 ∨ c = 24) : chkRes len s d l c = 0 ∨ chkRes len s d l c = 23 ∨ chkRes len s d l c = 24 := by
  unfold chkRes
  split
  · exact .inr (.inl rfl)
  · rcases hc with h | h
    · exact .inl h
    · exact .inr (.inr h)

theorem cres_two (c0 c1 c2 c3 c4 c5 c6 c7 c8 c9 c10 c11 : Int) : cres c0 c1 c2 c3 c4 c5 c6 c7 c8 c9 c10 c11 = 0 ∨ cres c0 c1 c2 c3 c4 c5 c6 c7 c8 c9 c10 c11 = 24 := by
  unfold cres
  split
  · exact .inl rfl
  · exact .inr rfl

/-- A check's answer, given. -/
theorem check_is (b off len cap : Nat) (s d l : Nat → Int) (c1 c2 c3 c4 c5 c6 c7 c8 c9 c10 c11 r : Int) (w : World) (hb : b < w.heap.size) (hl : len ≤ maxLen)
    (hv : ∀ i, i < len → V3 w b (off + i * 3) (s i) (d i) (l i)) (hr : chkRes len s d l (cres len c1 c2 c3 c4 c5 c6 c7 c8 c9 c10 c11) = r) :
    Calls Tryz.prog 9 #[.agg #[.slice (some ⟨b, off, none⟩) len cap, .int .i64 c1, .int .i64 c2, .int .i64 c3, .int .i64 c4, .int .i64 c5, .int .i64 c6, .int .i64 c7, .int .i64 c8, .int .i64 c9, .int .i64 c10, .int .i64 c11]] w (Gives (.int .i64 r) w) :=
  hr ▸ check_some b off len cap s d l c1 c2 c3 c4 c5 c6 c7 c8 c9 c10 c11 w hb hl hv

set_option maxRecDepth 100000 in
/-- Numbers that are out of bounds. -/
theorem bound_out (v : Value) (c1 c2 c3 c4 c5 c6 c7 c8 c9 c10 c11 t b c : Int) (w : World) (h : ¬ ((0 ≤ t ∧ t ≤ 1048576) ∧ (0 ≤ b ∧ b ≤ 1048576) ∧ (0 ≤ c ∧ c ≤ 1048576))) :
    Calls Tryz.prog 5 #[.agg #[v, .int .i64 c1, .int .i64 c2, .int .i64 c3, .int .i64 c4, .int .i64 c5, .int .i64 c6, .int .i64 c7, .int .i64 c8, .int .i64 c9, .int .i64 c10, .int .i64 c11], .int .i64 t, .int .i64 b, .int .i64 c] w
      (Gives (.int .i64 (-1)) w) := by
  have H := Lib.hid h
  clear h
  go_enter Tryz.func5, Tryz.ntmps5
  go_wp2
  go_loop [19] (fun i => ∃ k : Nat, k ≤ 3 ∧ i = .int .i64 k ∧ Hid ((1 ≤ k → 0 ≤ t ∧ t ≤ 1048576) ∧ (2 ≤ k → 0 ≤ b ∧ b ≤ 1048576) ∧ (3 ≤ k → 0 ≤ c ∧ c ≤ 1048576))) (fun i => 3 - (intOf i).toNat)
  case atStart => exact ⟨0, by omega, rfl, ⟨fun h => by omega, fun h => by omega, fun h => by omega⟩⟩
  case round =>
    obtain ⟨k, hk, rfl, hok⟩ := hrel
    have h3 : k ≠ 3 := fun e => H.out ⟨hok.out.1 (by omega), hok.out.2.1 (by omega), hok.out.2.2 (by omega)⟩
    have hcs : k = 0 ∨ k = 1 ∨ k = 2 := by omega
    clear h3 hk
    rcases hcs with rfl | rfl | rfl
    · by_cases h1 : t < 0
      · go_wp2
        go_ret
        exact ⟨ret_int rfl, ((Below.refl _ _).alloc (Nat.le_refl _) _).alloc (by simp) _⟩
      · by_cases h2 : 1048576 < t
        · go_wp2
          go_ret
          exact ⟨ret_int rfl, ((Below.refl _ _).alloc (Nat.le_refl _) _).alloc (by simp) _⟩
        · go_wp2
          go_round
          case rel => exact ⟨1, by omega, by go_num, ⟨fun _ => by omega, fun h => by omega, fun h => by omega⟩⟩
          case measure => simp [intOf]
    · have hq := hok.out.1 (by omega)
      by_cases h1 : b < 0
      · go_wp2
        go_ret
        exact ⟨ret_int rfl, ((Below.refl _ _).alloc (Nat.le_refl _) _).alloc (by simp) _⟩
      · by_cases h2 : 1048576 < b
        · go_wp2
          go_ret
          exact ⟨ret_int rfl, ((Below.refl _ _).alloc (Nat.le_refl _) _).alloc (by simp) _⟩
        · go_wp2
          go_round
          case rel => exact ⟨2, by omega, by go_num, ⟨fun _ => hq, fun h => by omega, fun h => by omega⟩⟩
          case measure => simp [intOf]
    · have hq := hok.out.1 (by omega)
      have hq2 := hok.out.2.1 (by omega)
      by_cases h1 : c < 0
      · go_wp2
        go_ret
        exact ⟨ret_int rfl, ((Below.refl _ _).alloc (Nat.le_refl _) _).alloc (by simp) _⟩
      · by_cases h2 : 1048576 < c
        · go_wp2
          go_ret
          exact ⟨ret_int rfl, ((Below.refl _ _).alloc (Nat.le_refl _) _).alloc (by simp) _⟩
        · exact absurd ⟨hq, hq2, by omega⟩ H.out
end Go.Proofs.YtidggficpcdpoaaGreatDoor

namespace Go.Proofs.YtidggficpcdpoaaGreatDoor
open Go.RowKit
set_option maxHeartbeats 8000000

theorem V3.below {w w' : World} {B b off : Nat} {s d l : Int} (h : V3 w b off s d l) (hb : Below B w w') (hB : b < B) : V3 w' b off s d l :=
  ⟨below_cell hb hB h.1, below_cell hb hB h.2.1, below_cell hb hB h.2.2⟩

set_option maxRecDepth 100000 in
/-- A configuration that is not right. -/
theorem bound_bad (sb off len cap : Nat) (s d l : Nat → Int) (c1 c2 c3 c4 c5 c6 c7 c8 c9 c10 c11 t b c r : Int) (w : World) (hb : sb < w.heap.size) (hl : len ≤ maxLen)
    (hv : ∀ i, i < len → V3 w sb (off + i * 3) (s i) (d i) (l i)) (hr : chkRes len s d l (cres len c1 c2 c3 c4 c5 c6 c7 c8 c9 c10 c11) = r) (hr2 : r = 23 ∨ r = 24) (h : (0 ≤ t ∧ t ≤ 1048576) ∧ (0 ≤ b ∧ b ≤ 1048576) ∧ (0 ≤ c ∧ c ≤ 1048576)) :
    Calls Tryz.prog 5 #[.agg #[.slice (some ⟨sb, off, none⟩) len cap, .int .i64 c1, .int .i64 c2, .int .i64 c3, .int .i64 c4, .int .i64 c5, .int .i64 c6, .int .i64 c7, .int .i64 c8, .int .i64 c9, .int .i64 c10, .int .i64 c11], .int .i64 t, .int .i64 b, .int .i64 c] w
      (Gives (.int .i64 (-1)) w) := by
  have HV := Lib.hid hv
  clear hv
  have HR := Lib.hid hr
  clear hr
  obtain ⟨⟨t1, t2⟩, ⟨b1, b2⟩, ⟨n1, n2⟩⟩ := h
  go_enter Tryz.func5, Tryz.ntmps5
  go_wp2
  go_loop [19] (fun i => ∃ k : Nat, k ≤ 3 ∧ i = .int .i64 k) (fun i => 3 - (intOf i).toNat)
  case atStart => exact ⟨0, by omega, rfl⟩
  case round =>
    obtain ⟨k, hk, rfl⟩ := hrel
    have hcs : k = 0 ∨ k = 1 ∨ k = 2 ∨ k = 3 := by omega
    clear hk
    rcases hcs with rfl | rfl | rfl | rfl
    · go_wp2
      go_round
      case rel => exact ⟨1, by omega, by go_num⟩
      case measure => simp [intOf]
    · go_wp2
      go_round
      case rel => exact ⟨2, by omega, by go_num⟩
      case measure => simp [intOf]
    · go_wp2
      go_round
      case rel => exact ⟨3, by omega, by go_num⟩
      case measure => simp [intOf]
    · rcases hr2 with rfl | rfl
      all_goals
        go_wp2_with fail
        have hB : Below w.heap.size w ((w.alloc (.cells #[.slice (some ⟨sb, off, none⟩) len cap, .int .i64 c1, .int .i64 c2, .int .i64 c3, .int .i64 c4, .int .i64 c5, .int .i64 c6, .int .i64 c7, .int .i64 c8, .int .i64 c9, .int .i64 c10, .int .i64 c11] 24)).alloc (.cells #[.int .i64 t, .int .i64 b, .int .i64 c] 3)) :=
          ((Below.refl _ _).alloc (Nat.le_refl _) _).alloc (by simp) _
        refine (check_is sb off len cap s d l c1 c2 c3 c4 c5 c6 c7 c8 c9 c10 c11 _ _ (by simp; omega) hl (fun i hi => (HV.out i hi).below hB hb) HR.out).mono ?_
        rintro e w' ⟨rfl, hw'⟩
        go_wp2
        go_ret
        exact ⟨ret_int rfl, hB.trans (hw'.mono (by simp; omega))⟩
end Go.Proofs.YtidggficpcdpoaaGreatDoor

namespace Go.Proofs.YtidggficpcdpoaaGreatDoor
open Go.RowKit
set_option maxHeartbeats 8000000

theorem vbad_false {s d l : Int} (h : vbad s d l = false) : 1 ≤ s ∧ s ≤ 1099511627776 ∧ 1 ≤ d ∧ d ≤ 1099511627776 ∧ s ≤ 64 * d := by
  have h' : ¬ (vbad s d l = true) := by simp [h]
  simp only [vbad, Bool.or_eq_true, decide_eq_true_eq] at h'
  omega

theorem anyBad_at {s d l : Nat → Int} : ∀ {n k : Nat}, anyBad s d l n = false → k < n → vbad (s k) (d k) (l k) = false
  | 0, k, _, hk => by omega
  | n + 1, k, h, hk => by
    have h' : (anyBad s d l n || vbad (s n) (d n) (l n)) = false := h
    rw [Bool.or_eq_false_iff] at h'
    by_cases e : k = n
    · rw [e]; exact h'.2
    · exact anyBad_at h'.1 (by omega)

theorem chk_zero {len : Nat} {s d l : Nat → Int} {c1 c2 c3 c4 c5 c6 c7 c8 c9 c10 c11 : Int} (h : chkRes len s d l (cres len c1 c2 c3 c4 c5 c6 c7 c8 c9 c10 c11) = 0) :
    anyBad s d l len = false ∧ len ≤ 4 ∧ 1 ≤ c3 ∧ c3 ≤ 16 := by
  unfold chkRes at h
  split at h
  · omega
  · rename_i h1
    have h1 : anyBad s d l len = false := by simpa using h1
    refine ⟨h1, ?_⟩
    unfold cres at h
    split at h
    · rename_i h2
      simp only [Bool.and_eq_true, inB, decide_eq_true_eq] at h2
      omega
    · omega

theorem q_bd {s d : Int} (h1 : 1 ≤ s) (h3 : 1 ≤ d) (h5 : s ≤ 64 * d) : 0 ≤ (s + d - 1) / d ∧ (s + d - 1) / d ≤ 64 := by
  refine ⟨Int.ediv_nonneg (by omega) (by omega), ?_⟩
  have : (s + d - 1) / d < 65 := Int.ediv_lt_of_lt_mul (by omega) (by omega)
  omega

theorem psum_bd {s d l : Nat → Int} {n : Nat} (h : anyBad s d l n = false) : ∀ k, k ≤ n → 0 ≤ psum s d k ∧ psum s d k ≤ 64 * k
  | 0, _ => by simp [psum]
  | k + 1, hk => by
    obtain ⟨i1, i2⟩ := psum_bd h k (by omega)
    obtain ⟨h1, h2, h3, h4, h5⟩ := vbad_false (anyBad_at h (show k < n by omega))
    obtain ⟨q1, q2⟩ := q_bd h1 h3 h5
    simp only [psum]
    omega

theorem w64 {x : Int} (h1 : 0 ≤ x) (h2 : x ≤ 9000000000000000000) : wrap64 x = x := by unfold wrap64; omega

theorem fin_eq {t p z : Int} (t1 : 0 ≤ t) (t2 : t ≤ 1048576) (p1 : 0 ≤ p) (p2 : p ≤ 256) (z1 : 0 ≤ z) (z2 : z ≤ 2097176) :
    wrap64 (40 + wrap64 (wrap64 (8 * (t + 2) * (2 * p + 8)) * z)) = 40 + 8 * (t + 2) * (2 * p + 8) * z := by
  have a1 : 0 ≤ 8 * (t + 2) * (2 * p + 8) := Int.mul_nonneg (by omega) (by omega)
  have a2 : 8 * (t + 2) * (2 * p + 8) ≤ 8388624 * 520 := Int.mul_le_mul (by omega) (by omega) (by omega) (by omega)
  generalize 8 * (t + 2) * (2 * p + 8) = A at a1 a2
  have b1 : 0 ≤ A * z := Int.mul_nonneg a1 z1
  have b2 : A * z ≤ 4362084480 * 2097176 := Int.mul_le_mul (by omega) z2 z1 (by omega)
  rw [w64 a1 (by omega), w64 b1 (by omega)]
  exact w64 (by omega) (by omega)

set_option maxRecDepth 100000 in
/-- A configuration that is right. -/
theorem bound_ok (sb off len cap : Nat) (s d l : Nat → Int) (c1 c2 c3 c4 c5 c6 c7 c8 c9 c10 c11 t b c : Int) (w : World) (hb : sb < w.heap.size) (hl : len ≤ maxLen)
    (hv : ∀ i, i < len → V3 w sb (off + i * 3) (s i) (d i) (l i)) (hr : chkRes len s d l (cres len c1 c2 c3 c4 c5 c6 c7 c8 c9 c10 c11) = 0) (h : (0 ≤ t ∧ t ≤ 1048576) ∧ (0 ≤ b ∧ b ≤ 1048576) ∧ (0 ≤ c ∧ c ≤ 1048576)) :
    Calls Tryz.prog 5 #[.agg #[.slice (some ⟨sb, off, none⟩) len cap, .int .i64 c1, .int .i64 c2, .int .i64 c3, .int .i64 c4, .int .i64 c5, .int .i64 c6, .int .i64 c7, .int .i64 c8, .int .i64 c9, .int .i64 c10, .int .i64 c11], .int .i64 t, .int .i64 b, .int .i64 c] w
      (Gives (.int .i64 (40 + 8 * (t + 2) * (2 * psum s d len + 8) * (b + c + c3 + 8))) w) := by
  obtain ⟨hA, hlen, z1, z2⟩ := chk_zero hr
  have HA := Lib.hid hA
  clear hA
  have HV := Lib.hid hv
  clear hv
  have HR := Lib.hid hr
  clear hr
  obtain ⟨⟨t1, t2⟩, ⟨b1, b2⟩, ⟨n1, n2⟩⟩ := h
  go_enter Tryz.func5, Tryz.ntmps5
  go_wp2
  go_loop [19] (fun i => ∃ k : Nat, k ≤ 3 ∧ i = .int .i64 k) (fun i => 3 - (intOf i).toNat)
  case atStart => exact ⟨0, by omega, rfl⟩
  case round =>
    obtain ⟨k, hk, rfl⟩ := hrel
    have hcs : k = 0 ∨ k = 1 ∨ k = 2 ∨ k = 3 := by omega
    clear hk
    rcases hcs with rfl | rfl | rfl | rfl
    · go_wp2
      go_round
      case rel => exact ⟨1, by omega, by go_num⟩
      case measure => simp [intOf]
    · go_wp2
      go_round
      case rel => exact ⟨2, by omega, by go_num⟩
      case measure => simp [intOf]
    · go_wp2
      go_round
      case rel => exact ⟨3, by omega, by go_num⟩
      case measure => simp [intOf]
    · go_wp2_with fail
      have hB : Below w.heap.size w ((w.alloc (.cells #[.slice (some ⟨sb, off, none⟩) len cap, .int .i64 c1, .int .i64 c2, .int .i64 c3, .int .i64 c4, .int .i64 c5, .int .i64 c6, .int .i64 c7, .int .i64 c8, .int .i64 c9, .int .i64 c10, .int .i64 c11] 24)).alloc (.cells #[.int .i64 t, .int .i64 b, .int .i64 c] 3)) :=
        ((Below.refl _ _).alloc (Nat.le_refl _) _).alloc (by simp) _
      have hC : CfgAt ((w.alloc (.cells #[.slice (some ⟨sb, off, none⟩) len cap, .int .i64 c1, .int .i64 c2, .int .i64 c3, .int .i64 c4, .int .i64 c5, .int .i64 c6, .int .i64 c7, .int .i64 c8, .int .i64 c9, .int .i64 c10, .int .i64 c11] 24)).alloc (.cells #[.int .i64 t, .int .i64 b, .int .i64 c] 3)) w.heap.size (.slice (some ⟨sb, off, none⟩) len cap) c1 c2 c3 c4 c5 c6 c7 c8 c9 c10 c11 := by
        simp [CfgAt]
      refine (check_is sb off len cap s d l c1 c2 c3 c4 c5 c6 c7 c8 c9 c10 c11 _ _ (by simp; omega) hl (fun i hi => (HV.out i hi).below hB hb) HR.out).mono ?_
      rintro e w1 ⟨rfl, hw1⟩
      have HC := Lib.hid (hC.below hw1 (by simp; omega))
      have hB1 := hB.trans (hw1.mono (by simp; omega))
      have hz1 : w.heap.size < w1.heap.size := by have := hw1.size; simp at this; omega
      clear hB hC hw1
      have g0 := HC.out.1
      go_wp2
      clear g0
      go_loopw [11, 36] (fun p i wr => ∃ k : Nat, k ≤ len ∧ i = .int .i64 k ∧ p = .int .i64 (psum s d k) ∧ w.heap.size < wr.heap.size ∧ Below (w.heap.size + 1) w1 wr) (fun _ i _ => len - (intOf i).toNat)
      case atStart => exact ⟨0, by omega, rfl, rfl, hz1, Below.refl _ _⟩
      case round =>
        obtain ⟨k, hk, rfl, rfl, hsz, hbel⟩ := hrel
        by_cases hlt : k < len
        · obtain ⟨v1, v2, v3⟩ := ((HV.out k hlt).below hB1 hb).below hbel (by omega)
          obtain ⟨a1, a2, a3, a4, a5⟩ := vbad_false (anyBad_at HA.out hlt)
          obtain ⟨q1, q2⟩ := q_bd a1 a3 a5
          obtain ⟨p1, p2⟩ := psum_bd HA.out k hk
          go_wp2
          go_roundw
          case rel => exact ⟨k + 1, by omega, by go_num, by go_num, by simp; omega, hbel.alloc (by omega) _⟩
          case measure => simp [intOf]; omega
        · obtain rfl : k = len := by omega
          have g3 := below_cell hbel (by omega) HC.out.2.2.2.1
          obtain ⟨p1, p2⟩ := psum_bd HA.out k hk
          go_wp2
          go_ret
          refine ⟨ret_int ?_, ?_⟩
          · exact fin_eq t1 t2 p1 (by omega) (by omega) (by omega)
          · exact hB1.trans (hbel.mono (by omega))
end Go.Proofs.YtidggficpcdpoaaGreatDoor

namespace Go.Proofs.YtidggficpcdpoaaGreatDoor
open Go.RowKit
set_option maxHeartbeats 8000000

theorem rcheck_is (b off len cap : Nat) (s d l : Nat → Int) (c1 c2 c3 c4 c5 c6 c7 c8 c9 c10 c11 r : Int) (w : World) (hb : b < w.heap.size) (hl : len ≤ maxLen)
    (hv : ∀ i, i < len → V3 w b (off + i * 3) (s i) (d i) (l i)) (hr : chkRes len s d l (cres len c1 c2 c3 c4 c5 c6 c7 c8 c9 c10 c11) = r) :
    Calls Tryz.prog 10 #[.agg #[.slice (some ⟨b, off, none⟩) len cap, .int .i64 c1, .int .i64 c2, .int .i64 c3, .int .i64 c4, .int .i64 c5, .int .i64 c6, .int .i64 c7, .int .i64 c8, .int .i64 c9, .int .i64 c10, .int .i64 c11]] w (Gives (.int .i64 r) w) :=
  hr ▸ rcheck_some b off len cap s d l c1 c2 c3 c4 c5 c6 c7 c8 c9 c10 c11 w hb hl hv

set_option maxRecDepth 100000 in
/-- A configuration that is not right, or numbers out of bounds. -/
theorem rbound_bad (sb off len cap : Nat) (s d l : Nat → Int) (c1 c2 c3 c4 c5 c6 c7 c8 c9 c10 c11 t b c r : Int) (w : World) (hb : sb < w.heap.size) (hl : len ≤ maxLen)
    (hv : ∀ i, i < len → V3 w sb (off + i * 3) (s i) (d i) (l i)) (hr : chkRes len s d l (cres len c1 c2 c3 c4 c5 c6 c7 c8 c9 c10 c11) = r) (hr2 : (r = 23 ∨ r = 24) ∨ (r = 0 ∧ ¬ ((0 ≤ t ∧ t ≤ 1048576) ∧ (0 ≤ b ∧ b ≤ 1048576) ∧ (0 ≤ c ∧ c ≤ 1048576)))) :
    Calls Tryz.prog 6 #[.agg #[.slice (some ⟨sb, off, none⟩) len cap, .int .i64 c1, .int .i64 c2, .int .i64 c3, .int .i64 c4, .int .i64 c5, .int .i64 c6, .int .i64 c7, .int .i64 c8, .int .i64 c9, .int .i64 c10, .int .i64 c11], .int .i64 t, .int .i64 b, .int .i64 c] w
      (Gives (.int .i64 (-1)) w) := by
  have HV := Lib.hid hv
  clear hv
  have HR := Lib.hid hr
  clear hr
  have H2 := Lib.hid hr2
  clear hr2
  go_enter Tryz.func6, Tryz.ntmps6
  go_wp2_with fail
  have hB : Below w.heap.size w (w.alloc (.cells #[.slice (some ⟨sb, off, none⟩) len cap, .int .i64 c1, .int .i64 c2, .int .i64 c3, .int .i64 c4, .int .i64 c5, .int .i64 c6, .int .i64 c7, .int .i64 c8, .int .i64 c9, .int .i64 c10, .int .i64 c11] 24)) :=
    (Below.refl _ _).alloc (Nat.le_refl _) _
  refine (rcheck_is sb off len cap s d l c1 c2 c3 c4 c5 c6 c7 c8 c9 c10 c11 _ _ (by simp; omega) hl (fun i hi => (HV.out i hi).below hB hb) HR.out).mono ?_
  rintro e w' ⟨rfl, hw'⟩
  rcases H2.out with (rfl | rfl) | ⟨rfl, hx⟩
  · clear H2
    go_wp2
    go_ret
    exact ⟨ret_int rfl, hB.trans (hw'.mono (by simp))⟩
  · clear H2
    go_wp2
    go_ret
    exact ⟨ret_int rfl, hB.trans (hw'.mono (by simp))⟩
  · clear H2
    have HX := Lib.hid hx
    clear hx
    by_cases q1 : t < 0
    · go_wp2
      go_ret
      exact ⟨ret_int rfl, hB.trans (hw'.mono (by simp))⟩
    by_cases q2 : b < 0
    · go_wp2
      go_ret
      exact ⟨ret_int rfl, hB.trans (hw'.mono (by simp))⟩
    by_cases q3 : c < 0
    · go_wp2
      go_ret
      exact ⟨ret_int rfl, hB.trans (hw'.mono (by simp))⟩
    by_cases q4 : 1048576 < t
    · go_wp2
      go_ret
      exact ⟨ret_int rfl, hB.trans (hw'.mono (by simp))⟩
    by_cases q5 : 1048576 < b
    · go_wp2
      go_ret
      exact ⟨ret_int rfl, hB.trans (hw'.mono (by simp))⟩
    by_cases q6 : 1048576 < c
    · go_wp2
      go_ret
      exact ⟨ret_int rfl, hB.trans (hw'.mono (by simp))⟩
    exact absurd ⟨⟨by omega, by omega⟩, ⟨by omega, by omega⟩, ⟨by omega, by omega⟩⟩ HX.out

set_option maxRecDepth 100000 in
/-- A configuration that is right. -/
theorem rbound_ok (sb off len cap : Nat) (s d l : Nat → Int) (c1 c2 c3 c4 c5 c6 c7 c8 c9 c10 c11 t b c : Int) (w : World) (hb : sb < w.heap.size) (hl : len ≤ maxLen)
    (hv : ∀ i, i < len → V3 w sb (off + i * 3) (s i) (d i) (l i)) (hr : chkRes len s d l (cres len c1 c2 c3 c4 c5 c6 c7 c8 c9 c10 c11) = 0) (h : (0 ≤ t ∧ t ≤ 1048576) ∧ (0 ≤ b ∧ b ≤ 1048576) ∧ (0 ≤ c ∧ c ≤ 1048576)) :
    Calls Tryz.prog 6 #[.agg #[.slice (some ⟨sb, off, none⟩) len cap, .int .i64 c1, .int .i64 c2, .int .i64 c3, .int .i64 c4, .int .i64 c5, .int .i64 c6, .int .i64 c7, .int .i64 c8, .int .i64 c9, .int .i64 c10, .int .i64 c11], .int .i64 t, .int .i64 b, .int .i64 c] w
      (Gives (.int .i64 (40 + 8 * (t + 2) * (2 * psum s d len + 8) * (b + c + c3 + 8))) w) := by
  obtain ⟨hA, hlen, z1, z2⟩ := chk_zero hr
  have HA := Lib.hid hA
  clear hA
  have HV := Lib.hid hv
  clear hv
  have HR := Lib.hid hr
  clear hr
  obtain ⟨⟨t1, t2⟩, ⟨b1, b2⟩, ⟨n1, n2⟩⟩ := h
  go_enter Tryz.func6, Tryz.ntmps6
  go_wp2_with fail
  have hB : Below w.heap.size w (w.alloc (.cells #[.slice (some ⟨sb, off, none⟩) len cap, .int .i64 c1, .int .i64 c2, .int .i64 c3, .int .i64 c4, .int .i64 c5, .int .i64 c6, .int .i64 c7, .int .i64 c8, .int .i64 c9, .int .i64 c10, .int .i64 c11] 24)) :=
    (Below.refl _ _).alloc (Nat.le_refl _) _
  have hC : CfgAt (w.alloc (.cells #[.slice (some ⟨sb, off, none⟩) len cap, .int .i64 c1, .int .i64 c2, .int .i64 c3, .int .i64 c4, .int .i64 c5, .int .i64 c6, .int .i64 c7, .int .i64 c8, .int .i64 c9, .int .i64 c10, .int .i64 c11] 24)) w.heap.size (.slice (some ⟨sb, off, none⟩) len cap) c1 c2 c3 c4 c5 c6 c7 c8 c9 c10 c11 := by
    simp [CfgAt]
  refine (rcheck_is sb off len cap s d l c1 c2 c3 c4 c5 c6 c7 c8 c9 c10 c11 _ _ (by simp; omega) hl (fun i hi => (HV.out i hi).below hB hb) HR.out).mono ?_
  rintro e w1 ⟨rfl, hw1⟩
  have HC := Lib.hid (hC.below hw1 (by simp))
  have hB1 := hB.trans (hw1.mono (by simp))
  have hz1 : w.heap.size < w1.heap.size := by have := hw1.size; simp at this; omega
  clear hB hC hw1
  go_wp2
  go_loopw [9, 10] (fun p i wr => ∃ k : Nat, k ≤ len ∧ i = .int .i64 k ∧ p = .int .i64 (psum s d k) ∧ w.heap.size < wr.heap.size ∧ Below (w.heap.size + 1) w1 wr) (fun _ i _ => len - (intOf i).toNat)
  case atStart => exact ⟨0, by omega, rfl, rfl, hz1, Below.refl _ _⟩
  case round =>
    obtain ⟨k, hk, rfl, rfl, hsz, hbel⟩ := hrel
    have g0 := below_cell hbel (by omega) HC.out.1
    by_cases hlt : k < len
    · obtain ⟨v1, v2, v3⟩ := ((HV.out k hlt).below hB1 hb).below hbel (by omega)
      obtain ⟨a1, a2, a3, a4, a5⟩ := vbad_false (anyBad_at HA.out hlt)
      obtain ⟨q1, q2⟩ := q_bd a1 a3 a5
      obtain ⟨p1, p2⟩ := psum_bd HA.out k hk
      go_wp2
      go_roundw
      case rel => exact ⟨k + 1, by omega, by go_num, by go_num, by simp; omega, hbel.alloc (by omega) _⟩
      case measure => simp [intOf]; omega
    · obtain rfl : k = len := by omega
      have g3 := below_cell hbel (by omega) HC.out.2.2.2.1
      obtain ⟨p1, p2⟩ := psum_bd HA.out k hk
      go_wp2
      go_ret
      refine ⟨ret_int ?_, ?_⟩
      · exact fin_eq t1 t2 p1 (by omega) (by omega) (by omega)
      · exact hB1.trans (hbel.mono (by omega))
end Go.Proofs.YtidggficpcdpoaaGreatDoor

namespace Go.Proofs.YtidggficpcdpoaaGreatDoor
open Go.RowKit
set_option maxHeartbeats 8000000

set_option maxRecDepth 100000 in
theorem check_nil (ao : Option Addr) (cap : Nat) (c1 c2 c3 c4 c5 c6 c7 c8 c9 c10 c11 : Int) (w : World) :
    Calls Tryz.prog 9 #[.agg #[.slice ao 0 cap, .int .i64 c1, .int .i64 c2, .int .i64 c3, .int .i64 c4, .int .i64 c5, .int .i64 c6, .int .i64 c7, .int .i64 c8, .int .i64 c9, .int .i64 c10, .int .i64 c11]] w (Gives (.int .i64 24) w) := by
  have H0 : inB 0 1 4 = false := by decide
  go_enter Tryz.func9, Tryz.ntmps9
  go_wp2
  go_loop [9] (fun i => i = .int .i64 0) (fun _ => 0)
  case atStart => rfl
  case round =>
    subst hrel
    go_wp2_with (go_at_call 13; refine (in_any _ _ _ _).mono ?_; rintro e w' ⟨rfl, rfl⟩)
    go_ret
    exact ⟨ret_int rfl, (Below.refl _ _).alloc (Nat.le_refl _) _⟩

set_option maxRecDepth 100000 in
theorem rcheck_nil (ao : Option Addr) (cap : Nat) (c1 c2 c3 c4 c5 c6 c7 c8 c9 c10 c11 : Int) (w : World) :
    Calls Tryz.prog 10 #[.agg #[.slice ao 0 cap, .int .i64 c1, .int .i64 c2, .int .i64 c3, .int .i64 c4, .int .i64 c5, .int .i64 c6, .int .i64 c7, .int .i64 c8, .int .i64 c9, .int .i64 c10, .int .i64 c11]] w (Gives (.int .i64 24) w) := by
  have H0 : inB 0 1 4 = false := by decide
  go_enter Tryz.func10, Tryz.ntmps10
  go_wp2
  go_loop [3] (fun i => i = .int .i64 0) (fun _ => 0)
  case atStart => rfl
  case round =>
    subst hrel
    go_wp2_with (go_at_call 15; refine (to_any _ _ _ _).mono ?_; rintro e w' ⟨rfl, rfl⟩)
    go_ret
    exact ⟨ret_int rfl, (Below.refl _ _).alloc (Nat.le_refl _) _⟩

set_option maxRecDepth 100000 in
theorem bound_nil (ao : Option Addr) (cap : Nat) (c1 c2 c3 c4 c5 c6 c7 c8 c9 c10 c11 t b c : Int) (w : World) :
    Calls Tryz.prog 5 #[.agg #[.slice ao 0 cap, .int .i64 c1, .int .i64 c2, .int .i64 c3, .int .i64 c4, .int .i64 c5, .int .i64 c6, .int .i64 c7, .int .i64 c8, .int .i64 c9, .int .i64 c10, .int .i64 c11], .int .i64 t, .int .i64 b, .int .i64 c] w
      (Gives (.int .i64 (-1)) w) := by
  by_cases h : (0 ≤ t ∧ t ≤ 1048576) ∧ (0 ≤ b ∧ b ≤ 1048576) ∧ (0 ≤ c ∧ c ≤ 1048576)
  · obtain ⟨⟨t1, t2⟩, ⟨b1, b2⟩, ⟨n1, n2⟩⟩ := h
    go_enter Tryz.func5, Tryz.ntmps5
    go_wp2
    go_loop [19] (fun i => ∃ k : Nat, k ≤ 3 ∧ i = .int .i64 k) (fun i => 3 - (intOf i).toNat)
    case atStart => exact ⟨0, by omega, rfl⟩
    case round =>
      obtain ⟨k, hk, rfl⟩ := hrel
      have hcs : k = 0 ∨ k = 1 ∨ k = 2 ∨ k = 3 := by omega
      clear hk
      rcases hcs with rfl | rfl | rfl | rfl
      · go_wp2
        go_round
        case rel => exact ⟨1, by omega, by go_num⟩
        case measure => simp [intOf]
      · go_wp2
        go_round
        case rel => exact ⟨2, by omega, by go_num⟩
        case measure => simp [intOf]
      · go_wp2
        go_round
        case rel => exact ⟨3, by omega, by go_num⟩
        case measure => simp [intOf]
      · go_wp2_with fail
        refine (check_nil ao cap c1 c2 c3 c4 c5 c6 c7 c8 c9 c10 c11 _).mono ?_
        rintro e w' ⟨rfl, hw'⟩
        go_wp2
        go_ret
        exact ⟨ret_int rfl, (((Below.refl _ _).alloc (Nat.le_refl _) _).alloc (by simp) _).trans (hw'.mono (by simp; omega))⟩
  · exact bound_out _ c1 c2 c3 c4 c5 c6 c7 c8 c9 c10 c11 t b c w h

set_option maxRecDepth 100000 in
theorem rbound_nil (ao : Option Addr) (cap : Nat) (c1 c2 c3 c4 c5 c6 c7 c8 c9 c10 c11 t b c : Int) (w : World) :
    Calls Tryz.prog 6 #[.agg #[.slice ao 0 cap, .int .i64 c1, .int .i64 c2, .int .i64 c3, .int .i64 c4, .int .i64 c5, .int .i64 c6, .int .i64 c7, .int .i64 c8, .int .i64 c9, .int .i64 c10, .int .i64 c11], .int .i64 t, .int .i64 b, .int .i64 c] w
      (Gives (.int .i64 (-1)) w) := by
  go_enter Tryz.func6, Tryz.ntmps6
  go_wp2_with fail
  refine (rcheck_nil ao cap c1 c2 c3 c4 c5 c6 c7 c8 c9 c10 c11 _).mono ?_
  rintro e w' ⟨rfl, hw'⟩
  go_wp2
  go_ret
  exact ⟨ret_int rfl, ((Below.refl _ _).alloc (Nat.le_refl _) _).trans (hw'.mono (by simp))⟩

/-- A slice of views, in a world. -/
def Views (w : World) (v : Value) : Prop := (∃ ao cap, v = .slice ao 0 cap) ∨ ∃ sb off len cap, ∃ s d l : Nat → Int, v = .slice (some ⟨sb, off, none⟩) len cap ∧ sb < w.heap.size ∧ len ≤ maxLen ∧ ∀ i, i < len → V3 w sb (off + i * 3) (s i) (d i) (l i)

/-- Both bounds are one. -/
theorem bounds_same (v : Value) (c1 c2 c3 c4 c5 c6 c7 c8 c9 c10 c11 t b c : Int) (w0 : World) (hv : Views w0 v) : ∃ X : Int, ∀ w, Below w0.heap.size w0 w →
    Calls Tryz.prog 5 #[.agg #[v, .int .i64 c1, .int .i64 c2, .int .i64 c3, .int .i64 c4, .int .i64 c5, .int .i64 c6, .int .i64 c7, .int .i64 c8, .int .i64 c9, .int .i64 c10, .int .i64 c11], .int .i64 t, .int .i64 b, .int .i64 c] w (Gives (.int .i64 X) w) ∧
    Calls Tryz.prog 6 #[.agg #[v, .int .i64 c1, .int .i64 c2, .int .i64 c3, .int .i64 c4, .int .i64 c5, .int .i64 c6, .int .i64 c7, .int .i64 c8, .int .i64 c9, .int .i64 c10, .int .i64 c11], .int .i64 t, .int .i64 b, .int .i64 c] w (Gives (.int .i64 X) w) := by
  rcases hv with ⟨ao, cap, rfl⟩ | ⟨sb, off, len, cap, s, d, l, rfl, hb, hl, hv⟩
  · exact ⟨-1, fun w _ => ⟨bound_nil ao cap c1 c2 c3 c4 c5 c6 c7 c8 c9 c10 c11 t b c w, rbound_nil ao cap c1 c2 c3 c4 c5 c6 c7 c8 c9 c10 c11 t b c w⟩⟩
  · have hr := chk_three len s d l _ (cres_two len c1 c2 c3 c4 c5 c6 c7 c8 c9 c10 c11)
    have hw : ∀ w, Below w0.heap.size w0 w → sb < w.heap.size ∧ ∀ i, i < len → V3 w sb (off + i * 3) (s i) (d i) (l i) := fun w h => ⟨Nat.lt_of_lt_of_le hb h.size, fun i hi => (hv i hi).below h hb⟩
    by_cases h : (0 ≤ t ∧ t ≤ 1048576) ∧ (0 ≤ b ∧ b ≤ 1048576) ∧ (0 ≤ c ∧ c ≤ 1048576)
    · rcases hr with hr | hr
      · exact ⟨_, fun w hB => ⟨bound_ok sb off len cap s d l _ _ _ _ _ _ _ _ _ _ _ _ _ _ w (hw w hB).1 hl (hw w hB).2 hr h, rbound_ok sb off len cap s d l _ _ _ _ _ _ _ _ _ _ _ _ _ _ w (hw w hB).1 hl (hw w hB).2 hr h⟩⟩
      · exact ⟨_, fun w hB => ⟨bound_bad sb off len cap s d l _ _ _ _ _ _ _ _ _ _ _ _ _ _ _ w (hw w hB).1 hl (hw w hB).2 rfl hr h, rbound_bad sb off len cap s d l _ _ _ _ _ _ _ _ _ _ _ _ _ _ _ w (hw w hB).1 hl (hw w hB).2 rfl (.inl hr)⟩⟩
    · refine ⟨_, fun w hB => ⟨bound_out _ _ _ _ _ _ _ _ _ _ _ _ _ _ _ w h, rbound_bad sb off len cap s d l _ _ _ _ _ _ _ _ _ _ _ _ _ _ _ w (hw w hB).1 hl (hw w hB).2 rfl ?_⟩⟩
      rcases hr with hr | hr
      · exact .inr ⟨hr, h⟩
      · exact .inl hr
end Go.Proofs.YtidggficpcdpoaaGreatDoor
