/- What pane.Check, spateref4.Check, the bounds' tests come to; what is told of a configuration's check. -/
import Derived.Test.YtidggficpcdpoaaGreatDoorProg
import Derived.WalkKit
import Derived.ProofKit
import Derived.Below
import Derived.KernelRfl
import Derived.Lib.Hide

namespace Go.Proofs.YtidggficpcdpoaaGreatDoor
open Go.RowKit
set_option maxHeartbeats 1000000

def inB (n lo hi : Int) : Bool := decide (lo ≤ n) && decide (n ≤ hi)
def vbad (s d l : Int) : Bool := decide (s < 1) || (decide (1099511627776 < s) || (decide (d < 1) || (decide (1099511627776 < d) || (decide (l < 0) || (decide (1099511627776 < l) || decide (64 * d < s))))))

theorem in_any (n lo hi : Int) (w : World) : Calls Tryz.prog 13 #[.int .i64 n, .int .i64 lo, .int .i64 hi] w fun e w' => e = .returned (.bool (inB n lo hi)) ∧ w = w' := by
  unfold inB
  by_cases h1 : lo ≤ n
  · by_cases h2 : n ≤ hi <;>
    · go_enter Tryz.func13, Tryz.ntmps13
      go_wp2
      go_ret
      simp [h1, h2]
  · go_enter Tryz.func13, Tryz.ntmps13
    go_wp2
    go_ret
    simp; omega

theorem to_any (n lo hi : Int) (w : World) : Calls Tryz.prog 15 #[.int .i64 n, .int .i64 lo, .int .i64 hi] w fun e w' => e = .returned (.bool (inB n lo hi)) ∧ w = w' := by
  unfold inB
  by_cases h1 : lo ≤ n
  · by_cases h2 : n ≤ hi <;>
    · go_enter Tryz.func15, Tryz.ntmps15
      go_wp2
      go_ret
      simp [h1, h2]
  · go_enter Tryz.func15, Tryz.ntmps15
    go_wp2
    go_ret
    simp; omega

theorem ret_int {k : IntKind} {a b : Int} (h : a = b) : Ending.returned (.int k a) = .returned (.int k b) := by rw [h]
def Gives (v : Value) (w : World) (e : Ending) (w' : World) : Prop := e = .returned v ∧ Below w.heap.size w w'

def vres (s d l : Int) : Int := if vbad s d l = true then 23 else 0

theorem vbad_yes {s d l : Int} (h : s < 1 ∨ 1099511627776 < s ∨ d < 1 ∨ 1099511627776 < d ∨ l < 0 ∨ 1099511627776 < l ∨ 64 * d < s) : (23 : Int) = vres s d l := by
  unfold vres
  rw [if_pos]
  simp only [vbad, Bool.or_eq_true, decide_eq_true_eq]
  exact h
theorem vbad_no {s d l : Int} (h : ¬ (s < 1 ∨ 1099511627776 < s ∨ d < 1 ∨ 1099511627776 < d ∨ l < 0 ∨ 1099511627776 < l ∨ 64 * d < s)) : (0 : Int) = vres s d l := by
  unfold vres
  rw [if_neg]
  simp only [vbad, Bool.or_eq_true, decide_eq_true_eq]
  exact h

theorem view_any (s d l : Int) (w : World) : Calls Tryz.prog 12 #[.agg #[.int .i64 s, .int .i64 d, .int .i64 l]] w (Gives (.int .i64 (vres s d l)) w) := by
  go_enter Tryz.func12, Tryz.ntmps12
  go_wp2
  all_goals go_ret
  all_goals first
    | exact ⟨ret_int (vbad_yes (by omega)), (Below.refl _ _).alloc (Nat.le_refl _) _⟩
    | exact ⟨ret_int (vbad_no (by omega)), (Below.refl _ _).alloc (Nat.le_refl _) _⟩

theorem rview_any (s d l : Int) (w : World) : Calls Tryz.prog 14 #[.agg #[.int .i64 s, .int .i64 d, .int .i64 l]] w (Gives (.int .i64 (vres s d l)) w) := by
  go_enter Tryz.func14, Tryz.ntmps14
  go_wp2
  all_goals go_ret
  all_goals first
    | exact ⟨ret_int (vbad_yes (by omega)), (Below.refl _ _).alloc (Nat.le_refl _) _⟩
    | exact ⟨ret_int (vbad_no (by omega)), (Below.refl _ _).alloc (Nat.le_refl _) _⟩
theorem view_ok (s d l : Int) (w : World) (h : vbad s d l = false) : Calls Tryz.prog 12 #[.agg #[.int .i64 s, .int .i64 d, .int .i64 l]] w (Gives (.int .i64 0) w) := by
  have := view_any s d l w
  unfold vres at this
  rwa [h, if_neg (by simp)] at this
theorem view_bad (s d l : Int) (w : World) (h : vbad s d l = true) : Calls Tryz.prog 12 #[.agg #[.int .i64 s, .int .i64 d, .int .i64 l]] w (Gives (.int .i64 23) w) := by
  have := view_any s d l w
  unfold vres at this
  rwa [h, if_pos rfl] at this
theorem rview_ok (s d l : Int) (w : World) (h : vbad s d l = false) : Calls Tryz.prog 14 #[.agg #[.int .i64 s, .int .i64 d, .int .i64 l]] w (Gives (.int .i64 0) w) := by
  have := rview_any s d l w
  unfold vres at this
  rwa [h, if_neg (by simp)] at this
theorem rview_bad (s d l : Int) (w : World) (h : vbad s d l = true) : Calls Tryz.prog 14 #[.agg #[.int .i64 s, .int .i64 d, .int .i64 l]] w (Gives (.int .i64 23) w) := by
  have := rview_any s d l w
  unfold vres at this
  rwa [h, if_pos rfl] at this
end Go.Proofs.YtidggficpcdpoaaGreatDoor

namespace Go.Proofs.YtidggficpcdpoaaGreatDoor
open Go.RowKit
set_option maxHeartbeats 8000000

/-- Three numbers from a place on. -/
def V3 (w : World) (b off : Nat) (s d l : Int) : Prop := w.cell? ⟨b, off, none⟩ = some (.int .i64 s) ∧ w.cell? ⟨b, off + 1, none⟩ = some (.int .i64 d) ∧ w.cell? ⟨b, off + 2, none⟩ = some (.int .i64 l)

def cres (c0 : Int) (c1 c2 c3 c4 c5 c6 c7 c8 c9 c10 c11 : Int) : Int :=
  if (inB c0 1 4 && inB c1 1 8 && inB c2 1 8 && inB c3 1 16 && inB c4 2 1048576 && inB c5 1 64 && inB c6 1 64 && inB c7 1 64 && inB c8 1 64 && inB c9 16 65536 && inB c10 1 131072 && inB c11 1 131072) = true then 0 else 24

def anyBad (s d l : Nat → Int) : Nat → Bool
  | 0 => false
  | n + 1 => anyBad s d l n || vbad (s n) (d n) (l n)

def chkRes (len : Nat) (s d l : Nat → Int) (c : Int) : Int := if anyBad s d l len = true then 23 else c

theorem anyBad_mono {s d l : Nat → Int} {k : Nat} (h : anyBad s d l k = true) : ∀ n, anyBad s d l (k + n) = true
  | 0 => h
  | n + 1 => by
    show (anyBad s d l (k + n) || _) = true
    rw [anyBad_mono h n]
    rfl

theorem chk_bad {len : Nat} {s d l : Nat → Int} {c : Int} {k : Nat} (hk : k < len) (h : vbad (s k) (d k) (l k) = true) : (23 : Int) = chkRes len s d l c := by
  unfold chkRes
  rw [if_pos]
  obtain ⟨n, rfl⟩ : ∃ n, len = k + 1 + n := ⟨len - (k + 1), by omega⟩
  refine anyBad_mono ?_ n
  show (anyBad s d l k || _) = true
  rw [h]
  simp

theorem chk_ok {len : Nat} {s d l : Nat → Int} {c : Int} (h : anyBad s d l len = false) : c = chkRes len s d l c := by
  unfold chkRes
  rw [if_neg (by simp [h])]

theorem below_cell {B : Nat} {w w' : World} (h : Below B w w') {b o : Nat} (hb : b < B) {v : Value} (hv : w.cell? ⟨b, o, none⟩ = some v) : w'.cell? ⟨b, o, none⟩ = some v := by
  rw [h.cell (p := ⟨b, o, none⟩) hb]; exact hv

def CfgAt (w : World) (B : Nat) (v : Value) (c1 c2 c3 c4 c5 c6 c7 c8 c9 c10 c11 : Int) : Prop :=
  w.cell? ⟨B, 0, none⟩ = some v ∧ w.cell? ⟨B, 1, none⟩ = some (.int .i64 c1) ∧ w.cell? ⟨B, 2, none⟩ = some (.int .i64 c2) ∧ w.cell? ⟨B, 3, none⟩ = some (.int .i64 c3) ∧ w.cell? ⟨B, 4, none⟩ = some (.int .i64 c4) ∧
  w.cell? ⟨B, 5, none⟩ = some (.int .i64 c5) ∧ w.cell? ⟨B, 6, none⟩ = some (.int .i64 c6) ∧ w.cell? ⟨B, 7, none⟩ = some (.int .i64 c7) ∧ w.cell? ⟨B, 8, none⟩ = some (.int .i64 c8) ∧ w.cell? ⟨B, 9, none⟩ = some (.int .i64 c9) ∧
  w.cell? ⟨B, 10, none⟩ = some (.int .i64 c10) ∧ w.cell? ⟨B, 11, none⟩ = some (.int .i64 c11)

theorem CfgAt.below {w w' : World} {B n : Nat} {v : Value} {c1 c2 c3 c4 c5 c6 c7 c8 c9 c10 c11 : Int} (h : CfgAt w B v c1 c2 c3 c4 c5 c6 c7 c8 c9 c10 c11) (hb : Below n w w') (hB : B < n) : CfgAt w' B v c1 c2 c3 c4 c5 c6 c7 c8 c9 c10 c11 := by
  obtain ⟨g0, g1, g2, g3, g4, g5, g6, g7, g8, g9, g10, g11⟩ := h
  exact ⟨below_cell hb hB g0, below_cell hb hB g1, below_cell hb hB g2, below_cell hb hB g3, below_cell hb hB g4, below_cell hb hB g5, below_cell hb hB g6, below_cell hb hB g7, below_cell hb hB g8, below_cell hb hB g9, below_cell hb hB g10, below_cell hb hB g11⟩

theorem anyBad_succ {s d l : Nat → Int} {k : Nat} (h : anyBad s d l k = false) (h2 : vbad (s k) (d k) (l k) = false) : anyBad s d l (k + 1) = false := by
  show (anyBad s d l k || _) = false
  rw [h, h2]
  rfl

end Go.Proofs.YtidggficpcdpoaaGreatDoor
