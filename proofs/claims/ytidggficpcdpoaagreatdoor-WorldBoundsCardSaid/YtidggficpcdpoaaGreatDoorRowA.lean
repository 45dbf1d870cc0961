/- What a configuration that can be read looks like in memory. -/
import Derived.Test.YtidggficpcdpoaaGreatDoorWalkE
import Derived.Test.YtidggficpcdpoaaGreatDoorRows
import Derived.ProofKit
import Derived.Deep.Slices
import Derived.Deep.Fields
import Derived.ChangeSame
import Derived.ChangeVars
import Derived.JoinedOf
import Derived.RowKit
import Derived.RowKitTokens
import Derived.LaidLaws
import Derived.LaidHandle
import Derived.Carry
import Derived.Laws.LoneSync

namespace Go.Proofs.YtidggficpcdpoaaGreatDoor
open Go.ChangeShapes Go.WideShapes Go.RowKit Go.Deep

section
variable {H : Type} {enc : TypeId × Value → H} {w : World} {base : Nat} {spare : Nat → Bool} {held : Bool}

theorem cells24 : Tryz.prog.cellsOf 24 = 12 := by kernel_rfl
theorem cells64 : Tryz.prog.cellsOf 64 = 3 := by kernel_rfl

/-- A struct's field of one cell. -/
theorem field_at {P : Program} {fs : Array Field} {t : TypeId} {fuel : Nat} {cs : List Value} {x : DataW H × List MemPlace} (ht : P.underlying t = some (.struct fs)) (hone : oneCellFields P fs = true) (hC : P.cellsOf t = fs.size)
    (h : DataW.trod enc P w base spare held fuel t cs = some x) : cs.length = fs.size ∧ ∃ n, ∀ (j : Nat) (f : Field), fs[j]? = some f → ∃ v y, cs[j]? = some v ∧ DataW.trod enc P w base spare held n f.type [v] = some y := by
  obtain ⟨xs, n, _, _, hl, hxl, hf⟩ := DataW.trod_struct ht h
  refine ⟨by rw [hl, hC], n, fun j f hj => ?_⟩
  obtain ⟨ho, hk⟩ := hone_of hone j f hj
  have hjl : j < fs.size := (Array.getElem?_eq_some_iff.1 hj).1
  have h1 := hf j f hj
  rw [ho, hk] at h1
  have hlt : j < cs.length := by omega
  have hone' : (cs.drop j).take 1 = [cs[j]] := by
    rw [List.drop_eq_getElem_cons hlt]
    rfl
  rw [hone'] at h1
  have hys : xs[j]? = some (xs[j]'(by omega)) := List.getElem?_eq_getElem (by omega)
  exact ⟨cs[j], _, List.getElem?_eq_getElem hlt, h1.trans hys⟩
end
end Go.Proofs.YtidggficpcdpoaaGreatDoor

namespace Go.Proofs.YtidggficpcdpoaaGreatDoor
open Go.ChangeShapes Go.WideShapes Go.RowKit Go.Deep

section
variable {H : Type} {enc : TypeId × Value → H}

theorem adr (b o n : Nat) : (⟨b, o, none⟩ : Addr).add n = ⟨b, o + n, none⟩ := by
  unfold Addr.add
  split <;> simp_all

theorem v3_of {W : World} {base : Nat} {spare : Nat → Bool} {held : Bool} {b off i n : Nat} {cs : List Value} {x : DataW H × List MemPlace} (hc : W.cells? base ((⟨b, off, none⟩ : Addr).add (i * 3)) 3 = some cs) (h : DataW.trod enc Tryz.prog W base spare held n 64 cs = some x) :
    ∃ s d l, V3 W b (off + i * 3) s d l := by
  obtain ⟨hl, m, hf⟩ := field_at Tryz.underlying64 (by kernel_rfl) cells64 h
  obtain ⟨_, hcl, hat⟩ := World.cells?_some hc
  obtain ⟨v0, y0, e0, t0⟩ := hf 0 _ rfl
  obtain ⟨v1, y1, e1, t1⟩ := hf 1 _ rfl
  obtain ⟨v2, y2, e2, t2⟩ := hf 2 _ rfl
  obtain ⟨s, q0, _, _⟩ := DataW.trod_int Tryz.underlying2 t0
  obtain ⟨d, q1, _, _⟩ := DataW.trod_int Tryz.underlying2 t1
  obtain ⟨l, q2, _, _⟩ := DataW.trod_int Tryz.underlying2 t2
  simp only [List.cons.injEq, and_true] at q0 q1 q2
  subst q0 q1 q2
  have c0 := hat 0 (by omega)
  have c1 := hat 1 (by omega)
  have c2 := hat 2 (by omega)
  rw [adr, adr] at c0 c1 c2
  exact ⟨s, d, l, by rw [← e0, ← c0]; rfl, by rw [← e1, ← c1], by rw [← e2, ← c2]⟩

theorem views_of {W : World} {base : Nat} {spare : Nat → Bool} {held : Bool} {n : Nat} {v : Value} {x : DataW H × List MemPlace} (h : DataW.trod enc Tryz.prog W base spare held n 22 [v] = some x) : Views W v := by
  rcases open_slice Tryz.underlying22 h with ⟨hcs, _⟩ | ⟨a, len, cap, m, n', D, Pl, hcs, hb, hl, hm, hmm, _, hi⟩
  · cases hcs
    exact .inl ⟨none, 0, rfl⟩
  · cases hcs
    rw [cells64] at hi
    by_cases h0 : len = 0
    · subst h0
      exact .inl ⟨some a, cap, rfl⟩
    · have hlm : len ≤ m := by rw [hmm]; split <;> omega
      obtain ⟨cs0, hc0, ht0⟩ := hi 0 (by omega)
      obtain ⟨_, hcl, hat⟩ := World.cells?_some hc0
      have e0 : (a.add (0 * 3)).add 0 = a := by simp [Addr.add]
      have c0 := hat 0 (by omega)
      rw [e0] at c0
      have hlt : 0 < cs0.length := by omega
      rw [List.getElem?_eq_getElem hlt] at c0
      obtain ⟨_, _, _, _, hsp⟩ := World.shape?_of_cell? c0
      obtain ⟨b, off, sp⟩ := a
      simp only at hsp
      subst hsp
      have hbl : b < W.heap.size := World.block_lt_of_cell? W _ c0
      have hall : ∀ i, ∃ s d l, i < len → V3 W b (off + i * 3) s d l := fun i => by
        by_cases hil : i < len
        · obtain ⟨cs', hc', ht'⟩ := hi i (by omega)
          obtain ⟨s, d, l, hv⟩ := v3_of hc' ht'
          exact ⟨s, d, l, fun _ => hv⟩
        · exact ⟨0, 0, 0, fun h => absurd h hil⟩
      refine .inr ⟨b, off, len, cap, fun i => (hall i).choose, fun i => (hall i).choose_spec.choose, fun i => (hall i).choose_spec.choose_spec.choose, rfl, hbl, ?_, fun i hil => (hall i).choose_spec.choose_spec.choose_spec hil⟩
      exact Nat.le_trans hl hm

set_option maxRecDepth 100000 in
theorem cfg_open {W : World} {b0 base : Nat} {spare : Nat → Bool} {held : Bool} {v : Value} {d : DataW H} {p : List MemPlace} (hv : Value.okWide Tryz.prog W .any b0 24 v) (h : DataW.Trod enc Tryz.prog W base spare held 24 v d p) :
    ∃ (v0 : Value) (c1 c2 c3 c4 c5 c6 c7 c8 c9 c10 c11 : Int), v = .agg #[v0, .int .i64 c1, .int .i64 c2, .int .i64 c3, .int .i64 c4, .int .i64 c5, .int .i64 c6, .int .i64 c7, .int .i64 c8, .int .i64 c9, .int .i64 c10, .int .i64 c11] ∧ Views W v0 := by
  obtain ⟨cs, rfl, hsz⟩ := okWide_struct Tryz.underlying24 hv
  obtain ⟨l⟩ := cs
  obtain ⟨fuel, hf⟩ := h
  have hf : DataW.trod enc Tryz.prog W base spare held fuel 24 l = some (d, p) := by simpa [Value.cells] using hf
  obtain ⟨hl, m, hg⟩ := field_at Tryz.underlying24 (by kernel_rfl) cells24 hf
  match l, hl with
  | [x0, x1, x2, x3, x4, x5, x6, x7, x8, x9, x10, x11], _ =>
    have int : ∀ (j : Nat) (f : Field) (x : Value), f.type = 3 → (∃ v y, [x0, x1, x2, x3, x4, x5, x6, x7, x8, x9, x10, x11][j]? = some v ∧ DataW.trod enc Tryz.prog W base spare held m f.type [v] = some y) →
        [x0, x1, x2, x3, x4, x5, x6, x7, x8, x9, x10, x11][j]? = some x → ∃ c, x = .int .i64 c := by
      intro j f x ht ⟨v, y, e, t⟩ hx
      rw [e] at hx
      cases hx
      rw [ht] at t
      obtain ⟨c, q, _, _⟩ := DataW.trod_int Tryz.underlying3 t
      simp only [List.cons.injEq, and_true] at q
      exact ⟨c, q⟩
    obtain ⟨c1, rfl⟩ := int 1 _ x1 rfl (hg 1 _ rfl) rfl
    obtain ⟨c2, rfl⟩ := int 2 _ x2 rfl (hg 2 _ rfl) rfl
    obtain ⟨c3, rfl⟩ := int 3 _ x3 rfl (hg 3 _ rfl) rfl
    obtain ⟨c4, rfl⟩ := int 4 _ x4 rfl (hg 4 _ rfl) rfl
    obtain ⟨c5, rfl⟩ := int 5 _ x5 rfl (hg 5 _ rfl) rfl
    obtain ⟨c6, rfl⟩ := int 6 _ x6 rfl (hg 6 _ rfl) rfl
    obtain ⟨c7, rfl⟩ := int 7 _ x7 rfl (hg 7 _ rfl) rfl
    obtain ⟨c8, rfl⟩ := int 8 _ x8 rfl (hg 8 _ rfl) rfl
    obtain ⟨c9, rfl⟩ := int 9 _ x9 rfl (hg 9 _ rfl) rfl
    obtain ⟨c10, rfl⟩ := int 10 _ x10 rfl (hg 10 _ rfl) rfl
    obtain ⟨c11, rfl⟩ := int 11 _ x11 rfl (hg 11 _ rfl) rfl
    obtain ⟨v, y, e, t⟩ := hg 0 _ rfl
    cases e
    exact ⟨x0, c1, c2, c3, c4, c5, c6, c7, c8, c9, c10, c11, rfl, views_of t⟩

end
end Go.Proofs.YtidggficpcdpoaaGreatDoor
