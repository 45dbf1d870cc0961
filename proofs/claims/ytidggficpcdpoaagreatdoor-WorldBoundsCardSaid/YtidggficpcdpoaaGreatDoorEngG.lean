/- A region that draws its order does, in every order, what the engine says. -/
import Derived.Test.YtidggficpcdpoaaGreatDoorEngF
import Derived.Orders

/- The engine, part 28: a plan's run, told step by step. -/
namespace Go.Eng

/-- A plan's state. -/
structure PSt where
  E : Tr Value
  D : List Deferred
  S : St
  S0 : St
  hist : List St

noncomputable def PSt.put (st : PSt) (nt : Nat) (o : Oper) (v : Value) : PSt := { st with E := (putE nt o.dst).run st.E v }
/-- Behind a heavy one. -/
noncomputable def PSt.past (st : PSt) (nt : Nat) (o : Oper) (v : Value) (D : List Deferred) (S : St) : PSt := ⟨(putE nt o.dst).run st.E v, D, S, S, st.S0 :: st.hist⟩

def PS.light : PS → Prop
  | .heavy _ _ => False
  | _ => True

section
variable (P : Program) (nt : Nat) (ops : List Oper) (call : CallF)

/-- A step of a plan: is it wanted, what is written, what comes of it. -/
inductive Stp : PSt → PS → Bool → Value → PSt → Prop
  | skipL {st : PSt} {s : PS} (hl : s.light) (hw : (ewanted ops s.oper).run st.E = some false) : Stp st s false undef (st.put nt s.oper undef)
  | skipH {st : PSt} {i : Nat} {o : Oper} (hw : (ewanted ops o).run st.E = some false) : Stp st (.heavy i o) false undef (st.past nt o undef st.D st.S)
  | pure {st : PSt} {i : Nat} {o : Oper} {v : Value} {S1 : St} (hw : (ewanted ops o).run st.E = some true) (h : (eop P o).run call st.E st.S0 = .val v S1) : Stp st (.pure i o) true v (st.put nt o v)
  | reads {st : PSt} {i lo : Nat} {o : Oper} {v : Value} {S1 : St} (hw : (ewanted ops o).run st.E = some true) (h : (eop P o).run call st.E st.S0 = .val v S1)
      (hs : sameIn ((eop P o).run call st.E) v st.hist (Nat.sub st.hist.length lo) = true) : Stp st (.reads i o lo) true v (st.put nt o v)
  | allocs {st : PSt} {i : Nat} {o : Oper} {v : Value} {S1 : St} (hw : (ewanted ops o).run st.E = some true) (h : (eop P o).run call st.E st.S = .val v S1) : Stp st (.allocs i o) true v { st.put nt o v with S := S1 }
  | heavy {st : PSt} {i : Nat} {o : Oper} {v : Value} {S1 : St} (hw : (ewanted ops o).run st.E = some true) (h : (eop P o).run call st.E st.S = .val v S1) : Stp st (.heavy i o) true v (st.past nt o v st.D S1)
  | dfr {st : PSt} {i : Nat} {o : Oper} {q : Deferred} (hw : (ewanted ops o).run st.E = some true) (h : (eop P o).run call st.E st.S = .dfr q) (hi : isDfr o = true) : Stp st (.heavy i o) true undef (st.past nt o undef (q :: st.D) st.S)

/-- A step, told. -/
structure Rec where
  s : PS
  want : Bool
  v : Value
  a : PSt
  b : PSt
  ok : Stp P nt ops call a s want v b

variable {P nt ops call}

def Linked (st : PSt) : List (Rec P nt ops call) → PSt → Prop
  | [], st' => st' = st
  | r :: l, st' => r.a = st ∧ Linked r.b l st'

theorem Linked.append {st st' st'' : PSt} : ∀ {l m : List (Rec P nt ops call)}, Linked st l st' → Linked st' m st'' → Linked st (l ++ m) st''
  | [], m, h, h' => by cases h; exact h'
  | r :: l, m, h, h' => ⟨h.1, h.2.append h'⟩

theorem Linked.split {st st'' : PSt} : ∀ {l m : List (Rec P nt ops call)}, Linked st (l ++ m) st'' → ∃ st', Linked st l st' ∧ Linked st' m st''
  | [], m, h => ⟨st, rfl, h⟩
  | r :: l, m, h => by
    obtain ⟨st', h1, h2⟩ := Linked.split (l := l) h.2
    exact ⟨st', ⟨h.1, h1⟩, h2⟩

/-- A plan that comes through is a chain of steps. -/
theorem eplan_recs : ∀ {ps : List PS} {st : PSt} {out : Out} {E' : Tr Value} {D' : List Deferred} {S' : St}, (eplan P nt ops ps).run call st.E st.D st.S st.S0 st.hist st.hist.length = .ok out E' D' S' →
    out = .normal ∧ ∃ (recs : List (Rec P nt ops call)) (st' : PSt), recs.map (·.s) = ps ∧ Linked st recs st' ∧ st'.E = E' ∧ st'.D = D' ∧ st'.S = S'
  | [], st, out, E', D', S', h => by
    cases h
    exact ⟨rfl, [], st, rfl, rfl, rfl, rfl, rfl⟩
  | s :: ps, st, out, E', D', S', h => by
    have go : ∀ (want : Bool) (v : Value) (b : PSt) (ok : Stp P nt ops call st s want v b), (eplan P nt ops ps).run call b.E b.D b.S b.S0 b.hist b.hist.length = .ok out E' D' S' →
        out = .normal ∧ ∃ (recs : List (Rec P nt ops call)) (st' : PSt), recs.map (·.s) = s :: ps ∧ Linked st recs st' ∧ st'.E = E' ∧ st'.D = D' ∧ st'.S = S' := by
      intro want v b ok hh
      obtain ⟨ho, recs, st', h1, h2, h3⟩ := eplan_recs hh
      exact ⟨ho, ⟨s, want, v, st, b, ok⟩ :: recs, st', by simp [h1], ⟨rfl, h2⟩, h3⟩
    cases s with
    | pure i o =>
      simp only [eplan] at h
      split at h
      · rename_i w hw
        split at h
        · split at h
          · rename_i v S1 hv
            exact go true v _ (.pure hw hv) h
          · cases h
        · exact go false undef _ (.skipL trivial hw) h
      · cases h
    | reads i o lo =>
      simp only [eplan] at h
      split at h
      · rename_i w hw
        split at h
        · split at h
          · rename_i v S1 hv
            have hs := (cond_inv h (by simp)).1
            replace h := (cond_inv h (by simp)).2
            exact go true v _ (.reads hw hv hs) h
          · cases h
        · exact go false undef _ (.skipL trivial hw) h
      · cases h
    | allocs i o =>
      simp only [eplan] at h
      split at h
      · rename_i w hw
        split at h
        · split at h
          · rename_i v S1 hv
            exact go true v _ (.allocs hw hv) h
          · cases h
        · exact go false undef _ (.skipL trivial hw) h
      · cases h
    | heavy i o =>
      simp only [eplan] at h
      split at h
      · rename_i w hw
        split at h
        · split at h
          · rename_i v S1 hv
            exact go true v _ (.heavy hw hv) h
          · rename_i q hv
            have hs := (cond_inv h (by simp)).1
            replace h := (cond_inv h (by simp)).2
            exact go true undef _ (.dfr hw hv hs) h
          · cases h
        · exact go false undef _ (.skipH hw) h
      · cases h

variable (hz : ZeroOk P) (hm : MonoC call)

/-- Blocks are numbered upwards. -/
theorem stp_next {st st' : PSt} {s : PS} {want : Bool} {v : Value} (hz : ZeroOk P) (hm : MonoC call) (h : Stp P nt ops call st s want v st') : st.S.next ≤ st'.S.next := by
  cases h with
  | skipL hl hw => exact Nat.le_refl _
  | skipH hw => exact Nat.le_refl _
  | pure hw h => exact Nat.le_refl _
  | reads hw h hs => exact Nat.le_refl _
  | allocs hw h => exact (eop_ok (P := P) (w := default) (ρ := fun _ => none) (ev := fun _ => undef) hz hm h).1
  | heavy hw h => exact (eop_ok (P := P) (w := default) (ρ := fun _ => none) (ev := fun _ => undef) hz hm h).1
  | dfr hw h hi => exact Nat.le_refl _

theorem linked_next (hz : ZeroOk P) (hm : MonoC call) : ∀ {l : List (Rec P nt ops call)} {st st' : PSt}, Linked st l st' → st.S.next ≤ st'.S.next ∧ ∀ r ∈ l, st.S.next ≤ r.a.S.next ∧ r.a.S.next ≤ r.b.S.next ∧ r.b.S.next ≤ st'.S.next
  | [], st, st', h => by cases h; exact ⟨Nat.le_refl _, fun r hr => by cases hr⟩
  | x :: l, st, st', h => by
    obtain ⟨h1, h2⟩ := h
    subst h1
    obtain ⟨i1, i2⟩ := linked_next hz hm h2
    have hx := stp_next hz hm x.ok
    refine ⟨Nat.le_trans hx i1, fun r hr => ?_⟩
    rcases List.mem_cons.1 hr with rfl | hr
    · exact ⟨Nat.le_refl _, hx, i1⟩
    · obtain ⟨j1, j2, j3⟩ := i2 r hr
      exact ⟨Nat.le_trans hx j1, j2, j3⟩

/-- What a step writes. -/
theorem stp_env {st st' : PSt} {s : PS} {want : Bool} {v : Value} (h : Stp P nt ops call st s want v st') : st'.E = (putE nt s.oper.dst).run st.E v := by
  cases h <;> rfl

theorem putE_get {nt : Nat} {dst : Option Tmp} {E : Tr Value} {v : Value} (t : Tmp) : ((putE nt dst).run E v).get t = if dst = some t ∧ t < nt then some v else E.get t := by
  cases dst with
  | none => simp [putE]
  | some d =>
    unfold putE
    cases hb : Nat.ble (Nat.succ d) nt with
    | true =>
      have hd := ble_nat hb
      simp only [hb]
      show (E.set d v).get t = _
      rw [Tr.get_set_if]
      by_cases e : t = d
      · subst e; rw [if_pos rfl, if_pos ⟨rfl, hd⟩]
      · rw [if_neg e, if_neg (fun h => e (Option.some.inj h.1).symm)]
    | false =>
      have hd := not_ble hb
      simp only [hb]
      by_cases e : some d = some t ∧ t < nt
      · have := Option.some.inj e.1
        subst this
        exact absurd e.2 hd
      · rw [if_neg e]

end
end Go.Eng

/- The engine, part 29: temporaries in a region that draws its order. -/
namespace Go.Eng

section
variable {P : Program} {nt : Nat} {ops : List Oper} {call : CallF} {ms : Tr Nat} {ps : List PS}

def Closed (ms : Tr Nat) (X : List Nat) : Prop := ∀ i ∈ X, ∀ j, Anc ms i j → j ∈ X

/-- The temporaries when the operations of X are done. -/
def EnvX (recs : List (Rec P nt ops call)) (E0 : Tr Value) (X : List Nat) (E : Tr Value) : Prop :=
  ∀ t, (∀ r ∈ recs, r.s.idx ∈ X → r.s.oper.dst = some t → t < nt → E.get t = some r.v) ∧
    ((∀ r ∈ recs, r.s.idx ∈ X → ¬ (r.s.oper.dst = some t ∧ t < nt)) → E.get t = E0.get t)

/-- Steps of a plan: each operation once, each temporary written once. -/
structure Uniq (recs : List (Rec P nt ops call)) : Prop where
  idx : ∀ r ∈ recs, ∀ r' ∈ recs, r.s.idx = r'.s.idx → r = r'
  dst : ∀ r ∈ recs, ∀ r' ∈ recs, r.s.idx ≠ r'.s.idx → ∀ d, r.s.oper.dst = some d → r'.s.oper.dst ≠ some d

theorem EnvX.nil {recs : List (Rec P nt ops call)} {E0 : Tr Value} : EnvX recs E0 [] E0 := fun t => ⟨fun r _ h => (by cases h), fun _ => rfl⟩

theorem EnvX.step {recs : List (Rec P nt ops call)} (hu : Uniq recs) {E0 E : Tr Value} {X : List Nat} (h : EnvX recs E0 X E) {r : Rec P nt ops call} (hr : r ∈ recs) (hn : r.s.idx ∉ X) :
    EnvX recs E0 (r.s.idx :: X) ((putE nt r.s.oper.dst).run E r.v) := by
  intro t
  refine ⟨fun r' hr' hx hd ht => ?_, fun hno => ?_⟩
  · rw [putE_get]
    by_cases e : r'.s.idx = r.s.idx
    · have := hu.idx r' hr' r hr e
      subst this
      rw [if_pos ⟨hd, ht⟩]
    · rw [if_neg (fun hh => hu.dst r hr r' hr' (fun e' => e e'.symm) t hh.1 hd)]
      refine (h t).1 r' hr' ?_ hd ht
      rcases List.mem_cons.1 hx with hx | hx
      · exact absurd hx e
      · exact hx
  · rw [putE_get, if_neg (hno r hr (by simp))]
    exact (h t).2 fun r' hr' hx => hno r' hr' (List.mem_cons_of_mem _ hx)

theorem EnvX.perm {recs : List (Rec P nt ops call)} {E0 E : Tr Value} {X Y : List Nat} (h : EnvX recs E0 X E) (hxy : ∀ i, i ∈ X ↔ i ∈ Y) : EnvX recs E0 Y E := by
  intro t
  refine ⟨fun r hr hx hd ht => (h t).1 r hr ((hxy _).2 hx) hd ht, fun hno => (h t).2 fun r hr hx => hno r hr ((hxy _).1 hx)⟩

/-- The temporaries along the plan. -/
theorem envX_along {recs : List (Rec P nt ops call)} (hu : Uniq recs) : ∀ {l : List (Rec P nt ops call)} {X : List Nat} {st st' : PSt} {E0 : Tr Value}, (∀ r ∈ l, r ∈ recs) → (l.map (·.s.idx)).Nodup → (∀ r ∈ l, r.s.idx ∉ X) →
    Linked st l st' → EnvX recs E0 X st.E → EnvX recs E0 ((l.map (·.s.idx)).reverse ++ X) st'.E
  | [], X, st, st', E0, _, _, _, hl, h => by cases hl; exact h
  | r :: l, X, st, st', E0, hm, hnd, hx, hl, h => by
    obtain ⟨h1, h2⟩ := hl
    subst h1
    have hs := h.step hu (hm r (by simp)) (hx r (by simp))
    rw [← stp_env r.ok] at hs
    have hnd' := List.nodup_cons.1 hnd
    have := envX_along hu (l := l) (X := r.s.idx :: X) (fun q hq => hm q (by simp [hq])) hnd'.2 (fun q hq => ?_) h2 hs
    · simpa using this
    · intro hmem
      rcases List.mem_cons.1 hmem with e | e
      · exact hnd'.1 (List.mem_map.2 ⟨q, hq, e⟩)
      · exact hx q (by simp [hq]) e

/-- What an operation looks at is the same in both. -/
theorem same_looks (hp : Plan P ops ms ps) {recs : List (Rec P nt ops call)} (hmem : ∀ r ∈ recs, r.s ∈ ps) {E0 E1 E2 : Tr Value} {X1 X2 : List Nat} (h1 : EnvX recs E0 X1 E1) (h2 : EnvX recs E0 X2 E2)
    (c1 : Closed ms X1) (c2 : Closed ms X2) {r : Rec P nt ops call} (hr : r ∈ recs) (n1 : r.s.idx ∉ X1) (n2 : r.s.idx ∉ X2) (a1 : ∀ j, Anc ms r.s.idx j → j ∈ X1) (a2 : ∀ j, Anc ms r.s.idx j → j ∈ X2)
    {t : Tmp} (ht : t ∈ looks ops r.s.oper) : E1.get t = E2.get t := by
  have hw : ∀ q ∈ recs, q.s.oper.dst = some t → (q.s.idx ∈ X1 ↔ q.s.idx ∈ X2) := by
    intro q hq hd
    by_cases e : q.s.idx = r.s.idx
    · rw [e]; exact ⟨fun h => absurd h n1, fun h => absurd h n2⟩
    · have := (hp.apart q.s.idx q.s.oper r.s.idx r.s.oper (hp.mem _ (hmem q hq)).1 (hp.mem _ (hmem r hr)).1 e t hd).2 ht
      rcases this with h | h
      · exact ⟨fun _ => a2 _ h, fun _ => a1 _ h⟩
      · exact ⟨fun hx => absurd (c1 _ hx _ h) n1, fun hx => absurd (c2 _ hx _ h) n2⟩
  by_cases hex : ∃ q ∈ recs, q.s.idx ∈ X1 ∧ q.s.oper.dst = some t ∧ t < nt
  · obtain ⟨q, hq, hx, hd, hlt⟩ := hex
    rw [(h1 t).1 q hq hx hd hlt, (h2 t).1 q hq ((hw q hq hd).1 hx) hd hlt]
  · rw [(h1 t).2 fun q hq hx hd => hex ⟨q, hq, hx, hd⟩, (h2 t).2 fun q hq hx hd => hex ⟨q, hq, (hw q hq hd.1).2 hx, hd⟩]

theorem sameX_of {E1 E2 : Tr Value} {o : Oper} (h : ∀ t ∈ looks ops o, E1.get t = E2.get t) : SameX E1 E2 o.op.operands.toList := by
  intro x hx
  cases x with
  | tmp t =>
    have := h t (by
      unfold looks
      refine List.mem_append_left _ (List.mem_filterMap.2 ⟨.tmp t, hx, rfl⟩))
    simp only [evC]
    have e1 : (getP (pathOf t)).run E1 = E1.get t := rfl
    have e2 : (getP (pathOf t)).run E2 = E2.get t := rfl
    rw [e1, e2, this]
  | const v => simp only [evC]; split <;> rfl
  | global g => rfl
  | func f => rfl

theorem wanted_same {E1 E2 : Tr Value} {o : Oper} (h : ∀ t ∈ looks ops o, E1.get t = E2.get t) : (ewanted ops o).run E1 = (ewanted ops o).run E2 := by
  unfold ewanted
  split
  · rfl
  · rename_i j want hg
    split
    · rename_i g hgj
      split
      · rename_i d hd
        have := h d (by
          unfold looks
          rw [hg]
          simp only [hgj, hd]
          exact List.mem_append_right _ (by simp))
        have e1 : (getP (pathOf d)).run E1 = E1.get d := rfl
        have e2 : (getP (pathOf d)).run E2 = E2.get d := rfl
        simp only [e1, e2, this]
      · rfl
    · rfl

end
end Go.Eng

/- The engine, part 30: where a plan's steps stand. -/
namespace Go.Eng

def segA : List PS → List Nat → List Nat
  | [], seg => seg
  | s :: l, seg => match s with
    | .heavy _ _ => segA l []
    | .pure i _ | .reads i _ _ | .allocs i _ => segA l (i :: seg)
def hvA : List PS → List Nat → List Nat
  | [], hv => hv
  | s :: l, hv => match s with
    | .heavy i _ => hvA l (i :: hv)
    | _ => hvA l hv
def doneA : List PS → List Nat → List Nat
  | [], d => d
  | s :: l, d => doneA l (s.idx :: d)

theorem OkP.rest {ms : Tr Nat} {n : Nat} {s : PS} {l : List PS} {d seg hv : List Nat} (h : OkP ms n (s :: l) d seg hv) : OkP ms n l (s.idx :: d) (segA [s] seg) (hvA [s] hv) := by
  cases s with
  | pure i o => exact h.2.2
  | allocs i o => exact h.2.2
  | reads i o lo => exact h.2.2.2
  | heavy i o => exact h.2.2.2.2

theorem segA_cons (s : PS) (l : List PS) (seg : List Nat) : segA (s :: l) seg = segA l (segA [s] seg) := by cases s <;> rfl
theorem hvA_cons (s : PS) (l : List PS) (hv : List Nat) : hvA (s :: l) hv = hvA l (hvA [s] hv) := by cases s <;> rfl

theorem OkP.drop {ms : Tr Nat} {n : Nat} : ∀ {a b : List PS} {d seg hv : List Nat}, OkP ms n (a ++ b) d seg hv → OkP ms n b (doneA a d) (segA a seg) (hvA a hv)
  | [], _, _, _, _, h => h
  | s :: a, b, d, seg, hv, h => by
    rw [segA_cons, hvA_cons]
    exact OkP.drop (a := a) (OkP.rest (l := a ++ b) h)

theorem mem_doneA {i : Nat} : ∀ {a : List PS} {d : List Nat}, i ∈ doneA a d ↔ i ∈ a.map PS.idx ∨ i ∈ d
  | [], d => by simp [doneA]
  | s :: a, d => by
    simp only [doneA, mem_doneA, List.map_cons, List.mem_cons]
    constructor
    · rintro (h | h | h)
      · exact .inl (.inr h)
      · exact .inl (.inl h)
      · exact .inr h
    · rintro ((h | h) | h)
      · exact .inr (.inl h)
      · exact .inl h
      · exact .inr (.inr h)

theorem okP_nodup {ms : Tr Nat} {n : Nat} : ∀ {ps : List PS} {d seg hv : List Nat}, OkP ms n ps d seg hv → (ps.map PS.idx).Nodup ∧ ∀ s ∈ ps, s.idx ∉ d
  | [], _, _, _, _ => ⟨List.nodup_nil, fun s hs => by cases hs⟩
  | s :: l, d, seg, hv, h => by
    obtain ⟨i1, i2⟩ := okP_nodup h.rest
    refine ⟨?_, fun x hx => ?_⟩
    · rw [List.map_cons, List.nodup_cons]
      refine ⟨fun hm => ?_, i1⟩
      obtain ⟨x, hx, e⟩ := List.mem_map.1 hm
      exact i2 x hx (by rw [e]; simp)
    · rcases List.mem_cons.1 hx with rfl | hx
      · exact h.1
      · exact fun hd => i2 x hx (List.mem_cons_of_mem _ hd)

theorem okP_all {ms : Tr Nat} {n : Nat} {ps : List PS} {d seg hv : List Nat} (h : OkP ms n ps d seg hv) : ∀ j, j < n → j ∈ ps.map PS.idx ∨ j ∈ d := by
  intro j hj
  have := OkP.drop (a := ps) (b := []) (by simpa using h)
  exact mem_doneA.1 (this j hj)

section
variable {P : Program} {nt : Nat} {ops : List Oper} {call : CallF} {ms : Tr Nat}

theorem nodup_inj : ∀ {recs : List (Rec P nt ops call)}, (recs.map (·.s.idx)).Nodup → ∀ r ∈ recs, ∀ r' ∈ recs, r.s.idx = r'.s.idx → r = r'
  | [], _, r, hr, _, _, _ => by cases hr
  | x :: l, h, r, hr, r', hr', e => by
    rw [List.map_cons, List.nodup_cons] at h
    rcases List.mem_cons.1 hr with h1 | h1
    · rcases List.mem_cons.1 hr' with h2 | h2
      · rw [h1, h2]
      · subst h1
        exact absurd (show r.s.idx ∈ l.map (·.s.idx) from List.mem_map.2 ⟨r', h2, e.symm⟩) h.1
    · rcases List.mem_cons.1 hr' with h2 | h2
      · subst h2
        exact absurd (show r'.s.idx ∈ l.map (·.s.idx) from List.mem_map.2 ⟨r, h1, e⟩) h.1
      · exact nodup_inj h.2 r h1 r' h2 e

theorem uniq_of {ps : List PS} (hp : Plan P ops ms ps) {recs : List (Rec P nt ops call)} (hs : recs.map (·.s) = ps) : Uniq recs := by
  have hnd : (recs.map (·.s.idx)).Nodup := by
    have := (okP_nodup hp.ok).1
    rw [← hs, List.map_map] at this
    exact this
  have hmem : ∀ r ∈ recs, r.s ∈ ps := fun r hr => hs ▸ List.mem_map.2 ⟨r, hr, rfl⟩
  exact ⟨nodup_inj hnd, fun r hr r' hr' hne d hd => (hp.apart _ _ _ _ (hp.mem _ (hmem r hr)).1 (hp.mem _ (hmem r' hr')).1 hne d hd).1⟩

/-- What a chain of steps leaves of the memories behind the heavy ones. -/
theorem linked_hist : ∀ {l : List (Rec P nt ops call)} {st st' : PSt}, Linked st l st' → ∀ hv : List Nat, ∃ h2 : List Nat, hvA (l.map (·.s)) hv = h2 ++ hv ∧ (∀ i ∈ h2, ∃ r ∈ l, r.s.idx = i ∧ ¬ r.s.light) ∧
    ((h2 = [] ∧ st'.S0 = st.S0 ∧ st'.hist = st.hist) ∨ ∃ pre, st'.hist = pre ++ st.S0 :: st.hist ∧ h2.length = pre.length + 1)
  | [], st, st', h, hv => by
    cases h
    exact ⟨[], rfl, (fun i hi => by cases hi), .inl ⟨rfl, rfl, rfl⟩⟩
  | r :: l, st, st', h, hv => by
    obtain ⟨h1, h2⟩ := h
    subst h1
    by_cases hl : r.s.light
    · obtain ⟨g, e1, e2, e3⟩ := linked_hist h2 hv
      have hb : r.b.S0 = r.a.S0 ∧ r.b.hist = r.a.hist := by
        obtain ⟨s, want, v, a, b, ok⟩ := r
        simp only at hl ⊢
        cases ok <;> first | exact ⟨rfl, rfl⟩ | exact hl.elim
      have hh : hvA ((r :: l).map (·.s)) hv = hvA (l.map (·.s)) hv := by
        rw [List.map_cons, hvA_cons]
        congr 1
        cases hs : r.s <;> first | rfl | (rw [hs] at hl; exact hl.elim)
      rw [hb.1, hb.2] at e3
      refine ⟨g, by rw [hh, e1], fun i hi => ?_, e3⟩
      obtain ⟨q, hq, h3⟩ := e2 i hi
      exact ⟨q, List.mem_cons_of_mem _ hq, h3⟩
    · have hh : hvA ((r :: l).map (·.s)) hv = hvA (l.map (·.s)) (r.s.idx :: hv) := by
        rw [List.map_cons, hvA_cons]
        congr 1
        cases hs : r.s <;> first | rfl | (rw [hs] at hl; exact (hl trivial).elim)
      have hb : r.b.hist = r.a.S0 :: r.a.hist := by
        obtain ⟨s, want, v, a, b, ok⟩ := r
        simp only at hl ⊢
        cases ok <;> first | rfl | exact (hl trivial).elim | exact absurd (by assumption) hl
      obtain ⟨g, e1, e2, e3⟩ := linked_hist h2 (r.s.idx :: hv)
      refine ⟨g ++ [r.s.idx], by rw [hh, e1, List.append_assoc]; rfl, fun i hi => ?_, .inr ?_⟩
      · rcases List.mem_append.1 hi with hi | hi
        · obtain ⟨q, hq, h3⟩ := e2 i hi
          exact ⟨q, List.mem_cons_of_mem _ hq, h3⟩
        · simp at hi
          exact ⟨r, by simp, hi.symm, hl⟩
      · rcases e3 with ⟨h3, h4, h5⟩ | ⟨pre, h3, h4⟩
        · exact ⟨[], by rw [h5, hb]; rfl, by rw [h3]; rfl⟩
        · exact ⟨pre ++ [r.b.S0], by rw [h3, hb, List.append_assoc]; rfl, by rw [List.length_append, List.length_append, h4]; rfl⟩

end
end Go.Eng

/- The engine, part 31: memory in a region that draws its order. -/
namespace Go.Eng

section
variable {P : Program} {nt : Nat} {ops : List Oper} {call : CallF} {ms : Tr Nat}

/-- One that lays a block. -/
def IsAl (r : Rec P nt ops call) : Prop := (∃ i o, r.s = .allocs i o) ∧ r.want = true

/-- The blocks that those of X lay. -/
def Early (X : List Nat) (l : List (Rec P nt ops call)) (b : Nat) (o : AObj) : Prop := ∃ r ∈ l, IsAl r ∧ r.s.idx ∈ X ∧ r.a.S.next = b ∧ r.b.S.heap.get b = some o

theorem rec_al {r : Rec P nt ops call} (hp : PsOk P ops r.s) (h : IsAl r) :
    ∃ obj, r.b.S = ⟨r.a.S.heap.set r.a.S.next obj, Nat.succ r.a.S.next⟩ ∧ ∀ hp, (eop P r.s.oper).run call r.a.E ⟨hp, r.a.S.next⟩ = .val r.v ⟨hp.set r.a.S.next obj, Nat.succ r.a.S.next⟩ := by
  obtain ⟨s, want, v, a, b, ok⟩ := r
  obtain ⟨⟨i, o, hs⟩, hw⟩ := h
  simp only at hs hw hp ⊢
  subst hs hw
  cases ok with
  | allocs hwt h => exact allocs_ok hp.2 h

theorem rec_noal {r : Rec P nt ops call} (hl : r.s.light) (h : ¬ IsAl r) : r.b.S = r.a.S := by
  obtain ⟨s, want, v, a, b, ok⟩ := r
  cases ok with
  | allocs hw hv => exact absurd ⟨⟨_, _, rfl⟩, rfl⟩ h
  | skipL => rfl
  | pure => rfl
  | reads => rfl
  | skipH => exact hl.elim
  | heavy => exact hl.elim
  | dfr => exact hl.elim

theorem rec_light {r : Rec P nt ops call} (hl : r.s.light) : r.b.S0 = r.a.S0 ∧ r.b.hist = r.a.hist ∧ r.b.D = r.a.D := by
  obtain ⟨s, want, v, a, b, ok⟩ := r
  cases ok <;> first | exact ⟨rfl, rfl, rfl⟩ | exact hl.elim

def FreshS (S : St) : Prop := ∀ b o, S.heap.get b = some o → b < S.next

/-- Memory along light steps. -/
theorem seg_heap : ∀ {l : List (Rec P nt ops call)} {st st' : PSt}, Linked st l st' → (∀ r ∈ l, r.s.light) → (∀ r ∈ l, PsOk P ops r.s) → FreshS st.S →
    FreshS st'.S ∧ ∀ b o, st'.S.heap.get b = some o ↔ st.S.heap.get b = some o ∨ ∃ r ∈ l, IsAl r ∧ r.a.S.next = b ∧ r.b.S.heap.get b = some o
  | [], st, st', h, _, _, hf => by
    cases h
    exact ⟨hf, fun b o => ⟨.inl, fun h => h.elim id fun ⟨r, hr, _⟩ => by cases hr⟩⟩
  | r :: l, st, st', h, hl, hp, hf => by
    obtain ⟨h1, h2⟩ := h
    subst h1
    have hl' : ∀ q ∈ l, q.s.light := fun q hq => hl q (List.mem_cons_of_mem _ hq)
    have hp' : ∀ q ∈ l, PsOk P ops q.s := fun q hq => hp q (List.mem_cons_of_mem _ hq)
    by_cases ha : IsAl r
    · obtain ⟨obj, e1, _⟩ := rec_al (hp r (by simp)) ha
      have hget : ∀ b, r.b.S.heap.get b = if b = r.a.S.next then some obj else r.a.S.heap.get b := fun b => by rw [e1]; exact Tr.get_set_if _ _ _ _
      have hf' : FreshS r.b.S := by
        intro b o hb
        rw [hget] at hb
        rw [e1]
        show b < Nat.succ r.a.S.next
        split at hb
        · omega
        · have := hf b o hb; omega
      obtain ⟨i1, i2⟩ := seg_heap h2 hl' hp' hf'
      refine ⟨i1, fun b o => ?_⟩
      rw [i2 b o]
      constructor
      · rintro (hb | ⟨q, hq, h3⟩)
        · by_cases e : b = r.a.S.next
          · exact .inr ⟨r, by simp, ha, e.symm, hb⟩
          · rw [hget, if_neg e] at hb
            exact .inl hb
        · exact .inr ⟨q, List.mem_cons_of_mem _ hq, h3⟩
      · rintro (hb | ⟨q, hq, h3, h4, h5⟩)
        · left
          rw [hget, if_neg (by have := hf b o hb; omega)]
          exact hb
        · rcases List.mem_cons.1 hq with rfl | hq
          · exact .inl h5
          · exact .inr ⟨q, hq, h3, h4, h5⟩
    · have e1 := rec_noal (hl r (by simp)) ha
      have hf' : FreshS r.b.S := by rw [e1]; exact hf
      obtain ⟨i1, i2⟩ := seg_heap h2 hl' hp' hf'
      refine ⟨i1, fun b o => ?_⟩
      rw [i2 b o, e1]
      constructor
      · rintro (hb | ⟨q, hq, h3⟩)
        · exact .inl hb
        · exact .inr ⟨q, List.mem_cons_of_mem _ hq, h3⟩
      · rintro (hb | ⟨q, hq, h3, h4, h5⟩)
        · exact .inl hb
        · rcases List.mem_cons.1 hq with rfl | hq
          · exact absurd h3 ha
          · exact .inr ⟨q, hq, h3, h4, h5⟩

/-- A heap with some blocks from another. -/
theorem overlay (H K : Tr AObj) : ∀ l : List Nat, ∃ H' : Tr AObj, ∀ b, H'.get b = if b ∈ l then K.get b else H.get b
  | [] => ⟨H, fun b => by simp⟩
  | x :: l => by
    obtain ⟨H1, h1⟩ := overlay H K l
    cases hk : K.get x with
    | some o =>
      refine ⟨H1.set x o, fun b => ?_⟩
      rw [Tr.get_set_if]
      by_cases e : b = x
      · subst e; rw [if_pos rfl, if_pos (by simp), hk]
      · rw [if_neg e, h1]
        simp [e]
    | none =>
      refine ⟨H1.del x, fun b => ?_⟩
      by_cases e : b = x
      · subst e; rw [Tr.get_del, if_pos (by simp), hk]
      · rw [Tr.get_del_ne _ e, h1]
        simp [e]

/-- The state of a region's run: X is done; pre: the plan's steps up to the last heavy one that is done. -/
structure Inv (ms : Tr Nat) (recs : List (Rec P nt ops call)) (st0 fin : PSt) (ρ0 : Ren) (w0 : World) (X : List Nat) (pre post : List (Rec P nt ops call)) (mid : PSt) (ρ : Ren) (w : World) (H : Tr AObj) (E : Tr Value) (t : Array Value) (d : List Deferred) : Prop where
  all : recs = pre ++ post
  hpre : ∀ r ∈ pre, r.s.idx ∈ X
  hpost : ∀ r ∈ post, r.s.idx ∈ X → r.s.light
  clo : Closed ms X
  l1 : Linked st0 pre mid
  l2 : Linked mid post fin
  midS : mid.S0 = mid.S
  heap : ∀ b o, H.get b = some o ↔ mid.S.heap.get b = some o ∨ Early X post b o
  fresh : FreshS mid.S
  gam : Gam P ρ ⟨H, fin.S.next⟩ w
  fr : Fr ρ0 ρ st0.S ⟨H, fin.S.next⟩ w0 w
  ext : Ext ρ0 ρ st0.S.next fin.S.next
  free : ∀ r ∈ post, r.s.idx ∉ X → Free ρ r.a.S.next r.b.S.next
  envX : EnvX recs st0.E X E
  env : EnvRel ρ nt E t
  dfr : DRels ρ mid.D d

end
end Go.Eng

/- The engine, part 32: a step of a region in whatever order: what is light. -/
namespace Go.Eng

section
variable {P : Program} {nt : Nat} {ops : List Oper} {call : CallF} {ms : Tr Nat} {ps : List PS}

theorem okP_closed {n : Nat} : ∀ {a b : List PS} {d seg hv : List Nat}, OkP ms n (a ++ b) d seg hv → (∀ i ∈ d, ∀ j, Anc ms i j → j ∈ d) → Closed ms (doneA a d)
  | [], b, d, seg, hv, h, hd => hd
  | s :: a, b, d, seg, hv, h, hd => by
    refine okP_closed (a := a) (OkP.rest (l := a ++ b) h) fun i hi j hj => ?_
    rcases List.mem_cons.1 hi with e | hi
    · subst e
      exact List.mem_cons_of_mem _ (h.2.1 j hj)
    · exact List.mem_cons_of_mem _ (hd i hi j hj)

theorem mem_idx {l : List (Rec P nt ops call)} {i : Nat} : i ∈ (l.map (·.s.idx)).reverse ++ [] ↔ i ∈ doneA (l.map (·.s)) [] := by
  rw [mem_doneA, List.append_nil, List.mem_reverse, List.map_map]
  simp

/-- What a step of the plan knows, seen from the machine. -/
structure At (ms : Tr Nat) (ops : List Oper) (E : Tr Value) (r : Rec P nt ops call) : Prop where
  looks : ∀ t ∈ looks ops r.s.oper, r.a.E.get t = E.get t

theorem at_ok {recs : List (Rec P nt ops call)} (hp : Plan P ops ms ps) (hs : recs.map (·.s) = ps) {pre a b : List (Rec P nt ops call)} {r : Rec P nt ops call} {st0 : PSt} {X : List Nat} {E : Tr Value}
    (hall : recs = (pre ++ a) ++ r :: b) (hl : Linked st0 (pre ++ a) r.a) (he : EnvX recs st0.E X E) (hc : Closed ms X) (hn : r.s.idx ∉ X) (ha : ∀ j, Anc ms r.s.idx j → j ∈ X) : At ms ops E r := by
  have hu := uniq_of hp hs
  have hok := hp.ok
  have hps : ps = (pre ++ a).map (·.s) ++ r.s :: b.map (·.s) := by rw [← hs, hall]; simp
  rw [hps] at hok
  have hnd : (recs.map (·.s.idx)).Nodup := by
    have := (okP_nodup hp.ok).1
    rw [← hs, List.map_map] at this
    exact this
  rw [hall, List.map_append, List.nodup_append] at hnd
  have h1 := envX_along hu (X := []) (l := pre ++ a) (fun q hq => by rw [hall]; exact List.mem_append_left _ hq) hnd.1 (fun q _ h => by cases h) hl EnvX.nil
  have hdrop := OkP.drop (a := (pre ++ a).map (·.s)) hok
  have h1' := h1.perm (Y := doneA ((pre ++ a).map (·.s)) []) fun i => mem_idx
  refine ⟨fun t ht => ?_⟩
  exact same_looks hp (fun q hq => hs ▸ List.mem_map.2 ⟨q, hq, rfl⟩) h1' he (okP_closed hok (fun i hi => by cases hi)) hc (by rw [hall]; simp) hdrop.1 hn hdrop.2.1 ha ht

theorem ext_none {ρ ρ' : Ren} {n a b : Nat} (h : Ext ρ ρ' n n) : Ext ρ ρ' a b :=
  ⟨h.1, fun c h1 h2 => absurd (h.2 c h1 h2) (by omega)⟩

/-- A light step is done. -/
theorem inv_light (hp : Plan P ops ms ps) {recs : List (Rec P nt ops call)} (hs : recs.map (·.s) = ps) (hz : ZeroOk P) (hm : MonoC call) {st0 fin mid : PSt} {ρ0 ρ ρ' : Ren} {w0 w w' : World} {X : List Nat} {pre post : List (Rec P nt ops call)} {H H' : Tr AObj} {E : Tr Value}
    {t : Array Value} {d : List Deferred} (inv : Inv ms recs st0 fin ρ0 w0 X pre post mid ρ w H E t d) {r : Rec P nt ops call} (hr : r ∈ post) (hn : r.s.idx ∉ X) (ha : ∀ j, Anc ms r.s.idx j → j ∈ X) (hl : r.s.light)
    {v' : Value} (hv : VRel ρ' r.v v') (hext : Ext ρ ρ' r.a.S.next r.b.S.next) (hg : Gam P ρ' ⟨H', fin.S.next⟩ w') (hf : Fr ρ ρ' ⟨H, fin.S.next⟩ ⟨H', fin.S.next⟩ w w')
    (hH : ∀ b o, H'.get b = some o ↔ H.get b = some o ∨ (IsAl r ∧ r.a.S.next = b ∧ r.b.S.heap.get b = some o)) :
    Inv ms recs st0 fin ρ0 w0 (r.s.idx :: X) pre post mid ρ' w' H' ((putE nt r.s.oper.dst).run E r.v) (putT t r.s.oper.dst v') d := by
  have hu := uniq_of hp hs
  have hrr : r ∈ recs := by rw [inv.all]; exact List.mem_append_right _ hr
  have hpost : ∀ q ∈ post, q ∈ recs := fun q hq => by rw [inv.all]; exact List.mem_append_right _ hq
  obtain ⟨n1, n2⟩ := linked_next hz hm inv.l1
  obtain ⟨n3, n4⟩ := linked_next hz hm inv.l2
  obtain ⟨n5, n6, n7⟩ := n4 r hr
  refine ⟨inv.all, fun q hq => List.mem_cons_of_mem _ (inv.hpre q hq), fun q hq hx => ?_, fun i hi j hj => ?_, inv.l1, inv.l2, inv.midS, fun b o => ?_, inv.fresh, hg, inv.fr.trans hf, ⟨inv.ext.1.trans hext.1, fun b h1 h2 => ?_⟩, fun q hq hx => ?_,
    inv.envX.step hu hrr hn, env_put (inv.env.mono hext.1) _ hv, inv.dfr.mono hext.1⟩
  · rcases List.mem_cons.1 hx with e | hx
    · rw [hu.idx q (hpost q hq) r hrr e]; exact hl
    · exact inv.hpost q hq hx
  · rcases List.mem_cons.1 hi with e | hi
    · subst e; exact List.mem_cons_of_mem _ (ha j hj)
    · exact List.mem_cons_of_mem _ (inv.clo i hi j hj)
  · rw [hH, inv.heap]
    constructor
    · rintro ((h | ⟨q, h1, h2, h3, h4⟩) | ⟨h1, h2, h3⟩)
      · exact .inl h
      · exact .inr ⟨q, h1, h2, List.mem_cons_of_mem _ h3, h4⟩
      · exact .inr ⟨r, hr, h1, by simp, h2, h3⟩
    · rintro (h | ⟨q, h1, h2, h3, h4, h5⟩)
      · exact .inl (.inl h)
      · rcases List.mem_cons.1 h3 with e | h3
        · have := hu.idx q (hpost q h1) r hrr e
          subst this
          exact .inr ⟨h2, h4, h5⟩
        · exact .inl (.inr ⟨q, h1, h2, h3, h4, h5⟩)
  · cases hb : ρ b with
    | some L => exact inv.ext.2 b h1 (by simp [hb])
    | none =>
      have := hext.2 b hb h2
      omega
  · intro b h1 h2
    have h0 := inv.free q hq (fun h => hx (List.mem_cons_of_mem _ h)) b h1 h2
    cases hb : ρ' b with
    | none => rfl
    | some L =>
      exfalso
      have h3 := hext.2 b h0 (by simp [hb])
      -- the two ranges are apart
      have hne : q ≠ r := fun e => hx (by rw [e]; simp)
      obtain ⟨l1, l2, e⟩ := List.append_of_mem hr
      rw [e] at hq
      have hlk := inv.l2
      rw [e] at hlk
      obtain ⟨st, k1, k2⟩ := hlk.split
      obtain ⟨k3, k4⟩ := k2
      subst k3
      rcases List.mem_append.1 hq with hq1 | hq1
      · have := (linked_next hz hm k1).2 q hq1
        omega
      · rcases List.mem_cons.1 hq1 with e2 | hq1
        · exact hne e2
        · have := (linked_next hz hm k4).2 q hq1
          omega

end
end Go.Eng

/- The engine, part 33: light steps in whatever order. -/
namespace Go.Eng

section
variable {P : Program} {nt : Nat} {ops : List Oper} {call : CallF} {ms : Tr Nat} {ps : List PS} {fn : FuncId} {rnd : Bool}

theorem not_al {s : PS} {want : Bool} {v : Value} {a b : PSt} {ok : Stp P nt ops call a s want v b} (h : (∀ i o, s ≠ .allocs i o) ∨ want = false) : ¬ IsAl (⟨s, want, v, a, b, ok⟩ : Rec P nt ops call) := by
  rintro ⟨⟨i, o, h1⟩, h2⟩
  rcases h with h | h
  · exact h i o h1
  · simp only at h2; rw [h] at h2; cases h2

theorem hvA_append : ∀ (a b : List PS) (hv : List Nat), hvA (a ++ b) hv = hvA b (hvA a hv)
  | [], _, _ => rfl
  | s :: a, b, hv => by
    rw [List.cons_append, hvA_cons, hvA_append a b, ← hvA_cons]

theorem rec_cases {r : Rec P nt ops call} (hl : r.s.light) (hp : PsOk P ops r.s) :
    ((ewanted ops r.s.oper).run r.a.E = some false ∧ r.v = undef ∧ ¬ IsAl r) ∨ ((ewanted ops r.s.oper).run r.a.E = some true ∧
      ((∃ S1, (eop P r.s.oper).run call r.a.E r.a.S0 = .val r.v S1 ∧ clsOf P r.s.oper = .pure ∧ ¬ IsAl r) ∨
       (∃ lo S1, r.s = .reads r.s.idx r.s.oper lo ∧ (eop P r.s.oper).run call r.a.E r.a.S0 = .val r.v S1 ∧ clsOf P r.s.oper = .reads ∧
          sameIn ((eop P r.s.oper).run call r.a.E) r.v r.a.hist (Nat.sub r.a.hist.length lo) = true ∧ ¬ IsAl r) ∨ IsAl r)) := by
  obtain ⟨s, want, v, a, b, ok⟩ := r
  simp only at hl hp ⊢
  cases ok with
  | skipL hl hw => exact .inl ⟨hw, rfl, not_al (.inr rfl)⟩
  | skipH => exact hl.elim
  | pure hw h => exact .inr ⟨hw, .inl ⟨_, h, hp.2, not_al (.inl (fun _ _ h => by cases h))⟩⟩
  | reads hw h hsm => exact .inr ⟨hw, .inr (.inl ⟨_, _, rfl, h, hp.2, hsm, not_al (.inl (fun _ _ h => by cases h))⟩)⟩
  | allocs hw h => exact .inr ⟨hw, .inr (.inr ⟨⟨_, _, rfl⟩, rfl⟩)⟩
  | heavy => exact hl.elim
  | dfr => exact hl.elim

theorem linked_apart (hz : ZeroOk P) (hm : MonoC call) : ∀ {l : List (Rec P nt ops call)} {st st' : PSt}, Linked st l st' → ∀ {q r : Rec P nt ops call}, q ∈ l → r ∈ l → q ≠ r → q.b.S.next ≤ r.a.S.next ∨ r.b.S.next ≤ q.a.S.next
  | [], _, _, _, _, _, hq, _, _ => by cases hq
  | x :: l, st, st', h, q, r, hq, hr, hne => by
    obtain ⟨h1, h2⟩ := h
    rcases List.mem_cons.1 hq with e1 | e1
    · rcases List.mem_cons.1 hr with e2 | e2
      · exact absurd (e1.trans e2.symm) hne
      · subst e1
        exact .inl ((linked_next hz hm h2).2 r e2).1
    · rcases List.mem_cons.1 hr with e2 | e2
      · subst e2
        exact .inr ((linked_next hz hm h2).2 q e1).1
      · exact linked_apart hz hm h2 e1 e2 hne

theorem light_step (hz : ZeroOk P) (hc : CallS P call) (hp : Plan P ops ms ps) {recs : List (Rec P nt ops call)} (hs : recs.map (·.s) = ps) {opsA : Array Oper} (hA : opsA.toList = ops) (hrnd : rnd = false ∨ ∀ o ∈ ops, Plain o)
    {st0 fin mid : PSt} {ρ0 ρ : Ren} {w0 w : World} {X : List Nat} {pre post : List (Rec P nt ops call)} {H : Tr AObj} {E : Tr Value}
    {t : Array Value} {d : List Deferred} (inv : Inv ms recs st0 fin ρ0 w0 X pre post mid ρ w H E t d) {r : Rec P nt ops call} (hr : r ∈ post) (hn : r.s.idx ∉ X) (ha : ∀ j, Anc ms r.s.idx j → j ∈ X) (hl : r.s.light) (h0 : st0.hist = []) :
    ∃ ρ' w' H' v', Inv ms recs st0 fin ρ0 w0 (r.s.idx :: X) pre post mid ρ' w' H' ((putE nt r.s.oper.dst).run E r.v) (putT t r.s.oper.dst v') d ∧
      ∀ k rest, Moves P fn rnd ⟨t, d, .inRegion opsA (r.s.idx :: rest) :: k, w⟩ ⟨putT t r.s.oper.dst v', d, .inRegion opsA rest :: k, w'⟩ := by
  subst hA
  have hrr : r ∈ recs := by rw [inv.all]; exact List.mem_append_right _ hr
  have hps : PsOk P opsA.toList r.s := hp.mem _ (hs ▸ List.mem_map.2 ⟨r, hrr, rfl⟩)
  obtain ⟨a, b, e⟩ := List.append_of_mem hr
  have hlk := inv.l2
  rw [e] at hlk
  obtain ⟨st, la, lb⟩ := hlk.split
  obtain ⟨e1, lb⟩ := lb
  subst e1
  have hat : At ms opsA.toList E r := at_ok hp hs (pre := pre) (a := a) (b := b) (by rw [inv.all, e]; simp) (inv.l1.append la) inv.envX inv.clo hn ha
  have ho : opsA[r.s.idx]? = some r.s.oper := by
    have := hps.1
    simpa using this
  have hpl : rnd = false ∨ Plain r.s.oper := hrnd.imp id fun h => h _ (List.mem_of_getElem? hps.1)
  have hwant : ∀ q, (ewanted opsA.toList r.s.oper).run r.a.E = some q → Region.wanted r.s.oper (yielded opsA t) = q := fun q hq => by
    rw [wanted_same hat.looks] at hq
    exact wanted_ok inv.env hq
  have hop : ∀ S, (eop P r.s.oper).run call r.a.E S = (eop P r.s.oper).run call E S := fun S => eop_congr (sameX_of hat.looks)
  -- an operation that is run beside the memory of the last heavy one
  have go : ∀ (S2 S2' : St), S2.heap = mid.S.heap → mid.S.next ≤ S2.next → (eop P r.s.oper).run call r.a.E S2 = .val r.v S2' → Free ρ S2.next S2'.next → (ewanted opsA.toList r.s.oper).run r.a.E = some true →
      Ext ρ ρ S2.next S2'.next → ∃ ρ' v' w', Evo P ρ S2 w ρ' S2' w' ∧ VRel ρ' r.v v' ∧
        ∀ k rest, Moves P fn rnd ⟨t, d, .inRegion opsA (r.s.idx :: rest) :: k, w⟩ ⟨putT t r.s.oper.dst v', d, .inRegion opsA rest :: k, w'⟩ := by
    intro S2 S2' h1 h2 h3 h4 h5 _
    rw [hop] at h3
    have hg2 : Gam P ρ S2 w := inv.gam.sub (fun b o hb => (inv.heap b o).2 (.inl (by rw [← h1]; exact hb))) fun b o hb => by
      have := inv.fresh b o (by rw [← h1]; exact hb)
      omega
    have hgo := (eop_ok (w := w) (ρ := ρ) (ev := evT t) hz hc.mono h3).2 hg2 h4 (env_x inv.env)
    obtain ⟨ρ', v', w', g1, g2, g3⟩ := op_move (fn := fn) hc ho (hwant true h5) hpl hg2 h4 hgo
    exact ⟨ρ', v', w', g1, g2, fun k rest => g3 d k rest⟩
  -- one that leaves memory as it is
  have quiet : ∀ (_ : ¬ IsAl r), (eop P r.s.oper).run call r.a.E mid.S = .val r.v mid.S → (ewanted opsA.toList r.s.oper).run r.a.E = some true →
      ∃ ρ' w' H' v', Inv ms recs st0 fin ρ0 w0 (r.s.idx :: X) pre post mid ρ' w' H' ((putE nt r.s.oper.dst).run E r.v) (putT t r.s.oper.dst v') d ∧
        ∀ k rest, Moves P fn rnd ⟨t, d, .inRegion opsA (r.s.idx :: rest) :: k, w⟩ ⟨putT t r.s.oper.dst v', d, .inRegion opsA rest :: k, w'⟩ := by
    intro hna h3 h5
    obtain ⟨ρ', v', w', g1, g2, g3⟩ := go mid.S mid.S rfl (Nat.le_refl _) h3 (fun b h1 h2 => by omega) h5 ⟨Sub.refl _, fun _ h h' => absurd h h'⟩
    obtain ⟨f1, f2⟩ := evo_frame (H := ⟨H, fin.S.next⟩) (H1 := ⟨H, fin.S.next⟩) inv.gam (fun b o hb => (inv.heap b o).2 (.inl hb)) g1 (fun b o hb => by
      cases hb2 : mid.S.heap.get b with
      | none => exact .inr ⟨hb, rfl⟩
      | some o2 =>
        have h6 := (inv.heap b o2).2 (.inl hb2)
        have h7 : H.get b = some o := hb
        rw [h7] at h6; cases h6
        exact .inl rfl) inv.gam.fresh
    exact ⟨ρ', w', H, v', inv_light hp hs hz hc.mono inv hr hn ha hl g2 (ext_none g1.ext) f1 f2 (fun b o => ⟨.inl, fun h => h.elim id fun h => absurd h.1 hna⟩), g3⟩
  rcases rec_cases hl hps with ⟨h1, h2, h3⟩ | ⟨h1, h2⟩
  · refine ⟨ρ, w, H, undef, inv_light hp hs hz hc.mono inv hr hn ha hl (by rw [h2]; exact undef_rel ρ) ⟨Sub.refl _, fun _ h h' => absurd h h'⟩ inv.gam (Fr.refl _ _ _) (fun b o => ⟨.inl, fun h => h.elim id fun h => absurd h.1 h3⟩),
      fun k rest => mv_op_skip ho (hwant false h1)⟩
  · rcases h2 with ⟨S1, h3, h4, h5⟩ | ⟨lo, S1, h3, h4, h5, h6, h7⟩ | h3
    · exact quiet h5 ((pure_ok h4 h3).2 mid.S) h1
    · -- a reading
      have hmid : ∃ S1, (eop P r.s.oper).run call r.a.E mid.S = .val r.v S1 := by
        obtain ⟨h2l, k1, k2, k3⟩ := linked_hist la (hvA (pre.map (·.s)) [])
        obtain ⟨p2l, m1, m2, m3⟩ := linked_hist inv.l1 []
        rcases k3 with ⟨k3, k4, k5⟩ | ⟨pr, k3, k4⟩
        · rw [← inv.midS, ← k4]; exact ⟨S1, h4⟩
        · have hok := hp.ok
          have hpsl : ps = (pre ++ a).map (·.s) ++ r.s :: b.map (·.s) := by rw [← hs, inv.all, e]; simp
          rw [hpsl] at hok
          have hdrop := OkP.drop (a := (pre ++ a).map (·.s)) hok
          have hhv : hvA ((pre ++ a).map (·.s)) [] = h2l ++ hvA (pre.map (·.s)) [] := by
            rw [List.map_append, hvA_append, k1]
          rw [hhv] at hdrop
          rw [h3] at hdrop
          have hlo := hdrop.2.2.1
          have hlen : r.a.hist.length = pr.length + 1 + mid.hist.length := by rw [k3]; simp; omega
          have hp2 : (hvA (pre.map (·.s)) []).length + st0.hist.length = mid.hist.length := by
            rw [m1]
            rcases m3 with ⟨m3, _, m5⟩ | ⟨pr', m3, m4⟩
            · rw [m3, m5]; simp
            · rw [m3]; simp [m4]; omega
          rw [h0, List.length_nil, Nat.add_zero] at hp2
          have hle : lo ≤ mid.hist.length := by
            rcases hlo with hlo | ⟨q, j1, j2, j3⟩
            · omega
            · rcases Nat.lt_or_ge ((h2l ++ hvA (pre.map (·.s)) []).length - lo) h2l.length with hlt | hge
              · exfalso
                rw [List.getElem?_append_left hlt] at j2
                obtain ⟨x, hx1, hx2, hx3⟩ := k2 q (List.mem_of_getElem? j2)
                refine hx3 (inv.hpost x (by rw [e]; exact List.mem_append_left _ hx1) ?_)
                rw [hx2]
                exact ha q j3
              · rw [List.length_append] at hge j1
                omega
          obtain ⟨S2, hS2⟩ := sameIn_ok h6 pr.length mid.S0 (by rw [k3]; simp) (by
            show pr.length < r.a.hist.length - lo
            omega)
          rw [← inv.midS]
          exact ⟨S2, hS2⟩
      obtain ⟨S2, hS2⟩ := hmid
      have := reads_ok h5 hS2
      subst this
      exact quiet h7 hS2 h1
    · -- a new block
      obtain ⟨obj, g1, g2⟩ := rec_al hps h3
      have nn := linked_next hz hc.mono inv.l2
      obtain ⟨n5, n6, n7⟩ := nn.2 r hr
      obtain ⟨ρ', v', w', q1, q2, q3⟩ := go ⟨mid.S.heap, r.a.S.next⟩ _ rfl n5 (g2 mid.S.heap) (fun b hb1 hb2 => inv.free r hr hn b hb1 (by rw [g1]; exact hb2)) h1 ⟨Sub.refl _, fun _ h h' => absurd h h'⟩
      have hfree : H.get r.a.S.next = none := by
        cases hh : H.get r.a.S.next with
        | none => rfl
        | some o =>
          exfalso
          rcases (inv.heap _ o).1 hh with hq | ⟨q, hq1, hq2, hq3, hq4, hq5⟩
          · have := inv.fresh _ o hq; omega
          · have hne : q ≠ r := fun e => hn (by rw [← e]; exact hq3)
            obtain ⟨obj', g1', _⟩ := rec_al (hp.mem _ (hs ▸ List.mem_map.2 ⟨q, by rw [inv.all]; exact List.mem_append_right _ hq1, rfl⟩)) hq2
            have := linked_apart hz hc.mono inv.l2 hq1 hr hne
            rw [g1, g1'] at this
            simp only at this
            omega
      obtain ⟨f1, f2⟩ := evo_frame (H := ⟨H, fin.S.next⟩) (H1 := ⟨H.set r.a.S.next obj, fin.S.next⟩) (S := ⟨mid.S.heap, r.a.S.next⟩) (S1 := ⟨mid.S.heap.set r.a.S.next obj, Nat.succ r.a.S.next⟩) inv.gam (fun b o hb => (inv.heap b o).2 (.inl hb)) q1 (fun b o hb => by
        have hb' : (H.set r.a.S.next obj).get b = some o := hb
        rw [Tr.get_set_if] at hb'
        by_cases e : b = r.a.S.next
        · rw [if_pos e] at hb'
          left
          show (mid.S.heap.set r.a.S.next obj).get b = some o
          rw [Tr.get_set_if, if_pos e]; exact hb'
        · rw [if_neg e] at hb'
          cases hb2 : mid.S.heap.get b with
          | none => exact .inr ⟨hb', rfl⟩
          | some o2 =>
            have h6 := (inv.heap b o2).2 (.inl hb2)
            rw [hb'] at h6; cases h6
            left
            show (mid.S.heap.set r.a.S.next obj).get b = some o
            rw [Tr.get_set_if, if_neg e]; exact hb2) (fun b o hb => by
        have hb' : (H.set r.a.S.next obj).get b = some o := hb
        rw [Tr.get_set_if] at hb'
        show b < fin.S.next
        by_cases e : b = r.a.S.next
        · have : r.b.S.next = Nat.succ r.a.S.next := by rw [g1]
          omega
        · rw [if_neg e] at hb'
          exact inv.gam.fresh b o hb')
      refine ⟨ρ', w', H.set r.a.S.next obj, v', inv_light hp hs hz hc.mono inv hr hn ha hl q2 (by rw [g1]; exact q1.ext) f1 f2 (fun b o => ?_), q3⟩
      rw [Tr.get_set_if]
      have hgb : r.b.S.heap.get r.a.S.next = some obj := by rw [g1]; exact Tr.get_set _ _ _
      by_cases e : b = r.a.S.next
      · subst e
        rw [if_pos rfl, hgb, hfree]
        exact ⟨fun h => .inr ⟨h3, rfl, h⟩, fun h => h.elim (fun h => by cases h) fun h => h.2.2⟩
      · rw [if_neg e]
        exact ⟨.inl, fun h => h.elim id fun h => absurd h.2.1.symm e⟩

end
end Go.Eng

/- The engine, part 34: a heavy step. -/
namespace Go.Eng

section
variable {P : Program} {nt : Nat} {ops : List Oper} {call : CallF} {ms : Tr Nat} {ps : List PS} {fn : FuncId} {rnd : Bool}

theorem segA_light : ∀ {a : List PS} {seg : List Nat}, (∀ s ∈ a, s.light) → (∀ i ∈ seg, i ∈ segA a seg) ∧ ∀ s ∈ a, s.idx ∈ segA a seg
  | [], seg, _ => ⟨fun i h => h, fun s h => by cases h⟩
  | s :: a, seg, h => by
    have h1 : segA (s :: a) seg = segA a (s.idx :: seg) := by
      have := h s (by simp)
      cases s <;> first | rfl | exact this.elim
    obtain ⟨i1, i2⟩ := segA_light (a := a) (seg := s.idx :: seg) fun q hq => h q (List.mem_cons_of_mem _ hq)
    rw [h1]
    refine ⟨fun i hi => i1 i (List.mem_cons_of_mem _ hi), fun q hq => ?_⟩
    rcases List.mem_cons.1 hq with e | hq
    · subst e; exact i1 _ (by simp)
    · exact i2 q hq

/-- What comes ahead of a heavy one that is ready is done. -/
theorem heavy_ahead (hp : Plan P ops ms ps) {recs : List (Rec P nt ops call)} (hs : recs.map (·.s) = ps) {st0 fin mid : PSt} {ρ0 ρ : Ren} {w0 w : World} {X : List Nat} {pre a b : List (Rec P nt ops call)} {H : Tr AObj} {E : Tr Value}
    {t : Array Value} {d : List Deferred} {r : Rec P nt ops call} (inv : Inv ms recs st0 fin ρ0 w0 X pre (a ++ r :: b) mid ρ w H E t d) (la : Linked mid a r.a) (ha : ∀ j, Anc ms r.s.idx j → j ∈ X) (hl : ¬ r.s.light) :
    (∀ q ∈ a, q.s.light) ∧ ∀ q ∈ a, q.s.idx ∈ X := by
  have hok := hp.ok
  have hpsl : ps = (pre ++ a).map (·.s) ++ r.s :: b.map (·.s) := by rw [← hs, inv.all]; simp
  rw [hpsl] at hok
  have hdrop := OkP.drop (a := (pre ++ a).map (·.s)) hok
  have hh : (∀ j ∈ segA ((pre ++ a).map (·.s)) [], Anc ms r.s.idx j) ∧ ∀ h l, hvA ((pre ++ a).map (·.s)) [] = h :: l → Anc ms r.s.idx h := by
    generalize hrs : r.s = s at hdrop hl
    cases s with
    | heavy i o => exact ⟨hdrop.2.2.1, hdrop.2.2.2.1⟩
    | _ => exact absurd trivial hl
  obtain ⟨h2l, k1, k2, k3⟩ := linked_hist la (hvA (pre.map (·.s)) [])
  have hlight : ∀ q ∈ a, q.s.light := by
    have hnil : h2l = [] := by
      cases h2l with
      | nil => rfl
      | cons x l =>
        exfalso
        have hhd := hh.2 x (l ++ hvA (pre.map (·.s)) []) (by rw [List.map_append, hvA_append, k1]; rfl)
        obtain ⟨q, hq, e1, e2⟩ := k2 x (by simp)
        exact e2 (inv.hpost q (List.mem_append_left _ hq) (by rw [e1]; exact ha x hhd))
    subst hnil
    have : ∀ {l : List PS} {hv : List Nat}, (hvA l hv).length = hv.length → ∀ s ∈ l, s.light := by
      intro l
      induction l with
      | nil => intro hv _ s hs; cases hs
      | cons x l ih =>
        intro hv hlen s hs
        have hge : ∀ (m : List PS) (g : List Nat), g.length ≤ (hvA m g).length := by
          intro m
          induction m with
          | nil => intro g; exact Nat.le_refl _
          | cons y m ihm =>
            intro g
            rw [hvA_cons]
            refine Nat.le_trans ?_ (ihm _)
            cases y <;> simp [hvA]
        rw [hvA_cons] at hlen
        have h1 := hge l (hvA [x] hv)
        have hxl : x.light := by
          cases x with
          | heavy i o => simp [hvA] at h1 hlen; omega
          | _ => trivial
        rcases List.mem_cons.1 hs with e | hs
        · rw [e]; exact hxl
        · have h2 : hvA [x] hv = hv := by cases x <;> first | rfl | exact hxl.elim
          rw [h2] at hlen
          exact ih hlen s hs
    intro q hq
    exact this (l := a.map (·.s)) (hv := hvA (pre.map (·.s)) []) (by rw [k1]; rfl) _ (List.mem_map.2 ⟨q, hq, rfl⟩)
  refine ⟨hlight, fun q hq => ha _ (hh.1 _ ?_)⟩
  have hseg : ∀ (x y : List PS) (g : List Nat), segA (x ++ y) g = segA y (segA x g) := by
    intro x
    induction x with
    | nil => intro y g; rfl
    | cons z x ih => intro y g; rw [List.cons_append, segA_cons, ih, ← segA_cons]
  rw [List.map_append, hseg]
  exact (segA_light (fun s hs' => by
    obtain ⟨x, hx, e⟩ := List.mem_map.1 hs'
    rw [← e]; exact hlight x hx)).2 _ (List.mem_map.2 ⟨q, hq, rfl⟩)

end
end Go.Eng

/- The engine, part 35: a heavy step is done. -/
namespace Go.Eng

section
variable {P : Program} {nt : Nat} {ops : List Oper} {call : CallF} {ms : Tr Nat} {ps : List PS} {fn : FuncId} {rnd : Bool}

theorem linked_D : ∀ {l : List (Rec P nt ops call)} {st st' : PSt}, Linked st l st' → (∀ r ∈ l, r.s.light) → st'.D = st.D
  | [], _, _, h, _ => by cases h; rfl
  | r :: l, st, st', h, hl => by
    obtain ⟨h1, h2⟩ := h
    subst h1
    rw [linked_D h2 fun q hq => hl q (List.mem_cons_of_mem _ hq), (rec_light (hl r (by simp))).2.2]

/-- A heavy record: what it is. -/
theorem heavy_cases {r : Rec P nt ops call} (hl : ¬ r.s.light) :
    r.b.S0 = r.b.S ∧ (((ewanted ops r.s.oper).run r.a.E = some false ∧ r.v = undef ∧ r.b.S = r.a.S ∧ r.b.D = r.a.D) ∨ ((ewanted ops r.s.oper).run r.a.E = some true ∧
      (((eop P r.s.oper).run call r.a.E r.a.S = .val r.v r.b.S ∧ r.b.D = r.a.D) ∨
       (∃ q, (eop P r.s.oper).run call r.a.E r.a.S = .dfr q ∧ isDfr r.s.oper = true ∧ r.v = undef ∧ r.b.S = r.a.S ∧ r.b.D = q :: r.a.D)))) := by
  obtain ⟨s, want, v, a, b, ok⟩ := r
  simp only at hl ⊢
  cases ok with
  | skipL h hw => exact absurd h hl
  | skipH hw => exact ⟨rfl, .inl ⟨hw, rfl, rfl, rfl⟩⟩
  | pure => exact absurd trivial hl
  | reads => exact absurd trivial hl
  | allocs => exact absurd trivial hl
  | heavy hw h => exact ⟨rfl, .inr ⟨hw, .inl ⟨h, rfl⟩⟩⟩
  | dfr hw h hi => exact ⟨rfl, .inr ⟨hw, .inr ⟨_, h, hi, rfl, rfl, rfl⟩⟩⟩

theorem heavy_step (hz : ZeroOk P) (hc : CallS P call) (hp : Plan P ops ms ps) {recs : List (Rec P nt ops call)} (hs : recs.map (·.s) = ps) {opsA : Array Oper} (hA : opsA.toList = ops) (hrnd : rnd = false ∨ ∀ o ∈ ops, Plain o)
    {st0 fin mid : PSt} {ρ0 ρ : Ren} {w0 w : World} {X : List Nat} {pre post : List (Rec P nt ops call)} {H : Tr AObj} {E : Tr Value}
    {t : Array Value} {d : List Deferred} (inv : Inv ms recs st0 fin ρ0 w0 X pre post mid ρ w H E t d) {r : Rec P nt ops call} (hr : r ∈ post) (hn : r.s.idx ∉ X) (ha : ∀ j, Anc ms r.s.idx j → j ∈ X) (hl : ¬ r.s.light) :
    ∃ pre' post' mid' ρ' w' H' v' d', Inv ms recs st0 fin ρ0 w0 (r.s.idx :: X) pre' post' mid' ρ' w' H' ((putE nt r.s.oper.dst).run E r.v) (putT t r.s.oper.dst v') d' ∧
      ∀ k rest, Moves P fn rnd ⟨t, d, .inRegion opsA (r.s.idx :: rest) :: k, w⟩ ⟨putT t r.s.oper.dst v', d', .inRegion opsA rest :: k, w'⟩ := by
  subst hA
  have hrr : r ∈ recs := by rw [inv.all]; exact List.mem_append_right _ hr
  have hmem : ∀ q ∈ recs, PsOk P opsA.toList q.s := fun q hq => hp.mem _ (hs ▸ List.mem_map.2 ⟨q, hq, rfl⟩)
  have hps := hmem r hrr
  have hu := uniq_of hp hs
  obtain ⟨a, b, e⟩ := List.append_of_mem hr
  subst e
  have hlk := inv.l2
  obtain ⟨st, la, lb⟩ := hlk.split
  obtain ⟨e1, lb⟩ := lb
  subst e1
  obtain ⟨al, ax⟩ := heavy_ahead hp hs inv la ha hl
  have hina : ∀ q ∈ a, q ∈ recs := fun q hq => by rw [inv.all]; exact List.mem_append_right _ (List.mem_append_left _ hq)
  have hat : At ms opsA.toList E r := at_ok hp hs (pre := pre) (a := a) (b := b) (by rw [inv.all]; simp) (inv.l1.append la) inv.envX inv.clo hn ha
  have ho : opsA[r.s.idx]? = some r.s.oper := by simpa using hps.1
  have hpl : rnd = false ∨ Plain r.s.oper := hrnd.imp id fun h => h _ (List.mem_of_getElem? hps.1)
  have hwant : ∀ q, (ewanted opsA.toList r.s.oper).run r.a.E = some q → Region.wanted r.s.oper (yielded opsA t) = q := fun q hq => by
    rw [wanted_same hat.looks] at hq
    exact wanted_ok inv.env hq
  have hop : ∀ S, (eop P r.s.oper).run call r.a.E S = (eop P r.s.oper).run call E S := fun S => eop_congr (sameX_of hat.looks)
  obtain ⟨fa, ga⟩ := seg_heap la al (fun q hq => hmem q (hina q hq)) inv.fresh
  have hsub : ∀ x o, r.a.S.heap.get x = some o → H.get x = some o := fun x o hx => by
    rcases (ga x o).1 hx with h | ⟨q, h1, h2, h3, h4⟩
    · exact (inv.heap x o).2 (.inl h)
    · exact (inv.heap x o).2 (.inr ⟨q, List.mem_append_left _ h1, h2, ax q h1, h3, h4⟩)
  have hg2 : Gam P ρ r.a.S w := inv.gam.sub hsub fa
  have hD : r.a.D = mid.D := linked_D la al
  obtain ⟨hS0, hcs⟩ := heavy_cases hl
  have nx := linked_next hz hc.mono inv.l2
  obtain ⟨n5, n6, n7⟩ := nx.2 r hr
  have hfree := inv.free r hr hn
  have mach : ∃ ρ' v' w' d', Evo P ρ r.a.S w ρ' r.b.S w' ∧ VRel ρ' r.v v' ∧ DRels ρ' r.b.D d' ∧
      ∀ k rest, Moves P fn rnd ⟨t, d, .inRegion opsA (r.s.idx :: rest) :: k, w⟩ ⟨putT t r.s.oper.dst v', d', .inRegion opsA rest :: k, w'⟩ := by
    rcases hcs with ⟨h1, h2, h3, h4⟩ | ⟨h1, ⟨h2, h3⟩ | ⟨q, h2, h3, h4, h5, h6⟩⟩
    · refine ⟨ρ, undef, w, d, by rw [h3]; exact Evo.refl hg2, by rw [h2]; exact undef_rel ρ, by rw [h4, hD]; exact inv.dfr, fun k rest => mv_op_skip ho (hwant false h1)⟩
    · rw [hop] at h2
      have hgo := (eop_ok (w := w) (ρ := ρ) (ev := evT t) hz hc.mono h2).2 hg2 hfree (env_x inv.env)
      obtain ⟨ρ', v', w', g1, g2, g3⟩ := op_move (fn := fn) hc ho (hwant true h1) hpl hg2 hfree hgo
      exact ⟨ρ', v', w', d, g1, g2, by rw [h3, hD]; exact inv.dfr.mono g1.ext.1, fun k rest => g3 d k rest⟩
    · obtain ⟨c, hcc⟩ := isDfr_inv h3
      have hrf : rnd = false := by
        rcases hpl with h | h
        · exact h
        · exact absurd hcc (h.1 c)
      subst hrf
      rw [hop] at h2
      generalize hoo : r.s.oper = oo at *
      obtain ⟨dst, op, ty, pos, after, guard⟩ := oo
      simp only at hcc
      subst hcc
      obtain ⟨q', j2, j3⟩ := defer_ok (w := w) h2 (env_x inv.env)
      refine ⟨ρ, undef, w, q' :: d, by rw [h5]; exact Evo.refl hg2, by rw [h4]; exact undef_rel ρ, by rw [h6, hD]; exact .cons j3 inv.dfr, fun k rest => mv_op_defer (q := q') (w' := w) ho (hwant true h1) ?_⟩
      simp [execOp, j2]
  obtain ⟨ρ', v', w', d', g1, g2, g3, g4⟩ := mach
  have nb := linked_next hz hc.mono lb
  have nal : ¬ IsAl r := fun h => by
    obtain ⟨⟨i, o, h1⟩, _⟩ := h
    exact hl (by rw [h1]; trivial)
  have hnd : (recs.map (·.s.idx)).Nodup := by
    have := (okP_nodup hp.ok).1
    rw [← hs, List.map_map] at this
    exact this
  have hrb : ∀ q ∈ b, q.s.idx ≠ r.s.idx := by
    intro q hq e
    rw [inv.all, List.map_append, List.nodup_append] at hnd
    have h2 := hnd.2.1
    rw [List.map_append, List.nodup_append] at h2
    have h3 := h2.2.1
    rw [List.map_cons, List.nodup_cons] at h3
    exact h3.1 (List.mem_map.2 ⟨q, hq, e⟩)
  have hinb : ∀ q ∈ b, q ∈ recs := fun q hq => by rw [inv.all]; exact List.mem_append_right _ (List.mem_append_right _ (List.mem_cons_of_mem _ hq))
  have halb : ∀ q ∈ recs, IsAl q → q.b.S.next = Nat.succ q.a.S.next := fun q hq hal => by
    obtain ⟨obj, j1, _⟩ := rec_al (hmem q hq) hal
    rw [j1]
  obtain ⟨H', hH'⟩ := overlay r.b.S.heap H (b.map (·.a.S.next))
  have early : ∀ x o, x ∈ b.map (·.a.S.next) → H.get x = some o → Early (r.s.idx :: X) b x o := by
    intro x o hx hh
    obtain ⟨q, hq, rfl⟩ := List.mem_map.1 hx
    have hq2 := (nb.2 q hq).1
    rcases (inv.heap _ o).1 hh with h | ⟨z, z1, z2, z3, z4, z5⟩
    · have := inv.fresh _ o h
      omega
    · rcases List.mem_append.1 z1 with h | h
      · have h5 := (linked_next hz hc.mono la).2 z h
        have h6 := halb z (hina z h) z2
        omega
      · rcases List.mem_cons.1 h with h | h
        · rw [h] at z2; exact absurd z2 nal
        · exact ⟨z, h, z2, List.mem_cons_of_mem _ z3, z4, z5⟩
  have key : ∀ x o, H'.get x = some o ↔ r.b.S.heap.get x = some o ∨ Early (r.s.idx :: X) b x o := by
    intro x o
    rw [hH']
    constructor
    · intro h
      split at h
      · rename_i hx; exact .inr (early x o hx h)
      · exact .inl h
    · rintro (h | ⟨z, z1, z2, z3, z4, z5⟩)
      · have hf := g1.gam.fresh x o h
        rw [if_neg fun hx => by
          obtain ⟨q, hq, e⟩ := List.mem_map.1 hx
          have := (nb.2 q hq).1
          omega]
        exact h
      · rw [if_pos (List.mem_map.2 ⟨z, z1, z4⟩)]
        refine (inv.heap x o).2 (.inr ⟨z, List.mem_append_right _ (List.mem_cons_of_mem _ z1), z2, ?_, z4, z5⟩)
        rcases List.mem_cons.1 z3 with e | h
        · exact absurd e (hrb z z1)
        · exact h
  obtain ⟨f1, f2⟩ := evo_frame (H := ⟨H, fin.S.next⟩) (H1 := ⟨H', fin.S.next⟩) inv.gam hsub g1 (fun x o hx => by
    have hx' : H'.get x = some o := hx
    rcases (key x o).1 hx' with h | h
    · exact .inl h
    · right
      obtain ⟨z, z1, z2, z3, z4, z5⟩ := h
      rw [hH', if_pos (List.mem_map.2 ⟨z, z1, z4⟩)] at hx'
      refine ⟨hx', ?_⟩
      cases hh : r.a.S.heap.get x with
      | none => rfl
      | some o2 =>
        have := fa x o2 hh
        have := (nb.2 z z1).1
        omega) (fun x o hx => by
    show x < fin.S.next
    rcases (key x o).1 hx with h | ⟨z, z1, z2, z3, z4, z5⟩
    · have := g1.gam.fresh x o h
      omega
    · have h5 := halb z (hinb z z1) z2
      have h6 := (nb.2 z z1).2.2
      omega)
  obtain ⟨m1, m2⟩ := linked_next hz hc.mono inv.l1
  refine ⟨pre ++ (a ++ [r]), b, r.b, ρ', w', H', v', d', ⟨by rw [inv.all]; simp, fun q hq => ?_, fun q hq hx => ?_, fun i hi j hj => ?_, inv.l1.append (la.append ⟨rfl, rfl⟩), lb, hS0, key, g1.gam.fresh, f1, inv.fr.trans f2,
    ⟨inv.ext.1.trans g1.ext.1, fun x h1 h2 => ?_⟩, fun q hq hx => ?_, inv.envX.step hu hrr hn, env_put (inv.env.mono g1.ext.1) _ g2, g3⟩, g4⟩
  · rcases List.mem_append.1 hq with h | h
    · exact List.mem_cons_of_mem _ (inv.hpre q h)
    · rcases List.mem_append.1 h with h | h
      · exact List.mem_cons_of_mem _ (ax q h)
      · rw [List.mem_singleton.1 h]; simp
  · rcases List.mem_cons.1 hx with e | hx
    · exact absurd e (hrb q hq)
    · exact inv.hpost q (List.mem_append_right _ (List.mem_cons_of_mem _ hq)) hx
  · rcases List.mem_cons.1 hi with e | hi
    · subst e; exact List.mem_cons_of_mem _ (ha j hj)
    · exact List.mem_cons_of_mem _ (inv.clo i hi j hj)
  · cases hb : ρ x with
    | some L => exact inv.ext.2 x h1 (by simp [hb])
    | none =>
      have := g1.ext.2 x hb h2
      omega
  · intro x h1 h2
    have h0 := inv.free q (List.mem_append_right _ (List.mem_cons_of_mem _ hq)) (fun h => hx (List.mem_cons_of_mem _ h)) x h1 h2
    cases hb : ρ' x with
    | none => rfl
    | some L =>
      have h3 := g1.ext.2 x h0 (by simp [hb])
      have := (nb.2 q hq).1
      omega

end
end Go.Eng

/- The engine, part 36: a region in whatever order. -/
namespace Go.Eng

section
variable {P : Program} {nt : Nat} {ops : List Oper} {call : CallF} {ms : Tr Nat} {ps : List PS} {fn : FuncId} {rnd : Bool}

/-- One more is done. -/
theorem any_step (hz : ZeroOk P) (hc : CallS P call) (hp : Plan P ops ms ps) {recs : List (Rec P nt ops call)} (hs : recs.map (·.s) = ps) {opsA : Array Oper} (hA : opsA.toList = ops) (hrnd : rnd = false ∨ ∀ o ∈ ops, Plain o)
    {st0 fin mid : PSt} {ρ0 ρ : Ren} {w0 w : World} {X : List Nat} {pre post : List (Rec P nt ops call)} {H : Tr AObj} {E : Tr Value}
    {t : Array Value} {d : List Deferred} (inv : Inv ms recs st0 fin ρ0 w0 X pre post mid ρ w H E t d) (h0 : st0.hist = []) {i : Nat} (hi : i < ops.length) (hn : i ∉ X) (ha : ∀ j, Anc ms i j → j ∈ X) :
    ∃ pre' post' mid' ρ' w' H' E' t' d', Inv ms recs st0 fin ρ0 w0 (i :: X) pre' post' mid' ρ' w' H' E' t' d' ∧
      ∀ k rest, Moves P fn rnd ⟨t, d, .inRegion opsA (i :: rest) :: k, w⟩ ⟨t', d', .inRegion opsA rest :: k, w'⟩ := by
  have hi2 : i ∈ ps.map PS.idx := (okP_all hp.ok i hi).elim id (fun h => by cases h)
  rw [← hs, List.map_map] at hi2
  obtain ⟨r, hr, e⟩ := List.mem_map.1 hi2
  have e : r.s.idx = i := e
  subst e
  have hr2 : r ∈ post := by
    rw [inv.all] at hr
    rcases List.mem_append.1 hr with h | h
    · exact absurd (inv.hpre r h) hn
    · exact h
  by_cases hl : r.s.light
  · obtain ⟨ρ', w', H', v', h1, h2⟩ := light_step (fn := fn) (rnd := rnd) hz hc hp hs hA hrnd inv hr2 hn ha hl h0
    exact ⟨_, _, _, ρ', w', H', _, _, d, h1, h2⟩
  · obtain ⟨pre', post', mid', ρ', w', H', v', d', h1, h2⟩ := heavy_step (fn := fn) (rnd := rnd) hz hc hp hs hA hrnd inv hr2 hn ha hl
    exact ⟨pre', post', mid', ρ', w', H', _, _, d', h1, h2⟩

theorem binds_eq (e : Edge) : Region.binds .any e = bindsAny e := by
  unfold Region.binds bindsAny
  cases e.ground <;> rfl

theorem go_cons (md : Region.Mode) (opsA : Array Oper) (fuel tp : Nat) (listed : Array Bool) (i : Nat) : Region.linearise.go md opsA fuel tp listed [i] = i :: Region.linearise.go md opsA fuel tp listed [] := by
  rw [linearise_go_acc]; rfl

theorem nodup_le : ∀ {n : Nat} {l : List Nat}, l.Nodup → (∀ x ∈ l, x < n) → l.length ≤ n
  | 0, l, _, h => by
    cases l with
    | nil => exact Nat.le_refl _
    | cons x l => exact absurd (h x (by simp)) (by omega)
  | n + 1, l, hn, h => by
    have h1 := nodup_le (n := n) (l := l.filter fun x => x != n) (hn.sublist List.filter_sublist) fun x hx => by
      rw [List.mem_filter] at hx
      have := h x hx.1
      have h2 : x ≠ n := by simpa using hx.2
      omega
    have h2 : l.length ≤ (l.filter fun x => x != n).length + 1 := by
      have : ∀ m : List Nat, m.Nodup → m.length ≤ (m.filter fun x => x != n).length + 1 := by
        intro m
        induction m with
        | nil => intro _; simp
        | cons y m ih =>
          intro hy
          rw [List.nodup_cons] at hy
          by_cases e : y = n
          · subst e
            have hall : m.filter (fun x => x != y) = m := List.filter_eq_self.2 fun x hx => by
              have : x ≠ y := fun e => hy.1 (e ▸ hx)
              simpa using this
            rw [List.filter_cons, if_neg (by simp), hall]
            simp
          · rw [List.filter_cons, if_pos (by simpa using e)]
            have := ih hy.2
            simp only [List.length_cons]
            omega
      exact this l hn
    omega

theorem all_in {n : Nat} {X : List Nat} (hn : X.Nodup) (hx : ∀ x ∈ X, x < n) (hl : X.length = n) : ∀ j, j < n → j ∈ X := by
  intro j hj
  by_cases h : j ∈ X
  · exact h
  · have := nodup_le (n := n) (l := j :: X) (List.nodup_cons.2 ⟨h, hn⟩) fun x h => by
      rcases List.mem_cons.1 h with e | h
      · omega
      · exact hx x h
    simp at this
    omega

/-- What is ready has all its ancestors behind it. -/
theorem ready_anc {X : List Nat} {opsA : Array Oper} (hA : opsA.toList = ops) (hm : MsOk ms ops) (hc : Closed ms X) {listed : Array Bool} (hl : ∀ j, listed.getD j false = true → j ∈ X) {i : Nat} {o : Oper} (ho : opsA[i]? = some o)
    (hr : (o.after.all fun e => !Region.binds .any e || listed.getD e.on false) = true) : ∀ j, Anc ms i j → j ∈ X := by
  intro j hj
  have ho' : ops[i]? = some o := by rw [← hA]; simpa using ho
  obtain ⟨e, h1, h2, h3⟩ := hm.anc i o ho' j hj
  have hx : e.on ∈ X := by
    rw [Array.all_eq_true_iff_forall_mem] at hr
    have := hr e (by simpa using h1)
    rw [binds_eq, h2] at this
    exact hl _ (by simpa using this)
  rcases h3 with h3 | h3
  · rw [h3]; exact hx
  · exact hc _ hx _ h3

end
end Go.Eng

/- The engine, part 37: whatever the schedule. -/
namespace Go.Eng

section
variable {P : Program} {nt : Nat} {call : CallF} {ms : Tr Nat} {ps : List PS} {fn : FuncId} {rnd : Bool} {opsA : Array Oper}

theorem nodup_le' : ∀ {n : Nat} {X : List Nat}, (∀ j, j < n → j ∈ X) → n ≤ X.length
  | 0, _, _ => Nat.zero_le _
  | n + 1, X, h => by
    have h1 := nodup_le' (n := n) (X := X.erase n) fun j hj => (List.mem_erase_of_ne (by omega)).2 (h j (by omega))
    have h2 := h n (by omega)
    rw [List.length_erase_of_mem h2] at h1
    have := List.length_pos_of_mem h2
    omega

theorem mem_rs {X : List Nat} {listed : Array Bool} {rs : List Nat} (hm : MsOk ms opsA.toList)
    (hrs : (List.range opsA.size).filter (fun i => !listed.getD i true && ((opsA[i]?).map (·.after.all fun e => !Region.binds .any e || listed.getD e.on false)).getD false) = rs)
    (hsz : listed.size = opsA.size) (hl : ∀ j, j < opsA.size → (listed.getD j false = true ↔ j ∈ X)) (_hgd : ∀ j, listed.getD j false = true → j ∈ X) {j : Nat} (hj : j < opsA.size) (hX : j ∉ X) (hlow : ∀ k, k < j → k ∈ X) : j ∈ rs := by
  rw [← hrs, List.mem_filter, List.mem_range, Bool.and_eq_true]
  refine ⟨hj, ?_, ?_⟩
  · cases hq : listed.getD j true with
    | false => rfl
    | true =>
      exfalso
      refine hX ((hl j hj).1 ?_)
      have hlt : j < listed.size := by omega
      simp [Array.getD_eq_getD_getElem?, hlt] at hq ⊢
      exact hq
  · have ho : opsA[j]? = some opsA[j] := by simp [hj]
    rw [ho]
    simp only [Option.map_some, Option.getD_some]
    rw [Array.all_eq_true_iff_forall_mem]
    intro e he
    rw [binds_eq]
    cases hb : bindsAny e with
    | false => rfl
    | true =>
      have hlt := hm.low j opsA[j] (by simp [hj]) e (by simpa using he) hb
      simp only [Bool.not_true, Bool.false_or]
      exact (hl e.on (by omega)).2 (hlow _ hlt)

theorem sched_ok (hz : ZeroOk P) (hc : CallS P call) (hp : Plan P opsA.toList ms ps) {recs : List (Rec P nt opsA.toList call)} (hs : recs.map (·.s) = ps) (hrnd : rnd = false ∨ ∀ o ∈ opsA.toList, Plain o)
    {st0 fin : PSt} {ρ0 : Ren} {w0 : World} (h0 : st0.hist = []) : ∀ (fuel tp : Nat) (listed : Array Bool) {mid : PSt} {ρ : Ren} {w : World} {X : List Nat} {pre post : List (Rec P nt opsA.toList call)} {H : Tr AObj} {E : Tr Value}
    {t : Array Value} {d : List Deferred}, Inv ms recs st0 fin ρ0 w0 X pre post mid ρ w H E t d → listed.size = opsA.size → (∀ j, j < opsA.size → (listed.getD j false = true ↔ j ∈ X)) → X.Nodup → (∀ x ∈ X, x < opsA.size) → X.length + fuel = opsA.size →
    ∃ X' pre' post' mid' ρ' w' H' E' t' d', Inv ms recs st0 fin ρ0 w0 X' pre' post' mid' ρ' w' H' E' t' d' ∧ (∀ j, j < opsA.size → j ∈ X') ∧
      ∀ k, Moves P fn rnd ⟨t, d, .inRegion opsA (Region.linearise.go .any opsA fuel tp listed []) :: k, w⟩ ⟨t', d', .inRegion opsA [] :: k, w'⟩ := by
  intro fuel
  induction fuel with
  | zero =>
    intro tp listed mid ρ w X pre post H E t d inv hsz hl hnd hx hlen
    exact ⟨X, pre, post, mid, ρ, w, H, E, t, d, inv, all_in hnd hx (by omega), fun k => Moves.refl _⟩
  | succ fuel ih =>
    intro tp listed mid ρ w X pre post H E t d inv hsz hl hnd hx hlen
    simp only [Region.linearise.go]
    have hgd : ∀ j, listed.getD j false = true → j ∈ X := fun j hj => by
      rcases Nat.lt_or_ge j opsA.size with h | h
      · exact (hl j h).1 hj
      · rw [Array.getD_eq_getD_getElem?, Array.getElem?_eq_none (by omega)] at hj
        cases hj
    generalize hrs : (List.range opsA.size).filter (fun i => !listed.getD i true && ((opsA[i]?).map (·.after.all fun e => !Region.binds .any e || listed.getD e.on false)).getD false) = rs
    have hmem : ∀ i, i ∈ rs → i < opsA.size ∧ i ∉ X ∧ ∀ j, Anc ms i j → j ∈ X := by
      intro i hi
      rw [← hrs, List.mem_filter, List.mem_range, Bool.and_eq_true] at hi
      obtain ⟨h1, h2, h3⟩ := hi
      refine ⟨h1, fun hX => ?_, ?_⟩
      · have := (hl i h1).2 hX
        have hlt : i < listed.size := by omega
        simp [Array.getD_eq_getD_getElem?, hlt] at this h2
        rw [this] at h2; cases h2
      · have ho : opsA[i]? = some opsA[i] := by simp [h1]
        rw [ho] at h3
        exact ready_anc rfl hp.anc inv.clo hgd ho h3
    have hne : rs ≠ [] := by
      intro hnil
      have hmiss : ∃ j, j < opsA.size ∧ j ∉ X := by
        refine Classical.byContradiction fun hno => ?_
        have hall : ∀ j, j < opsA.size → j ∈ X := fun j hj => Classical.byContradiction fun h => hno ⟨j, hj, h⟩
        have := nodup_le' hall
        omega
      have hleast : ∀ m, ∀ j, j ≤ m → j < opsA.size → j ∉ X → False := by
        intro m
        induction m with
        | zero =>
          intro j hj hjn hjX
          refine absurd (mem_rs hp.anc hrs hsz hl hgd hjn hjX fun k hk => ?_) (by rw [hnil]; simp)
          omega
        | succ m ihm =>
          intro j hj hjn hjX
          refine absurd (mem_rs hp.anc hrs hsz hl hgd hjn hjX fun k hk => ?_) (by rw [hnil]; simp)
          exact Classical.byContradiction fun h => ihm k (by omega) (by omega) h
      obtain ⟨j, h1, h2⟩ := hmiss
      exact hleast j j (Nat.le_refl _) h1 h2
    have hpos : 0 < rs.length := by
      cases rs with
      | nil => exact absurd rfl hne
      | cons x l => simp
    have hlt : tp % rs.length < rs.length := Nat.mod_lt _ hpos
    rw [List.getElem?_eq_getElem hlt]
    simp only
    obtain ⟨k1, k2, k3⟩ := hmem _ (List.getElem_mem hlt)
    generalize rs[tp % rs.length] = i at k1 k2 k3
    obtain ⟨pre', post', mid', ρ', w', H', E', t', d', g1, g2⟩ := any_step (fn := fn) (rnd := rnd) hz hc hp hs rfl hrnd inv h0 (i := i) (by simpa using k1) k2 k3
    obtain ⟨X', pre2, post2, mid2, ρ2, w2, H2, E2, t2, d2, q1, q2, q3⟩ := ih (tp / rs.length) (listed.setIfInBounds i true) g1 (by simp [hsz]) (fun j hj => by
      by_cases e : j = i
      · subst e
        simp [Array.getD_eq_getD_getElem?, hsz, hj]
      · rw [List.mem_cons, ← hl j hj]
        have : (listed.setIfInBounds i true).getD j false = listed.getD j false := by
          simp only [Array.getD_eq_getD_getElem?]
          rw [Array.getElem?_setIfInBounds_ne (by omega)]
        rw [this]
        exact ⟨.inr, fun h => h.elim (fun h => absurd h e) id⟩) (List.nodup_cons.2 ⟨k2, hnd⟩) (fun x hx' => by
      rcases List.mem_cons.1 hx' with e | h
      · rw [e]; exact k1
      · exact hx x h) (by simp; omega)
    refine ⟨X', pre2, post2, mid2, ρ2, w2, H2, E2, t2, d2, q1, q2, fun k => ?_⟩
    rw [go_cons]
    exact (g2 k _).trans (q3 k)

end
end Go.Eng

/- The engine, part 38: a region that draws its order, from its beginning to its end. -/
namespace Go.Eng

section
variable {P : Program} {nt : Nat} {call : CallF} {fn : FuncId} {rnd : Bool}

theorem eplan_next (hz : ZeroOk P) (hm : MonoC call) {ops : List Oper} {ps : List PS} {E E' : Tr Value} {D D' : List Deferred} {S S' : St} {o : Out}
    (h : (eplan P nt ops ps).run call E D S S [] 0 = .ok o E' D' S') : S.next ≤ S'.next := by
  obtain ⟨_, recs, fin, _, h2, _, _, h3⟩ := eplan_recs (st := ⟨E, D, S, S, []⟩) h
  have := (linked_next hz hm h2).1
  rw [h3] at this
  exact this

theorem eplan_ok (hmx : P.follows .mixedOrders = true) (hz : ZeroOk P) (hc : CallS P call) {opsA : Array Oper} (hrnd : rnd = false ∨ ∀ o ∈ opsA.toList, Plain o) {ps : List PS} (hplan : plan P opsA.toList = some ps)
    {E E' : Tr Value} {D D' : List Deferred} {S S' : St} {o : Out} {ρ : Ren} {w : World} {t : Array Value} {d : List Deferred} {id : Nat}
    (h : (eplan P nt opsA.toList ps).run call E D S S [] 0 = .ok o E' D' S') (hg : Gam P ρ S w) (hf : Free ρ S.next S'.next) (he : EnvRel ρ nt E t) (hd : DRels ρ D d) :
    o = .normal ∧ ∃ ρ' t' d' w', Ends P fn rnd nt ρ S w E' D' S' ρ' t' d' w' ∧ ∀ k, Moves P fn rnd ⟨t, d, .code (.region id opsA true) :: k, w⟩ ⟨t', d', k, w'⟩ := by
  obtain ⟨ms, hp⟩ := plan_ok hplan
  obtain ⟨ho, recs, fin, h1, h2, hE, hD, hS⟩ := eplan_recs (st := ⟨E, D, S, S, []⟩) h
  subst hE hD hS
  refine ⟨ho, ?_⟩
  have hnx := linked_next hz hc.mono h2
  have hmem : ∀ q ∈ recs, PsOk P opsA.toList q.s := fun q hq => hp.mem _ (h1 ▸ List.mem_map.2 ⟨q, hq, rfl⟩)
  have hu := uniq_of hp h1
  have hnd : (recs.map (·.s.idx)).Nodup := by
    have := (okP_nodup hp.ok).1
    rw [← h1, List.map_map] at this
    exact this
  have inv : Inv ms recs ⟨E, D, S, S, []⟩ fin ρ w [] [] recs ⟨E, D, S, S, []⟩ ρ w.drew S.heap E t d := by
    refine ⟨rfl, (fun r hr => by cases hr), (fun r _ hr => by cases hr), (fun i hi => by cases hi), rfl, h2, rfl, fun b o => ?_, hg.fresh, ?_, ?_, ⟨Sub.refl _, fun b h1 h2 => absurd h1 h2⟩, fun r hr _ => ?_, EnvX.nil, he, hd⟩
    · exact ⟨fun h => .inl h, fun h => by
        rcases h with h | ⟨r, _, _, hx, _⟩
        · exact h
        · cases hx⟩
    · refine (hg.sub (S2 := ⟨S.heap, fin.S.next⟩) (fun _ _ h => h) fun b o hb => ?_).heap rfl
      have := hg.fresh b o hb
      have := hnx.1
      exact Nat.lt_of_lt_of_le ‹b < S.next› this
    · exact ⟨Nat.le_refl _, fun _ _ _ => rfl, fun b o L h h' => .inr ⟨b, o, L, h, h', rfl⟩, rfl, rfl, rfl⟩
    · obtain ⟨a1, a2, a3⟩ := hnx.2 r hr
      exact fun b hb hb' => hf b (Nat.le_trans a1 hb) (Nat.lt_of_lt_of_le hb' a3)
  obtain ⟨X', pre, post, mid, ρ', w', H', E2, t', d', hi, hall, hmv⟩ := sched_ok (fn := fn) (rnd := rnd) hz hc hp h1 hrnd rfl opsA.size (w.tape w.drawn (.order fn id)) (Array.replicate opsA.size false) inv (by simp)
    (fun j hj => by simp [Array.getD_eq_getD_getElem?, hj]) List.nodup_nil (fun x hx => by cases hx) (by simp)
  have hin : ∀ r ∈ recs, r.s.idx ∈ X' := fun r hr => hall _ (by
    have := (hmem r hr).1
    have := (List.getElem?_eq_some_iff.1 this).1
    simpa using this)
  have hpr : ∀ r ∈ post, r ∈ recs := fun r hr => by rw [hi.all]; exact List.mem_append_right _ hr
  have hlight : ∀ r ∈ post, r.s.light := fun r hr => hi.hpost r hr (hin r (hpr r hr))
  obtain ⟨sf, sh⟩ := seg_heap hi.l2 hlight (fun q hq => hmem q (hpr q hq)) hi.fresh
  have heq : ∀ b o, fin.S.heap.get b = some o ↔ H'.get b = some o := fun b o => by
    rw [sh b o, hi.heap b o]
    constructor
    · rintro (h | ⟨r, a1, a2, a3, a4⟩)
      · exact .inl h
      · exact .inr ⟨r, a1, a2, hin r (hpr r a1), a3, a4⟩
    · rintro (h | ⟨r, a1, a2, _, a3, a4⟩)
      · exact .inl h
      · exact .inr ⟨r, a1, a2, a3, a4⟩
  have hEq : ∀ x, E2.get x = fin.E.get x := by
    intro x
    have hx1 := envX_along hu (X := []) (l := recs) (fun q hq => hq) hnd (fun q _ h => by cases h) h2 EnvX.nil
    by_cases hex : ∃ r ∈ recs, r.s.oper.dst = some x ∧ x < nt
    · obtain ⟨r, hr, a1, a2⟩ := hex
      rw [(hi.envX x).1 r hr (hin r hr) a1 a2, (hx1 x).1 r hr (by simp; exact ⟨r, hr, rfl⟩) a1 a2]
    · rw [(hi.envX x).2 fun r hr _ h => hex ⟨r, hr, h⟩, (hx1 x).2 fun r hr _ h => hex ⟨r, hr, h⟩]
  refine ⟨ρ', t', d', w', ⟨⟨hi.ext, hi.gam.sub (fun b o hb => (heq b o).1 hb) sf, ?_⟩, ⟨hi.env.1, fun x => ?_⟩, ?_⟩, fun k => ?_⟩
  · obtain ⟨f1, f2, f3, f4, f5, f6⟩ := hi.fr
    exact ⟨f1, f2, fun b o L hb hL => f3 b o L ((heq b o).1 hb) hL, f4, f5, f6⟩
  · rw [← hEq x]; exact hi.env.2 x
  · rw [linked_D hi.l2 hlight]; exact hi.dfr
  · refine (mv_region_draw (P := P) (fn := fn) (rnd := rnd)).trans (Moves.trans ?_ (mv_region_end (ops := opsA)))
    simp only [Region.schedule, hmx, Bool.true_or, if_true, Region.linearise]
    exact hmv k

end
end Go.Eng
