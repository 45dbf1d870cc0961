/- Code, calls, rounds: the engine does what the machine does. -/
import Derived.Test.YtidggficpcdpoaaGreatDoorEngG

/- The engine, part 39: stretches of code, put together. -/
namespace Go.Eng

section
variable {P : Program} {fn : FuncId} {rnd : Bool} {nt : Nat}

/-- Where code that has come to an end stands. -/
inductive Stands (k : List Item) : Out → List Item → Prop
  | normal : Stands k .normal k
  | exit (i : Nat) (k' : List Item) (h : exitTo i k' = exitTo i k) : Stands k (.exit i) (.code (.exit i) :: k')
  | goto (l : Nat) (k' : List Item) (h : gotoIn l k' = gotoIn l k) : Stands k (.goto l) (.code (.goto l) :: k')
  | ret (k' : List Item) : Stands k .ret (.code .ret :: k')

variable (P fn rnd nt) in
/-- A stretch comes to a place. -/
def FinTo (S : St) (w : World) (ρ : Ren) (t : Array Value) (d : List Deferred) (E' : Tr Value) (D' : List Deferred) (S' : St) (at0 to : List Item → List Item) : Prop :=
  ∃ ρ' t' d' w', Ends P fn rnd nt ρ S w E' D' S' ρ' t' d' w' ∧ ∀ k, Moves P fn rnd ⟨t, d, at0 k, w⟩ ⟨t', d', to k, w'⟩

variable (P fn rnd nt) in
/-- A stretch comes to an end. -/
def Fin (S : St) (w : World) (ρ : Ren) (t : Array Value) (d : List Deferred) (o : Out) (E' : Tr Value) (D' : List Deferred) (S' : St) (at0 : List Item → List Item) : Prop :=
  ∃ ρ' t' d' w', Ends P fn rnd nt ρ S w E' D' S' ρ' t' d' w' ∧ ∀ k, ∃ k', Stands k o k' ∧ Moves P fn rnd ⟨t, d, at0 k, w⟩ ⟨t', d', k', w'⟩

variable (P fn rnd nt) in
/-- What is run at a place does what the machine does there. -/
structure RunsS (F : CodeF) (at0 : List Item → List Item) : Prop where
  run : ∀ {E : Tr Value} {D : List Deferred} {S : St} {o : Out} {E' : Tr Value} {D' : List Deferred} {S' : St}, F E D S = .ok o E' D' S' → S.next ≤ S'.next ∧
    ∀ {ρ : Ren} {w : World} {t : Array Value} {d : List Deferred}, Gam P ρ S w → Free ρ S.next S'.next → EnvRel ρ nt E t → DRels ρ D d → Fin P fn rnd nt S w ρ t d o E' D' S' at0

variable {S S1 S' : St} {w : World} {ρ : Ren} {t : Array Value} {d : List Deferred} {o : Out} {E1 E' : Tr Value} {D1 D' : List Deferred} {at0 at1 : List Item → List Item}

theorem Fin.to (h : Fin P fn rnd nt S w ρ t d .normal E' D' S' at0) (X : List Item → List Item) : FinTo P fn rnd nt S w ρ t d E' D' S' (fun k => at0 (X k)) X := by
  obtain ⟨ρ', t', d', w', h1, h2⟩ := h
  refine ⟨ρ', t', d', w', h1, fun k => ?_⟩
  obtain ⟨k', s, m⟩ := h2 (X k)
  cases s
  exact m

theorem FinTo.fin (h : FinTo P fn rnd nt S w ρ t d E' D' S' at0 id) : Fin P fn rnd nt S w ρ t d .normal E' D' S' at0 := by
  obtain ⟨ρ', t', d', w', h1, h2⟩ := h
  exact ⟨ρ', t', d', w', h1, fun k => ⟨k, .normal, h2 k⟩⟩

theorem FinTo.move (h : FinTo P fn rnd nt S w ρ t d E' D' S' at0 at1) {X : List Item → List Item} (hm : ∀ t d w k, Moves P fn rnd ⟨t, d, at1 k, w⟩ ⟨t, d, X k, w⟩) : FinTo P fn rnd nt S w ρ t d E' D' S' at0 X := by
  obtain ⟨ρ', t', d', w', h1, h2⟩ := h
  exact ⟨ρ', t', d', w', h1, fun k => (h2 k).trans (hm t' d' w' k)⟩

theorem Fin.pre (h : Fin P fn rnd nt S w ρ t d o E' D' S' at1) (hm : ∀ k, Moves P fn rnd ⟨t, d, at0 k, w⟩ ⟨t, d, at1 k, w⟩) : Fin P fn rnd nt S w ρ t d o E' D' S' at0 := by
  obtain ⟨ρ', t', d', w', h1, h2⟩ := h
  refine ⟨ρ', t', d', w', h1, fun k => ?_⟩
  obtain ⟨k', s, m⟩ := h2 k
  exact ⟨k', s, (hm k).trans m⟩

/-- A jump out of something. -/
theorem Fin.inner (h : Fin P fn rnd nt S w ρ t d o E' D' S' at0) {X : List Item → List Item} (hn : o ≠ .normal) (hx : ∀ i k, o = .exit i → exitTo i (X k) = exitTo i k) (hgo : ∀ l k, o = .goto l → gotoIn l (X k) = gotoIn l k) :
    Fin P fn rnd nt S w ρ t d o E' D' S' (fun k => at0 (X k)) := by
  obtain ⟨ρ', t', d', w', h1, h2⟩ := h
  refine ⟨ρ', t', d', w', h1, fun k => ?_⟩
  obtain ⟨k', s, m⟩ := h2 (X k)
  refine ⟨k', ?_, m⟩
  cases s with
  | normal => exact absurd rfl hn
  | exit i k' h => exact .exit i k' (h.trans (hx i k rfl))
  | goto l k' h => exact .goto l k' (h.trans (hgo l k rfl))
  | ret k' => exact .ret k'

theorem Fin.post (h : Fin P fn rnd nt S w ρ t d .normal E' D' S' at0) {X : List Item → List Item} (hm : ∀ t d w k, Moves P fn rnd ⟨t, d, X k, w⟩ ⟨t, d, k, w⟩) : Fin P fn rnd nt S w ρ t d .normal E' D' S' (fun k => at0 (X k)) :=
  ((h.to X).move (X := id) hm).fin

theorem FinTo.next (ha : FinTo P fn rnd nt S w ρ t d E1 D1 S1 at0 at1) {Fb : CodeF} (hb : RunsS P fn rnd nt Fb at1) (hle : S.next ≤ S1.next) (h : Fb E1 D1 S1 = .ok o E' D' S') (hf : Free ρ S.next S'.next) :
    Fin P fn rnd nt S w ρ t d o E' D' S' at0 := by
  obtain ⟨ρ1, t1, d1, w1, e1, m1⟩ := ha
  obtain ⟨le2, hb2⟩ := hb.run h
  obtain ⟨ρ2, t2, d2, w2, e2, m2⟩ := hb2 e1.evo.gam (hf.right hle e1.evo.ext) e1.env e1.dfr
  refine ⟨ρ2, t2, d2, w2, ⟨e1.evo.trans e2.evo hle le2, e2.env, e2.dfr⟩, fun k => ?_⟩
  obtain ⟨k2, s2, mv2⟩ := m2 k
  exact ⟨k2, s2, (m1 k).trans mv2⟩

theorem RunsS.pre {F : CodeF} (h : RunsS P fn rnd nt F at1) (hm : ∀ t d w k, Moves P fn rnd ⟨t, d, at0 k, w⟩ ⟨t, d, at1 k, w⟩) : RunsS P fn rnd nt F at0 := ⟨fun hF =>
  ⟨(h.run hF).1, fun hg hf he hd => ((h.run hF).2 hg hf he hd).pre fun k => hm _ _ _ k⟩⟩

theorem runs_seq {Fa Fb : CodeF} {a b : Code} (ha : RunsS P fn rnd nt Fa (.code a :: ·)) (hb : RunsS P fn rnd nt Fb (.code b :: ·)) :
    RunsS P fn rnd nt (fun E D S => match Fa E D S with
    | .ok o E' D' S' => match o with
      | .normal => Fb E' D' S'
      | .exit i => .ok (.exit i) E' D' S'
      | .goto l => .ok (.goto l) E' D' S'
      | .ret => .ok .ret E' D' S'
    | .fail => .fail) (.code (.seq a b) :: ·) := by
  refine RunsS.pre (at1 := fun k => .code a :: .code b :: k) ?_ fun t d w k => mv_seq
  refine ⟨fun {E D S o E' D' S'} h => ?_⟩
  split at h
  · rename_i o1 E1 D1 S1 h1
    obtain ⟨l1, a1⟩ := ha.run h1
    cases o1 with
    | normal =>
      have l2 := (hb.run h).1
      refine ⟨Nat.le_trans l1 l2, fun hg hf he hd => ?_⟩
      exact ((a1 hg (hf.left l2) he hd).to (.code b :: ·)).next hb l1 h hf
    | exit i =>
      cases h
      exact ⟨l1, fun hg hf he hd => (a1 hg hf he hd).inner (X := (.code b :: ·)) (by simp) (fun i k _ => rfl) (fun l k e => by cases e)⟩
    | goto l =>
      cases h
      exact ⟨l1, fun hg hf he hd => (a1 hg hf he hd).inner (X := (.code b :: ·)) (by simp) (fun i k e => by cases e) (fun l k _ => rfl)⟩
    | ret =>
      cases h
      exact ⟨l1, fun hg hf he hd => (a1 hg hf he hd).inner (X := (.code b :: ·)) (by simp) (fun i k e => by cases e) (fun l k e => by cases e)⟩
  · cases h

theorem runs_block {F : CodeF} {c : Code} {id : Nat} (hc : RunsS P fn rnd nt F (.code c :: ·)) :
    RunsS P fn rnd nt (fun E D S => match F E D S with
    | .ok o E' D' S' => match o with
      | .exit i => cond (Nat.beq i id) (.ok .normal E' D' S') (.ok (.exit i) E' D' S')
      | .normal => .ok .normal E' D' S'
      | .goto l => .ok (.goto l) E' D' S'
      | .ret => .ok .ret E' D' S'
    | .fail => .fail) (.code (.block id c) :: ·) := by
  refine RunsS.pre (at1 := fun k => .code c :: .inBlock id :: k) ?_ fun t d w k => mv_block
  refine ⟨fun {E D S o E' D' S'} h => ?_⟩
  split at h
  · rename_i o1 E1 D1 S1 h1
    obtain ⟨l1, a1⟩ := hc.run h1
    cases o1 with
    | normal =>
      cases h
      exact ⟨l1, fun hg hf he hd => (a1 hg hf he hd).post (X := (.inBlock id :: ·)) fun t d w k => mv_inBlock⟩
    | exit i =>
      simp only at h
      cases hb : Nat.beq i id with
      | true =>
        rw [hb] at h
        cases h
        have e : i = id := beq_nat hb
        subst e
        refine ⟨l1, fun hg hf he hd => ?_⟩
        obtain ⟨ρ', t', d', w', e1, m⟩ := a1 hg hf he hd
        refine ⟨ρ', t', d', w', e1, fun k => ?_⟩
        obtain ⟨k', s, mv⟩ := m (.inBlock i :: k)
        cases s with
        | exit _ k'' hx =>
          refine ⟨k, .normal, mv.trans (mv_exit ?_)⟩
          rw [hx]
          simp [exitTo]
      | false =>
        rw [hb] at h
        cases h
        have hne : ¬ (id == i) = true := fun e => by
          have e2 : id = i := by simpa using e
          subst e2
          have : Nat.beq id id = true := Nat.beq_refl id
          rw [this] at hb
          cases hb
        refine ⟨l1, fun hg hf he hd => (a1 hg hf he hd).inner (X := (.inBlock id :: ·)) (by simp) (fun j k e => ?_) (fun l k e => by cases e)⟩
        cases e
        simp only [exitTo]
        rw [if_neg hne]
    | goto l =>
      cases h
      exact ⟨l1, fun hg hf he hd => (a1 hg hf he hd).inner (X := (.inBlock id :: ·)) (by simp) (fun i k e => by cases e) (fun l k _ => rfl)⟩
    | ret =>
      cases h
      exact ⟨l1, fun hg hf he hd => (a1 hg hf he hd).inner (X := (.inBlock id :: ·)) (by simp) (fun i k e => by cases e) (fun l k e => by cases e)⟩
  · cases h

theorem runs_loop {F : CodeF} {c : Code} (hc : RunsS P fn rnd nt F (.code c :: ·)) : ∀ n, RunsS P fn rnd nt (eloop F n) (fun k => .code c :: .inLoop c :: k) := by
  intro n
  induction n with
  | zero => exact ⟨fun h => by cases h⟩
  | succ n ih =>
    refine ⟨fun {E D S o E' D' S'} h => ?_⟩
    simp only [eloop] at h
    split at h
    · rename_i o1 E1 D1 S1 h1
      obtain ⟨l1, a1⟩ := hc.run h1
      cases o1 with
      | normal =>
        have ih' : RunsS P fn rnd nt (eloop F n) (.inLoop c :: ·) := RunsS.pre ih fun t d w k => mv_inLoop
        have l2 := (ih'.run h).1
        refine ⟨Nat.le_trans l1 l2, fun hg hf he hd => ?_⟩
        exact ((a1 hg (hf.left l2) he hd).to (.inLoop c :: ·)).next ih' l1 h hf
      | exit i =>
        cases h
        exact ⟨l1, fun hg hf he hd => (a1 hg hf he hd).inner (X := (.inLoop c :: ·)) (by simp) (fun i k _ => rfl) (fun l k e => by cases e)⟩
      | goto l =>
        cases h
        exact ⟨l1, fun hg hf he hd => (a1 hg hf he hd).inner (X := (.inLoop c :: ·)) (by simp) (fun i k e => by cases e) (fun l k _ => rfl)⟩
      | ret =>
        cases h
        exact ⟨l1, fun hg hf he hd => (a1 hg hf he hd).inner (X := (.inLoop c :: ·)) (by simp) (fun i k e => by cases e) (fun l k e => by cases e)⟩
    · cases h

theorem runs_scope {c : Code} {run : Code → CodeF} (hr : ∀ x, RunsS P fn rnd nt (run x) (.code x :: ·)) : ∀ n {G : CodeF} {at0 : List Item → List Item}, RunsS P fn rnd nt G at0 →
    RunsS P fn rnd nt (fun E D S => escope c run n (G E D S)) (fun k => at0 (.inScope c :: k)) := by
  intro n
  induction n with
  | zero => exact fun _ => ⟨fun h => by cases h⟩
  | succ n ih =>
    intro G at0 hG
    refine ⟨fun {E D S o E' D' S'} h => ?_⟩
    simp only [escope] at h
    split at h
    · rename_i o1 E1 D1 S1 h1
      obtain ⟨l1, a1⟩ := hG.run h1
      cases o1 with
      | goto l =>
        simp only at h
        split at h
        · rename_i rest hrest
          have hi := ih (hr rest)
          have l2 := (hi.run h).1
          refine ⟨Nat.le_trans l1 l2, fun hg hf he hd => ?_⟩
          refine FinTo.next (at1 := fun k => .code rest :: .inScope c :: k) (E1 := E1) (D1 := D1) (S1 := S1) ?_ hi l1 h hf
          obtain ⟨ρ', t', d', w', e1, m⟩ := a1 hg (hf.left l2) he hd
          refine ⟨ρ', t', d', w', e1, fun k => ?_⟩
          obtain ⟨k', s, mv⟩ := m (.inScope c :: k)
          cases s with
          | goto _ k'' hx =>
            refine mv.trans (mv_goto ?_)
            rw [hx]
            simp [gotoIn, hrest]
        · rename_i hno
          cases h
          exact ⟨l1, fun hg hf he hd => (a1 hg hf he hd).inner (X := (.inScope c :: ·)) (by simp) (fun i k e => by cases e) (fun l' k e => by cases e; simp [gotoIn, hno])⟩
      | normal =>
        cases h
        exact ⟨l1, fun hg hf he hd => (a1 hg hf he hd).post (X := (.inScope c :: ·)) fun t d w k => mv_inScope⟩
      | exit i =>
        cases h
        exact ⟨l1, fun hg hf he hd => (a1 hg hf he hd).inner (X := (.inScope c :: ·)) (by simp) (fun i k _ => rfl) (fun l k e => by cases e)⟩
      | ret =>
        cases h
        exact ⟨l1, fun hg hf he hd => (a1 hg hf he hd).inner (X := (.inScope c :: ·)) (by simp) (fun i k e => by cases e) (fun l k e => by cases e)⟩
    · cases h

/-- Where nothing happens. -/
theorem fin_stay {E : Tr Value} {D : List Deferred} (hg : Gam P ρ S w) (he : EnvRel ρ nt E t) (hd : DRels ρ D d) (h : ∀ k, ∃ k', Stands k o k' ∧ Moves P fn rnd ⟨t, d, at0 k, w⟩ ⟨t, d, k', w⟩) : Fin P fn rnd nt S w ρ t d o E D S at0 :=
  ⟨ρ, t, d, w, ⟨Evo.refl hg, he, hd⟩, h⟩

end
end Go.Eng

/- The engine, part 40: loops over functions. -/
namespace Go.Eng

def alc (w : World) (o : Obj) : World := { w with heap := w.heap.push o }
def puo (w : World) (l : Nat) (o : Obj) : World := { w with heap := w.heap.setIfInBounds l o }

section
variable {P : Program} {w : World}

def NoRow (o : Obj) : Prop := ∀ c e f, o ≠ .cells c e f

theorem rf_get {l : Nat} {o : Obj} (hn : NoRow o) (h : w.heap[l]? = some o) : (getObj l).run P w = .ok o w := by
  cases o <;> first | exact absurd rfl (hn _ _ _) | simp [getObj, Sem.run, h]
theorem rf_set {l : Nat} {o : Obj} (x : Obj) (hn : NoRow o) (h : w.heap[l]? = some o) : (setObj l x).run P w = .ok () (puo w l x) := by
  cases o <;> first | exact absurd rfl (hn _ _ _) | simp [setObj, Sem.run, h, puo]

theorem nr_loop (r : Loop) : NoRow (.loop r) := fun _ _ _ h => by cases h
theorem nr_dfr (r : Option (List Deferred)) : NoRow (.deferred r) := fun _ _ _ h => by cases h
theorem rf_loop {l : Nat} {r : Loop} (h : w.heap[l]? = some (.loop r)) : (Instr.getLoop l).run P w = .ok r w := by
  unfold Instr.getLoop
  rw [Sem.run_bind, rf_get (nr_loop r) h]
  rfl

theorem rf_enter (f : FuncId) (t : Array Value) (ps : Array Tmp) (a b : Code) : (Instr.enterLoop f t ps a b none).run P w =
    .ok (w.heap.size + 1, [⟨.collected w.heap.size, #[]⟩]) (alc (alc w (.deferred (some []))) (.loop ⟨.ready, none, f, t, ps, a, b, w.heap.size⟩)) := by
  unfold Instr.enterLoop
  simp only [Sem.run_bind, run_newObj, Result.andThen, Sem.run_pure, Array.size_push]
  rfl

theorem rf_yield {l : Nat} {r : Loop} {args : Array Value} (h : w.heap[l]? = some (.loop r)) (hs : args.size = r.params.size) :
    (Instr.yield l args).run P w = .ok (.round l r.fn ((r.params.zip args).foldl (fun t (i, v) => t.setIfInBounds i v) r.tmps) r.assign r.body) w := by
  unfold Instr.yield
  rw [Sem.run_bind, rf_loop h]
  simp [hs]

theorem rf_begin {l : Nat} {r : Loop} (h : w.heap[l]? = some (.loop r)) (hr : r.state = .ready) : (Instr.beginRound l).run P w = .ok () (puo w l (.loop { r with state := .busy })) := by
  unfold Instr.beginRound
  rw [Sem.run_bind, rf_loop h]
  simp only [Result.andThen_ok]
  rw [Sem.run_bind, rf_set _ (nr_loop _) h]
  simp [hr]

theorem rf_end {l : Nat} {r : Loop} (j : Option Code) (h : w.heap[l]? = some (.loop r)) :
    (Instr.endRound l j).run P w = .ok (.bool j.isNone) (puo w l (.loop { r with state := if j.isNone then .ready else .done, pending := j })) := by
  unfold Instr.endRound
  rw [Sem.run_bind, rf_loop h]
  simp only [Result.andThen_ok]
  rw [Sem.run_bind, rf_set _ (nr_loop _) h]
  rfl

theorem rf_over {l : Nat} {r : Loop} (h : w.heap[l]? = some (.loop r)) (hb : r.state ≠ .busy) : (Instr.endLoop l).run P w = .ok r.pending (puo w l (.loop { r with state := .exhausted })) := by
  unfold Instr.endLoop
  rw [Sem.run_bind, rf_loop h]
  have hb' : (r.state == .busy) = false := by simpa using hb
  simp only [Result.andThen_ok, hb']
  simp only [Bool.false_eq_true, if_false]
  rw [Sem.run_bind]
  simp [rf_set _ (nr_loop _) h]

theorem rf_take {b : Nat} {ds : List Deferred} (h : w.heap[b]? = some (.deferred (some ds))) : (Instr.takeDeferred b).run P w = .ok ds (puo w b (.deferred none)) := by
  unfold Instr.takeDeferred
  rw [Sem.run_bind, rf_get (nr_dfr _) h]
  simp only [Result.andThen_ok]
  rw [Sem.run_bind, rf_set _ (nr_dfr _) h]
  rfl

end

section
variable {P : Program} {fn : FuncId} {nt : Nat}

theorem stepG_rangeFunc {t : Array Value} {d : List Deferred} {k : List Item} {w : World} {b : Fx} {cs : List Frame} {f : Operand} {ps : Array Tmp} {assign body : Code} (hn : b.roundOf = none) :
    (stepG P true { frame := fat b t d (.code (.rangeFunc f ps assign body) :: k), callers := cs, status := .running, dying := none } w).bare =
      (stepG.apply P true (fat b t (⟨.collected w.heap.size, #[]⟩ :: d) (.inRangeFunc (w.heap.size + 1) :: k)) cs none
        (do let d ← resolve (evT t) ⟨.value f, #[.const (.func (.yield (w.heap.size + 1)) #[] #[])], #[]⟩ 0; invoke d.target d.args)
        (alc (alc w (.deferred (some []))) (.loop ⟨.ready, none, b.fn, t, ps, assign, body, w.heap.size⟩))).bare := by
  have he := eval_fat (t := t) (d := ⟨.collected w.heap.size, #[]⟩ :: d) b (.inRangeFunc (w.heap.size + 1) :: k)
  simp only [fat, hn] at he
  simp only [stepG, stepG.exec, fat, hn, Sem.runT_eq, rf_enter, GStep.bare_after, List.cons_append, List.nil_append, he]

theorem mv_rangeFunc {t : Array Value} {d : List Deferred} {k : List Item} {w w' : World} {f : Operand} {ps : Array Tmp} {assign body : Code} {g : FuncId} {a c : List Value} {v : Value} (hv : evT t f = .func (.func g) ⟨a⟩ ⟨c⟩)
    (hr : FnRes P g ⟨a ++ (.func (.yield (w.heap.size + 1)) ⟨[]⟩ ⟨[]⟩ :: c)⟩ (alc (alc w (.deferred (some []))) (.loop ⟨.ready, none, fn, t, ps, assign, body, w.heap.size⟩)) v w') :
    Moves P fn false ⟨t, d, .code (.rangeFunc f ps assign body) :: k, w⟩ ⟨t, ⟨.collected w.heap.size, ⟨[]⟩⟩ :: d, .endRangeFunc (w.heap.size + 1) :: k, w'⟩ := fun b cs hb => by
  have hn : b.roundOf = none := by have := hb.2.1; simpa using this
  have hs := stepG_rangeFunc (P := P) (t := t) (d := d) (k := k) (w := w) (cs := cs) (f := f) (ps := ps) (assign := assign) (body := body) hn
  rw [hb.1] at hs
  have hx : ∀ W, (do let d ← resolve (evT t) ⟨.value f, #[.const (.func (.yield (w.heap.size + 1)) #[] #[])], #[]⟩ 0; invoke d.target d.args : Sem Next).run P W =
      (callFunc g ⟨a ++ (.func (.yield (w.heap.size + 1)) ⟨[]⟩ ⟨[]⟩ :: c)⟩).run P W := by
    intro W
    simp only [resolve, Deferred.ofValue, invoke, hv, Sem.run_bind, Sem.run_pure, Result.andThen_ok]
    congr 2
    apply Array.toList_inj.1
    simp [evT]
  cases hr with
  | ext h1 =>
    refine .one (step_lone_go (hs.trans ?_))
    rw [← hx] at h1
    simp [stepG.apply, h1, fat, Frame.finish]
  | ent h1 h2 =>
    rw [← hx] at h1
    refine .head (m₁ := lone (Frame.enter P g ⟨a ++ (.func (.yield (w.heap.size + 1)) ⟨[]⟩ ⟨[]⟩ :: c)⟩ .normal) (fat b t (⟨.collected w.heap.size, #[]⟩ :: d) (.inRangeFunc (w.heap.size + 1) :: k) :: cs) _) (step_lone_go (hs.trans ?_)) (h2.norm _ _)
    simp [stepG.apply, h1, fat]

theorem mv_endRangeFunc {rnd : Bool} {t : Array Value} {d : List Deferred} {k : List Item} {w : World} {l : Nat} {r : Loop} (h : w.heap[l]? = some (.loop r)) (hb : r.state ≠ .busy) :
    Moves P fn rnd ⟨t, d, .endRangeFunc l :: k, w⟩ ⟨t, d, (r.pending.map Item.code).toList ++ k, puo w l (.loop { r with state := .exhausted })⟩ :=
  moves_of_step fun b cs _ => step_lone_go (by
    have := rf_over (P := P) h hb
    simp [stepG, stepG.exec, fat, Sem.runT_eq, this])

theorem lst_busy {st : Nat} (h : Nat.beq st 1 = false) : lst st ≠ .busy := by
  match st, h with
  | 0, _ => simp [lst]
  | 1, h => cases h
  | n + 2, _ => cases n <;> simp [lst]

theorem runs_rangeFunc {call : CallF} (hc : CallS P call) {f : Operand} {ps : Array Tmp} {assign body : Code} : RunsS P fn false nt (erangeFunc nt f ps.toList assign body call) (.code (.rangeFunc f ps assign body) :: ·) := by
  refine ⟨fun {E D S o E' D' S'} h => ?_⟩
  unfold erangeFunc at h
  split at h
  · rename_i x hx
    split at h
    · rename_i g first captured
      unfold endLp at h
      split at h
      · rename_i v S3 hcall
        have l3 := hc.mono _ _ _ _ _ hcall
        have l3 : Nat.succ (Nat.succ S.next) ≤ S3.next := l3
        split at h
        · rename_i st pend nt2 E2 ps2 a2 b2 hobj
          have hst : Nat.beq st 1 = false := by
            cases hb : Nat.beq st 1 with
            | false => rfl
            | true => rw [hb] at h; cases h
          rw [hst] at h
          simp only [cond_false] at h
          have fin : ∀ {o}, (∀ k, Stands k o ((pend.map Item.code).toList ++ k)) → S'.next = S3.next → S'.heap = S3.heap.set (Nat.succ S.next) (.loop 3 pend nt2 E2 ps2 a2 b2) → E' = E → D' = ⟨.collected S.next, ⟨[]⟩⟩ :: D →
              S.next ≤ S'.next ∧ ∀ {ρ : Ren} {w : World} {t : Array Value} {d : List Deferred}, Gam P ρ S w → Free ρ S.next S'.next → EnvRel ρ nt E t → DRels ρ D d → Fin P fn false nt S w ρ t d o E' D' S' (.code (.rangeFunc f ps assign body) :: ·) := by
            intro o hstd hn hh hE hD
            subst hE hD
            have hS' : S' = ⟨S3.heap.set (Nat.succ S.next) (.loop 3 pend nt2 E2 ps2 a2 b2), S3.next⟩ := by
              obtain ⟨a, b⟩ := S'
              simp only at hn hh
              rw [hn, hh]
            refine ⟨by omega, fun {ρ w t d} hg hf he hd => ?_⟩
            have hxr := env_x he f _ hx
            generalize hev : evT t f = rv at hxr
            obtain ⟨fl⟩ := first
            obtain ⟨cl⟩ := captured
            cases hxr with
            | @func _ _ a' _ c' hr1 hr2 =>
              let L1 : Loc := ⟨w.heap.size, 0, 0, 0⟩
              have e1 := evo_new (d := w.drawn) (x := .deferred (some [])) hg (hf _ (Nat.le_refl _) (by omega)) (.deferred false) L1 rfl (by show (w.heap.push _)[w.heap.size]? = _; simp)
              let L2 : Loc := ⟨w.heap.size + 1, 0, 0, 0⟩
              let w1 : World := alc w (.deferred (some []))
              have e1 : Evo P ρ S w (upd ρ S.next L1) ⟨S.heap.set S.next (.deferred false), Nat.succ S.next⟩ w1 := e1
              have hsz : w1.heap.size = w.heap.size + 1 := by simp [w1, alc]
              have hf1 : upd ρ S.next L1 (Nat.succ S.next) = none := by
                rw [upd_ne _ _ (by omega)]
                exact hf _ (by omega) (by omega)
              have e2 := evo_new (d := w1.drawn) (x := .loop ⟨.ready, none, fn, t, ps, assign, body, w.heap.size⟩) e1.gam hf1 (.loop 0 none nt E' ps.toList assign body) L2 hsz.symm (by
                refine ⟨fn, t, w.heap.size, ?_, he.mono ((sub_upd (hf _ (Nat.le_refl _) (by omega))).trans (sub_upd hf1))⟩
                show (w1.heap.push _)[w.heap.size + 1]? = _
                rw [← hsz]
                simp [lst])
              let w2 : World := alc w1 (.loop ⟨.ready, none, fn, t, ps, assign, body, w.heap.size⟩)
              have e2 : Evo P (upd ρ S.next L1) ⟨S.heap.set S.next (.deferred false), Nat.succ S.next⟩ w1 (upd (upd ρ S.next L1) (Nat.succ S.next) L2)
                ⟨(S.heap.set S.next (.deferred false)).set (Nat.succ S.next) (.loop 0 none nt E' ps.toList assign body), Nat.succ (Nat.succ S.next)⟩ w2 := e2
              generalize hρ2 : upd (upd ρ S.next L1) (Nat.succ S.next) L2 = ρ2 at e2
              have e12 := e1.trans e2 (Nat.le_succ _) (Nat.le_succ _)
              have hf2 : Free ρ2 (Nat.succ (Nat.succ S.next)) S3.next := Free.right (n := S.next) (hn ▸ hf) (by omega) e12.ext
              have hbd : ρ2 S.next = some L1 := by
                rw [← hρ2, upd_ne _ _ (by omega)]
                exact upd_same _ _ _
              have hbl : ρ2 (Nat.succ S.next) = some L2 := by
                rw [← hρ2]
                exact upd_same _ _ _
              have hargs : VRels ρ2 (fl ++ (.func (.yield (Nat.succ S.next)) ⟨[]⟩ ⟨[]⟩ :: cl)) (a' ++ (.func (.yield (w.heap.size + 1)) ⟨[]⟩ ⟨[]⟩ :: c')) :=
                (hr1.mono e12.ext.1).append (.cons (.yield _ L2 hbl) (hr2.mono e12.ext.1))
              obtain ⟨ρ3, v', w3, hres, e3, hv⟩ := hc.fn hcall e2.gam hf2 hargs
              obtain ⟨M, hM, hML⟩ := e3.gam.obj _ _ hobj
              have hMM := e3.ext.1 _ _ hbl
              rw [hMM] at hM
              cases hM
              obtain ⟨fn', tmps', dfs, h1, h2⟩ := hML
              have h1 : w3.heap[w.heap.size + 1]? = some (.loop ⟨lst st, pend, fn', tmps', ⟨ps2⟩, a2, b2, dfs⟩) := h1
              have e4 := evo_set (d := w3.drawn) (x := .loop ⟨.exhausted, pend, fn', tmps', ⟨ps2⟩, a2, b2, dfs⟩) e3.gam hobj hMM (.loop 3 pend nt2 E2 ps2 a2 b2) (by
                refine ⟨fn', tmps', dfs, ?_, h2⟩
                have hlt : w.heap.size + 1 < w3.heap.size := by
                  rcases Nat.lt_or_ge (w.heap.size + 1) w3.heap.size with h | h
                  · exact h
                  · rw [Array.getElem?_eq_none h] at h1; cases h1
                show (w3.heap.setIfInBounds (w.heap.size + 1) _)[w.heap.size + 1]? = _
                simp [hlt, lst])
              have hmv := fun k => mv_endRangeFunc (P := P) (fn := fn) (rnd := false) (t := t) (k := k) (d := ⟨.collected w.heap.size, ⟨[]⟩⟩ :: d) h1 (lst_busy hst)
              have hmv0 := fun k => mv_rangeFunc (P := P) (fn := fn) (d := d) (k := k) (ps := ps) (assign := assign) (body := body) hev hres
              subst hS'
              refine ⟨ρ3, t, ⟨.collected w.heap.size, ⟨[]⟩⟩ :: d, _, ⟨(e12.trans e3 (by show S.next ≤ Nat.succ (Nat.succ S.next); omega) l3).trans e4 (by omega) (Nat.le_refl _), he.mono (e12.ext.1.trans e3.ext.1), ?_⟩, fun k => ⟨_, hstd k, (hmv0 k).trans (hmv k)⟩⟩
              exact .cons (.collected S.next L1 (e3.ext.1 _ _ hbd)) (hd.mono (e12.ext.1.trans e3.ext.1))
          split at h
          · cases h
            exact fin (fun k => .normal) rfl rfl rfl rfl
          · rename_i i
            cases h
            exact fin (fun k => .exit i k rfl) rfl rfl rfl rfl
          · cases h
            exact fin (fun k => .ret k) rfl rfl rfl rfl
          · cases h
        · cases h
      · cases h
    · cases h
  · cases h

end
end Go.Eng

/- The engine, part 41: code. -/
namespace Go.Eng

section
variable {P : Program} {fn : FuncId} {rnd : Bool} {nt : Nat}

theorem runs_ecode (hmx : P.follows .mixedOrders = true) (hz : ZeroOk P) {call : CallF} (hc : CallS P call) {again : Code → CodeF} (ha : ∀ x, RunsS P fn rnd nt (again x) (.code x :: ·)) (fuel : Nat) :
    ∀ c : Code, RunsS P fn rnd nt ((ecode P nt rnd c).run call again fuel) (.code c :: ·) := by
  intro c
  induction c with
  | skip => exact ⟨fun h => by cases h; exact ⟨Nat.le_refl _, fun hg _ he hd => fin_stay hg he hd fun k => ⟨k, .normal, mv_skip⟩⟩⟩
  | region id ops draw =>
    simp only [ecode]
    split
    · exact ⟨fun h => by cases h⟩
    · rename_i hq
      have hp : rnd = false ∨ ∀ o ∈ ops.toList, Plain o := by
        cases rnd with
        | false => exact .inl rfl
        | true => exact .inr (defers_plain (by simpa using hq))
      split
      · refine ⟨fun {E D S o E' D' S'} h => ?_⟩
        refine ⟨eops_next hz hc.mono h, fun {ρ w t d} hg hf he hd => ?_⟩
        obtain ⟨rfl, ρ', t', d', w', e1, m⟩ := eops_ok (fn := fn) (rnd := rnd) hz hc hp ops.toList 0 rfl h hg hf he hd
        refine ⟨ρ', t', d', w', e1, fun k => ⟨k, .normal, mv_region.trans ?_⟩⟩
        have := m k
        rwa [← List.range_eq_range', Array.length_toList] at this
      · split
        · rename_i ps hps
          refine ⟨fun {E D S o E' D' S'} h => ?_⟩
          refine ⟨eplan_next hz hc.mono h, fun {ρ w t d} hg hf he hd => ?_⟩
          obtain ⟨rfl, ρ', t', d', w', e1, m⟩ := eplan_ok (fn := fn) (rnd := rnd) (id := id) hmx hz hc hp hps h hg hf he hd
          exact ⟨ρ', t', d', w', e1, fun k => ⟨k, .normal, m k⟩⟩
        · exact ⟨fun h => by cases h⟩
  | seq a b iha ihb => exact runs_seq iha ihb
  | cond c a b iha ihb =>
    refine ⟨fun {E D S o E' D' S'} h => ?_⟩
    simp only [ecode] at h
    split at h
    · rename_i x hx
      split at h
      · rename_i q
        have hev : ∀ {ρ : Ren} {t : Array Value}, EnvRel ρ nt E t → evT t c = .bool q := fun {ρ t} he => by
          have := env_x he c _ hx
          generalize evT t c = y at this
          cases this
          rfl
        split at h
        · obtain ⟨l1, a1⟩ := iha.run h
          exact ⟨l1, fun hg hf he hd => (a1 hg hf he hd).pre fun k => mv_cond (q := true) (hev he)⟩
        · obtain ⟨l1, a1⟩ := ihb.run h
          exact ⟨l1, fun hg hf he hd => (a1 hg hf he hd).pre fun k => mv_cond (q := false) (hev he)⟩
      · cases h
    · cases h
  | block id c ih => exact runs_block ih
  | loop c ih => exact RunsS.pre (runs_loop ih fuel) fun t d w k => mv_loop
  | exit i => exact ⟨fun h => by cases h; exact ⟨Nat.le_refl _, fun hg _ he hd => fin_stay hg he hd fun k => ⟨_, .exit i k rfl, Moves.refl _⟩⟩⟩
  | ret => exact ⟨fun h => by cases h; exact ⟨Nat.le_refl _, fun hg _ he hd => fin_stay hg he hd fun k => ⟨_, .ret k, Moves.refl _⟩⟩⟩
  | label l => exact ⟨fun h => by cases h; exact ⟨Nat.le_refl _, fun hg _ he hd => fin_stay hg he hd fun k => ⟨k, .normal, mv_label⟩⟩⟩
  | scope c ih => exact RunsS.pre (runs_scope ha fuel ih) fun t d w k => mv_scope
  | goto l => exact ⟨fun h => by cases h; exact ⟨Nat.le_refl _, fun hg _ he hd => fin_stay hg he hd fun k => ⟨_, .goto l k rfl, Moves.refl _⟩⟩⟩
  | rangeFunc f ps assign body _ _ =>
    cases rnd with
    | false => exact runs_rangeFunc hc
    | true => exact ⟨fun h => by cases h⟩
  | refuse s => exact ⟨fun h => by cases h⟩

theorem runs_again (hmx : P.follows .mixedOrders = true) (hz : ZeroOk P) {call : CallF} (hc : CallS P call) (fuel : Nat) : ∀ (n : Nat) (x : Code), RunsS P fn rnd nt (eagain P nt rnd call fuel n x) (.code x :: ·)
  | 0, _ => ⟨fun h => by cases h⟩
  | n + 1, x => runs_ecode hmx hz hc (runs_again hmx hz hc fuel n) fuel x

end
end Go.Eng

/- The engine, part 42: a function's end: deferred calls, results. -/
namespace Go.Eng

section
variable {P : Program}

/-- A frame that returns. -/
def retF (b : Fx) (t : Array Value) (d : List Deferred) (todo : List Item) : Frame := { fat b t d todo with mode := .returning }

theorem runDefers_next {call : CallF} (hm : MonoC call) : ∀ {D : List Deferred} {S S' : St}, runDefers call D S = some S' → S.next ≤ S'.next
  | [], S, S', h => by cases h; exact Nat.le_refl _
  | x :: D, S, S', h => by
    simp only [runDefers] at h
    split at h
    · split at h
      · rename_i v S1 h1
        exact Nat.le_trans (hm _ _ _ _ _ h1) (runDefers_next hm h)
      · cases h
    · split at h
      · have := runDefers_next hm h
        exact this
      · cases h
    · cases h

theorem runDefers_ok {call : CallF} (hc : CallS P call) : ∀ {D d : List Deferred} {S S' : St} {ρ : Ren} {w : World}, runDefers call D S = some S' → Gam P ρ S w → Free ρ S.next S'.next → DRels ρ D d →
    ∃ ρ' w', Evo P ρ S w ρ' S' w' ∧ ∀ (b : Fx) (t : Array Value) (todo : List Item) (cs : List Frame), Steps P (lone (retF b t d todo) cs w) (lone (retF b t [] todo) cs w')
  | [], _, S, S', ρ, w, h, hg, _, .nil => by cases h; exact ⟨ρ, w, Evo.refl hg, fun _ _ _ _ => .refl _ _⟩
  | x :: D, _, S, S', ρ, w, h, hg, hf, .cons (x' := x') (l' := d) hx hd => by
    have hN := runDefers_next hc.mono h
    simp only [runDefers] at h
    split at h
    · rename_i f cap htar
      split at h
      · rename_i v S1 h1
        cases hx with
        | @fn _ c c' a a' hrc hra =>
          cases htar
          have l1 := hc.mono _ _ _ _ _ h1
          have l2 := runDefers_next hc.mono h
          obtain ⟨ρ1, v', w1, hres, e1, _⟩ := hc.fn h1 hg (hf.left l2) (hra.append hrc)
          obtain ⟨ρ2, w2, e2, m2⟩ := runDefers_ok hc h e1.gam (hf.right l1 e1.ext) (hd.mono e1.ext.1)
          refine ⟨ρ2, w2, e1.trans e2 l1 l2, fun b t todo cs => Steps.trans ?_ (m2 b t todo cs)⟩
          have hinv : (invoke (.fn (.func f) ⟨c'⟩) ⟨a'⟩ : Sem Next) = callFunc f ⟨a' ++ c'⟩ := by
            simp only [invoke]
            congr 1
            apply Array.toList_inj.1
            simp
          cases hres with
          | ext hx =>
            rw [← hinv] at hx
            refine .one (step_lone_go ?_)
            simp [stepG, unwind, callDeferred, retF, fat, hx]
          | ent hx he =>
            rw [← hinv] at hx
            refine .head (m₁ := lone (Frame.enter P f ⟨a' ++ c'⟩ .deferred) (retF b t d todo :: cs) w) (step_lone_go ?_) (he.dfr _ _ rfl)
            simp [stepG, unwind, callDeferred, retF, fat, hx]
        | collected b L hb => cases htar
      · cases h
    · rename_i b htar
      split at h
      · rename_i hob
        cases hx with
        | @fn _ c c' a a' hrc hra => cases htar
        | collected _ L hb =>
          cases htar
          obtain ⟨M, hM, hML⟩ := hg.obj _ _ hob
          rw [hb] at hM
          cases hM
          have hML : w.heap[L.blk]? = some (.deferred (some [])) := hML
          have e1 := evo_set (d := w.drawn) (x := .deferred none) hg hob hb (.deferred true) (by
            have hlt : L.blk < w.heap.size := by
              rcases Nat.lt_or_ge L.blk w.heap.size with h | h
              · exact h
              · rw [Array.getElem?_eq_none h] at hML; cases hML
            show (w.heap.setIfInBounds L.blk _)[L.blk]? = _
            simp [hlt])
          have l2 := runDefers_next hc.mono h
          obtain ⟨ρ2, w2, e2, m2⟩ := runDefers_ok hc h e1.gam hf (hd.mono e1.ext.1)
          refine ⟨ρ2, w2, e1.trans e2 (Nat.le_refl _) l2, fun b' t todo cs => Steps.trans (.one (step_lone_go ?_)) (m2 b' t todo cs)⟩
          have := rf_take (P := P) hML
          simp [stepG, unwind, retF, fat, Sem.runT_eq, this, puo]
      · cases h
    · cases h

theorem eload_chan {ty : TypeId} {r : Option Nat} {S : St} : (eload P ty).run (.chan r) S = none := by
  unfold eload
  split
  · split <;> rfl
  · rfl
  · rfl

/-- A result variable's value. -/
def resOne (t : Array Value) : ResultVar → Sem Value
  | .tmp x => pure (t.getD x undef)
  | .cell a ty => do loadVar ty (← asAddr (t.getD a undef))

theorem results_eq (f : Func) (t : Array Value) : results f t = (do
    let vs ← f.results.mapM (resOne t)
    pure (if h : vs.size = 1 then vs[0] else .tuple vs)) := by
  unfold results
  congr 1

/-- A function's results. -/
theorem resL_ok {nt : Nat} {E : Tr Value} {t : Array Value} {ρ : Ren} {S : St} {w : World} (he : EnvRel ρ nt E t) (hg : Gam P ρ S w) : ∀ {rs : List ResultVar} {l : List Value}, (resL P rs).run E S = some l →
    ∃ l', (rs.mapM (resOne t)).run P w = .ok l' w ∧ VRels ρ l l'
  | [], l, h => by
    simp only [resL] at h
    cases h
    exact ⟨[], rfl, .nil⟩
  | x :: rs, l, h => by
    simp only [resL] at h
    split at h
    · rename_i x
      simp only at h
      split at h
      · rename_i v hv
        split at h
        · rename_i r hr
          cases h
          obtain ⟨l', h1, h2⟩ := resL_ok he hg hr
          have hx := env_x he (.tmp x) _ hv
          refine ⟨t.getD x undef :: l', ?_, .cons hx h2⟩
          simp only [List.mapM_cons, resOne, Sem.run_bind, Sem.run_pure, Result.andThen_ok, h1]
        · cases h
      · cases h
    · rename_i a ty
      simp only at h
      split at h
      · rename_i p hp
        split at h
        · rename_i v hv
          split at h
          · rename_i r hr
            cases h
            obtain ⟨l', h1, h2⟩ := resL_ok he hg hr
            have hx : VRel ρ p (t.getD a undef) := env_x he (.tmp a) _ hp
            obtain ⟨v', h3, h4⟩ := load_ok (w := w) hv hg hx
            refine ⟨v' :: l', ?_, .cons h4 h2⟩
            have h5 : (resOne t (.cell a ty)).run P w = .ok v' w := by
              simp only [resOne]
              generalize t.getD a undef = y at hx h3
              cases hx <;> first
                | (rw [eload_chan] at hv; cases hv; done)
                | (simp [Instr.loadAt, Instr.sureAddr] at h3; done)
                | skip
              all_goals first
                | (simpa [Instr.loadAt, Instr.sureAddr, asAddr] using h3)
                | (simp [Instr.loadAt, Instr.sureAddr, asAddr, runtimePanic] at h3)
            simp only [List.mapM_cons]
            rw [Sem.run_bind, h5]
            simp only [Sem.run_bind, Sem.run_pure, Result.andThen_ok, h1]
          · cases h
        · cases h
      · cases h

end
end Go.Eng

/- The engine, part 43: calls. -/
namespace Go.Eng

section
variable {P : Program}

theorem argsE_get : ∀ {l : List Value} {i : Nat} {E : Tr Value} (x : Nat), (argsE i l E).get x = if i ≤ x ∧ x < i + l.length then l[x - i]? else E.get x
  | [], i, E, x => by
    simp only [argsE, List.length_nil, Nat.add_zero]
    rw [if_neg (by omega)]
  | v :: l, i, E, x => by
    simp only [argsE, List.length_cons]
    rw [argsE_get]
    show (if i + 1 ≤ x ∧ x < i + 1 + l.length then l[x - (i + 1)]? else (E.set i v).get x) = _
    by_cases h : i + 1 ≤ x ∧ x < i + 1 + l.length
    · rw [if_pos h, if_pos (by omega)]
      obtain ⟨j, rfl⟩ : ∃ j, x = i + 1 + j := ⟨x - (i + 1), by omega⟩
      have e1 : i + 1 + j - (i + 1) = j := by omega
      have e2 : i + 1 + j - i = j + 1 := by omega
      rw [e1, e2]
      simp
    · rw [if_neg h, Tr.get_set_if]
      by_cases e : x = i
      · subst e
        rw [if_pos rfl, if_pos (by omega), Nat.sub_self]
        rfl
      · rw [if_neg e, if_neg (by omega)]

theorem leaf_get {α : Type} (x : Nat) : (Tr.leaf : Tr α).get x = none := by
  unfold Tr.get
  generalize pathOf x = l
  cases l with
  | nil => rfl
  | cons y l => cases y <;> rfl

/-- A function's temporaries at its entry. -/
theorem env_enter {ρ : Ren} {nt : Nat} {args args' : List Value} (h : VRels ρ args args') (hn : args.length ≤ nt) :
    EnvRel ρ nt (argsE 0 args .leaf) (⟨args'⟩ ++ Array.replicate (nt - (⟨args'⟩ : Array Value).size) undef) := by
  have hl : args'.length = args.length := h.length
  refine ⟨by simp [hl]; omega, fun x => ?_⟩
  rw [argsE_get, leaf_get]
  have hget : (⟨args'⟩ ++ Array.replicate (nt - (⟨args'⟩ : Array Value).size) undef : Array Value).getD x undef = (args'[x]?).getD undef := by
    rw [Array.getD_eq_getD_getElem?]
    by_cases hx : x < args'.length
    · rw [Array.getElem?_append_left (by simpa using hx)]
      simp
    · rw [Array.getElem?_append_right (by simpa using hx), List.getElem?_eq_none (by omega), Array.getElem?_replicate]
      split <;> rfl
  rw [hget]
  by_cases hx : x < args.length
  · rw [if_pos (by omega)]
    obtain ⟨v', h1, h2⟩ := h.get x args[x] (by simp [hx])
    rw [h1, Nat.sub_zero, List.getElem?_eq_getElem hx]
    exact h2
  · rw [if_neg (by omega), List.getElem?_eq_none (by omega)]
    exact undef_rel ρ

/-- What a hook must do. -/
structure HookOk (P : Program) (h : List Value → St → OR) (f : FuncId) : Prop where
  mono : ∀ {args : List Value} {S S' : St} {v : Value}, h args S = .val v S' → S.next ≤ S'.next
  fn : ∀ {args args' : List Value} {S S' : St} {v : Value} {ρ : Ren} {w : World}, h args S = .val v S' → Gam P ρ S w → Free ρ S.next S'.next → VRels ρ args args' →
    ∃ ρ' v' w', FnRes P f ⟨args'⟩ w v' w' ∧ Evo P ρ S w ρ' S' w' ∧ VRel ρ' v v'

/-- A function's body has come to its end. -/
theorem ends_fn {fn : FuncId} {t0 t : Array Value} {d : List Deferred} {c : Code} {o : Out} {k' : List Item} {w w1 : World} (ho : o = .normal ∨ o = .ret) (hs : Stands [] o k')
    (hm : Moves P fn false ⟨t0, [], [.code c], w⟩ ⟨t, d, k', w1⟩) {b : Fx} {cs : List Frame} (hb : FxOk fn false b cs) : ∃ todo, Steps P (lone (fat b t0 [] [.code c]) cs w) (lone (retF b t d todo) cs w1) := by
  have hn : b.roundOf = none := by have := hb.2.1; simpa using this
  rcases ho with rfl | rfl
  · cases hs
    exact ⟨[], (hm b cs hb).trans (.one (step_lone_go (by simp [stepG, stepG.exec, fat, hn, retF])))⟩
  · cases hs with
    | ret k' => exact ⟨.code .ret :: k', (hm b cs hb).trans (.one (step_lone_go (by simp [stepG, stepG.exec, fat, hn, retF])))⟩

theorem endCall_next {call : CallF} (hm : MonoC call) {rs : List ResultVar} {r : CR} {v : Value} {S' : St} (h : endCall P call rs r = .val v S') : ∃ o E D S1, r = .ok o E D S1 ∧ (o = .normal ∨ o = .ret) ∧ S1.next ≤ S'.next ∧
    ∃ l, runDefers call D S1 = some S' ∧ (resL P rs).run E S' = some l ∧ ((∃ x, l = [x] ∧ v = x) ∨ (l.length ≠ 1 ∧ v = .tuple ⟨l⟩)) := by
  unfold endCall at h
  split at h
  · rename_i o E D S1
    have main : (match runDefers call D S1 with
      | some S' => match (resL P rs).run E S' with
        | some l => match l with
          | [v] => .val v S'
          | vs => .val (.tuple ⟨vs⟩) S'
        | none => .fail
      | none => .fail : OR) = .val v S' → S1.next ≤ S'.next ∧ ∃ l, runDefers call D S1 = some S' ∧ (resL P rs).run E S' = some l ∧ ((∃ x, l = [x] ∧ v = x) ∨ (l.length ≠ 1 ∧ v = .tuple ⟨l⟩)) := by
      intro h
      split at h
      · rename_i S2 h2
        split at h
        · rename_i l hl
          split at h
          · cases h
            exact ⟨runDefers_next hm h2, _, h2, hl, .inl ⟨_, rfl, rfl⟩⟩
          · rename_i hne
            cases h
            refine ⟨runDefers_next hm h2, l, h2, hl, .inr ⟨fun e => ?_, rfl⟩⟩
            match l, e with
            | [x], _ => exact hne x rfl
        · cases h
      · cases h
    cases o with
    | normal => exact ⟨_, _, _, _, rfl, .inl rfl, (main h).1, (main h).2⟩
    | ret => exact ⟨_, _, _, _, rfl, .inr rfl, (main h).1, (main h).2⟩
    | exit i => cases h
    | goto l => cases h
  · cases h

/-- A function comes to its return. -/
structure Body (P : Program) (f : FuncId) (fn : Func) (c : Code) (args' : List Value) (w : World) (v' : Value) (w' : World) : Prop where
  intro ::
  run : ∃ t1, (results fn t1).run P w' = .ok v' w' ∧ ∀ (b : Fx) (cs : List Frame), FxOk f false b cs →
    ∃ todo, Steps P (lone (fat b (⟨args'⟩ ++ Array.replicate (fn.ntmps - (⟨args'⟩ : Array Value).size) undef) [] [.code c]) cs w) (lone (retF b t1 [] todo) cs w')

/-- What a body comes to, of what its code comes to. -/
theorem fin_body {call : CallF} (hc : CallS P call) {f : FuncId} {fn : Func} {c : Code} {args' : List Value} {S S1 S' : St} {v : Value} {o : Out} {E1 : Tr Value} {D1 : List Deferred} {l : List Value} {ρ : Ren} {w : World} (ho : o = .normal ∨ o = .ret)
    (h1 : Fin P f false fn.ntmps S w ρ (⟨args'⟩ ++ Array.replicate (fn.ntmps - (⟨args'⟩ : Array Value).size) undef) [] o E1 D1 S1 (.code c :: ·)) (l1 : S.next ≤ S1.next) (hf : Free ρ S.next S'.next)
    (h2 : runDefers call D1 S1 = some S') (h3 : (resL P fn.results.toList).run E1 S' = some l) (h4 : (∃ x, l = [x] ∧ v = x) ∨ (l.length ≠ 1 ∧ v = .tuple ⟨l⟩)) :
    ∃ ρ' v' w', Body P f fn c args' w v' w' ∧ Evo P ρ S w ρ' S' w' ∧ VRel ρ' v v' := by
  have l2 := runDefers_next hc.mono h2
  obtain ⟨ρ1, t1, d1, w1, e1, m1⟩ := h1
  obtain ⟨ρ2, w2, e2, m2⟩ := runDefers_ok hc h2 e1.evo.gam (hf.right l1 e1.evo.ext) e1.dfr
  have hev := e1.evo.trans e2 l1 l2
  obtain ⟨l', h5, h6⟩ := resL_ok (e1.env.mono e2.ext.1) e2.gam h3
  have hres : ∃ v', (results fn t1).run P w2 = .ok v' w2 ∧ VRel ρ2 v v' := by
    rw [results_eq]
    rw [Array.mapM_eq_mapM_toList]
    simp only [Sem.run_bind, Sem.run_map, h5, Result.andThen_ok, Sem.run_pure]
    have hl := h6.length
    rcases h4 with ⟨x, rfl, rfl⟩ | ⟨hne, rfl⟩
    · cases h6 with
      | cons hx ht =>
        cases ht
        exact ⟨_, rfl, hx⟩
    · refine ⟨.tuple ⟨l'⟩, ?_, .tuple h6⟩
      have : ¬ (l'.toArray.size = 1) := by simp [hl, hne]
      rw [dif_neg this]
  obtain ⟨v', hr1, hr2⟩ := hres
  obtain ⟨k', hs, mv⟩ := m1 []
  refine ⟨ρ2, v', w2, ⟨t1, hr1, fun b cs hb => ?_⟩, hev, hr2⟩
  obtain ⟨todo, st⟩ := ends_fn ho hs mv hb
  exact ⟨todo, st.trans (m2 _ _ _ _)⟩

/-- A body's return, seen from a caller. -/
theorem body_fn {f : FuncId} {fn : Func} {c : Code} (hfn : P.funcs[f]? = some fn) (hb : fn.body = some c) (hnm : fn.name ≠ "runtime.NumGoroutine") {args' : List Value} {w w' : World} {v' : Value} (h : Body P f fn c args' w v' w') : FnRes P f ⟨args'⟩ w v' w' := by
  obtain ⟨t1, hr1, hst⟩ := h
  have hent : ∀ kind, Frame.enter P f ⟨args'⟩ kind = fat ⟨f, kind, none⟩ (⟨args'⟩ ++ Array.replicate (fn.ntmps - (⟨args'⟩ : Array Value).size) undef) [] [.code c] := fun kind => by
    simp only [Frame.enter, hfn, fat, Option.bind_some, Option.map_some, Option.getD_some, hb]
  refine .ent ?_ ⟨fun cc cs => ?_, fun cc cs hcc => ?_⟩
  · unfold callFunc
    have hp : (program : Sem Program).run P w = .ok P w := rfl
    simp only [Sem.run_bind, hp, Result.andThen_ok, hfn]
    have : (fn.name == "runtime.NumGoroutine") = false := by simpa using hnm
    simp [this, hb]
  · have hb0 : FxOk f false ⟨f, .normal, none⟩ (cc :: cs) := ⟨rfl, rfl, .inl rfl⟩
    obtain ⟨todo, st⟩ := hst _ _ hb0
    rw [hent]
    refine st.trans (.one (step_lone_go ?_))
    simp [stepG, unwind, doReturn, retF, fat, hfn, Sem.runT_eq, hr1]
  · have hb0 : FxOk f false ⟨f, .deferred, none⟩ (cc :: cs) := ⟨rfl, rfl, .inr ⟨rfl, rfl, cc, cs, rfl, hcc⟩⟩
    obtain ⟨todo, st⟩ := hst _ _ hb0
    rw [hent]
    refine st.trans (.one (step_lone_go ?_))
    simp [stepG, unwind, doReturn, retF, fat, hfn, Sem.runT_eq, hr1, hcc]

/-- A body's return, in the kit's words. -/
theorem body_calls {f : FuncId} {fn : Func} {c : Code} (hfn : P.funcs[f]? = some fn) (hb : fn.body = some c) {args' : List Value} {w w' : World} {v' : Value} (h : Body P f fn c args' w v' w') {R : Ending → World → Prop} (hR : R (.returned v') w') : Calls P f ⟨args'⟩ w R := by
  obtain ⟨t1, hr1, hst⟩ := h
  intro cs
  obtain ⟨todo, st⟩ := hst ⟨f, .normal, none⟩ cs ⟨rfl, rfl, .inl rfl⟩
  have hent : Frame.enter P f ⟨args'⟩ .normal = fat ⟨f, .normal, none⟩ (⟨args'⟩ ++ Array.replicate (fn.ntmps - (⟨args'⟩ : Array Value).size) undef) [] [.code c] := by
    simp only [Frame.enter, hfn, fat, Option.bind_some, Option.map_some, Option.getD_some, hb]
  refine ⟨.returned v', w', retF ⟨f, .normal, none⟩ t1 [] todo, hR, ?_, rfl, rfl, rfl, rfl, fn, hfn, hr1⟩
  rw [hent]
  exact st

/-- A function that is the program's. -/
theorem body_ok (hmx : P.follows .mixedOrders = true) (hz : ZeroOk P) {call : CallF} (hc : CallS P call) (fuel : Nat) {f : FuncId} {fn : Func} {c : Code}
    {args args' : List Value} {S S' : St} {v : Value} (hn : args.length ≤ fn.ntmps)
    (h : endCall P call fn.results.toList ((ecode P fn.ntmps false c).run call (eagain P fn.ntmps false call fuel 3) fuel (argsE 0 args .leaf) [] S) = .val v S') :
    S.next ≤ S'.next ∧ ∀ {ρ : Ren} {w : World}, Gam P ρ S w → Free ρ S.next S'.next → VRels ρ args args' → ∃ ρ' v' w', Body P f fn c args' w v' w' ∧ Evo P ρ S w ρ' S' w' ∧ VRel ρ' v v' := by
  obtain ⟨o, E1, D1, S1, h1, ho, l2, l, h2, h3, h4⟩ := endCall_next hc.mono h
  obtain ⟨l1, hr⟩ := (runs_ecode (fn := f) (rnd := false) hmx hz hc (runs_again hmx hz hc fuel 3) fuel c).run h1
  refine ⟨Nat.le_trans l1 l2, fun {ρ w} hg hf ha => ?_⟩
  exact fin_body hc ho (hr hg (hf.left l2) (env_enter ha hn) .nil) l1 hf h2 h3 h4

end
end Go.Eng

/- The engine, part 44: rounds; the engine, whole. -/
namespace Go.Eng

section
variable {P : Program}

theorem setPs_ok {ρ : Ren} {nt : Nat} : ∀ {ps : List Tmp} {args args' : List Value} {E E' : Tr Value} {t : Array Value}, setPs nt ps args E = some E' → EnvRel ρ nt E t → VRels ρ args args' →
    args'.length = ps.length ∧ EnvRel ρ nt E' ((ps.zip args').foldl (fun t (i, v) => t.setIfInBounds i v) t)
  | [], [], _, E, E', t, h, he, .nil => by cases h; exact ⟨rfl, he⟩
  | p :: ps, v :: vs, _, E, E', t, h, he, .cons hv ht => by
    obtain ⟨h1, h2⟩ := setPs_ok (ps := ps) h (he.put (some p) hv) ht
    exact ⟨by simp [h1], by simpa using h2⟩
  | [], _ :: _, _, E, E', t, h, he, _ => by cases h
  | _ :: _, [], _, E, E', t, h, he, _ => by cases h

theorem drels_nil {ρ : Ren} {d : List Deferred} (h : DRels ρ [] d) : d = [] := by cases h; rfl

theorem loop_at {ρ : Ren} {S : St} {w : World} {l : Nat} {L : Loc} (hg : Gam P ρ S w) (hL : ρ l = some L) {st : Nat} {pend : Option Code} {nt : Nat} {E : Tr Value} {ps : List Tmp} {a b : Code} (h : S.heap.get l = some (.loop st pend nt E ps a b)) :
    ∃ fn tmps dfs, w.heap[L.blk]? = some (.loop ⟨lst st, pend, fn, tmps, ⟨ps⟩, a, b, dfs⟩) ∧ EnvRel ρ nt E tmps := by
  obtain ⟨M, hM, h2⟩ := hg.obj _ _ h
  rw [hL] at hM
  cases hM
  exact h2

theorem evo_loop {ρ : Ren} {S : St} {w : World} {l : Nat} {L : Loc} (hg : Gam P ρ S w) (hL : ρ l = some L) {st st' : Nat} {pend pend' : Option Code} {nt : Nat} {E : Tr Value} {ps : List Tmp} {a b : Code} (h : S.heap.get l = some (.loop st pend nt E ps a b))
    {fn : FuncId} {tmps : Array Value} {dfs : Nat} (h1 : w.heap[L.blk]? = some (.loop ⟨lst st, pend, fn, tmps, ⟨ps⟩, a, b, dfs⟩)) (h2 : EnvRel ρ nt E tmps) :
    Evo P ρ S w ρ ⟨S.heap.set l (.loop st' pend' nt E ps a b), S.next⟩ (puo w L.blk (.loop ⟨lst st', pend', fn, tmps, ⟨ps⟩, a, b, dfs⟩)) :=
  evo_set (d := w.drawn) (x := .loop ⟨lst st', pend', fn, tmps, ⟨ps⟩, a, b, dfs⟩) hg h hL (.loop st' pend' nt E ps a b) (by
    refine ⟨fn, tmps, dfs, ?_, h2⟩
    have hlt : L.blk < w.heap.size := by
      rcases Nat.lt_or_ge L.blk w.heap.size with h | h
      · exact h
      · rw [Array.getElem?_eq_none h] at h1; cases h1
    show (w.heap.setIfInBounds L.blk _)[L.blk]? = _
    simp [hlt])

theorem beginRd_inv {l : Nat} {S S' : St} (h : beginRd l S = some S') : ∃ pend nt E ps a b, S.heap.get l = some (.loop 0 pend nt E ps a b) ∧ S' = ⟨S.heap.set l (.loop 1 pend nt E ps a b), S.next⟩ := by
  unfold beginRd at h
  split at h
  · rename_i st pend nt E ps a b hob
    cases st with
    | zero => cases h; exact ⟨_, _, _, _, _, _, hob, rfl⟩
    | succ n => cases h
  · cases h

theorem endRd_inv {l : Nat} {j : Option Code} {S S' : St} {v : Value} (h : endRd l j S = .val v S') : ∃ st pend nt E ps a b, S.heap.get l = some (.loop st pend nt E ps a b) ∧ v = .bool j.isNone ∧
    S' = ⟨S.heap.set l (.loop (if j.isNone then 0 else 2) j nt E ps a b), S.next⟩ := by
  unfold endRd at h
  split at h
  · rename_i st pend nt E ps a b hob
    cases j with
    | none => cases h; exact ⟨_, _, _, _, _, _, _, hob, rfl, rfl⟩
    | some c => cases h; exact ⟨_, _, _, _, _, _, _, hob, rfl, rfl⟩
  · cases h

def jumpOf : Out → Option Code
  | .normal => none
  | .exit i => some (.exit i)
  | .goto l => some (.goto l)
  | .ret => some .ret

theorem endRound_inv {l : Nat} {r : CR} {S' : St} {v : Value} (h : endRound l r = .val v S') : ∃ o E S1, r = .ok o E [] S1 ∧ (∀ x, o ≠ .goto x) ∧ endRd l (jumpOf o) S1 = .val v S' := by
  unfold endRound at h
  split at h
  · rename_i o E D S1
    split at h
    · cases o with
      | normal => exact ⟨_, _, _, rfl, (fun x e => by cases e), h⟩
      | exit i => exact ⟨_, _, _, rfl, (fun x e => by cases e), h⟩
      | ret => exact ⟨_, _, _, rfl, (fun x e => by cases e), h⟩
      | goto x => cases h
    · cases h
  · cases h

theorem eround_inv {l : Nat} {run : Nat → Code → CodeF} {args : List Value} {S S' : St} {v : Value} (h : eround l run args S = .val v S') :
    ∃ st pend nt E ps a b E1 E2 S1 S2, S.heap.get l = some (.loop st pend nt E ps a b) ∧ setPs nt ps args E = some E1 ∧ run nt a E1 [] S = .ok .normal E2 [] S1 ∧ beginRd l S1 = some S2 ∧ endRound l (run nt b E2 [] S2) = .val v S' := by
  unfold eround at h
  split at h
  · rename_i st pend nt E ps a b hob
    split at h
    · rename_i E1 h1
      split at h
      · rename_i o E2 D S1 h2
        cases o with
        | normal =>
          simp only at h
          cases D with
          | nil =>
            simp only at h
            split at h
            · rename_i S2 h3
              exact ⟨_, _, _, _, _, _, _, _, _, _, _, hob, h1, h2, h3, h⟩
            · cases h
          | cons x l => cases h
        | exit i => cases h
        | goto x => cases h
        | ret => cases h
      · cases h
    · cases h
  · cases h

theorem step_leave_round {b : Fx} {t : Array Value} {l : Nat} {o : Out} {k' : List Item} {c : Frame} {cs : List Frame} {w w' : World} {v : Value} (hb : b.roundOf = some l) (hk : b.kind = .normal) (hs : Stands [] o k') (hno : ∀ x, o ≠ .goto x)
    (hr : (Instr.endRound l (jumpOf o)).run P w = .ok v w') : step P (lone (fat b t [] k') (c :: cs) w) = .next (lone (c.finish v) cs w') := by
  cases hs with
  | normal => exact step_lone_go (by simp only [jumpOf] at hr; simp [stepG, stepG.exec, fat, hb, hk, Sem.runT_eq, hr, doReturn])
  | exit i k' h =>
    have h' : exitTo i k' = none := h
    exact step_lone_go (by simp only [jumpOf] at hr; simp [stepG, stepG.exec, fat, hb, hk, Sem.runT_eq, hr, doReturn, h'])
  | goto x k' h => exact absurd rfl (hno x)
  | ret k' => exact step_lone_go (by simp only [jumpOf] at hr; simp [stepG, stepG.exec, fat, hb, hk, Sem.runT_eq, hr, doReturn])

theorem eround_next {l : Nat} {run : Nat → Code → CodeF} (hrun : ∀ fn nt c, RunsS P fn true nt (run nt c) (.code c :: ·)) {args : List Value} {S S' : St} {v : Value} (h : eround l run args S = .val v S') : S.next ≤ S'.next := by
  obtain ⟨st, pend, nt, E, ps, a, b, E1, E2, S1, S2, h1, h2, h3, h4, h5⟩ := eround_inv h
  obtain ⟨o, E3, S3, h6, h7, h8⟩ := endRound_inv h5
  obtain ⟨_, _, _, _, _, _, _, rfl⟩ := beginRd_inv h4
  obtain ⟨_, _, _, _, _, _, _, _, _, rfl⟩ := endRd_inv h8
  have l1 := ((hrun 0 nt a).run h3).1
  have l2 := ((hrun 0 nt b).run h6).1
  exact Nat.le_trans l1 l2

theorem eround_ok {l : Nat} {run : Nat → Code → CodeF} (hrun : ∀ fn nt c, RunsS P fn true nt (run nt c) (.code c :: ·)) {args args' : List Value} {S S' : St} {v : Value} (h : eround l run args S = .val v S') {ρ : Ren} {w : World} {L : Loc}
    (hg : Gam P ρ S w) (hf : Free ρ S.next S'.next) (hL : ρ l = some L) (ha : VRels ρ args args') :
    ∃ fn tmps assign body ρ' v' w', (Instr.yield L.blk ⟨args'⟩).run P w = .ok (.round L.blk fn tmps assign body) w ∧
      (∀ c cs, Steps P (lone (Frame.round L.blk fn tmps assign body .normal) (c :: cs) w) (lone (c.finish v') cs w')) ∧ Evo P ρ S w ρ' S' w' ∧ VRel ρ' v v' := by
  obtain ⟨st, pend, nt, E, ps, a, b, E1, E2, S1, S2, h1, h2, h3, h4, h5⟩ := eround_inv h
  obtain ⟨o, E3, S3, h6, h7, h8⟩ := endRound_inv h5
  obtain ⟨pend1, nt1, Ea, ps1, a1, b1, h9, hS2⟩ := beginRd_inv h4
  obtain ⟨st3, pend3, nt3, Eb, ps3, a3, b3, h10, hv, hS'⟩ := endRd_inv h8
  obtain ⟨fn, tmps, dfs, k1, k2⟩ := loop_at hg hL h1
  obtain ⟨q1, q2⟩ := setPs_ok h2 k2 ha
  have l1 := ((hrun fn nt a).run h3).1
  have l2 := ((hrun fn nt b).run h6).1
  have n2 : S2.next = S1.next := by rw [hS2]
  have n3 : S'.next = S3.next := by rw [hS']
  obtain ⟨ρ1, t1, d1, w1, e1, m1⟩ := (((hrun fn nt a).run h3).2 hg (hf.left (by omega)) q2 .nil).to (fun _ => [.beginRound, .code b])
  have hL1 := e1.evo.ext.1 _ _ hL
  have hd1 := drels_nil e1.dfr
  subst hd1
  obtain ⟨fn1, tmps1, dfs1, k3, k4⟩ := loop_at e1.evo.gam hL1 h9
  have e2 := evo_loop (st' := 1) (pend' := pend1) e1.evo.gam hL1 h9 k3 k4
  rw [← hS2] at e2
  have e12 := e1.evo.trans e2 l1 (by omega)
  obtain ⟨ρ3, t3, d3, w3, e3, m3⟩ := ((hrun fn nt b).run h6).2 e2.gam (hf.right (by omega) e12.ext |>.left (by omega)) (e1.env.mono e2.ext.1) .nil
  have hd3 := drels_nil e3.dfr
  subst hd3
  have hL3 := e3.evo.ext.1 _ _ hL1
  obtain ⟨fn3, tmps3, dfs3, k5, k6⟩ := loop_at e3.evo.gam hL3 h10
  have e4 := evo_loop (st' := if (jumpOf o).isNone then 0 else 2) (pend' := jumpOf o) e3.evo.gam hL3 h10 k5 k6
  rw [← hS'] at e4
  obtain ⟨k', hst, mv⟩ := m3 []
  have hlst : lst (if (jumpOf o).isNone then 0 else 2) = if (jumpOf o).isNone then .ready else .done := by split <;> rfl
  refine ⟨fn, _, a, b, ρ3, .bool (jumpOf o).isNone, _, rf_yield k1 (by simp [q1]), fun c cs => ?_, (e12.trans e3.evo (by omega) (by omega)).trans e4 (by omega) (by omega), by rw [hv]; exact .bool _⟩
  have hb : FxOk fn true ⟨fn, .normal, some L.blk⟩ (c :: cs) := ⟨rfl, rfl, .inl rfl⟩
  have hz : ((⟨ps⟩ : Array Tmp).zip (⟨args'⟩ : Array Value)).foldl (fun t (i, v) => t.setIfInBounds i v) tmps = (ps.zip args').foldl (fun t (i, v) => t.setIfInBounds i v) tmps := by
    rw [← Array.foldl_toList]
    simp
  show Steps P (lone (Frame.round L.blk fn (((⟨ps⟩ : Array Tmp).zip (⟨args'⟩ : Array Value)).foldl (fun t (i, v) => t.setIfInBounds i v) tmps) a b .normal) (c :: cs) w) _
  rw [hz]
  refine Steps.trans (m1 [] _ _ hb) (.head (m₁ := lone (fat ⟨fn, .normal, some L.blk⟩ t1 [] [.code b]) (c :: cs) (puo w1 L.blk (.loop ⟨lst 1, pend1, fn1, tmps1, ⟨ps1⟩, a1, b1, dfs1⟩))) (step_lone_go ?_) (Steps.trans (mv _ _ hb) (.one (step_leave_round rfl rfl hst h7 ?_))))
  · have := rf_begin (P := P) k3 rfl
    simp [stepG, stepG.exec, stepG.apply, fat, Sem.runT_eq, this, Result.andThen, Frame.finish, lst]
  · have := rf_end (P := P) (jumpOf o) k5
    rw [hlst]
    exact this

/-- A call of the engine that is no hook's: its body. -/
theorem acall_body {hk : Hook} {n : Nat} {f : FuncId} {args : List Value} {S S' : St} {v : Value} (hhk : hk f = none) (h : acall P hk (n + 1) (.fn f) args S = .val v S') :
    ∃ fn c, P.funcs[f]? = some fn ∧ fn.body = some c ∧ args.length ≤ fn.ntmps ∧
      endCall P (acall P hk n) fn.results.toList ((ecode P fn.ntmps false c).run (acall P hk n) (eagain P fn.ntmps false (acall P hk n) n 3) n (argsE 0 args .leaf) [] S) = .val v S' := by
  simp only [acall] at h
  rw [hhk] at h
  simp only at h
  cases hbody : bodyF P f with
  | none => rw [hbody] at h; cases h
  | some q =>
    obtain ⟨c, rs, nt⟩ := q
    rw [hbody] at h
    simp only at h
    unfold bodyF at hbody
    split at hbody
    · rename_i fn hfn
      split at hbody
      · rename_i c0 hc0
        cases hbody
        rw [nth_eq] at hfn
        have hfn' : P.funcs[f]? = some fn := by simpa using hfn
        have hn := (cond_inv h (by simp)).1
        replace h := (cond_inv h (by simp)).2
        have hlen : args.length ≤ fn.ntmps := by
          have := ble_nat hn
          rwa [lenL_eq] at this
        exact ⟨fn, c0, hfn', hc0, hlen, h⟩
      · cases hbody
    · cases hbody

/-- The engine does what the machine does. -/
theorem acall_ok (hmx : P.follows .mixedOrders = true) (hz : ZeroOk P) {hk : Hook} (hh : ∀ f h, hk f = some h → HookOk P h f) (hng : ∀ (f : FuncId) fn, P.funcs[f]? = some fn → fn.name ≠ "runtime.NumGoroutine") : ∀ n, CallS P (acall P hk n)
  | 0 => ⟨fun _ _ _ _ _ h => (by cases h), fun h => (by cases h), fun h => (by cases h)⟩
  | n + 1 => by
    have ih := acall_ok hmx hz hh hng n
    have hrun : ∀ fn nt c, RunsS P fn true nt ((ecode P nt true c).run (acall P hk n) (eagain P nt true (acall P hk n) n 3) n) (.code c :: ·) :=
      fun fn nt c => runs_ecode hmx hz ih (runs_again hmx hz ih n 3) n c
    have hfn : ∀ {f : FuncId} {args : List Value} {S S' : St} {v : Value}, acall P hk (n + 1) (.fn f) args S = .val v S' → S.next ≤ S'.next ∧ ∀ {args' : List Value} {ρ : Ren} {w : World}, Gam P ρ S w → Free ρ S.next S'.next → VRels ρ args args' →
        ∃ ρ' v' w', FnRes P f ⟨args'⟩ w v' w' ∧ Evo P ρ S w ρ' S' w' ∧ VRel ρ' v v' := by
      intro f args S S' v h
      cases hhk : hk f with
      | some hook =>
        simp only [acall] at h
        rw [hhk] at h
        have := hh _ _ hhk
        exact ⟨this.mono h, fun hg hf ha => this.fn h hg hf ha⟩
      | none =>
        obtain ⟨fn, c, hfn, hc, hlen, h⟩ := acall_body hhk h
        refine ⟨(body_ok (f := f) (args' := []) hmx hz ih n hlen h).1, fun {args' ρ w} hg hf ha => ?_⟩
        obtain ⟨ρ', v', w', h1, h2, h3⟩ := (body_ok (f := f) (args' := args') hmx hz ih n hlen h).2 hg hf ha
        exact ⟨ρ', v', w', body_fn hfn hc (hng f fn hfn) h1, h2, h3⟩
    refine ⟨fun g args S v S' h => ?_, fun h hg hf ha => (hfn h).2 hg hf ha, fun h hg hf hL ha => eround_ok hrun h hg hf hL ha⟩
    cases g with
    | fn f => exact (hfn h).1
    | round l => exact eround_next hrun h

/-- What a call without arguments does, begun with no knowledge of memory. -/
def Kept (w w' : World) : Prop := w.heap.size ≤ w'.heap.size ∧ (∀ k, k < w.heap.size → w'.heap[k]? = w.heap[k]?) ∧ w'.tape = w.tape ∧ w'.os = w.os ∧ w'.output = w.output

theorem acall_calls (hmx : P.follows .mixedOrders = true) (hz : ZeroOk P) {hk : Hook} (hh : ∀ f h, hk f = some h → HookOk P h f) (hng : ∀ (f : FuncId) fn, P.funcs[f]? = some fn → fn.name ≠ "runtime.NumGoroutine")
    {n : Nat} {f : FuncId} {v : Value} {S' : St} {N : Nat} (hhk : hk f = none) (h : acall P hk (n + 1) (.fn f) [] ⟨.leaf, N⟩ = .val v S') (w : World) {R : Ending → World → Prop} (hR : ∀ ρ v' w', VRel ρ v v' → Kept w w' → R (.returned v') w') : Calls P f #[] w R := by
  obtain ⟨fn, c, hfn, hc, hlen, h⟩ := acall_body hhk h
  have hg : Gam P (fun _ => none) ⟨.leaf, N⟩ w := ⟨fun b o hb => (by rw [leaf_get] at hb; cases hb), fun b b' o o' L L' hb => (by rw [leaf_get] at hb; cases hb), fun b o hb => (by rw [leaf_get] at hb; cases hb)⟩
  obtain ⟨ρ', v', w', h1, h2, h3⟩ := (body_ok (f := f) (args' := []) hmx hz (acall_ok hmx hz hh hng n) n hlen h).2 hg (fun _ _ _ => rfl) .nil
  exact body_calls hfn hc h1 (hR ρ' v' w' h3 ⟨h2.fr.size, fun k hk => h2.fr.same k hk fun b o L hb => (by rw [leaf_get] at hb; cases hb), h2.fr.tape, h2.fr.os, h2.fr.output⟩)

end
end Go.Eng
