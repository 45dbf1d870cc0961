/- What stands in for functions without a body, and for a queue's shift. -/
import Derived.Test.YtidggficpcdpoaaGreatDoorEngH
import Derived.Laws.LoneSync
import Derived.Lib.Bytealg

/- The engine, part 45: functions without a body: what stands in for them. -/
namespace Go.Eng

noncomputable section
def hkMark0 : List Value → St → OR := fun a S => match a with
  | [] => .val undef S
  | _ :: _ => .fail

def hkMark1 : List Value → St → OR := fun a S => match a with
  | [.pointer (some _)] => .val undef S
  | _ => .fail

def hkCas (k : IntKind) : List Value → St → OR := fun a S => match a with
  | [.pointer (some ⟨b, o, none⟩), .int k1 x, .int k2 y] => match S.heap.get b with
    | some (.cells c _ _ _) => match nth c o with
      | some (.int k3 z) => cond (eqI z x && (eqK k k1 && (eqK k k2 && eqK k k3))) (match estoreCells S b o [.int k y] with
        | some S' => .val (.bool true) S'
        | none => .fail) .fail
      | _ => .fail
    | _ => .fail
  | _ => .fail

def hkAdd (k : IntKind) : List Value → St → OR := fun a S => match a with
  | [.pointer (some ⟨b, o, none⟩), .int k1 y] => match S.heap.get b with
    | some (.cells c _ _ _) => match nth c o with
      | some (.int k3 z) => cond (eqK k k1 && eqK k k3) (intK (k.wrap (Int.add z y)) fun s => match estoreCells S b o [.int k s] with
        | some S' => .val (.int k s) S'
        | none => .fail) .fail
      | _ => .fail
    | _ => .fail
  | _ => .fail

def cmpB : List UInt8 → List UInt8 → Int
  | [], [] => .ofNat 0
  | [], _ :: _ => .negSucc 0
  | _ :: _, [] => .ofNat 1
  | a :: x, b :: y => cond (Nat.ble (Nat.succ a.toNat) b.toNat) (.negSucc 0) (cond (Nat.ble (Nat.succ b.toNat) a.toNat) (.ofNat 1) (cmpB x y))

def hkCmp : List Value → St → OR := fun a S => match a with
  | [.string x, .string y] => .val (.int .i64 (cmpB x.data.toList y.data.toList)) S
  | _ => .fail
end

section
variable {P : Program} {f : FuncId} {fn : Func}

theorem hkMark0_ok (hf : P.funcs[f]? = some fn) (hname : (fn.name == "runtime.NumGoroutine") = false) (hb : fn.body.isNone = true) (hn : Extern.findNext fn = none) (m : Mark)
    (he : Extern.find fn = some (fun _ => do mark m; pure Extern.Race.none_)) : HookOk P hkMark0 f := by
  have inv : ∀ {args : List Value} {S S' : St} {v : Value}, hkMark0 args S = .val v S' → args = [] ∧ S' = S ∧ v = undef := by
    intro args S S' v h
    cases args with
    | nil => cases h; exact ⟨rfl, rfl, rfl⟩
    | cons x l => cases h
  refine ⟨fun h => ?_, fun h hg hf2 ha => ?_⟩
  · obtain ⟨_, rfl, _⟩ := inv h; exact Nat.le_refl _
  · obtain ⟨rfl, rfl, rfl⟩ := inv h
    cases ha
    exact ⟨_, _, _, .ext (run_call_mark0 hf hname hb hn m he _), Evo.refl hg, undef_rel _⟩

theorem hkMark1_ok (hf : P.funcs[f]? = some fn) (hname : (fn.name == "runtime.NumGoroutine") = false) (hb : fn.body.isNone = true) (hn : Extern.findNext fn = none) (m : Addr → Mark)
    (he : Extern.find fn = some (Extern.Race.marked m)) : HookOk P hkMark1 f := by
  have inv : ∀ {args : List Value} {S S' : St} {v : Value}, hkMark1 args S = .val v S' → (∃ a, args = [.pointer (some a)]) ∧ S' = S ∧ v = undef := by
    intro args S S' v h
    unfold hkMark1 at h
    split at h
    · cases h; exact ⟨⟨_, rfl⟩, rfl, rfl⟩
    · cases h
  refine ⟨fun h => ?_, fun h hg hf2 ha => ?_⟩
  · obtain ⟨_, rfl, _⟩ := inv h; exact Nat.le_refl _
  · obtain ⟨⟨a, rfl⟩, rfl, rfl⟩ := inv h
    cases ha with
    | cons h1 t =>
      cases t
      cases h1 with
      | ptr b o L hL => exact ⟨_, _, _, .ext (run_call_marked hf hname hb hn m he _ _), Evo.refl hg, undef_rel _⟩

theorem hkCmp_ok (hf : P.funcs[f]? = some fn) (hname : (fn.name == "runtime.NumGoroutine") = false) (hb : fn.body.isNone = true) (hn : Extern.findNext fn = none)
    (he : Extern.find fn = some Extern.BytealgCompare.compare) : HookOk P hkCmp f := by
  have inv : ∀ {args : List Value} {S S' : St} {v : Value}, hkCmp args S = .val v S' → ∃ x y, args = [.string x, .string y] ∧ S' = S ∧ v = .int .i64 (cmpB x.data.toList y.data.toList) := by
    intro args S S' v h
    unfold hkCmp at h
    split at h
    · cases h; exact ⟨_, _, rfl, rfl, rfl⟩
    · cases h
  have hc : ∀ a b : List UInt8, cmpB a b = Lib.compareBytes a b := by
    intro a
    induction a with
    | nil => intro b; cases b <;> rfl
    | cons x a ih =>
      intro b
      cases b with
      | nil => rfl
      | cons y b =>
        have hlt : ∀ u v : UInt8, Nat.ble (Nat.succ u.toNat) v.toNat = decide (u < v) := fun u v => by
          cases hh : Nat.ble (Nat.succ u.toNat) v.toNat with
          | true => rw [Nat.ble_eq] at hh; exact (decide_eq_true (UInt8.lt_iff_toNat_lt.2 hh)).symm
          | false => exact (decide_eq_false fun e => not_ble hh (UInt8.lt_iff_toNat_lt.1 e)).symm
        simp only [cmpB, Lib.compareBytes, hlt, ih]
        by_cases h1 : x < y
        · simp [h1]
        · by_cases h2 : y < x
          · simp [h1, h2]
          · simp [h1, h2]
  refine ⟨fun h => ?_, fun h hg hf2 ha => ?_⟩
  · obtain ⟨_, _, _, rfl, _⟩ := inv h; exact Nat.le_refl _
  · obtain ⟨x, y, rfl, rfl, rfl⟩ := inv h
    cases ha with
    | cons h1 t =>
      cases t with
      | cons h2 t =>
        cases t
        cases h1
        cases h2
        refine ⟨_, .int .i64 (Lib.compareBytes x.data.toList y.data.toList), _, .ext ?_, Evo.refl hg, ?_⟩
        · rw [run_callFunc_extern hf hname hb hn he, Lib.run_compareString]
          rfl
        · rw [hc]
          exact .int _ _

theorem setCell_of {ρ : Ren} {S S' : St} {w : World} {b o : Nat} {L : Loc} {k : IntKind} {y : Int} {u : Value} (h : estoreCells S b o [.int k y] = some S') (hg : Gam P ρ S w) (hL : ρ b = some L) (hu : w.cell? ⟨L.blk, L.base + o, none⟩ = some u) :
    S'.next = S.next ∧ w.frozen? ⟨L.blk, L.base + o, none⟩ = false ∧ Evo P ρ S w ρ S' (w.setCell ⟨L.blk, L.base + o, none⟩ (.int k y)) := by
  obtain ⟨h1, w', h2, h3⟩ := estoreCells_ok (vs' := [.int k y]) h hg hL (.cons (.int k y) .nil) (fun v hv => by simp at hv; subst hv; rfl)
  have hs := run_store P w ⟨L.blk, L.base + o, none⟩ (.int k y) .plain rfl
  rw [hu] at hs
  simp only at hs
  simp only [storeCells, Addr.add, if_true, Sem.run_bind] at h2
  cases hz : w.frozen? ⟨L.blk, L.base + o, none⟩ with
  | true =>
    rw [hz] at hs
    simp only [if_true] at hs
    rw [hs] at h2
    cases h2
  | false =>
    rw [hz] at hs
    simp only [Bool.false_eq_true, if_false] at hs
    rw [hs] at h2
    simp only [Result.andThen_ok, Sem.run_pure] at h2
    cases h2
    exact ⟨h1, rfl, h3⟩

theorem hkCas_ok {k : IntKind} (hf : P.funcs[f]? = some fn) (hname : (fn.name == "runtime.NumGoroutine") = false) (hb : fn.body.isNone = true) (hn : Extern.findNext fn = none)
    (he : Extern.find fn = some (Extern.Atomic.casT (.int k))) : HookOk P (hkCas k) f := by
  have inv : ∀ {args : List Value} {S S' : St} {v : Value}, hkCas k args S = .val v S' → ∃ b o x y c e op fz, args = [.pointer (some ⟨b, o, none⟩), .int k x, .int k y] ∧ S.heap.get b = some (.cells c e op fz) ∧ c[o]? = some (.int k x) ∧
      estoreCells S b o [.int k y] = some S' ∧ v = .bool true := by
    intro args S S' v h
    unfold hkCas at h
    split at h
    · rename_i b o k1 x k2 y
      split at h
      · rename_i c e op fz hob
        split at h
        · rename_i k3 z hz
          have h1 := (cond_inv h (by simp)).1
          replace h := (cond_inv h (by simp)).2
          simp only [Bool.and_eq_true] at h1
          obtain ⟨e1, e2, e3, e4⟩ := h1
          rw [eqI_eq] at e1
          have e1 := beq_iff_eq.1 e1
          have e2 := eqK_eq.1 e2
          have e3 := eqK_eq.1 e3
          have e4 := eqK_eq.1 e4
          subst e1 e2 e3
          rw [← e4, nth_eq] at hz
          split at h
          · rename_i S1 hS1
            cases h
            exact ⟨_, _, _, _, _, _, _, _, rfl, hob, hz, hS1, rfl⟩
          · cases h
        · cases h
      · cases h
    · cases h
  have hnx : ∀ {args : List Value} {S S' : St} {v : Value}, hkCas k args S = .val v S' → S'.next = S.next := by
    intro args S S' v h
    obtain ⟨b, o, x, y, c, e, op, fz, _, _, _, h4, _⟩ := inv h
    unfold estoreCells at h4
    split at h4
    · have h5 := (cond_inv h4 (by simp)).2
      split at h5
      · cases h5; rfl
      · cases h5
    · cases h4
  refine ⟨fun h => Nat.le_of_eq (hnx h).symm, fun {args args' S S' v ρ w} h hg hf2 ha => ?_⟩
  obtain ⟨b, o, x, y, c, e, op, fz, rfl, h2, h3, h4, rfl⟩ := inv h
  cases ha with
  | cons ha1 t =>
    cases t with
    | cons ha2 t =>
      cases t with
      | cons ha3 t =>
        cases t
        cases ha1 with
        | ptr _ _ L hL =>
          cases ha2
          cases ha3
          obtain ⟨u, hu, hur⟩ := cell_at hg h2 hL h3
          cases hur
          obtain ⟨_, hz, hev⟩ := setCell_of h4 hg hL hu
          exact ⟨ρ, .bool true, _, .ext (run_call_cas_hit hf hname hb hn k he hu hz), hev, .bool true⟩

theorem hkAdd_ok {k : IntKind} (hf : P.funcs[f]? = some fn) (hname : (fn.name == "runtime.NumGoroutine") = false) (hb : fn.body.isNone = true) (hn : Extern.findNext fn = none)
    (he : Extern.find fn = some (Extern.Atomic.update (Op.intArith .add) k true)) : HookOk P (hkAdd k) f := by
  have inv : ∀ {args : List Value} {S S' : St} {v : Value}, hkAdd k args S = .val v S' → ∃ b o z y c e op fz, args = [.pointer (some ⟨b, o, none⟩), .int k y] ∧ S.heap.get b = some (.cells c e op fz) ∧ c[o]? = some (.int k z) ∧
      estoreCells S b o [.int k (k.wrap (Int.add z y))] = some S' ∧ v = .int k (k.wrap (Int.add z y)) := by
    intro args S S' v h
    unfold hkAdd at h
    split at h
    · rename_i b o k1 y
      split at h
      · rename_i c e op fz hob
        split at h
        · rename_i k3 z hz
          have h1 := (cond_inv h (by simp)).1
          replace h := (cond_inv h (by simp)).2
          simp only [Bool.and_eq_true] at h1
          obtain ⟨e2, e4⟩ := h1
          have e2 := eqK_eq.1 e2
          have e4 := eqK_eq.1 e4
          subst e2
          rw [← e4, nth_eq] at hz
          rw [intK_eq] at h
          split at h
          · rename_i S1 hS1
            cases h
            exact ⟨_, _, _, _, _, _, _, _, rfl, hob, hz, hS1, rfl⟩
          · cases h
        · cases h
      · cases h
    · cases h
  have hnx : ∀ {args : List Value} {S S' : St} {v : Value}, hkAdd k args S = .val v S' → S'.next = S.next := by
    intro args S S' v h
    obtain ⟨b, o, x, y, c, e, op, fz, _, _, _, h4, _⟩ := inv h
    unfold estoreCells at h4
    split at h4
    · have h5 := (cond_inv h4 (by simp)).2
      split at h5
      · cases h5; rfl
      · cases h5
    · cases h4
  refine ⟨fun h => Nat.le_of_eq (hnx h).symm, fun {args args' S S' v ρ w} h hg hf2 ha => ?_⟩
  obtain ⟨b, o, z, y, c, e, op, fz, rfl, h2, h3, h4, rfl⟩ := inv h
  cases ha with
  | cons ha1 t =>
    cases t with
    | cons ha2 t =>
      cases t
      cases ha1 with
      | ptr _ _ L hL =>
        cases ha2
        obtain ⟨u, hu, hur⟩ := cell_at hg h2 hL h3
        cases hur
        obtain ⟨_, hz, hev⟩ := setCell_of h4 hg hL hu
        exact ⟨ρ, _, _, .ext (run_call_add hf hname hb hn k he hu hz (by simp only [Op.intArith, Sem.run_pure]; rfl)), hev, .int _ _⟩

end
end Go.Eng

/- The engine, part 46: a queue's shift, whose way depends on a capacity that is not known. -/
namespace Go.Eng

noncomputable section
/-- The queue holds one element behind an open end: none is left, in memory that nobody else has. -/
def hkShift (qe e sz : Nat) : List Value → St → OR := fun a S => match a with
  | [.pointer (some ⟨q, 0, none⟩)] => match S.heap.get q with
    | some (.cells [.slice (some ⟨b, bo, none⟩) 1 cap, .int .i64 _] qe' false 0) => match S.heap.get b with
      | some (.cells cs e' true fz) => match takeL (dropL cs bo) sz with
        | some xs => cond (Nat.beq qe qe' && (Nat.beq e e' && (Nat.beq cap capU && (Nat.ble fz bo && (oneCells xs && not (Nat.beq q b))))))
            (natK S.next fun nb => .val undef ⟨((S.heap.del b).set q (.cells [.slice (some ⟨nb, 0, none⟩) 0 capU, .int .i64 0] qe false 0)).set nb (.cells [] e true 0), Nat.succ nb⟩) .fail
        | none => .fail
      | _ => .fail
    | _ => .fail
  | _ => .fail

def topC : Nat → List Value
  | 0 => []
  | n + 1 => .chan (some 0) :: topC n

/-- The queue alone. -/
def S0 (qe e sz : Nat) : St := ⟨(Tr.leaf.set 0 (.cells [.slice (some ⟨1, 0, none⟩) 1 capU, .complex .f64 0 0] qe false 0)).set 1 (.cells (topC sz) e true 0), 2⟩

def okCR (r : CR) : Option (Out × Tr Value × List Deferred × St) := match r with
  | .ok o E D S => some (o, E, D, S)
  | .fail => none

/-- What the two ways come to. -/
def isA (qe e : Nat) (S : St) : Bool := match S.heap.get 0, S.heap.get 1, S.heap.get 2 with
  | some (.cells [.slice (some ⟨2, 0, none⟩) 0 0, .int .i64 0] qe' false 0), some (.cells _ e' true 0), some (.cells [] e2 false 0) => Nat.beq qe qe' && (Nat.beq e e' && Nat.beq e e2)
  | _, _, _ => false
def isB (qe e sz : Nat) (S : St) : Bool := match S.heap.get 0, S.heap.get 1 with
  | some (.cells [.slice (some ⟨1, o, none⟩) 0 cap, .int .i64 0] qe' false 0), some (.cells _ e' true 0) => Nat.beq qe qe' && (Nat.beq e e' && (Nat.beq o sz && Nat.beq cap capU))
  | _, _ => false

variable (P : Program)

def runC (nt : Nat) (c : Code) (E : Tr Value) (D : List Deferred) (S : St) : CR := (ecode P nt false c).run (acall P (fun _ => none) 0) (eagain P nt false (acall P (fun _ => none) 0) 0 0) 0 E D S

def isChan : Option Value → Bool
  | some (.chan none) => true
  | _ => false

def nilD : List Deferred → Bool
  | [] => true
  | _ :: _ => false

def isNrm : Out → Bool
  | .normal => true
  | _ => false

def nil? {α : Type} : List α → Bool
  | [] => true
  | _ :: _ => false

/-- The two ways of a body. -/
def shiftCode (qe e sz nt : Nat) : Code → Bool
  | .seq r0 c1 => match c1 with
    | .seq r1 c2 => match c2 with
      | .seq r2 c3 => match c3 with
        | .cond c a b => match okCR (runC P nt (.seq r0 (.seq r1 r2)) (argsE 0 [.pointer (some ⟨0, 0, none⟩)] .leaf) [] (S0 qe e sz)) with
          | some (o, E, D, S) => isNrm o && (nilD D && (isChan ((evC c).run E) &&
            ((match okCR (runC P nt a E D S) with
              | some (o, _, D, S) => isNrm o && (nilD D && isA qe e S)
              | none => false) &&
            (match okCR (runC P nt b E D S) with
              | some (o, _, D, S) => isNrm o && (nilD D && isB qe e sz S)
              | none => false))))
          | none => false
        | _ => false
      | _ => false
    | _ => false
  | _ => false

def shiftChk (f qe e sz : Nat) : Bool := match P.funcs.toList[f]? with
  | some fn => match fn.body with
    | some c => not (decide (fn.name = "runtime.NumGoroutine")) && (Nat.ble 1 fn.ntmps && (Nat.beq (P.cellsOf e) sz && (Nat.ble 1 sz && (nil? fn.results.toList && shiftCode P qe e sz fn.ntmps c))))
    | none => false
  | none => false
end

section
variable {P : Program}

theorem hkShift_inv {qe e sz : Nat} {args : List Value} {S S' : St} {v : Value} (h : hkShift qe e sz args S = .val v S') : ∃ q b bo n cs fz xs, args = [.pointer (some ⟨q, 0, none⟩)] ∧
    S.heap.get q = some (.cells [.slice (some ⟨b, bo, none⟩) 1 capU, .int .i64 n] qe false 0) ∧ S.heap.get b = some (.cells cs e true fz) ∧ takeL (dropL cs bo) sz = some xs ∧ fz ≤ bo ∧ oneCells xs = true ∧ q ≠ b ∧ v = undef ∧
    S' = ⟨((S.heap.del b).set q (.cells [.slice (some ⟨S.next, 0, none⟩) 0 capU, .int .i64 0] qe false 0)).set S.next (.cells [] e true 0), Nat.succ S.next⟩ := by
  unfold hkShift at h
  split at h
  · split at h
    · rename_i q _ b bo cap n qe' hq
      split at h
      · rename_i cs e' fz hb
        split at h
        · rename_i xs hxs
          have h1 := (cond_inv h (by simp)).1
          replace h := (cond_inv h (by simp)).2
          simp only [Bool.and_eq_true, Bool.not_eq_true'] at h1
          obtain ⟨e1, e2, e3, e4, e5, e6⟩ := h1
          have e1 := beq_nat e1
          have e2 := beq_nat e2
          have e3 := beq_nat e3
          subst e1 e2 e3
          rw [natK_eq] at h
          cases h
          refine ⟨_, _, _, _, _, _, _, rfl, hq, hb, hxs, ble_nat e4, e5, ?_, rfl, rfl⟩
          intro e
          rw [e, Nat.beq_refl] at e6
          cases e6
        · cases h
      · cases h
    · cases h
  · cases h

theorem topC_rel {ρ : Ren} : ∀ {l : List Value}, (∀ v ∈ l, v.oneCell' = true) → VRels ρ (topC l.length) l
  | [], _ => .nil
  | v :: l, h => .cons (.top 0 v (h v (by simp))) (topC_rel fun u hu => h u (by simp [hu]))

/-- The machine's memory behind a shift, told by the queue's own. -/
theorem shift_join {qe e sz q b bo fz : Nat} {n : Int} {cs : List Value} {ρ ρ' ρ0 : Ren} {S Sx : St} {w w' : World} {Lq Lb L1 L2 : Loc} (hg : Gam P ρ S w) (hfr : ρ S.next = none)
    (hq : S.heap.get q = some (.cells [.slice (some ⟨b, bo, none⟩) 1 capU, .int .i64 n] qe false 0)) (hb : S.heap.get b = some (.cells cs e true fz)) (hne : q ≠ b) (hLq : ρ q = some Lq) (hLb : ρ b = some Lb)
    (hρ0 : ρ0 0 = some Lq) (hρ1 : ρ0 1 = some L1) (h1b : L1.blk = Lb.blk) (hS0 : ∀ x o, (S0 qe e sz).heap.get x = some o → x = 0 ∨ x = 1)
    (hev : Evo P ρ0 (S0 qe e sz) w ρ' Sx w')
    (hx0 : ∃ vv, Sx.heap.get 0 = some (.cells [vv, .int .i64 0] qe false 0) ∧ ∀ sv', VRel ρ' vv sv' → VRel (upd ρ S.next L2) (.slice (some ⟨S.next, 0, none⟩) 0 capU) sv')
    (hL2 : ORel P (upd ρ S.next L2) L2 (.cells [] e true 0) w'.heap) (h2 : L2.blk = Lb.blk ∨ w.heap.size ≤ L2.blk) :
    Evo P ρ S w (upd ρ S.next L2) ⟨((S.heap.del b).set q (.cells [.slice (some ⟨S.next, 0, none⟩) 0 capU, .int .i64 0] qe false 0)).set S.next (.cells [] e true 0), Nat.succ S.next⟩ w' := by
  have hget : ∀ x, (((S.heap.del b).set q (.cells [.slice (some ⟨S.next, 0, none⟩) 0 capU, .int .i64 0] qe false 0)).set S.next (.cells [] e true 0)).get x =
      if x = S.next then some (.cells [] e true 0) else if x = q then some (.cells [.slice (some ⟨S.next, 0, none⟩) 0 capU, .int .i64 0] qe false 0) else if x = b then none else S.heap.get x := fun x => by
    rw [Tr.get_set_if, Tr.get_set_if]
    by_cases e1 : x = S.next
    · simp [e1]
    · rw [if_neg e1, if_neg e1]
      by_cases e2 : x = q
      · simp [e2]
      · rw [if_neg e2, if_neg e2]
        by_cases e3 : x = b
        · subst e3; rw [if_pos rfl, Tr.get_del]
        · rw [if_neg e3, Tr.get_del_ne _ e3]
  have hqn := hg.fresh _ _ hq
  have hbn := hg.fresh _ _ hb
  have himg : ∀ x o L, (S0 qe e sz).heap.get x = some o → ρ0 x = some L → L.blk = Lq.blk ∨ L.blk = Lb.blk := fun x o L h hL => by
    rcases hS0 x o h with rfl | rfl
    · rw [hρ0] at hL; cases hL; exact .inl rfl
    · rw [hρ1] at hL; cases hL; exact .inr h1b
  have hsame : ∀ k, k < w.heap.size → k ≠ Lq.blk → k ≠ Lb.blk → w'.heap[k]? = w.heap[k]? := fun k hk a1 a2 => hev.fr.same k hk fun x o L h hL e => by
    rcases himg x o L h hL with e1 | e1
    · exact a1 (e.symm.trans e1)
    · exact a2 (e.symm.trans e1)
  have hlt : ∀ x o L, S.heap.get x = some o → ρ x = some L → L.blk < w.heap.size := fun x o L h hL => by
    obtain ⟨M, m1, m2⟩ := hg.obj x o h
    rw [hL] at m1; cases m1
    exact m2.lt
  have hapart : ∀ x o L, S.heap.get x = some o → ρ x = some L → x ≠ q → x ≠ b → L.blk ≠ Lq.blk ∧ L.blk ≠ Lb.blk := fun x o L h hL a1 a2 =>
    ⟨fun e => a1 (hg.inj _ _ _ _ _ _ h hq hL hLq e), fun e => a2 (hg.inj _ _ _ _ _ _ h hb hL hLb e)⟩
  have hqb : Lq.blk ≠ Lb.blk := fun e => hne (hg.inj _ _ _ _ _ _ hq hb hLq hLb e)
  obtain ⟨vv, g0, gv⟩ := hx0
  obtain ⟨M, m1, m2⟩ := hev.gam.obj 0 _ g0
  rw [hev.ext.1 _ _ hρ0] at m1
  cases m1
  obtain ⟨cq, lo, hi, c1, c2, c3, c4, c5⟩ := m2
  refine ⟨⟨sub_upd hfr, fun x hx hx' => ?_⟩, ⟨fun x o hx => ?_, fun x x' o o' L L' hx hx' hL hL' e => ?_, fun x o hx => ?_⟩, ⟨hev.fr.size, fun k hk hn => ?_, fun x o L hx hL => ?_, hev.fr.tape, hev.fr.os, hev.fr.output⟩⟩
  · by_cases e1 : x = S.next
    · subst e1; exact ⟨Nat.le_refl _, Nat.lt_succ_self _⟩
    · rw [upd_ne _ _ e1] at hx'; exact absurd hx hx'
  · simp only [hget] at hx
    split at hx
    · rename_i e1
      subst e1; cases hx
      exact ⟨L2, upd_same _ _ _, hL2⟩
    · rename_i e1
      split at hx
      · rename_i e2
        subst e2; cases hx
        refine ⟨Lq, by rw [upd_ne _ _ e1]; exact hLq, cq, lo, hi, c1, fun i v hi => ?_, c3, (fun h => by cases h), c5⟩
        match i with
        | 0 =>
          simp at hi
          subst hi
          obtain ⟨v', d1, d2⟩ := c2 0 vv rfl
          exact ⟨v', d1, gv v' d2⟩
        | 1 =>
          simp at hi
          subst hi
          obtain ⟨v', d1, d2⟩ := c2 1 _ rfl
          cases d2
          exact ⟨_, d1, .int _ _⟩
        | i + 2 => simp at hi
      · rename_i e2
        split at hx
        · cases hx
        · rename_i e3
          obtain ⟨L, l1, l2⟩ := hg.obj x o hx
          obtain ⟨a1, a2⟩ := hapart x o L hx l1 e2 e3
          exact ⟨L, by rw [upd_ne _ _ e1]; exact l1, l2.mono (sub_upd hfr) (hsame _ l2.lt a1 a2)⟩
  · -- apart
    have key : ∀ y p K, S.heap.get y = some p → ρ y = some K → y ≠ b → K.blk ≠ L2.blk := fun y p K hy hK hyb e => by
      rcases h2 with h2 | h2
      · exact hyb (hg.inj _ _ _ _ _ _ hy hb hK hLb (e.trans h2))
      · have := hlt y p K hy hK
        omega
    have old : ∀ y p K, (if y = q then some (AObj.cells [.slice (some ⟨S.next, 0, none⟩) 0 capU, .int .i64 0] qe false 0) else if y = b then none else S.heap.get y) = some p → ρ y = some K → y ≠ b ∧ ∃ p', S.heap.get y = some p' := fun y p K hy hK => by
      split at hy
      · rename_i e1; subst e1; exact ⟨hne, _, hq⟩
      · split at hy
        · cases hy
        · rename_i e2; exact ⟨e2, _, hy⟩
    simp only [hget] at hx hx'
    split at hx
    · rename_i e1
      split at hx'
      · rename_i e2; omega
      · rename_i e2
        subst e1
        rw [upd_same] at hL; cases hL
        rw [upd_ne _ _ e2] at hL'
        obtain ⟨k1, p', k2⟩ := old x' o' L' hx' hL'
        exact absurd e.symm (key x' p' L' k2 hL' k1)
    · rename_i e1
      rw [upd_ne _ _ e1] at hL
      obtain ⟨k1, p1, k2⟩ := old x o L hx hL
      split at hx'
      · rename_i e2
        subst e2
        rw [upd_same] at hL'; cases hL'
        exact absurd e (key x p1 L k2 hL k1)
      · rename_i e2
        rw [upd_ne _ _ e2] at hL'
        obtain ⟨k3, p2, k4⟩ := old x' o' L' hx' hL'
        exact hg.inj _ _ _ _ _ _ k2 k4 hL hL' e
  · simp only [hget] at hx
    split at hx
    · rename_i e1; subst e1; exact Nat.lt_succ_self _
    · split at hx
      · rename_i e2; subst e2; exact Nat.lt_succ_of_lt hqn
      · split at hx
        · cases hx
        · exact Nat.lt_succ_of_lt (hg.fresh _ _ hx)
  · exact hsame k hk (fun e => hn q _ Lq hq hLq e.symm) (fun e => hn b _ Lb hb hLb e.symm)
  · simp only [hget] at hx
    split at hx
    · rename_i e1
      subst e1
      rw [upd_same] at hL; cases hL
      rcases h2 with h2 | h2
      · exact .inr ⟨b, _, Lb, hb, hLb, h2.symm⟩
      · exact .inl h2
    · rename_i e1
      rw [upd_ne _ _ e1] at hL
      split at hx
      · rename_i e2; subst e2; exact .inr ⟨x, _, L, hq, hL, rfl⟩
      · split at hx
        · cases hx
        · exact .inr ⟨x, o, L, hx, hL, rfl⟩

theorem slice_inv {ρ : Ren} {b o n c : Nat} {v' : Value} (h : VRel ρ (.slice (some ⟨b, o, none⟩) n c) v') : ∃ L, ρ b = some L ∧
    ((c ≠ capU ∧ v' = .slice (some ⟨L.blk, L.base + o, none⟩) n c) ∨ (c = capU ∧ ∃ c', v' = .slice (some ⟨L.blk, L.base + o, none⟩) n c' ∧ n ≤ c' ∧ L.base + o + c' * L.sz = L.fin) ∨
      (c = capU ∧ n = 0 ∧ ∃ a, v' = .slice (some a) 0 0 ∧ L.base + o = L.fin)) := by
  cases h with
  | sliceK _ _ _ _ L h hc => exact ⟨L, h, .inl ⟨hc, rfl⟩⟩
  | sliceU _ _ _ c' L h hn hf => exact ⟨L, h, .inr (.inl ⟨rfl, c', rfl, hn, hf⟩)⟩
  | sliceE _ _ a L h hf => exact ⟨L, h, .inr (.inr ⟨rfl, rfl, a, rfl, hf⟩)⟩

theorem oneCells_mem : ∀ {l : List Value} {v : Value}, oneCells l = true → v ∈ l → oneCells [v] = true
  | [], _, _, h => by cases h
  | x :: l, v, h, hv => by
    rcases List.mem_cons.1 hv with e | hv
    · subst e
      unfold oneCells at h ⊢
      split at h <;> first | cases h | rfl
    · refine oneCells_mem (l := l) ?_ hv
      unfold oneCells at h
      split at h <;> first | cases h | exact h

theorem s0_get (qe e sz x : Nat) : (S0 qe e sz).heap.get x = if x = 1 then some (.cells (topC sz) e true 0) else if x = 0 then some (.cells [.slice (some ⟨1, 0, none⟩) 1 capU, .complex .f64 0 0] qe false 0) else none := by
  unfold S0
  simp only [Tr.get_set_if, leaf_get]

theorem topC_get : ∀ {n i : Nat} {v : Value}, (topC n)[i]? = some v → i < n ∧ v = .chan (some 0)
  | 0, i, v, h => by simp [topC] at h
  | n + 1, 0, v, h => by simp [topC] at h; exact ⟨by omega, h.symm⟩
  | n + 1, i + 1, v, h => by
    simp [topC] at h
    obtain ⟨h1, h2⟩ := topC_get h
    exact ⟨by omega, h2⟩

theorem topC_length : ∀ n, (topC n).length = n
  | 0 => rfl
  | n + 1 => by simp [topC, topC_length n]

/-- The queue's own memory. -/
theorem s0_gam {qe e sz q b bo fz : Nat} {n : Int} {cs xs : List Value} {ρ : Ren} {S : St} {w : World} {Lq Lb : Loc} (hg : Gam P ρ S w)
    (hq : S.heap.get q = some (.cells [.slice (some ⟨b, bo, none⟩) 1 capU, .int .i64 n] qe false 0)) (hb : S.heap.get b = some (.cells cs e true fz)) (hx : takeL (dropL cs bo) sz = some xs) (hfz : fz ≤ bo) (h1 : oneCells xs = true)
    (hne : q ≠ b) (hLq : ρ q = some Lq) (hLb : ρ b = some Lb) (hsz : 1 ≤ sz) :
    Gam P (fun x => if x = 0 then some Lq else if x = 1 then some ⟨Lb.blk, Lb.base + bo, Lb.fin, Lb.sz⟩ else none) (S0 qe e sz) w := by
  have hqb : Lq.blk ≠ Lb.blk := fun e => hne (hg.inj _ _ _ _ _ _ hq hb hLq hLb e)
  obtain ⟨M, m1, m2⟩ := hg.obj q _ hq
  rw [hLq] at m1; cases m1
  obtain ⟨M, m1, m3⟩ := hg.obj b _ hb
  rw [hLb] at m1; cases m1
  obtain ⟨cq, lo, hi, c1, c2, c3, c4, c5⟩ := m2
  obtain ⟨cb, lo', hi', d1, d2, d3, d4, d5⟩ := m3
  rw [dropL_eq] at hx
  obtain ⟨x1, x2⟩ := takeL_some hx
  refine ⟨fun x o ho => ?_, fun x x' o o' L L' ho ho' hL hL' heq => ?_, fun x o ho => ?_⟩
  · rw [s0_get] at ho
    split at ho
    · rename_i ex
      subst ex
      cases ho
      refine ⟨⟨Lb.blk, Lb.base + bo, Lb.fin, Lb.sz⟩, rfl, cb, lo', hi', d1, fun i v hiv => ?_, (fun h => by cases h), fun _ => ?_, ?_⟩
      · obtain ⟨k1, rfl⟩ := topC_get hiv
        have hxi : xs[i]? = cs[bo + i]? := by
          rw [x2, List.getElem?_take_of_lt k1, List.getElem?_drop]
        have hlt : bo + i < cs.length := by
          rw [List.length_drop] at x1
          omega
        obtain ⟨v', f1, f2⟩ := d2 (bo + i) cs[bo + i] (by simp [hlt])
        refine ⟨v', by show cb[Lb.base + bo + i]? = _; rw [Nat.add_assoc]; exact f1, .top 0 v' ?_⟩
        have hm : cs[bo + i] ∈ xs := List.mem_of_getElem? (i := i) (by rw [hxi]; simp [hlt])
        exact oneCells_all (oneCells_mem h1 hm) (.cons f2 .nil) v' (by simp)
      · obtain ⟨g1, g2, g3⟩ := d4 rfl
        rw [topC_length]
        rw [List.length_drop] at x1
        refine ⟨g1, ?_, g3⟩
        show Lb.base + bo + sz ≤ Lb.fin
        omega
      · show hi' ≤ Lb.base + bo + 0
        omega
    · split at ho
      · rename_i ex
        subst ex
        cases ho
        refine ⟨Lq, rfl, cq, lo, hi, c1, fun i v hiv => ?_, fun _ => ⟨(c3 rfl).1, by have := (c3 rfl).2; simpa using this⟩, (fun h => by cases h), c5⟩
        match i with
        | 0 =>
          simp at hiv
          subst hiv
          obtain ⟨v', f1, f2⟩ := c2 0 _ rfl
          refine ⟨v', f1, ?_⟩
          obtain ⟨L, l1, l2⟩ := slice_inv f2
          rw [hLb] at l1; cases l1
          rcases l2 with ⟨l2, _⟩ | ⟨_, c', rfl, l3, l4⟩ | ⟨_, l3, _⟩
          · exact absurd rfl l2
          · exact .sliceU 1 0 1 c' ⟨Lb.blk, Lb.base + bo, Lb.fin, Lb.sz⟩ rfl l3 l4
          · omega
        | 1 =>
          simp at hiv
          subst hiv
          obtain ⟨v', f1, f2⟩ := c2 1 _ rfl
          cases f2
          exact ⟨_, f1, .unkI _ _ _ _⟩
        | i + 2 => simp at hiv
      · cases ho
  · have two : ∀ y p, (S0 qe e sz).heap.get y = some p → y = 0 ∨ y = 1 := fun y p h => by
      rw [s0_get] at h
      split at h
      · rename_i h1; exact .inr h1
      · split at h
        · rename_i h2; exact .inl h2
        · cases h
    rcases two x o ho with rfl | rfl <;> rcases two x' o' ho' with rfl | rfl
    · rfl
    · cases hL; cases hL'; exact absurd heq hqb
    · cases hL; cases hL'; exact absurd heq.symm hqb
    · rfl
  · rw [s0_get] at ho
    show x < 2
    split at ho
    · omega
    · split at ho
      · omega
      · cases ho

theorem okCR_inv {r : CR} {o : Out} {E : Tr Value} {D : List Deferred} {S : St} (h : okCR r = some (o, E, D, S)) : r = .ok o E D S := by
  cases r with
  | fail => cases h
  | ok o E D S => cases h; rfl

theorem isNrm_inv {o : Out} (h : isNrm o = true) : o = .normal := by cases o <;> first | rfl | cases h
theorem nilD_inv {D : List Deferred} (h : nilD D = true) : D = [] := by cases D <;> first | rfl | cases h

theorem isA_inv {qe e : Nat} {S : St} (h : isA qe e S = true) : S.heap.get 0 = some (.cells [.slice (some ⟨2, 0, none⟩) 0 0, .int .i64 0] qe false 0) ∧ (∃ c, S.heap.get 1 = some (.cells c e true 0)) ∧ S.heap.get 2 = some (.cells [] e false 0) := by
  unfold isA at h
  split at h
  · rename_i h0 h1 h2
    simp only [Bool.and_eq_true] at h
    obtain ⟨e1, e2, e3⟩ := h
    have e1 := beq_nat e1
    have e2 := beq_nat e2
    have e3 := beq_nat e3
    subst e1 e2
    rw [← e3] at h2
    exact ⟨h0, ⟨_, h1⟩, h2⟩
  · cases h

theorem isB_inv {qe e sz : Nat} {S : St} (h : isB qe e sz S = true) : S.heap.get 0 = some (.cells [.slice (some ⟨1, sz, none⟩) 0 capU, .int .i64 0] qe false 0) ∧ (∃ c, S.heap.get 1 = some (.cells c e true 0)) := by
  unfold isB at h
  split at h
  · rename_i h0 h1
    simp only [Bool.and_eq_true] at h
    obtain ⟨e1, e2, e3, e4⟩ := h
    have e1 := beq_nat e1
    have e2 := beq_nat e2
    have e3 := beq_nat e3
    have e4 := beq_nat e4
    subst e1 e2 e3 e4
    exact ⟨h0, ⟨_, h1⟩⟩
  · cases h

theorem FinTo.trans {fn : FuncId} {rnd : Bool} {nt : Nat} {S S1 S2 : St} {w : World} {ρ : Ren} {t : Array Value} {d : List Deferred} {E1 E2 : Tr Value} {D1 D2 : List Deferred} {at0 at1 at2 : List Item → List Item}
    (h : FinTo P fn rnd nt S w ρ t d E1 D1 S1 at0 at1) (hle : S.next ≤ S1.next) (hle2 : S1.next ≤ S2.next) (hf : Free ρ S.next S2.next)
    (h2 : ∀ {ρ w t d}, Gam P ρ S1 w → Free ρ S1.next S2.next → EnvRel ρ nt E1 t → DRels ρ D1 d → FinTo P fn rnd nt S1 w ρ t d E2 D2 S2 at1 at2) : FinTo P fn rnd nt S w ρ t d E2 D2 S2 at0 at2 := by
  obtain ⟨ρ1, t1, d1, w1, e1, m1⟩ := h
  obtain ⟨ρ2, t2, d2, w2, e2, m2⟩ := h2 e1.evo.gam (hf.right hle e1.evo.ext) e1.env e1.dfr
  exact ⟨ρ2, t2, d2, w2, ⟨e1.evo.trans e2.evo hle hle2, e2.env, e2.dfr⟩, fun k => (m1 k).trans (m2 k)⟩

theorem seq_inv {nt : Nat} {a b : Code} {E E' : Tr Value} {D D' : List Deferred} {S S' : St} (h : runC P nt (.seq a b) E D S = .ok .normal E' D' S') :
    ∃ E1 D1 S1, runC P nt a E D S = .ok .normal E1 D1 S1 ∧ runC P nt b E1 D1 S1 = .ok .normal E' D' S' := by
  unfold runC at h ⊢
  simp only [ecode] at h
  split at h
  · rename_i o E1 D1 S1 h1
    cases o with
    | normal => exact ⟨E1, D1, S1, h1, h⟩
    | exit i => cases h
    | goto l => cases h
    | ret => cases h
  · cases h

theorem callS0 : CallS P (acall P (fun _ => none) 0) := ⟨fun _ _ _ _ _ h => (by cases h), fun h => (by cases h), fun h => (by cases h)⟩

theorem runs_runC (hmx : P.follows .mixedOrders = true) (hz : ZeroOk P) {fn : FuncId} {nt : Nat} (c : Code) : RunsS P fn false nt (runC P nt c) (.code c :: ·) :=
  runs_ecode hmx hz callS0 (runs_again hmx hz callS0 0 0) 0 c

/-- One stretch of a row of them. -/
theorem seq_to (hmx : P.follows .mixedOrders = true) (hz : ZeroOk P) {fn : FuncId} {nt : Nat} {a x : Code} {E E1 : Tr Value} {D D1 : List Deferred} {S S1 : St} (h : runC P nt a E D S = .ok .normal E1 D1 S1) :
    S.next ≤ S1.next ∧ ∀ {ρ w t d}, Gam P ρ S w → Free ρ S.next S1.next → EnvRel ρ nt E t → DRels ρ D d → FinTo P fn false nt S w ρ t d E1 D1 S1 (.code (.seq a x) :: ·) (.code x :: ·) := by
  obtain ⟨l, hr⟩ := (runs_runC hmx hz (fn := fn) (nt := nt) a).run h
  refine ⟨l, fun hg hf he hd => ?_⟩
  obtain ⟨ρ', t', d', w', e1, m⟩ := (hr hg hf he hd).to (.code x :: ·)
  exact ⟨ρ', t', d', w', e1, fun k => mv_seq.trans (m k)⟩

theorem hkShift_ok (hmx : P.follows .mixedOrders = true) (hz : ZeroOk P) {f qe e sz : Nat} (hchk : shiftChk P f qe e sz = true) : HookOk P (hkShift qe e sz) f := by
  unfold shiftChk at hchk
  split at hchk
  · rename_i fn hfn
    have hfn : P.funcs[f]? = some fn := by simpa using hfn
    split at hchk
    · rename_i c hbody
      simp only [Bool.and_eq_true, Bool.not_eq_true', decide_eq_false_iff_not] at hchk
      obtain ⟨hnm, hnt, hce, hsz, hres, hcode⟩ := hchk
      have hce := beq_nat hce
      have hsz := ble_nat hsz
      have hnt := ble_nat hnt
      have hres : fn.results.toList = [] := by
        cases hh : fn.results.toList with
        | nil => rfl
        | cons x l => rw [hh] at hres; cases hres
      -- the code
      have key : ∃ Sa Sb, isA qe e Sa = true ∧ isB qe e sz Sb = true ∧ ∀ {ρ : Ren} {w : World} {t : Array Value}, Gam P ρ (S0 qe e sz) w → (∀ n, Free ρ 2 n) → EnvRel ρ fn.ntmps (argsE 0 [.pointer (some ⟨0, 0, none⟩)] .leaf) t →
          ∃ Sx Ex, (Sx = Sa ∨ Sx = Sb) ∧ (S0 qe e sz).next ≤ Sx.next ∧ Fin P f false fn.ntmps (S0 qe e sz) w ρ t [] .normal Ex [] Sx (.code c :: ·) := by
        unfold shiftCode at hcode
        split at hcode
        · rename_i r0 c1
          split at hcode
          · rename_i r1 c2
            split at hcode
            · rename_i r2 c3
              split at hcode
              · rename_i cc a b
                split at hcode
                · rename_i o E D S hr
                  simp only [Bool.and_eq_true] at hcode
                  obtain ⟨h1, h2, h3, h4, h5⟩ := hcode
                  have h1 := isNrm_inv h1
                  have h2 := nilD_inv h2
                  subst h1 h2
                  have hr := okCR_inv hr
                  obtain ⟨E1, D1, S1, g1, g2⟩ := seq_inv hr
                  obtain ⟨E2, D2, S2, g3, g4⟩ := seq_inv g2
                  split at h4
                  · rename_i oa Ea Da Sa hra
                    split at h5
                    · rename_i ob Eb Db Sb hrb
                      simp only [Bool.and_eq_true] at h4 h5
                      have a1 := isNrm_inv h4.1
                      have a2 := nilD_inv h4.2.1
                      have b1 := isNrm_inv h5.1
                      have b2 := nilD_inv h5.2.1
                      subst a1 a2 b1 b2
                      have hra := okCR_inv hra
                      have hrb := okCR_inv hrb
                      refine ⟨Sa, Sb, h4.2.2, h5.2.2, fun {ρ w t} hg hf he => ?_⟩
                      obtain ⟨l0, f0⟩ := seq_to (fn := f) (x := .seq r1 (.seq r2 (.cond cc a b))) hmx hz g1
                      obtain ⟨l1, f1⟩ := seq_to (fn := f) (x := .seq r2 (.cond cc a b)) hmx hz g3
                      obtain ⟨l2, f2⟩ := seq_to (fn := f) (x := .cond cc a b) hmx hz g4
                      obtain ⟨la, fa⟩ := (runs_runC hmx hz (fn := f) (nt := fn.ntmps) a).run hra
                      obtain ⟨lb, fb⟩ := (runs_runC hmx hz (fn := f) (nt := fn.ntmps) b).run hrb
                      have ft : FinTo P f false fn.ntmps (S0 qe e sz) w ρ t [] E [] S (.code (.seq r0 (.seq r1 (.seq r2 (.cond cc a b)))) :: ·) (.code (.cond cc a b) :: ·) :=
                        (f0 hg (hf _) he .nil).trans l0 (Nat.le_trans l1 l2) (hf _) fun hg hf he hd => (f1 hg (hf.left l2) he hd).trans l1 l2 hf f2
                      have l3 : (S0 qe e sz).next ≤ S.next := Nat.le_trans l0 (Nat.le_trans l1 l2)
                      obtain ⟨ρ1, t1, d1, w1, e1, m1⟩ := ft
                      have hcc : ∃ q, evT t1 cc = .bool q := by
                        unfold isChan at h3
                        split at h3
                        · rename_i hx
                          have := env_x e1.env cc _ hx
                          generalize evT t1 cc = y at this
                          cases this
                          exact ⟨_, rfl⟩
                        · cases h3
                      obtain ⟨q, hq⟩ := hcc
                      cases q with
                      | true =>
                        refine ⟨Sa, Ea, .inl rfl, Nat.le_trans l3 la, ?_⟩
                        obtain ⟨ρ2, t2, d2, w2, e2, m2⟩ := fa e1.evo.gam (Free.right (n := (S0 qe e sz).next) (hf _) l3 e1.evo.ext) e1.env e1.dfr
                        refine ⟨ρ2, t2, d2, w2, ⟨e1.evo.trans e2.evo l3 la, e2.env, e2.dfr⟩, fun k => ?_⟩
                        obtain ⟨k', s, mv⟩ := m2 k
                        exact ⟨k', s, (m1 k).trans ((mv_cond (q := true) hq).trans mv)⟩
                      | false =>
                        refine ⟨Sb, Eb, .inr rfl, Nat.le_trans l3 lb, ?_⟩
                        obtain ⟨ρ2, t2, d2, w2, e2, m2⟩ := fb e1.evo.gam (Free.right (n := (S0 qe e sz).next) (hf _) l3 e1.evo.ext) e1.env e1.dfr
                        refine ⟨ρ2, t2, d2, w2, ⟨e1.evo.trans e2.evo l3 lb, e2.env, e2.dfr⟩, fun k => ?_⟩
                        obtain ⟨k', s, mv⟩ := m2 k
                        exact ⟨k', s, (m1 k).trans ((mv_cond (q := false) hq).trans mv)⟩
                    · cases h5
                  · cases h4
                · cases hcode
              · cases hcode
            · cases hcode
          · cases hcode
        · cases hcode
      obtain ⟨Sa, Sb, hA, hB, hrun⟩ := key
      refine ⟨fun h => ?_, fun {args args' S S' v ρ w} h hg hf ha => ?_⟩
      · obtain ⟨_, _, _, _, _, _, _, _, _, _, _, _, _, _, _, rfl⟩ := hkShift_inv h
        exact Nat.le_succ _
      · obtain ⟨q, b, bo, n, cs, fz, xs, rfl, hq, hb, hx, hfz, h1, hne, rfl, rfl⟩ := hkShift_inv h
        obtain ⟨Lq, hLq, oq⟩ := hg.obj q _ hq
        obtain ⟨Lb, hLb, ob⟩ := hg.obj b _ hb
        have hg0 := s0_gam hg hq hb hx hfz h1 hne hLq hLb hsz
        generalize hρ0 : (fun x => if x = 0 then some Lq else if x = 1 then some (⟨Lb.blk, Lb.base + bo, Lb.fin, Lb.sz⟩ : Loc) else none : Ren) = ρ0 at hg0
        have r0 : ρ0 0 = some Lq := by rw [← hρ0]; rfl
        have r1 : ρ0 1 = some ⟨Lb.blk, Lb.base + bo, Lb.fin, Lb.sz⟩ := by rw [← hρ0]; rfl
        have rf : ∀ n, Free ρ0 2 n := fun n x hx _ => by
          rw [← hρ0]
          show (if x = 0 then some Lq else if x = 1 then _ else none) = none
          rw [if_neg (by omega), if_neg (by omega)]
        cases ha with
        | cons ha1 t =>
          cases t
          cases ha1 with
          | ptr _ _ L hL =>
            rw [hLq] at hL
            cases hL
            have hbase : Lq.base = 0 := by
              obtain ⟨cq, lo, hi, c1, c2, c3, c4, c5⟩ := oq
              exact (c3 rfl).1
            have harg : VRels ρ0 [.pointer (some ⟨0, 0, none⟩)] [.pointer (some ⟨Lq.blk, Lq.base + 0, none⟩)] := .cons (.ptr 0 0 Lq r0) .nil
            obtain ⟨Sx, Ex, hSx, hnx, hfin⟩ := hrun hg0 rf (env_enter harg hnt)
            obtain ⟨ρ', v', w', hbd, hev, hv⟩ := fin_body (v := undef) (l := []) callS0 (.inl rfl) hfin hnx (rf _) rfl (by rw [hres]; rfl) (.inr ⟨by simp, rfl⟩)
            have hfr : ρ S.next = none := hf _ (Nat.le_refl _) (Nat.lt_succ_self _)
            have hS0 : ∀ x o, (S0 qe e sz).heap.get x = some o → x = 0 ∨ x = 1 := fun x o h => by
              rw [s0_get] at h
              split at h
              · rename_i h1; exact .inr h1
              · split at h
                · rename_i h2; exact .inl h2
                · cases h
            cases hv with
            | tuple hvt =>
              cases hvt
              have done : ∀ (L2 : Loc), Evo P ρ S w (upd ρ S.next L2) ⟨((S.heap.del b).set q (.cells [.slice (some ⟨S.next, 0, none⟩) 0 capU, .int .i64 0] qe false 0)).set S.next (.cells [] e true 0), Nat.succ S.next⟩ w' →
                  ∃ ρ' v' w', FnRes P f ⟨[.pointer (some ⟨Lq.blk, Lq.base + 0, none⟩)]⟩ w v' w' ∧ Evo P ρ S w ρ' ⟨((S.heap.del b).set q (.cells [.slice (some ⟨S.next, 0, none⟩) 0 capU, .int .i64 0] qe false 0)).set S.next (.cells [] e true 0), Nat.succ S.next⟩ w' ∧ VRel ρ' undef v' :=
                fun L2 hE => ⟨_, _, _, body_fn hfn hbody hnm hbd, hE, undef_rel _⟩
              have hsx : isA qe e Sx = true ∨ isB qe e sz Sx = true := by
                rcases hSx with rfl | rfl
                · exact .inl hA
                · exact .inr hB
              have g1' := hev.ext.1 _ _ r1
              rcases hsx with hA | hB
              · obtain ⟨x0, ⟨c1, x1⟩, x2⟩ := isA_inv hA
                obtain ⟨L, l1, l2⟩ := hev.gam.obj 2 _ x2
                obtain ⟨cs2, lo, hi, k1, k2, k3, k4, k5⟩ := l2
                have hbz := (k3 rfl).1
                have hhi : hi ≤ 0 := by omega
                refine done ⟨L.blk, 0, 0, P.cellsOf e⟩ (shift_join (L2 := ⟨L.blk, 0, 0, P.cellsOf e⟩) hg hfr hq hb hne hLq hLb r0 r1 rfl hS0 hev ⟨_, x0, fun sv' hsv => ?_⟩ ?_ ?_)
                · obtain ⟨L', hL', hc⟩ := slice_inv hsv
                  rw [l1] at hL'; cases hL'
                  rcases hc with ⟨_, rfl⟩ | ⟨hc, _⟩ | ⟨hc, _⟩
                  · have := VRel.sliceU (ρ := upd ρ S.next ⟨L.blk, 0, 0, P.cellsOf e⟩) S.next 0 0 0 ⟨L.blk, 0, 0, P.cellsOf e⟩ (upd_same _ _ _) (Nat.le_refl _) (by simp)
                    rw [hbz]
                    exact this
                  · exact absurd hc (by decide)
                  · exact absurd hc (by decide)
                · exact ⟨cs2, lo, hi, k1, (fun i v h => by simp at h), (fun h => by cases h), (fun _ => ⟨rfl, Nat.le_refl _, Nat.zero_le _⟩), hhi⟩
                · right
                  rcases hev.fr.img 2 _ L x2 l1 with h | ⟨b0, o0, L0, h0, h0', h0''⟩
                  · exact h
                  · exfalso
                    have hin : ∃ o', Sx.heap.get b0 = some o' := by
                      rcases hS0 b0 o0 h0 with rfl | rfl
                      · exact ⟨_, x0⟩
                      · exact ⟨_, x1⟩
                    obtain ⟨o', ho'⟩ := hin
                    have := hev.gam.inj _ _ _ _ _ _ ho' x2 (hev.ext.1 _ _ h0') l1 h0''
                    rcases hS0 b0 o0 h0 with rfl | rfl <;> omega
              · obtain ⟨x0, ⟨c1, x1⟩⟩ := isB_inv hB
                obtain ⟨L, l1, l2⟩ := hev.gam.obj 1 _ x1
                rw [g1'] at l1; cases l1
                obtain ⟨cs2, lo, hi, k1, k2, k3, k4, k5⟩ := l2
                obtain ⟨M, m1, m2⟩ := hev.gam.obj 0 _ x0
                obtain ⟨cq, lo', hi', q1, q2, q3, q4, q5⟩ := m2
                obtain ⟨sv0, _, hsv0⟩ := q2 0 _ rfl
                have hfin2 : Lb.base + bo + sz ≤ Lb.fin := by
                  obtain ⟨L', hL', hc⟩ := slice_inv hsv0
                  rw [g1'] at hL'; cases hL'
                  rcases hc with ⟨hc, _⟩ | ⟨_, c', _, _, hc⟩ | ⟨_, _, a, _, hc⟩
                  · exact absurd rfl hc
                  · have hc : Lb.base + bo + sz + c' * Lb.sz = Lb.fin := hc
                    omega
                  · have hc : Lb.base + bo + sz = Lb.fin := hc
                    omega
                refine done ⟨Lb.blk, Lb.base + bo + sz, Lb.fin, Lb.sz⟩ (shift_join (L2 := ⟨Lb.blk, Lb.base + bo + sz, Lb.fin, Lb.sz⟩) hg hfr hq hb hne hLq hLb r0 r1 rfl hS0 hev ⟨_, x0, fun sv' hsv => ?_⟩ ?_ (.inl rfl))
                · obtain ⟨L', hL', hc⟩ := slice_inv hsv
                  rw [g1'] at hL'; cases hL'
                  rcases hc with ⟨hc, _⟩ | ⟨_, c', rfl, hn, hc⟩ | ⟨_, _, a, rfl, hc⟩
                  · exact absurd rfl hc
                  · exact .sliceU S.next 0 0 c' ⟨Lb.blk, Lb.base + bo + sz, Lb.fin, Lb.sz⟩ (upd_same _ _ _) hn hc
                  · exact .sliceE S.next 0 a ⟨Lb.blk, Lb.base + bo + sz, Lb.fin, Lb.sz⟩ (upd_same _ _ _) hc
                · obtain ⟨j1, j2, j3⟩ := k4 rfl
                  refine ⟨cs2, lo, hi, k1, (fun i v h => by simp at h), (fun h => by cases h), (fun _ => ⟨j1, ?_, j3⟩), ?_⟩
                  · show Lb.base + bo + sz + 0 ≤ Lb.fin
                    omega
                  · have k5 : hi ≤ Lb.base + bo + 0 := k5
                    show hi ≤ Lb.base + bo + sz + 0
                    omega
    · cases hchk
  · cases hchk

end

section
/-- No function is the run-time system's own count of goroutines. -/
def noNG (P : Program) : Bool := P.funcs.toList.all fun f => !decide (f.name = "runtime.NumGoroutine")

theorem noNG_of {P : Program} (h : noNG P = true) : ∀ (f : FuncId) fn, P.funcs[f]? = some fn → fn.name ≠ "runtime.NumGoroutine" := by
  intro f fn hf
  have hm : fn ∈ P.funcs.toList := Array.mem_toList_iff.2 (Array.mem_of_getElem? hf)
  have := (List.all_eq_true.1 h) fn hm
  simpa using this

def retT (r : OR) : Bool := match r with
  | .val (.bool true) _ => true
  | _ => false

theorem retT_inv {r : OR} (h : retT r = true) : ∃ S, r = .val (.bool true) S := by
  unfold retT at h
  split at h
  · exact ⟨_, rfl⟩
  · cases h

end
end Go.Eng
