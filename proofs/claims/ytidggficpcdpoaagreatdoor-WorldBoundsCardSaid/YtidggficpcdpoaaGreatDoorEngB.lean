/- What abstract memory says of the machine's memory; memory that is made and written. -/
import Derived.Test.YtidggficpcdpoaaGreatDoorEngA
import Derived.Calls
import Derived.Laws.Sem
import Derived.Laws.World
import Derived.Laws.Cells

/- The engine, part 2: laws of its trees and lists. -/
namespace Go.Eng

theorem natK_eq {α : Type} (n : Nat) (k : Nat → α) : natK n k = k n := by cases n <;> rfl
theorem intK_eq {α : Type} (n : Int) (k : Int → α) : intK n k = k n := by
  cases n with
  | ofNat m => exact natK_eq m fun m => k (.ofNat m)
  | negSucc m => exact natK_eq m fun m => k (.negSucc m)

/-- The number of a way. -/
def decP : List Dg → Nat
  | [] => 0
  | x :: l => 4 * decP l + (match x with | .a => 1 | .b => 2 | .c => 3 | .d => 4)

theorem decP_pathF : ∀ (f i : Nat), i < f → decP (pathF f i) = i := by
  intro f
  induction f with
  | zero => intro i h; omega
  | succ f ih =>
    intro i h
    cases i with
    | zero => rfl
    | succ i =>
      have e : pathF (f + 1) (i + 1) = dgOf (i % 4) :: pathF f (i / 4) := rfl
      rw [e]
      have e2 : decP (dgOf (i % 4) :: pathF f (i / 4)) = 4 * decP (pathF f (i / 4)) + (match dgOf (i % 4) with | .a => 1 | .b => 2 | .c => 3 | .d => 4) := rfl
      rw [e2, ih (i / 4) (by omega)]
      have h4 : i % 4 = 0 ∨ i % 4 = 1 ∨ i % 4 = 2 ∨ i % 4 = 3 := by omega
      rcases h4 with h | h | h | h <;> rw [h] <;> simp only [dgOf] <;> omega

theorem decP_pathOf (i : Nat) : decP (pathOf i) = i := decP_pathF _ _ (by omega)

theorem pathOf_inj {i j : Nat} (h : pathOf i = pathOf j) : i = j := by
  rw [← decP_pathOf i, h, decP_pathOf]

theorem getP_leaf {α : Type} (l : List Dg) : (getP l).run (.leaf : Tr α) = none := by
  cases l with
  | nil => rfl
  | cons x l => cases x <;> rfl

theorem getP_setP {α : Type} (v : α) : ∀ (l : List Dg) (t : Tr α), (getP l).run ((setP l).run v t) = some v := by
  intro l
  induction l with
  | nil => intro t; cases t <;> rfl
  | cons x l ih => intro t; cases x <;> cases t <;> exact ih _

theorem getP_setP_ne {α : Type} (v : α) : ∀ (l m : List Dg) (t : Tr α), m ≠ l → (getP m).run ((setP l).run v t) = (getP m).run t := by
  intro l
  induction l with
  | nil =>
    intro m t h
    cases m with
    | nil => exact absurd rfl h
    | cons y m => cases y <;> cases t <;> first | rfl | exact (getP_leaf m)
  | cons x l ih =>
    intro m t h
    cases m with
    | nil => cases x <;> cases t <;> rfl
    | cons y m =>
      by_cases hxy : y = x
      · subst hxy
        have hm : m ≠ l := fun e => h (by rw [e])
        cases y <;> cases t <;> first | exact ih m _ hm | (exact (ih m .leaf hm).trans (getP_leaf m))
      · cases x <;> cases y <;> first | exact absurd rfl hxy | (cases t <;> first | rfl | exact (getP_leaf m))

theorem getP_delP {α : Type} : ∀ (l : List Dg) (t : Tr α), (getP l).run ((delP l).run t) = none := by
  intro l
  induction l with
  | nil => intro t; cases t <;> rfl
  | cons x l ih => intro t; cases x <;> cases t <;> first | exact ih _ | exact getP_leaf _

theorem getP_delP_ne {α : Type} : ∀ (l m : List Dg) (t : Tr α), m ≠ l → (getP m).run ((delP l).run t) = (getP m).run t := by
  intro l
  induction l with
  | nil =>
    intro m t h
    cases m with
    | nil => exact absurd rfl h
    | cons y m => cases y <;> cases t <;> rfl
  | cons x l ih =>
    intro m t h
    cases m with
    | nil => cases x <;> cases t <;> rfl
    | cons y m =>
      by_cases hxy : y = x
      · subst hxy
        have hm : m ≠ l := fun e => h (by rw [e])
        cases y <;> cases t <;> first | exact ih m _ hm | rfl
      · cases x <;> cases y <;> first | exact absurd rfl hxy | (cases t <;> rfl)

theorem Tr.get_set {α : Type} (t : Tr α) (i : Nat) (v : α) : (t.set i v).get i = some v := getP_setP v _ t
theorem Tr.get_set_ne {α : Type} (t : Tr α) {i j : Nat} (v : α) (h : j ≠ i) : (t.set i v).get j = t.get j :=
  getP_setP_ne v _ _ t fun e => h (pathOf_inj e)
theorem Tr.get_del {α : Type} (t : Tr α) (i : Nat) : (t.del i).get i = none := getP_delP _ t
theorem Tr.get_del_ne {α : Type} (t : Tr α) {i j : Nat} (h : j ≠ i) : (t.del i).get j = t.get j :=
  getP_delP_ne _ _ t fun e => h (pathOf_inj e)
theorem Tr.get_leaf {α : Type} (i : Nat) : (Tr.leaf : Tr α).get i = none := getP_leaf _

theorem Tr.get_set_if {α : Type} (t : Tr α) (i j : Nat) (v : α) : (t.set i v).get j = if j = i then some v else t.get j := by
  by_cases h : j = i
  · subst h; rw [if_pos rfl, Tr.get_set]
  · rw [if_neg h, Tr.get_set_ne _ _ h]

/-! Lists. -/

theorem nth_eq {α : Type} : ∀ (i : Nat) (l : List α), nth l i = l[i]? := by
  intro i
  induction i with
  | zero => intro l; cases l <;> rfl
  | succ i ih => intro l; cases l with
    | nil => rfl
    | cons x l => exact ih l

theorem dropL_eq {α : Type} : ∀ (i : Nat) (l : List α), dropL l i = l.drop i := by
  intro i
  induction i with
  | zero => intro l; rfl
  | succ i ih => intro l; cases l with
    | nil => rfl
    | cons x l => exact ih l

theorem takeL_eq {α : Type} : ∀ (n : Nat) (l : List α), takeL l n = if n ≤ l.length then some (l.take n) else none := by
  intro n
  induction n with
  | zero => intro l; cases l <;> rfl
  | succ n ih =>
    intro l
    cases l with
    | nil => rfl
    | cons x l =>
      have e : takeL (x :: l) (n + 1) = Option.rec (motive := fun _ => Option (List α)) none (fun t => some (x :: t)) (takeL l n) := rfl
      rw [e, ih l]
      by_cases h : n ≤ l.length
      · rw [if_pos h, if_pos (by simpa using h)]; rfl
      · rw [if_neg h, if_neg (by simpa using h)]

theorem takeL_some {α : Type} {n : Nat} {l r : List α} (h : takeL l n = some r) : n ≤ l.length ∧ r = l.take n := by
  rw [takeL_eq] at h
  split at h
  · rename_i hn; exact ⟨hn, by simpa using h.symm⟩
  · cases h

theorem lenL_eq {α : Type} : ∀ (l : List α), lenL l = l.length := by
  intro l
  induction l with
  | nil => rfl
  | cons x l ih => exact congrArg (· + 1) ih

theorem overL_eq : ∀ (xs l : List Value), overL xs l = if xs.length ≤ l.length then some (xs ++ l.drop xs.length) else none := by
  intro xs
  induction xs with
  | nil => intro l; simp [overL]
  | cons x xs ih =>
    intro l
    cases l with
    | nil => rfl
    | cons y l =>
      have e : overL (x :: xs) (y :: l) = Option.rec (motive := fun _ => Option (List Value)) none (fun t => some (x :: t)) (overL xs l) := rfl
      rw [e, ih l]
      by_cases h : xs.length ≤ l.length
      · rw [if_pos h, if_pos (by simpa using h)]; simp
      · rw [if_neg h, if_neg (by simpa using h)]

theorem putL_eq : ∀ (o : Nat) (l xs : List Value), putL l o xs = if o + xs.length ≤ l.length then some (l.take o ++ (xs ++ l.drop (o + xs.length))) else none := by
  intro o
  induction o with
  | zero =>
    intro l xs
    have e : putL l 0 xs = overL xs l := rfl
    rw [e, overL_eq]; simp
  | succ o ih =>
    intro l xs
    cases l with
    | nil =>
      have e : putL [] (o + 1) xs = none := rfl
      rw [e, if_neg (by simp)]
    | cons y l =>
      have e : putL (y :: l) (o + 1) xs = Option.rec (motive := fun _ => Option (List Value)) none (fun t => some (y :: t)) (putL l o xs) := rfl
      rw [e, ih l]
      by_cases h : o + xs.length ≤ l.length
      · rw [if_pos h, if_pos (by simp; omega)]
        have : o + 1 + xs.length = (o + xs.length) + 1 := by omega
        simp [this]
      · rw [if_neg h, if_neg (by simp; omega)]

/-- What stands in a list that was written over. -/
theorem putL_spec {l xs r : List Value} {o : Nat} (h : putL l o xs = some r) :
    o + xs.length ≤ l.length ∧ r.length = l.length ∧ ∀ i, r[i]? = if o ≤ i ∧ i < o + xs.length then xs[i - o]? else l[i]? := by
  rw [putL_eq] at h
  split at h
  case isFalse => cases h
  case isTrue hle =>
    have hr : r = l.take o ++ (xs ++ l.drop (o + xs.length)) := by simpa using h.symm
    subst hr
    refine ⟨hle, by simp; omega, fun i => ?_⟩
    by_cases h1 : i < o
    · rw [if_neg (by omega), List.getElem?_append_left (by simp; omega), List.getElem?_take_of_lt h1]
    · have hto : (l.take o).length = o := by simp; omega
      rw [List.getElem?_append_right (by rw [hto]; omega), hto]
      by_cases h2 : i < o + xs.length
      · rw [if_pos ⟨by omega, h2⟩, List.getElem?_append_left (by omega)]
      · rw [if_neg (by omega), List.getElem?_append_right (by omega), List.getElem?_drop]
        congr 1; omega

end Go.Eng

/- The engine, part 3: what abstract memory says of the machine's memory. -/
namespace Go.Eng

/-- Where an abstract block lies: a block, the place of its cell 0, its end (of an open one), the cells of an element. -/
structure Loc where
  blk : Nat
  base : Nat
  fin : Nat
  sz : Nat

abbrev Ren := Nat → Option Loc

mutual
inductive VRel (ρ : Ren) : Value → Value → Prop
  | bool (b : Bool) : VRel ρ (.bool b) (.bool b)
  | int (k : IntKind) (n : Int) : VRel ρ (.int k n) (.int k n)
  | float (k : FloatKind) (n : Nat) : VRel ρ (.float k n) (.float k n)
  | string (s : ByteArray) : VRel ρ (.string s) (.string s)
  | unkI (k : FloatKind) (a b : Nat) (n : Int) : VRel ρ (.complex k a b) (.int .i64 n)
  | unkB (b : Bool) : VRel ρ (.chan none) (.bool b)
  | top (r : Nat) (v : Value) (h : v.oneCell' = true) : VRel ρ (.chan (some r)) v
  | nilp : VRel ρ (.pointer none) (.pointer none)
  | ptr (b o : Nat) (L : Loc) (h : ρ b = some L) : VRel ρ (.pointer (some ⟨b, o, none⟩)) (.pointer (some ⟨L.blk, L.base + o, none⟩))
  | nils (n c : Nat) : VRel ρ (.slice none n c) (.slice none n c)
  | sliceK (b o n c : Nat) (L : Loc) (h : ρ b = some L) (hc : c ≠ capU) : VRel ρ (.slice (some ⟨b, o, none⟩) n c) (.slice (some ⟨L.blk, L.base + o, none⟩) n c)
  | sliceU (b o n c : Nat) (L : Loc) (h : ρ b = some L) (hn : n ≤ c) (hf : L.base + o + c * L.sz = L.fin) : VRel ρ (.slice (some ⟨b, o, none⟩) n capU) (.slice (some ⟨L.blk, L.base + o, none⟩) n c)
  | sliceE (b o : Nat) (a : Addr) (L : Loc) (h : ρ b = some L) (hf : L.base + o = L.fin) : VRel ρ (.slice (some ⟨b, o, none⟩) 0 capU) (.slice (some a) 0 0)
  | nilm : VRel ρ (.map none) (.map none)
  | map (b : Nat) (L : Loc) (h : ρ b = some L) : VRel ρ (.map (some b)) (.map (some L.blk))
  | func (f : FuncId) {a a' c c' : List Value} (h : VRels ρ a a') (hc : VRels ρ c c') : VRel ρ (.func (.func f) ⟨a⟩ ⟨c⟩) (.func (.func f) ⟨a'⟩ ⟨c'⟩)
  | yield (l : Nat) (L : Loc) (h : ρ l = some L) : VRel ρ (.func (.yield l) ⟨[]⟩ ⟨[]⟩) (.func (.yield L.blk) ⟨[]⟩ ⟨[]⟩)
  | nilFunc : VRel ρ .nilFunc .nilFunc
  | nilIface : VRel ρ .nilIface .nilIface
  | iface (t : TypeId) {v v' : Value} (h : VRel ρ v v') : VRel ρ (.iface t v) (.iface t v')
  | agg {a a' : List Value} (h : VRels ρ a a') : VRel ρ (.agg ⟨a⟩) (.agg ⟨a'⟩)
  | tuple {a a' : List Value} (h : VRels ρ a a') : VRel ρ (.tuple ⟨a⟩) (.tuple ⟨a'⟩)
inductive VRels (ρ : Ren) : List Value → List Value → Prop
  | nil : VRels ρ [] []
  | cons {v v' : Value} {l l' : List Value} (h : VRel ρ v v') (t : VRels ρ l l') : VRels ρ (v :: l) (v' :: l')
end

/-- One more is known. -/
def Sub (ρ ρ' : Ren) : Prop := ∀ b L, ρ b = some L → ρ' b = some L

theorem Sub.refl (ρ : Ren) : Sub ρ ρ := fun _ _ h => h
theorem Sub.trans {ρ ρ' ρ'' : Ren} (h : Sub ρ ρ') (h' : Sub ρ' ρ'') : Sub ρ ρ'' := fun b L e => h' b L (h b L e)

mutual
theorem VRel.mono {ρ ρ' : Ren} (hs : Sub ρ ρ') : ∀ {v v' : Value}, VRel ρ v v' → VRel ρ' v v'
  | _, _, .bool b => .bool b
  | _, _, .int k n => .int k n
  | _, _, .float k n => .float k n
  | _, _, .string s => .string s
  | _, _, .unkI k a b n => .unkI k a b n
  | _, _, .unkB b => .unkB b
  | _, _, .top r v h => .top r v h
  | _, _, .nilp => .nilp
  | _, _, .ptr b o L h => .ptr b o L (hs _ _ h)
  | _, _, .nils n c => .nils n c
  | _, _, .sliceK b o n c L h hc => .sliceK b o n c L (hs _ _ h) hc
  | _, _, .sliceU b o n c L h hn hf => .sliceU b o n c L (hs _ _ h) hn hf
  | _, _, .sliceE b o a L h hf => .sliceE b o a L (hs _ _ h) hf
  | _, _, .nilm => .nilm
  | _, _, .map b L h => .map b L (hs _ _ h)
  | _, _, .func f h hc => .func f (h.mono hs) (hc.mono hs)
  | _, _, .yield l L h => .yield l L (hs _ _ h)
  | _, _, .nilFunc => .nilFunc
  | _, _, .nilIface => .nilIface
  | _, _, .iface t h => .iface t (h.mono hs)
  | _, _, .agg h => .agg (h.mono hs)
  | _, _, .tuple h => .tuple (h.mono hs)
theorem VRels.mono {ρ ρ' : Ren} (hs : Sub ρ ρ') : ∀ {l l' : List Value}, VRels ρ l l' → VRels ρ' l l'
  | _, _, .nil => .nil
  | _, _, .cons h t => .cons (h.mono hs) (t.mono hs)
end

theorem VRels.length {ρ : Ren} : ∀ {l l' : List Value}, VRels ρ l l' → l'.length = l.length
  | _, _, .nil => rfl
  | _, _, .cons _ t => congrArg (· + 1) t.length

theorem VRels.get {ρ : Ren} : ∀ {l l' : List Value}, VRels ρ l l' → ∀ (i : Nat) (v : Value), l[i]? = some v → ∃ v', l'[i]? = some v' ∧ VRel ρ v v'
  | _, _, .nil, i, v, h => by simp at h
  | _, _, .cons hv t, 0, v, h => by simp at h; subst h; exact ⟨_, rfl, hv⟩
  | _, _, .cons hv t, i + 1, v, h => by simp at h ⊢; exact t.get i v h

theorem VRels.of_get {ρ : Ren} : ∀ {l l' : List Value}, l'.length = l.length → (∀ (i : Nat) (v : Value), l[i]? = some v → ∃ v', l'[i]? = some v' ∧ VRel ρ v v') → VRels ρ l l'
  | [], [], _, _ => .nil
  | [], _ :: _, h, _ => by simp at h
  | _ :: _, [], h, _ => by simp at h
  | v :: l, v' :: l', h, hg => by
    obtain ⟨u, hu, hr⟩ := hg 0 v rfl
    simp at hu; subst hu
    exact .cons hr (VRels.of_get (by simpa using h) fun i v hi => by simpa using hg (i + 1) v (by simpa using hi))

theorem VRels.append {ρ : Ren} : ∀ {l l' m m' : List Value}, VRels ρ l l' → VRels ρ m m' → VRels ρ (l ++ m) (l' ++ m')
  | _, _, _, _, .nil, h => h
  | _, _, _, _, .cons hv t, h => .cons hv (t.append h)

theorem VRels.take {ρ : Ren} : ∀ {l l' : List Value} (n : Nat), VRels ρ l l' → VRels ρ (l.take n) (l'.take n)
  | _, _, 0, _ => by simpa using VRels.nil
  | _, _, _ + 1, .nil => .nil
  | _, _, n + 1, .cons hv t => .cons hv (t.take n)

theorem VRels.drop {ρ : Ren} : ∀ {l l' : List Value} (n : Nat), VRels ρ l l' → VRels ρ (l.drop n) (l'.drop n)
  | _, _, 0, h => h
  | _, _, _ + 1, .nil => .nil
  | _, _, n + 1, .cons _ t => t.drop n

/-- A value that is one for all. -/
theorem VRels.of_all {ρ : Ren} : ∀ {l : List Value}, (∀ v ∈ l, VRel ρ v v) → VRels ρ l l
  | [], _ => .nil
  | v :: l, h => .cons (h v (by simp)) (VRels.of_all fun u hu => h u (by simp [hu]))

theorem closedV_rel {ρ : Ren} {v : Value} (h : closedV v = true) : VRel ρ v v := by
  have one : ∀ u : Value, (match u with
      | .bool _ | .int _ _ | .string _ | .float _ _ | .nilFunc | .nilIface => true
      | .pointer none | .slice none _ _ | .map none => true
      | _ => false) = true → VRel ρ u u := by
    intro u hu
    cases u with
    | bool b => exact .bool b
    | int k n => exact .int k n
    | float k n => exact .float k n
    | string s => exact .string s
    | nilFunc => exact .nilFunc
    | nilIface => exact .nilIface
    | pointer a => cases a with
      | none => exact .nilp
      | some a => cases hu
    | slice a n c => cases a with
      | none => exact .nils n c
      | some a => cases hu
    | map a => cases a with
      | none => exact .nilm
      | some a => cases hu
    | _ => cases hu
  cases v with
  | agg cs =>
    obtain ⟨l⟩ := cs
    refine .agg (VRels.of_all fun u hu => one u ?_)
    exact (List.all_eq_true.1 h) u hu
  | tuple cs =>
    obtain ⟨l⟩ := cs
    cases l with
    | nil => exact .tuple .nil
    | cons x l => cases h
  | bool b => exact .bool b
  | int k n => exact .int k n
  | float k n => exact .float k n
  | string s => exact .string s
  | nilFunc => exact .nilFunc
  | nilIface => exact .nilIface
  | pointer a => cases a with
    | none => exact .nilp
    | some a => cases h
  | slice a n c => cases a with
    | none => exact .nils n c
    | some a => cases h
  | map a => cases a with
    | none => exact .nilm
    | some a => cases h
  | _ => cases h

theorem undef_rel (ρ : Ren) : VRel ρ undef undef := .tuple .nil

/-! Memory. -/

inductive ERels (ρ : Ren) : List MapEntry → List MapEntry → Prop
  | nil : ERels ρ [] []
  | cons {e e' : MapEntry} {l l' : List MapEntry} (hk : VRel ρ e.key e'.key) (hv : VRel ρ e.val e'.val) (hb : e'.born = e.born) (t : ERels ρ l l') : ERels ρ (e :: l) (e' :: l')

theorem ERels.mono {ρ ρ' : Ren} (hs : Sub ρ ρ') : ∀ {l l' : List MapEntry}, ERels ρ l l' → ERels ρ' l l'
  | _, _, .nil => .nil
  | _, _, .cons hk hv hb t => .cons (hk.mono hs) (hv.mono hs) hb (t.mono hs)

/-- Temporaries. -/
def EnvRel (ρ : Ren) (nt : Nat) (E : Tr Value) (tmps : Array Value) : Prop :=
  tmps.size = nt ∧ ∀ t, VRel ρ ((E.get t).getD undef) (tmps.getD t undef)

theorem EnvRel.mono {ρ ρ' : Ren} (hs : Sub ρ ρ') {nt : Nat} {E : Tr Value} {tmps : Array Value} (h : EnvRel ρ nt E tmps) : EnvRel ρ' nt E tmps :=
  ⟨h.1, fun t => (h.2 t).mono hs⟩

theorem EnvRel.set {ρ : Ren} {nt : Nat} {E : Tr Value} {tmps : Array Value} (h : EnvRel ρ nt E tmps) {d : Nat} (hd : d < nt) {v v' : Value} (hv : VRel ρ v v') :
    EnvRel ρ nt (E.set d v) (tmps.setIfInBounds d v') := by
  obtain ⟨h1, h2⟩ := h
  refine ⟨by simp [h1], fun t => ?_⟩
  rw [Tr.get_set_if]
  by_cases ht : t = d
  · subst ht; simp [h1, hd, Array.getD_eq_getD_getElem?]; exact hv
  · have := h2 t
    rw [if_neg ht]
    have e : (tmps.setIfInBounds d v').getD t undef = tmps.getD t undef := by
      simp only [Array.getD_eq_getD_getElem?]
      rw [Array.getElem?_setIfInBounds_ne (by omega)]
    rw [e]; exact this

theorem EnvRel.put {ρ : Ren} {nt : Nat} {E : Tr Value} {tmps : Array Value} (h : EnvRel ρ nt E tmps) (dst : Option Tmp) {v v' : Value} (hv : VRel ρ v v') :
    EnvRel ρ nt ((putE nt dst).run E v) (match dst with | some d => tmps.setIfInBounds d v' | none => tmps) := by
  cases dst with
  | none => exact h
  | some d =>
    show EnvRel ρ nt ((putE nt (some d)).run E v) (tmps.setIfInBounds d v')
    unfold putE
    by_cases hd : d < nt
    · have : Nat.ble (Nat.succ d) nt = true := by rw [Nat.ble_eq]; exact hd
      simp only [this]
      exact h.set hd hv
    · have : Nat.ble (Nat.succ d) nt = false := by
        cases hb : Nat.ble (Nat.succ d) nt with
        | false => rfl
        | true => rw [Nat.ble_eq] at hb; exact absurd hb hd
      simp only [this]
      have e : tmps.setIfInBounds d v' = tmps := by
        apply Array.setIfInBounds_eq_of_size_le
        rw [h.1]
        exact Nat.le_of_not_lt hd
      rw [e]; exact h

def lst (n : Nat) : LoopState := match n with
  | 0 => .ready
  | 1 => .busy
  | 2 => .done
  | _ => .exhausted

def ORel (P : Program) (ρ : Ren) (L : Loc) : AObj → Array Obj → Prop
  | .cells c e op fz, heap => ∃ cs lo hi, heap[L.blk]? = some (.cells cs e (lo, hi)) ∧
      (∀ i v, c[i]? = some v → ∃ v', cs[L.base + i]? = some v' ∧ VRel ρ v v') ∧
      (op = false → L.base = 0 ∧ cs.size = c.length) ∧
      (op = true → L.sz = P.cellsOf e ∧ L.base + c.length ≤ L.fin ∧ L.fin ≤ cs.size) ∧
      hi ≤ L.base + fz
  | .map es clock, heap => ∃ es', heap[L.blk]? = some (.map ⟨es'⟩ clock) ∧ ERels ρ es es'
  | .siter s pos, heap => L.base = 0 ∧ heap[L.blk]? = some (.stringIter s pos)
  | .miter m since seen last, heap => L.base = 0 ∧ ∃ m', heap[L.blk]? = some (.mapIter m' since ⟨seen⟩ last) ∧
      (match m with | none => m' = none | some b => ∃ L', ρ b = some L' ∧ m' = some L'.blk)
  | .loop st pend nt E ps assign body, heap => ∃ fn tmps dfs, heap[L.blk]? = some (.loop ⟨lst st, pend, fn, tmps, ⟨ps⟩, assign, body, dfs⟩) ∧ EnvRel ρ nt E tmps
  | .deferred taken, heap => heap[L.blk]? = some (.deferred (if taken then none else some []))

theorem ORel.mono {P : Program} {ρ ρ' : Ren} (hs : Sub ρ ρ') {L : Loc} {o : AObj} {heap heap' : Array Obj} (hh : heap'[L.blk]? = heap[L.blk]?)
    (h : ORel P ρ L o heap) : ORel P ρ' L o heap' := by
  cases o with
  | cells c e op fz =>
    obtain ⟨cs, lo, hi, h1, h2, h3⟩ := h
    exact ⟨cs, lo, hi, hh.trans h1, fun i v hi => let ⟨v', a, b⟩ := h2 i v hi; ⟨v', a, b.mono hs⟩, h3⟩
  | map es clock =>
    obtain ⟨es', h1, h2⟩ := h
    exact ⟨es', hh.trans h1, h2.mono hs⟩
  | siter s pos => exact ⟨h.1, hh.trans h.2⟩
  | miter m since seen last =>
    obtain ⟨h0, m', h1, h2⟩ := h
    refine ⟨h0, m', hh.trans h1, ?_⟩
    cases m with
    | none => exact h2
    | some b => obtain ⟨L', a, b⟩ := h2; exact ⟨L', hs _ _ a, b⟩
  | loop st pend nt E ps assign body =>
    obtain ⟨fn, tmps, dfs, h1, h2⟩ := h
    exact ⟨fn, tmps, dfs, hh.trans h1, h2.mono hs⟩
  | deferred taken => exact hh.trans h

theorem ORel.lt {P : Program} {ρ : Ren} {L : Loc} {o : AObj} {heap : Array Obj} (h : ORel P ρ L o heap) : L.blk < heap.size := by
  have key : ∀ x, heap[L.blk]? = some x → L.blk < heap.size := fun x hx => by
    rcases Nat.lt_or_ge L.blk heap.size with h | h
    · exact h
    · simp [Array.getElem?_eq_none h] at hx
  cases o with
  | cells c e op fz => obtain ⟨cs, lo, hi, h1, _⟩ := h; exact key _ h1
  | map es clock => obtain ⟨es', h1, _⟩ := h; exact key _ h1
  | siter s pos => exact key _ h.2
  | miter m since seen last => obtain ⟨_, m', h1, _⟩ := h; exact key _ h1
  | loop st pend nt E ps assign body => obtain ⟨fn, tmps, dfs, h1, _⟩ := h; exact key _ h1
  | deferred taken => exact key _ h

/-- What abstract memory says. -/
structure Gam (P : Program) (ρ : Ren) (S : St) (w : World) : Prop where
  obj : ∀ b o, S.heap.get b = some o → ∃ L, ρ b = some L ∧ ORel P ρ L o w.heap
  inj : ∀ b b' o o' L L', S.heap.get b = some o → S.heap.get b' = some o' → ρ b = some L → ρ b' = some L' → L.blk = L'.blk → b = b'
  fresh : ∀ b o, S.heap.get b = some o → b < S.next

def Ext (ρ ρ' : Ren) (n n' : Nat) : Prop := Sub ρ ρ' ∧ ∀ b, ρ b = none → ρ' b ≠ none → n ≤ b ∧ b < n'

def Free (ρ : Ren) (n n' : Nat) : Prop := ∀ b, n ≤ b → b < n' → ρ b = none

/-- What a run leaves as it was. -/
structure Fr (ρ ρ' : Ren) (S S' : St) (w w' : World) : Prop where
  size : w.heap.size ≤ w'.heap.size
  same : ∀ k, k < w.heap.size → (∀ b o L, S.heap.get b = some o → ρ b = some L → L.blk ≠ k) → w'.heap[k]? = w.heap[k]?
  img : ∀ b o L, S'.heap.get b = some o → ρ' b = some L → w.heap.size ≤ L.blk ∨ ∃ b0 o0 L0, S.heap.get b0 = some o0 ∧ ρ b0 = some L0 ∧ L0.blk = L.blk
  tape : w'.tape = w.tape
  os : w'.os = w.os
  output : w'.output = w.output

structure Evo (P : Program) (ρ : Ren) (S : St) (w : World) (ρ' : Ren) (S' : St) (w' : World) : Prop where
  ext : Ext ρ ρ' S.next S'.next
  gam : Gam P ρ' S' w'
  fr : Fr ρ ρ' S S' w w'

theorem Fr.refl (ρ : Ren) (S : St) (w : World) : Fr ρ ρ S S w w :=
  ⟨Nat.le_refl _, fun _ _ _ => rfl, fun b o L h h' => .inr ⟨b, o, L, h, h', rfl⟩, rfl, rfl, rfl⟩

theorem Evo.refl {P : Program} {ρ : Ren} {S : St} {w : World} (h : Gam P ρ S w) : Evo P ρ S w ρ S w :=
  ⟨⟨Sub.refl _, fun _ h h' => absurd h h'⟩, h, Fr.refl _ _ _⟩

theorem Free.left {ρ : Ren} {n m k : Nat} (h : Free ρ n k) (hm : m ≤ k) : Free ρ n m := fun b h1 h2 => h b h1 (by omega)

theorem Free.right {ρ ρ' : Ren} {n m k : Nat} (h : Free ρ n k) (hn : n ≤ m) (he : Ext ρ ρ' n m) : Free ρ' m k := by
  intro b h1 h2
  have h0 : ρ b = none := h b (by omega) h2
  cases hb : ρ' b with
  | none => rfl
  | some L => have := (he.2 b h0 (by simp [hb])).2; omega

theorem Evo.trans {P : Program} {ρ ρ₁ ρ₂ : Ren} {S S₁ S₂ : St} {w w₁ w₂ : World} (h₁ : Evo P ρ S w ρ₁ S₁ w₁) (h₂ : Evo P ρ₁ S₁ w₁ ρ₂ S₂ w₂)
    (hn₁ : S.next ≤ S₁.next) (hn₂ : S₁.next ≤ S₂.next) : Evo P ρ S w ρ₂ S₂ w₂ := by
  refine ⟨⟨h₁.ext.1.trans h₂.ext.1, fun b hb hb' => ?_⟩, h₂.gam, ⟨Nat.le_trans h₁.fr.size h₂.fr.size, fun k hk hn => ?_, fun b o L hb hL => ?_, ?_, ?_, ?_⟩⟩
  · cases h : ρ₁ b with
    | none => have := h₂.ext.2 b h hb'; omega
    | some L => have := h₁.ext.2 b hb (by simp [h]); omega
  · rw [h₂.fr.same k (Nat.lt_of_lt_of_le hk h₁.fr.size) fun b o L hb hL e => ?_, h₁.fr.same k hk hn]
    rcases h₁.fr.img b o L hb hL with h | ⟨b0, o0, L0, h0, hL0, e0⟩
    · omega
    · exact hn b0 o0 L0 h0 hL0 (e0.trans e)
  · rcases h₂.fr.img b o L hb hL with h | ⟨b1, o1, L1, hb1, hL1, e1⟩
    · exact .inl (Nat.le_trans h₁.fr.size h)
    · rcases h₁.fr.img b1 o1 L1 hb1 hL1 with h | ⟨b0, o0, L0, h0, hL0, e0⟩
      · exact .inl (by omega)
      · exact .inr ⟨b0, o0, L0, h0, hL0, e0.trans e1⟩
  · exact h₂.fr.tape.trans h₁.fr.tape
  · exact h₂.fr.os.trans h₁.fr.os
  · exact h₂.fr.output.trans h₁.fr.output

/-- A draw tells nothing. -/
theorem Gam.heap {P : Program} {ρ : Ren} {S : St} {w w' : World} (h : Gam P ρ S w) (he : w'.heap = w.heap) : Gam P ρ S w' :=
  ⟨fun b o hb => by rw [he]; exact h.obj b o hb, h.inj, h.fresh⟩

end Go.Eng

/- The engine, part 4: memory that is made and written. -/
namespace Go.Eng

def upd (ρ : Ren) (b : Nat) (L : Loc) : Ren := fun x => if x = b then some L else ρ x

theorem upd_same (ρ : Ren) (b : Nat) (L : Loc) : upd ρ b L b = some L := by simp [upd]
theorem upd_ne (ρ : Ren) {b x : Nat} (L : Loc) (h : x ≠ b) : upd ρ b L x = ρ x := by simp [upd, h]

theorem sub_upd {ρ : Ren} {b : Nat} {L : Loc} (h : ρ b = none) : Sub ρ (upd ρ b L) := by
  intro x M hx
  by_cases e : x = b
  · subst e; rw [h] at hx; cases hx
  · rw [upd_ne _ _ e]; exact hx

theorem ext_upd {ρ : Ren} {b : Nat} {L : Loc} (h : ρ b = none) : Ext ρ (upd ρ b L) b (Nat.succ b) := by
  refine ⟨sub_upd h, fun x hx hx' => ?_⟩
  by_cases e : x = b
  · subst e; exact ⟨Nat.le_refl _, Nat.lt_succ_self _⟩
  · rw [upd_ne _ _ e] at hx'; exact absurd hx hx'

/-- A new block. -/
theorem evo_new {P : Program} {ρ : Ren} {S : St} {w : World} (hg : Gam P ρ S w) (hf : ρ S.next = none) (o : AObj) (L : Loc) (x : Obj) (d : Nat) (hL : L.blk = w.heap.size)
    (ho : ORel P (upd ρ S.next L) L o (w.heap.push x)) :
    Evo P ρ S w (upd ρ S.next L) ⟨S.heap.set S.next o, Nat.succ S.next⟩ { w with heap := w.heap.push x, drawn := d } := by
  have hold : ∀ k, k < w.heap.size → (w.heap.push x)[k]? = w.heap[k]? := fun k hk => Array.getElem?_push_lt hk ▸ by simp [Array.getElem?_eq_getElem hk]
  refine ⟨ext_upd hf, ⟨fun b p hb => ?_, fun b b' p p' M M' hb hb' hM hM' e => ?_, fun b p hb => ?_⟩, ⟨by simp, fun k hk _ => hold k hk, fun b p M hb hM => ?_, rfl, rfl, rfl⟩⟩
  · simp only [Tr.get_set_if] at hb
    split at hb
    · rename_i e
      subst e; cases hb
      exact ⟨L, upd_same _ _ _, ho⟩
    · rename_i e
      obtain ⟨M, h1, h2⟩ := hg.obj b p hb
      exact ⟨M, by rw [upd_ne _ _ e]; exact h1, h2.mono (sub_upd hf) (hold _ h2.lt)⟩
  · simp only [Tr.get_set_if] at hb hb'
    have old : ∀ c q N, S.heap.get c = some q → ρ c = some N → N.blk < w.heap.size := fun c q N hc hN => by
      obtain ⟨N', h1, h2⟩ := hg.obj c q hc
      rw [hN] at h1; cases h1; exact h2.lt
    split at hb <;> split at hb'
    · omega
    · rename_i e1 e2
      subst e1
      rw [upd_same] at hM; cases hM
      rw [upd_ne _ _ e2] at hM'
      have := old _ _ _ hb' hM'
      omega
    · rename_i e1 e2
      subst e2
      rw [upd_same] at hM'; cases hM'
      rw [upd_ne _ _ e1] at hM
      have := old _ _ _ hb hM
      omega
    · rename_i e1 e2
      rw [upd_ne _ _ e1] at hM
      rw [upd_ne _ _ e2] at hM'
      exact hg.inj _ _ _ _ _ _ hb hb' hM hM' e
  · simp only [Tr.get_set_if] at hb
    split at hb
    · rename_i e; subst e; exact Nat.lt_succ_self _
    · exact Nat.lt_succ_of_lt (hg.fresh b p hb)
  · simp only [Tr.get_set_if] at hb
    split at hb
    · rename_i e
      subst e; rw [upd_same] at hM; cases hM
      exact .inl (by omega)
    · rename_i e
      rw [upd_ne _ _ e] at hM
      exact .inr ⟨b, p, M, hb, hM, rfl⟩

/-- A block that is written. -/
theorem evo_set {P : Program} {ρ : Ren} {S : St} {w : World} (hg : Gam P ρ S w) {b : Nat} {p : AObj} {L : Loc} (hb : S.heap.get b = some p) (hL : ρ b = some L) (o : AObj) (x : Obj) (d : Nat)
    (ho : ORel P ρ L o (w.heap.setIfInBounds L.blk x)) :
    Evo P ρ S w ρ ⟨S.heap.set b o, S.next⟩ { w with heap := w.heap.setIfInBounds L.blk x, drawn := d } := by
  have hoth : ∀ k, k ≠ L.blk → (w.heap.setIfInBounds L.blk x)[k]? = w.heap[k]? := fun k hk => Array.getElem?_setIfInBounds_ne (Ne.symm hk)
  refine ⟨⟨Sub.refl _, fun _ h h' => absurd h h'⟩, ⟨fun c q hc => ?_, fun c c' q q' M M' hc hc' hM hM' e => ?_, fun c q hc => ?_⟩, ⟨by simp, fun k hk hn => ?_, fun c q M hc hM => ?_, rfl, rfl, rfl⟩⟩
  · simp only [Tr.get_set_if] at hc
    split at hc
    · rename_i e; subst e; cases hc
      exact ⟨L, hL, ho⟩
    · rename_i e
      obtain ⟨M, h1, h2⟩ := hg.obj c q hc
      refine ⟨M, h1, h2.mono (Sub.refl _) (hoth _ fun e' => e ?_)⟩
      exact hg.inj _ _ _ _ _ _ hc hb h1 hL e'
  · simp only [Tr.get_set_if] at hc hc'
    split at hc <;> split at hc'
    · omega
    · rename_i e1 e2; subst e1; exact hg.inj _ _ _ _ _ _ hb hc' hM hM' e
    · rename_i e1 e2; subst e2; exact hg.inj _ _ _ _ _ _ hc hb hM hM' e
    · exact hg.inj _ _ _ _ _ _ hc hc' hM hM' e
  · simp only [Tr.get_set_if] at hc
    split at hc
    · rename_i e; subst e; exact hg.fresh _ _ hb
    · exact hg.fresh _ _ hc
  · exact hoth k fun e => hn b p L hb hL e.symm
  · simp only [Tr.get_set_if] at hc
    split at hc
    · rename_i e; subst e; exact .inr ⟨c, p, M, hb, hM, rfl⟩
    · exact .inr ⟨c, q, M, hc, hM, rfl⟩

/-- A block that goes on under another number. -/
theorem evo_move {P : Program} {ρ : Ren} {S : St} {w : World} (hg : Gam P ρ S w) (hf : ρ S.next = none) {b : Nat} {p : AObj} {L : Loc} (hb : S.heap.get b = some p) (hL : ρ b = some L)
    (o : AObj) (M : Loc) (x : Obj) (d : Nat) (hM : M.blk = L.blk) (ho : ORel P (upd ρ S.next M) M o (w.heap.setIfInBounds L.blk x)) :
    Evo P ρ S w (upd ρ S.next M) ⟨(S.heap.del b).set S.next o, Nat.succ S.next⟩ { w with heap := w.heap.setIfInBounds L.blk x, drawn := d } := by
  have hoth : ∀ k, k ≠ L.blk → (w.heap.setIfInBounds L.blk x)[k]? = w.heap[k]? := fun k hk => Array.getElem?_setIfInBounds_ne (Ne.symm hk)
  have hget : ∀ c, ((S.heap.del b).set S.next o).get c = if c = S.next then some o else if c = b then none else S.heap.get c := fun c => by
    rw [Tr.get_set_if]
    by_cases e : c = S.next
    · simp [e]
    · rw [if_neg e, if_neg e]
      by_cases e' : c = b
      · subst e'; rw [if_pos rfl, Tr.get_del]
      · rw [if_neg e', Tr.get_del_ne _ e']
  refine ⟨ext_upd hf, ⟨fun c q hc => ?_, fun c c' q q' N N' hc hc' hN hN' e => ?_, fun c q hc => ?_⟩, ⟨by simp, fun k hk hn => ?_, fun c q N hc hN => ?_, rfl, rfl, rfl⟩⟩
  · simp only [hget] at hc
    split at hc
    · rename_i e; subst e; cases hc; exact ⟨M, upd_same _ _ _, ho⟩
    · rename_i e
      split at hc
      · cases hc
      · rename_i e'
        obtain ⟨N, h1, h2⟩ := hg.obj c q hc
        refine ⟨N, by rw [upd_ne _ _ e]; exact h1, h2.mono (sub_upd hf) (hoth _ fun e'' => e' ?_)⟩
        exact hg.inj _ _ _ _ _ _ hc hb h1 hL e''
  · simp only [hget] at hc hc'
    have ne : ∀ c q N, c ≠ S.next → c ≠ b → S.heap.get c = some q → upd ρ S.next M c = some N → N.blk ≠ M.blk := fun c q N h1 h2 h3 h4 h5 => by
      rw [upd_ne _ _ h1] at h4
      exact h2 (hg.inj _ _ _ _ _ _ h3 hb h4 hL (h5.trans hM))
    split at hc <;> split at hc'
    · omega
    · rename_i e1 e2
      split at hc'
      · cases hc'
      · rename_i e3
        subst e1; rw [upd_same] at hN; cases hN
        exact absurd e.symm (ne _ _ _ e2 e3 hc' hN')
    · rename_i e1 e2
      split at hc
      · cases hc
      · rename_i e3
        subst e2; rw [upd_same] at hN'; cases hN'
        exact absurd e (ne _ _ _ e1 e3 hc hN)
    · rename_i e1 e2
      split at hc
      · cases hc
      · split at hc'
        · cases hc'
        · rw [upd_ne _ _ e1] at hN; rw [upd_ne _ _ e2] at hN'
          exact hg.inj _ _ _ _ _ _ hc hc' hN hN' e
  · simp only [hget] at hc
    split at hc
    · rename_i e; subst e; exact Nat.lt_succ_self _
    · split at hc
      · cases hc
      · exact Nat.lt_succ_of_lt (hg.fresh _ _ hc)
  · exact hoth k fun e => hn b p L hb hL e.symm
  · simp only [hget] at hc
    split at hc
    · rename_i e; subst e; rw [upd_same] at hN; cases hN
      exact .inr ⟨b, p, L, hb, hL, hM.symm⟩
    · rename_i e
      split at hc
      · cases hc
      · rw [upd_ne _ _ e] at hN
        exact .inr ⟨c, q, N, hc, hN, rfl⟩

/-- A new block in the place of one that is no more looked at. -/
theorem evo_new_del {P : Program} {ρ : Ren} {S : St} {w : World} (hg : Gam P ρ S w) (hf : ρ S.next = none) (b : Nat) (o : AObj) (L : Loc) (x : Obj) (d : Nat) (hL : L.blk = w.heap.size)
    (ho : ORel P (upd ρ S.next L) L o (w.heap.push x)) :
    Evo P ρ S w (upd ρ S.next L) ⟨(S.heap.del b).set S.next o, Nat.succ S.next⟩ { w with heap := w.heap.push x, drawn := d } := by
  have h0 := evo_new hg hf o L x d hL ho
  have hsub : ∀ c q, ((S.heap.del b).set S.next o).get c = some q → (S.heap.set S.next o).get c = some q := fun c q h => by
    rw [Tr.get_set_if] at h ⊢
    split
    · rename_i e; rw [if_pos e] at h; exact h
    · rename_i e; rw [if_neg e] at h
      by_cases e' : c = b
      · subst e'; rw [Tr.get_del] at h; cases h
      · rwa [Tr.get_del_ne _ e'] at h
  exact ⟨h0.ext, ⟨fun c q h => h0.gam.obj c q (hsub c q h), fun c c' q q' M M' h h' => h0.gam.inj _ _ _ _ _ _ (hsub _ _ h) (hsub _ _ h'), fun c q h => h0.gam.fresh c q (hsub c q h)⟩,
    ⟨h0.fr.size, h0.fr.same, fun c q M h => h0.fr.img c q M (hsub c q h), rfl, rfl, rfl⟩⟩

theorem set_set {α : Type} (h : Array α) (k : Nat) (x y : α) : (h.setIfInBounds k x).setIfInBounds k y = h.setIfInBounds k y := by
  apply Array.ext_getElem?
  intro j
  simp only [Array.getElem?_setIfInBounds, Array.size_setIfInBounds]
  split <;> rfl

/-- Cells written one behind the other. -/
theorem storeCells_run (P : Program) (k : Nat) : ∀ (vs : List Value) (o : Nat) (i : Nat) (w : World) (cs : Array Value) (e : TypeId) (lo hi : Nat),
    w.heap[k]? = some (.cells cs e (lo, hi)) → o + i + vs.length ≤ cs.size → (∀ j, o + i ≤ j → j < o + i + vs.length → ¬ (lo ≤ j ∧ j < hi)) → (∀ v ∈ vs, v.oneCell' = true) →
    ∃ cs', (storeCells ⟨k, o, none⟩ vs i).run P w = .ok () { w with heap := w.heap.setIfInBounds k (.cells cs' e (lo, hi)) } ∧ cs'.size = cs.size ∧
      ∀ j, cs'[j]? = if o + i ≤ j ∧ j < o + i + vs.length then vs[j - (o + i)]? else cs[j]? := by
  intro vs
  induction vs with
  | nil =>
    intro o i w cs e lo hi hw _ _ _
    refine ⟨cs, ?_, rfl, fun j => by rw [if_neg (by simp)]⟩
    have : w.heap.setIfInBounds k (.cells cs e (lo, hi)) = w.heap := by
      apply Array.ext_getElem?
      intro j
      rw [Array.getElem?_setIfInBounds]
      split
      · rename_i h; subst h
        split
        · exact hw.symm
        · rename_i h; simp [Array.getElem?_eq_none (Nat.le_of_not_lt h)]
      · rfl
    rw [this]; rfl
  | cons v vs ih =>
    intro o i w cs e lo hi hw hl hf h1
    have hadd : (⟨k, o, none⟩ : Addr).add i = ⟨k, o + i, none⟩ := by unfold Addr.add; split <;> simp_all
    simp only [List.length_cons] at hl hf
    have hlt : o + i < cs.size := by omega
    have hk : k < w.heap.size := by
      rcases Nat.lt_or_ge k w.heap.size with h | h
      · exact h
      · simp [Array.getElem?_eq_none h] at hw
    have hcell : w.cell? ⟨k, o + i, none⟩ = some cs[o + i] := by simp [World.cell?, hw, hlt]
    have hfro : w.frozen? ⟨k, o + i, none⟩ = false := by
      have := hf (o + i) (Nat.le_refl _) (by omega)
      simp only [World.frozen?, hw, Bool.and_eq_false_iff, decide_eq_false_iff_not]
      rcases Nat.lt_or_ge (o + i) lo with h | h
      · left; omega
      · right; intro h'; exact this ⟨h, h'⟩
    have hset : w.setCell ⟨k, o + i, none⟩ v = { w with heap := w.heap.setIfInBounds k (.cells (cs.setIfInBounds (o + i) v) e (lo, hi)) } := by
      unfold World.setCell
      congr 1
      apply Array.ext_getElem?
      intro j
      rw [Array.getElem?_modify, Array.getElem?_setIfInBounds]
      split
      · rename_i h; subst h
        have hk' : w.heap[k] = .cells cs e (lo, hi) := by simpa [hk] using hw
        simp [hk, hk']
      · rfl
    have hst : (store ((⟨k, o, none⟩ : Addr).add i) v).run P w = .ok () { w with heap := w.heap.setIfInBounds k (.cells (cs.setIfInBounds (o + i) v) e (lo, hi)) } := by
      rw [hadd, run_store P w _ v _ (h1 v (by simp)), hcell]
      simp [hfro, hset]
    obtain ⟨cs', hr, hs, hg⟩ := ih o (i + 1) { w with heap := w.heap.setIfInBounds k (.cells (cs.setIfInBounds (o + i) v) e (lo, hi)) } (cs.setIfInBounds (o + i) v) e lo hi
      (by simp [hk]) (by simp; omega) (fun j h2 h3 => hf j (by omega) (by omega)) (fun u hu => h1 u (by simp [hu]))
    refine ⟨cs', ?_, by simpa using hs, fun j => ?_⟩
    · simp only [storeCells, Sem.run_bind, hst, Result.andThen_ok, hr]
      rw [set_set]
    · rw [hg j]
      by_cases h4 : o + i + 1 ≤ j ∧ j < o + i + 1 + vs.length
      · rw [if_pos (by omega), if_pos (by simp; omega)]
        rw [show j - (o + i) = (j - (o + (i + 1))) + 1 by omega]
        simp
      · rw [if_neg (by omega)]
        by_cases h5 : j = o + i
        · subst h5; rw [if_pos (by simp)]; simp [hlt]
        · rw [if_neg (by simp; omega), Array.getElem?_setIfInBounds_ne (by omega)]

end Go.Eng
