/- The engine's definitions: a big-step evaluator of the model's code over abstract memory. -/
import GoSem.Step
import GoSem.Dispatch

/- The engine, part 1: a big-step evaluator of the model's code over abstract memory. Definitions alone. -/
noncomputable section
namespace Go.Eng

/-- A thing laid ready: so the kernel keeps what a closed term comes to. -/
structure W (α : Type) where
  run : α

/-- A number, counted out. -/
def natK {α : Type} (n : Nat) (k : Nat → α) : α := Nat.rec (motive := fun _ => α) (k 0) (fun m _ => k (Nat.succ m)) n

def intK {α : Type} (n : Int) (k : Int → α) : α := match n with
  | .ofNat m => natK m fun m => k (.ofNat m)
  | .negSucc m => natK m fun m => k (.negSucc m)

/-- A tree by number: a number's way. -/
inductive Tr (α : Type) where
  | leaf : Tr α
  | node (v : Option α) (a b c d : Tr α) : Tr α

inductive Dg where
  | a | b | c | d

def dgOf : Nat → Dg
  | 0 => .a
  | 1 => .b
  | 2 => .c
  | _ => .d

def pathF : Nat → Nat → List Dg
  | 0, _ => []
  | f + 1, i => cond (Nat.beq i 0) [] (dgOf (Nat.mod (Nat.sub i 1) 4) :: pathF f (Nat.div (Nat.sub i 1) 4))

def pathOf (i : Nat) : List Dg := pathF (Nat.succ i) i

def getP {α : Type} : List Dg → W (Tr α → Option α)
  | [] => ⟨fun t => Tr.rec (motive := fun _ => Option α) none (fun v _ _ _ _ _ _ _ _ => v) t⟩
  | x :: l => match x with
    | .a => ⟨fun t => Tr.rec (motive := fun _ => Option α) none (fun _ t _ _ _ _ _ _ _ => (getP l).run t) t⟩
    | .b => ⟨fun t => Tr.rec (motive := fun _ => Option α) none (fun _ _ t _ _ _ _ _ _ => (getP l).run t) t⟩
    | .c => ⟨fun t => Tr.rec (motive := fun _ => Option α) none (fun _ _ _ t _ _ _ _ _ => (getP l).run t) t⟩
    | .d => ⟨fun t => Tr.rec (motive := fun _ => Option α) none (fun _ _ _ _ t _ _ _ _ => (getP l).run t) t⟩

def setP {α : Type} : List Dg → W (α → Tr α → Tr α)
  | [] => ⟨fun v t => Tr.rec (motive := fun _ => Tr α) (.node (some v) .leaf .leaf .leaf .leaf) (fun _ a b c d _ _ _ _ => .node (some v) a b c d) t⟩
  | x :: l => match x with
    | .a => ⟨fun v t => Tr.rec (motive := fun _ => Tr α) (.node none ((setP l).run v .leaf) .leaf .leaf .leaf) (fun y a b c d _ _ _ _ => .node y ((setP l).run v a) b c d) t⟩
    | .b => ⟨fun v t => Tr.rec (motive := fun _ => Tr α) (.node none .leaf ((setP l).run v .leaf) .leaf .leaf) (fun y a b c d _ _ _ _ => .node y a ((setP l).run v b) c d) t⟩
    | .c => ⟨fun v t => Tr.rec (motive := fun _ => Tr α) (.node none .leaf .leaf ((setP l).run v .leaf) .leaf) (fun y a b c d _ _ _ _ => .node y a b ((setP l).run v c) d) t⟩
    | .d => ⟨fun v t => Tr.rec (motive := fun _ => Tr α) (.node none .leaf .leaf .leaf ((setP l).run v .leaf)) (fun y a b c d _ _ _ _ => .node y a b c ((setP l).run v d)) t⟩

def delP {α : Type} : List Dg → W (Tr α → Tr α)
  | [] => ⟨fun t => Tr.rec (motive := fun _ => Tr α) .leaf (fun _ a b c d _ _ _ _ => .node none a b c d) t⟩
  | x :: l => match x with
    | .a => ⟨fun t => Tr.rec (motive := fun _ => Tr α) .leaf (fun y a b c d _ _ _ _ => .node y ((delP l).run a) b c d) t⟩
    | .b => ⟨fun t => Tr.rec (motive := fun _ => Tr α) .leaf (fun y a b c d _ _ _ _ => .node y a ((delP l).run b) c d) t⟩
    | .c => ⟨fun t => Tr.rec (motive := fun _ => Tr α) .leaf (fun y a b c d _ _ _ _ => .node y a b ((delP l).run c) d) t⟩
    | .d => ⟨fun t => Tr.rec (motive := fun _ => Tr α) .leaf (fun y a b c d _ _ _ _ => .node y a b c ((delP l).run d)) t⟩

def Tr.get {α : Type} (t : Tr α) (i : Nat) : Option α := (getP (pathOf i)).run t
def Tr.set {α : Type} (t : Tr α) (i : Nat) (v : α) : Tr α := (setP (pathOf i)).run v t
def Tr.del {α : Type} (t : Tr α) (i : Nat) : Tr α := (delP (pathOf i)).run t

/-- What lies in a block of abstract memory. `cells c e op fz`: the cells c of elements of type e; op: behind them there may be room up to an end that is not known; the cells from fz on are surely not frozen. -/
inductive AObj where
  | cells (c : List Value) (elem : TypeId) (op : Bool) (fz : Nat)
  | map (es : List MapEntry) (clock : Nat)
  | siter (s : ByteArray) (pos : Nat)
  | miter (m : Option Nat) (since : Nat) (seen : List Nat) (last : Nat)
  /-- A loop over a function: its state (0: ready, 1: busy, 2: done, 3: over), the jump out of it, the temporaries that a round begins with, its code. -/
  | loop (st : Nat) (pend : Option Code) (nt : Nat) (E : Tr Value) (ps : List Tmp) (assign body : Code)
  /-- The deferred calls of a loop over a function: none. -/
  | deferred (taken : Bool)

structure St where
  heap : Tr AObj
  next : Nat

/-- A capacity that is not known: up to the block's end. -/
def capU : Nat := 9223372036854775808

inductive OR where
  | fail
  | val (v : Value) (S : St)
  | dfr (d : Deferred)

/-- A function is called, or a round of a loop over a function. -/
inductive Goal where
  | fn (f : FuncId)
  | round (l : Nat)

abbrev CallF := Goal → List Value → St → OR

/-- No block is named in it. -/
def closedV : Value → Bool
  | .bool _ | .int _ _ | .string _ | .float _ _ | .nilFunc | .nilIface => true
  | .pointer none | .slice none _ _ | .map none => true
  | .agg cs => cs.toList.all fun
    | .bool _ | .int _ _ | .string _ | .float _ _ | .nilFunc | .nilIface => true
    | .pointer none | .slice none _ _ | .map none => true
    | _ => false
  | .tuple cs => cs.toList.isEmpty
  | _ => false

/-- An operand's value. -/
def evC : Operand → W (Tr Value → Option Value)
  | .tmp t => ⟨fun E => Option.rec (motive := fun _ => Option Value) (some undef) (fun v => some v) ((getP (pathOf t)).run E)⟩
  | .const v => match closedV v with
    | true => ⟨fun _ => some v⟩
    | false => ⟨fun _ => none⟩
  | .global _ => ⟨fun _ => none⟩
  | .func f => ⟨fun _ => some (.func (.func f) #[] #[])⟩

def evsC : List Operand → W (Tr Value → Option (List Value))
  | [] => ⟨fun _ => some []⟩
  | x :: l => ⟨fun E => Option.rec (motive := fun _ => Option (List Value)) none (fun v =>
      Option.rec (motive := fun _ => Option (List Value)) none (fun vs => some (v :: vs)) ((evsC l).run E)) ((evC x).run E)⟩

def evpC : List (Nat × Operand) → W (Tr Value → Option (List (Nat × Value)))
  | [] => ⟨fun _ => some []⟩
  | (i, x) :: l => ⟨fun E => Option.rec (motive := fun _ => Option (List (Nat × Value))) none (fun v =>
      Option.rec (motive := fun _ => Option (List (Nat × Value))) none (fun vs => some ((i, v) :: vs)) ((evpC l).run E)) ((evC x).run E)⟩

/-- The element at a place. -/
def nth {α : Type} (l : List α) (i : Nat) : Option α :=
  Nat.rec (motive := fun _ => List α → Option α) (fun l => List.rec (motive := fun _ => Option α) none (fun x _ _ => some x) l)
    (fun _ r l => List.rec (motive := fun _ => Option α) none (fun _ l _ => r l) l) i l

def dropL {α : Type} (l : List α) (i : Nat) : List α :=
  Nat.rec (motive := fun _ => List α → List α) (fun l => l)
    (fun _ r l => List.rec (motive := fun _ => List α) [] (fun _ l _ => r l) l) i l

/-- The first n, if there are so many. -/
def takeL {α : Type} (l : List α) (n : Nat) : Option (List α) :=
  Nat.rec (motive := fun _ => List α → Option (List α)) (fun _ => some [])
    (fun _ r l => List.rec (motive := fun _ => Option (List α)) none
      (fun x l _ => Option.rec (motive := fun _ => Option (List α)) none (fun t => some (x :: t)) (r l)) l) n l

/-- xs laid over l, if there is room. -/
def overL (xs : List Value) : List Value → Option (List Value) :=
  List.rec (motive := fun _ => List Value → Option (List Value)) (fun l => some l)
    (fun x _ r l => List.rec (motive := fun _ => Option (List Value)) none
      (fun _ l _ => Option.rec (motive := fun _ => Option (List Value)) none (fun t => some (x :: t)) (r l)) l) xs

def putL (l : List Value) (o : Nat) (xs : List Value) : Option (List Value) :=
  Nat.rec (motive := fun _ => List Value → Option (List Value)) (fun l => overL xs l)
    (fun _ r l => List.rec (motive := fun _ => Option (List Value)) none
      (fun y l _ => Option.rec (motive := fun _ => Option (List Value)) none (fun t => some (y :: t)) (r l)) l) o l

def lenL {α : Type} (l : List α) : Nat := List.rec (motive := fun _ => Nat) 0 (fun _ _ r => Nat.succ r) l

def cellsL : Value → List Value
  | .agg cs => cs.toList
  | v => [v]

def newObj (S : St) (o : AObj) : Nat × St := (S.next, ⟨S.heap.set S.next o, Nat.succ S.next⟩)

section types
variable (P : Program)

def aggT (t : TypeId) : Option Bool :=
  match P.underlying t with
  | some (.struct _) | some (.array _ _) => some true
  | some _ => some false
  | none => none

def szT (t : TypeId) : Option Nat := match P.info? t with | some i => some i.size | none => none
def bytesT (t : TypeId) : Option Nat := match P.info? t with | some i => some i.bytes | none => none
def zeroT (t : TypeId) : Option Value := match P.info? t with
  | some i => match i.zero with
    | some z => cond (closedV z) (some z) none
    | none => none
  | none => none

/-! Loads and stores. -/

def ld1 (p : Value) (S : St) : Option Value :=
  match p with
  | .pointer (some ⟨b, o, none⟩) => match S.heap.get b with
    | some (.cells c _ _ _) => nth c o
    | _ => none
  | _ => none

def ldAgg (n : Nat) (p : Value) (S : St) : Option Value :=
  match p with
  | .pointer (some ⟨b, o, none⟩) => match S.heap.get b with
    | some (.cells c _ _ _) => match takeL (dropL c o) n with
      | some l => some (.agg ⟨l⟩)
      | none => none
    | _ => none
  | _ => none

def noLd (_ : Value) (_ : St) : Option Value := none

def eload (t : TypeId) : W (Value → St → Option Value) :=
  match aggT P t with
  | some true => match szT P t with
    | some n => ⟨ldAgg n⟩
    | none => ⟨noLd⟩
  | some false => ⟨ld1⟩
  | none => ⟨noLd⟩

/-- Cells are laid over a block's from o on. -/
def estoreCells (S : St) (b o : Nat) (vs : List Value) : Option St :=
  match S.heap.get b with
  | some (.cells c e op fz) =>
    cond (Nat.ble fz o) (match putL c o vs with
      | some c' => some ⟨S.heap.set b (.cells c' e op fz), S.next⟩
      | none => none) none
  | _ => none

def oneCells : List Value → Bool
  | [] => true
  | x :: l => match x with
    | .agg _ => false
    | .tuple _ => false
    | _ => oneCells l

def st1 (n : Nat) (p v : Value) (S : St) : Option St :=
  match p with
  | .pointer (some ⟨b, o, none⟩) => cond (Nat.beq (lenL (cellsL v)) n && oneCells (cellsL v)) (estoreCells S b o (cellsL v)) none
  | _ => none

def noSt (_ _ : Value) (_ : St) : Option St := none

def estore (t : TypeId) : W (Value → Value → St → Option St) :=
  match szT P t with
  | some n => ⟨st1 n⟩
  | none => ⟨noSt⟩

def ptrTo (b : Nat) : Value := .pointer (some ⟨b, 0, none⟩)

/-! Aggregates. -/

/-- Parts laid into zeros. -/
def fillL (place : Nat → Option (Nat × Nat)) : List Value → List (Nat × Value) → Option (List Value)
  | cs, [] => some cs
  | cs, (i, v) :: rest => match place i with
    | none => none
    | some (off, size) =>
      cond (Nat.beq (lenL (cellsL v)) size) (match putL cs off (cellsL v) with
        | none => none
        | some cs' => fillL place cs' rest) none

def fieldOf (t : TypeId) (f : Nat) : Option Field :=
  match P.underlying t with
  | some (.struct fs) => nth fs.toList f
  | _ => none

def fieldPl (t : TypeId) (f : Nat) : Option (Nat × Nat) :=
  match fieldOf P t f with
  | some x => match szT P x.type with
    | some n => some (x.offset, n)
    | none => none
  | none => none

def aggO (r : Option (List Value)) : Option Value := match r with
  | some cs => some (.agg ⟨cs⟩)
  | none => none

def placeA (n i : Nat) : Option (Nat × Nat) := some (Nat.mul i n, n)

/-- Have all fields a size? -/
def szAll : List Field → Bool
  | [] => true
  | f :: l => (match szT P f.type with | some _ => true | none => false) && szAll l

def noBuild (_ : List (Nat × Value)) : Option Value := none

def ebuild (t : TypeId) : W (List (Nat × Value) → Option Value) :=
  match zeroT P t with
  | none => ⟨noBuild⟩
  | some z =>
    match P.underlying t with
    | some (.struct fs) => match szAll P fs.toList with
      | true => ⟨fun parts => aggO (fillL (fieldPl P t) (cellsL z) parts)⟩
      | false => ⟨noBuild⟩
    | some (.array _ e) => match szT P e with
      | some n => ⟨fun parts => aggO (fillL (placeA n) (cellsL z) parts)⟩
      | none => ⟨noBuild⟩
    | _ => ⟨noBuild⟩

def repL : Nat → List Value → List Value
  | 0, _ => []
  | n + 1, l => l ++ repL n l

def mkSlice (e len : Nat) (r : Option (List Value)) (S : St) : OR :=
  match r with
  | some cs => natK S.next fun b => .val (.slice (some ⟨b, 0, none⟩) len len) ⟨S.heap.set b (.cells cs e false 0), Nat.succ b⟩
  | none => .fail

def noBuildS (_ : List (Nat × Value)) (_ : St) : OR := .fail

def ebuildSlice (t : TypeId) (len : Nat) : W (List (Nat × Value) → St → OR) :=
  match P.underlying t with
  | some (.slice e) =>
    match szT P e, zeroT P e with
    | some n, some z =>
      match (Nat.beq (lenL (cellsL z)) n && (Nat.ble (Nat.mul len n) 16777216 && Nat.ble len 16777216)) with
      | true => ⟨fun parts S => mkSlice e len (fillL (placeA n) (repL len (cellsL z)) parts) S⟩
      | false => ⟨noBuildS⟩
    | _, _ => ⟨noBuildS⟩
  | _ => ⟨noBuildS⟩

def partAgg (n off : Nat) (cs : List Value) : Option Value :=
  match takeL (dropL cs off) n with
  | some l => some (.agg ⟨l⟩)
  | none => none

def part1 (off : Nat) (cs : List Value) : Option Value := nth cs off

def noPart (_ : Nat) (_ : List Value) : Option Value := none

/-- A part of an aggregate. -/
def epart (t : TypeId) : W (Nat → List Value → Option Value) :=
  match aggT P t with
  | some true => match szT P t with
    | some n => ⟨partAgg n⟩
    | none => ⟨noPart⟩
  | some false => ⟨part1⟩
  | none => ⟨noPart⟩

def noV (_ : Value) : Option Value := none

def efield (t : TypeId) (f : Nat) : W (Value → Option Value) :=
  match fieldOf P t f with
  | some fd => ⟨fun x => match x with
    | .agg cs => (epart P fd.type).run fd.offset cs.toList
    | _ => none⟩
  | none => ⟨noV⟩

def offPtr (off : Nat) (x : Value) : Option Value :=
  match x with
  | .pointer (some ⟨b, o, none⟩) => natK (Nat.add o off) fun q => some (.pointer (some ⟨b, q, none⟩))
  | _ => none

def efieldAddr (t : TypeId) (f : Nat) : W (Value → Option Value) :=
  match fieldOf P t f with
  | some fd => match szT P fd.type with
    | some n => match Nat.beq n 0 with
      | true => ⟨noV⟩
      | false => ⟨offPtr fd.offset⟩
    | none => ⟨noV⟩
  | none => ⟨noV⟩

/-- An index below a length. -/
def intIn (i : Int) (n : Nat) : Option Nat :=
  match i with
  | .ofNat k => cond (Nat.ble (Nat.succ k) n) (some k) none
  | .negSucc _ => none

def idxArr (len n : Nat) (x ix : Value) : Option Value :=
  match ix with
  | .int _ i => match x with
    | .pointer (some ⟨b, o, none⟩) => match intIn i len with
      | some k => natK (Nat.add o (Nat.mul k n)) fun q => some (.pointer (some ⟨b, q, none⟩))
      | none => none
    | _ => none
  | _ => none

def idxSlice (n : Nat) (x ix : Value) : Option Value :=
  match ix with
  | .int _ i => match x with
    | .slice (some ⟨b, o, none⟩) len _ => match intIn i len with
      | some k => natK (Nat.add o (Nat.mul k n)) fun q => some (.pointer (some ⟨b, q, none⟩))
      | none => none
    | _ => none
  | _ => none

def noVV (_ _ : Value) : Option Value := none

def eindexAddr (t : TypeId) : W (Value → Value → Option Value) :=
  match P.underlying t with
  | some (.array len e) => match szT P e with
    | some n => ⟨idxArr len n⟩
    | none => ⟨noVV⟩
  | some (.slice e) => match szT P e with
    | some n => ⟨idxSlice n⟩
    | none => ⟨noVV⟩
  | _ => ⟨noVV⟩

def byteV (b : UInt8) : Value := .int .u8 (Int.ofNat b.toNat)

def idxStr (x ix : Value) : Option Value :=
  match ix with
  | .int _ i => match x with
    | .string s => match i with
      | .ofNat k => match nth s.data.toList k with
        | some b => some (byteV b)
        | none => none
      | .negSucc _ => none
    | _ => none
  | _ => none

def idxAgg (f : Nat → List Value → Option Value) (len n : Nat) (x ix : Value) : Option Value :=
  match ix with
  | .int _ i => match x with
    | .agg cs => match intIn i len with
      | some k => f (Nat.mul k n) cs.toList
      | none => none
    | _ => none
  | _ => none

def eindex (t : TypeId) : W (Value → Value → Option Value) :=
  match P.underlying t with
  | some (.array len e) => match szT P e with
    | some n => ⟨idxAgg (epart P e).run len n⟩
    | none => ⟨noVV⟩
  | some .string => ⟨idxStr⟩
  | _ => ⟨noVV⟩

/-! Slicing. -/

def ebound (x : Value) (y : Nat) : Option Nat :=
  match x with
  | .int _ (.ofNat k) => cond (Nat.ble k y) (some k) none
  | _ => none

def eboundO (x : Option Value) (d y : Nat) : Option Nat :=
  match x with
  | none => some d
  | some v => ebound v y

/-- How many elements of type e (of n cells) surely lie from a place of an open block on. -/
def roomAt (S : St) (b o e n : Nat) : Option Nat :=
  match S.heap.get b with
  | some (.cells c e' op _) => cond (op && Nat.beq e e' && Nat.ble 1 n) (some (Nat.div (Nat.sub (lenL c) o) n)) none
  | _ => none

def slStr (x : Value) (lo hi mx : Option Value) (_ : St) : Option Value :=
  match x with
  | .string s => match mx with
    | some _ => none
    | none => match eboundO hi s.size s.size with
      | some h => match eboundO lo 0 h with
        | some l => some (.string (s.extract l h))
        | none => none
      | none => none
  | _ => none

/-- Of bounds l <= h <= m: the slice. -/
def slFin (b o n : Nat) (l h m : Nat) : Option Value :=
  cond (Nat.beq (Nat.sub m l) capU) none (some (.slice (some ⟨b, cond (Nat.beq m l) o (Nat.add o (Nat.mul l n)), none⟩) (Nat.sub h l) (Nat.sub m l)))

def slKnown (b o n len cap : Nat) (lo hi mx : Option Value) : Option Value :=
  match mx with
  | none => match eboundO hi len cap with
    | some h => match eboundO lo 0 h with
      | some l => slFin b o n l h cap
      | none => none
    | none => none
  | some mv => match ebound mv cap with
    | some m => match hi with
      | some hv => match ebound hv m with
        | some h => match eboundO lo 0 h with
          | some l => slFin b o n l h m
          | none => none
        | none => none
      | none => none
    | none => none

def slOpen (b o n len room : Nat) (lo hi mx : Option Value) : Option Value :=
  match mx with
  | none => match eboundO hi len (max len room) with
    | some h => match eboundO lo 0 h with
      | some l => some (.slice (some ⟨b, Nat.add o (Nat.mul l n), none⟩) (Nat.sub h l) capU)
      | none => none
    | none => none
  | some mv => match len with
    | 0 => none
    | _ + 1 => match ebound mv len with
      | some m => match hi with
        | some hv => match ebound hv m with
          | some h => match eboundO lo 0 h with
            | some l => slFin b o n l h m
            | none => none
          | none => none
        | none => none
      | none => none

def slNil (len cap : Nat) (lo hi mx : Option Value) : Option Value :=
  match mx with
  | none => match len with
    | 0 => match cap with
      | 0 => match eboundO hi 0 0 with
        | some h => match eboundO lo 0 h with
          | some _ => some (.slice none 0 0)
          | none => none
        | none => none
      | _ + 1 => none
    | _ + 1 => none
  | some _ => none

def slSlice (e n : Nat) (x : Value) (lo hi mx : Option Value) (S : St) : Option Value :=
  match x with
  | .slice none len cap => slNil len cap lo hi mx
  | .slice (some ⟨b, o, none⟩) len cap =>
    cond (Nat.beq cap capU) (match roomAt S b o e n with
      | some r => slOpen b o n len r lo hi mx
      | none => none) (slKnown b o n len cap lo hi mx)
  | _ => none

def slArr (len n : Nat) (x : Value) (lo hi mx : Option Value) (_ : St) : Option Value :=
  match x with
  | .pointer (some ⟨b, o, none⟩) => slKnown b o n len len lo hi mx
  | _ => none

def noSl (_ : Value) (_ _ _ : Option Value) (_ : St) : Option Value := none

def eslice (t : TypeId) : W (Value → Option Value → Option Value → Option Value → St → Option Value) :=
  match P.underlying t with
  | some .string => ⟨slStr⟩
  | some (.slice e) => match szT P e with
    | some n => ⟨slSlice e n⟩
    | none => ⟨noSl⟩
  | some (.array len e) => match szT P e with
    | some n => ⟨slArr len n⟩
    | none => ⟨noSl⟩
  | _ => ⟨noSl⟩

/-! Equality, arithmetic. -/

def minN (a b : Nat) : Nat := cond (Nat.ble a b) a b

def eqB : List UInt8 → List UInt8 → Bool
  | [], [] => true
  | a :: x, b :: y => cond (Nat.beq a.toNat b.toNat) (eqB x y) false
  | _, _ => false

def eqI : Int → Int → Bool
  | .ofNat a, .ofNat b => Nat.beq a b
  | .negSucc a, .negSucc b => Nat.beq a b
  | _, _ => false

def leI : Int → Int → Bool
  | .ofNat a, .ofNat b => Nat.ble a b
  | .negSucc a, .negSucc b => Nat.ble b a
  | .negSucc _, .ofNat _ => true
  | .ofNat _, .negSucc _ => false

def eqBool : Bool → Bool → Bool
  | true, b => b
  | false, b => not b

def eqK (a b : IntKind) : Bool := match a, b with
  | .i8, .i8 | .i16, .i16 | .i32, .i32 | .i64, .i64 | .u8, .u8 | .u16, .u16 | .u32, .u32 | .u64, .u64 => true
  | _, _ => false

def eeqF (rec : TypeId → Value → Value → Option Bool) : List Field → List Value → List Value → Option Bool
  | [], _, _ => some true
  | f :: fs, xs, ys =>
    cond (decide (f.name = "_")) none
    (match (epart P f.type).run f.offset xs, (epart P f.type).run f.offset ys with
    | some a, some b => match rec f.type a b with
      | some true => eeqF rec fs xs ys
      | r => r
    | _, _ => none)

/-- Equality, decided where no address has to be looked at. -/
def eeq : Nat → TypeId → W (Value → Value → Option Bool)
  | 0, _ => ⟨fun _ _ => none⟩
  | d + 1, t =>
    match P.underlying t with
    | some .bool => ⟨fun x y => match x, y with
      | .bool a, .bool b => some (eqBool a b)
      | _, _ => none⟩
    | some (.int _) => ⟨fun x y => match x, y with
      | .int k a, .int k' b => cond (eqK k k') (some (eqI a b)) none
      | _, _ => none⟩
    | some .string => ⟨fun x y => match x, y with
      | .string a, .string b => some (eqB a.data.toList b.data.toList)
      | _, _ => none⟩
    | some (.pointer e) => match szT P e with
      | some n => ⟨fun x y => match x, y with
        | .pointer none, .pointer none => some true
        | .pointer none, .pointer (some _) => some false
        | .pointer (some _), .pointer none => some false
        | .pointer (some ⟨b, o, none⟩), .pointer (some ⟨b', o', none⟩) => cond (Nat.beq b b' && Nat.ble 1 n) (some (Nat.beq o o')) none
        | _, _ => none⟩
      | none => ⟨fun _ _ => none⟩
    | some (.interface _) => ⟨fun x y => match x, y with
      | .nilIface, .nilIface => some true
      | .nilIface, .iface _ _ => some false
      | .iface _ _, .nilIface => some false
      | .iface tx vx, .iface ty vy => cond (Nat.beq tx ty)
        (match P.info? tx with
        | some i => cond i.comparable ((eeq d tx).run vx vy) none
        | none => none) (some false)
      | _, _ => none⟩
    | some (.slice _) => ⟨fun x y => match x, y with
      | .slice none _ _, .slice none _ _ => some true
      | .slice none _ _, .slice (some _) _ _ => some false
      | .slice (some _) _ _, .slice none _ _ => some false
      | _, _ => none⟩
    | some (.map _ _) => ⟨fun x y => match x, y with
      | .map none, .map none => some true
      | .map none, .map (some _) => some false
      | .map (some _), .map none => some false
      | _, _ => none⟩
    | some (.func _ _ _) => ⟨fun x y => match x, y with
      | .nilFunc, .nilFunc => some true
      | .nilFunc, .func _ _ _ => some false
      | .func _ _ _, .nilFunc => some false
      | _, _ => none⟩
    | some (.struct fs) => match P.stoodInHeld t with
      | true => ⟨fun _ _ => none⟩
      | false => ⟨fun x y => match x, y with
        | .agg xs, .agg ys => eeqF P (fun t => (eeq d t).run) fs.toList xs.toList ys.toList
        | _, _ => none⟩
    | _ => ⟨fun _ _ => none⟩

def isC : Operand → Bool
  | .const _ => true
  | _ => false

def eeql (t : TypeId) (c : Bool) : Value → Value → Option Bool :=
  fun x y => match x, y with
  | .nilIface, .nilIface => match c with
    | true => (eeq P 100 t).run x y
    | false => none
  | .agg _, .agg _ => match P.eqGuardType P.depth t with
    | true => none
    | false => (eeq P 100 t).run x y
  | _, _ => (eeq P 100 t).run x y

/-- Is it of the kind already? -/
def fitsK (k : IntKind) (n : Int) : Bool :=
  match k, n with
  | .i64, .ofNat m => Nat.ble m 9223372036854775807
  | .i64, .negSucc m => Nat.ble m 9223372036854775807
  | .u64, .ofNat m => Nat.ble m 18446744073709551615
  | .i32, .ofNat m => Nat.ble m 2147483647
  | .i32, .negSucc m => Nat.ble m 2147483647
  | .u32, .ofNat m => Nat.ble m 4294967295
  | .u8, .ofNat m => Nat.ble m 255
  | _, _ => false

def wrapK (k : IntKind) (n : Int) : Int := cond (fitsK k n) n (k.wrap n)

def bytesLt : List UInt8 → List UInt8 → Bool
  | _, [] => false
  | [], _ :: _ => true
  | a :: x, b :: y => cond (Nat.beq a.toNat b.toNat) (bytesLt x y) (Nat.ble (Nat.succ a.toNat) b.toNat)

def bInt (f : IntKind → Int → Int → Option Value) (x y : Value) : Option Value :=
  match x with
  | .int k a => match y with
    | .int k' b => cond (eqK k k') (f k a b) none
    | _ => none
  | _ => none

def bIntS (f : IntKind → Int → Int → Option Value) (g : List UInt8 → List UInt8 → Bool) (x y : Value) : Option Value :=
  match x with
  | .int k a => match y with
    | .int k' b => cond (eqK k k') (f k a b) none
    | _ => none
  | .string a => match y with
    | .string b => some (.bool (g a.data.toList b.data.toList))
    | _ => none
  | _ => none

def bStr (g : List UInt8 → List UInt8 → Bool) (x y : Value) : Option Value :=
  match x with
  | .string a => match y with
    | .string b => some (.bool (g a.data.toList b.data.toList))
    | _ => none
  | _ => none

def bNot (r : Option Bool) : Option Value := match r with
  | some b => some (.bool (not b))
  | none => none
def bYes (r : Option Bool) : Option Value := match r with
  | some b => some (.bool b)
  | none => none

/-- An integer's low bits, as a number. -/
def loB (k : IntKind) (n : Int) : Nat :=
  match n with
  | .ofNat m => Nat.mod m (Nat.pow 2 k.bits)
  | .negSucc m => Nat.sub (Nat.sub (Nat.pow 2 k.bits) 1) (Nat.mod m (Nat.pow 2 k.bits))

def ebin (op : BinOp) (t : TypeId) (c : Bool) : W (Value → Value → Option Value) :=
  match op with
  | .add => ⟨fun x y => match x with
    | .int k a => match y with
      | .int k' b => cond (eqK k k') (intK (wrapK k (Int.add a b)) fun q => some (.int k q)) none
      | _ => none
    | .string a => match y with
      | .string b => cond (Nat.ble (Nat.add a.size b.size) 9223372036854775807) (some (.string (a ++ b))) none
      | _ => none
    | _ => none⟩
  | .sub => ⟨bInt fun k a b => some (.int k (wrapK k (Int.sub a b)))⟩
  | .mul => ⟨bInt fun k a b => some (.int k (wrapK k (Int.mul a b)))⟩
  | .quo => ⟨fun x y => match x with
    | .complex k u v => match y with
      | .int .i64 b => cond (eqI b 0) none (some (.complex k u v))
      | _ => none
    | _ => bInt (fun k a b => cond (eqI b 0) none (some (.int k (wrapK k (Int.tdiv a b))))) x y⟩
  | .rem => ⟨bInt fun k a b => cond (eqI b 0) none (some (.int k (Int.tmod a b)))⟩
  | .and => ⟨bInt fun k a b => some (.int k (wrapK k (Int.ofNat (Nat.land (loB k a) (loB k b)))))⟩
  | .or => ⟨bInt fun k a b => some (.int k (wrapK k (Int.ofNat (Nat.lor (loB k a) (loB k b)))))⟩
  | .xor => ⟨bInt fun k a b => some (.int k (wrapK k (Int.ofNat (Nat.xor (loB k a) (loB k b)))))⟩
  | .andNot => ⟨fun _ _ => none⟩
  | .shl => ⟨fun x y => match x with
    | .int k a => match y with
      | .int _ b => match b with
        | .ofNat n => some (.int k (wrapK k (Int.mul a (Int.ofNat (Nat.pow 2 (minN n k.bits))))))
        | .negSucc _ => none
      | _ => none
    | _ => none⟩
  | .shr => ⟨fun x y => match x with
    | .int k a => match y with
      | .int _ b => match b with
        | .ofNat n => some (.int k (Int.fdiv a (Int.ofNat (Nat.pow 2 (minN n k.bits)))))
        | .negSucc _ => none
      | _ => none
    | _ => none⟩
  | .lss => ⟨fun x y => match y with
    | .complex _ _ _ => match x with
      | .int .i64 _ => some (.chan none)
      | _ => none
    | _ => bIntS (fun _ a b => some (.bool (not (leI b a)))) bytesLt x y⟩
  | .leq => ⟨bIntS (fun _ a b => some (.bool (leI a b))) fun a b => bytesLt a b || eqB a b⟩
  | .gtr => ⟨bIntS (fun _ a b => some (.bool (not (leI a b)))) fun a b => not (bytesLt a b || eqB a b)⟩
  | .geq => ⟨bIntS (fun _ a b => some (.bool (leI b a))) fun a b => not (bytesLt a b)⟩
  | .eql => match P.underlying t with
    | some (.int _) => ⟨bInt fun _ a b => some (.bool (eqI a b))⟩
    | some .string => ⟨bStr eqB⟩
    | _ => ⟨fun x y => bYes (eeql P t c x y)⟩
  | .neq => match P.underlying t with
    | some (.int _) => ⟨bInt fun _ a b => some (.bool (not (eqI a b)))⟩
    | some .string => ⟨bStr fun a b => not (eqB a b)⟩
    | _ => ⟨fun x y => bNot (eeql P t c x y)⟩

def eun (op : UnOp) : W (Value → Option Value) :=
  match op with
  | .neg => ⟨fun x => match x with
    | .int k n => some (.int k (wrapK k (Int.sub 0 n)))
    | _ => none⟩
  | .xor => ⟨fun x => match x with
    | .int k n => some (.int k (wrapK k (Int.ofNat (Nat.xor (loB k (cond k.signed (-1) k.max)) (loB k n)))))
    | _ => none⟩
  | .not => ⟨fun x => match x with
    | .bool b => some (.bool (not b))
    | _ => none⟩
  | .plus => ⟨noV⟩

/-! Conversions. -/

/-- The bytes of cells. -/
def bytesL : List Value → Option (List UInt8)
  | [] => some []
  | x :: l => match x with
    | .int .u8 n => match bytesL l with
      | some r => some (UInt8.ofNat n.toNat :: r)
      | none => none
    | _ => none

/-- The cells of a slice's first n elements, of so many cells. -/
def sliceCells (S : St) (x : Value) (size n : Nat) : Option (List Value) :=
  match x with
  | .slice none _ _ => some []
  | .slice (some ⟨b, o, none⟩) _ _ => match S.heap.get b with
    | some (.cells c _ _ _) => takeL (dropL c o) (Nat.mul n size)
    | _ => none
  | _ => none

def noConv (_ : Value) (_ : St) : OR := .fail

def cvInt (k : IntKind) (x : Value) (S : St) : OR := match x with
  | .int _ n => .val (.int k (wrapK k n)) S
  | _ => .fail
def cvStr (x : Value) (S : St) : OR := match x with
  | .int _ n => .val (.string (Utf8.encode n)) S
  | .string s => .val (.string s) S
  | _ => .fail
def cvPtrU (n : Nat) (x : Value) (S : St) : OR := match x with
  | .pointer (some ⟨b, o, none⟩) => match S.heap.get b with
    | some (.cells c _ _ _) => cond (Nat.ble (Nat.succ o) (lenL c) && Nat.ble 1 n) (.val x S) .fail
    | _ => .fail
  | _ => .fail
def cvUPtr (t n : Nat) (x : Value) (S : St) : OR := match x with
  | .pointer (some ⟨b, o, none⟩) => match S.heap.get b with
    | some (.cells c e false _) => cond (liesAt P P.depth e (Nat.div (lenL c) (P.cellsOf e)) o t 1 && Nat.ble 1 n) (.val x S) .fail
    | _ => .fail
  | _ => .fail
def cvStrB (e : TypeId) (x : Value) (S : St) : OR := match x with
  | .string s => cond (Nat.ble s.size 1099511627776)
      (natK S.next fun b => .val (.slice (some ⟨b, 0, none⟩) s.size capU) ⟨S.heap.set b (.cells (s.data.toList.map byteV) e true capU), Nat.succ b⟩) .fail
  | _ => .fail
def cvBStr (x : Value) (S : St) : OR := match x with
  | .slice a n c => match sliceCells S (.slice a n c) 1 n with
    | some l => match bytesL l with
      | some r => .val (.string ⟨⟨r⟩⟩) S
      | none => .fail
    | none => .fail
  | _ => .fail

def econv (src dst : TypeId) : W (Value → St → OR) :=
  match P.underlying src, P.underlying dst with
  | some (.int _), some (.int k) => ⟨cvInt k⟩
  | some (.int _), some .string => ⟨cvStr⟩
  | some .string, some .string => ⟨cvStr⟩
  | some (.pointer t), some .unsafePointer => match szT P t with
    | some n => ⟨cvPtrU n⟩
    | none => ⟨noConv⟩
  | some .unsafePointer, some (.pointer t) => match szT P t with
    | some n => ⟨cvUPtr P t n⟩
    | none => ⟨noConv⟩
  | some .string, some (.slice e) => match P.underlying e, szT P e with
    | some (.int .u8), some 1 => ⟨cvStrB e⟩
    | _, _ => ⟨noConv⟩
  | some (.slice e), some .string => match P.underlying e with
    | some (.int .u8) => ⟨cvBStr⟩
    | _ => ⟨noConv⟩
  | _, _ => ⟨noConv⟩

def emakeInterface (t : TypeId) : W (Value → Option Value) :=
  match P.underlying t with
  | some (.interface _) => ⟨noV⟩
  | some _ => ⟨fun x => some (.iface t x)⟩
  | none => ⟨noV⟩

def mkS (e bs : Nat) (z : List Value) (len cap : Value) (S : St) : OR :=
  match len, cap with
  | .int _ (.ofNat n), .int _ (.ofNat c) =>
    cond (Nat.ble n c && Nat.ble (Nat.mul c bs) 140737488355328 && Nat.ble c 140737488355328)
      (natK S.next fun b => .val (.slice (some ⟨b, 0, none⟩) n c) ⟨S.heap.set b (.cells (repL c z) e false 0), Nat.succ b⟩) .fail
  | _, _ => .fail

def noMk (_ _ : Value) (_ : St) : OR := .fail

def emakeSlice (t : TypeId) : W (Value → Value → St → OR) :=
  match P.underlying t with
  | some (.slice e) =>
    match szT P e, bytesT P e, zeroT P e with
    | some sz, some bs, some z => match Nat.beq (lenL (cellsL z)) sz with
      | true => ⟨mkS e bs (cellsL z)⟩
      | false => ⟨noMk⟩
    | _, _, _ => ⟨noMk⟩
  | _ => ⟨noMk⟩

/-! Maps. -/

/-- May a value be a key of this type: a number, a string, a truth value? -/
def ckS (t : TypeId) (v : Value) : Bool :=
  match P.underlying t with
  | some (.int _) => match v with
    | .int _ _ => true
    | _ => false
  | some .string => match v with
    | .string _ => true
    | _ => false
  | some .bool => match v with
    | .bool _ => true
    | _ => false
  | _ => false

def ckFs : List Field → List Value → Bool
  | [], _ => true
  | f :: fs, xs => (match nth xs f.offset with
    | some v => ckS P f.type v
    | none => false) && ckFs fs xs

/-- May a value be a key of this type: one of those, or a struct of those? -/
def ckK (t : TypeId) (v : Value) : Bool :=
  match P.underlying t with
  | some (.struct fs) => match v with
    | .agg xs => ckFs P fs.toList xs.toList
    | _ => false
  | _ => ckS P t v

/-- Are two keys the same, bit by bit? -/
def sameCell : Value → Value → Bool
  | .int k a, .int k' b => eqK k k' && eqI a b
  | .string a, .string b => eqB a.data.toList b.data.toList
  | .bool a, .bool b => eqBool a b
  | _, _ => false

def sameCells : List Value → List Value → Bool
  | [], [] => true
  | x :: xs, y :: ys => sameCell x y && sameCells xs ys
  | _, _ => false

def sameKey (x y : Value) : Bool := match x, y with
  | .agg a, .agg b => sameCells a.toList b.toList
  | _, _ => sameCell x y

def keyOf (i : Nat) (es : List MapEntry) : Value := match nth es i with
  | some e => e.key
  | none => .nilIface

/-- A map's entry of a key: its place and value. -/
def findK (kt : TypeId) (k : Value) : List MapEntry → Nat → Option (Option (Nat × Value))
  | [], _ => some none
  | e :: es, i => match (eeq P 100 kt).run k e.key with
    | some true => some (some (i, e.val))
    | some false => findK kt k es (Nat.succ i)
    | none => none

def mapOf (x : Value) (S : St) : Option (List MapEntry) := match x with
  | .map none => some []
  | .map (some b) => match S.heap.get b with
    | some (.map es _) => some es
    | _ => none
  | _ => none

def okV (ok : Bool) (v : Value) (is : Bool) : Value := cond ok (.tuple ⟨[v, .bool is]⟩) v

def lkp (kt : TypeId) (z : Value) (ok : Bool) (x k : Value) (S : St) : Option Value :=
  cond (ckK P kt k)
    (match mapOf x S with
    | some es => match findK P kt k es 0 with
      | some (some (_, v)) => some (okV ok v true)
      | some none => some (okV ok z false)
      | none => none
    | none => none) none

def noLk (_ _ : Value) (_ : St) : Option Value := none

def elookup (t : TypeId) (ok : Bool) : W (Value → Value → St → Option Value) :=
  match P.underlying t with
  | some (.map kt et) => match zeroT P et with
    | some z => ⟨lkp P kt z ok⟩
    | none => ⟨noLk⟩
  | _ => ⟨noLk⟩

def setNth : List MapEntry → Nat → Value → Value → List MapEntry
  | [], _, _, _ => []
  | e :: l, i, k, v => cond (Nat.beq i 0) (⟨k, v, e.born⟩ :: l) (e :: setNth l (Nat.sub i 1) k v)

def mpu (kt : TypeId) (m k v : Value) (S : St) : Option St :=
  match m with
  | .map (some b) =>
    cond (ckK P kt k)
      (match S.heap.get b with
      | some (.map es clock) => match findK P kt k es 0 with
        | some (some (i, _)) => cond (sameKey (keyOf i es) k) (some ⟨S.heap.set b (.map (setNth es i k v) clock), S.next⟩) none
        | some none => some ⟨S.heap.set b (.map (es ++ [⟨k, v, clock⟩]) (Nat.succ clock)), S.next⟩
        | none => none
      | _ => none) none
  | _ => none

def noMpu (_ _ _ : Value) (_ : St) : Option St := none

def emapUpdate (t : TypeId) : W (Value → Value → Value → St → Option St) :=
  match P.underlying t with
  | some (.map kt _) => ⟨mpu P kt⟩
  | _ => ⟨noMpu⟩

def eraseNth : List MapEntry → Nat → List MapEntry
  | [], _ => []
  | e :: l, i => cond (Nat.beq i 0) l (e :: eraseNth l (Nat.sub i 1))

def edelete (t : TypeId) (m k : Value) (S : St) : OR :=
  match P.underlying t, m with
  | some (.map kt _), .map (some b) =>
    cond (ckK P kt k)
      (match S.heap.get b with
      | some (.map es clock) => match findK P kt k es 0 with
        | some (some (i, _)) => .val undef ⟨S.heap.set b (.map (eraseNth es i) clock), S.next⟩
        | some none => .val undef S
        | none => .fail
      | _ => .fail) .fail
  | _, _ => .fail

def newIt (o : AObj) (S : St) : OR := natK S.next fun b => .val (ptrTo b) ⟨S.heap.set b o, Nat.succ b⟩

def erange (t : TypeId) (x : Value) (S : St) : OR :=
  match P.underlying t, x with
  | some .string, .string s => newIt (.siter s 0) S
  | some (.map _ _), .map none => newIt (.miter none 0 [] 0) S
  | some (.map _ _), .map (some m) => match S.heap.get m with
    | some (.map _ clock) => newIt (.miter (some m) clock [] clock) S
    | _ => .fail
  | _, _ => .fail

def memN (n : Nat) : List Nat → Bool
  | [] => false
  | x :: l => Nat.beq x n || memN n l

/-- Which entries may come next: those that were there and have not been told, new ones. -/
def leftE (since : Nat) (seen : List Nat) : List MapEntry → List MapEntry × List MapEntry
  | [] => ([], [])
  | e :: l => match leftE since seen l with
    | (o, n) => cond (memN e.born seen) (o, n) (cond (Nat.ble since e.born) (o, e :: n) (e :: o, n))

def allBorn (last : Nat) : List MapEntry → Bool
  | [] => true
  | e :: l => Nat.ble last e.born && allBorn last l

def isNilL {α : Type} : List α → Bool
  | [] => true
  | _ :: _ => false

def enextM (r m since : Nat) (seen : List Nat) (last : Nat) (S : St) : OR :=
  match S.heap.get m with
  | some (.map es clock) =>
    cond (not (isNilL seen) && not (isNilL es) && allBorn last es) .fail
      (match leftE since seen es with
      | ([], []) => .val (.tuple ⟨[.bool false]⟩) S
      | ([e], []) => .val (.tuple ⟨[.bool true, e.key, e.val]⟩) ⟨S.heap.set r (.miter (some m) since (seen ++ [e.born]) clock), S.next⟩
      | _ => .fail)
  | _ => .fail

def enext (isString : Bool) (x : Value) (S : St) : OR :=
  match x with
  | .pointer (some ⟨r, 0, none⟩) =>
    match S.heap.get r, isString with
    | some (.siter s pos), true =>
      cond (Nat.ble (Nat.succ pos) s.size)
        (match Utf8.decode s pos with
        | (c, w) => .val (.tuple ⟨[.bool true, .int .i64 (Int.ofNat pos), .int .i32 (Int.ofNat c)]⟩) ⟨S.heap.set r (.siter s (Nat.add pos w)), S.next⟩)
        (.val (.tuple ⟨[.bool false]⟩) S)
    | some (.miter none _ _ _), false => .val (.tuple ⟨[.bool false]⟩) S
    | some (.miter (some m) since seen last), false => enextM r m since seen last S
    | _, _ => .fail
  | _ => .fail

def lastN : List Nat → Option Nat
  | [] => none
  | x :: l => match l with
    | [] => some x
    | _ :: _ => lastN l

def findBorn (n : Nat) : List MapEntry → Option MapEntry
  | [] => none
  | e :: l => cond (Nat.beq e.born n) (some e) (findBorn n l)

def eentry (x : Value) (S : St) : Option Value :=
  match x with
  | .pointer (some ⟨r, 0, none⟩) =>
    match S.heap.get r with
    | some (.miter (some m) _ seen last) => match lastN seen, S.heap.get m with
      | some st, some (.map es clock) => cond (Nat.beq clock last) (match findBorn st es with
        | some e => some (.tuple ⟨[e.key, e.val]⟩)
        | none => none) none
      | _, _ => none
    | _ => none
  | _ => none

/-! Interfaces. -/

def okZ (t : TypeId) (ok : Bool) : Option Value :=
  match ok with
  | true => match zeroT P t with
    | some z => some (.tuple ⟨[z, .bool false]⟩)
    | none => none
  | false => none

def etypeAssert (t : TypeId) (ok : Bool) : W (Value → Option Value) :=
  match P.underlying t with
  | some (.interface want) => ⟨fun x => match x with
    | .nilIface => okZ P t ok
    | .iface d v => match P.info? d with
      | some i => match Instr.missingMethod want i.methods with
        | none => some (okV ok (.iface d v) true)
        | some _ => okZ P t ok
      | none => none
    | _ => none⟩
  | some _ => ⟨fun x => match x with
    | .nilIface => okZ P t ok
    | .iface d v => cond (Nat.beq d t) (some (okV ok v true)) (okZ P t ok)
    | _ => none⟩
  | none => ⟨noV⟩

def eextract (i : Nat) (x : Value) : Option Value :=
  match x with
  | .tuple vs => nth vs.toList i
  | _ => none

/-! Builtins. -/

/-- What is appended: how many elements, their cells. -/
def srcOf (str : Bool) (sz : Nat) (x : Value) (S : St) : Option (Nat × List Value) :=
  match x with
  | .slice none n _ => cond (Nat.beq n 0) (some (0, [])) none
  | .slice (some a) n c => match sliceCells S (.slice (some a) n c) sz n with
    | some l => some (n, l)
    | none => none
  | .string b => match str with
    | true => cond (Nat.beq sz 1) (some (b.size, b.data.toList.map byteV)) none
    | false => none
  | _ => none

def appNew (e len n : Nat) (cs : List Value) (S : St) : OR :=
  natK S.next fun q => natK (Nat.add len n) fun k => .val (.slice (some ⟨q, 0, none⟩) k capU) ⟨S.heap.set q (.cells cs e true 0), Nat.succ q⟩

def appIn (b o sz len n cap : Nat) (new : List Value) (S : St) : OR :=
  match estoreCells S b (Nat.add o (Nat.mul len sz)) new with
  | some S' => natK (Nat.add len n) fun k => .val (.slice (some ⟨b, o, none⟩) k cap) S'
  | none => .fail

def appOpen (e sz b o len n : Nat) (old new : List Value) (S : St) : OR :=
  match S.heap.get b with
  | some (.cells c e' op fz) => cond (op && Nat.beq e e')
      (cond (Nat.beq (lenL c) (Nat.add o (Nat.mul len sz)) && Nat.ble fz (lenL c))
        (natK S.next fun q => natK (Nat.add len n) fun k => .val (.slice (some ⟨q, 0, none⟩) k capU) ⟨(S.heap.del b).set q (.cells (old ++ new) e true (Nat.sub fz o)), Nat.succ q⟩)
        (cond (Nat.ble (Nat.add o (Nat.mul (Nat.add len n) sz)) (lenL c)) (appIn b o sz len n capU new S) .fail)) .fail
  | _ => .fail

def appTo (e sz : Nat) (base : Option Addr) (len cap n : Nat) (old new : List Value) (S : St) : OR :=
  match base with
  | none => match len with
    | 0 => match cap with
      | 0 => appNew e 0 n new S
      | _ + 1 => .fail
    | _ + 1 => .fail
  | some ⟨b, o, none⟩ => cond (Nat.beq cap capU) (appOpen e sz b o len n old new S)
      (cond (Nat.ble (Nat.add len n) cap) (appIn b o sz len n cap new S) (appNew e len n (old ++ new) S))
  | some _ => .fail

def appSame (base : Option Addr) (len cap : Nat) : Bool :=
  match base with
  | none => Nat.beq len 0 && Nat.beq cap 0
  | some _ => Nat.beq cap capU || Nat.ble len cap

def app (str : Bool) (e sz bs : Nat) (s x : Value) (S : St) : OR :=
  match s with
  | .slice base len cap =>
    match srcOf str sz x S with
    | some (n, new) =>
      cond (Nat.beq n 0) (cond (appSame base len cap) (.val s S) .fail)
        (cond (Nat.ble (Nat.mul (Nat.add len n) bs) 17592186044416 && Nat.ble (Nat.add len n) 17592186044416 && oneCells new)
          (match sliceCells S s sz len with
          | none => .fail
          | some old => appTo e sz base len cap n old new S) .fail)
    | none => .fail
  | _ => .fail

def noApp (_ _ : Value) (_ : St) : OR := .fail

def eappend (t0 t1 : TypeId) : W (Value → Value → St → OR) :=
  match P.underlying t0, P.underlying t1 with
  | some (.slice e), some d1 =>
    match szT P e, bytesT P e, zeroT P e with
    | some sz, some bs, some z =>
      match (Nat.ble 1 sz && Nat.ble 1 bs && Nat.beq (lenL (cellsL z)) sz) with
      | true => match d1 with
        | .slice _ => ⟨app false e sz bs⟩
        | .string => ⟨app true e sz bs⟩
        | _ => ⟨noApp⟩
      | false => ⟨noApp⟩
    | _, _, _ => ⟨noApp⟩
  | _, _ => ⟨noApp⟩

def lenArr (n : Nat) (_ : Value) (_ : St) : Option Value := some (.int .i64 (Int.ofNat n))

def elen (t : TypeId) : W (Value → St → Option Value) :=
  match P.underlying t with
  | some .string => ⟨fun x _ => match x with
    | .string s => some (.int .i64 (Int.ofNat s.size))
    | _ => none⟩
  | some (.array n _) => ⟨lenArr n⟩
  | some (.pointer a) => match P.underlying a with
    | some (.array n _) => ⟨lenArr n⟩
    | _ => ⟨noLd⟩
  | some (.slice _) => ⟨fun x _ => match x with
    | .slice _ n _ => some (.int .i64 (Int.ofNat n))
    | _ => none⟩
  | some (.map _ _) => ⟨fun x S => match mapOf x S with
    | some es => some (.int .i64 (Int.ofNat (lenL es)))
    | none => none⟩
  | _ => ⟨noLd⟩

def emax (gt : Bool) : Value → List Value → Option Value
  | x, [] => some x
  | x, y :: l => match x, y with
    | .int k a, .int _ b => emax gt (.int k (cond (cond gt (leI b a) (leI a b)) a b)) l
    | _, _ => none

def ecopy (t : TypeId) (d s : Value) (S : St) : OR :=
  match P.underlying t, d with
  | some (.slice e), .slice base dl _ =>
    match szT P e, s with
    | some sz, .slice a sl c =>
      match sliceCells S (.slice a sl c) sz (minN sl dl), base with
      | some _, none => .val (.int .i64 (Int.ofNat (minN sl dl))) S
      | some l, some ⟨b, o, none⟩ => match l with
        | [] => .val (.int .i64 (Int.ofNat (minN sl dl))) S
        | _ :: _ => cond (oneCells l) (match estoreCells S b o l with
          | some S' => .val (.int .i64 (Int.ofNat (minN sl dl))) S'
          | none => .fail) .fail
      | _, _ => .fail
    | _, _ => .fail
  | _, _ => .fail

def eclear (t : TypeId) (x : Value) (S : St) : OR :=
  match P.underlying t, x with
  | some (.slice _), .slice _ 0 _ => .val undef S
  | some (.slice e), .slice (some ⟨b, o, none⟩) n _ => match zeroT P e, szT P e with
    | some z, some sz => cond (Nat.beq (lenL (cellsL z)) sz && oneCells (cellsL z)) (match estoreCells S b o (repL n (cellsL z)) with
      | some S' => .val undef S'
      | none => .fail) .fail
    | _, _ => .fail
  | _, _ => .fail

def esliceData (x : Value) : Option Value :=
  match x with
  | .slice none _ _ => some (.pointer none)
  | .slice (some ⟨b, o, none⟩) n c => cond (Nat.ble 1 n && Nat.ble 1 c) (some (.pointer (some ⟨b, o, none⟩))) none
  | _ => none

def eunsafeString (t : TypeId) (p l : Value) (S : St) : OR :=
  match p, l with
  | .pointer _, .int _ (.ofNat 0) => .val (.string ⟨⟨[]⟩⟩) S
  | .pointer (some ⟨b, o, none⟩), .int _ (.ofNat n) =>
    match P.underlying t, S.heap.get b with
    | some (.pointer u), some (.cells c e op fz) =>
      cond (Nat.beq u e && (match P.underlying e with | some (.int .u8) => true | _ => false) && (match szT P e with | some 1 => true | _ => false) && Nat.ble n 1099511627776)
        (match takeL (dropL c o) n with
        | some cs => match bytesL cs with
          | some r => .val (.string ⟨⟨r⟩⟩) ⟨S.heap.set b (.cells c e op (max fz (Nat.add o n))), S.next⟩
          | none => .fail
        | none => .fail) .fail
    | _, _ => .fail
  | _, _ => .fail

def optV (r : Option Value) (S : St) : OR := Option.rec (motive := fun _ => OR) .fail (fun v => .val v S) r
def optS (r : Option St) : OR := Option.rec (motive := fun _ => OR) .fail (fun S => .val undef S) r

def noB (_ : List Value) (_ : St) : OR := .fail

def bi1 (f : Value → St → OR) (args : List Value) (S : St) : OR := match args with
  | x :: l => match l with
    | [] => f x S
    | _ :: _ => .fail
  | [] => .fail
def bi2 (f : Value → Value → St → OR) (args : List Value) (S : St) : OR := match args with
  | x :: l => match l with
    | y :: l => match l with
      | [] => f x y S
      | _ :: _ => .fail
    | [] => .fail
  | [] => .fail

def ebuiltin (b : Builtin) (ts : List TypeId) : W (List Value → St → OR) :=
  match b, ts with
  | .append, [t0, t1] => ⟨bi2 (eappend P t0 t1).run⟩
  | .len, [t] => ⟨bi1 fun x S => optV ((elen P t).run x S) S⟩
  | .max, _ => ⟨fun args S => match args with
    | x :: l => optV (emax true x l) S
    | [] => .fail⟩
  | .min, _ => ⟨fun args S => match args with
    | x :: l => optV (emax false x l) S
    | [] => .fail⟩
  | .copy, [t, _] => ⟨bi2 (ecopy P t)⟩
  | .delete, [t, _] => ⟨bi2 (edelete P t)⟩
  | .clear, [t] => ⟨bi1 (eclear P t)⟩
  | .recover, _ => ⟨fun args S => match args with
    | [] => .val .nilIface S
    | _ :: _ => .fail⟩
  | .unsafeSliceData, _ => ⟨bi1 fun x S => optV (esliceData x) S⟩
  | .unsafeString, t :: _ => ⟨bi2 (eunsafeString P t)⟩
  | .cap, [t] => match P.underlying t with
    | some (.slice _) => ⟨bi1 fun x S => match x with
      | .slice _ _ c => cond (Nat.beq c capU) (.val (.complex .f64 0 0) S) (.val (.int .i64 (Int.ofNat c)) S)
      | _ => .fail⟩
    | _ => ⟨noB⟩
  | _, _ => ⟨noB⟩

/-! Methods by name. -/

/-- A way through fields to where a method's receiver lies. -/
def efollow : List FieldStep → TypeId → W (Bool → Value → St → Option (TypeId × Bool × Value))
  | [], t => ⟨fun isVar v _ => some (t, isVar, v)⟩
  | s :: rest, t =>
    match fieldOf P s.struct s.index with
    | none => ⟨fun _ _ _ => none⟩
    | some f =>
      match szT P f.type with
      | none => ⟨fun _ _ _ => none⟩
      | some n => match Nat.beq n 0, s.deref with
        | true, _ => ⟨fun _ _ _ => none⟩
        | false, true => ⟨fun isVar v S =>
          match (match isVar with | true => (eload P t).run v S | false => some v : Option Value) with
          | some p => match offPtr f.offset p with
            | some q => (efollow rest f.type).run true q S
            | none => none
          | none => none⟩
        | false, false => ⟨fun isVar v S => match isVar with
          | true => match offPtr f.offset v with
            | some q => (efollow rest f.type).run true q S
            | none => none
          | false => match v with
            | .agg cs => match (epart P f.type).run f.offset cs.toList with
              | some p => (efollow rest f.type).run false p S
              | none => none
            | _ => none⟩

def placeGet (t : TypeId) (isVar : Bool) (v : Value) (S : St) : Option Value :=
  match isVar with
  | true => (eload P t).run v S
  | false => some v

def methodOf (name : String) : List Method → Option Method
  | [] => none
  | m :: l => cond (decide (m.name = name)) (some m) (methodOf name l)

def recvOf (xt : TypeId) (ptr isVar : Bool) (v : Value) (S : St) : Option Value :=
  match P.underlying xt, ptr with
  | some (.pointer _), true => placeGet P xt isVar v S
  | some (.pointer e), false => match placeGet P xt isVar v S with
    | some p => (eload P e).run p S
    | none => none
  | some _, true => match isVar with
    | true => some v
    | false => none
  | some _, false => placeGet P xt isVar v S
  | none, _ => none

def methIn (t : TypeId) (m : Method) : W (Value → St → Option (FuncId × Value)) :=
  match m.func with
  | none => ⟨fun _ _ => none⟩
  | some (f, ptr) => ⟨fun v S => match (efollow P m.path.toList t).run false v S with
    | none => none
    | some (xt, isVar, x) => match recvOf P xt ptr isVar x S with
      | some r => some (f, r)
      | none => none⟩

def emethod (t : TypeId) (name : String) : W (Value → St → Option (FuncId × Value)) :=
  match P.info? t with
  | none => ⟨fun _ _ => none⟩
  | some i => match methodOf name i.methods.toList with
    | none => ⟨fun _ _ => none⟩
    | some m => methIn P t m

/-! Operations. -/

abbrev OpF := W (CallF → Tr Value → St → OR)

def callee (c : Call) (args : Tr Value → Option (List Value)) : OpF :=
  match c.callee with
  | .builtin b => ⟨fun _ E S => match args E with
    | some l => (ebuiltin P b c.argTypes.toList).run l S
    | none => .fail⟩
  | .invoke r name => ⟨fun call E S => match args E with
    | some l => match (evC r).run E with
      | some x => match x with
        | .iface t v => match (emethod P t name).run v S with
          | some (f, y) => call (.fn f) (y :: l) S
          | none => .fail
        | _ => .fail
      | none => .fail
    | none => .fail⟩
  | .value g => ⟨fun call E S => match args E with
    | some l => match (evC g).run E with
      | some x => match x with
        | .func (.func f) first captured => call (.fn f) (first.toList ++ (l ++ captured.toList)) S
        | .func (.yield k) first _ => call (.round k) (first.toList ++ l) S
        | _ => .fail
      | none => .fail
    | none => .fail⟩

def edefer (c : Call) (args : Tr Value → Option (List Value)) : OpF :=
  match c.callee with
  | .value g => ⟨fun _ E _ => match args E with
    | some l => match (evC g).run E with
      | some x => match x with
        | .func (.func f) first captured => .dfr ⟨.fn (.func f) captured, ⟨first.toList ++ l⟩⟩
        | _ => .fail
      | none => .fail
    | none => .fail⟩
  | _ => ⟨fun _ _ _ => .fail⟩

def f1 (x : Operand) (k : Value → St → OR) : OpF := ⟨fun _ E S => Option.rec (motive := fun _ => OR) .fail (fun v => k v S) ((evC x).run E)⟩
def f2 (x y : Operand) (k : Value → Value → St → OR) : OpF := ⟨fun _ E S => Option.rec (motive := fun _ => OR) .fail (fun v =>
  Option.rec (motive := fun _ => OR) .fail (fun w => k v w S) ((evC y).run E)) ((evC x).run E)⟩
def f3 (x y z : Operand) (k : Value → Value → Value → St → OR) : OpF := ⟨fun _ E S => Option.rec (motive := fun _ => OR) .fail (fun v =>
  Option.rec (motive := fun _ => OR) .fail (fun w => Option.rec (motive := fun _ => OR) .fail (fun u => k v w u S) ((evC z).run E)) ((evC y).run E)) ((evC x).run E)⟩

def noOp : OpF := ⟨fun _ _ _ => .fail⟩

def evO : Option Operand → W (Tr Value → Option (Option Value))
  | none => ⟨fun _ => some none⟩
  | some x => ⟨fun E => match (evC x).run E with
    | some v => some (some v)
    | none => none⟩

def mkMap (S : St) : OR := natK S.next fun b => .val (.map (some b)) ⟨S.heap.set b (.map [] 0), Nat.succ b⟩

def kV (v : Value) (S : St) : OR := .val v S
def k1 (f : Value → Option Value) (v : Value) (S : St) : OR := optV (f v) S
def k2 (f : Value → Value → Option Value) (v w : Value) (S : St) : OR := optV (f v w) S
def k1S (f : Value → St → Option Value) (v : Value) (S : St) : OR := optV (f v S) S
def k2S (f : Value → Value → St → Option Value) (v w : Value) (S : St) : OR := optV (f v w S) S
def k2U (f : Value → Value → St → Option St) (v w : Value) (S : St) : OR := optS (f v w S)
def k3U (f : Value → Value → Value → St → Option St) (v w u : Value) (S : St) : OR := optS (f v w u S)
def kNil (v : Value) (S : St) : OR := match v with
  | .pointer a => match a with
    | some _ => .val v S
    | none => .fail
  | .iface _ _ => .val v S
  | .func (.func _) _ _ => .val v S
  | _ => .fail
def allocC (t : TypeId) (cs : List Value) (S : St) : OR := natK S.next fun b => .val (ptrTo b) ⟨S.heap.set b (.cells cs t false 0), Nat.succ b⟩
def kBox (t : TypeId) (v : Value) (S : St) : OR := allocC t (cellsL v) S
def kMap (v : Value) (S : St) : OR := match v with
  | .int _ _ => mkMap S
  | _ => .fail

def eop (o : Oper) : OpF :=
  match o.op with
  | .move x | .assign x => f1 x kV
  | .pick c a b => ⟨fun _ E S => match (evC c).run E with
    | some x => match x with
      | .bool t => match t with
        | true => optV ((evC a).run E) S
        | false => optV ((evC b).run E) S
      | _ => .fail
    | none => .fail⟩
  | .alloc t => match zeroT P t with
    | some z => ⟨fun _ _ S => allocC t (cellsL z) S⟩
    | none => noOp
  | .box t x => f1 x (kBox t)
  | .build t ps => ⟨fun _ E S => match (evpC ps.toList).run E with
    | some l => optV ((ebuild P t).run l) S
    | none => .fail⟩
  | .buildSlice t n ps => ⟨fun _ E S => match (evpC ps.toList).run E with
    | some l => (ebuildSlice P t n).run l S
    | none => .fail⟩
  | .load t a => f1 a (k1S (eload P t).run)
  | .store t a x => f2 a x (k2U (estore P t).run)
  | .nilCheck x => f1 x kNil
  | .binOp op t x y _ => f2 x y (k2 (ebin P op t (isC x || isC y)).run)
  | .unOp op _ x => f1 x (k1 (eun op).run)
  | .convert s d x => f1 x (econv P s d).run
  | .makeInterface t x => f1 x (k1 (emakeInterface P t).run)
  | .makeFunc f a b => match f with
    | .func g => ⟨fun _ E S => match (evsC a.toList).run E with
      | some la => match (evsC b.toList).run E with
        | some lb => .val (.func (.func g) ⟨la⟩ ⟨lb⟩) S
        | none => .fail
      | none => .fail⟩
    | _ => noOp
  | .makeMap t r => match r with
    | none => ⟨fun _ _ S => mkMap S⟩
    | some x => match P.underlying t with
      | some (.map _ _) => f1 x kMap
      | _ => noOp
  | .makeSlice t l c => f2 l c (emakeSlice P t).run
  | .slice t x lo hi mx => ⟨fun _ E S => match (evC x).run E with
    | some v => match (evO lo).run E with
      | some l => match (evO hi).run E with
        | some h => match (evO mx).run E with
          | some m => optV ((eslice P t).run v l h m S) S
          | none => .fail
        | none => .fail
      | none => .fail
    | none => .fail⟩
  | .fieldAddr t x f => f1 x (k1 (efieldAddr P t f).run)
  | .field t x f => f1 x (k1 (efield P t f).run)
  | .indexAddr t x i => f2 x i (k2 (eindexAddr P t).run)
  | .index t x i => f2 x i (k2 (eindex P t).run)
  | .lookup t x i ok => f2 x i (k2S (elookup P t ok).run)
  | .mapUpdate t m k x | .insert t m k x => f3 m k x (k3U (emapUpdate P t).run)
  | .range t x => f1 x (erange P t)
  | .next it s => f1 it (enext s)
  | .entry it => f1 it (k1S eentry)
  | .typeAssert x _ t ok => f1 x (k1 (etypeAssert P t ok).run)
  | .extract x i => f1 x (k1 (eextract i))
  | .call c => callee P c (evsC c.args.toList).run
  | .defer c => edefer c (evsC c.args.toList).run
  | _ => noOp

/-- Is an operation's value wanted, by its guard? -/
def ewanted (ops : List Oper) (o : Oper) : W (Tr Value → Option Bool) :=
  match o.guard with
  | none => ⟨fun _ => some true⟩
  | some (j, want) =>
    match nth ops j with
    | some g => match g.dst with
      | some d => ⟨fun E => match (getP (pathOf d)).run E with
        | some x => match x with
          | .bool b => some (eqBool b want)
          | .chan _ => none
          | _ => some false
        | none => some false⟩
      | none => ⟨fun _ => some false⟩
    | none => ⟨fun _ => some false⟩

inductive Out where
  | normal
  | exit (i : Nat)
  | goto (l : Nat)
  | ret

inductive CR where
  | fail
  | ok (o : Out) (E : Tr Value) (D : List Deferred) (S : St)

abbrev CodeF := Tr Value → List Deferred → St → CR

def putE (nt : Nat) : Option Tmp → W (Tr Value → Value → Tr Value)
  | some d => match Nat.ble (Nat.succ d) nt with
    | true => ⟨fun E v => (setP (pathOf d)).run v E⟩
    | false => ⟨fun E _ => E⟩
  | none => ⟨fun E _ => E⟩

def isDfr (o : Oper) : Bool := match o.op with
  | .defer _ => true
  | _ => false

/-- Operations one behind the other. -/
def eops (nt : Nat) (ops : List Oper) : List Oper → W (CallF → CodeF)
  | [] => ⟨fun _ E D S => .ok .normal E D S⟩
  | o :: rest => match o.guard with
    | none => ⟨fun call E D S => OR.rec (motive := fun _ => CR) .fail
        (fun v S' => (eops nt ops rest).run call ((putE nt o.dst).run E v) D S')
        (fun d => cond (isDfr o) ((eops nt ops rest).run call ((putE nt o.dst).run E undef) (d :: D) S) .fail) ((eop P o).run call E S)⟩
    | some _ => ⟨fun call E D S => match (ewanted ops o).run E with
      | some w => match w with
        | true => OR.rec (motive := fun _ => CR) .fail
          (fun v S' => (eops nt ops rest).run call ((putE nt o.dst).run E v) D S')
          (fun d => cond (isDfr o) ((eops nt ops rest).run call ((putE nt o.dst).run E undef) (d :: D) S) .fail) ((eop P o).run call E S)
        | false => (eops nt ops rest).run call ((putE nt o.dst).run E undef) D S
      | none => .fail⟩

/-! Regions that draw their order. -/

def bitS (m i : Nat) : Bool := Nat.beq (Nat.land (Nat.shiftRight m i) 1) 1
def bit (i : Nat) : Nat := Nat.shiftLeft 1 i

/-- What an edge asks, in any order. -/
def bindsAny (e : Edge) : Bool := match e.ground with
  | .textOnly _ | .gcOnly _ => false
  | _ => true

/-- The operations that are ahead of one with these edges: numbers below i alone. -/
def ancOf (ms : Tr Nat) (i : Nat) : List Edge → Option Nat
  | [] => some 0
  | e :: l => match ancOf ms i l with
    | none => none
    | some m => cond (bindsAny e) (cond (Nat.ble (Nat.succ e.on) i) (match ms.get e.on with
        | some k => some (Nat.lor m (Nat.lor k (bit e.on)))
        | none => none) none) (some m)

def mkAnc : List Oper → Nat → Tr Nat → Option (Tr Nat)
  | [], _, ms => some ms
  | o :: l, i, ms => match ancOf ms i o.after.toList with
    | some m => mkAnc l (Nat.succ i) (ms.set i m)
    | none => none

inductive Cls where
  | pure | reads | allocs | heavy

def clsOf (o : Oper) : Cls :=
  match o.op with
  | .move _ | .assign _ | .pick _ _ _ | .build _ _ | .nilCheck _ | .unOp _ _ _ | .makeInterface _ _ | .makeFunc _ _ _
  | .fieldAddr _ _ _ | .field _ _ _ | .indexAddr _ _ _ | .index _ _ _ | .typeAssert _ _ _ _ | .extract _ _ | .binOp _ _ _ _ _ => .pure
  | .load _ _ | .lookup _ _ _ _ | .slice _ _ _ _ _ => .reads
  | .alloc _ | .box _ _ | .buildSlice _ _ _ | .makeMap _ _ | .makeSlice _ _ _ => .allocs
  | .convert s d _ => match P.underlying s, P.underlying d with
    | some (.slice _), _ | some (.pointer _), _ | some .unsafePointer, _ => .reads
    | _, some (.slice _) => .allocs
    | _, _ => .pure
  | .call c => match c.callee with
    | .builtin .len => .reads
    | .builtin .max | .builtin .min => .pure
    | _ => .heavy
  | _ => .heavy

/-- A step of a plan: an operation's number, itself; of one that reads: how many of the heavy ones are surely ahead of it. -/
inductive PS where
  | pure (i : Nat) (o : Oper)
  | reads (i : Nat) (o : Oper) (lo : Nat)
  | allocs (i : Nat) (o : Oper)
  | heavy (i : Nat) (o : Oper)

/-- How many of the heavy ones (in their order) are in a set, from the first on. -/
def countH (m : Nat) : List Nat → Nat
  | [] => 0
  | h :: l => cond (bitS m h) (Nat.succ (countH m l)) 0

def lightStep (hs : List Nat) (m i : Nat) (o : Oper) : PS :=
  match clsOf P o with
  | .pure => .pure i o
  | .reads => .reads i o (countH m hs)
  | .allocs => .allocs i o
  | .heavy => .heavy i o

/-- Of the operations from i on: the light ones in the set w that are not done. -/
def lights (ms : Tr Nat) (hs : List Nat) (w done : Nat) : List Oper → Nat → List PS × Nat
  | [], _ => ([], 0)
  | o :: l, i =>
    match lights ms hs w done l (Nat.succ i) with
    | (ps, d) => match clsOf P o with
      | .heavy => (ps, d)
      | _ => cond (bitS w i && not (bitS done i)) (lightStep P hs ((ms.get i).getD 0) i o :: ps, Nat.lor d (bit i)) (ps, d)

def planH (ops : List Oper) (ms : Tr Nat) (hs : List Nat) : List Nat → Nat → Option (List PS)
  | [], done => some (lights P ms hs (Nat.sub (bit (lenL ops)) 1) done ops 0).1
  | h :: rest, done =>
    match nth ops h, ms.get h with
    | some o, some m =>
      match lights P ms hs m done ops 0 with
      | (ps, d) => match planH ops ms hs rest (Nat.lor (Nat.lor done d) (bit h)) with
        | some r => some (ps ++ (.heavy h o :: r))
        | none => none
    | _, _ => none

def heavies : List Oper → Nat → List Nat
  | [], _ => []
  | o :: l, i => match clsOf P o with
    | .heavy => i :: heavies l (Nat.succ i)
    | _ => heavies l (Nat.succ i)

/-- Is each heavy one behind the one ahead of it? -/
def chainH (ms : Tr Nat) : List Nat → Bool
  | [] => true
  | a :: l => match l with
    | [] => true
    | b :: _ => bitS ((ms.get b).getD 0) a && chainH ms l

/-- The temporaries that an operation looks at. -/
def looks (ops : List Oper) (o : Oper) : List Tmp :=
  (o.op.operands.toList.filterMap fun | .tmp t => some t | _ => none) ++
  (match o.guard with
   | some (j, _) => match nth ops j with
     | some g => g.dst.toList
     | none => []
   | none => [])

/-- Operation i (that writes d) and operation j: is their order laid down, where it counts? -/
def apartIJ (ms : Tr Nat) (i d : Nat) : List (Nat × Oper × List Tmp) → Bool
  | [] => true
  | (j, o, lk) :: l =>
    (Nat.beq i j || ((match o.dst with | some d' => not (Nat.beq d d') | none => true) &&
      (not (memN d lk) || bitS ((ms.get j).getD 0) i || bitS ((ms.get i).getD 0) j))) && apartIJ ms i d l

def apartAll (ms : Tr Nat) (all : List (Nat × Oper × List Tmp)) : List (Nat × Oper × List Tmp) → Bool
  | [] => true
  | (i, o, _) :: l => (match o.dst with | some d => apartIJ ms i d all | none => true) && apartAll ms all l

def withLooks (ops : List Oper) : List Oper → Nat → List (Nat × Oper × List Tmp)
  | [], _ => []
  | o :: l, i => (i, o, looks ops o) :: withLooks ops l (Nat.succ i)

def guardsIn (ms : Tr Nat) : List Oper → Nat → Bool
  | [], _ => true
  | o :: l, i => (match o.guard with | some (j, _) => bitS ((ms.get i).getD 0) j | none => true) && guardsIn ms l (Nat.succ i)

def subM (a b : Nat) : Bool := Nat.beq (Nat.land a b) a

def ancI (ms : Tr Nat) (i : Nat) : Nat := (ms.get i).getD 0

/-- May operation i come here, behind those done? -/
def okI (ms : Tr Nat) (done i : Nat) : Bool := not (bitS done i) && subM (ancI ms i) done

/-- Are the first lo of the heavy ones (hv: the newest first, m of them) surely ahead of operation i? -/
def okLo (ms : Tr Nat) (hv : List Nat) (m i lo : Nat) : Bool :=
  Nat.beq lo 0 || (Nat.ble lo m && (match nth hv (Nat.sub m lo) with
    | some h => bitS (ancI ms i) h
    | none => false))

/-- Is the heavy one ahead surely ahead of operation i? -/
def okHv (ms : Tr Nat) (hv : List Nat) (i : Nat) : Bool := match hv with
  | [] => true
  | h :: _ => bitS (ancI ms i) h

/-- Is a list of steps a plan? -/
def okP (ms : Tr Nat) (full : Nat) : List PS → Nat → Nat → List Nat → Nat → Bool
  | [], done, _, _, _ => Nat.beq done full
  | s :: rest, done, seg, hv, m => match s with
    | .pure i _ => okI ms done i && okP ms full rest (Nat.lor done (bit i)) (Nat.lor seg (bit i)) hv m
    | .reads i _ lo => okI ms done i && (okLo ms hv m i lo && okP ms full rest (Nat.lor done (bit i)) (Nat.lor seg (bit i)) hv m)
    | .allocs i _ => okI ms done i && okP ms full rest (Nat.lor done (bit i)) (Nat.lor seg (bit i)) hv m
    | .heavy i _ => okI ms done i && (subM seg (ancI ms i) && (okHv ms hv i && okP ms full rest (Nat.lor done (bit i)) 0 (i :: hv) (Nat.succ m)))

def plan (ops : List Oper) : Option (List PS) :=
  match mkAnc ops 0 .leaf with
  | none => none
  | some ms =>
    match (chainH ms (heavies P ops 0) && guardsIn ms ops 0 && apartAll ms (withLooks ops ops 0) (withLooks ops ops 0)) with
    | true => match planH P ops ms (heavies P ops 0) (heavies P ops 0) 0 with
      | some ps => match okP ms (Nat.sub (bit (lenL ops)) 1) ps 0 0 [] 0 with
        | true => some ps
        | false => none
      | none => none
    | false => none

/-- Two values, the same by their looks (a false may be wrong). -/
def sameV : Value → Value → Bool
  | .bool a, .bool b => eqBool a b
  | .int k a, .int k' b => eqK k k' && eqI a b
  | .string a, .string b => eqB a.data.toList b.data.toList
  | .pointer none, .pointer none => true
  | .pointer (some ⟨b, o, none⟩), .pointer (some ⟨b', o', none⟩) => Nat.beq b b' && Nat.beq o o'
  | .slice none n c, .slice none n' c' => Nat.beq n n' && Nat.beq c c'
  | .slice (some ⟨b, o, none⟩) n c, .slice (some ⟨b', o', none⟩) n' c' => Nat.beq b b' && Nat.beq o o' && Nat.beq n n' && Nat.beq c c'
  | .map none, .map none => true
  | .map (some a), .map (some b) => Nat.beq a b
  | .nilFunc, .nilFunc => true
  | .nilIface, .nilIface => true
  | _, _ => false

def sameN : List Value → List Value → Bool
  | [], [] => true
  | x :: l, y :: m => sameV x y && sameN l m
  | _, _ => false

def sameA (x y : Value) : Bool := match x, y with
  | .agg a, .agg b => sameN a.toList b.toList
  | .func (.func f) a c, .func (.func g) b d => Nat.beq f g && sameN a.toList b.toList && sameN c.toList d.toList
  | .iface t v, .iface u w => Nat.beq t u && sameV v w
  | x, y => sameV x y

def sameVs : List Value → List Value → Bool
  | [], [] => true
  | x :: l, y :: m => sameA x y && sameVs l m
  | _, _ => false

def sameV2 (x y : Value) : Bool :=
  match x, y with
  | .agg a, .agg b => sameVs a.toList b.toList
  | .tuple a, .tuple b => sameVs a.toList b.toList
  | x, y => sameA x y

/-- Is a reading the same in elder memories, the newest first, so many of them? -/
def sameIn (f : St → OR) (v : Value) : List St → Nat → Bool
  | _, 0 => true
  | [], _ + 1 => false
  | S :: l, n + 1 => match f S with
    | .val v' _ => sameV2 v v' && sameIn f v l n
    | _ => false

abbrev PlanF := CallF → Tr Value → List Deferred → St → St → List St → Nat → CR

/-- A plan's steps. S0: the memory behind the last heavy one; hist: those ahead of it, the newest first, m of them. -/
def eplan (nt : Nat) (ops : List Oper) : List PS → W PlanF
  | [] => ⟨fun _ E D S _ _ _ => .ok .normal E D S⟩
  | .pure _ o :: rest => ⟨fun call E D S S0 hist m =>
    match (ewanted ops o).run E with
    | some w => match w with
      | true => match (eop P o).run call E S0 with
        | .val v _ => (eplan nt ops rest).run call ((putE nt o.dst).run E v) D S S0 hist m
        | _ => .fail
      | false => (eplan nt ops rest).run call ((putE nt o.dst).run E undef) D S S0 hist m
    | none => .fail⟩
  | .reads _ o lo :: rest => ⟨fun call E D S S0 hist m =>
    match (ewanted ops o).run E with
    | some w => match w with
      | true => match (eop P o).run call E S0 with
        | .val v _ => cond (sameIn ((eop P o).run call E) v hist (Nat.sub m lo)) ((eplan nt ops rest).run call ((putE nt o.dst).run E v) D S S0 hist m) .fail
        | _ => .fail
      | false => (eplan nt ops rest).run call ((putE nt o.dst).run E undef) D S S0 hist m
    | none => .fail⟩
  | .allocs _ o :: rest => ⟨fun call E D S S0 hist m =>
    match (ewanted ops o).run E with
    | some w => match w with
      | true => match (eop P o).run call E S with
        | .val v S' => (eplan nt ops rest).run call ((putE nt o.dst).run E v) D S' S0 hist m
        | _ => .fail
      | false => (eplan nt ops rest).run call ((putE nt o.dst).run E undef) D S S0 hist m
    | none => .fail⟩
  | .heavy _ o :: rest => ⟨fun call E D S S0 hist m =>
    match (ewanted ops o).run E with
    | some w => match w with
      | true => match (eop P o).run call E S with
        | .val v S' => (eplan nt ops rest).run call ((putE nt o.dst).run E v) D S' S' (S0 :: hist) (Nat.succ m)
        | .dfr d => cond (isDfr o) ((eplan nt ops rest).run call ((putE nt o.dst).run E undef) (d :: D) S S (S0 :: hist) (Nat.succ m)) .fail
        | .fail => .fail
      | false => (eplan nt ops rest).run call ((putE nt o.dst).run E undef) D S S (S0 :: hist) (Nat.succ m)
    | none => .fail⟩

/-! Code. -/

def eloop (body : CodeF) : Nat → CodeF
  | 0 => fun _ _ _ => .fail
  | n + 1 => fun E D S => match body E D S with
    | .ok o E' D' S' => match o with
      | .normal => eloop body n E' D' S'
      | .exit i => .ok (.exit i) E' D' S'
      | .goto l => .ok (.goto l) E' D' S'
      | .ret => .ok .ret E' D' S'
    | .fail => .fail

/-- A scope's code behind jumps: c is the scope's. -/
def escope (c : Code) (run : Code → CodeF) : Nat → CR → CR
  | 0, _ => .fail
  | n + 1, r => match r with
    | .ok o E D S => match o with
      | .goto l => match findLabel c l with
        | some rest => escope c run n (run rest E D S)
        | none => .ok (.goto l) E D S
      | .normal => .ok .normal E D S
      | .exit i => .ok (.exit i) E D S
      | .ret => .ok .ret E D S
    | .fail => .fail

/-- Does one of them defer, or recover? -/
def defers : List Oper → Bool
  | [] => false
  | o :: l => (match o.op with
    | .defer _ => true
    | .call c => match c.callee with
      | .builtin .recover => true
      | _ => false
    | _ => false) || defers l

def setPs (nt : Nat) : List Tmp → List Value → Tr Value → Option (Tr Value)
  | [], [], E => some E
  | t :: ts, v :: vs, E => setPs nt ts vs ((putE nt (some t)).run E v)
  | _, _, _ => none

def endLp (bd bl : Nat) (E : Tr Value) (D : List Deferred) (r : OR) : CR :=
  match r with
  | .val _ S3 => match S3.heap.get bl with
    | some (.loop st pend nt E2 ps assign body) =>
      cond (Nat.beq st 1) .fail
        (match pend with
        | none => .ok .normal E (⟨.collected bd, ⟨[]⟩⟩ :: D) ⟨S3.heap.set bl (.loop 3 none nt E2 ps assign body), S3.next⟩
        | some (.exit i) => .ok (.exit i) E (⟨.collected bd, ⟨[]⟩⟩ :: D) ⟨S3.heap.set bl (.loop 3 (some (.exit i)) nt E2 ps assign body), S3.next⟩
        | some .ret => .ok .ret E (⟨.collected bd, ⟨[]⟩⟩ :: D) ⟨S3.heap.set bl (.loop 3 (some .ret) nt E2 ps assign body), S3.next⟩
        | _ => .fail)
    | _ => .fail
  | _ => .fail

/-- A loop over a function is begun, its function called, and ended. -/
def erangeFunc (nt : Nat) (f : Operand) (ps : List Tmp) (assign body : Code) : CallF → CodeF :=
  fun call E D S => match (evC f).run E with
    | some x => match x with
      | .func (.func g) first captured =>
        endLp S.next (Nat.succ S.next) E D
          (call (.fn g) (first.toList ++ (.func (.yield (Nat.succ S.next)) ⟨[]⟩ ⟨[]⟩ :: captured.toList))
            ⟨(S.heap.set S.next (.deferred false)).set (Nat.succ S.next) (.loop 0 none nt E ps assign body), Nat.succ (Nat.succ S.next)⟩)
      | _ => .fail
    | none => .fail

def ecode (nt : Nat) (rnd : Bool) : Code → W (CallF → (Code → CodeF) → Nat → CodeF)
  | .skip => ⟨fun _ _ _ E D S => .ok .normal E D S⟩
  | .region _ ops draw => match rnd && defers ops.toList with
    | true => ⟨fun _ _ _ _ _ _ => .fail⟩
    | false => match draw with
      | false => ⟨fun call _ _ E D S => (eops P nt ops.toList ops.toList).run call E D S⟩
      | true => match plan P ops.toList with
        | some ps => ⟨fun call _ _ E D S => (eplan P nt ops.toList ps).run call E D S S [] 0⟩
        | none => ⟨fun _ _ _ _ _ _ => .fail⟩
  | .seq a b => ⟨fun call again fuel E D S => match (ecode nt rnd a).run call again fuel E D S with
    | .ok o E' D' S' => match o with
      | .normal => (ecode nt rnd b).run call again fuel E' D' S'
      | .exit i => .ok (.exit i) E' D' S'
      | .goto l => .ok (.goto l) E' D' S'
      | .ret => .ok .ret E' D' S'
    | .fail => .fail⟩
  | .cond c a b => ⟨fun call again fuel E D S => match (evC c).run E with
    | some x => match x with
      | .bool t => match t with
        | true => (ecode nt rnd a).run call again fuel E D S
        | false => (ecode nt rnd b).run call again fuel E D S
      | _ => .fail
    | none => .fail⟩
  | .block id c => ⟨fun call again fuel E D S => match (ecode nt rnd c).run call again fuel E D S with
    | .ok o E' D' S' => match o with
      | .exit i => cond (Nat.beq i id) (.ok .normal E' D' S') (.ok (.exit i) E' D' S')
      | .normal => .ok .normal E' D' S'
      | .goto l => .ok (.goto l) E' D' S'
      | .ret => .ok .ret E' D' S'
    | .fail => .fail⟩
  | .loop c => ⟨fun call again fuel E D S => eloop ((ecode nt rnd c).run call again fuel) fuel E D S⟩
  | .exit i => ⟨fun _ _ _ E D S => .ok (.exit i) E D S⟩
  | .ret => ⟨fun _ _ _ E D S => .ok .ret E D S⟩
  | .label _ => ⟨fun _ _ _ E D S => .ok .normal E D S⟩
  | .scope c => ⟨fun call again fuel E D S => escope c again fuel ((ecode nt rnd c).run call again fuel E D S)⟩
  | .goto l => ⟨fun _ _ _ E D S => .ok (.goto l) E D S⟩
  | .rangeFunc f ps assign body => match rnd with
    | false => ⟨fun call _ _ E D S => erangeFunc nt f ps.toList assign body call E D S⟩
    | true => ⟨fun _ _ _ _ _ _ => .fail⟩
  | .refuse _ => ⟨fun _ _ _ _ _ _ => .fail⟩

def eagain (nt : Nat) (rnd : Bool) (call : CallF) (fuel : Nat) : Nat → Code → CodeF
  | 0 => fun _ _ _ _ => .fail
  | n + 1 => fun c => (ecode P nt rnd c).run call (eagain nt rnd call fuel n) fuel

def resL : List ResultVar → W (Tr Value → St → Option (List Value))
  | [] => ⟨fun _ _ => some []⟩
  | x :: l => match x with
    | .tmp t => ⟨fun E S => match (evC (.tmp t)).run E with
      | some v => match (resL l).run E S with
        | some r => some (v :: r)
        | none => none
      | none => none⟩
    | .cell a t => ⟨fun E S => match (evC (.tmp a)).run E with
      | some p => match (eload P t).run p S with
        | some v => match (resL l).run E S with
          | some r => some (v :: r)
          | none => none
        | none => none
      | none => none⟩

def argsE : Nat → List Value → Tr Value → Tr Value
  | _, [], E => E
  | i, v :: l, E => argsE (Nat.succ i) l (E.set i v)

def runDefers (call : CallF) : List Deferred → St → Option St
  | [], S => some S
  | d :: ds, S => match d.target with
    | .fn (.func f) captured => match call (.fn f) (d.args.toList ++ captured.toList) S with
      | .val _ S' => runDefers call ds S'
      | _ => none
    | .collected b => match S.heap.get b with
      | some (.deferred false) => runDefers call ds ⟨S.heap.set b (.deferred true), S.next⟩
      | _ => none
    | _ => none

/-- What a hook stands in for: a function's own answer, proved apart. -/
abbrev Hook := FuncId → Option (List Value → St → OR)

def endCall (call : CallF) (rs : List ResultVar) (r : CR) : OR :=
  match r with
  | .ok o E D S => match o with
    | .normal | .ret => match runDefers call D S with
      | some S' => match (resL P rs).run E S' with
        | some l => match l with
          | [v] => .val v S'
          | vs => .val (.tuple ⟨vs⟩) S'
        | none => .fail
      | none => .fail
    | _ => .fail
  | .fail => .fail

/-- A function's body, laid ready. -/
def bodyF (f : FuncId) : Option (W (CallF → (Code → CodeF) → Nat → CodeF) × List ResultVar × Nat) :=
  match nth P.funcs.toList f with
  | some fn => match fn.body with
    | some c => some (ecode P fn.ntmps false c, fn.results.toList, fn.ntmps)
    | none => none
  | none => none

/-- A round begins. -/
def beginRd (l : Nat) (S : St) : Option St :=
  match S.heap.get l with
  | some (.loop st pend nt E ps assign body) => match st with
    | 0 => some ⟨S.heap.set l (.loop 1 pend nt E ps assign body), S.next⟩
    | _ + 1 => none
  | _ => none

def endRd (l : Nat) (jump : Option Code) (S : St) : OR :=
  match S.heap.get l with
  | some (.loop _ _ nt E ps assign body) => match jump with
    | none => .val (.bool true) ⟨S.heap.set l (.loop 0 none nt E ps assign body), S.next⟩
    | some j => .val (.bool false) ⟨S.heap.set l (.loop 2 (some j) nt E ps assign body), S.next⟩
  | _ => .fail

def endRound (l : Nat) (r : CR) : OR :=
  match r with
  | .ok o _ D S => match D with
    | [] => match o with
      | .normal => endRd l none S
      | .exit i => endRd l (some (.exit i)) S
      | .ret => endRd l (some .ret) S
      | .goto _ => .fail
    | _ :: _ => .fail
  | .fail => .fail

/-- A round of a loop over a function. -/
def eround (l : Nat) (run : Nat → Code → CodeF) (args : List Value) (S : St) : OR :=
  match S.heap.get l with
  | some (.loop _ _ nt E ps assign body) => match setPs nt ps args E with
    | some E' => match run nt assign E' [] S with
      | .ok o E'' D S' => match o with
        | .normal => match D with
          | [] => match beginRd l S' with
            | some S'' => endRound l (run nt body E'' [] S'')
            | none => .fail
          | _ :: _ => .fail
        | _ => .fail
      | .fail => .fail
    | none => .fail
  | _ => .fail

def acall (hk : Hook) : Nat → CallF
  | 0 => fun _ _ _ => .fail
  | n + 1 => fun g => match g with
    | .fn f => match hk f with
      | some h => h
      | none => match bodyF P f with
        | some (c, rs, nt) => fun args S => cond (Nat.ble (lenL args) nt)
            (endCall P (acall hk n) rs (c.run (acall hk n) (eagain P nt false (acall hk n) n 3) n (argsE 0 args .leaf) [] S)) .fail
        | none => fun _ _ => .fail
    | .round l => eround l fun nt c => (ecode P nt true c).run (acall hk n) (eagain P nt true (acall hk n) n 3) n
end types
end Go.Eng
