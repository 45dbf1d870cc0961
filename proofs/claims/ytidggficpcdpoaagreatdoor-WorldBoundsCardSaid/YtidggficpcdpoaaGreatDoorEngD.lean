/- The engine's operations do what the machine's do (second part). -/
import Derived.Test.YtidggficpcdpoaaGreatDoorEngC
import Derived.Laws.IdiomStrings
import Derived.Laws.BytesString
import Derived.Laws.Append
import Derived.Laws.MakeOwn
import Derived.Lib.UnsafeStr

/- The engine, part 10: conversions, append. -/
namespace Go.Eng

section
variable {P : Program} {w : World}

theorem ble_nat' {a b : Nat} (h : Nat.ble a b = true) : a ≤ b := by rwa [Nat.ble_eq] at h

theorem bytesL_inv {ρ : Ren} : ∀ {l l' : List Value} {r : List UInt8}, bytesL l = some r → VRels ρ l l' → ∃ ns : List Int, l' = ns.map (Value.int .u8) ∧ r = ns.map fun n => UInt8.ofNat n.toNat
  | _, _, r, h, .nil => by cases h; exact ⟨[], rfl, rfl⟩
  | _, _, r, h, .cons hv t => by
    cases hv <;> first | (cases h; done) | skip
    rename_i k n
    cases k <;> first | (cases h; done) | skip
    simp only [bytesL] at h
    split at h
    · rename_i r' hr
      cases h
      obtain ⟨ns, rfl, rfl⟩ := bytesL_inv hr t
      exact ⟨n :: ns, rfl, rfl⟩
    · cases h

theorem foldl_push (ns : List Int) : ∀ s : ByteArray, ns.foldl (fun r n => r.push (UInt8.ofNat n.toNat)) s = ⟨s.data ++ (ns.map fun n => UInt8.ofNat n.toNat).toArray⟩ := by
  induction ns with
  | nil => intro s; simp
  | cons n ns ih =>
    intro s
    rw [List.foldl_cons, ih]
    simp [ByteArray.push]

/-- A slice's cells, as the machine loads them. -/
theorem sliceCells_run {ρ : Ren} {S : St} {a a' : Option Addr} {n k c c' sz : Nat} {l : List Value} (h : sliceCells S (.slice a k c) sz n = some l) (hg : Gam P ρ S w) (hx : VRel ρ (.slice a k c) (.slice a' k c')) (hn : n ≤ k) :
    ∃ l', (Builtin.firstCells sz n (.slice a' k c')).run P w = .ok ⟨l'⟩ w ∧ VRels ρ l l' ∧ (∀ p, a' = some p → (loadCells p (n * sz)).run P w = .ok ⟨l'⟩ w) ∧ (a' = none → l' = []) := by
  cases hx with
  | nils => cases h; exact ⟨[], by simp [Builtin.firstCells], .nil, by simp, fun _ => rfl⟩
  | sliceK b o _ _ L hL hc =>
    simp only [sliceCells] at h
    split at h
    · rename_i cl e op fz hb
      obtain ⟨l', h1, h2⟩ := load_cells hg hb hL h
      refine ⟨l', h1, h2, fun p hp => ?_, by simp⟩
      cases hp; exact h1
    · cases h
  | sliceU b o _ _ L hL hn' hf =>
    simp only [sliceCells] at h
    split at h
    · rename_i cl e op fz hb
      obtain ⟨l', h1, h2⟩ := load_cells hg hb hL h
      refine ⟨l', h1, h2, fun p hp => ?_, by simp⟩
      cases hp; exact h1
    · cases h
  | sliceE b o a L hL hf =>
    have h0 : n = 0 := by omega
    subst h0
    simp only [sliceCells] at h
    split at h
    · rename_i cl e op fz hb
      obtain ⟨l', h1, h2⟩ := load_cells hg hb hL h
      have e0 : Nat.mul 0 sz = 0 := Nat.zero_mul sz
      rw [e0] at h
      obtain ⟨_, rfl⟩ := takeL_some h
      have hl' : l' = [] := by
        have := h2.length
        simpa using this
      subst hl'
      refine ⟨[], by simp [Builtin.firstCells, loadCells, loadCellsFrom], h2, fun p hp => by simp [loadCells, loadCellsFrom], by simp⟩
    · cases h

theorem byteV_rels (ρ : Ren) : ∀ l : List UInt8, VRels ρ (l.map byteV) (l.map byteV)
  | [] => .nil
  | _ :: l => .cons (.int _ _) (byteV_rels ρ l)

theorem conv_ok {ρ : Ren} {S S' : St} {src dst : TypeId} {x x' v : Value} (h : (econv P src dst).run x S = .val v S') :
    S.next ≤ S'.next ∧ (Gam P ρ S w → Free ρ S.next S'.next → VRel ρ x x' → SV P (convert src dst x') ρ S w v S') := by
  unfold econv at h
  have same : ∀ {u : Value}, S = S' → u = v → (∀ (_ : Gam P ρ S w) (_ : VRel ρ x x'), ∃ v', (convert src dst x').run P w = .ok v' w ∧ VRel ρ u v') →
      S.next ≤ S'.next ∧ (Gam P ρ S w → Free ρ S.next S'.next → VRel ρ x x' → SV P (convert src dst x') ρ S w v S') := by
    intro u e1 e2 hh
    subst e1 e2
    refine ⟨Nat.le_refl _, fun hg _ hx => ?_⟩
    obtain ⟨v', h1, h2⟩ := hh hg hx
    exact SV.same hg h1 h2
  split at h
  · rename_i k1 k2 hs hd
    simp only [cvInt] at h
    split at h
    · rename_i k n
      cases h
      refine same rfl rfl fun hg hx => ?_
      cases hx
      exact ⟨_, by simp only [convert, Sem.run_bind, run_underlying hs, run_underlying hd, Result.andThen_ok, Conv.intToInt, Sem.run_pure, wrapK_eq], .int _ _⟩
    · cases h
  · rename_i k1 hs hd
    simp only [cvStr] at h
    split at h
    · cases h
      refine same rfl rfl fun hg hx => ?_
      cases hx
      exact ⟨_, by simp only [convert, Sem.run_bind, run_underlying hs, run_underlying hd, Result.andThen_ok, Conv.intToString, Sem.run_pure], .string _⟩
    · cases h
      refine same rfl rfl fun hg hx => ?_
      cases hx
      exact ⟨_, by simp only [convert, Sem.run_bind, run_underlying hs, run_underlying hd, Result.andThen_ok, Sem.run_pure], .string _⟩
    · cases h
  · rename_i hs hd
    simp only [cvStr] at h
    split at h
    · cases h
      refine same rfl rfl fun hg hx => ?_
      cases hx
      exact ⟨_, by simp only [convert, Sem.run_bind, run_underlying hs, run_underlying hd, Result.andThen_ok, Conv.intToString, Sem.run_pure], .string _⟩
    · cases h
      refine same rfl rfl fun hg hx => ?_
      cases hx
      exact ⟨_, by simp only [convert, Sem.run_bind, run_underlying hs, run_underlying hd, Result.andThen_ok, Sem.run_pure], .string _⟩
    · cases h
  · rename_i t hs hd
    cases hz : szT P t with
    | none => rw [hz] at h; cases h
    | some n =>
      rw [hz] at h
      simp only [cvPtrU] at h
      split at h
      · rename_i b o
        split at h
        · rename_i c e op fz hb
          cases hq : (Nat.ble (Nat.succ o) (lenL c) && Nat.ble 1 n) with
          | false => rw [hq] at h; cases h
          | true =>
            rw [hq] at h
            simp only [cond_true] at h
            cases h
            refine same rfl rfl fun hg hx => ?_
            cases hx with
            | ptr _ _ L hL =>
              rw [Bool.and_eq_true, Nat.ble_eq, Nat.ble_eq, lenL_eq] at hq
              obtain ⟨L', hL', cs, lo, hi, hw, hc, _⟩ := hg.obj b _ hb
              rw [hL] at hL'; cases hL'
              obtain ⟨v0, hv0, _⟩ := hc o c[o] (by simp)
              have hlt : L.base + o < cs.size := by
                rcases Nat.lt_or_ge (L.base + o) cs.size with h | h
                · exact h
                · simp [Array.getElem?_eq_none h] at hv0
              refine ⟨.pointer (some ⟨L.blk, L.base + o, none⟩), ?_, .ptr b o L hL⟩
              have hsh : w.shape? L.blk = some (e, cs.size) := by simp [World.shape?, hw]
              have hn : ¬ n = 0 := by omega
              have hge : ¬ (cs.size ≤ L.base + o) := by omega
              simp [convert, run_underlying hs, run_underlying hd, Conv.unsafePointer, Conv.seenAt, viewAt, hsh, cellsIn, run_sizeOf hz, hn, hge]
        · cases h
      · cases h
  · rename_i t hs hd
    cases hz : szT P t with
    | none => rw [hz] at h; cases h
    | some n =>
      rw [hz] at h
      simp only [cvUPtr] at h
      split at h
      · rename_i b o
        split at h
        · rename_i c e fz hb
          cases hq : (liesAt P P.depth e (Nat.div (lenL c) (P.cellsOf e)) o t 1 && Nat.ble 1 n) with
          | false => rw [hq] at h; cases h
          | true =>
            rw [hq] at h
            simp only [cond_true] at h
            cases h
            refine same rfl rfl fun hg hx => ?_
            cases hx with
            | ptr _ _ L hL =>
              rw [Bool.and_eq_true, Nat.ble_eq, lenL_eq] at hq
              obtain ⟨L', hL', cs, lo, hi, hw, hc, hk, _⟩ := hg.obj b _ hb
              rw [hL] at hL'; cases hL'
              obtain ⟨hb0, hsz⟩ := hk rfl
              refine ⟨.pointer (some ⟨L.blk, L.base + o, none⟩), ?_, .ptr b o L hL⟩
              have hsh : w.shape? L.blk = some (e, cs.size) := by simp [World.shape?, hw]
              have hn : ¬ n = 0 := by omega
              have hl : liesAt P P.depth e (cs.size / P.cellsOf e) (L.base + o) t 1 = true := by rw [hb0, Nat.zero_add, hsz]; exact hq.1
              simp [convert, run_underlying hs, run_underlying hd, Conv.unsafePointer, Conv.seenAt, viewAt, hsh, run_sizeOf hz, hn, variablesAt, hl]
        · cases h
      · cases h
  · rename_i e hs hd
    split at h
    · rename_i he hsz
      simp only [cvStrB] at h
      split at h
      · rename_i s
        cases hq : Nat.ble s.size 1099511627776 with
        | false => rw [hq] at h; cases h
        | true =>
          rw [hq] at h
          simp only [cond_true, natK_eq] at h
          cases h
          refine ⟨Nat.le_succ _, fun hg hf hx => ?_⟩
          cases hx
          have hfn : ρ S.next = none := hf S.next (Nat.le_refl _) (Nat.lt_succ_self _)
          have hrun := run_bytes_of_string (P := P) w src dst e s hs hd he
          have hcap : s.size ≤ grownCap w s.size 0 e := by
            show s.size ≤ s.size + _ % _
            exact Nat.le_add_right _ _
          have hgc : grownCap w s.size 0 e + 1 ≤ capU := by
            show s.size + _ % (2 ^ 63 - s.size) + 1 ≤ 9223372036854775808
            have h1 := ble_nat' hq
            have h2 := Nat.mod_lt (w.tape w.drawn (Question.appendCap s.size 0 e)) (show 0 < 2 ^ 63 - s.size by omega)
            omega
          generalize grownCap w s.size 0 e = gc at hrun hcap hgc
          have hrow : bytesRow s gc = ⟨s.data.toList.map byteV ++ List.replicate (gc - s.size) (.int .u8 0)⟩ := by
            apply Array.ext'
            simp [bytesRow]
            intro a _; rfl
          have hdl : s.data.toList.length = s.size := Array.length_toList
          have hlen : (s.data.toList.map byteV).length + (List.replicate (gc - s.size) (Value.int .u8 0)).length = gc := by
            rw [List.length_map, List.length_replicate, hdl]; omega
          obtain ⟨ρ', h1, h2⟩ := new_open (P := P) (r := List.replicate (gc - s.size) (Value.int .u8 0)) e (w.drawn + 1) gc (gc + 1) capU hg hfn (byteV_rels ρ s.data.toList) (cellsOf_eq hsz) hgc
          rw [hlen] at h2
          refine ⟨ρ', _, _, hrun, ?_, ?_⟩
          · have : (bytesRow s gc).size = gc := by rw [hrow]; simpa using hlen
            rw [this, hrow]
            exact h1
          · exact .sliceU S.next 0 s.size _ _ h2 hcap (by simp)
      · cases h
    · cases h
  · rename_i e hs hd
    split at h
    · rename_i he
      simp only [cvBStr] at h
      split at h
      · rename_i a n c
        split at h
        · rename_i l hl
          split at h
          · rename_i r hr
            cases h
            refine same rfl rfl fun hg hx => ?_
            have gen : ∀ a' c', x' = .slice a' n c' → ∃ v', (convert src dst x').run P w = .ok v' w ∧ VRel ρ (.string ⟨⟨r⟩⟩) v' := by
              intro a' c' ex
              subst ex
              obtain ⟨l', h1, h2, h3, h4⟩ := sliceCells_run hl hg hx (Nat.le_refl _)
              obtain ⟨ns, rfl, rfl⟩ := bytesL_inv hr h2
              refine ⟨_, ?_, .string _⟩
              rw [run_convert_bytes_string w src dst e a' n c' hs he hd]
              cases a' with
              | none =>
                have := h4 rfl
                have hns : ns = [] := by simpa using this
                subst hns
                rfl
              | some p =>
                rw [run_bytesToString w p n c' ns (by have := h3 p rfl; rw [Nat.mul_one] at this; exact this), foldl_push]
                simp
            cases hx with
            | nils => exact gen _ _ rfl
            | sliceK => exact gen _ _ rfl
            | sliceU => exact gen _ _ rfl
            | sliceE => exact gen _ _ rfl
          · cases h
        · cases h
      · cases h
    · cases h
  · cases h

end
end Go.Eng

/- The engine, part 11: append; slices that are made; lengths. -/
namespace Go.Eng

section
variable {P : Program} {w : World}

theorem app_grow_run {t0 t1 ty e : TypeId} {d1 : TypeDesc} {sz bs : Nat} {z : Value} (h0 : P.underlying t0 = some (.slice e)) (h1 : P.underlying t1 = some d1) (hd : ∀ k, d1 ≠ .int k) (hs : szT P e = some sz) (hb : bytesT P e = some bs)
    (hz : zeroT P e = some z) (base : Option Addr) (len cap n : Nat) (x : Value) (old new : List Value) (hn : ∀ w2 : World, (Builtin.lenOf x).run P w2 = .ok n w2)
    (hnew : ∀ w2 : World, w2.heap = w.heap → (Builtin.firstCells sz n x).run P w2 = .ok ⟨new⟩ w2) (hold : ∀ w2 : World, w2.heap = w.heap → (Builtin.firstCells sz len (.slice base len cap)).run P w2 = .ok ⟨old⟩ w2)
    (hg : cap < len + n) (h63 : len + n ≤ 17592186044416) (h47 : (len + n) * bs ≤ 17592186044416) :
    ∃ (g : Nat) (rest : List Value), len + n ≤ g ∧ rest.length = (g - (len + n)) * z.cells.size ∧
      (Builtin.append_ #[t0, t1] ty #[.slice base len cap, x]).run P w = .ok (.slice (some ⟨w.heap.size, 0, none⟩) (len + n) g)
        { w with heap := w.heap.push (.cells ⟨old ++ new ++ rest⟩ e (0, 0)), drawn := w.drawn + 1 } := by
  have hzi : ∃ i, P.info? e = some i ∧ i.bytes = bs := by
    unfold bytesT at hb
    cases hi : P.info? e with
    | none => rw [hi] at hb; cases hb
    | some i => rw [hi] at hb; cases hb; exact ⟨i, rfl, rfl⟩
  obtain ⟨i, hi, hib⟩ := hzi
  refine ⟨grownCap w (len + n) cap e, (Builtin.zeroCells z.cells (grownCap w (len + n) cap e - (len + n))).toList, ?_, ?_, ?_⟩
  · show len + n ≤ len + n + _ % _
    exact Nat.le_add_right _ _
  · simp [Builtin.zeroCells]
  · have hgap : ¬ (len + n ≤ cap) := by omega
    have h2 : ¬ (281474976710656 < Builtin.nextslicecap (len + n) cap * bs) := by
      have := nextslicecap_le hg
      have h3 : Builtin.nextslicecap (len + n) cap * bs ≤ 2 * (len + n) * bs := Nat.mul_le_mul_right bs this
      rw [Nat.mul_assoc] at h3
      omega
    have h63' : ¬ ((9223372036854775807 : Int) < (len : Int) + (n : Int)) := by omega
    have hnew' := hnew w.drew rfl
    have hold' := hold w.drew rfl
    simp [Builtin.append_, run_underlying h0, run_underlying h1, run_sizeOf hs, run_typeInfo hi, hib, run_zeroValue hz, hn, hgap, h2, h63', Question.forced, hnew', hold', newRow, grownCap]
    unfold World.alloc World.drew
    congr 3
    apply Array.ext'
    simp

theorem app_room_run {t0 t1 ty e : TypeId} {d1 : TypeDesc} {sz : Nat} (h0 : P.underlying t0 = some (.slice e)) (h1 : P.underlying t1 = some d1) (hd : ∀ k, d1 ≠ .int k) (hs : szT P e = some sz)
    (base : Option Addr) (len cap n : Nat) (x : Value) (new : List Value) (hn : (Builtin.lenOf x).run P w = .ok n w) (hnew : (Builtin.firstCells sz n x).run P w = .ok ⟨new⟩ w) (hg : len + n ≤ cap) {w' : World}
    (hst : ∀ p, base = some p → (storeCells (p.add (len * sz)) new).run P w = .ok () w') (hno : base = none → w' = w) :
    (Builtin.append_ #[t0, t1] ty #[.slice base len cap, x]).run P w = .ok (.slice base (len + n) cap) w' := by
  cases base with
  | none =>
    have := hno rfl
    subst this
    simp [Builtin.append_, run_underlying h0, run_underlying h1, run_sizeOf hs, hn, hg, hnew]
  | some p =>
    simp [Builtin.append_, run_underlying h0, run_underlying h1, run_sizeOf hs, hn, hg, hnew, hst p rfl]

/-- What is appended, as the machine reads it. -/
theorem srcOf_ok {ρ : Ren} {S : St} {str : Bool} {sz n : Nat} {x x' : Value} {new : List Value} (h : srcOf str sz x S = some (n, new)) (hg : Gam P ρ S w) (hx : VRel ρ x x') :
    (∀ w2 : World, (Builtin.lenOf x').run P w2 = .ok n w2) ∧ ∃ new', VRels ρ new new' ∧ ∀ w2 : World, w2.heap = w.heap → (Builtin.firstCells sz n x').run P w2 = .ok ⟨new'⟩ w2 := by
  have gen : ∀ (a a' : Option Addr) (k c c' : Nat), VRel ρ (.slice a k c) (.slice a' k c') → (match sliceCells S (.slice a k c) sz k with | some l => some (k, l) | none => none) = some (n, new) →
      (∀ w2 : World, (Builtin.lenOf (.slice a' k c')).run P w2 = .ok n w2) ∧ ∃ new', VRels ρ new new' ∧ ∀ w2 : World, w2.heap = w.heap → (Builtin.firstCells sz n (.slice a' k c')).run P w2 = .ok ⟨new'⟩ w2 := by
    intro a a' k c c' hr hh
    split at hh
    · rename_i l hl
      cases hh
      refine ⟨fun w2 => rfl, ?_⟩
      obtain ⟨l', h1, h2, _⟩ := sliceCells_run hl hg hr (Nat.le_refl _)
      refine ⟨l', h2, fun w2 hw2 => ?_⟩
      obtain ⟨l2, h3, h4, _⟩ := sliceCells_run (w := w2) hl (hg.heap hw2) hr (Nat.le_refl _)
      have hagree : (Builtin.firstCells sz n (.slice a' n c')).run P w2 = .ok ⟨l'⟩ w2 := by
        cases a' with
        | none => simp only [Builtin.firstCells, Sem.run_pure] at h1 ⊢; cases h1; rfl
        | some p =>
          simp only [Builtin.firstCells] at h1 h3 ⊢
          rw [h3]
          congr 2
          have key : ∀ (m : Nat) (i : Nat) (acc : Array Value) (r r2 : Array Value), (loadCellsFrom p i m acc).run P w = .ok r w → (loadCellsFrom p i m acc).run P w2 = .ok r2 w2 → r = r2 := by
            intro m
            induction m with
            | zero => intro i acc r r2 e1 e2; simp only [loadCellsFrom, Sem.run_pure] at e1 e2; cases e1; cases e2; rfl
            | succ m ih =>
              intro i acc r r2 e1 e2
              simp only [loadCellsFrom, Sem.run_bind, run_load] at e1 e2
              have hc : w2.cell? (p.add i) = w.cell? (p.add i) := by simp [World.cell?, hw2]
              rw [hc] at e2
              cases hcc : w.cell? (p.add i) with
              | some u =>
                rw [hcc] at e1 e2
                simp only [Result.andThen_ok] at e1 e2
                exact ih _ _ _ _ e1 e2
              | none =>
                rw [hcc] at e1 e2
                have hf : w2.farLoad P (p.add i) false = w.farLoad P (p.add i) false := by
                  simp only [World.farLoad, World.noCell, hw2]
                  have hv : ∀ q u, w2.viewLoad P q u (p.add i) false = w.viewLoad P q u (p.add i) false := by
                    intro q u
                    obtain ⟨h0, t0, d0, o0, p0⟩ := w
                    obtain ⟨h1, t1, d1, o1, p1⟩ := w2
                    simp only at hw2
                    subst hw2
                    rfl
                  split <;> simp_all
                have hm : ((Mode.plain == .atomic) = false) := rfl
                simp only [hm] at e1 e2
                rw [hf] at e2
                cases hfl : w.farLoad P (p.add i) false with
                | ok q =>
                  rw [hfl] at e1 e2
                  obtain ⟨q1, q2⟩ := q
                  simp only [Result.andThen_ok] at e1 e2
                  exact ih _ _ _ _ e1 e2
                | error q => rw [hfl] at e1; simp at e1
          have := key _ _ _ _ _ h1 h3
          exact (Array.mk.inj this).symm
      exact hagree
    · cases hh
  cases hx with
  | nils n0 c0 =>
    simp only [srcOf] at h
    cases hb : Nat.beq n0 0 with
    | false => rw [hb] at h; cases h
    | true =>
      rw [hb] at h
      cases h
      have := Nat.eq_of_beq_eq_true hb
      subst this
      exact ⟨fun w2 => rfl, [], .nil, fun w2 _ => rfl⟩
  | sliceK b o n' c L hL hc => exact gen _ _ _ _ _ (.sliceK b o n' c L hL hc) h
  | sliceU b o n' c L hL hn hf => exact gen _ _ _ _ _ (.sliceU b o n' c L hL hn hf) h
  | sliceE b o a L hL hf => exact gen _ _ _ _ _ (.sliceE b o a L hL hf) h
  | string s =>
    simp only [srcOf] at h
    cases str with
    | false => cases h
    | true =>
      simp only at h
      cases hb : Nat.beq sz 1 with
      | false => rw [hb] at h; cases h
      | true =>
        rw [hb] at h
        cases h
        refine ⟨fun w2 => rfl, s.data.toList.map byteV, byteV_rels ρ _, fun w2 _ => ?_⟩
        simp only [Builtin.firstCells, Sem.run_pure]
        congr 1
        apply Array.ext'
        have : (s.extract 0 s.size).data.toList = s.data.toList := by
          simp
        simp only [Array.toList_map, this]
        rfl
  | _ => cases h

end
end Go.Eng

/- The engine, part 12: append whole; slices that are made; lengths. -/
namespace Go.Eng

section
variable {P : Program} {w : World}

theorem new_open_fz {ρ : Ren} {S : St} {c c' r : List Value} {sz : Nat} (e : TypeId) (d fz : Nat) (b : Nat) (hg : Gam P ρ S w) (hf : ρ S.next = none) (hc : VRels ρ c c') (hs : P.cellsOf e = sz) :
    ∃ ρ', Evo P ρ S w ρ' ⟨(S.heap.del b).set S.next (.cells c e true fz), Nat.succ S.next⟩ { w with heap := w.heap.push (.cells ⟨c' ++ r⟩ e (0, 0)), drawn := d } ∧
      ρ' S.next = some ⟨w.heap.size, 0, c'.length + r.length, sz⟩ := by
  refine ⟨upd ρ S.next ⟨w.heap.size, 0, c'.length + r.length, sz⟩, evo_new_del hg hf b _ ⟨w.heap.size, 0, c'.length + r.length, sz⟩ _ d rfl ?_, upd_same _ _ _⟩
  refine ⟨⟨c' ++ r⟩, 0, 0, by simp, fun i v hi => ?_, (fun h => by cases h), fun _ => ⟨hs.symm, by simp [hc.length], by simp⟩, Nat.zero_le _⟩
  obtain ⟨v', h1, h2⟩ := hc.get i v hi
  refine ⟨v', ?_, h2.mono (sub_upd hf)⟩
  have hlt : i < c'.length := by
    rcases Nat.lt_or_ge i c'.length with h | h
    · exact h
    · rw [List.getElem?_eq_none h] at h1; cases h1
  simp only [Nat.zero_add]
  rw [List.getElem?_toArray, List.getElem?_append_left hlt]; exact h1

theorem beq_nat {a b : Nat} (h : Nat.beq a b = true) : a = b := Nat.eq_of_beq_eq_true h
theorem ble_nat {a b : Nat} (h : Nat.ble a b = true) : a ≤ b := by rwa [Nat.ble_eq] at h
theorem cond_inv {α : Type} {b : Bool} {x y z : α} (h : cond b x y = z) (hy : y ≠ z) : b = true ∧ x = z := by
  cases b with
  | true => exact ⟨rfl, h⟩
  | false => exact absurd h hy

theorem not_beq {a b : Nat} (h : Nat.beq a b = false) : a ≠ b := fun e => by subst e; rw [Nat.beq_refl] at h; cases h
theorem not_ble {a b : Nat} (h : Nat.ble a b = false) : ¬ a ≤ b := fun e => by rw [← Nat.ble_eq] at e; rw [e] at h; cases h

section appending
variable {t0 t1 ty e : TypeId} {d1 : TypeDesc} {sz bs : Nat} {z : Value}

/-- What all ways of append share. -/
structure AppK (P : Program) (t0 t1 e : TypeId) (d1 : TypeDesc) (sz bs : Nat) (z : Value) : Prop where
  h0 : P.underlying t0 = some (.slice e)
  h1 : P.underlying t1 = some d1
  hd : ∀ k, d1 ≠ .int k
  hs : szT P e = some sz
  hb : bytesT P e = some bs
  hz : zeroT P e = some z
  s1 : 1 ≤ sz
  zl : (cellsL z).length = sz

theorem cells_len (v : Value) : v.cells.size = (cellsL v).length := by cases v <;> rfl

theorem appNew_ok (K : AppK P t0 t1 e d1 sz bs z) {ρ : Ren} {S S' : St} {len cap n : Nat} {base' : Option Addr} {cs old' new' : List Value} {x' v : Value}
    (h : appNew e len n cs S = .val v S') (hg : Gam P ρ S w) (hf : ρ S.next = none) (hcs : VRels ρ cs (old' ++ new')) (hol : old'.length = len * sz) (hnl : new'.length = n * sz)
    (hn : ∀ w2 : World, (Builtin.lenOf x').run P w2 = .ok n w2) (hnew : ∀ w2 : World, w2.heap = w.heap → (Builtin.firstCells sz n x').run P w2 = .ok ⟨new'⟩ w2)
    (hold : ∀ w2 : World, w2.heap = w.heap → (Builtin.firstCells sz len (.slice base' len cap)).run P w2 = .ok ⟨old'⟩ w2) (hgr : cap < len + n) (h63 : len + n ≤ 17592186044416) (h47 : (len + n) * bs ≤ 17592186044416) :
    SV P (Builtin.append_ #[t0, t1] ty #[.slice base' len cap, x']) ρ S w v S' := by
  unfold appNew at h
  simp only [natK_eq] at h
  cases h
  obtain ⟨g, rest, hge, hrl, hrun⟩ := app_grow_run (ty := ty) K.h0 K.h1 K.hd K.hs K.hb K.hz base' len cap n x' old' new' hn hnew hold hgr h63 h47
  obtain ⟨ρ', h1, h2⟩ := new_open (P := P) (r := rest) e (w.drawn + 1) 0 0 0 hg hf hcs (cellsOf_eq K.hs) (Nat.le_refl _)
  refine ⟨ρ', _, _, hrun, h1, ?_⟩
  refine .sliceU S.next 0 (len + n) g _ h2 hge ?_
  rw [hrl, cells_len, K.zl, List.length_append, hol, hnl]
  show 0 + 0 + g * sz = len * sz + n * sz + (g - (len + n)) * sz
  rw [← Nat.add_mul, ← Nat.add_mul, Nat.zero_add, show len + n + (g - (len + n)) = g by omega]

theorem appIn_ok (K : AppK P t0 t1 e d1 sz bs z) {ρ : Ren} {S S' : St} {b o len cap cap' n : Nat} {L : Loc} {new new' : List Value} {x' v : Value}
    (h : appIn b o sz len n cap new S = .val v S') (hg : Gam P ρ S w) (hL : ρ b = some L) (hnew : VRels ρ new new') (h1 : oneCells new = true)
    (hn : ∀ w2 : World, (Builtin.lenOf x').run P w2 = .ok n w2) (hnew' : ∀ w2 : World, w2.heap = w.heap → (Builtin.firstCells sz n x').run P w2 = .ok ⟨new'⟩ w2) (hgr : len + n ≤ cap')
    (hv : VRel ρ (.slice (some ⟨b, o, none⟩) (len + n) cap) (.slice (some ⟨L.blk, L.base + o, none⟩) (len + n) cap')) :
    S'.next = S.next ∧ SV P (Builtin.append_ #[t0, t1] ty #[.slice (some ⟨L.blk, L.base + o, none⟩) len cap', x']) ρ S w v S' := by
  unfold appIn at h
  split at h
  · rename_i S1 hst
    rw [natK_eq] at h
    cases h
    obtain ⟨h2, w', h3, h4⟩ := estoreCells_ok hst hg hL hnew (oneCells_all h1 hnew)
    refine ⟨h2, ρ, .slice (some ⟨L.blk, L.base + o, none⟩) (len + n) cap', w', ?_, h4, hv⟩
    refine app_room_run (ty := ty) K.h0 K.h1 K.hd K.hs _ len cap' n x' new' (hn w) (hnew' w rfl) hgr (fun p hp => ?_) (fun hp => by cases hp)
    cases hp
    rw [addr_add, Nat.add_assoc]
    exact h3
  · cases h

theorem appOpen_ok (K : AppK P t0 t1 e d1 sz bs z) {ρ : Ren} {S S' : St} {b o len n : Nat} {old new new' : List Value} {s' x' v : Value}
    (h : appOpen e sz b o len n old new S = .val v S') (hg : Gam P ρ S w) (hf : Free ρ S.next S'.next) (hs' : VRel ρ (.slice (some ⟨b, o, none⟩) len capU) s') (hn0 : n ≠ 0)
    (hold : sliceCells S (.slice (some ⟨b, o, none⟩) len capU) sz len = some old) (hnew : VRels ρ new new') (hnl : new'.length = n * sz) (h1 : oneCells new = true)
    (hn : ∀ w2 : World, (Builtin.lenOf x').run P w2 = .ok n w2) (hnew' : ∀ w2 : World, w2.heap = w.heap → (Builtin.firstCells sz n x').run P w2 = .ok ⟨new'⟩ w2)
    (h63 : len + n ≤ 17592186044416) (h47 : (len + n) * bs ≤ 17592186044416) :
    SV P (Builtin.append_ #[t0, t1] ty #[s', x']) ρ S w v S' := by
  unfold appOpen at h
  split at h
  · rename_i c e' op fz hb
    have hq := (cond_inv h (by simp)).1
    replace h := (cond_inv h (by simp)).2
    rw [Bool.and_eq_true] at hq
    obtain ⟨hop, he⟩ := hq
    subst hop
    have he := beq_nat he
    subst he
    obtain ⟨L, hL, cs, lo, hi, hw, hcc, hk, ho, hfr⟩ := hg.obj b _ hb
    obtain ⟨o1, o2, o3⟩ := ho rfl
    rw [cellsOf_eq K.hs] at o1
    have hblk : L.blk < w.heap.size := by
      rcases Nat.lt_or_ge L.blk w.heap.size with h | h
      · exact h
      · simp [Array.getElem?_eq_none h] at hw
    -- the slice's own cells
    have hsrc := srcOf_ok (P := P) (w := w) (str := false) (sz := sz) (n := len) (x := .slice (some ⟨b, o, none⟩) len capU) (x' := s') (new := old) (ρ := ρ) (S := S) (by simp only [srcOf, hold]) hg hs'
    obtain ⟨_, old', hor, hold'⟩ := hsrc
    have hol : old.length = len * sz := by
      simp only [sliceCells, hb] at hold
      obtain ⟨ha, rfl⟩ := takeL_some hold
      have e : Nat.mul len sz = len * sz := rfl
      rw [List.length_take, e]
      rw [e] at ha
      omega
    have hol' : old'.length = len * sz := by rw [hor.length, hol]
    cases hb1 : (Nat.beq (lenL c) (Nat.add o (Nat.mul len sz)) && Nat.ble fz (lenL c)) with
    | true =>
      rw [hb1] at h
      simp only [cond_true, natK_eq] at h
      cases h
      rw [Bool.and_eq_true] at hb1
      have hcl := beq_nat hb1.1
      have hfz := ble_nat hb1.2
      rw [lenL_eq] at hcl hfz
      have hcl' : c.length = o + len * sz := hcl
      have hfn : ρ S.next = none := hf S.next (Nat.le_refl _) (Nat.lt_succ_self _)
      -- a new array
      have grow : ∀ (a' : Option Addr) (c' : Nat), s' = .slice a' len c' → c' < len + n → SV P (Builtin.append_ #[t0, t1] ty #[s', x']) ρ S w (.slice (some ⟨S.next, 0, none⟩) (len.add n) capU)
          ⟨(S.heap.del b).set S.next (.cells (old ++ new) e true (fz.sub o)), Nat.succ S.next⟩ := by
        intro a' c' es hlt
        subst es
        obtain ⟨g, rest, hge, hrl, hrun⟩ := app_grow_run (ty := ty) K.h0 K.h1 K.hd K.hs K.hb K.hz a' len c' n x' old' new' hn hnew' hold' hlt h63 h47
        obtain ⟨ρ', h2, h3⟩ := new_open_fz (P := P) (r := rest) e (w.drawn + 1) (fz.sub o) b hg hfn (hor.append hnew) (cellsOf_eq K.hs)
        refine ⟨ρ', _, _, hrun, h2, ?_⟩
        refine .sliceU S.next 0 (len + n) g _ h3 hge ?_
        rw [hrl, cells_len, K.zl, List.length_append, hol', hnl]
        show 0 + 0 + g * sz = len * sz + n * sz + (g - (len + n)) * sz
        rw [← Nat.add_mul, ← Nat.add_mul, Nat.zero_add, show len + n + (g - (len + n)) = g by omega]
      cases hs' with
      | sliceK _ _ _ _ L' hL' hc => exact absurd rfl hc
      | sliceE _ _ a L' hL' hf' => exact grow _ _ rfl (by omega)
      | sliceU _ _ _ c' L' hL' hn' hf' =>
        rw [hL] at hL'; cases hL'
        rcases Nat.lt_or_ge c' (len + n) with hlt | hge
        · exact grow _ _ rfl hlt
        · -- in the room behind
          rw [o1] at hf'
          have hbd : L.base + o + (len + n) * sz ≤ L.fin := by
            rw [← hf']
            have := Nat.mul_le_mul_right sz hge
            omega
          rw [Nat.add_mul] at hbd
          obtain ⟨cs', hrun, hcs, hget⟩ := storeCells_run P L.blk new' (L.base + o + len * sz) 0 w cs e lo hi hw (by omega)
            (fun j h2 h3 => by omega) (oneCells_all h1 hnew)
          have happ := app_room_run (P := P) (ty := ty) (w := w) K.h0 K.h1 K.hd K.hs (some ⟨L.blk, L.base + o, none⟩) len c' n x' new' (hn w) (hnew' w rfl) hge (fun p hp => by cases hp; rw [addr_add]; exact hrun) (fun hp => by cases hp)
          refine ⟨upd ρ S.next ⟨L.blk, L.base + o, L.fin, sz⟩, _, _, happ, ?_, ?_⟩
          · refine evo_move hg hfn hb hL _ ⟨L.blk, L.base + o, L.fin, sz⟩ _ w.drawn rfl ?_
            refine ⟨cs', lo, hi, by simp [hblk], fun i u hi' => ?_, (fun hh => by cases hh), fun _ => ⟨(cellsOf_eq K.hs).symm, ?_, by rw [hcs]; exact o3⟩, ?_⟩
            · rw [hget]
              rcases Nat.lt_or_ge i old.length with hi1 | hi1
              · rw [List.getElem?_append_left hi1] at hi'
                have hi2 : i < len * sz := by rw [← hol]; exact hi1
                rw [if_neg (by show ¬ (L.base + o + len * sz + 0 ≤ L.base + o + i ∧ _); omega)]
                simp only [sliceCells, hb] at hold
                obtain ⟨ha, rfl⟩ := takeL_some hold
                rw [dropL_eq] at hi'
                rw [List.getElem?_take_of_lt (show i < Nat.mul len sz from hi2), List.getElem?_drop] at hi'
                obtain ⟨u', hu1, hu2⟩ := hcc (o + i) u hi'
                refine ⟨u', ?_, hu2.mono (sub_upd hfn)⟩
                show cs[L.base + o + i]? = _
                rw [Nat.add_assoc]; exact hu1
              · rw [List.getElem?_append_right hi1] at hi'
                obtain ⟨u', hu1, hu2⟩ := hnew.get _ _ hi'
                have hlt : i - old.length < new'.length := by
                  rcases Nat.lt_or_ge (i - old.length) new'.length with h | h
                  · exact h
                  · rw [List.getElem?_eq_none h] at hu1; cases hu1
                refine ⟨u', ?_, hu2.mono (sub_upd hfn)⟩
                rw [if_pos (by show _ ≤ L.base + o + i ∧ L.base + o + i < _; omega)]
                rw [show L.base + o + i - (L.base + o + len * sz + 0) = i - old.length by omega]
                exact hu1
            · show L.base + o + (old ++ new).length ≤ L.fin
              rw [List.length_append, hol]
              have := hnew.length
              omega
            · show hi ≤ L.base + o + (fz - o)
              omega
          · refine .sliceU S.next 0 (len + n) c' _ (upd_same _ _ _) hge ?_
            show L.base + o + 0 + c' * sz = L.fin
            omega
    | false =>
      rw [hb1] at h
      simp only [cond_false] at h
      have hroom := (cond_inv h (by simp)).1
      replace h := (cond_inv h (by simp)).2
      have hroom := ble_nat hroom
      rw [lenL_eq] at hroom
      have hroom' : o + (len + n) * sz ≤ c.length := hroom
      have hpos : 1 ≤ (len + n) * sz := Nat.mul_pos (by omega) K.s1
      cases hs' with
      | sliceK _ _ _ _ L' hL' hc => exact absurd rfl hc
      | sliceE _ _ a L' hL' hf' => rw [hL] at hL'; cases hL'; omega
      | sliceU _ _ _ c' L' hL' hn' hf' =>
        rw [hL] at hL'; cases hL'
        rw [o1] at hf'
        have hge : len + n ≤ c' := by
          have : (len + n) * sz ≤ c' * sz := by omega
          exact Nat.le_of_mul_le_mul_right this (by have := K.s1; omega)
        exact (appIn_ok (ty := ty) K h hg hL hnew h1 hn hnew' hge (.sliceU b o _ _ L hL hge (by rw [o1]; exact hf'))).2
  · cases h

end appending

theorem srcOf_len {str : Bool} {sz n : Nat} {x : Value} {S : St} {new : List Value} (h : srcOf str sz x S = some (n, new)) : new.length = n * sz := by
  unfold srcOf at h
  split at h
  · obtain ⟨_, h⟩ := cond_inv h (by simp)
    cases h
    simp
  · rename_i a k c
    split at h
    · rename_i l hl
      cases h
      obtain ⟨b, o, sp⟩ := a
      cases sp with
      | some q => simp only [sliceCells] at hl; cases hl
      | none =>
        simp only [sliceCells] at hl
        split at hl
        · obtain ⟨h2, rfl⟩ := takeL_some hl
          rw [List.length_take]
          have e : Nat.mul n sz = n * sz := rfl
          rw [e] at h2 ⊢
          omega
        · cases hl
    · cases h
  · split at h
    · obtain ⟨hb, h⟩ := cond_inv h (by simp)
      cases h
      rw [beq_nat hb, List.length_map, Nat.mul_one]
      exact Array.length_toList
    · cases h
  · cases h

theorem append_next {e sz : Nat} {base : Option Addr} {len cap n : Nat} {old new : List Value} {S S' : St} {v : Value} (h : appTo e sz base len cap n old new S = .val v S') : S.next ≤ S'.next := by
  have hin : ∀ {b o cap}, appIn b o sz len n cap new S = .val v S' → S.next ≤ S'.next := by
    intro b o cap h
    unfold appIn at h
    split at h
    · rename_i S1 hst
      rw [natK_eq] at h
      cases h
      unfold estoreCells at hst
      split at hst
      · obtain ⟨_, hst⟩ := cond_inv hst (by simp)
        split at hst
        · cases hst; exact Nat.le_refl _
        · cases hst
      · cases hst
    · cases h
  have hnew : ∀ {len n cs}, appNew e len n cs S = .val v S' → S.next ≤ S'.next := by
    intro len n cs h
    unfold appNew at h
    simp only [natK_eq] at h
    cases h
    exact Nat.le_succ _
  unfold appTo at h
  split at h
  · split at h
    · split at h
      · exact hnew h
      · cases h
    · cases h
  · rename_i b o
    cases hc : Nat.beq cap capU with
    | true =>
      rw [hc] at h
      simp only [cond_true] at h
      unfold appOpen at h
      split at h
      · rename_i c e' op fz hb
        replace h := (cond_inv h (by simp)).2
        cases hb1 : (Nat.beq (lenL c) (Nat.add o (Nat.mul len sz)) && Nat.ble fz (lenL c)) with
        | true => rw [hb1] at h; simp only [cond_true, natK_eq] at h; cases h; exact Nat.le_succ _
        | false =>
          rw [hb1] at h
          simp only [cond_false] at h
          exact hin (cond_inv h (by simp)).2
      · cases h
    | false =>
      rw [hc] at h
      simp only [cond_false] at h
      cases hle : Nat.ble (Nat.add len n) cap with
      | true => rw [hle] at h; exact hin h
      | false => rw [hle] at h; exact hnew h
  · cases h

theorem append_ok {ρ : Ren} {S S' : St} {t0 t1 ty : TypeId} {s x s' x' v : Value} (h : (eappend P t0 t1).run s x S = .val v S') :
    S.next ≤ S'.next ∧ (Gam P ρ S w → Free ρ S.next S'.next → VRel ρ s s' → VRel ρ x x' → SV P (Builtin.append_ #[t0, t1] ty #[s', x']) ρ S w v S') := by
  unfold eappend at h
  split at h
  · rename_i e d1 h0 h1
    split at h
    · rename_i sz bs z hs hb hz
      split at h
      · rename_i hq
        simp only [Bool.and_eq_true] at hq
        obtain ⟨⟨hs1, hb1⟩, hzl⟩ := hq
        have hs1 := ble_nat hs1
        have hzl := beq_nat hzl
        rw [lenL_eq] at hzl
        have main : ∀ (str : Bool), (∀ k, d1 ≠ .int k) → app str e sz bs s x S = .val v S' →
            S.next ≤ S'.next ∧ (Gam P ρ S w → Free ρ S.next S'.next → VRel ρ s s' → VRel ρ x x' → SV P (Builtin.append_ #[t0, t1] ty #[s', x']) ρ S w v S') := by
          clear h
          intro str hd h
          have K : AppK P t0 t1 e d1 sz bs z := ⟨h0, h1, hd, hs, hb, hz, hs1, hzl⟩
          unfold app at h
          split at h
          · rename_i base len cap
            split at h
            · rename_i n new hsrc
              cases hn0 : Nat.beq n 0 with
              | true =>
                rw [hn0] at h
                simp only [cond_true] at h
                obtain ⟨hcap, h⟩ := cond_inv h (by simp)
                cases h
                have := beq_nat hn0
                subst this
                refine ⟨Nat.le_refl _, fun hg _ hs' hx' => ?_⟩
                obtain ⟨hn, new', hnr, hnew⟩ := srcOf_ok hsrc hg hx'
                have hnl : new' = [] := List.length_eq_zero_iff.1 (by rw [hnr.length, srcOf_len hsrc]; simp)
                subst hnl
                have fin : ∀ (a' : Option Addr) (c' : Nat), len ≤ c' → VRel ρ (.slice base len cap) (.slice a' len c') → SV P (Builtin.append_ #[t0, t1] ty #[.slice a' len c', x']) ρ S w (.slice base len cap) S := by
                  intro a' c' hle hr
                  refine SV.same hg (app_room_run (ty := ty) h0 h1 hd hs a' len c' 0 x' [] (hn w) (hnew w rfl) hle (fun p _ => rfl) (fun _ => rfl)) hr
                have hkn : ∀ p, base = some p → cap ≠ capU → len ≤ cap := fun p hp hne => by
                  subst hp
                  simp only [appSame, Bool.or_eq_true] at hcap
                  rcases hcap with hc | hc
                  · exact absurd (beq_nat hc) hne
                  · exact ble_nat hc
                cases hs' with
                | nils =>
                  unfold appSame at hcap
                  simp only [Bool.and_eq_true] at hcap
                  exact fin none cap (by rw [beq_nat hcap.1]; omega) (.nils len cap)
                | sliceK b o _ _ L hL hc => exact fin _ _ (hkn _ rfl hc) (.sliceK b o len cap L hL hc)
                | sliceU b o _ c' L hL hn' hf' => exact fin _ _ hn' (.sliceU b o len c' L hL hn' hf')
                | sliceE b o a L hL hf' => exact fin _ _ (Nat.le_refl _) (.sliceE b o a L hL hf')
              | false =>
                rw [hn0] at h
                simp only [cond_false] at h
                have hq := (cond_inv h (by simp)).1
                replace h := (cond_inv h (by simp)).2
                simp only [Bool.and_eq_true] at hq
                obtain ⟨⟨hq1, hq2⟩, hone⟩ := hq
                have h47 := ble_nat hq1
                have h63 := ble_nat hq2
                have h47' : (len + n) * bs ≤ 17592186044416 := h47
                have h63' : len + n ≤ 17592186044416 := h63
                have hne := not_beq hn0
                split at h
                · cases h
                · rename_i old hold
                  refine ⟨append_next h, fun hg hf hs' hx' => ?_⟩
                  obtain ⟨hn, new', hnr, hnew⟩ := srcOf_ok hsrc hg hx'
                  have hnl : new'.length = n * sz := by rw [hnr.length, srcOf_len hsrc]
                  unfold appTo at h
                  split at h
                  · split at h
                    · split at h
                      · cases hs' with
                        | nils =>
                          refine appNew_ok (ty := ty) (old' := []) K h hg (hf S.next (Nat.le_refl _) ?_) hnr (by simp) hnl hn hnew (fun w2 _ => by simp [Builtin.firstCells]) (by omega) (by omega) (by simpa using h47')
                          unfold appNew at h
                          simp only [natK_eq] at h
                          cases h
                          exact Nat.lt_succ_self _
                      · cases h
                    · cases h
                  · rename_i b o
                    cases hcu : Nat.beq cap capU with
                    | true =>
                      rw [hcu] at h
                      simp only [cond_true] at h
                      have := beq_nat hcu
                      subst this
                      exact appOpen_ok (ty := ty) K h hg hf hs' hne hold hnr hnl hone hn hnew h63' h47'
                    | false =>
                      rw [hcu] at h
                      simp only [cond_false] at h
                      have hnc := not_beq hcu
                      cases hs' with
                      | sliceU => exact absurd rfl hnc
                      | sliceE => exact absurd rfl hnc
                      | sliceK _ _ _ _ L hL hc =>
                        cases hle : Nat.ble (Nat.add len n) cap with
                        | true =>
                          rw [hle] at h
                          simp only [cond_true] at h
                          exact (appIn_ok (ty := ty) K h hg hL hnr hone hn hnew (ble_nat hle) (.sliceK b o _ _ L hL hc)).2
                        | false =>
                          rw [hle] at h
                          simp only [cond_false] at h
                          have hlt := not_ble hle
                          have hsrc2 := srcOf_ok (P := P) (w := w) (str := false) (sz := sz) (n := len) (x := .slice (some ⟨b, o, none⟩) len cap) (x' := .slice (some ⟨L.blk, L.base + o, none⟩) len cap) (new := old) (ρ := ρ) (S := S)
                            (by simp only [srcOf, hold]) hg (.sliceK b o _ _ L hL hc)
                          obtain ⟨_, old', hor, hold'⟩ := hsrc2
                          have hol : old.length = len * sz := by
                            simp only [sliceCells] at hold
                            split at hold
                            · obtain ⟨h2, rfl⟩ := takeL_some hold
                              have e : Nat.mul len sz = len * sz := rfl
                              rw [e] at h2 ⊢
                              rw [List.length_take]
                              omega
                            · cases hold
                          refine appNew_ok (ty := ty) K h hg (hf S.next (Nat.le_refl _) ?_) (hor.append hnr) (by rw [hor.length, hol]) hnl hn hnew hold' (show cap < len + n by have : ¬ (len + n ≤ cap) := hlt; omega) h63' h47'
                          unfold appNew at h
                          simp only [natK_eq] at h
                          cases h
                          exact Nat.lt_succ_self _
                  · cases h
            · cases h
          · cases h
        split at h
        · exact main false (by simp) h
        · exact main true (by simp) h
        · cases h
      · cases h
    · cases h
  · cases h

end
end Go.Eng

/- The engine, part 13: interfaces, lengths, ranges, made slices, copies. -/
namespace Go.Eng

section
variable {P : Program} {w : World}

/-- All zero values are the same wherever they lie. -/
def ZeroOk (P : Program) : Prop := ∀ t z, zeroT P t = some z → closedV z = true

theorem zeroOk (P : Program) : ZeroOk P := fun _ _ h => (zeroT_inv h).choose_spec.2.2

theorem ZeroOk.rel (h : ZeroOk P) {t : TypeId} {z : Value} (hz : zeroT P t = some z) (ρ : Ren) : VRel ρ z z := closedV_rel (h t z hz)

theorem makeInterface_ok {ρ : Ren} {t : TypeId} {x x' v : Value} (h : (emakeInterface P t).run x = some v) (hx : VRel ρ x x') :
    ∃ v', (Instr.makeInterface t x').run P w = .ok v' w ∧ VRel ρ v v' := by
  unfold emakeInterface at h
  cases hu : P.underlying t with
  | none => rw [hu] at h; cases h
  | some d =>
    rw [hu] at h
    cases d with
    | interface ms => cases h
    | _ => cases h; exact ⟨_, by simp [Instr.makeInterface, run_underlying hu], .iface t hx⟩

theorem extract_ok {ρ : Ren} {i : Nat} {x x' v : Value} (h : eextract i x = some v) (hx : VRel ρ x x') :
    ∃ v', (Instr.extract x' i).run P w = .ok v' w ∧ VRel ρ v v' := by
  cases hx with
  | tuple ha =>
    simp only [eextract, nth_eq] at h
    obtain ⟨v', h1, h2⟩ := ha.get i v h
    exact ⟨v', by simp [Instr.extract, h1], h2⟩
  | _ => cases h

theorem okZ_ok (hz : ZeroOk P) {t : TypeId} {ok : Bool} {v : Value} (h : okZ P t ok = some v) (ρ : Ren) :
    ok = true ∧ ∃ z, zeroT P t = some z ∧ VRel ρ v (.tuple #[z, .bool false]) := by
  unfold okZ at h
  cases ok with
  | false => cases h
  | true =>
    simp only at h
    cases hzt : zeroT P t with
    | none => rw [hzt] at h; cases h
    | some z => rw [hzt] at h; cases h; exact ⟨rfl, z, rfl, .tuple (.cons (hz.rel hzt ρ) (.cons (.bool false) .nil))⟩

theorem okV_rel {ρ : Ren} {ok is : Bool} {v v' : Value} (h : VRel ρ v v') : VRel ρ (okV ok v is) (if ok then .tuple #[v', .bool is] else v') := by
  cases ok with
  | true => exact .tuple (.cons h (.cons (.bool is) .nil))
  | false => exact h

theorem typeAssert_ok (hz : ZeroOk P) {ρ : Ren} {xt t : TypeId} {ok : Bool} {x x' v : Value} (h : (etypeAssert P t ok).run x = some v) (hx : VRel ρ x x') :
    ∃ v', (Instr.typeAssert x' xt t ok).run P w = .ok v' w ∧ VRel ρ v v' := by
  unfold etypeAssert at h
  cases hu : P.underlying t with
  | none => rw [hu] at h; cases h
  | some d =>
    rw [hu] at h
    cases d with
    | interface want =>
      cases hx with
      | nilIface =>
        obtain ⟨rfl, z, h1, h2⟩ := okZ_ok hz h ρ
        exact ⟨_, by simp [Instr.typeAssert, run_underlying hu, run_zeroValue h1], h2⟩
      | @iface q u u' hu' =>
        simp only at h
        cases hi : P.info? q with
        | none => rw [hi] at h; cases h
        | some i =>
          rw [hi] at h
          simp only at h
          cases hm : Instr.missingMethod want i.methods with
          | none =>
            rw [hm] at h
            cases h
            refine ⟨_, ?_, okV_rel (.iface q hu')⟩
            cases ok <;> simp [Instr.typeAssert, run_underlying hu, run_typeInfo hi, hm]
          | some m =>
            rw [hm] at h
            obtain ⟨rfl, z, h1, h2⟩ := okZ_ok hz h ρ
            exact ⟨_, by simp [Instr.typeAssert, run_underlying hu, run_zeroValue h1, run_typeInfo hi, hm], h2⟩
      | _ => cases h
    | _ =>
      cases hx with
      | nilIface =>
        obtain ⟨rfl, z, h1, h2⟩ := okZ_ok hz h ρ
        exact ⟨_, by simp [Instr.typeAssert, run_underlying hu, run_zeroValue h1], h2⟩
      | @iface q u u' hu' =>
        simp only at h
        cases hb : Nat.beq q t with
        | true =>
          rw [hb] at h
          cases h
          have := beq_nat hb
          subst this
          refine ⟨_, ?_, okV_rel hu'⟩
          cases ok <;> simp [Instr.typeAssert, run_underlying hu]
        | false =>
          rw [hb] at h
          have hne := not_beq hb
          obtain ⟨rfl, z, h1, h2⟩ := okZ_ok hz h ρ
          exact ⟨_, by simp [Instr.typeAssert, run_underlying hu, run_zeroValue h1, hne], h2⟩
      | _ => cases h

theorem run_getMap {r : Nat} {es : Array MapEntry} {clock : Nat} (h : w.heap[r]? = some (.map es clock)) : (getObj r).run P w = .ok (.map es clock) w := by simp [getObj, Sem.run, h]
theorem run_getMi {r : Nat} {m : Option Nat} {since : Nat} {seen : Array Nat} {last : Nat} (h : w.heap[r]? = some (.mapIter m since seen last)) : (getObj r).run P w = .ok (.mapIter m since seen last) w := by
  simp [getObj, Sem.run, h]
theorem run_getSi {r : Nat} {s : ByteArray} {pos : Nat} (h : w.heap[r]? = some (.stringIter s pos)) : (getObj r).run P w = .ok (.stringIter s pos) w := by simp [getObj, Sem.run, h]
theorem run_setMap {r : Nat} {es : Array MapEntry} {clock : Nat} (o : Obj) (h : w.heap[r]? = some (.map es clock)) : (setObj r o).run P w = .ok () { w with heap := w.heap.setIfInBounds r o } := by
  simp [setObj, Sem.run, h]
theorem run_setMi {r : Nat} {m : Option Nat} {since : Nat} {seen : Array Nat} {last : Nat} (o : Obj) (h : w.heap[r]? = some (.mapIter m since seen last)) :
    (setObj r o).run P w = .ok () { w with heap := w.heap.setIfInBounds r o } := by simp [setObj, Sem.run, h]
theorem run_setSi {r : Nat} {s : ByteArray} {pos : Nat} (o : Obj) (h : w.heap[r]? = some (.stringIter s pos)) : (setObj r o).run P w = .ok () { w with heap := w.heap.setIfInBounds r o } := by
  simp [setObj, Sem.run, h]

theorem leI_iff {a b : Int} : leI a b = true ↔ a ≤ b := by rw [leI_eq, decide_eq_true_iff]

theorem ERels.length {ρ : Ren} : ∀ {l l' : List MapEntry}, ERels ρ l l' → l'.length = l.length
  | _, _, .nil => rfl
  | _, _, .cons _ _ _ t => congrArg (· + 1) t.length

theorem len_ok {ρ : Ren} {S : St} {t ty : TypeId} {x x' v : Value} (h : (elen P t).run x S = some v) (hg : Gam P ρ S w) (hx : VRel ρ x x') :
    ∃ v', (Builtin.len_ #[t] ty #[x']).run P w = .ok v' w ∧ VRel ρ v v' := by
  unfold elen at h
  cases hu : P.underlying t with
  | none => rw [hu] at h; cases h
  | some d =>
    rw [hu] at h
    cases d with
    | string =>
      cases hx with
      | string s => cases h; exact ⟨_, by simp [Builtin.len_, run_underlying hu, goInt], .int _ _⟩
      | _ => cases h
    | array n e => cases h; exact ⟨_, by simp [Builtin.len_, run_underlying hu, goInt], .int _ _⟩
    | pointer a =>
      simp only at h
      cases ha : P.underlying a with
      | none => rw [ha] at h; cases h
      | some da =>
        rw [ha] at h
        cases da with
        | array n e => cases h; exact ⟨_, by simp [Builtin.len_, run_underlying hu, run_underlying ha, goInt], .int _ _⟩
        | _ => cases h
    | slice e =>
      cases hx with
      | nils n c => cases h; exact ⟨_, by simp [Builtin.len_, run_underlying hu, goInt], .int _ _⟩
      | sliceK b o n c L hL hc => cases h; exact ⟨_, by simp [Builtin.len_, run_underlying hu, goInt], .int _ _⟩
      | sliceU b o n c L hL hn hf => cases h; exact ⟨_, by simp [Builtin.len_, run_underlying hu, goInt], .int _ _⟩
      | sliceE b o a L hL hf => cases h; exact ⟨_, by simp [Builtin.len_, run_underlying hu, goInt], .int _ _⟩
      | _ => cases h
    | map k e =>
      cases hx with
      | nilm => cases h; exact ⟨.int .i64 0, by simp [Builtin.len_, run_underlying hu, goInt], .int _ _⟩
      | map b L hL =>
        simp only [mapOf] at h
        split at h
        · rename_i es hes
          split at hes
          · rename_i es2 clock hb
            cases hes
            cases h
            obtain ⟨L', hL', es', h1, h2⟩ := hg.obj b _ hb
            rw [hL] at hL'; cases hL'
            refine ⟨_, by simp [Builtin.len_, run_underlying hu, run_getMap h1, goInt]; rfl, ?_⟩
            rw [lenL_eq, ← h2.length]
            exact .int _ _
          · cases hes
        · cases h
      | _ => cases h
    | _ => cases h

theorem emax_ok {ρ : Ren} (gt : Bool) : ∀ {l l' : List Value} {x x' v : Value}, emax gt x l = some v → VRel ρ x x' → VRels ρ l l' →
    ∃ v', (l'.foldlM (if gt then Builtin.max2 else Builtin.min2) x').run P w = .ok v' w ∧ VRel ρ v v' := by
  intro l
  induction l with
  | nil =>
    intro l' x x' v h hx hl
    cases hl
    simp only [emax] at h
    cases h
    exact ⟨x', by simp, hx⟩
  | cons y l ih =>
    intro l' x x' v h hx hl
    cases hl with
    | @cons _ y' _ l' hy hl =>
      cases hx with
      | int k a =>
        cases hy with
        | int j b =>
          simp only [emax] at h
          obtain ⟨v', h1, h2⟩ := ih h (.int k _) hl
          refine ⟨v', ?_, h2⟩
          rw [List.foldlM_cons, Sem.run_bind]
          rw [← h1]
          have e : ((if gt then Builtin.max2 else Builtin.min2) (.int k a) (.int j b)).run P w = .ok (.int k (bif (bif gt then leI b a else leI a b) then a else b)) w := by
            cases gt with
            | true =>
              simp only [if_true, Builtin.max2, Sem.run_pure, cond_true]
              by_cases hc : leI b a = true
              · rw [hc]; have := leI_iff.1 hc; rw [if_neg (by omega)]; rfl
              · have hf : leI b a = false := by simpa using hc
                rw [hf]
                have : ¬ b ≤ a := fun q => hc (leI_iff.2 q)
                rw [if_pos (by omega)]; rfl
            | false =>
              simp only [Bool.false_eq_true, if_false, Builtin.min2, Sem.run_pure, cond_false]
              by_cases hc : leI a b = true
              · rw [hc]; have := leI_iff.1 hc; rw [if_neg (by omega)]; rfl
              · have hf : leI a b = false := by simpa using hc
                rw [hf]
                have : ¬ a ≤ b := fun q => hc (leI_iff.2 q)
                rw [if_pos (by omega)]; rfl
          rw [e, Result.andThen_ok]
        | _ => simp [emax] at h
      | _ => simp [emax] at h

/-! Ranges. -/

theorem newIt_next {o : AObj} {S S' : St} {v : Value} (h : newIt o S = .val v S') : S.next ≤ S'.next ∧ S'.next = Nat.succ S.next ∧ v = ptrTo S.next ∧ S' = ⟨S.heap.set S.next o, Nat.succ S.next⟩ := by
  unfold newIt at h
  rw [natK_eq] at h
  cases h
  exact ⟨Nat.le_succ _, rfl, rfl, rfl⟩

theorem range_ok {ρ : Ren} {S S' : St} {t : TypeId} {x x' v : Value} (h : erange P t x S = .val v S') :
    S.next ≤ S'.next ∧ (Gam P ρ S w → Free ρ S.next S'.next → VRel ρ x x' → SV P (Instr.range t x') ρ S w v S') := by
  unfold erange at h
  have main : ∀ (o : AObj), newIt o S = .val v S' → (∀ x' : Value, VRel ρ x x' → ∃ q : Obj, (Instr.range t x').run P w = .ok (.pointer (some ⟨w.heap.size, 0, none⟩)) { w with heap := w.heap.push q } ∧
      ∀ L : Loc, L.blk = w.heap.size → L.base = 0 → ρ S.next = none → ORel P (upd ρ S.next L) L o (w.heap.push q)) →
      S.next ≤ S'.next ∧ (Gam P ρ S w → Free ρ S.next S'.next → VRel ρ x x' → SV P (Instr.range t x') ρ S w v S') := by
    intro o h hr
    obtain ⟨h1, h2, rfl, rfl⟩ := newIt_next h
    refine ⟨h1, fun hg hf hx => ?_⟩
    obtain ⟨q, hq, ho⟩ := hr x' hx
    have hfn : ρ S.next = none := hf _ (Nat.le_refl _) (Nat.lt_succ_self _)
    refine ⟨upd ρ S.next ⟨w.heap.size, 0, 0, 0⟩, _, _, hq, evo_new hg hfn o ⟨w.heap.size, 0, 0, 0⟩ q w.drawn rfl (ho _ rfl rfl hfn), ?_⟩
    exact .ptr _ 0 _ (upd_same _ _ _)
  split at h
  · rename_i s hu
    refine main _ h fun x' hx => ?_
    cases hx
    exact ⟨.stringIter s 0, by simp [Instr.range, run_underlying hu], fun L hL hL0 _ => ⟨hL0, by rw [hL]; simp⟩⟩
  · rename_i k e hu
    refine main _ h fun x' hx => ?_
    cases hx
    exact ⟨.mapIter none 0 #[] 0, by simp [Instr.range, run_underlying hu], fun L hL hL0 _ => ⟨hL0, none, by rw [hL]; simp, rfl⟩⟩
  · rename_i k e m hu
    split at h
    · rename_i es clock hb
      obtain ⟨h1, h2, rfl, rfl⟩ := newIt_next h
      refine ⟨h1, fun hg hf hx => ?_⟩
      cases hx with
      | map _ L hL =>
        obtain ⟨L', hL', es', h3, h4⟩ := hg.obj m _ hb
        rw [hL] at hL'; cases hL'
        have hfn : ρ S.next = none := hf _ (Nat.le_refl _) (Nat.lt_succ_self _)
        refine ⟨upd ρ S.next ⟨w.heap.size, 0, 0, 0⟩, .pointer (some ⟨w.heap.size, 0, none⟩), _, by simp [Instr.range, run_underlying hu, run_getMap h3], evo_new hg hfn _ ⟨w.heap.size, 0, 0, 0⟩ (.mapIter (some L.blk) clock #[] clock) w.drawn rfl ?_, ?_⟩
        · exact ⟨rfl, some L.blk, by simp, L, sub_upd hfn _ _ hL, rfl⟩
        · exact .ptr _ 0 _ (upd_same _ _ _)
    · cases h
  · cases h

/-! The next entry. -/

theorem leftE_ok {ρ : Ren} {since : Nat} {seen : List Nat} : ∀ {es es' o n : List MapEntry}, leftE since seen es = (o, n) → ERels ρ es es' →
    ERels ρ o ((es'.filter fun e => !seen.contains e.born).filter fun e => decide (e.born < since)) ∧ ERels ρ n ((es'.filter fun e => !seen.contains e.born).filter fun e => decide (e.born ≥ since)) := by
  intro es
  induction es with
  | nil => intro es' o n h he; cases he; cases h; exact ⟨.nil, .nil⟩
  | cons e es ih =>
    intro es' o n h he
    cases he with
    | @cons _ e' _ es' hk hv hb t =>
      simp only [leftE] at h
      cases hl : leftE since seen es with
      | mk o1 n1 =>
        rw [hl] at h
        simp only at h
        obtain ⟨i1, i2⟩ := ih hl t
        have hm : ∀ l : List Nat, memN e.born l = l.contains e.born := by
          intro l
          induction l with
          | nil => rfl
          | cons x l ih =>
            simp only [memN, List.contains_cons, ih]
            congr 1
            rw [Bool.eq_iff_iff, Nat.beq_eq, beq_iff_eq]
            exact eq_comm
        rw [hm] at h
        rw [List.filter_cons, hb]
        cases hc : seen.contains e.born with
        | true => rw [hc] at h; cases h; exact ⟨i1, i2⟩
        | false =>
          rw [hc] at h
          simp only [cond_false] at h
          simp only [Bool.not_false, if_true, List.filter_cons, hb]
          cases hs : Nat.ble since e.born with
          | true =>
            rw [hs] at h; cases h
            have := ble_nat hs
            rw [if_neg (by simp; omega), if_pos (by simp; omega)]
            exact ⟨i1, .cons hk hv hb i2⟩
          | false =>
            rw [hs] at h; cases h
            have := not_ble hs
            rw [if_pos (by simp; omega), if_neg (by simp; omega)]
            exact ⟨.cons hk hv hb i1, i2⟩

theorem allBorn_ok {ρ : Ren} {last : Nat} : ∀ {es es' : List MapEntry}, ERels ρ es es' → (es'.all fun e => decide (e.born ≥ last)) = allBorn last es
  | _, _, .nil => rfl
  | _, _, .cons _ _ hb t => by
    simp only [List.all_cons, allBorn, allBorn_ok t, hb]
    congr 1
    rw [Bool.eq_iff_iff, decide_eq_true_iff, Nat.ble_eq]

theorem isNilL_eq {α : Type} (l : List α) : isNilL l = l.isEmpty := by cases l <;> rfl

theorem next_ok {ρ : Ren} {S S' : St} {isS : Bool} {ty : TypeId} {x x' v : Value} (h : enext isS x S = .val v S') :
    S.next ≤ S'.next ∧ (Gam P ρ S w → VRel ρ x x' → SV P (Instr.next x' isS ty) ρ S w v S') := by
  unfold enext at h
  split at h
  · rename_i r
    split at h
    · rename_i s pos hb
      cases hp : Nat.ble (Nat.succ pos) s.size with
      | true =>
        rw [hp] at h
        simp only [cond_true] at h
        cases h
        refine ⟨Nat.le_refl _, fun hg hx => ?_⟩
        have hlt : pos < s.size := ble_nat hp
        cases hx with
        | ptr _ _ L hL =>
          obtain ⟨L', hL', h0, h1⟩ := hg.obj r _ hb
          rw [hL] at hL'; cases hL'
          have hblk : L.blk < w.heap.size := by
            rcases Nat.lt_or_ge L.blk w.heap.size with h | h
            · exact h
            · simp [Array.getElem?_eq_none h] at h1
          refine ⟨ρ, .tuple ⟨[.bool true, .int .i64 (Int.ofNat pos), .int .i32 (Int.ofNat (Utf8.decode s pos).1)]⟩, _, ?_, evo_set hg hb hL _ (.stringIter s (pos + (Utf8.decode s pos).2)) w.drawn ⟨h0, by simp [hblk]⟩,
            .tuple (.cons (.bool _) (.cons (.int _ _) (.cons (.int _ _) .nil)))⟩
          simp [Instr.next, h0, run_getSi h1, hlt, run_setSi _ h1, goInt]
      | false =>
        rw [hp] at h
        simp only [cond_false] at h
        cases h
        refine ⟨Nat.le_refl _, fun hg hx => ?_⟩
        have hlt : ¬ pos < s.size := not_ble hp
        cases hx with
        | ptr _ _ L hL =>
          obtain ⟨L', hL', h0, h1⟩ := hg.obj r _ hb
          rw [hL] at hL'; cases hL'
          exact SV.same hg (v' := .tuple ⟨[.bool false]⟩) (by simp [Instr.next, h0, run_getSi h1, hlt]) (.tuple (.cons (.bool _) .nil))
    · rename_i since seen last hb
      cases h
      refine ⟨Nat.le_refl _, fun hg hx => ?_⟩
      cases hx with
      | ptr _ _ L hL =>
        obtain ⟨L', hL', h0, m', h1, h2⟩ := hg.obj r _ hb
        rw [hL] at hL'; cases hL'
        subst h2
        exact SV.same hg (v' := .tuple ⟨[.bool false]⟩) (by simp [Instr.next, h0, run_getMi h1]) (.tuple (.cons (.bool _) .nil))
    · rename_i m since seen last hb
      unfold enextM at h
      split at h
      · rename_i es clock hm
        cases hbad : (!isNilL seen && !isNilL es && allBorn last es) with
        | true => rw [hbad] at h; cases h
        | false =>
          rw [hbad] at h
          simp only [cond_false] at h
          have core : ∀ (hg : Gam P ρ S w) (hx : VRel ρ (.pointer (some ⟨r, 0, none⟩)) x'), ∃ L M es', ρ r = some L ∧ x' = .pointer (some ⟨L.blk, 0, none⟩) ∧ ρ m = some M ∧
              w.heap[L.blk]? = some (.mapIter (some M.blk) since ⟨seen⟩ last) ∧ L.base = 0 ∧ w.heap[M.blk]? = some (.map ⟨es'⟩ clock) ∧ ERels ρ es es' := by
            intro hg hx
            cases hx with
            | ptr _ _ L hL =>
              obtain ⟨L', hL', h0, m', h1, M, hM, h2⟩ := hg.obj r _ hb
              rw [hL] at hL'; cases hL'
              obtain ⟨M', hM', es', h3, h4⟩ := hg.obj m _ hm
              rw [hM] at hM'; cases hM'
              subst h2
              exact ⟨L, M, es', hL, by rw [h0], hM, h1, h0, h3, h4⟩
          have test : ∀ es', ERels ρ es es' → (!(⟨seen⟩ : Array Nat).isEmpty && !(⟨es'⟩ : Array MapEntry).isEmpty && (⟨es'⟩ : Array MapEntry).all (fun x => decide (x.born ≥ last))) = false := by
            intro es' he
            have e1 : (⟨seen⟩ : Array Nat).isEmpty = isNilL seen := by cases seen <;> rfl
            have e2 : (⟨es'⟩ : Array MapEntry).isEmpty = isNilL es := by cases he <;> rfl
            rw [e1, e2, List.all_toArray, allBorn_ok he]
            exact hbad
          split at h
          · rename_i hl
            cases h
            refine ⟨Nat.le_refl _, fun hg hx => ?_⟩
            obtain ⟨L, M, es', hL, rfl, hM, h1, h0, h3, h4⟩ := core hg hx
            obtain ⟨l1, l2⟩ := leftE_ok hl h4
            refine SV.same hg (v' := .tuple ⟨[.bool false]⟩) ?_ (.tuple (.cons (.bool _) .nil))
            simp only [Instr.next, Sem.run_bind, run_getMi h1, Result.andThen_ok, run_getMap h3, test es' h4, Bool.false_eq_true, if_false, List.filter_toArray, List.contains_toArray]
            generalize (List.filter (fun e => decide (e.born < since)) (List.filter (fun e => !seen.contains e.born) es')) = A at l1 ⊢
            generalize (List.filter (fun e => decide (e.born ≥ since)) (List.filter (fun e => !seen.contains e.born) es')) = B at l2 ⊢
            cases l1
            cases l2
            simp [choose, Sem.run, Question.forced]
          · rename_i e hl
            cases h
            refine ⟨Nat.le_refl _, fun hg hx => ?_⟩
            obtain ⟨L, M, es', hL, rfl, hM, h1, h0, h3, h4⟩ := core hg hx
            obtain ⟨l1, l2⟩ := leftE_ok hl h4
            have hblk : L.blk < w.heap.size := by
              rcases Nat.lt_or_ge L.blk w.heap.size with h | h
              · exact h
              · simp [Array.getElem?_eq_none h] at h1
            generalize hA : (List.filter (fun e => decide (e.born < since)) (List.filter (fun e => !seen.contains e.born) es')) = A at l1
            generalize hB : (List.filter (fun e => decide (e.born ≥ since)) (List.filter (fun e => !seen.contains e.born) es')) = B at l2
            cases l2
            cases l1 with
            | @cons _ e' _ _ hk hv hbn t =>
              cases t
              refine ⟨ρ, .tuple ⟨[.bool true, e'.key, e'.val]⟩, _, ?_, evo_set hg hb hL _ (.mapIter (some M.blk) since ⟨seen ++ [e.born]⟩ clock) w.drawn ⟨h0, some M.blk, by simp [hblk], M, hM, rfl⟩,
                .tuple (.cons (.bool _) (.cons hk (.cons hv .nil)))⟩
              simp only [Instr.next, Sem.run_bind, run_getMi h1, Result.andThen_ok, run_getMap h3, test es' h4, Bool.false_eq_true, if_false, List.filter_toArray, List.contains_toArray, hA, hB]
              simp [choose, Sem.run, Question.forced, run_setMi _ h1, hbn]
          · cases h
      · cases h
    · cases h
  · cases h

end
end Go.Eng

/- The engine, part 14: entries, made slices, copies, strings over bytes. -/
namespace Go.Eng

section
variable {P : Program} {w : World}

theorem lastN_eq : ∀ l : List Nat, lastN l = l.getLast?
  | [] => rfl
  | [_] => rfl
  | _ :: y :: l => by
    show lastN (y :: l) = _
    rw [lastN_eq (y :: l), List.getLast?_cons_cons]

theorem findBorn_ok {ρ : Ren} {n : Nat} : ∀ {es es' : List MapEntry} {e : MapEntry}, findBorn n es = some e → ERels ρ es es' →
    ∃ e', es'.find? (fun x => x.born == n) = some e' ∧ VRel ρ e.key e'.key ∧ VRel ρ e.val e'.val
  | _, _, _, h, .nil => by cases h
  | x :: _, _, e, h, .cons (e' := x') hk hv hb t => by
    simp only [findBorn] at h
    rw [List.find?_cons]
    cases hq : Nat.beq x.born n with
    | true =>
      rw [hq] at h
      cases h
      have : (x'.born == n) = true := by rw [hb, beq_nat hq]; simp
      rw [this]
      exact ⟨x', rfl, hk, hv⟩
    | false =>
      rw [hq] at h
      have : (x'.born == n) = false := by
        rw [hb]
        simp only [beq_eq_false_iff_ne]
        exact not_beq hq
      rw [this]
      exact findBorn_ok h t

theorem entry_ok {ρ : Ren} {S : St} {x x' v : Value} (h : eentry x S = some v) (hg : Gam P ρ S w) (hx : VRel ρ x x') :
    ∃ v', (Instr.entry x').run P w = .ok v' w ∧ VRel ρ v v' := by
  unfold eentry at h
  split at h
  · rename_i r
    split at h
    · rename_i m since seen last hb
      split at h
      · rename_i st es clock hst hm
        have hcl := (cond_inv h (by simp)).1
        replace h := (cond_inv h (by simp)).2
        have hcl := beq_nat hcl
        subst hcl
        split at h
        · rename_i e he
          cases h
          cases hx with
          | ptr _ _ L hL =>
            obtain ⟨L', hL', h0, m', h1, M, hM, h2⟩ := hg.obj r _ hb
            rw [hL] at hL'; cases hL'
            obtain ⟨M', hM', es', h3, h4⟩ := hg.obj m _ hm
            rw [hM] at hM'; cases hM'
            subst h2
            obtain ⟨e', h5, h6, h7⟩ := findBorn_ok he h4
            refine ⟨.tuple ⟨[e'.key, e'.val]⟩, ?_, .tuple (.cons h6 (.cons h7 .nil))⟩
            rw [lastN_eq] at hst
            have hback : (⟨seen⟩ : Array Nat).back? = some st := by rw [← hst]; simp
            simp [Instr.entry, h0, run_getMi h1, hback, run_getMap h3, h5]
        · cases h
      · cases h
    · cases h
  · cases h

theorem repL_get : ∀ (n : Nat) (l : List Value) (i : Nat), (repL n l)[i]? = if i < n * l.length then l[i % l.length]? else none := by
  intro n
  induction n with
  | zero => intro l i; simp [repL]
  | succ n ih =>
    intro l i
    simp only [repL]
    rcases Nat.lt_or_ge i l.length with h | h
    · rw [List.getElem?_append_left h, Nat.mod_eq_of_lt h, if_pos]
      rw [Nat.add_mul, Nat.one_mul]; omega
    · rw [List.getElem?_append_right h, ih]
      have e : (i - l.length) % l.length = i % l.length := (Nat.mod_eq_sub_mod h).symm
      rw [e, Nat.add_mul, Nat.one_mul]
      by_cases h2 : i - l.length < n * l.length
      · rw [if_pos h2, if_pos (by omega)]
      · rw [if_neg h2, if_neg (by omega)]

theorem repL_len : ∀ (n : Nat) (l : List Value), (repL n l).length = n * l.length := by
  intro n
  induction n with
  | zero => intro l; simp [repL]
  | succ n ih => intro l; simp only [repL, List.length_append, ih, Nat.add_mul, Nat.one_mul]; omega

theorem made_eq (z : Array Value) (n sz : Nat) (hz : z.size = sz) : madeCells z (n * sz) = ⟨repL n z.toList⟩ := by
  apply Array.ext_getElem?
  intro i
  have e0 : (⟨repL n z.toList⟩ : Array Value)[i]? = (repL n z.toList)[i]? := List.getElem?_toArray ..
  rw [e0, repL_get]
  simp only [madeCells, Array.getElem?_map, Array.getElem?_range, Array.length_toList, hz]
  by_cases h : i < n * sz
  · rw [if_pos h, if_pos h]
    have hpos : 0 < sz := by
      rcases Nat.eq_zero_or_pos sz with h0 | h0
      · subst h0; simp at h
      · exact h0
    have hm : i % sz < z.size := by rw [hz]; exact Nat.mod_lt _ hpos
    simp [hm, getElem!_pos]
  · rw [if_neg h, if_neg h]; rfl

theorem repL_rels {ρ : Ren} {l l' : List Value} (h : VRels ρ l l') : ∀ n, VRels ρ (repL n l) (repL n l')
  | 0 => .nil
  | n + 1 => h.append (repL_rels h n)

theorem made_ok {ρ : Ren} {S : St} {e : TypeId} {len cap : Nat} {c c' : List Value} (hc : cap ≠ capU) (hg : Gam P ρ S w) (hf : ρ S.next = none) (hr : VRels ρ c c') :
    ∃ ρ', Evo P ρ S w ρ' ⟨S.heap.set S.next (.cells c e false 0), Nat.succ S.next⟩ (w.alloc (.cells ⟨c'⟩ e)) ∧
      VRel ρ' (.slice (some ⟨S.next, 0, none⟩) len cap) (.slice (some ⟨w.heap.size, 0, none⟩) len cap) := by
  obtain ⟨ρ', h1, h2⟩ := new_cells (P := P) e w.drawn hg hf hr
  exact ⟨ρ', h1, .sliceK _ 0 _ _ _ h2 hc⟩

theorem makeSlice_ok (hz : ZeroOk P) {ρ : Ren} {S S' : St} {t : TypeId} {x x' y y' v : Value} (h : (emakeSlice P t).run x y S = .val v S') :
    S.next ≤ S'.next ∧ (Gam P ρ S w → Free ρ S.next S'.next → VRel ρ x x' → VRel ρ y y' → SV P (Instr.makeSlice t x' y') ρ S w v S') := by
  unfold emakeSlice at h
  split at h
  · rename_i e hu
    split at h
    · rename_i sz bs z hs hb hzt
      split at h
      · rename_i hl
        have hl := beq_nat hl
        rw [lenL_eq] at hl
        simp only [mkS] at h
        split at h
        · rename_i kl n kc c
          have hq := (cond_inv h (by simp)).1
          replace h := (cond_inv h (by simp)).2
          simp only [natK_eq] at h
          cases h
          refine ⟨Nat.le_succ _, fun hg hf hx hy => ?_⟩
          cases hx
          cases hy
          simp only [Bool.and_eq_true] at hq
          obtain ⟨⟨q1, q2⟩, q3⟩ := hq
          have q1 := ble_nat q1
          have q2 : c * bs ≤ 140737488355328 := ble_nat q2
          have q3 := ble_nat q3
          have hfn : ρ S.next = none := hf _ (Nat.le_refl _) (Nat.lt_succ_self _)
          obtain ⟨i, hi, hib, his⟩ : ∃ i, P.info? e = some i ∧ i.bytes = bs ∧ i.size = sz := by
            unfold bytesT at hb
            unfold szT at hs
            cases hi : P.info? e with
            | none => rw [hi] at hb; cases hb
            | some i => rw [hi] at hb hs; cases hb; cases hs; exact ⟨i, rfl, rfl, rfl⟩
          have hzi : i.zero = some z := by
            obtain ⟨j, hj, hjz, _⟩ := zeroT_inv hzt
            rw [hi] at hj
            cases hj
            exact hjz
          have hbc : (i.bytes : Int) * (c : Int) ≤ 281474976710656 := by
            rw [hib, ← Int.natCast_mul, Nat.mul_comm]; omega
          have hrun := run_make (P := P) w t e i z hu hi hzi kl kc (n : Int) (c : Int) (by omega) (by omega) hbc (by omega)
          simp only [Int.toNat_natCast] at hrun
          have hzc : z.cells.size = sz := by rw [cells_len]; exact hl
          rw [his, made_eq _ _ _ hzc] at hrun
          obtain ⟨ρ', h1, h2⟩ := made_ok (P := P) (e := e) (len := n) (cap := c) (by show c ≠ 9223372036854775808; omega) hg hfn (repL_rels (cellsL_rel (hz.rel hzt ρ)) c)
          exact ⟨ρ', _, _, hrun, h1, h2⟩
        · cases h
      · cases h
    · cases h
  · cases h

theorem buildSlice_ok (hz : ZeroOk P) {ρ : Ren} {S S' : St} {t : TypeId} {len : Nat} {parts parts' : List (Nat × Value)} {v : Value} (h : (ebuildSlice P t len).run parts S = .val v S') :
    S.next ≤ S'.next ∧ (Gam P ρ S w → Free ρ S.next S'.next → PRels ρ parts parts' → SV P (Instr.buildSlice t len ⟨parts'⟩) ρ S w v S') := by
  unfold ebuildSlice at h
  split at h
  · rename_i e hu
    split at h
    · rename_i sz z hs hzt
      split at h
      · rename_i hl
        simp only [Bool.and_eq_true] at hl
        obtain ⟨hl, q1, q2⟩ := hl
        have hl := beq_nat hl
        rw [lenL_eq] at hl
        have q1 : len * sz ≤ 16777216 := ble_nat q1
        have q2 := ble_nat q2
        simp only [mkSlice] at h
        split at h
        · rename_i cs hcs
          rw [natK_eq] at h
          cases h
          refine ⟨Nat.le_succ _, fun hg hf hp => ?_⟩
          have hfn : ρ S.next = none := hf _ (Nat.le_refl _) (Nat.lt_succ_self _)
          have hzc : z.cells.size = sz := by rw [cells_len]; exact hl
          obtain ⟨r', h3, h4⟩ := fill_ok hcs hp (repL_rels (cellsL_rel (hz.rel hzt ρ)) len)
          obtain ⟨ρ', h1, h2⟩ := made_ok (P := P) (e := e) (len := len) (cap := len) (by show len ≠ 9223372036854775808; omega) hg hfn h4
          refine ⟨ρ', _, _, ?_, h1, h2⟩
          have hpl : (fun i => some (i * sz, sz)) = placeA sz := rfl
          have hn : ¬ (16777216 < len * sz) := by omega
          have hmade := made_eq z.cells len sz hzc
          unfold madeCells at hmade
          by_cases h0 : len * sz = 0
          · rw [h0] at hmade
            have hr : (⟨repL len z.cells.toList⟩ : Array Value) = #[] := by rw [← hmade]; simp
            rw [hr] at h3
            simp [Instr.buildSlice, run_underlying hu, run_sizeOf hs, h0, hpl, h3, newRow, Array.range_zero']
          · simp [Instr.buildSlice, run_underlying hu, run_sizeOf hs, hn, h0, hpl, run_zeroValue hzt, hmade, h3, newRow]
        · cases h
      · cases h
    · cases h
  · cases h

theorem minN_min (a b : Nat) : minN a b = Nat.min a b := by
  unfold minN
  cases h : Nat.ble a b with
  | true => have := ble_nat h; simp only [cond_true]; exact (Nat.min_eq_left this).symm
  | false => have := not_ble h; simp only [cond_false]; exact (Nat.min_eq_right (by omega)).symm

theorem copy_ok {ρ : Ren} {S S' : St} {t t2 ty : TypeId} {d s d' s' v : Value} (h : ecopy P t d s S = .val v S') :
    S.next ≤ S'.next ∧ (Gam P ρ S w → VRel ρ d d' → VRel ρ s s' → SV P (Builtin.copy_ #[t, t2] ty #[d', s']) ρ S w v S') := by
  unfold ecopy at h
  split at h
  · rename_i e base dl dc hu
    split at h
    · rename_i sz a sl c hs
      have hlen : ∀ s' : Value, VRel ρ (.slice a sl c) s' → ∃ a' c', s' = .slice a' sl c' := by
        intro s' hr
        cases hr with
        | nils => exact ⟨_, _, rfl⟩
        | sliceK => exact ⟨_, _, rfl⟩
        | sliceU => exact ⟨_, _, rfl⟩
        | sliceE => exact ⟨_, _, rfl⟩
      have hmin : minN sl dl ≤ sl := by rw [minN_min]; exact Nat.min_le_left _ _
      have hgo : (Value.int .i64 (Int.ofNat (minN sl dl))) = goInt (Nat.min sl dl) := by rw [minN_min]; rfl
      split at h
      · rename_i l hl
        cases h
        refine ⟨Nat.le_refl _, fun hg hd hsr => ?_⟩
        cases hd
        obtain ⟨a', c', rfl⟩ := hlen s' hsr
        obtain ⟨l', h1, h2, _⟩ := sliceCells_run hl hg hsr hmin
        rw [minN_min] at h1
        refine SV.same hg (v' := goInt (Nat.min sl dl)) ?_ (by rw [hgo]; exact .int _ _)
        simp [Builtin.copy_, run_underlying hu, Builtin.lenOf, run_sizeOf hs, h1]
      · rename_i l b o hl
        split at h
        · cases h
          refine ⟨Nat.le_refl _, fun hg hd hsr => ?_⟩
          obtain ⟨a', c', rfl⟩ := hlen s' hsr
          obtain ⟨l', h1, h2, _⟩ := sliceCells_run hl hg hsr hmin
          cases h2
          rw [minN_min] at h1
          have main : ∀ p q, (Builtin.copy_ #[t, t2] ty #[.slice (some p) dl q, .slice a' sl c']).run P w = .ok (goInt (Nat.min sl dl)) w := fun p q => by
            simp [Builtin.copy_, run_underlying hu, Builtin.lenOf, run_sizeOf hs, h1, storeCells]
          refine SV.same hg (v' := goInt (Nat.min sl dl)) ?_ (by rw [hgo]; exact .int _ _)
          cases hd with
          | sliceK => exact main _ _
          | sliceU => exact main _ _
          | sliceE => exact main _ _
        · rename_i x l
          have hone := (cond_inv h (by simp)).1
          replace h := (cond_inv h (by simp)).2
          split at h
          · rename_i S1 hst
            cases h
            have hnx : S.next = S'.next := by
              unfold estoreCells at hst
              split at hst
              · replace hst := (cond_inv hst (by simp)).2
                split at hst
                · cases hst; rfl
                · cases hst
              · cases hst
            refine ⟨Nat.le_of_eq hnx, fun hg hd hsr => ?_⟩
            obtain ⟨a', c', rfl⟩ := hlen s' hsr
            obtain ⟨l', h1, h2, _⟩ := sliceCells_run hl hg hsr hmin
            rw [minN_min] at h1
            have main : ∀ L q, ρ b = some L → SV P (Builtin.copy_ #[t, t2] ty #[.slice (some ⟨L.blk, L.base + o, none⟩) dl q, .slice a' sl c']) ρ S w (.int .i64 (Int.ofNat (minN sl dl))) S' := by
              intro L q hL
              obtain ⟨_, w', h3, h4⟩ := estoreCells_ok hst hg hL h2 (oneCells_all hone h2)
              refine ⟨ρ, goInt (Nat.min sl dl), w', ?_, h4, by rw [hgo]; exact .int _ _⟩
              simp [Builtin.copy_, run_underlying hu, Builtin.lenOf, run_sizeOf hs, h1, h3]
            cases hd with
            | sliceK _ _ _ _ L hL => exact main L _ hL
            | sliceU _ _ _ _ L hL => exact main L _ hL
            | sliceE _ _ a2 L hL hf =>
              exfalso
              rw [minN_min, show Nat.min sl 0 = 0 from Nat.min_zero sl] at hl
              simp only [sliceCells] at hl
              split at hl
              · cases hl
              · split at hl
                · obtain ⟨_, hl2⟩ := takeL_some hl
                  have e0 : Nat.mul 0 sz = 0 := Nat.zero_mul sz
                  rw [e0] at hl2
                  cases hl2
                · cases hl
              · cases hl
          · cases h
      · cases h
    · cases h
  · cases h

theorem clear_ok (hz : ZeroOk P) {ρ : Ren} {S S' : St} {t ty : TypeId} {x x' v : Value} (h : eclear P t x S = .val v S') :
    S.next ≤ S'.next ∧ (Gam P ρ S w → VRel ρ x x' → SV P (Builtin.clear_ #[t] ty #[x']) ρ S w v S') := by
  unfold eclear at h
  split at h
  · rename_i e a c hu
    cases h
    refine ⟨Nat.le_refl _, fun hg hx => ?_⟩
    have main : ∀ a' c', (Builtin.clear_ #[t] ty #[.slice a' 0 c']).run P w = .ok (.tuple #[]) w := fun a' c' => by
      cases a' <;> simp [Builtin.clear_, run_underlying hu]
    refine SV.same hg (v' := .tuple ⟨[]⟩) ?_ (undef_rel ρ)
    cases hx with
    | nils => exact main _ _
    | sliceK => exact main _ _
    | sliceU => exact main _ _
    | sliceE => exact main _ _
  · rename_i e b o n c hne hu
    split at h
    · rename_i z sz hzt hs
      have hq := (cond_inv h (by simp)).1
      replace h := (cond_inv h (by simp)).2
      split at h
      · rename_i S1 hst
        cases h
        have hnx : S.next = S'.next := by
          unfold estoreCells at hst
          split at hst
          · replace hst := (cond_inv hst (by simp)).2
            split at hst
            · cases hst; rfl
            · cases hst
          · cases hst
        refine ⟨Nat.le_of_eq hnx, fun hg hx => ?_⟩
        rw [Bool.and_eq_true] at hq
        have hrr := repL_rels (cellsL_rel (hz.rel hzt ρ)) n
        have hzz : z.cells.toList = cellsL z := by cases z <;> rfl
        have hone : ∀ u ∈ repL n z.cells.toList, u.oneCell' = true := by
          intro u hu'
          have hall := oneCells_all hq.2 (cellsL_rel (hz.rel hzt ρ))
          have : ∀ m, ∀ u ∈ repL m z.cells.toList, u ∈ z.cells.toList := by
            intro m
            induction m with
            | zero => intro u hu'; cases hu'
            | succ m ih =>
              intro u hu'
              simp only [repL, List.mem_append] at hu'
              rcases hu' with h | h
              · exact h
              · exact ih u h
          exact hall u (this n u hu')
        have hzero : (Builtin.zeroCells z.cells n).toList = repL n z.cells.toList := by
          have := made_eq z.cells n z.cells.size rfl
          have h2 := congrArg Array.toList this
          exact h2
        have hn0 : n ≠ 0 := by
          intro e0
          subst e0
          exact hne rfl
        have main : ∀ L q, ρ b = some L → SV P (Builtin.clear_ #[t] ty #[.slice (some ⟨L.blk, L.base + o, none⟩) n q]) ρ S w undef S' := by
          intro L q hL
          obtain ⟨_, w', h3, h4⟩ := estoreCells_ok hst hg hL hrr hone
          refine ⟨ρ, .tuple ⟨[]⟩, w', ?_, h4, undef_rel ρ⟩
          obtain ⟨m, rfl⟩ : ∃ m, n = m + 1 := ⟨n - 1, by omega⟩
          simp [Builtin.clear_, run_underlying hu, run_zeroValue hzt, hzero, h3]
        cases hx with
        | sliceK _ _ _ _ L hL => exact main L _ hL
        | sliceU _ _ _ _ L hL => exact main L _ hL
        | sliceE => exact absurd rfl hn0
      · cases h
    · cases h
  · cases h

theorem sliceData_ok {ρ : Ren} {x x' v : Value} {ts : Array TypeId} {ty : TypeId} (h : esliceData x = some v) (hx : VRel ρ x x') :
    ∃ v', (Builtin.unsafeSliceData_ ts ty #[x']).run P w = .ok v' w ∧ VRel ρ v v' := by
  unfold esliceData at h
  split at h
  · cases h
    cases hx
    exact ⟨.pointer none, rfl, .nilp⟩
  · rename_i b o n c
    have hq := (cond_inv h (by simp)).1
    replace h := (cond_inv h (by simp)).2
    cases h
    rw [Bool.and_eq_true] at hq
    have q1 := ble_nat hq.1
    have q2 := ble_nat hq.2
    cases hx with
    | sliceK _ _ _ _ L hL => exact ⟨_, Lib.run_unsafeSliceData_row w ts ty _ n c (by omega), .ptr _ _ L hL⟩
    | sliceU _ _ _ c' L hL hn => exact ⟨_, Lib.run_unsafeSliceData_row w ts ty _ n c' (by omega), .ptr _ _ L hL⟩
    | sliceE => omega
  · cases h

theorem liesAt_row {e : TypeId} (hc : P.cellsOf e = 1) (count off n : Nat) (hn : off + n ≤ count) : liesAt P P.depth e count off e n = true := by
  have hd : P.depth = (2 * (P.types.size + Made.depth) + 1) + 1 := rfl
  rw [hd]
  simp only [liesAt, Bool.or_eq_true]
  left
  rw [hd]
  simp [rowAt, hc, hn, sameLayout, Nat.mod_one]

theorem run_loadBytesI : ∀ (l : List Int) (a : Addr) (acc : ByteArray), (∀ j x, l[j]? = some x → w.cell? (a.add j) = some (.int .u8 x)) →
    (loadBytes a acc l.length).run P w = .ok ⟨acc.data ++ (l.map fun n => UInt8.ofNat n.toNat).toArray⟩ w
  | [], a, acc, _ => by simp [loadBytes]
  | x :: l, a, acc, h => by
    have h0 : w.cell? a = some (.int .u8 x) := by
      have := h 0 x rfl
      simpa [Addr.add] using this
    have ih := run_loadBytesI l (a.add 1) (acc.push (UInt8.ofNat x.toNat)) (fun j y hy => by
      have := h (j + 1) y (by simpa using hy)
      have e : (a.add 1).add j = a.add (j + 1) := by
        unfold Addr.add
        by_cases hj : j = 0
        · subst hj; simp
        · simp [hj]; omega
      rw [e]; exact this)
    have hx : (x.toNat).toUInt8 = UInt8.ofNat x.toNat := rfl
    simp only [List.length_cons, loadBytes, Sem.run_bind, run_load, h0, Result.andThen, hx]
    rw [ih]
    congr 1
    apply ByteArray.ext
    simp [ByteArray.push]

theorem freeze_eq {k off n : Nat} {cs : Array Value} {e : TypeId} {lo hi : Nat} (hn : n ≠ 0) (h : w.heap[k]? = some (.cells cs e (lo, hi))) :
    ∃ lo' hi', w.freeze ⟨k, off, none⟩ n = { w with heap := w.heap.setIfInBounds k (.cells cs e (lo', hi')) } ∧ hi' ≤ max hi (off + n) := by
  refine ⟨(if lo == hi then (off, off + n) else (min lo off, max hi (off + n))).1, (if lo == hi then (off, off + n) else (min lo off, max hi (off + n))).2, ?_, ?_⟩
  · unfold World.freeze
    rw [if_neg hn]
    congr 1
    apply Array.ext_getElem?
    intro j
    rw [Array.getElem?_modify, Array.getElem?_setIfInBounds]
    by_cases hj : k = j
    · subst hj
      have hlt : k < w.heap.size := by
        rcases Nat.lt_or_ge k w.heap.size with h' | h'
        · exact h'
        · simp [Array.getElem?_eq_none h'] at h
      rw [if_pos rfl, if_pos rfl, if_pos hlt, h]
      rfl
    · rw [if_neg hj, if_neg hj]
  · split
    · exact Nat.le_max_right _ _
    · exact Nat.le_refl _

theorem us_none (ts : Array TypeId) (ty t : TypeId) (ht : ts[0]? = some t) (p : Option Addr) (k : IntKind) : (Builtin.unsafeString_ ts ty #[.pointer p, .int k 0]).run P w = .ok (.string .empty) w := by
  have hmax : IntKind.i64.max = 9223372036854775807 := rfl
  cases p with
  | none =>
    have hdef : Builtin.unsafeString_ ts ty #[.pointer none, .int k 0] =
        (do
          let n ← asInt (.int k 0)
          let some _ := ts[0]? | stuck "unsafe.String: no argument types"
          if n < 0 then runtimePanic (.error "unsafe.String: len out of range")
          if n > IntKind.i64.max then unsupported (.unsafePointer "String: a length above the largest int")
          if n = 0 then pure (.string .empty)
          else runtimePanic (.error "unsafe.String: ptr is nil and len is not zero")) := rfl
    rw [hdef]
    simp [asInt, asIntOf, hmax, ht]
  | some a =>
    have hdef : Builtin.unsafeString_ ts ty #[.pointer (some a), .int k 0] =
        (do
          let n ← asInt (.int k 0)
          let some pt := ts[0]? | stuck "unsafe.String: no argument types"
          if n < 0 then runtimePanic (.error "unsafe.String: len out of range")
          if n > IntKind.i64.max then unsupported (.unsafePointer "String: a length above the largest int")
          if n = 0 then pure (.string .empty)
          else if ← variablesAt a (← elemOf pt) n.toNat then do
            let s ← loadBytes a .empty n.toNat
            freeze a n.toNat
            pure (.string s)
          else unsupported (.unsafePointer "String: not so many bytes at ptr")) := rfl
    rw [hdef]
    simp [asInt, asIntOf, hmax, ht]

theorem us_some (ts : Array TypeId) (ty t e : TypeId) (ht : ts[0]? = some t) (hu : P.underlying t = some (.pointer e)) (a : Addr) (k : IntKind) (n : Nat) (h0 : n ≠ 0) (h63 : n ≤ 9223372036854775807) {c : Nat} {e' : TypeId}
    (hsh : w.shape? a.block = some (e', c)) (hl : liesAt P P.depth e' (c / P.cellsOf e') a.off e n = true) {s : ByteArray} (hb : (loadBytes a .empty n).run P w = .ok s w) :
    (Builtin.unsafeString_ ts ty #[.pointer (some a), .int k n]).run P w = .ok (.string s) (w.freeze a n) := by
  have hmax : IntKind.i64.max = 9223372036854775807 := rfl
  have hdef : Builtin.unsafeString_ ts ty #[.pointer (some a), .int k n] =
      (do
        let n ← asInt (.int k n)
        let some pt := ts[0]? | stuck "unsafe.String: no argument types"
        if n < 0 then runtimePanic (.error "unsafe.String: len out of range")
        if n > IntKind.i64.max then unsupported (.unsafePointer "String: a length above the largest int")
        if n = 0 then pure (.string .empty)
        else if ← variablesAt a (← elemOf pt) n.toNat then do
          let s ← loadBytes a .empty n.toNat
          freeze a n.toNat
          pure (.string s)
        else unsupported (.unsafePointer "String: not so many bytes at ptr")) := rfl
  rw [hdef]
  have h63' : ¬ (9223372036854775807 : Int) < (n : Int) := by omega
  have hneg : ¬ (n : Int) < 0 := by omega
  simp [asInt, asIntOf, hmax, ht, h63', hneg, h0, variablesAt, hsh, elemOf, run_underlying hu, hl, hb]

theorem unsafeString_ok {ρ : Ren} {S S' : St} {t ty : TypeId} {ts : Array TypeId} {p l p' l' v : Value} (h : eunsafeString P t p l S = .val v S') (ht : ts[0]? = some t) :
    S.next ≤ S'.next ∧ (Gam P ρ S w → VRel ρ p p' → VRel ρ l l' → SV P (Builtin.unsafeString_ ts ty #[p', l']) ρ S w v S') := by
  unfold eunsafeString at h
  split at h
  · rename_i a k
    cases h
    refine ⟨Nat.le_refl _, fun hg hp hl => ?_⟩
    cases hl
    refine SV.same hg (v' := .string .empty) ?_ (.string _)
    cases hp <;> exact us_none ts ty t ht _ _
  · rename_i b o k n hn
    split at h
    · rename_i u c e op fz hu hb
      have hq := (cond_inv h (by simp)).1
      replace h := (cond_inv h (by simp)).2
      simp only [Bool.and_eq_true] at hq
      obtain ⟨⟨⟨q1, q2⟩, q3⟩, q4⟩ := hq
      have q1 := beq_nat q1
      subst q1
      have q4 := ble_nat q4
      have hs : szT P u = some 1 := by
        split at q3
        · assumption
        · cases q3
      split at h
      · rename_i cs hcs
        split at h
        · rename_i r hr
          cases h
          refine ⟨Nat.le_refl _, fun hg hp hl => ?_⟩
          cases hl
          cases hp with
          | ptr _ _ L hL =>
            have hn0 : n ≠ 0 := fun e0 => by
              subst e0
              exact hn rfl
            obtain ⟨L', hL', cv, lo, hi, hw, hcc, hk, ho, hfr⟩ := hg.obj b _ hb
            rw [hL] at hL'; cases hL'
            obtain ⟨htl, rfl⟩ := takeL_some hcs
            rw [dropL_eq] at htl hr
            rw [List.length_drop] at htl
            -- the cells
            have hlist : ∃ l' : List Value, VRels ρ ((c.drop o).take n) l' ∧ ∀ j v', l'[j]? = some v' → w.cell? ((⟨L.blk, L.base + o, none⟩ : Addr).add j) = some v' := by
              refine ⟨(List.range n).map fun j => (w.cell? ⟨L.blk, L.base + o + j, none⟩).getD undef, VRels.of_get (by simp; omega) fun j v hj => ?_, fun j v' hj => ?_⟩
              · have hjn : j < n := by
                  rcases Nat.lt_or_ge j n with h' | h'
                  · exact h'
                  · rw [List.getElem?_eq_none (by simp; omega)] at hj; cases hj
                rw [List.getElem?_take_of_lt hjn, List.getElem?_drop] at hj
                obtain ⟨v', h3, h4⟩ := cell_at hg hb hL hj
                exact ⟨v', by simp [hjn, show L.base + o + j = L.base + (o + j) by omega, h3], h4⟩
              · have hjn : j < n := by
                  rcases Nat.lt_or_ge j n with h' | h'
                  · exact h'
                  · rw [List.getElem?_eq_none (by simp; omega)] at hj; cases hj
                have hjc : o + j < c.length := by omega
                obtain ⟨u', h3, h4⟩ := cell_at hg hb hL (i := o + j) (v := c[o + j]) (by simp [hjc])
                rw [addr_add, show L.base + o + j = L.base + (o + j) by omega, h3]
                simp [hjn, show L.base + o + j = L.base + (o + j) by omega, h3] at hj
                rw [hj]
            obtain ⟨l', hl1, hl2⟩ := hlist
            obtain ⟨ns, rfl, rfl⟩ := bytesL_inv hr hl1
            have hnl : ns.length = n := by
              have := hl1.length
              simp at this
              omega
            have hlb := run_loadBytesI (P := P) (w := w) ns ⟨L.blk, L.base + o, none⟩ .empty (fun j x hx => hl2 j _ (by simp [hx]))
            rw [hnl] at hlb
            have hsz : L.base + o + n ≤ cv.size := by
              obtain ⟨v', hv', _⟩ := hcc (o + (n - 1)) c[o + (n - 1)] (by rw [List.getElem?_eq_getElem])
              rcases Nat.lt_or_ge (L.base + (o + (n - 1))) cv.size with h' | h'
              · omega
              · simp [Array.getElem?_eq_none h'] at hv'
            have hco := cellsOf_eq hs
            have hlies := liesAt_row (P := P) hco (cv.size / P.cellsOf u) (L.base + o) n (by rw [hco, Nat.div_one]; exact hsz)
            have hsh : w.shape? L.blk = some (u, cv.size) := by simp [World.shape?, hw]
            obtain ⟨lo', hi', hfz, hhi⟩ := freeze_eq (off := L.base + o) hn0 hw
            have hblk : L.blk < w.heap.size := by
              rcases Nat.lt_or_ge L.blk w.heap.size with h' | h'
              · exact h'
              · simp [Array.getElem?_eq_none h'] at hw
            refine ⟨ρ, .string ⟨⟨ns.map fun n => UInt8.ofNat n.toNat⟩⟩, _, ?_, evo_set hg hb hL (.cells c u op (max fz (o + n))) (.cells cv u (lo', hi')) w.drawn ?_, .string _⟩
            · have hrun := us_some (w := w) ts ty t u ht hu ⟨L.blk, L.base + o, none⟩ k n hn0 (by omega) hsh hlies hlb
              rw [hfz] at hrun
              refine hrun.trans ?_
              congr 2
              apply ByteArray.ext
              simp
            · refine ⟨cv, lo', hi', by simp [hblk], hcc, hk, ho, ?_⟩
              have : max hi (L.base + o + n) ≤ L.base + max fz (o + n) := by omega
              omega
        · cases h
      · cases h
    · cases h
  · cases h

end
end Go.Eng
