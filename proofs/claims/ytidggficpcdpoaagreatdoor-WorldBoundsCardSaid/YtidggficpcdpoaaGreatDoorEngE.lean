/- The engine's operations do what the machine's do (third part). -/
import Derived.Test.YtidggficpcdpoaaGreatDoorEngD

/- The engine, part 15: maps. -/
namespace Go.Eng

section
variable {P : Program} {w : World}

theorem eqK_iff {a b : IntKind} (h : eqK a b = true) : a = b := by cases a <;> cases b <;> first | rfl | cases h

theorem ckS_cases {ρ : Ren} {t : TypeId} {v v' : Value} (h : ckS P t v = true) (hv : VRel ρ v v') :
    v' = v ∧ ((∃ k n q, P.underlying t = some (.int q) ∧ v = .int k n) ∨ (∃ s, P.underlying t = some .string ∧ v = .string s) ∨ (∃ b, P.underlying t = some .bool ∧ v = .bool b)) := by
  unfold ckS at h
  split at h
  · rename_i q hu
    cases hv <;> first | (cases h; done) | skip
    exact ⟨rfl, .inl ⟨_, _, _, hu, rfl⟩⟩
  · rename_i hu
    cases hv <;> first | (cases h; done) | skip
    exact ⟨rfl, .inr (.inl ⟨_, hu, rfl⟩)⟩
  · rename_i hu
    cases hv <;> first | (cases h; done) | skip
    exact ⟨rfl, .inr (.inr ⟨_, hu, rfl⟩)⟩
  · cases h

theorem ckS_part {ρ : Ren} {t : TypeId} {off : Nat} {cs cs' : List Value} {v : Value} (h : ckS P t v = true) (hn : nth cs off = some v) (hc : VRels ρ cs cs') : (part t ⟨cs'⟩ off).run P w = .ok v w ∧ (∃ d, P.underlying t = some d) := by
  have hagg : aggT P t = some false ∧ ∃ d, P.underlying t = some d := by
    unfold ckS at h
    unfold aggT
    split at h
    · rename_i q hu; rw [hu]; exact ⟨rfl, _, rfl⟩
    · rename_i hu; rw [hu]; exact ⟨rfl, _, rfl⟩
    · rename_i hu; rw [hu]; exact ⟨rfl, _, rfl⟩
    · cases h
  have he : (epart P t).run off cs = some v := by unfold epart; rw [hagg.1]; exact hn
  obtain ⟨v', h1, h2⟩ := part_ok (w := w) he hc
  obtain ⟨e, _⟩ := ckS_cases h h2
  rw [e] at h1
  exact ⟨h1, hagg.2⟩

theorem forIn_yield {α : Type} : ∀ (l : List α) (g : α → PUnit → Sem (ForInStep PUnit)), (∀ x ∈ l, (g x ⟨⟩).run P w = .ok (.yield ⟨⟩) w) → (forIn l (⟨⟩ : PUnit) g).run P w = .ok ⟨⟩ w
  | [], g, _ => by simp
  | x :: l, g, h => by
    rw [List.forIn_cons, Sem.run_bind, h x (by simp), Result.andThen_ok]
    exact forIn_yield l g fun y hy => h y (by simp [hy])

theorem checkS_ok {em : Bool} {n : Nat} {t : TypeId} {v : Value} (h : ckS P t v = true) : (Instr.checkKey em (n + 1) t v).run P w = .ok () w := by
  unfold ckS at h
  split at h
  · rename_i q hu; simp [Instr.checkKey, run_underlying hu]
  · rename_i hu; simp [Instr.checkKey, run_underlying hu]
  · rename_i hu; simp [Instr.checkKey, run_underlying hu]
  · cases h

theorem checkKey_gen {ρ : Ren} {em : Bool} {t : TypeId} {v v' : Value} (n : Nat) (h : ckK P t v = true) (hv : VRel ρ v v') : (Instr.checkKey em (n + 1 + 1) t v').run P w = .ok () w := by
  unfold ckK at h
  split at h
  · rename_i fs hu
    cases hv <;> first | (cases h; done) | skip
    rename_i xs xs' hx
    simp only at h
    have hin : ∀ (l : List Field), ckFs P l xs = true → ∀ f ∈ l, ∃ u, nth xs f.offset = some u ∧ ckS P f.type u = true := by
      intro l
      induction l with
      | nil => intro _ f hf; cases hf
      | cons g l ih =>
        intro hc f hf
        simp only [ckFs, Bool.and_eq_true] at hc
        rcases List.mem_cons.1 hf with e | hf
        · subst e
          have := hc.1
          split at this
          · rename_i u hu'; exact ⟨u, hu', this⟩
          · cases this
        · exact ih hc.2 f hf
    have hg : ∀ m : Nat, (∀ f ∈ fs.toList, ∀ u, ckS P f.type u = true → (Instr.checkKey em m f.type u).run P w = .ok () w) → (Instr.checkKey em (m + 1) t (.agg ⟨xs'⟩)).run P w = .ok () w := by
      intro m hm
      unfold Instr.checkKey
      simp only [Sem.run_bind, run_underlying hu, Result.andThen_ok]
      rw [← Array.forIn_toList]
      refine (congrArg (fun r => Result.andThen r _) (forIn_yield fs.toList _ fun f hf => ?_)).trans rfl
      obtain ⟨u, h1, h2⟩ := hin _ h f hf
      have h3 := (ckS_part (w := w) h2 h1 hx).1
      by_cases hn : f.name = "_"
      · simp [hn]
      · have h4 := hm f hf u h2
        simp [hn, h3, h4]
    exact hg (n + 1) fun f _ u hu => checkS_ok hu
  · have := (ckS_cases h hv).1
    subst this
    exact checkS_ok h

theorem checkKey_ok {ρ : Ren} {em : Bool} {t : TypeId} {v v' : Value} (h : ckK P t v = true) (hv : VRel ρ v v') : (Instr.checkKey em 10000 t v').run P w = .ok () w :=
  checkKey_gen 9998 h hv

theorem sameCell_ok {ρ : Ren} {x y x' y' : Value} (h : sameCell x y = true) (hx : VRel ρ x x') (hy : VRel ρ y y') (n : Nat) : Instr.sameBits n x' y' = true := by
  cases hx <;> first | (cases h; done) | skip
  all_goals (cases hy <;> first | (cases h; done) | skip)
  · rename_i a b
    simp only [sameCell, eqBool_eq] at h
    cases n <;> (simp only [Instr.sameBits]; exact h)
  · rename_i k a k' b
    simp only [sameCell, Bool.and_eq_true, eqI_eq] at h
    have := eqK_iff h.1
    subst this
    cases n <;> (simp only [Instr.sameBits, Bool.and_eq_true]; exact ⟨by simp, h.2⟩)
  · rename_i a b
    simp only [sameCell, eqB_eq] at h
    have : a.data.toList = b.data.toList := by simpa using h
    have hab : a = b := by
      apply ByteArray.ext
      exact Array.toList_inj.1 this
    subst hab
    cases n <;> (simp only [Instr.sameBits, beq_toListBytes]; simp)

theorem sameCells_ok {ρ : Ren} (n : Nat) : ∀ {x y x' y' : List Value}, sameCells x y = true → VRels ρ x x' → VRels ρ y y' → x'.length = y'.length ∧ (x'.zip y').all (fun (a, b) => Instr.sameBits n a b) = true
  | [], [], _, _, _, .nil, .nil => ⟨rfl, rfl⟩
  | _ :: _, _ :: _, _, _, h, .cons h1 t1, .cons h2 t2 => by
    simp only [sameCells, Bool.and_eq_true] at h
    obtain ⟨i1, i2⟩ := sameCells_ok n h.2 t1 t2
    refine ⟨by simp [i1], ?_⟩
    simp only [List.zip_cons_cons, List.all_cons, Bool.and_eq_true]
    exact ⟨sameCell_ok h.1 h1 h2 n, i2⟩

theorem sameKey_ok {ρ : Ren} {x y x' y' : Value} (h : sameKey x y = true) (hx : VRel ρ x x') (hy : VRel ρ y y') : Instr.sameBits 10000 x' y' = true := by
  unfold sameKey at h
  split at h
  · rename_i a b
    cases hx with
    | @agg _ a' h1 =>
      cases hy with
      | @agg _ b' h2 =>
        have gen : ∀ n : Nat, Instr.sameBits (n + 1) (.agg ⟨a'⟩) (.agg ⟨b'⟩) = true := fun n => by
          obtain ⟨i1, i2⟩ := sameCells_ok n h h1 h2
          rw [Instr.sameBits, Bool.and_eq_true]
          exact ⟨by simp [i1], i2⟩
        exact gen 9999
  · exact sameCell_ok h hx hy _

theorem sameNow_gen {t : TypeId} {d : TypeDesc} {x y : Value} {b' : Bool} (n : Nat) (hu : P.underlying t = some d) (h : Instr.sameNow d x y = some b') : (Op.equalIn (n + 1) t x y).run P w = .ok b' w := by
  have hr := run_underlying (w := w) hu
  unfold Instr.sameNow at h
  split at h
  · rename_i q k a k' c
    split at h
    · rename_i hk
      subst hk
      cases h
      simp only [Op.equalIn, Sem.run_bind, hr, Result.andThen_ok, if_true, Sem.run_pure]
    · cases h
  · cases h
    simp only [Op.equalIn, Sem.run_bind, hr, Result.andThen_ok, Sem.run_pure]
  · cases h
    simp only [Op.equalIn, Sem.run_bind, hr, Result.andThen_ok, Sem.run_pure]
  · cases h

theorem sameNow_eq {t : TypeId} {d : TypeDesc} {x y : Value} {b b' : Bool} (hu : P.underlying t = some d) (h : Instr.sameNow d x y = some b') (h2 : (Op.equal t x y).run P w = .ok b w) : b' = b := by
  have h1 : (Op.equal t x y).run P w = .ok b' w := sameNow_gen (w := w) 9999 hu h
  rw [h1] at h2
  injection h2

def FRel (ρ : Ren) : Option (Nat × Value) → Option (Nat × Value) → Prop
  | none, none => True
  | some (i, v), some (i', v') => i' = i ∧ VRel ρ v v'
  | _, _ => False

theorem findK_ok {ρ : Ren} {kt : TypeId} {d : TypeDesc} {k k' : Value} (hu : P.underlying kt = some d) (hk : VRel ρ k k') : ∀ {es es' : List MapEntry} {i : Nat} {r : Option (Nat × Value)}, findK P kt k es i = some r → ERels ρ es es' →
    ∃ r', FRel ρ r r' ∧ (Instr.findAsking kt k' es' i).run P w = .ok r' w ∧ (∀ q, Instr.findNow d k' es' i = some q → q = r')
  | _, _, i, r, h, .nil => by
    simp only [findK] at h
    cases h
    refine ⟨none, trivial, rfl, fun q hq => ?_⟩
    simp only [Instr.findNow] at hq
    cases hq; rfl
  | e :: es, e' :: es', i, r, h, .cons hke hve hb t => by
    simp only [findK] at h
    split at h
    · rename_i heq
      cases h
      have h1 : (Op.equal kt k' e'.key).run P w = .ok true w := eeq_ok 100 10000 kt k e.key k' e'.key true heq (by omega) hk hke
      refine ⟨some (i, e'.val), ⟨rfl, hve⟩, ?_, fun q hq => ?_⟩
      · simp [Instr.findAsking, h1]
      · simp only [Instr.findNow] at hq
        split at hq
        · cases hq; rfl
        · rename_i hs
          have := sameNow_eq hu hs h1
          cases this
        · cases hq
    · rename_i heq
      have h1 : (Op.equal kt k' e'.key).run P w = .ok false w := eeq_ok 100 10000 kt k e.key k' e'.key false heq (by omega) hk hke
      obtain ⟨r', i1, i2, i3⟩ := findK_ok hu hk h t
      refine ⟨r', i1, ?_, fun q hq => ?_⟩
      · simp only [Instr.findAsking, Sem.run_bind, h1, Result.andThen_ok, Bool.false_eq_true, if_false]
        exact i2
      · simp only [Instr.findNow] at hq
        split at hq
        · rename_i hs
          have := sameNow_eq hu hs h1
          cases this
        · exact i3 q hq
        · cases hq
    · cases h

theorem findKey_ok {ρ : Ren} {kt : TypeId} {k k' : Value} (hc : ckK P kt k = true) (hk : VRel ρ k k') {es es' : List MapEntry} {r : Option (Nat × Value)} (h : findK P kt k es 0 = some r) (he : ERels ρ es es') :
    ∃ r', FRel ρ r r' ∧ (Instr.findKey kt k' es').run P w = .ok r' w := by
  have hd : ∃ d, P.underlying kt = some d := by
    cases hu : P.underlying kt with
    | some d => exact ⟨d, rfl⟩
    | none => unfold ckK ckS at hc; rw [hu] at hc; cases hc
  obtain ⟨d, hu⟩ := hd
  obtain ⟨r', h1, h2, h3⟩ := findK_ok (w := w) hu hk h he
  refine ⟨r', h1, ?_⟩
  simp only [Instr.findKey, Sem.run_bind, run_underlying hu, Result.andThen_ok]
  split
  · rename_i q hq
    rw [h3 q hq]; rfl
  · exact h2

theorem ents_ok {ρ : Ren} {S : St} {x x' : Value} {es : List MapEntry} (hes : mapOf x S = some es) (hg : Gam P ρ S w) (hx : VRel ρ x x') :
    ∃ es' : List MapEntry, ERels ρ es es' ∧ ((x' = .map none ∧ es' = []) ∨ ∃ r clock, x' = .map (some r) ∧ w.heap[r]? = some (.map ⟨es'⟩ clock)) := by
  unfold mapOf at hes
  split at hes
  · cases hes
    cases hx
    exact ⟨[], .nil, .inl ⟨rfl, rfl⟩⟩
  · rename_i b
    split at hes
    · rename_i es2 clock hb
      cases hes
      cases hx with
      | map _ L hL =>
        obtain ⟨L', hL', es', h1, h2⟩ := hg.obj b _ hb
        rw [hL] at hL'; cases hL'
        exact ⟨es', h2, .inr ⟨_, clock, rfl, h1⟩⟩
    · cases hes
  · cases hes

theorem lookup_ok (hz : ZeroOk P) {ρ : Ren} {S : St} {t : TypeId} {ok : Bool} {x x' k k' v : Value} (h : (elookup P t ok).run x k S = some v) (hg : Gam P ρ S w) (hx : VRel ρ x x') (hk : VRel ρ k k') :
    ∃ v', (Instr.lookup t x' k' ok).run P w = .ok v' w ∧ VRel ρ v v' := by
  unfold elookup at h
  split at h
  · rename_i kt et hu
    split at h
    · rename_i z hzt
      simp only [lkp] at h
      have hc := (cond_inv h (by simp)).1
      replace h := (cond_inv h (by simp)).2
      split at h
      · rename_i es hes
        have hzr := hz.rel hzt ρ
        obtain ⟨es', he, hx'⟩ := ents_ok hes hg hx
        have hck : ∀ em, (Instr.checkKey em 10000 kt k').run P w = .ok () w := fun em => checkKey_ok hc hk
        have main : ∀ (r' : Option (Nat × Value)) (u : Value) (is : Bool), (Instr.findKey kt k' es').run P w = .ok r' w → (match r' with
            | some (_, v) => u = v ∧ is = true
            | none => u = z ∧ is = false) → (Instr.lookup t x' k' ok).run P w = .ok (if ok then .tuple #[u, .bool is] else u) w := by
          intro r' u is hf hr
          rcases hx' with ⟨rfl, rfl⟩ | ⟨q, clock, rfl, hq⟩
          · cases r' with
            | none => obtain ⟨rfl, rfl⟩ := hr; simp [Instr.lookup, run_underlying hu, hck, hf, run_zeroValue hzt]
            | some p => obtain ⟨rfl, rfl⟩ := hr; simp [Instr.lookup, run_underlying hu, hck, hf]
          · cases r' with
            | none => obtain ⟨rfl, rfl⟩ := hr; simp [Instr.lookup, run_underlying hu, run_getMap hq, hck, hf, run_zeroValue hzt]
            | some p => obtain ⟨rfl, rfl⟩ := hr; simp [Instr.lookup, run_underlying hu, run_getMap hq, hck, hf]
        split at h
        · rename_i i u hf
          cases h
          obtain ⟨r', h1, h2⟩ := findKey_ok (w := w) hc hk hf he
          cases r' with
          | none => exact h1.elim
          | some p => exact ⟨_, main _ p.2 true h2 ⟨rfl, rfl⟩, okV_rel h1.2⟩
        · rename_i hf
          cases h
          obtain ⟨r', h1, h2⟩ := findKey_ok (w := w) hc hk hf he
          cases r' with
          | some p => exact h1.elim
          | none => exact ⟨_, main _ z false h2 ⟨rfl, rfl⟩, okV_rel hzr⟩
        · cases h
      · cases h
    · cases h
  · cases h

end
end Go.Eng

/- The engine, part 16: maps written; what is made. -/
namespace Go.Eng

section
variable {P : Program} {w : World}

theorem ERels.get {ρ : Ren} : ∀ {l l' : List MapEntry}, ERels ρ l l' → ∀ {i : Nat} {e : MapEntry}, l[i]? = some e → ∃ e', l'[i]? = some e' ∧ VRel ρ e.key e'.key ∧ VRel ρ e.val e'.val ∧ e'.born = e.born
  | _, _, .nil, i, e, h => by simp at h
  | _, _, .cons hk hv hb t, 0, e, h => by simp at h; subst h; exact ⟨_, rfl, hk, hv, hb⟩
  | _, _, .cons hk hv hb t, i + 1, e, h => by simp at h ⊢; exact t.get h

theorem ERels.push {ρ : Ren} {a b : MapEntry} (hk : VRel ρ a.key b.key) (hv : VRel ρ a.val b.val) (hb : b.born = a.born) : ∀ {l l' : List MapEntry}, ERels ρ l l' → ERels ρ (l ++ [a]) (l' ++ [b])
  | _, _, .nil => .cons hk hv hb .nil
  | _, _, .cons hk' hv' hb' t => .cons hk' hv' hb' (t.push hk hv hb)

theorem ERels.setNth {ρ : Ren} {k v k' v' : Value} (hk : VRel ρ k k') (hv : VRel ρ v v') : ∀ {l l' : List MapEntry}, ERels ρ l l' → ∀ (i : Nat),
    ERels ρ (Eng.setNth l i k v) (l'.modify i fun e => { e with key := k', val := v' })
  | _, _, .nil, i => by cases i <;> exact .nil
  | _, _, .cons hk' hv' hb t, 0 => by
    rw [List.modify_zero_cons]
    exact .cons hk hv hb t
  | _, _, .cons hk' hv' hb t, i + 1 => by
    rw [List.modify_succ_cons]
    exact .cons hk' hv' hb (t.setNth hk hv i)

theorem ERels.eraseNth {ρ : Ren} : ∀ {l l' : List MapEntry}, ERels ρ l l' → ∀ (i : Nat), ERels ρ (Eng.eraseNth l i) (l'.eraseIdx i)
  | _, _, .nil, i => by cases i <;> exact .nil
  | _, _, .cons hk' hv' hb t, 0 => t
  | _, _, .cons hk' hv' hb t, i + 1 => .cons hk' hv' hb (t.eraseNth i)

theorem mapUpdate_ok {ρ : Ren} {S S' : St} {t : TypeId} {m m' k k' v v' : Value} (h : (emapUpdate P t).run m k v S = some S') :
    S'.next = S.next ∧ (Gam P ρ S w → VRel ρ m m' → VRel ρ k k' → VRel ρ v v' → SU P (Instr.mapUpdate t m' k' v') ρ S w S') := by
  unfold emapUpdate at h
  split at h
  · rename_i kt et hu
    simp only [mpu] at h
    split at h
    · rename_i b
      have hc := (cond_inv h (by simp)).1
      replace h := (cond_inv h (by simp)).2
      split at h
      · rename_i es clock hb
        split at h
        · rename_i i u hf
          have hs := (cond_inv h (by simp)).1
          replace h := (cond_inv h (by simp)).2
          cases h
          refine ⟨rfl, fun hg hm hk hv => ?_⟩
          cases hm with
          | map _ L hL =>
            obtain ⟨L', hL', es', h1, h2⟩ := hg.obj b _ hb
            rw [hL] at hL'; cases hL'
            have hblk : L.blk < w.heap.size := by
              rcases Nat.lt_or_ge L.blk w.heap.size with h | h
              · exact h
              · simp [Array.getElem?_eq_none h] at h1
            obtain ⟨r', h3, h4⟩ := findKey_ok (w := w) hc hk hf h2
            cases r' with
            | none => exact h3.elim
            | some p =>
              obtain ⟨i', u'⟩ := p
              obtain ⟨rfl, h5⟩ := h3
              unfold keyOf at hs
              rw [nth_eq] at hs
              split at hs
              · rename_i e he
                obtain ⟨e', g1, g2, g3, g4⟩ := h2.get he
                have hsb := sameKey_ok hs g2 hk
                refine ⟨ρ, { w with heap := w.heap.setIfInBounds L.blk (.map ((⟨es'⟩ : Array MapEntry).modify i' fun e => { e with key := k', val := v' }) clock) }, ?_, evo_set hg hb hL _ _ w.drawn ⟨es'.modify i' fun e => { e with key := k', val := v' }, ?_, h2.setNth hk hv i'⟩⟩
                · have hck : (Instr.checkKey false 10000 kt k').run P w = .ok () w := checkKey_ok hc hk
                  simp [Instr.mapUpdate, run_underlying hu, run_getMap h1, hck, h4, Instr.keyThatStays, g1, hsb, run_setMap _ h1]
                · simp [hblk]
              · cases hs
        · rename_i hf
          cases h
          refine ⟨rfl, fun hg hm hk hv => ?_⟩
          cases hm with
          | map _ L hL =>
            obtain ⟨L', hL', es', h1, h2⟩ := hg.obj b _ hb
            rw [hL] at hL'; cases hL'
            have hblk : L.blk < w.heap.size := by
              rcases Nat.lt_or_ge L.blk w.heap.size with h | h
              · exact h
              · simp [Array.getElem?_eq_none h] at h1
            obtain ⟨r', h3, h4⟩ := findKey_ok (w := w) hc hk hf h2
            cases r' with
            | some p => exact h3.elim
            | none =>
              refine ⟨ρ, { w with heap := w.heap.setIfInBounds L.blk (.map ⟨es' ++ [⟨k', v', clock⟩]⟩ (clock + 1)) }, ?_, evo_set hg hb hL _ _ w.drawn ⟨es' ++ [⟨k', v', clock⟩], by simp [hblk], ERels.push (a := ⟨k, v, clock⟩) (b := ⟨k', v', clock⟩) hk hv rfl h2⟩⟩
              have hck : (Instr.checkKey false 10000 kt k').run P w = .ok () w := checkKey_ok hc hk
              simp [Instr.mapUpdate, run_underlying hu, run_getMap h1, hck, h4, run_setMap _ h1]
        · cases h
      · cases h
    · cases h
  · cases h

theorem set_same {r : Nat} {o : Obj} (h : w.heap[r]? = some o) : w.heap.setIfInBounds r o = w.heap := by
  apply Array.ext_getElem?
  intro j
  rw [Array.getElem?_setIfInBounds]
  by_cases hj : r = j
  · subst hj
    have hlt : r < w.heap.size := by
      rcases Nat.lt_or_ge r w.heap.size with h' | h'
      · exact h'
      · simp [Array.getElem?_eq_none h'] at h
    rw [if_pos rfl, if_pos hlt, h]
  · rw [if_neg hj]

theorem delete_ok {ρ : Ren} {S S' : St} {t t2 ty : TypeId} {m m' k k' v : Value} (h : edelete P t m k S = .val v S') :
    S.next ≤ S'.next ∧ (Gam P ρ S w → VRel ρ m m' → VRel ρ k k' → SV P (Builtin.delete_ #[t, t2] ty #[m', k']) ρ S w v S') := by
  unfold edelete at h
  split at h
  · rename_i kt et b hu
    have hc := (cond_inv h (by simp)).1
    replace h := (cond_inv h (by simp)).2
    split at h
    · rename_i es clock hb
      split at h
      · rename_i i u hf
        cases h
        refine ⟨Nat.le_refl _, fun hg hm hk => ?_⟩
        cases hm with
        | map _ L hL =>
          obtain ⟨L', hL', es', h1, h2⟩ := hg.obj b _ hb
          rw [hL] at hL'; cases hL'
          have hblk : L.blk < w.heap.size := by
            rcases Nat.lt_or_ge L.blk w.heap.size with h | h
            · exact h
            · simp [Array.getElem?_eq_none h] at h1
          obtain ⟨r', h3, h4⟩ := findKey_ok (w := w) hc hk hf h2
          cases r' with
          | none => exact h3.elim
          | some p =>
            obtain ⟨i', u'⟩ := p
            obtain ⟨rfl, h5⟩ := h3
            refine ⟨ρ, .tuple ⟨[]⟩, { w with heap := w.heap.setIfInBounds L.blk (.map ((⟨es'⟩ : Array MapEntry).eraseIdxIfInBounds i') clock) }, ?_, evo_set hg hb hL _ _ w.drawn ⟨es'.eraseIdx i', ?_, h2.eraseNth i'⟩, undef_rel ρ⟩
            · have hck : ∀ em, (Instr.checkKey em 10000 kt k').run P w = .ok () w := fun em => checkKey_ok hc hk
              simp [Builtin.delete_, run_underlying hu, run_getMap h1, hck, h4, run_setMap _ h1]
            · simp [hblk]
      · rename_i hf
        cases h
        refine ⟨Nat.le_refl _, fun hg hm hk => ?_⟩
        cases hm with
        | map _ L hL =>
          obtain ⟨L', hL', es', h1, h2⟩ := hg.obj b _ hb
          rw [hL] at hL'; cases hL'
          obtain ⟨r', h3, h4⟩ := findKey_ok (w := w) hc hk hf h2
          cases r' with
          | some p => exact h3.elim
          | none =>
            refine SV.same hg (v' := .tuple ⟨[]⟩) ?_ (undef_rel ρ)
            have hck : ∀ em, (Instr.checkKey em 10000 kt k').run P w = .ok () w := fun em => checkKey_ok hc hk
            simp [Builtin.delete_, run_underlying hu, run_getMap h1, hck, h4, run_setMap _ h1, set_same h1]
      · cases h
    · cases h
  · cases h

theorem mkMap_ok {ρ : Ren} {S S' : St} {v : Value} (h : mkMap S = .val v S') :
    S.next ≤ S'.next ∧ (Gam P ρ S w → Free ρ S.next S'.next → SV P (do pure (.map (some (← Go.newObj (.map #[] 0))))) ρ S w v S') := by
  unfold mkMap at h
  rw [natK_eq] at h
  cases h
  refine ⟨Nat.le_succ _, fun hg hf => ?_⟩
  have hfn : ρ S.next = none := hf _ (Nat.le_refl _) (Nat.lt_succ_self _)
  refine ⟨upd ρ S.next ⟨w.heap.size, 0, 0, 0⟩, .map (some w.heap.size), _, by simp, evo_new hg hfn (.map [] 0) ⟨w.heap.size, 0, 0, 0⟩ (.map #[] 0) w.drawn rfl ⟨[], by simp, .nil⟩, ?_⟩
  exact .map _ ⟨w.heap.size, 0, 0, 0⟩ (upd_same _ _ _)

end
end Go.Eng

/- The engine, part 17: operands; methods by name. -/
namespace Go.Eng

section
variable {P : Program} {w : World}

/-- What operands evaluate to. -/
def XRel (ρ : Ren) (E : Tr Value) (ev : Operand → Value) : Prop := ∀ x v, (evC x).run E = some v → VRel ρ v (ev x)

theorem XRel.list {ρ : Ren} {E : Tr Value} {ev : Operand → Value} (hx : XRel ρ E ev) : ∀ {l : List Operand} {vs : List Value}, (evsC l).run E = some vs → VRels ρ vs (l.map ev)
  | [], vs, h => by cases h; exact .nil
  | x :: l, vs, h => by
    simp only [evsC] at h
    cases hv : (evC x).run E with
    | none => rw [hv] at h; cases h
    | some v =>
      cases hvs : (evsC l).run E with
      | none => rw [hv, hvs] at h; cases h
      | some us =>
        rw [hv, hvs] at h
        cases h
        exact .cons (hx x v hv) (hx.list hvs)

theorem XRel.parts {ρ : Ren} {E : Tr Value} {ev : Operand → Value} (hx : XRel ρ E ev) : ∀ {l : List (Nat × Operand)} {vs : List (Nat × Value)}, (evpC l).run E = some vs → PRels ρ vs (l.map fun (i, x) => (i, ev x))
  | [], vs, h => by cases h; exact .nil
  | (i, x) :: l, vs, h => by
    simp only [evpC] at h
    cases hv : (evC x).run E with
    | none => rw [hv] at h; cases h
    | some v =>
      cases hvs : (evpC l).run E with
      | none => rw [hv, hvs] at h; cases h
      | some us =>
        rw [hv, hvs] at h
        cases h
        exact .cons i (hx x v hv) (hx.parts hvs)

theorem XRel.opt {ρ : Ren} {E : Tr Value} {ev : Operand → Value} (hx : XRel ρ E ev) {o : Option Operand} {r : Option Value} (h : (evO o).run E = some r) : OV ρ r (o.map ev) := by
  cases o with
  | none => cases h; exact .none
  | some x =>
    simp only [evO] at h
    split at h
    · rename_i v hv
      cases h
      exact .some (hx x v hv)
    · cases h

/-- A frame's operands. -/
theorem xrel_of_env {ρ : Ren} {nt : Nat} {E : Tr Value} {tmps : Array Value} (h : EnvRel ρ nt E tmps) (ev : Operand → Value) (ht : ∀ t, ev (.tmp t) = tmps.getD t undef) (hc : ∀ v, ev (.const v) = v)
    (hf : ∀ f, ev (.func f) = .func (.func f) #[] #[]) : XRel ρ E ev := by
  intro x v hv
  cases x with
  | tmp t =>
    rw [ht]
    have h2 := h.2 t
    simp only [evC] at hv
    have e : E.get t = (getP (pathOf t)).run E := rfl
    rw [e] at h2
    cases hg : (getP (pathOf t)).run E with
    | none => rw [hg] at hv h2; cases hv; exact h2
    | some u => rw [hg] at hv h2; cases hv; exact h2
  | const c =>
    rw [hc]
    simp only [evC] at hv
    cases hcl : closedV c with
    | true => rw [hcl] at hv; cases hv; exact closedV_rel hcl
    | false => rw [hcl] at hv; cases hv
  | global g => cases hv
  | func f => rw [hf]; cases hv; exact .func f .nil .nil

/-! Methods. -/

/-- Where a way stands. -/
def PlRel (ρ : Ren) (isVar : Bool) (v : Value) : Place → Prop
  | .val u => isVar = false ∧ VRel ρ v u
  | .var a => isVar = true ∧ VRel ρ v (.pointer (some a))

theorem loadVar_ok {t : TypeId} {ρ : Ren} {S : St} {a : Addr} {p v : Value} (h : (eload P t).run p S = some v) (hg : Gam P ρ S w) (hp : VRel ρ p (.pointer (some a))) :
    ∃ v', (loadVar t a).run P w = .ok v' w ∧ VRel ρ v v' := by
  obtain ⟨v', h1, h2⟩ := load_ok (w := w) h hg hp
  exact ⟨v', by simpa [Instr.loadAt, Instr.sureAddr] using h1, h2⟩

theorem placeGet_ok {ρ : Ren} {S : St} {t : TypeId} {isVar : Bool} {v u : Value} {x : Place} (h : placeGet P t isVar v S = some u) (hg : Gam P ρ S w) (hx : PlRel ρ isVar v x) :
    ∃ u', (x.get t).run P w = .ok u' w ∧ VRel ρ u u' := by
  unfold placeGet at h
  cases x with
  | val y =>
    obtain ⟨rfl, hv⟩ := hx
    cases h
    exact ⟨y, rfl, hv⟩
  | var a =>
    obtain ⟨rfl, hv⟩ := hx
    exact loadVar_ok h hg hv

theorem fieldOf_run {s i : Nat} {f : Field} (h : fieldOf P s i = some f) : ∃ fs, P.underlying s = some (.struct fs) ∧ fs[i]? = some f := by
  unfold fieldOf at h
  split at h
  · rename_i fs hu
    rw [nth_eq] at h
    exact ⟨fs, hu, by simpa using h⟩
  · cases h

theorem offPtr_ok {ρ : Ren} {off : Nat} {p q : Value} {a : Addr} (h : offPtr off p = some q) (hp : VRel ρ p (.pointer (some a))) : VRel ρ q (.pointer (some (a.add off))) := by
  unfold offPtr at h
  cases hp with
  | ptr b o L hL =>
    simp only at h
    try rw [natK_eq] at h
    cases h
    rw [addr_add, Nat.add_assoc]
    exact .ptr b _ L hL
  | top r _ hu => cases h

theorem follow_ok {ρ : Ren} {S : St} (hg : Gam P ρ S w) : ∀ (path : List FieldStep) {t t' : TypeId} {isVar isVar' : Bool} {v v' : Value} {x : Place},
    (efollow P path t).run isVar v S = some (t', isVar', v') → PlRel ρ isVar v x → ∃ x', (follow path t x).run P w = .ok (t', x') w ∧ PlRel ρ isVar' v' x' := by
  intro path
  induction path with
  | nil =>
    intro t t' isVar isVar' v v' x h hx
    cases h
    exact ⟨x, rfl, hx⟩
  | cons s rest ih =>
    intro t t' isVar isVar' v v' x h hx
    simp only [efollow] at h
    cases hf : fieldOf P s.struct s.index with
    | none => rw [hf] at h; cases h
    | some f =>
      rw [hf] at h
      simp only at h
      obtain ⟨fs, hu, hi⟩ := fieldOf_run hf
      cases hs : szT P f.type with
      | none => rw [hs] at h; cases h
      | some n =>
        rw [hs] at h
        simp only at h
        cases hn : Nat.beq n 0 with
        | true => rw [hn] at h; cases h
        | false =>
          rw [hn] at h
          have hn0 := not_beq hn
          have hplace : ∀ a : Addr, (fieldPlace a f).run P w = .ok (a.add f.offset) w := fun a => by
            simp [fieldPlace, run_sizeOf hs, hn0]
          cases hd : s.deref with
          | true =>
            rw [hd] at h
            simp only at h
            split at h
            · rename_i p hp
              split at h
              · rename_i q hq
                have hget : ∃ p', (x.get t).run P w = .ok p' w ∧ VRel ρ p p' := placeGet_ok (P := P) (w := w) (t := t) (isVar := isVar) (v := v) (by unfold placeGet; cases isVar <;> exact hp) hg hx
                obtain ⟨p', h1, h2⟩ := hget
                have hpp : ∃ a, p' = .pointer (some a) := by
                  unfold offPtr at hq
                  cases h2 <;> first | (cases hq; done) | skip
                  exact ⟨_, rfl⟩
                obtain ⟨a, rfl⟩ := hpp
                have h3 := offPtr_ok hq h2
                obtain ⟨x', h4, h5⟩ := ih (x := .var (a.add f.offset)) h ⟨rfl, h3⟩
                refine ⟨x', ?_, h5⟩
                simp [follow, run_underlying hu, hi, hd, h1, asAddr, hplace, h4]
              · cases h
            · cases h
          | false =>
            rw [hd] at h
            simp only at h
            cases isVar with
            | true =>
              simp only at h
              cases x with
              | val y => exact absurd hx.1 (by simp)
              | var a =>
                split at h
                · rename_i q hq
                  have h3 := offPtr_ok hq hx.2
                  obtain ⟨x', h4, h5⟩ := ih (x := .var (a.add f.offset)) h ⟨rfl, h3⟩
                  refine ⟨x', ?_, h5⟩
                  simp [follow, run_underlying hu, hi, hd, hplace, h4]
                · cases h
            | false =>
              simp only at h
              cases x with
              | var a => exact absurd hx.1 (by simp)
              | val y =>
                split at h
                · rename_i cs
                  split at h
                  · rename_i p hp
                    obtain ⟨_, hy⟩ := hx
                    cases hy with
                    | @agg l l' hl =>
                      obtain ⟨u', h1, h2⟩ := part_ok (w := w) hp hl
                      obtain ⟨x', h4, h5⟩ := ih (x := .val u') h ⟨rfl, h2⟩
                      refine ⟨x', ?_, h5⟩
                      simp [follow, run_underlying hu, hi, hd, h1, h4]
                  · cases h
                · cases h

theorem wrapNil_ok (t : TypeId) (a : Addr) (x y : String) : (Builtin.ssaWrapNilChk_ #[t] t #[.pointer (some a), strVal x, strVal y]).run P w = .ok (.pointer (some a)) w := by
  rfl

theorem recv_ok {ρ : Ren} {S : St} (hg : Gam P ρ S w) {xt : TypeId} {ptr isVar : Bool} {v r : Value} {x : Place} (wr : Option String) (h : recvOf P xt ptr isVar v S = some r) (hx : PlRel ρ isVar v x) :
    ∃ r', (receiverAt xt x ptr wr).run P w = .ok r' w ∧ VRel ρ r r' := by
  unfold recvOf at h
  cases hu : P.underlying xt with
  | none => rw [hu] at h; cases h
  | some d =>
    rw [hu] at h
    have hval : (∀ e, d ≠ .pointer e) → ptr = false → placeGet P xt isVar v S = some r → ∃ r', (receiverAt xt x ptr wr).run P w = .ok r' w ∧ VRel ρ r r' := by
      intro hd hp hh
      subst hp
      obtain ⟨r', h1, h2⟩ := placeGet_ok (w := w) hh hg hx
      refine ⟨r', ?_, h2⟩
      cases d <;> first | exact absurd rfl (hd _) | simp [receiverAt, run_underlying hu, h1]
    have hvar : (∀ e, d ≠ .pointer e) → ptr = true → isVar = true → v = r → ∃ r', (receiverAt xt x ptr wr).run P w = .ok r' w ∧ VRel ρ r r' := by
      intro hd hp hi hv
      subst hp hi hv
      cases x with
      | val y => exact absurd hx.1 (by simp)
      | var a =>
        refine ⟨.pointer (some a), ?_, hx.2⟩
        cases d <;> first | exact absurd rfl (hd _) | simp [receiverAt, run_underlying hu]
    cases d with
    | pointer e =>
      cases ptr with
      | true =>
        obtain ⟨r', h1, h2⟩ := placeGet_ok (w := w) h hg hx
        exact ⟨r', by simp [receiverAt, run_underlying hu, h1], h2⟩
      | false =>
        simp only at h
        split at h
        · rename_i p hp
          obtain ⟨p', h1, h2⟩ := placeGet_ok (w := w) hp hg hx
          have hpp : ∃ a, p' = .pointer (some a) := by
            unfold eload at h
            cases ha : aggT P e with
            | none => rw [ha] at h; cases h
            | some b =>
              rw [ha] at h
              cases b with
              | true =>
                cases hs : szT P e with
                | none => rw [hs] at h; cases h
                | some n =>
                  rw [hs] at h
                  simp only [ldAgg] at h
                  cases h2 <;> first | (cases h; done) | skip
                  exact ⟨_, rfl⟩
              | false =>
                simp only [ld1] at h
                cases h2 <;> first | (cases h; done) | skip
                exact ⟨_, rfl⟩
          obtain ⟨a, rfl⟩ := hpp
          obtain ⟨r', h3, h4⟩ := loadVar_ok (w := w) h hg h2
          refine ⟨r', ?_, h4⟩
          cases wr with
          | none => simp [receiverAt, run_underlying hu, h1, asAddr, h3]
          | some name => simp [receiverAt, run_underlying hu, h1, wrapNil_ok, asAddr, h3]
        · cases h
    | _ =>
      cases ptr with
      | true =>
        cases isVar with
        | true => cases h; exact hvar (by simp) rfl rfl rfl
        | false => cases h
      | false => exact hval (by simp) rfl h

theorem methodOf_find {name : String} : ∀ {l : List Method} {m : Method}, methodOf name l = some m → l.find? (·.name == name) = some m
  | [], m, h => by cases h
  | x :: l, m, h => by
    simp only [methodOf] at h
    rw [List.find?_cons]
    by_cases hn : x.name = name
    · have hd : decide (x.name = name) = true := decide_eq_true hn
      rw [hd] at h
      cases h
      have : (x.name == name) = true := by simp [hn]
      rw [this]
    · have hd : decide (x.name = name) = false := decide_eq_false hn
      rw [hd] at h
      have : (x.name == name) = false := by simp [hn]
      rw [this]
      exact methodOf_find h

theorem method_ok {ρ : Ren} {S : St} (hg : Gam P ρ S w) {t : TypeId} {v v' y : Value} {name : String} {f : FuncId} (fuel : Nat) (h : (emethod P t name).run v S = some (f, y)) (hv : VRel ρ v v') :
    ∃ y', (method (fuel + 1) t v' name).run P w = .ok (f, y') w ∧ VRel ρ y y' := by
  unfold emethod at h
  cases hi : P.info? t with
  | none => rw [hi] at h; cases h
  | some i =>
    rw [hi] at h
    simp only at h
    cases hm : methodOf name i.methods.toList with
    | none => rw [hm] at h; cases h
    | some m =>
      rw [hm] at h
      have hfind : i.methods.find? (·.name == name) = some m := by
        rw [← methodOf_find hm]; simp
      simp only [methIn] at h
      cases hmf : m.func with
      | none => rw [hmf] at h; cases h
      | some fp =>
        obtain ⟨f', ptr⟩ := fp
        rw [hmf] at h
        simp only at h
        split at h
        · cases h
        · rename_i xt isVar x hfo
          split at h
          · rename_i r hr
            cases h
            obtain ⟨x', h1, h2⟩ := follow_ok hg m.path.toList hfo (x := .val v') ⟨rfl, hv⟩
            obtain ⟨r', h3, h4⟩ := recv_ok (w := w) hg (if m.path.isEmpty then some ((name.splitOn ".").getLastD name) else none) hr h2
            refine ⟨r', ?_, h4⟩
            simp only [method, Sem.run_bind, run_typeInfo hi, Result.andThen_ok, hfind, h1, hmf, h3]
            rfl
          · cases h

end
end Go.Eng

/- The engine, part 18: an operation. -/
namespace Go.Eng

section
variable {P : Program} {w : World}

/-- How an operation goes on. -/
inductive Goes (P : Program) (call : CallF) (ρ : Ren) (S : St) (w : World) (v : Value) (S' : St) (rc : Prop) (s : Sem Next) : Prop
  | value {ρ' : Ren} {v' : Value} {w' : World} (h : s.run P w = .ok (.value v') w') (he : Evo P ρ S w ρ' S' w') (hv : VRel ρ' v v')
  | skip {ρ' : Ren} {w' : World} (h : s.run P w = .ok .skip w') (he : Evo P ρ S w ρ' S' w') (hv : v = undef)
  | recover (hrc : rc) (h : s.run P w = .ok .recover w) (hS : S' = S) (hv : v = .nilIface)
  | fn {f : FuncId} {args args' : List Value} (h : s.run P w = (callFunc f ⟨args'⟩).run P w) (ha : VRels ρ args args') (hc : call (.fn f) args S = .val v S')
  | round {l : Nat} {L : Loc} {args args' : List Value} (h : s.run P w = (Instr.yield L.blk ⟨args'⟩).run P w) (hL : ρ l = some L) (ha : VRels ρ args args') (hc : call (.round l) args S = .val v S')

def MonoC (call : CallF) : Prop := ∀ g args S v S', call g args S = .val v S' → S.next ≤ S'.next

theorem Goes.mono {call : CallF} {ρ : Ren} {S S' : St} {v : Value} {rc rc' : Prop} {s : Sem Next} (hr : rc → rc') (h : Goes P call ρ S w v S' rc s) : Goes P call ρ S w v S' rc' s := by
  cases h with
  | value h he hv => exact .value h he hv
  | skip h he hv => exact .skip h he hv
  | recover hrc h hS hv => exact .recover (hr hrc) h hS hv
  | fn h ha hc => exact .fn h ha hc
  | round h hL ha hc => exact .round h hL ha hc

theorem goes_v {call : CallF} {ρ : Ren} {S S' : St} {v : Value} {rc : Prop} {s : Sem Value} (h : SV P s ρ S w v S') : Goes P call ρ S w v S' rc (do pure (.value (← s))) := by
  obtain ⟨ρ', v', w', h1, h2, h3⟩ := h
  exact .value (by simp [h1]) h2 h3

theorem goes_u {call : CallF} {ρ : Ren} {S S' : St} {v : Value} {rc : Prop} {s : Sem Unit} (h : SU P s ρ S w S') (hv : v = undef) : Goes P call ρ S w v S' rc (do s; pure .skip) := by
  obtain ⟨ρ', w', h1, h2⟩ := h
  exact .skip (by simp [h1]) h2 hv

theorem goes_same {call : CallF} {ρ : Ren} {S : St} {v : Value} {rc : Prop} {s : Sem Value} (hg : Gam P ρ S w) (h : ∃ v', s.run P w = .ok v' w ∧ VRel ρ v v') : Goes P call ρ S w v S rc (do pure (.value (← s))) := by
  obtain ⟨v', h1, h2⟩ := h
  exact goes_v (SV.same hg h1 h2)

theorem optV_inv {r : Option Value} {S S' : St} {v : Value} (h : optV r S = .val v S') : r = some v ∧ S' = S := by
  cases r with
  | none => cases h
  | some u => cases h; exact ⟨rfl, rfl⟩

theorem optS_inv {r : Option St} {S' : St} {v : Value} (h : optS r = .val v S') : r = some S' ∧ v = undef := by
  cases r with
  | none => cases h
  | some u => cases h; exact ⟨rfl, rfl⟩

theorem f1_inv {x : Operand} {k : Value → St → OR} {call : CallF} {E : Tr Value} {S S' : St} {v : Value} (h : (f1 x k).run call E S = .val v S') : ∃ u, (evC x).run E = some u ∧ k u S = .val v S' := by
  simp only [f1] at h
  cases hu : (evC x).run E with
  | none => rw [hu] at h; cases h
  | some u => rw [hu] at h; exact ⟨u, rfl, h⟩

theorem f2_inv {x y : Operand} {k : Value → Value → St → OR} {call : CallF} {E : Tr Value} {S S' : St} {v : Value} (h : (f2 x y k).run call E S = .val v S') :
    ∃ u t, (evC x).run E = some u ∧ (evC y).run E = some t ∧ k u t S = .val v S' := by
  simp only [f2] at h
  cases hu : (evC x).run E with
  | none => rw [hu] at h; cases h
  | some u =>
    cases ht : (evC y).run E with
    | none => rw [hu, ht] at h; cases h
    | some t => rw [hu, ht] at h; exact ⟨u, t, rfl, rfl, h⟩

theorem f3_inv {x y z : Operand} {k : Value → Value → Value → St → OR} {call : CallF} {E : Tr Value} {S S' : St} {v : Value} (h : (f3 x y z k).run call E S = .val v S') :
    ∃ u t s, (evC x).run E = some u ∧ (evC y).run E = some t ∧ (evC z).run E = some s ∧ k u t s S = .val v S' := by
  simp only [f3] at h
  cases hu : (evC x).run E with
  | none => rw [hu] at h; cases h
  | some u =>
    cases ht : (evC y).run E with
    | none => rw [hu, ht] at h; cases h
    | some t =>
      cases hs : (evC z).run E with
      | none => rw [hu, ht, hs] at h; cases h
      | some s => rw [hu, ht, hs] at h; exact ⟨u, t, s, rfl, rfl, rfl, h⟩

theorem estore_next {t : TypeId} {p v : Value} {S S' : St} (h : (estore P t).run p v S = some S') : S'.next = S.next := by
  unfold estore at h
  split at h
  · simp only [st1] at h
    split at h
    · replace h := (cond_inv h (by simp)).2
      unfold estoreCells at h
      split at h
      · replace h := (cond_inv h (by simp)).2
        split at h
        · cases h; rfl
        · cases h
      · cases h
    · cases h
  · cases h

theorem append_op {call : CallF} {ρ : Ren} {S S' : St} {t0 t1 ty : TypeId} {cs : Array Bool} {rc : Prop} {s x v : Value} (h : (eappend P t0 t1).run s x S = .val v S') :
    S.next ≤ S'.next ∧ (Gam P ρ S w → Free ρ S.next S'.next → ∀ s' x', VRel ρ s s' → VRel ρ x x' → Goes P call ρ S w v S' rc (builtin .append #[t0, t1] ty cs #[s', x'])) := by
  refine ⟨(append_ok (P := P) (w := w) (ρ := ρ) (ty := ty) (s' := s) (x' := x) h).1, fun hg hf s' x' hs hx => goes_v ((append_ok (w := w) (ty := ty) h).2 hg hf hs hx)⟩

theorem bi1_inv {f : Value → St → OR} {args : List Value} {S S' : St} {v : Value} (h : bi1 f args S = .val v S') : ∃ x, args = [x] ∧ f x S = .val v S' := by
  unfold bi1 at h
  split at h
  · split at h
    · exact ⟨_, rfl, h⟩
    · cases h
  · cases h

theorem bi2_inv {f : Value → Value → St → OR} {args : List Value} {S S' : St} {v : Value} (h : bi2 f args S = .val v S') : ∃ x y, args = [x, y] ∧ f x y S = .val v S' := by
  unfold bi2 at h
  split at h
  · split at h
    · split at h
      · exact ⟨_, _, rfl, h⟩
      · cases h
    · cases h
  · cases h

theorem builtin_ok (hz : ZeroOk P) {call : CallF} {ρ : Ren} {S S' : St} {b : Builtin} {ts : Array TypeId} {ty : TypeId} {cs : Array Bool} {args : List Value} {v : Value} (h : (ebuiltin P b ts.toList).run args S = .val v S') :
    S.next ≤ S'.next ∧ (Gam P ρ S w → Free ρ S.next S'.next → ∀ args', VRels ρ args args' → Goes P call ρ S w v S' (b = .recover) (builtin b ts ty cs ⟨args'⟩)) := by
  obtain ⟨ts⟩ := ts
  simp only at h
  unfold ebuiltin at h
  split at h
  · -- append
    rename_i t0 t1
    obtain ⟨x, y, rfl, h⟩ := bi2_inv h
    refine ⟨(append_op (P := P) (w := w) (call := call) (ρ := ρ) (ty := ty) (cs := cs) (rc := True) h).1, fun hg hf args' ha => ?_⟩
    cases ha with
    | cons h1 t => cases t with
      | cons h2 t => cases t; exact (append_op (w := w) (ty := ty) (cs := cs) h).2 hg hf _ _ h1 h2
  · -- len
    rename_i t
    obtain ⟨x, rfl, h⟩ := bi1_inv h
    obtain ⟨h1, rfl⟩ := optV_inv h
    refine ⟨Nat.le_refl _, fun hg hf args' ha => ?_⟩
    cases ha with
    | cons hx t' => cases t'; exact goes_same hg (len_ok h1 hg hx)
  · -- max
    simp only at h
    split at h
    · obtain ⟨h1, rfl⟩ := optV_inv h
      refine ⟨Nat.le_refl _, fun hg hf args' ha => ?_⟩
      cases ha with
      | cons hx t' =>
        obtain ⟨v', h2, h3⟩ := emax_ok (P := P) (w := w) true h1 hx t'
        exact goes_same (s := Builtin.max_ _ _ _) hg ⟨v', h2, h3⟩
    · cases h
  · -- min
    simp only at h
    split at h
    · obtain ⟨h1, rfl⟩ := optV_inv h
      refine ⟨Nat.le_refl _, fun hg hf args' ha => ?_⟩
      cases ha with
      | cons hx t' =>
        obtain ⟨v', h2, h3⟩ := emax_ok (P := P) (w := w) false h1 hx t'
        exact goes_same (s := Builtin.min_ _ _ _) hg ⟨v', h2, h3⟩
    · cases h
  · -- copy
    rename_i t t2
    obtain ⟨x, y, rfl, h⟩ := bi2_inv h
    refine ⟨(copy_ok (P := P) (w := w) (ρ := ρ) (t2 := t2) (ty := ty) (d' := undef) (s' := undef) h).1, fun hg hf args' ha => ?_⟩
    cases ha with
    | cons h1 t => cases t with
      | cons h2 t => cases t; exact goes_v ((copy_ok (w := w) (t2 := t2) (ty := ty) h).2 hg h1 h2)
  · -- delete
    rename_i t t2
    obtain ⟨x, y, rfl, h⟩ := bi2_inv h
    refine ⟨(delete_ok (P := P) (w := w) (ρ := ρ) (t2 := t2) (ty := ty) (m' := undef) (k' := undef) h).1, fun hg hf args' ha => ?_⟩
    cases ha with
    | cons h1 t => cases t with
      | cons h2 t => cases t; exact goes_v ((delete_ok (w := w) (t2 := t2) (ty := ty) h).2 hg h1 h2)
  · -- clear
    rename_i t
    obtain ⟨x, rfl, h⟩ := bi1_inv h
    refine ⟨(clear_ok (P := P) (w := w) hz (ρ := ρ) (ty := ty) (x' := undef) h).1, fun hg hf args' ha => ?_⟩
    cases ha with
    | cons hx t' => cases t'; exact goes_v ((clear_ok (w := w) hz (ty := ty) h).2 hg hx)
  · -- recover
    simp only at h
    split at h
    · cases h
      refine ⟨Nat.le_refl _, fun hg hf args' ha => ?_⟩
      exact .recover rfl rfl rfl rfl
    · cases h
  · -- unsafe.SliceData
    obtain ⟨x, rfl, h⟩ := bi1_inv h
    obtain ⟨h1, rfl⟩ := optV_inv h
    refine ⟨Nat.le_refl _, fun hg hf args' ha => ?_⟩
    cases ha with
    | cons hx t' => cases t'; exact goes_same hg (sliceData_ok h1 hx)
  · -- unsafe.String
    rename_i t ts
    obtain ⟨x, y, rfl, h⟩ := bi2_inv h
    refine ⟨(unsafeString_ok (P := P) (w := w) (ρ := ρ) (ty := ty) (ts := ⟨t :: ts⟩) (p' := undef) (l' := undef) h (by simp)).1, fun hg hf args' ha => ?_⟩
    cases ha with
    | cons h1 t' => cases t' with
      | cons h2 t' => cases t'; exact goes_v ((unsafeString_ok (w := w) (ty := ty) (ts := ⟨t :: ts⟩) h (by simp)).2 hg h1 h2)
  · -- cap
    rename_i t
    split at h
    · rename_i e hu
      simp only at h
      obtain ⟨x, rfl, h2⟩ := bi1_inv h
      clear h
      have h := h2
      clear h2
      split at h
      · rename_i a n c
        cases hc : Nat.beq c capU with
        | true =>
          rw [hc] at h
          cases h
          refine ⟨Nat.le_refl _, fun hg hf args' ha => ?_⟩
          have main : ∀ a' m c', (Builtin.cap_ #[t] ty #[.slice a' m c']).run P w = .ok (.int .i64 (Int.ofNat c')) w := fun a' m c' => by
            simp [Builtin.cap_, run_underlying hu, goInt]
          cases ha with
          | cons hx t' =>
            cases t'
            cases hx with
            | nils => exact goes_same (s := Builtin.cap_ _ _ _) hg ⟨_, main _ _ _, .unkI _ _ _ _⟩
            | sliceK => exact goes_same (s := Builtin.cap_ _ _ _) hg ⟨_, main _ _ _, .unkI _ _ _ _⟩
            | sliceU => exact goes_same (s := Builtin.cap_ _ _ _) hg ⟨_, main _ _ _, .unkI _ _ _ _⟩
            | sliceE => exact goes_same (s := Builtin.cap_ _ _ _) hg ⟨_, main _ _ _, .unkI _ _ _ _⟩
        | false =>
          rw [hc] at h
          cases h
          refine ⟨Nat.le_refl _, fun hg hf args' ha => ?_⟩
          have hne := not_beq hc
          have main : ∀ a', (Builtin.cap_ #[t] ty #[.slice a' n c]).run P w = .ok (.int .i64 (Int.ofNat c)) w := fun a' => by
            simp [Builtin.cap_, run_underlying hu, goInt]
          cases ha with
          | cons hx t' =>
            cases t'
            refine goes_same (s := Builtin.cap_ _ _ _) hg ⟨.int .i64 (Int.ofNat c), ?_, .int _ _⟩
            cases hx with
            | nils => exact main _
            | sliceK => exact main _
            | sliceU => exact absurd rfl hne
            | sliceE => exact absurd rfl hne
      · cases h
    · cases h
  · cases h

end
end Go.Eng

/- The engine, part 19: an operation, whole. -/
namespace Go.Eng

section
variable {P : Program} {w : World}

/-- A deferred call. -/
inductive DRel (ρ : Ren) : Deferred → Deferred → Prop
  | fn (f : FuncId) {c c' a a' : List Value} (hc : VRels ρ c c') (ha : VRels ρ a a') : DRel ρ ⟨.fn (.func f) ⟨c⟩, ⟨a⟩⟩ ⟨.fn (.func f) ⟨c'⟩, ⟨a'⟩⟩
  | collected (b : Nat) (L : Loc) (h : ρ b = some L) : DRel ρ ⟨.collected b, ⟨[]⟩⟩ ⟨.collected L.blk, ⟨[]⟩⟩

theorem arr_eta {α : Type} (a : Array α) : (⟨a.toList⟩ : Array α) = a := rfl

theorem map_args (args : Array Operand) (ev : Operand → Value) : args.map ev = ⟨args.toList.map ev⟩ := by
  apply Array.toList_inj.1
  simp

theorem map_parts (ps : Array (Nat × Operand)) (ev : Operand → Value) (f : Nat × Operand → Nat × Value) (hf : ∀ p, f p = (p.1, ev p.2)) : ps.map f = ⟨ps.toList.map fun (i, x) => (i, ev x)⟩ := by
  apply Array.toList_inj.1
  rw [Array.toList_map]
  exact List.map_congr_left fun p _ => hf p

theorem callee_ok (hz : ZeroOk P) {call : CallF} (hm : MonoC call) {ρ : Ren} {S S' : St} {E : Tr Value} {c : Call} {ty : TypeId} {v : Value} {ev : Operand → Value}
    (h : (callee P c (evsC c.args.toList).run).run call E S = .val v S') :
    S.next ≤ S'.next ∧ (Gam P ρ S w → Free ρ S.next S'.next → XRel ρ E ev → Goes P call ρ S w v S' (c.callee = .builtin .recover) (do let d ← resolve ev c ty; invoke d.target d.args)) := by
  obtain ⟨cal, args, ats⟩ := c
  cases cal with
  | builtin b =>
    simp only [callee] at h
    split at h
    · rename_i l hl
      refine ⟨(builtin_ok (P := P) (w := w) hz (call := call) (ρ := ρ) (ty := ty) (cs := #[]) h).1, fun hg hf hx => ?_⟩
      have hr := hx.list hl
      have := (builtin_ok (w := w) hz (call := call) (ty := ty) (cs := args.map fun | .const _ => true | _ => false) h).2 hg hf _ hr
      rw [← map_args] at this
      exact this.mono fun e => by rw [e]
    · cases h
  | invoke r name =>
    simp only [callee] at h
    split at h
    · rename_i l hl
      split at h
      · rename_i x hxr
        split at h
        · rename_i t y
          split at h
          · rename_i f z hmm
            refine ⟨hm _ _ _ _ _ h, fun hg hf hx => ?_⟩
            have hr := hx.list hl
            have hrv := hx r _ hxr
            generalize hev : ev r = rv at hrv
            cases hrv with
            | @iface _ _ y' hy =>
              obtain ⟨z', h1, h2⟩ := method_ok (w := w) hg (P.types.size + Made.depth - 1) hmm hy
              have hd : P.types.size + Made.depth - 1 + 1 = P.types.size + Made.depth := by
                have : 1 ≤ Made.depth := by decide
                omega
              rw [hd] at h1
              refine .fn (args' := z' :: args.toList.map ev) ?_ (.cons h2 hr) h
              have e1 : ∀ a : Array Value, (#[Value.iface t y'] ++ a).extract 1 (#[Value.iface t y'] ++ a).size = a := by
                intro a
                apply Array.toList_inj.1
                simp
              have e2 : ∀ a : Array Value, (#[Value.iface t y'] ++ a)[0]? = some (Value.iface t y') := by
                intro a
                rw [Array.getElem?_append_left (by simp)]
                rfl
              simp only [resolve, invoke, hev, map_args, Sem.run_bind, Sem.run_pure, Result.andThen_ok]
              rw [e2, e1]
              have hp : (program : Sem Program).run P w = .ok P w := rfl
              simp only [callMethod, Sem.run_bind, hp, Result.andThen_ok, h1]
              congr 2
              apply Array.toList_inj.1
              simp
          · cases h
        · cases h
      · cases h
    · cases h
  | value g =>
    simp only [callee] at h
    split at h
    · rename_i l hl
      split at h
      · rename_i x hxr
        split at h
        · rename_i f first captured
          refine ⟨hm _ _ _ _ _ h, fun hg hf hx => ?_⟩
          have hr := hx.list hl
          have hrv := hx g _ hxr
          generalize hev : ev g = rv at hrv
          cases hrv with
          | @func _ a a' c c' h1 h2 =>
            refine .fn (args' := a' ++ (args.toList.map ev ++ c')) ?_ (h1.append (hr.append h2)) h
            simp only [resolve, Deferred.ofValue, invoke, hev, map_args, Sem.run_bind, Sem.run_pure, Result.andThen_ok]
            congr 2
            apply Array.toList_inj.1
            simp
        · rename_i k first cc
          refine ⟨hm _ _ _ _ _ h, fun hg hf hx => ?_⟩
          have hr := hx.list hl
          have hrv := hx g _ hxr
          generalize hev : ev g = rv at hrv
          cases hrv with
          | yield _ L hL =>
            refine .round (L := L) (args' := args.toList.map ev) ?_ hL hr h
            simp only [resolve, Deferred.ofValue, invoke, hev, map_args, Sem.run_bind, Sem.run_pure, Result.andThen_ok]
            congr 2
            apply Array.toList_inj.1
            simp
        · cases h
      · cases h
    · cases h

theorem eop_ok (hz : ZeroOk P) {call : CallF} (hm : MonoC call) {ρ : Ren} {S S' : St} {E : Tr Value} {o : Oper} {v : Value} {ev : Operand → Value} (h : (eop P o).run call E S = .val v S') :
    S.next ≤ S'.next ∧ (Gam P ρ S w → Free ρ S.next S'.next → XRel ρ E ev → Goes P call ρ S w v S' (∃ c, o.op = .call c ∧ c.callee = .builtin .recover) (execOp ev o)) := by
  obtain ⟨dst, op, ty, pos, after, guard⟩ := o
  let o' : Oper := ⟨dst, op, ty, pos, after, guard⟩
  have one : ∀ {x : Operand} {k : Value → Option Value} {s : Value → Sem Value}, (f1 x (k1 k)).run call E S = .val v S' → (∀ u u', k u = some v → VRel ρ u u' → ∃ v', (s u').run P w = .ok v' w ∧ VRel ρ v v') →
      S.next ≤ S'.next ∧ (Gam P ρ S w → Free ρ S.next S'.next → XRel ρ E ev → Goes P call ρ S w v S' (∃ c, o'.op = .call c ∧ c.callee = .builtin .recover) (do pure (.value (← s (ev x))))) := by
    intro x k s h hs
    obtain ⟨u, h1, h2⟩ := f1_inv h
    obtain ⟨h3, rfl⟩ := optV_inv h2
    exact ⟨Nat.le_refl _, fun hg _ hx => goes_same hg (hs u _ h3 (hx x u h1))⟩
  have oneS : ∀ {x : Operand} {k : Value → St → Option Value} {s : Value → Sem Value}, (f1 x (k1S k)).run call E S = .val v S' → (∀ u u', k u S = some v → Gam P ρ S w → VRel ρ u u' → ∃ v', (s u').run P w = .ok v' w ∧ VRel ρ v v') →
      S.next ≤ S'.next ∧ (Gam P ρ S w → Free ρ S.next S'.next → XRel ρ E ev → Goes P call ρ S w v S' (∃ c, o'.op = .call c ∧ c.callee = .builtin .recover) (do pure (.value (← s (ev x))))) := by
    intro x k s h hs
    obtain ⟨u, h1, h2⟩ := f1_inv h
    obtain ⟨h3, rfl⟩ := optV_inv h2
    exact ⟨Nat.le_refl _, fun hg _ hx => goes_same hg (hs u _ h3 hg (hx x u h1))⟩
  have two : ∀ {x y : Operand} {k : Value → Value → Option Value} {s : Value → Value → Sem Value}, (f2 x y (k2 k)).run call E S = .val v S' → (∀ u u' t t', k u t = some v → VRel ρ u u' → VRel ρ t t' → ∃ v', (s u' t').run P w = .ok v' w ∧ VRel ρ v v') →
      S.next ≤ S'.next ∧ (Gam P ρ S w → Free ρ S.next S'.next → XRel ρ E ev → Goes P call ρ S w v S' (∃ c, o'.op = .call c ∧ c.callee = .builtin .recover) (do pure (.value (← s (ev x) (ev y))))) := by
    intro x y k s h hs
    obtain ⟨u, t, h1, h2, h3⟩ := f2_inv h
    obtain ⟨h4, rfl⟩ := optV_inv h3
    exact ⟨Nat.le_refl _, fun hg _ hx => goes_same hg (hs u _ t _ h4 (hx x u h1) (hx y t h2))⟩
  cases op with
  | move x =>
    obtain ⟨u, h1, h2⟩ := f1_inv h
    cases h2
    exact ⟨Nat.le_refl _, fun hg _ hx => .value rfl (Evo.refl hg) (hx x _ h1)⟩
  | assign x =>
    obtain ⟨u, h1, h2⟩ := f1_inv h
    cases h2
    exact ⟨Nat.le_refl _, fun hg _ hx => .value rfl (Evo.refl hg) (hx x _ h1)⟩
  | pick c a b =>
    simp only [eop] at h
    split at h
    · rename_i x hc
      split at h
      · rename_i t
        split at h
        · obtain ⟨h1, rfl⟩ := optV_inv h
          refine ⟨Nat.le_refl _, fun hg _ hx => ?_⟩
          have := hx c _ hc
          generalize hev : ev c = cv at this
          cases this
          exact .value (by simp [execOp, hev, asBool]) (Evo.refl hg) (hx a _ h1)
        · obtain ⟨h1, rfl⟩ := optV_inv h
          refine ⟨Nat.le_refl _, fun hg _ hx => ?_⟩
          have := hx c _ hc
          generalize hev : ev c = cv at this
          cases this
          exact .value (by simp [execOp, hev, asBool]) (Evo.refl hg) (hx b _ h1)
      · cases h
    · cases h
  | alloc t =>
    simp only [eop] at h
    split at h
    · rename_i z hzt
      have hn : S'.next = Nat.succ S.next := by
        simp only [allocC, natK_eq] at h
        cases h; rfl
      refine ⟨by omega, fun hg hf _ => ?_⟩
      have hr := cellsL_rel (hz.rel hzt ρ)
      obtain ⟨_, ρ', v', w', h1, h2, h3⟩ := alloc_ok (w := w) h hg (hf _ (Nat.le_refl _) (by omega)) hr
      refine goes_v (s := Instr.alloc t true (.tuple #[])) ⟨ρ', v', w', ?_, h2, h3⟩
      simp only [Instr.alloc, Sem.run_bind, run_zeroValue hzt, Result.andThen_ok, newVar]
      exact h1
    · cases h
  | box t x =>
    obtain ⟨u, h1, h2⟩ := f1_inv h
    simp only [kBox] at h2
    have hn : S'.next = Nat.succ S.next := by
      simp only [allocC, natK_eq] at h2
      cases h2; rfl
    refine ⟨by omega, fun hg hf hx => ?_⟩
    have hr := cellsL_rel (hx x u h1)
    obtain ⟨_, hsv⟩ := alloc_ok (w := w) h2 hg (hf _ (Nat.le_refl _) (by omega)) hr
    exact goes_v (s := Instr.box t (ev x)) hsv
  | build t ps =>
    simp only [eop] at h
    split at h
    · rename_i l hl
      obtain ⟨h1, rfl⟩ := optV_inv h
      refine ⟨Nat.le_refl _, fun hg _ hx => ?_⟩
      have hp := hx.parts hl
      refine goes_same (s := Instr.build t (ps.map fun (i, x) => (i, ev x))) hg ?_
      have e : ps.map (fun (i, x) => (i, ev x)) = ⟨ps.toList.map fun (i, x) => (i, ev x)⟩ := by
        apply Array.toList_inj.1
        simp
      rw [e]
      exact build_ok h1 hp fun z hzt => hz.rel hzt ρ
    · cases h
  | buildSlice t n ps =>
    simp only [eop] at h
    split at h
    · rename_i l hl
      refine ⟨(buildSlice_ok (P := P) (w := w) hz (ρ := ρ) (parts' := []) h).1, fun hg hf hx => ?_⟩
      have hp := hx.parts hl
      have := (buildSlice_ok (w := w) hz h).2 hg hf hp
      simp only [execOp]
      rw [map_parts ps ev _ fun _ => rfl]
      exact goes_v this
    · cases h
  | load t a => exact oneS h fun u u' hk hg hu => load_ok hk hg hu
  | store t a x =>
    obtain ⟨u, y, h1, h2, h3⟩ := f2_inv h
    obtain ⟨h4, hv⟩ := optS_inv h3
    refine ⟨Nat.le_of_eq (estore_next h4).symm, fun hg _ hx => ?_⟩
    exact goes_u (store_ok (w := w) h4 hg (hx a u h1) (hx x y h2)).2 hv
  | nilCheck x =>
    obtain ⟨u, h1, h2⟩ := f1_inv h
    unfold kNil at h2
    split at h2
    · split at h2
      · cases h2
        refine ⟨Nat.le_refl _, fun hg _ hx => ?_⟩
        have := hx x _ h1
        generalize hev : ev x = xv at this
        cases this with
        | ptr b o L hL => exact .value (v' := .pointer (some ⟨L.blk, L.base + o, none⟩)) (w' := w) (by simp only [execOp, hev]; rfl) (Evo.refl hg) (.ptr b o L hL)
      · cases h2
    · cases h2
      refine ⟨Nat.le_refl _, fun hg _ hx => ?_⟩
      have := hx x _ h1
      generalize hev : ev x = xv at this
      cases this with
      | @iface _ _ y' hh => exact .value (v' := .iface _ y') (w' := w) (by simp only [execOp, hev]; rfl) (Evo.refl hg) (.iface _ hh)
    · cases h2
      refine ⟨Nat.le_refl _, fun hg _ hx => ?_⟩
      have := hx x _ h1
      generalize hev : ev x = xv at this
      cases this with
      | @func _ a a' c c' ha hc => exact .value (v' := .func (.func _) ⟨a'⟩ ⟨c'⟩) (w' := w) (by simp only [execOp, hev]; rfl) (Evo.refl hg) (.func _ ha hc)
    · cases h2
  | binOp op t x y t2 => exact two (s := fun u t' => do eqGuard op t x y u t'; binOp op t u t') h fun u u' y' y'' hk hu ht => bin_ok hk hu ht
  | unOp op t x => exact one h fun u u' hk hu => un_ok hk hu
  | convert s d x =>
    obtain ⟨u, h1, h2⟩ := f1_inv h
    refine ⟨(conv_ok (P := P) (w := w) (ρ := ρ) (x' := undef) h2).1, fun hg hf hx => ?_⟩
    exact goes_v (s := convert s d (ev x)) ((conv_ok (w := w) h2).2 hg hf (hx x u h1))
  | makeInterface t x => exact one h fun u u' hk hu => makeInterface_ok hk hu
  | makeFunc f a b =>
    cases f with
    | func g =>
      simp only [eop] at h
      split at h
      · rename_i la hla
        split at h
        · rename_i lb hlb
          cases h
          refine ⟨Nat.le_refl _, fun hg _ hx => ?_⟩
          simp only [execOp]
          rw [map_args, map_args]
          exact goes_same (s := Instr.makeFunc _ _ _) hg ⟨_, rfl, .func g (hx.list hla) (hx.list hlb)⟩
        · cases h
      · cases h
    | _ => cases h
  | makeMap t r =>
    cases r with
    | none =>
      refine ⟨(mkMap_ok (P := P) (w := w) (ρ := ρ) h).1, fun hg hf _ => ?_⟩
      exact goes_v (s := Instr.makeMap t none) ((mkMap_ok (w := w) h).2 hg hf)
    | some x =>
      simp only [eop] at h
      split at h
      · rename_i kt et hu
        obtain ⟨u, h1, h2⟩ := f1_inv h
        unfold kMap at h2
        split at h2
        · refine ⟨(mkMap_ok (P := P) (w := w) (ρ := ρ) h2).1, fun hg hf hx => ?_⟩
          have := hx x _ h1
          generalize hev : ev x = xv at this
          cases this
          obtain ⟨ρ', v', w', h3, h4, h5⟩ := (mkMap_ok (w := w) h2).2 hg hf
          refine goes_v (s := Instr.makeMap t (some (ev x))) ⟨ρ', v', w', ?_, h4, h5⟩
          simp only [Instr.makeMap, hev, Sem.run_bind, run_underlying hu, Result.andThen_ok, asInt, asIntOf]
          exact h3
        · cases h2
      · cases h
  | makeSlice t l c =>
    obtain ⟨u, y, h1, h2, h3⟩ := f2_inv h
    refine ⟨(makeSlice_ok (P := P) (w := w) hz (ρ := ρ) (x' := undef) (y' := undef) h3).1, fun hg hf hx => ?_⟩
    exact goes_v (s := Instr.makeSlice t (ev l) (ev c)) ((makeSlice_ok (w := w) hz h3).2 hg hf (hx l u h1) (hx c y h2))
  | slice t x lo hi mx =>
    simp only [eop] at h
    split at h
    · rename_i u hu
      split at h
      · rename_i l hl
        split at h
        · rename_i hh hhh
          split at h
          · rename_i m hmm
            obtain ⟨h1, rfl⟩ := optV_inv h
            refine ⟨Nat.le_refl _, fun hg _ hx => ?_⟩
            exact goes_same (s := Instr.sliceAt t (ev x) (lo.map ev) (hi.map ev) (mx.map ev)) hg (slice_ok h1 hg (hx x u hu) (hx.opt hl) (hx.opt hhh) (hx.opt hmm))
          · cases h
        · cases h
      · cases h
    · cases h
  | fieldAddr t x f => exact one (s := fun u => Instr.fieldAt t u f) h fun u u' hk hu => fieldAddr_ok hk hu
  | field t x f => exact one (s := fun u => Instr.field t u f) h fun u u' hk hu => field_ok hk hu
  | indexAddr t x i => exact two h fun u u' y y' hk hu hy => indexAddr_ok hk hu hy
  | index t x i => exact two h fun u u' y y' hk hu hy => index_ok hk hu hy
  | lookup t x i ok =>
    obtain ⟨u, y, h1, h2, h3⟩ := f2_inv h
    obtain ⟨h4, rfl⟩ := optV_inv h3
    exact ⟨Nat.le_refl _, fun hg _ hx => goes_same (s := Instr.lookup t (ev x) (ev i) ok) hg (lookup_ok hz h4 hg (hx x u h1) (hx i y h2))⟩
  | mapUpdate t m k x =>
    obtain ⟨u, y, z, h1, h2, h3, h4⟩ := f3_inv h
    obtain ⟨h5, hv⟩ := optS_inv h4
    refine ⟨Nat.le_of_eq (mapUpdate_ok (P := P) (w := w) (ρ := ρ) (m' := undef) (k' := undef) (v' := undef) h5).1.symm, fun hg _ hx => ?_⟩
    exact goes_u (s := Instr.mapUpdate t (ev m) (ev k) (ev x)) ((mapUpdate_ok (w := w) h5).2 hg (hx m u h1) (hx k y h2) (hx x z h3)) hv
  | insert t m k x =>
    obtain ⟨u, y, z, h1, h2, h3, h4⟩ := f3_inv h
    obtain ⟨h5, hv⟩ := optS_inv h4
    refine ⟨Nat.le_of_eq (mapUpdate_ok (P := P) (w := w) (ρ := ρ) (m' := undef) (k' := undef) (v' := undef) h5).1.symm, fun hg _ hx => ?_⟩
    exact goes_u (s := Instr.mapUpdate t (ev m) (ev k) (ev x)) ((mapUpdate_ok (w := w) h5).2 hg (hx m u h1) (hx k y h2) (hx x z h3)) hv
  | range t x =>
    obtain ⟨u, h1, h2⟩ := f1_inv h
    refine ⟨(range_ok (P := P) (w := w) (ρ := ρ) (x' := undef) h2).1, fun hg hf hx => ?_⟩
    exact goes_v (s := Instr.range t (ev x)) ((range_ok (w := w) h2).2 hg hf (hx x u h1))
  | next it s =>
    obtain ⟨u, h1, h2⟩ := f1_inv h
    refine ⟨(next_ok (P := P) (w := w) (ρ := ρ) (ty := ty) (x' := undef) h2).1, fun hg hf hx => ?_⟩
    exact goes_v (s := Instr.next (ev it) s ty) ((next_ok (w := w) h2).2 hg (hx it u h1))
  | entry it => exact oneS h fun u u' hk hg hu => entry_ok hk hg hu
  | typeAssert x xt t ok => exact one (s := fun u => Instr.typeAssert u xt t ok) h fun u u' hk hu => typeAssert_ok hz hk hu
  | extract x i => exact one (s := fun u => Instr.extract u i) h fun u u' hk hu => extract_ok hk hu
  | call c =>
    obtain ⟨h1, h2⟩ := callee_ok (w := w) (ρ := ρ) (ty := ty) (ev := ev) hz hm h
    exact ⟨h1, fun hg hf hx => (h2 hg hf hx).mono fun e => ⟨c, rfl, e⟩⟩
  | defer c =>
    exfalso
    simp only [eop, edefer] at h
    split at h
    · simp only at h
      split at h
      · split at h
        · split at h
          · cases h
          · cases h
        · cases h
      · cases h
    · cases h
  | _ => cases h

theorem optV_dfr {r : Option Value} {S : St} {d : Deferred} (h : optV r S = .dfr d) : False := by cases r <;> cases h
theorem optS_dfr {r : Option St} {d : Deferred} (h : optS r = .dfr d) : False := by cases r <;> cases h

/-- Only a defer defers. -/
def NoDfr (call : CallF) : Prop := ∀ g args S d, call g args S ≠ .dfr d

theorem defer_ok {call : CallF} {ρ : Ren} {S : St} {E : Tr Value} {c : Call} {ty : TypeId} {pos : String} {dst : Option Tmp} {after : Array Edge} {guard : Option (Nat × Bool)} {d : Deferred} {ev : Operand → Value}
    (h : (eop P ⟨dst, .defer c, ty, pos, after, guard⟩).run call E S = .dfr d) (hx : XRel ρ E ev) :
    ∃ d', (resolve ev c ty).run P w = .ok d' w ∧ DRel ρ d d' := by
  obtain ⟨cal, args, ats⟩ := c
  simp only [eop, edefer] at h
  split at h
  · rename_i g
    simp only at h
    split at h
    · rename_i l hl
      split at h
      · rename_i x hxr
        split at h
        · rename_i f first captured
          cases h
          have hr := hx.list hl
          have hrv := hx g _ hxr
          generalize hev : ev g = rv at hrv
          cases hrv with
          | @func _ a a' c c' h1 h2 =>
            refine ⟨⟨.fn (.func f) ⟨c'⟩, ⟨a' ++ args.toList.map ev⟩⟩, ?_, .fn f h2 (h1.append hr)⟩
            simp only [resolve, Deferred.ofValue, hev, map_args, Sem.run_pure]
            congr 2
            apply Array.toList_inj.1
            simp
        · cases h
      · cases h
    · cases h
  · cases h

end
end Go.Eng
