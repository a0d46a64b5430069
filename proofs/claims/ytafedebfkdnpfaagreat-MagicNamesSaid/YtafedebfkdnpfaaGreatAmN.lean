/- The abstract machine, part N: structs and arrays of plain cells that are held against each other. -/
import Derived.Test.YtafedebfkdnpfaaGreatAmM
import Derived.Laws.StructEq
namespace Go.Am
open Go Go.RowKit

section
variable {P : Program}

def plainT (P : Program) (t : TypeId) : Option CK := (ckOf P t).bind fun c => wh (szOf P t == some 1 && aggOf P t == some false) (some c)
theorem plainT_ok {t : TypeId} {c : CK} (h : plainT P t = some c) : (∃ d, P.underlying t = some d ∧ descCK d = some c) ∧ aggOf P t = some false := by
  simp only [plainT, ckOf, Option.bind_eq_some_iff, wh_some, Bool.and_eq_true, beq_iff_eq] at h
  obtain ⟨c', ⟨d, h1, h2⟩, ⟨_, h3⟩, h4⟩ := h
  cases h4
  exact ⟨⟨d, h1, h2⟩, h3⟩

theorem part_plain {t : TypeId} (h : aggOf P t = some false) {l : List Value} {o : Nat} {v : Value} (hv : l[o]? = some v) (w : World) : (part t l.toArray o).run P w = .ok v w := by
  simp [part, run_isAgg w h, hv]

/-- fields, one behind the other -/
def FieldsOk (P : Program) : List Field → List CK → Nat → Bool
  | [], [], _ => true
  | f :: fs, k :: ks, o => f.name != "_" && f.offset == o && plainT P f.type == some k && FieldsOk P fs ks (o + 1)
  | _, _, _ => false

theorem eq_cell {t : TypeId} {k : CK} (h : plainT P t = some k) {a b : Value} {ks : List CK} {l m : List Value} {r : Bool} (he : eqVals (k :: ks) (a :: l) (b :: m) = some r) (d : Nat) (w : World) :
    ∃ r1 r2, (Op.equalIn (d + 1) t a b).run P w = .ok r1 w ∧ eqVals ks l m = some r2 ∧ r = (r1 && r2) := by
  obtain ⟨⟨u, h1, h2⟩, h3⟩ := plainT_ok h
  cases k with
  | int k =>
    cases u <;> simp [descCK] at h2
    subst h2
    cases a <;> cases b <;> simp only [eqVals] at he <;> try (cases he; done)
    split at he
    · rename_i hk
      obtain ⟨rfl, rfl⟩ := hk
      simp only [Option.map_eq_some_iff] at he
      obtain ⟨r2, e1, rfl⟩ := he
      exact ⟨_, r2, run_equalIn_int w d t _ _ _ _ h1, e1, rfl⟩
    · cases he
  | str =>
    cases u <;> simp [descCK] at h2
    cases a <;> cases b <;> simp only [eqVals] at he <;> try (cases he; done)
    simp only [Option.map_eq_some_iff] at he
    obtain ⟨r2, e1, rfl⟩ := he
    refine ⟨_, r2, run_equalIn_string w d t _ _ h1, e1, ?_⟩
    simp [ByteArray.toList_eq]
  | bool =>
    cases u <;> simp [descCK] at h2
    cases a <;> cases b <;> simp only [eqVals] at he <;> try (cases he; done)
    simp only [Option.map_eq_some_iff] at he
    obtain ⟨r2, e1, rfl⟩ := he
    exact ⟨_, r2, run_equalIn_bool' w d t _ _ h1, e1, rfl⟩

theorem eqVals_cons {k : CK} {ks : List CK} {l m : List Value} {r : Bool} (he : eqVals (k :: ks) l m = some r) : ∃ a l' b m', l = a :: l' ∧ m = b :: m' := by
  cases l with
  | nil => cases k <;> simp [eqVals] at he
  | cons a l => cases m with
    | nil => cases k <;> cases a <;> simp [eqVals] at he
    | cons b m => exact ⟨a, l, b, m, rfl, rfl⟩
theorem eqVals_nil {l m : List Value} {r : Bool} (he : eqVals [] l m = some r) : r = true := by
  cases l <;> cases m <;> simp [eqVals] at he
  exact he

theorem eqVals_false : ∀ {ks : List CK} {l m : List Value} {r : Bool}, eqVals ks l m = some r → r = false ∨ r = true := fun {_ _ _ r} _ => by cases r <;> simp

theorem eqFields_ok {d : Nat} {xs ys : List Value} : ∀ {fs : List Field} {ks : List CK} {o : Nat}, FieldsOk P fs ks o = true → ∀ {r : Bool} {w : World}, eqVals ks (xs.drop o) (ys.drop o) = some r →
    (Op.eqFields (d + 1) xs.toArray ys.toArray fs).run P w = .ok r w
  | [], [], o, _, r, w, he => by
    rw [eqVals_nil he]; rfl
  | [], _ :: _, _, h, _, _, _ => by cases h
  | _ :: _, [], _, h, _, _, _ => by cases h
  | f :: fs, k :: ks, o, h, r, w, he => by
    simp only [FieldsOk, Bool.and_eq_true, beq_iff_eq, bne_iff_ne] at h
    obtain ⟨⟨⟨h1, h2⟩, h3⟩, h4⟩ := h
    obtain ⟨a, l', b, m', e1, e2⟩ := eqVals_cons he
    rw [e1, e2] at he
    obtain ⟨r1, r2, g1, g2, rfl⟩ := eq_cell h3 he d w
    have ha : xs[o]? = some a := by rw [← List.head?_drop, e1]; rfl
    have hb : ys[o]? = some b := by rw [← List.head?_drop, e2]; rfl
    have hl : l' = xs.drop (o + 1) := by rw [← List.tail_drop, e1]; rfl
    have hm : m' = ys.drop (o + 1) := by rw [← List.tail_drop, e2]; rfl
    rw [hl, hm] at g2
    have ih := eqFields_ok (d := d) h4 (w := w) g2
    have hp := (plainT_ok h3).2
    simp only [Op.eqFields, if_pos h1, h2, Sem.run_bind, part_plain hp ha, part_plain hp hb, Result.andThen_ok, g1]
    cases r1 <;> simp [ih]

def arrOkAt (P : Program) (n : Nat) (e : TypeId) (ks : List CK) : Bool := match plainT P e with | some k => ks == List.replicate n k | none => false

theorem EqOk_struct {t : TypeId} {ks : List CK} (hg : P.eqGuardType P.depth t = false) (hu : P.underlying t = some (.struct (P.fieldsOf t))) (hs : P.stoodInHeld t = false) (hf : FieldsOk P (P.fieldsOf t).toList ks 0 = true) : EqOk P t ks := by
  refine ⟨hg, fun l m r w he => ?_⟩
  show (Op.equalIn 10000 t _ _).run P w = _
  rw [run_equalIn_struct w 9999 t _ _ hu hs]
  exact eqFields_ok (d := 9998) hf (by simpa using he)

theorem eqArr_ok {d : Nat} {e : TypeId} {k : CK} (hk : plainT P e = some k) (hsz : szOf P e = some 1) {xs ys : List Value} : ∀ {n o : Nat} {r : Bool} {w : World}, eqVals (List.replicate n k) (xs.drop o) (ys.drop o) = some r →
    ∀ {K : Bool → Sem Bool}, (∀ b, K b = pure b) → ((do
      let r : Option Bool × Unit ← forIn (List.range' o n 1) ((none, ()) : Option Bool × Unit) fun i _ => do
        let a ← part e xs.toArray (i * 1)
        let b ← part e ys.toArray (i * 1)
        let q ← Op.equalIn (d + 1) e a b
        if (!q) = true then pure (ForInStep.done ⟨some false, PUnit.unit⟩) else pure (ForInStep.yield ⟨none, PUnit.unit⟩)
      match r.fst with
      | some a => K a
      | none => K true) : Sem Bool).run P w = .ok r w
  | 0, o, r, w, he, K, hK => by
    rw [eqVals_nil he]
    simp [hK]
  | n + 1, o, r, w, he, K, hK => by
    rw [List.replicate_succ] at he
    obtain ⟨a, l', b, m', e1, e2⟩ := eqVals_cons he
    rw [e1, e2] at he
    obtain ⟨r1, r2, g1, g2, rfl⟩ := eq_cell hk he d w
    have ha : xs[o]? = some a := by rw [← List.head?_drop, e1]; rfl
    have hb : ys[o]? = some b := by rw [← List.head?_drop, e2]; rfl
    have hl : l' = xs.drop (o + 1) := by rw [← List.tail_drop, e1]; rfl
    have hm : m' = ys.drop (o + 1) := by rw [← List.tail_drop, e2]; rfl
    rw [hl, hm] at g2
    have ih := eqArr_ok (d := d) hk hsz (n := n) (o := o + 1) (w := w) g2 hK
    have hp := (plainT_ok hk).2
    rw [List.range'_succ]
    simp only [Sem.run_bind] at ih
    simp only [List.forIn_cons, Sem.run_bind, Nat.mul_one, part_plain hp ha, part_plain hp hb, Result.andThen_ok, g1]
    cases r1
    · simp [hK]
    · simpa using ih

theorem run_equalIn_array {d : Nat} {t : TypeId} {n : Nat} {e : TypeId} {k : CK} (hu : P.underlying t = some (.array n e)) (hk : plainT P e = some k) {l m : List Value} {r : Bool} {w : World} (he : eqVals (List.replicate n k) l m = some r) :
    (Op.equalIn (d + 2) t (.agg l.toArray) (.agg m.toArray)).run P w = .ok r w := by
  have hsz : szOf P e = some 1 := by
    simp only [plainT, Option.bind_eq_some_iff, wh_some, Bool.and_eq_true, beq_iff_eq] at hk
    obtain ⟨_, _, ⟨h, _⟩, _⟩ := hk
    exact h
  have := eqArr_ok (d := d) hk hsz (xs := l) (ys := m) (n := n) (o := 0) (r := r) (w := w) (by simpa using he) (K := pure) fun _ => rfl
  rw [Op.equalIn]
  simp only [Sem.run_bind, run_underlying hu, Result.andThen_ok, run_sizeOf w hsz, Std.Legacy.Range.forIn_eq_forIn_range']
  simp [Std.Legacy.Range.size] at this ⊢
  refine Eq.trans ?_ this
  congr 2
  funext a w'
  obtain ⟨a, b⟩ := a
  cases a <;> rfl

theorem EqOk_array {t : TypeId} {ks : List CK} {n : Nat} {e : TypeId} {k : CK} (hg : P.eqGuardType P.depth t = false) (hu : P.underlying t = some (.array n e)) (hk : plainT P e = some k) (hks : ks = List.replicate n k) : EqOk P t ks := by
  subst hks
  exact ⟨hg, fun l m r w he => run_equalIn_array (d := 9998) hu hk he⟩

/-! ### structs in structs -/
def nstF (P : Program) (sub : TypeId → List CK → Bool) : List Field → List CK → Nat → Bool
  | [], ks, _ => ks.isEmpty
  | f :: fs, ks, o => f.name != "_" && f.offset == o && (match szOf P f.type with
      | some sz => decide (0 < sz) && decide (sz ≤ ks.length) && sub f.type (ks.take sz) && nstF P sub fs (ks.drop sz) (o + sz)
      | none => false)
def nstT (P : Program) : Nat → TypeId → List CK → Bool
  | 0, _, _ => false
  | n + 1, t, ks => match plainT P t with
    | some k => ks == [k]
    | none => decide (aggOf P t = some true) && (stOf P t).isSome && !P.stoodInHeld t && nstF P (nstT P n) (P.fieldsOf t).toList ks 0

theorem eqVals_len : ∀ {ks : List CK} {l m : List Value} {r : Bool}, eqVals ks l m = some r → l.length = ks.length ∧ m.length = ks.length
  | [], l, m, r, h => by cases l <;> cases m <;> simp [eqVals] at h; simp
  | k :: ks, l, m, r, h => by
    obtain ⟨a, l', b, m', rfl, rfl⟩ := eqVals_cons h
    have : ∃ r', eqVals ks l' m' = some r' := by
      cases k <;> cases a <;> cases b <;> simp only [eqVals] at h <;> (try (cases h; done))
      · split at h
        · simp only [Option.map_eq_some_iff] at h; obtain ⟨r', h1, _⟩ := h; exact ⟨r', h1⟩
        · cases h
      · simp only [Option.map_eq_some_iff] at h; obtain ⟨r', h1, _⟩ := h; exact ⟨r', h1⟩
      · simp only [Option.map_eq_some_iff] at h; obtain ⟨r', h1, _⟩ := h; exact ⟨r', h1⟩
    obtain ⟨r', h1⟩ := this
    obtain ⟨g1, g2⟩ := eqVals_len h1
    simp [g1, g2]

theorem eqVals_split : ∀ {ks : List CK} {l m : List Value} {r : Bool} (n : Nat), n ≤ ks.length → eqVals ks l m = some r → ∃ r1 r2, eqVals (ks.take n) (l.take n) (m.take n) = some r1 ∧ eqVals (ks.drop n) (l.drop n) (m.drop n) = some r2 ∧ r = (r1 && r2)
  | ks, l, m, r, 0, _, h => ⟨true, r, by simp [eqVals], by simpa using h, by simp⟩
  | [], l, m, r, n + 1, hn, h => by simp at hn
  | k :: ks, l, m, r, n + 1, hn, h => by
    obtain ⟨a, l', b, m', rfl, rfl⟩ := eqVals_cons h
    have hn' : n ≤ ks.length := by simpa using hn
    have key : ∀ {x : Bool}, (eqVals ks l' m').map (x && ·) = some r → ∃ r1 r2, (eqVals (ks.take n) (l'.take n) (m'.take n)).map (x && ·) = some r1 ∧ eqVals (ks.drop n) (l'.drop n) (m'.drop n) = some r2 ∧ r = (r1 && r2) := by
      intro x hx
      simp only [Option.map_eq_some_iff] at hx
      obtain ⟨r', h1, rfl⟩ := hx
      obtain ⟨r1, r2, e1, e2, rfl⟩ := eqVals_split n hn' h1
      exact ⟨x && r1, r2, by rw [e1]; rfl, e2, by rw [Bool.and_assoc]⟩
    simp only [List.take_succ_cons, List.drop_succ_cons]
    cases k <;> cases a <;> cases b <;> simp only [eqVals] at h ⊢ <;> (try (cases h; done))
    · split at h
      · rename_i hc
        simp only [if_pos hc]
        exact key h
      · cases h
    · exact key h
    · exact key h

/-- a value, of its cells -/
def valOf (P : Program) (t : TypeId) (l : List Value) : Value := if aggOf P t = some true then .agg l.toArray else l.headD undef

theorem part_val {t : TypeId} {sz o : Nat} {xs : List Value} (hsz : szOf P t = some sz) (h0 : 0 < sz) (hle : o + sz ≤ xs.length) (hg : aggOf P t = some true ∨ aggOf P t = some false) (w : World) : (part t xs.toArray o).run P w = .ok (valOf P t ((xs.drop o).take sz)) w := by
  rcases hg with hg | hg
  · have e : xs.toArray.extract o (o + sz) = ((xs.drop o).take sz).toArray := by apply Array.ext'; simp
    simp [part, run_isAgg w hg, run_sizeOf w hsz, valOf, hg]
  · have : xs[o]? = some xs[o] := List.getElem?_eq_getElem (by omega)
    have e : ((xs.drop o).take sz).headD undef = xs[o] := by
      obtain ⟨k, rfl⟩ : ∃ k, sz = k + 1 := ⟨sz - 1, by omega⟩
      rw [List.drop_eq_getElem_cons (by omega), List.take_succ_cons]; rfl
    rw [part_plain hg this]
    simp only [valOf, hg, Option.some.injEq, Bool.false_eq_true, if_false, e]

theorem nst_ok : ∀ {n : Nat} {t : TypeId} {ks : List CK}, nstT P n t ks = true → (aggOf P t = some true ∨ aggOf P t = some false) ∧ ∀ {l m : List Value} {r : Bool} (d : Nat) (w : World), eqVals ks l m = some r → (Op.equalIn (d + 2 * n) t (valOf P t l) (valOf P t m)).run P w = .ok r w
  | 0, t, ks, h => by cases h
  | n + 1, t, ks, h => by
    unfold nstT at h
    split at h
    · rename_i k hk
      have e : ks = [k] := by simpa using h
      subst e
      have hg := (plainT_ok hk).2
      refine ⟨.inr hg, fun {l m r} d w he => ?_⟩
      obtain ⟨a, l', b, m', rfl, rfl⟩ := eqVals_cons he
      obtain ⟨r1, r2, g1, g2, rfl⟩ := eq_cell hk he (d + 2 * n + 1) w
      rw [eqVals_nil g2]
      simp only [valOf, hg, Option.some.injEq, Bool.false_eq_true, if_false, List.headD_cons, Bool.and_true]
      exact g1
    · simp only [Bool.and_eq_true, decide_eq_true_eq, Bool.not_eq_true'] at h
      obtain ⟨⟨⟨h1, h2⟩, h3⟩, h4⟩ := h
      have h2 : P.underlying t = some (.struct (P.fieldsOf t)) := by
        obtain ⟨fs, hfs⟩ := Option.isSome_iff_exists.1 h2
        have := stOf_some.1 hfs
        simp [Program.fieldsOf, this]
      refine ⟨.inl h1, fun {l m r} d w he => ?_⟩
      have e : ∀ l : List Value, valOf P t l = .agg l.toArray := fun l => by simp [valOf, h1]
      rw [e, e]
      show (Op.equalIn ((d + 2 * n + 1) + 1) t _ _).run P w = _
      rw [run_equalIn_struct w _ t _ _ h2 h3]
      have key : ∀ {fs : List Field} {ks : List CK} {o : Nat}, nstF P (nstT P n) fs ks o = true → ∀ {r : Bool} {w : World}, eqVals ks (l.drop o) (m.drop o) = some r → (Op.eqFields (d + 2 * n + 1) l.toArray m.toArray fs).run P w = .ok r w := by
        intro fs
        induction fs with
        | nil =>
          intro ks o hf r w he
          have : ks = [] := by simpa [nstF] using hf
          subst this
          rw [eqVals_nil he]; rfl
        | cons f fs ih =>
          intro ks o hf r w he
          simp only [nstF, Bool.and_eq_true, beq_iff_eq, bne_iff_ne] at hf
          obtain ⟨⟨hf1, hf2⟩, hf3⟩ := hf
          split at hf3
          · rename_i sz hsz
            simp only [Bool.and_eq_true, decide_eq_true_eq] at hf3
            obtain ⟨⟨⟨hf3, hf4⟩, hf5⟩, hf6⟩ := hf3
            obtain ⟨r1, r2, g1, g2, rfl⟩ := eqVals_split sz hf4 he
            rw [List.drop_drop, List.drop_drop] at g2
            obtain ⟨hlen1, hlen2⟩ := eqVals_len he
            simp only [List.length_drop] at hlen1 hlen2
            obtain ⟨k1, k2⟩ := nst_ok hf5
            have k3 := k2 (d + 1) w g1
            rw [show d + 1 + 2 * n = d + 2 * n + 1 by omega] at k3
            have ih' := ih hf6 (w := w) g2
            have p1 := part_val (xs := l) hsz hf3 (o := o) (by omega) k1 w
            have p2 := part_val (xs := m) hsz hf3 (o := o) (by omega) k1 w
            simp only [Op.eqFields, if_pos hf1, hf2, Sem.run_bind, p1, p2, Result.andThen_ok, k3]
            cases r1 <;> simp [ih']
          · cases hf3
      exact key h4 (by simpa using he)

theorem EqOk_nst {t : TypeId} {ks : List CK} (hg : P.eqGuardType P.depth t = false) (ha : aggOf P t = some true) (hn : nstT P 6 t ks = true) : EqOk P t ks := by
  refine ⟨hg, fun l m r w he => ?_⟩
  have := (nst_ok hn).2 9988 w he
  have e : ∀ l : List Value, valOf P t l = .agg l.toArray := fun l => by simp [valOf, ha]
  rw [e, e] at this
  exact this
end
end Go.Am
