/- The abstract machine, part E: structs that are built, maps that are asked. -/
import Derived.Test.YtafedebfkdnpfaaGreatAmD
namespace Go.Am
open Go Go.RowKit

/-! ### fill -/
theorem foldl_put (off : Nat) : ∀ (vs : List Value) (j0 : Nat) (cells : Array Value) (k : Nat),
    ((vs.zipIdx j0).foldl (fun (cs : Array Value) (x : Value × Nat) => cs.setIfInBounds (off + x.2) x.1) cells)[k]? =
      if off + j0 ≤ k ∧ k < off + j0 + vs.length ∧ k < cells.size then vs[k - off - j0]? else cells[k]?
  | [], j0, cells, k => by
    simp only [List.zipIdx_nil, List.foldl_nil, List.length_nil]
    rw [if_neg (by omega)]
  | v :: vs, j0, cells, k => by
    simp only [List.zipIdx_cons, List.foldl_cons]
    rw [foldl_put off vs (j0 + 1) _ k]
    simp only [Array.size_setIfInBounds, List.length_cons]
    by_cases h1 : off + (j0 + 1) ≤ k ∧ k < off + (j0 + 1) + vs.length ∧ k < cells.size
    · rw [if_pos h1, if_pos (by omega)]
      have : k - off - j0 = (k - off - (j0 + 1)) + 1 := by omega
      rw [this, List.getElem?_cons_succ]
    · rw [if_neg h1]
      by_cases h2 : off + j0 ≤ k ∧ k < off + j0 + (vs.length + 1) ∧ k < cells.size
      · rw [if_pos h2]
        have hk : k = off + j0 := by omega
        subst hk
        have : off + j0 - off - j0 = 0 := by omega
        rw [this, Array.getElem?_setIfInBounds_self]
        simp [h2.2.2]
      · rw [if_neg h2]
        by_cases hk : off + j0 = k
        · subst hk
          have : ¬ (off + j0 < cells.size) := by omega
          simp [this]
        · rw [Array.getElem?_setIfInBounds_ne hk]

theorem foldl_put_size (off : Nat) : ∀ (vs : List Value) (j0 : Nat) (cells : Array Value),
    ((vs.zipIdx j0).foldl (fun (cs : Array Value) (x : Value × Nat) => cs.setIfInBounds (off + x.2) x.1) cells).size = cells.size
  | [], _, _ => rfl
  | v :: vs, j0, cells => by
    simp only [List.zipIdx_cons, List.foldl_cons]
    rw [foldl_put_size off vs (j0 + 1)]; simp

theorem fill_one {I : Inj} {l m : List AV} {cells vs : Array Value} {off : Nat} (hl : VRs I l cells.toList) (hm : VRs I m vs.toList) (hle : off + m.length ≤ l.length) :
    VRs I (l.take off ++ m ++ l.drop (off + m.length)) (vs.zipIdx.foldl (fun cs (c, j) => cs.setIfInBounds (off + j) c) cells).toList := by
  have e : (vs.zipIdx.foldl (fun (cs : Array Value) (x : Value × Nat) => cs.setIfInBounds (off + x.2) x.1) cells) = ((vs.toList.zipIdx 0).foldl (fun (cs : Array Value) (x : Value × Nat) => cs.setIfInBounds (off + x.2) x.1) cells) := by
    rw [← Array.foldl_toList]; simp
  show VRs I _ (vs.zipIdx.foldl (fun (cs : Array Value) (x : Value × Nat) => cs.setIfInBounds (off + x.2) x.1) cells).toList
  rw [e]
  have hll := hl.length
  have hml := hm.length
  simp only [Array.length_toList] at hll hml
  refine VRs.of_get ?_ fun k c hk => ?_
  · rw [Array.length_toList, foldl_put_size, hll]; simp; omega
  · rw [Array.getElem?_toList, foldl_put]
    have hkl : k < l.length := by
      have := (List.getElem?_eq_some_iff.1 hk).1
      simp at this; omega
    simp only [Nat.add_zero, Array.length_toList, Nat.sub_zero]
    by_cases h1 : k < off
    · rw [List.append_assoc, List.getElem?_append_left (by simp; omega), List.getElem?_take, if_pos h1] at hk
      rw [if_neg (by omega), ← Array.getElem?_toList]
      exact hl.get hk
    · by_cases h2 : k < off + m.length
      · rw [List.append_assoc, List.getElem?_append_right (by simp; omega), List.getElem?_append_left (by simp; omega)] at hk
        rw [if_pos (by omega)]
        have : (l.take off).length = off := by simp; omega
        rw [this] at hk
        exact hm.get hk
      · rw [List.getElem?_append_right (by simp; omega), List.getElem?_drop] at hk
        have : off + m.length + (k - (l.take off ++ m).length) = k := by simp; omega
        rw [this] at hk
        rw [if_neg (by omega), ← Array.getElem?_toList]
        exact hl.get hk

/-- the parts of a struct literal: the model's, and the abstract machine's -/
def partsOk (place : Nat → Option (Nat × Nat)) : List (Nat × Operand) → List (Nat × Nat × XA) → Prop
  | [], [] => True
  | (i, q) :: ps, (o, n, x) :: xs => place i = some (o, n) ∧ opA q = some x ∧ partsOk place ps xs
  | _, _ => False

theorem fill_ok {I : Inj} {N : Nat} {fr : AFr} {a : Act} (ha : AR N I fr a) {place : Nat → Option (Nat × Nat)} : ∀ {ps : List (Nat × Operand)} {xs : List (Nat × Nat × XA)}, partsOk place ps xs →
    ∀ {l r : List AV} {cells : Array Value}, VRs I l cells.toList → fillL fr xs l = some r → ∃ cells', Instr.fill place cells (ps.map fun (i, x) => (i, a.eval x)) = some cells' ∧ VRs I r cells'.toList
  | [], [], _, l, r, cells, hl, h => by
    simp only [fillL, Option.some.injEq] at h
    subst h
    exact ⟨cells, rfl, hl⟩
  | (i, q) :: ps, (o, n, x) :: xs, hp, l, r, cells, hl, h => by
    obtain ⟨h1, h2, h3⟩ := hp
    simp only [fillL, Option.bind_eq_some_iff] at h
    obtain ⟨v, hv, h⟩ := h
    split at h
    · rename_i hc
      have ev := ev_ok ha h2 hv
      have ec := ev.cells
      have hn : (a.eval q).cells.size = n := by have := ec.length; simp at this; omega
      have hll := hl.length
      simp only [Array.length_toList] at hll
      have hc' : v.cells.length = n := hc.1
      have f1 := fill_one (off := o) hl ec (by omega)
      rw [hc'] at f1
      obtain ⟨cells', e1, e2⟩ := fill_ok ha h3 f1 h
      refine ⟨cells', ?_, e2⟩
      simp only [List.map_cons, Instr.fill, h1]
      rw [if_neg ?_]
      · exact e1
      · simp [hn]; omega
    · cases h
  | [], _ :: _, hp, _, _, _, _, _ => hp.elim
  | _ :: _, [], hp, _, _, _, _, _ => hp.elim

section
variable {P : Program} {o : Oper}

def placesOf (P : Program) (fs : Array Field) : Option (List (Nat × Nat)) := fs.toList.mapM fun f => (szOf P f.type).map fun n => (f.offset, n)

theorem run_places (w : World) : ∀ {fs : List Field} {ps : List (Nat × Nat)}, fs.mapM (fun f => (szOf P f.type).map fun n => (f.offset, n)) = some ps →
    (fs.mapM (fun f => (do pure (f.offset, ← sizeOf f.type) : Sem (Nat × Nat)))).run P w = .ok ps w
  | [], ps, h => by simp at h; subst h; rfl
  | f :: fs, ps, h => by
    simp only [List.mapM_cons, Option.bind_eq_bind, Option.pure_def, Option.bind_eq_some_iff, Option.some.injEq, Option.map_eq_some_iff] at h
    obtain ⟨_, ⟨n, hn, rfl⟩, ps', hps, rfl⟩ := h
    have ih := run_places w hps
    simp only [List.mapM_cons, Sem.run_bind, run_sizeOf w hn, Result.andThen_ok, Sem.run_pure, ih]

theorem rd_build {t : TypeId} {parts : Array (Nat × Operand)} {fs : Array Field} {ps : List (Nat × Nat)} {z : Value} {zc : AV} {xs : List (Nat × Nat × XA)} (ho : o.op = .build t parts) (ht : P.underlying t = some (.struct fs))
    (hps : placesOf P fs = some ps) (hz : (P.info? t).bind (·.zero) = some z) (hzc : cvd 4 z = some zc) (hp : partsOk (ps.toArray[·]?) parts.toList xs) : RdOk P o (.build zc.cells xs) := by
  intro I H w N fr a v hsim ha h
  simp only [xrd, Option.map_eq_some_iff] at h
  obtain ⟨r, hr, rfl⟩ := h
  have hz' : VRs I zc.cells z.cells.toList := (cvd_ok (I := I) 4 hzc).cells
  obtain ⟨cells', e1, e2⟩ := fill_ok ha hp hz' hr
  refine ⟨.agg cells', ?_, by simp only [VR]; exact ⟨_, rfl, e2⟩⟩
  have hpl : (fs.mapM (fun f => (do pure (f.offset, ← sizeOf f.type) : Sem (Nat × Nat)))).run P w = .ok ps.toArray w := by
    rw [Array.mapM_eq_mapM_toList]
    simp only [Sem.run_map, run_places w hps, Result.andThen_ok]
  have e1' : Instr.fill (fun x => ps.toArray[x]?) z.cells (parts.map fun (i, x) => (i, a.eval x)).toList = some cells' := by
    rw [Array.toList_map]; exact e1
  simp only [execOp, ho, Instr.build, Sem.run_bind, run_zeroValue w hz, Result.andThen_ok, run_underlying ht, hpl, e1', Sem.run_pure]

/-- an array literal -/
theorem rd_buildA {t e : TypeId} {n sz : Nat} {parts : Array (Nat × Operand)} {z : Value} {zc : AV} {xs : List (Nat × Nat × XA)} (ho : o.op = .build t parts) (ht : P.underlying t = some (.array n e))
    (hs : szOf P e = some sz) (hz : (P.info? t).bind (·.zero) = some z) (hzc : cvd 4 z = some zc) (hp : partsOk (fun i => some (i * sz, sz)) parts.toList xs) : RdOk P o (.build zc.cells xs) := by
  intro I H w N fr a v hsim ha h
  simp only [xrd, Option.map_eq_some_iff] at h
  obtain ⟨r, hr, rfl⟩ := h
  have hz' : VRs I zc.cells z.cells.toList := (cvd_ok (I := I) 4 hzc).cells
  obtain ⟨cells', e1, e2⟩ := fill_ok ha hp hz' hr
  refine ⟨.agg cells', ?_, by simp only [VR]; exact ⟨_, rfl, e2⟩⟩
  have e1' : Instr.fill (fun i => some (i * sz, sz)) z.cells (parts.map fun (i, x) => (i, a.eval x)).toList = some cells' := by
    rw [Array.toList_map]; exact e1
  simp only [execOp, ho, Instr.build, Sem.run_bind, run_zeroValue w hz, Result.andThen_ok, run_underlying ht, run_sizeOf w hs, e1', Sem.run_pure]

/-! ### maps -/
def plainKey : TypeDesc → Bool
  | .int _ | .string | .bool => true
  | _ => false

theorem ba_beq (a b : List UInt8) : ((ByteArray.mk a.toArray) == (ByteArray.mk b.toArray)) = (a == b) := by
  show (a.toArray == b.toArray) = _
  simp

theorem keyEq_cases {k k' : AV} {r : Bool} (h : keyEq k k' = some r) : (∃ q a b, k = .int q a ∧ k' = .int q b ∧ r = (a == b)) ∨ (∃ a b, k = .str a ∧ k' = .str b ∧ r = (a == b)) ∨ (∃ a b, k = .bool a ∧ k' = .bool b ∧ r = (a == b)) := by
  unfold keyEq at h
  split at h
  · rename_i q a q' b
    by_cases hq : q = q'
    · subst hq
      rw [if_pos rfl] at h
      exact .inl ⟨q, a, b, rfl, rfl, (Option.some.inj h).symm⟩
    · rw [if_neg hq] at h; cases h
  · rename_i a b
    exact .inr (.inl ⟨a, b, rfl, rfl, (Option.some.inj h).symm⟩)
  · rename_i a b
    exact .inr (.inr ⟨a, b, rfl, rfl, (Option.some.inj h).symm⟩)
  · cases h

/-- a key fits its type -/
def keyFits : TypeDesc → AV → Bool
  | .int _, .int _ _ => true
  | .string, .str _ => true
  | .bool, .bool _ => true
  | _, _ => false

theorem sameNow_ok {I : Inj} {d : TypeDesc} {k k' : AV} {r : Bool} (h : keyEq k k' = some r) (hd : keyFits d k = true) {v u : Value} (hv : VR I k v) (hu : VR I k' u) :
    Instr.sameNow d v u = some r := by
  rcases keyEq_cases h with ⟨q, a, b, rfl, rfl, rfl⟩ | ⟨a, b, rfl, rfl, rfl⟩ | ⟨a, b, rfl, rfl, rfl⟩ <;> simp only [VR] at hv hu <;> subst hv <;> subst hu <;> cases d <;> simp [keyFits] at hd
  · simp [Instr.sameNow]
  · simp [Instr.sameNow, ba_beq]
  · simp [Instr.sameNow]

theorem sameBits_ok {I : Inj} {k k' : AV} (h : keyEq k k' = some true) {v u : Value} (hv : VR I k v) (hu : VR I k' u) (n : Nat) : Instr.sameBits n u v = true := by
  rcases keyEq_cases h with ⟨q, a, b, rfl, rfl, e⟩ | ⟨a, b, rfl, rfl, e⟩ | ⟨a, b, rfl, rfl, e⟩ <;> have e := (beq_iff_eq.1 e.symm) <;> subst e <;> simp only [VR] at hv hu <;> subst hv <;> subst hu
  · simp [Instr.sameBits]
  · simp [Instr.sameBits, ba_beq]
  · simp [Instr.sameBits]

/-- where a key stands -/
def midx (k : AV) : List (AV × AV) → Nat → Option (Option Nat)
  | [], _ => some none
  | (k', _) :: r, i => match keyEq k k' with
    | some true => some (some i)
    | some false => midx k r (i + 1)
    | none => none

theorem findNow_ok {I : Inj} {d : TypeDesc} {k : AV} (hd : keyFits d k = true) {kv : Value} (hk : VR I k kv) : ∀ {es : List (AV × AV)} {xs : List MapEntry} {i : Nat} {r : Option Nat},
    (∀ (j : Nat) k v, es[j]? = some (k, v) → ∃ x, xs[j]? = some x ∧ VR I k x.key ∧ VR I v x.val) → xs.length = es.length → midx k es i = some r →
    ∃ q, Instr.findNow d kv xs i = some q ∧ (match r, q with | none, none => True | some j, some (j', v) => j' = j ∧ i ≤ j ∧ ∃ a x, es[j - i]? = some a ∧ xs[j - i]? = some x ∧ keyEq k a.1 = some true ∧ v = x.val ∧ VR I a.2 v ∧ VR I a.1 x.key | _, _ => False)
  | [], xs, i, r, _, hl, h => by
    have : xs = [] := List.eq_nil_of_length_eq_zero (by simpa using hl)
    subst this
    simp only [midx, Option.some.injEq] at h
    subst h
    exact ⟨none, rfl, trivial⟩
  | (k', v') :: es, [], i, r, _, hl, h => by simp at hl
  | (k', v') :: es, x :: xs, i, r, hx, hl, h => by
    obtain ⟨x0, e0, h1, h2⟩ := hx 0 k' v' rfl
    simp only [List.getElem?_cons_zero, Option.some.injEq] at e0
    subst e0
    simp only [midx] at h
    split at h
    · rename_i hq
      cases h
      refine ⟨some (i, x.val), by simp [Instr.findNow, sameNow_ok hq hd hk h1], rfl, Nat.le_refl _, (k', v'), x, by simp, by simp, hq, rfl, h2, h1⟩
    · rename_i hq
      obtain ⟨q, e1, e2⟩ := findNow_ok hd hk (es := es) (xs := xs) (i := i + 1) (fun j k v hj => by simpa using hx (j + 1) k v (by simpa using hj)) (by simpa using hl) h
      refine ⟨q, by simp [Instr.findNow, sameNow_ok hq hd hk h1, e1], ?_⟩
      cases r with
      | none => cases q with
        | none => trivial
        | some q => exact e2.elim
      | some j => cases q with
        | none => exact e2.elim
        | some q =>
          obtain ⟨j', v⟩ := q
          obtain ⟨g1, g2, a, x1, g3, g4, g5⟩ := e2
          have : j - i = (j - (i + 1)) + 1 := by omega
          exact ⟨g1, by omega, a, x1, by rw [this]; simpa using g3, by rw [this]; simpa using g4, g5⟩
    · cases h

theorem mfind_midx {k : AV} : ∀ {es : List (AV × AV)} {i : Nat} {r : Option AV}, mfind k es = some r → ∃ q, midx k es i = some q ∧ (match r, q with | none, none => True | some v, some j => i ≤ j ∧ ∃ a, es[j - i]? = some a ∧ a.2 = v | _, _ => False)
  | [], i, r, h => by simp only [mfind, Option.some.injEq] at h; subst h; exact ⟨none, rfl, trivial⟩
  | (k', v') :: es, i, r, h => by
    simp only [mfind] at h
    split at h
    · rename_i hq
      cases h
      exact ⟨some i, by simp [midx, hq], Nat.le_refl _, (k', v'), by simp, rfl⟩
    · rename_i hq
      obtain ⟨q, e1, e2⟩ := mfind_midx (i := i + 1) h
      refine ⟨q, by simp [midx, hq, e1], ?_⟩
      cases r with
      | none => cases q with
        | none => trivial
        | some q => exact e2.elim
      | some v => cases q with
        | none => exact e2.elim
        | some j =>
          obtain ⟨g1, a, g2, g3⟩ := e2
          have : j - i = (j - (i + 1)) + 1 := by omega
          exact ⟨by omega, a, by rw [this]; simpa using g2, g3⟩
    · cases h

theorem keyFits_of {P : Program} {kt : TypeId} {d : TypeDesc} (hd : P.underlying kt = some d) {k : AV} (hk : keyFits d k = true) {I : Inj} {v : Value} (hv : VR I k v) (b : Bool) (n : Nat) (w : World) :
    (Instr.checkKey b (n + 1) kt v).run P w = .ok () w := by
  cases d <;> cases k <;> simp [keyFits] at hk <;> simp only [VR] at hv <;> subst hv <;> simp [Instr.checkKey, run_underlying hd]

theorem ckFits_desc {d : TypeDesc} {c : CK} (h : descCK d = some c) {k : AV} (hk : ckFits c k = true) : keyFits d k = true := by
  cases d <;> simp [descCK] at h <;> subst h <;> cases k <;> simp [ckFits] at hk <;> rfl

theorem run_getMap {w : World} {r : Nat} {xs : Array MapEntry} {c : Nat} (h : w.heap[r]? = some (.map xs c)) : (getObj r).run P w = .ok (.map xs c) w := by
  simp [getObj, Sem.run, h]

/-- what is found in a map -/
theorem Sim.find {I : Inj} {H : AHeap} {w : World} (hs : Sim I H w) {b : Nat} {es : List (AV × AV)} (hb : H.get b = .map es) {kt : TypeId} {d : TypeDesc} (hd : P.underlying kt = some d) {k : AV} (hk : keyFits d k = true) {kv : Value} (hv : VR I k kv)
    {r : Option Nat} (hr : midx k es 0 = some r) : ∃ xs, w.heap[I.B b]? = some (.map xs xs.size) ∧ xs.size = es.length ∧ (∀ (i : Nat) x, xs[i]? = some x → x.born = i) ∧
      (∀ (i : Nat) k v, es[i]? = some (k, v) → ∃ x, xs[i]? = some x ∧ VR I k x.key ∧ VR I v x.val) ∧
      ∃ q, (Instr.findKey kt kv xs.toList).run P w = .ok q w ∧ (match r, q with | none, none => True | some j, some (j', v) => j' = j ∧ ∃ a x, es[j]? = some a ∧ xs[j]? = some x ∧ keyEq k a.1 = some true ∧ v = x.val ∧ VR I a.2 v ∧ VR I a.1 x.key | _, _ => False) := by
  obtain ⟨_, xs, h1, h2, h3, h4⟩ := hs.map b _ hb
  refine ⟨xs, h1, h2, h3, h4, ?_⟩
  obtain ⟨q, e1, e2⟩ := findNow_ok hk hv (xs := xs.toList) (by simpa using h4) (by simpa using h2) hr
  refine ⟨q, by simp [Instr.findKey, run_underlying hd, e1], ?_⟩
  cases r with
  | none => cases q with
    | none => trivial
    | some q => exact e2.elim
  | some j => cases q with
    | none => exact e2.elim
    | some q =>
      obtain ⟨j', v⟩ := q
      obtain ⟨g1, _, a, x, g2, g3, g4⟩ := e2
      exact ⟨g1, a, x, by simpa using g2, by simpa using g3, g4⟩

theorem rd_lookup {t kt et : TypeId} {s q : Operand} {x y : XA} {ok : Bool} {d : TypeDesc} {c : CK} {z : Value} {zc : AV} (ho : o.op = .lookup t s q ok) (hx : opA s = some x) (hy : opA q = some y) (ht : P.underlying t = some (.map kt et))
    (hd : P.underlying kt = some d) (hc : descCK d = some c) (hz : (P.info? et).bind (·.zero) = some z) (hzc : cvd 4 z = some zc) : RdOk P o (.lookup zc ok c x y) := by
  intro I H w N fr a v hsim ha h
  simp only [xrd] at h
  split at h
  · rename_i kv hkv
    have ek := ev_ok ha hy hkv
    split at h
    · rename_i hfit
      have hk := ckFits_desc hc hfit
      have hzr : VR I zc z := cvd_ok 4 hzc
      have chk := fun b => keyFits_of (P := P) hd hk ek b 9999 w
      have none_ok : ∀ {es : Array MapEntry} {m : Value}, (match m with | .map none => es = #[] | .map (some r) => ∃ c, w.heap[r]? = some (.map es c) | _ => False) → a.eval s = m → (Instr.findKey kt (a.eval q) es.toList).run P w = .ok none w →
          ∃ v', (execOp a.eval o).run P w = .ok (.value v') w ∧ VR I (if ok then .tuple [zc, .bool false] else zc) v' := by
        intro es m hm hm' hf
        refine ⟨if ok then .tuple #[z, .bool false] else z, ?_, ?_⟩
        · cases m <;> (try exact hm.elim)
          rename_i r
          cases r with
          | none =>
            have hm1 : es = #[] := hm
            subst hm1
            simp [execOp, ho, hm', Instr.lookup, run_underlying ht, chk, hf, run_zeroValue w hz]
          | some r =>
            have hm1 : ∃ c, w.heap[r]? = some (.map es c) := hm
            obtain ⟨c, hm⟩ := hm1
            simp [execOp, ho, hm', Instr.lookup, run_underlying ht, run_getMap hm, chk, hf, run_zeroValue w hz]
        · cases ok
          · exact hzr
          · simp only [if_true, VR]
            exact ⟨_, rfl, VRs.cons hzr (VRs.cons (by simp [VR]) VRs.nil)⟩
      split at h
      · rename_i hxv
        have ex := ev_ok ha hx hxv
        simp only [VR] at ex
        cases h
        exact none_ok (es := #[]) (m := .map none) (by simp) ex (by simp [Instr.findKey, run_underlying hd, Instr.findNow])
      · rename_i b hxv
        have ex := ev_ok ha hx hxv
        simp only [VR] at ex
        split at h
        · rename_i es hb
          split at h
          · rename_i v0 hm
            cases h
            obtain ⟨r, hr, hr'⟩ := mfind_midx (i := 0) hm
            cases r with
            | none => exact hr'.elim
            | some j =>
              obtain ⟨_, a0, g2, g3⟩ := hr'
              obtain ⟨xs, k1, k2, k3, k4, q', k5, k6⟩ := hsim.find hb hd hk ek hr
              cases q' with
              | none => exact k6.elim
              | some q' =>
                obtain ⟨j', u⟩ := q'
                obtain ⟨_, a1, x1, m1, m2, m3, m4, m5, _⟩ := k6
                have : a1 = a0 := by simp at g2; rw [g2] at m1; exact (Option.some.inj m1).symm
                subst this
                subst g3
                refine ⟨if ok then .tuple #[u, .bool true] else u, ?_, ?_⟩
                · simp [execOp, ho, ex.2, Instr.lookup, run_underlying ht, run_getMap k1, chk, k5]
                · cases ok
                  · exact m5
                  · simp only [if_true, VR]
                    exact ⟨_, rfl, VRs.cons m5 (VRs.cons (by simp [VR]) VRs.nil)⟩
          · rename_i hm
            cases h
            obtain ⟨r, hr, hr'⟩ := mfind_midx (i := 0) hm
            cases r with
            | some j => exact hr'.elim
            | none =>
              obtain ⟨xs, k1, k2, k3, k4, q', k5, k6⟩ := hsim.find hb hd hk ek hr
              cases q' with
              | some q' => exact k6.elim
              | none => exact none_ok (es := xs) (m := .map (some (I.B b))) ⟨_, k1⟩ ex.2 k5
          · cases h
        · cases h
      · cases h
    · cases h
  · cases h
end
end Go.Am
