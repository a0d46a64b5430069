/- The abstract machine, part S: arguments, read. -/
import Derived.Test.YtafedebfkdnpfaaGreatAmR
import GoSem.ClaimChange
import Derived.OpenShut
import Derived.SizedLaws
namespace Go.Am
open Go Go.RowKit

/-! ### shapes -/
inductive CS where
  | int (k : IntKind) | str | bool
  | slice (t : TypeId) (e : List CS)
  deriving Inhabited

mutual
/-- a cell of a shape -/
def FitC : CS → AV → Prop
  | .int k, v => ∃ n, v = .int k n ∧ (Lit.int k n).wf = true
  | .str, v => ∃ s, v = .str s ∧ s.length ≤ reachBytes
  | .bool, v => ∃ b, v = .bool b
  | .slice _ e, v => ∃ es, v = .fs e.length es ∧ es.length ≤ reachBytes ∧ ∀ x ∈ es, FitL e x
def FitL : List CS → List AV → Prop
  | [], vs => vs = []
  | c :: l, vs => ∃ v r, vs = v :: r ∧ FitC c v ∧ FitL l r
end

theorem FitL.length : ∀ {l : List CS} {vs : List AV}, FitL l vs → vs.length = l.length
  | [], vs, h => by simp only [FitL] at h; subst h; rfl
  | c :: l, vs, h => by
    simp only [FitL] at h
    obtain ⟨v, r, rfl, _, h3⟩ := h
    simp [FitL.length h3]
theorem FitL.append : ∀ {l l' : List CS} {vs vs' : List AV}, FitL l vs → FitL l' vs' → FitL (l ++ l') (vs ++ vs')
  | [], l', vs, vs', h, h' => by simp only [FitL] at h; subst h; exact h'
  | c :: l, l', vs, vs', h, h' => by
    simp only [FitL] at h
    obtain ⟨v, r, rfl, h2, h3⟩ := h
    simp only [List.cons_append, FitL]
    exact ⟨v, _, rfl, h2, FitL.append h3 h'⟩

/-- the shape of a type's cells -/
def shapeFs (P : Program) (sh : TypeId → Option (List CS)) : List Field → Nat → Option (List CS)
  | [], _ => some []
  | f :: fs, o => wh (f.offset == o) <| (sh f.type).bind fun l => wh (P.cellsOf f.type == l.length) <| (shapeFs P sh fs (o + l.length)).map (l ++ ·)
def shape (P : Program) : Nat → TypeId → Option (List CS)
  | 0, _ => none
  | n + 1, t => match P.underlying t with
    | some (.int k) => some [.int k]
    | some .string => some [.str]
    | some .bool => some [.bool]
    | some (.slice e) => (shape P n e).bind fun l => wh (decide (0 < l.length) && P.cellsOf e == l.length && decide (0 < P.bytesOf e)) (some [.slice e l])
    | some (.struct fs) => (shapeFs P (shape P n) fs.toList 0).bind fun l => wh (P.cellsOf t == l.length) (some l)
    | _ => none

theorem VR.oneCell_cells {I : Inj} {c : CS} {a : AV} (hf : FitC c a) {v : Value} (h : VR I a v) : v.oneCell' = true := by
  refine one_of h ?_
  cases c <;> simp only [FitC] at hf
  · obtain ⟨n, rfl, _⟩ := hf; rfl
  · obtain ⟨n, rfl, _⟩ := hf; rfl
  · obtain ⟨n, rfl⟩ := hf; rfl
  · obtain ⟨_, rfl, _⟩ := hf; rfl
theorem VRs.one_fit {I : Inj} : ∀ {l : List CS} {as : List AV} {vs : List Value}, FitL l as → VRs I as vs → ∀ v ∈ vs, v.oneCell' = true
  | [], as, vs, hf, h => by
    simp only [FitL] at hf; subst hf
    simp only [VRs] at h; subst h
    simp
  | c :: l, as, vs, hf, h => by
    simp only [FitL] at hf
    obtain ⟨v, r, rfl, h2, h3⟩ := hf
    simp only [VRs] at h
    obtain ⟨u, us, rfl, h4, h5⟩ := h
    intro x hx
    rcases List.mem_cons.1 hx with rfl | hx
    · exact VR.oneCell_cells h2 h4
    · exact VRs.one_fit h3 h5 x hx

section
variable {X : Type} {enc : TypeId × Value → X} {P : Program} {w : World} {sp : Nat → Bool} {hd : Bool}

/-- all that is there now is frozen -/
def Inj.all (w : World) : Inj := Inj.start w (snapW w)
theorem Sim.all (w : World) : Sim (Inj.all w) AHeap.empty w := Sim.start w _ fun B cs e => by
  obtain ⟨T, fr, e1⟩ := snapW_held e
  exact ⟨cs, T, fr, e1, fun _ _ h => h⟩

/-- no row or string of it is heavier than an address space -/
def Light (P : Program) (t : TypeId) (d : DataW X) : Prop := ∀ n ∈ d.weights P t, n ≤ reachBytes
theorem weights_mem_all {e : TypeId} {d : DataW X} {n : Nat} (hn : n ∈ d.weights P e) : ∀ {l : List (DataW X)}, d ∈ l → n ∈ DataW.weightsAll P e l
  | [], h => by cases h
  | d0 :: l, h => by
    simp only [DataW.weightsAll, List.mem_append]
    rcases List.mem_cons.1 h with rfl | h
    · exact .inl hn
    · exact .inr (weights_mem_all hn h)
/-- what reading some cells gives -/
def Got (w : World) (S : List CS) (cs : List Value) : Prop := ∃ as, VRs (Inj.all w) as cs ∧ FitL S as

theorem got_fields {n m : Nat} (ih : ∀ {t cs x S}, DataW.trod enc P w 0 sp hd n t cs = some x → Light P t x.1 → shape P m t = some S → Got w S cs) :
    ∀ {fs : List Field} {o : Nat} {S : List CS} {cs : List Value}, (∀ f ∈ fs, ∃ x, DataW.trod enc P w 0 sp hd n f.type ((cs.drop f.offset).take (P.cellsOf f.type)) = some x ∧ Light P f.type x.1) →
      shapeFs P (shape P m) fs o = some S → cs.length = o + S.length → Got w S (cs.drop o)
  | [], o, S, cs, hm, hS, hl => by
    cases hS
    refine ⟨[], ?_, by simp [FitL]⟩
    simp only [VRs, List.drop_eq_nil_iff]
    simp at hl
    omega
  | f :: fs, o, S, cs, hm, hS, hl => by
    simp only [shapeFs, wh_some, Option.bind_eq_some_iff, Option.map_eq_some_iff, beq_iff_eq] at hS
    obtain ⟨h1, l, h2, h3, l', h4, rfl⟩ := hS
    obtain ⟨x, e1, e2⟩ := hm f List.mem_cons_self
    obtain ⟨as, g4, g5⟩ := ih e1 e2 h2
    rw [List.length_append] at hl
    obtain ⟨as2, k4, k5⟩ := got_fields ih (fun f hf => hm f (List.mem_cons_of_mem _ hf)) h4 (by omega)
    refine ⟨as ++ as2, ?_, g5.append k5⟩
    have : cs.drop o = (cs.drop o).take l.length ++ cs.drop (o + l.length) := by
      rw [← List.drop_drop, List.take_append_drop]
    rw [this]
    rw [h1, h3] at g4
    exact VRs.append g4 k4

theorem VRss.snoc {I : Inj} {sz : Nat} {es : List (List AV)} {vs : List Value} (h : VRss I sz es vs) {e : List AV} {us : List Value} (he : e.length = sz) (hu : VRs I e us) : VRss I sz (es ++ [e]) (vs ++ us) := by
  refine h.append ?_
  simp only [VRss]
  exact ⟨us, [], by simp, he, hu, rfl⟩

theorem got_elems {n m : Nat} (ih : ∀ {t cs x S}, DataW.trod enc P w 0 sp hd n t cs = some x → Light P t x.1 → shape P m t = some S → Got w S cs)
    {e : TypeId} {S : List CS} (hS : shape P m e = some S) (hc : P.cellsOf e = S.length) {a : Addr} :
    ∀ (len : Nat), (∀ i, i < len → ∃ cs x, w.cells? 0 (a.add (i * P.cellsOf e)) (P.cellsOf e) = some cs ∧ DataW.trod enc P w 0 sp hd n e cs = some x ∧ Light P e x.1) →
      ∃ (es : List (List AV)) (vs : List Value), es.length = len ∧ vs.length = len * S.length ∧ VRss (Inj.all w) S.length es vs ∧ (∀ x ∈ es, FitL S x) ∧ (∀ v ∈ vs, v.oneCell' = true) ∧ ∀ (k : Nat) v, vs[k]? = some v → w.cell? (a.add k) = some v
  | 0, hm => ⟨[], [], rfl, by simp, by simp [VRss], by simp, by simp, by simp⟩
  | len + 1, hm => by
    obtain ⟨es, vs, h1, h2, h3, h4, h5, h6⟩ := got_elems ih hS hc len fun i hi => hm i (by omega)
    obtain ⟨cs, x, e0, e1, e2⟩ := hm len (by omega)
    obtain ⟨as, g1, g2⟩ := ih e1 e2 hS
    obtain ⟨_, k1, k2⟩ := World.cells?_some e0
    rw [hc] at k1 k2
    have hcl : cs.length = S.length := by rw [g1.length, g2.length]
    refine ⟨es ++ [as], vs ++ cs, by simp [h1], by rw [List.length_append, h2, hcl, Nat.succ_mul], h3.snoc g2.length g1, ?_, ?_, ?_⟩
    · intro x hx
      rcases List.mem_append.1 hx with hx | hx
      · exact h4 x hx
      · simp only [List.mem_singleton] at hx; subst hx; exact g2
    · intro v hv
      rcases List.mem_append.1 hv with hv | hv
      · exact h5 v hv
      · exact VRs.one_fit g2 g1 v hv
    · intro k v hk
      by_cases hlt : k < vs.length
      · rw [List.getElem?_append_left hlt] at hk
        exact h6 k v hk
      · rw [List.getElem?_append_right (by omega), h2] at hk
        have hj := (List.getElem?_eq_some_iff.1 hk).1
        have := k2 (k - len * S.length) (by omega)
        rw [hk] at this
        rw [← this]
        congr 1
        unfold Addr.add
        obtain ⟨b, o, sp⟩ := a
        have e2 : len * S.length + (k - len * S.length) = k := by omega
        cases sp <;> simp <;> (repeat' split) <;> simp_all <;> omega

theorem cell_some {a : Addr} {v : Value} (h : w.cell? a = some v) : ∃ cs T fr, w.heap[a.block]? = some (.cells cs T fr) ∧ a.spot = none ∧ cs[a.off]? = some v := by
  unfold World.cell? at h
  split at h
  · rename_i c T fr hc
    split at h
    · cases h
    · rename_i hsp
      exact ⟨c, T, fr, hc, by simpa using hsp, h⟩
  · cases h

theorem addr_eta {a : Addr} (h : a.spot = none) (n : Nat) : a.add n = ⟨a.block, a.off + n, none⟩ := by
  obtain ⟨b, o, sp⟩ := a
  simp only at h
  subst h
  unfold Addr.add
  split
  · rename_i hn; subst hn; rfl
  · rfl

theorem got : ∀ {n m : Nat} {t : TypeId} {cs : List Value} {x : DataW X × List MemPlace} {S : List CS}, DataW.trod enc P w 0 sp hd n t cs = some x → Light P t x.1 → shape P m t = some S → Got w S cs
  | 0, _, _, _, _, _, h, _, _ => by simp [DataW.trod] at h
  | _ + 1, 0, _, _, _, _, _, _, h => by cases h
  | n + 1, m + 1, t, cs, x, S, h, hz, hS => by
    unfold shape at hS
    split at hS
    · rename_i k hu
      cases hS
      obtain ⟨z, rfl, _, hw⟩ := DataW.trod_int hu h
      exact ⟨[.int k z], by simp [VRs, VR], by simp only [FitL, FitC]; exact ⟨_, [], rfl, ⟨_, rfl, hw⟩, rfl⟩⟩
    · rename_i hu
      cases hS
      obtain ⟨z, rfl, rfl, hw⟩ := DataW.trod_string hu h
      have hw := hz z.data.toList.length (by simp [DataW.weights])
      exact ⟨[.str z.data.toList], by simp [VRs, VR], by simp only [FitL, FitC]; exact ⟨_, [], rfl, ⟨_, rfl, hw⟩, rfl⟩⟩
    · rename_i hu
      cases hS
      obtain ⟨z, rfl, _⟩ := DataW.trod_bool hu h
      exact ⟨[.bool z], by simp [VRs, VR], by simp only [FitL, FitC]; exact ⟨_, [], rfl, ⟨_, rfl⟩, rfl⟩⟩
    · rename_i e hu
      simp only [Option.bind_eq_some_iff, wh_some, Option.some.injEq, Bool.and_eq_true, decide_eq_true_eq, beq_iff_eq] at hS
      obtain ⟨l, h1, ⟨⟨h2, h3⟩, hby⟩, rfl⟩ := hS
      rcases DataW.trod_slice hu h with ⟨rfl, _⟩ | ⟨a, len, cap, elems, rest, n', hn', rfl, rfl, _, hlc, hcm, hel, hget, hrest, _⟩
      · refine ⟨[.fs l.length []], ?_, by simp only [FitL, FitC]; exact ⟨_, [], rfl, ⟨[], rfl, by simp, by simp⟩, rfl⟩⟩
        simp only [VRs, VR]
        exact ⟨_, [], rfl, ⟨[], by simp [VRss], by simp, .inl ⟨by trivial, by trivial⟩⟩, rfl⟩
      · cases hn'
        have hz1 : ∀ d ∈ elems.map (·.1), Light P e d := fun d hd n hn => hz n (by
          simp only [DataW.weights, hu, List.mem_cons, List.mem_append]
          exact .inr (.inl (weights_mem_all hn hd)))
        have hz2 : (elems.length + rest.length) * P.bytesOf e ≤ reachBytes := hz _ (by simp [DataW.weights, hu])
        have hz3 : elems.length ≤ reachBytes := by
          refine Nat.le_trans ?_ hz2
          exact Nat.le_trans (Nat.le_add_right _ _) (Nat.le_mul_of_pos_right _ hby)
        obtain ⟨es, vs, g1, g2, g3, g4, g5, g6⟩ := got_elems (fun h1 h2 h3 => got h1 h2 h3) h1 h3 (a := a) len (fun i hi => by
          have := hget i hi
          rw [List.getElem?_eq_getElem (by omega), Option.bind_eq_some_iff] at this
          obtain ⟨cs, e1, e2⟩ := this
          exact ⟨cs, _, e1, e2, hz1 _ (List.mem_map.2 ⟨_, List.getElem_mem _, rfl⟩)⟩)
        refine ⟨[.fs l.length es], ?_, by simp only [FitL, FitC]; exact ⟨_, [], rfl, ⟨es, rfl, by omega, g4⟩, rfl⟩⟩
        simp only [VRs, VR]
        refine ⟨_, [], rfl, ⟨vs, g3, g5, .inr ⟨a, cap, by rw [g1], by omega, ?_⟩⟩, rfl⟩
        by_cases hlen : len = 0
        · left; exact List.eq_nil_of_length_eq_zero (by omega)
        · right
          have h0 : 0 < vs.length := by rw [g2]; exact Nat.mul_pos (by omega) h2
          have e3 := g6 0 vs[0] (List.getElem?_eq_getElem h0)
          have hblk : a.add 0 = a := by simp [Addr.add]
          rw [hblk] at e3
          obtain ⟨c0, T, fr, c1, c2, c3⟩ := cell_some e3
          refine ⟨a.block, a.off, by obtain ⟨b, o, spt⟩ := a; simp only at c2; subst c2; rfl, .inr ⟨c0, by simp [Inj.all, Inj.start, snapW, c1], ?_⟩⟩
          intro k v hk
          have e4 := g6 k v hk
          rw [addr_eta c2] at e4
          obtain ⟨c', T', fr', d1, _, d3⟩ := cell_some e4
          rw [c1] at d1
          cases d1
          exact d3
    · rename_i fs hu
      simp only [Option.bind_eq_some_iff, wh_some, Option.some.injEq, beq_iff_eq] at hS
      obtain ⟨l, h1, h2, rfl⟩ := hS
      obtain ⟨xs, n', hn', rfl, hl, hlen, hget⟩ := DataW.trod_struct hu h
      cases hn'
      have := got_fields (fun h1 h2 h3 => got h1 h2 h3) (fs := fs.toList) (cs := cs) (fun f hf => by
        obtain ⟨i, hi⟩ := List.getElem?_of_mem hf
        have h5 := hget i f (by simpa using hi)
        have hil := (List.getElem?_eq_some_iff.1 hi).1
        rw [List.getElem?_eq_getElem (by simp at hil; omega)] at h5
        refine ⟨_, h5, fun n hn => hz n ?_⟩
        simp only [DataW.weights, hu]
        refine DataW.weights_mem_each (j := i) (t := f.type) ?_ ?_ n hn
        · rw [List.getElem?_map, hi]; rfl
        · rw [List.getElem?_map, List.getElem?_eq_getElem (by simp at hil; omega)]; rfl) h1 (by omega)
      simpa using this
    · cases hS
end
end Go.Am
