/- The abstract machine, part C: the operations that change nothing. -/
import Derived.Test.YtafedebfkdnpfaaGreatAmBa
import Derived.Laws.Tables
import Derived.Laws.Cells
import Derived.Laws.Append
import Derived.Laws.CopyRow
import Derived.Laws.Strings
namespace Go.Am
open Go Go.RowKit

/-- An operand: a temporary, or a value. -/
inductive XA where
  | t (n : Nat)
  | c (v : AV)
  deriving Inhabited

/-- what is known of the temporaries -/
def AFr := Nat → Option AV
def look (fr : AFr) (t : Nat) : Option AV := fr t
def AFr.none : AFr := fun _ => Option.none
def AFr.put (fr : AFr) (d : Nat) (v : AV) : AFr := fun t => if t = d then some v else fr t
theorem look_put (fr : AFr) (d : Nat) (v : AV) (t : Nat) : look (fr.put d v) t = if t = d then some v else look fr t := rfl
theorem look_none (t : Nat) : look AFr.none t = none := rfl
def ev (fr : AFr) : XA → Option AV
  | .t n => look fr n
  | .c v => some v
def evs (fr : AFr) : List XA → Option (List AV)
  | [] => some []
  | x :: r => (ev fr x).bind fun v => (evs fr r).map (v :: ·)

/-- A frame stands for a list of temporaries. -/
structure AR (N : Nat) (I : Inj) (fr : AFr) (a : Act) : Prop where
  defers : a.defers = []
  size : a.tmps.size = N
  val : ∀ t v, look fr t = some v → t < N ∧ VR I v (a.tmps.getD t undef)

theorem AR.mono {N : Nat} {I J : Inj} {fr : AFr} {a : Act} (h : AR N I fr a) (hI : I.le J) : AR N J fr a :=
  ⟨h.defers, h.size, fun t v ht => ⟨(h.val t v ht).1, (h.val t v ht).2.mono hI⟩⟩

theorem AR.put {N : Nat} {I : Inj} {fr : AFr} {a : Act} (h : AR N I fr a) {d : Nat} (hd : d < N) {v : AV} {v' : Value} (hv : VR I v v') :
    AR N I (fr.put d v) (a.put (some d) v') := by
  refine ⟨h.defers, by simp [Act.put, h.size], fun t u ht => ?_⟩
  rw [look_put] at ht
  split at ht
  · rename_i hdt
    subst hdt; cases ht
    refine ⟨hd, ?_⟩
    have : t < a.tmps.size := by rw [h.size]; exact hd
    simpa [Act.put, Array.getD_eq_getD_getElem?, this] using hv
  · rename_i hne
    obtain ⟨h1, h2⟩ := h.val t u ht
    refine ⟨h1, ?_⟩
    simpa [Act.put, Array.getD_eq_getD_getElem?, Array.getElem?_setIfInBounds_ne (Ne.symm hne)] using h2

/-- constants -/
def cvd : Nat → Value → Option AV
  | _, .bool b => some (.bool b)
  | _, .int k n => some (.int k n)
  | _, .string s => some (.str s.data.toList)
  | _, .pointer none => some .nilptr
  | _, .slice none 0 0 => some .nilslice
  | _, .map none => some .nilmap
  | _, .nilFunc => some .nilfunc
  | _, .nilIface => some .nilif
  | n + 1, .agg cs => (cs.toList.mapM (cvd n)).map .agg
  | _, _ => none

theorem mapM_VRs {I : Inj} {n : Nat} (ih : ∀ {v : Value} {a : AV}, cvd n v = some a → VR I a v) : ∀ {l : List Value} {r : List AV}, l.mapM (cvd n) = some r → VRs I r l
  | [], r, h => by simp at h; subst h; exact VRs.nil
  | v :: l, r, h => by
    simp only [List.mapM_cons, Option.bind_eq_bind, Option.pure_def, Option.bind_eq_some_iff, Option.some.injEq] at h
    obtain ⟨a, ha, r', hr, rfl⟩ := h
    exact VRs.cons (ih ha) (mapM_VRs ih hr)

theorem cvd_ok {I : Inj} : ∀ (n : Nat) {v : Value} {a : AV}, cvd n v = some a → VR I a v
  | n, v, a, h => by
    unfold cvd at h
    split at h
    all_goals first
      | (simp only [Option.some.injEq] at h; subst h; simp [VR]; done)
      | (cases h; done)
      | skip
    rename_i m cs
    simp only [Option.map_eq_some_iff] at h
    obtain ⟨r, hr, rfl⟩ := h
    simp only [VR]
    exact ⟨cs, rfl, mapM_VRs (cvd_ok m) hr⟩

def opA : Operand → Option XA
  | .tmp t => some (.t t)
  | .const v => (cvd 4 v).map .c
  | .func f => some (.c (.func f []))
  | .global _ => none

theorem ev_ok {N : Nat} {I : Inj} {fr : AFr} {a : Act} (h : AR N I fr a) {o : Operand} {x : XA} (ho : opA o = some x) {v : AV} (hv : ev fr x = some v) : VR I v (a.eval o) := by
  cases o with
  | tmp t =>
    simp only [opA, Option.some.injEq] at ho
    subst ho
    exact (h.val t v hv).2
  | const u =>
    simp only [opA, Option.map_eq_some_iff] at ho
    obtain ⟨c, hc, rfl⟩ := ho
    simp only [ev, Option.some.injEq] at hv
    subst hv
    exact cvd_ok 4 hc
  | func f =>
    simp only [opA, Option.some.injEq] at ho
    subst ho
    simp only [ev, Option.some.injEq] at hv
    subst hv
    simp [VR, VRs, Act.eval]
  | global g => simp [opA] at ho

theorem evs_ok {N : Nat} {I : Inj} {fr : AFr} {a : Act} (h : AR N I fr a) : ∀ {os : List Operand} {xs : List XA}, os.mapM opA = some xs → ∀ {vs : List AV}, evs fr xs = some vs → VRs I vs (os.map a.eval)
  | [], xs, ho, vs, hv => by
    simp at ho; subst ho
    simp [evs] at hv; subst hv
    exact VRs.nil
  | o :: os, xs, ho, vs, hv => by
    simp only [List.mapM_cons, Option.bind_eq_bind, Option.pure_def, Option.bind_eq_some_iff, Option.some.injEq] at ho
    obtain ⟨x, hx, xs', hxs, rfl⟩ := ho
    simp only [evs, Option.bind_eq_some_iff, Option.map_eq_some_iff] at hv
    obtain ⟨v, hv1, vs', hv2, rfl⟩ := hv
    exact VRs.cons (ev_ok h hx hv1) (evs_ok h hxs hv2)

/-! ### cells -/

theorem seg {I : Inj} (f : Nat → Option Value) : ∀ (l : List AV) (o : Nat), (∀ (k : Nat) c, l[k]? = some c → ∃ v, f (o + k) = some v ∧ VR I c v ∧ v.oneCell' = true) →
    ∃ vs, VRs I l vs ∧ (∀ (k : Nat) v, vs[k]? = some v → f (o + k) = some v) ∧ ∀ v ∈ vs, v.oneCell' = true
  | [], o, _ => ⟨[], VRs.nil, fun k v h => by simp at h, fun v h => by cases h⟩
  | c :: l, o, h => by
    obtain ⟨v, h1, h2, h5⟩ := h 0 c rfl
    obtain ⟨vs, h3, h4, h6⟩ := seg f l (o + 1) (fun k c hk => by
      obtain ⟨v, g1, g2, g3⟩ := h (k + 1) c (by simpa using hk)
      exact ⟨v, by rw [← g1]; congr 1; omega, g2, g3⟩)
    refine ⟨v :: vs, VRs.cons h2 h3, fun k u hk => ?_, fun u hu => ?_⟩
    · cases k with
      | zero => simp at hk; subst hk; exact h1
      | succ k => rw [show o + (k + 1) = o + 1 + k by omega]; exact h4 k u (by simpa using hk)
    · rcases List.mem_cons.1 hu with rfl | hu
      · exact h5
      · exact h6 u hu

theorem flat_get {sz : Nat} : ∀ {es : List (List AV)}, (∀ e ∈ es, e.length = sz) → ∀ {k : Nat} {c : AV}, es.flatten[k]? = some c → ∃ i j e, k = i * sz + j ∧ es[i]? = some e ∧ e[j]? = some c
  | [], _, k, c, h => by simp at h
  | e :: es, hl, k, c, h => by
    have he : e.length = sz := hl e (by simp)
    simp only [List.flatten_cons] at h
    by_cases hk : k < sz
    · rw [List.getElem?_append_left (by omega)] at h
      exact ⟨0, k, e, by omega, rfl, h⟩
    · rw [List.getElem?_append_right (by omega), he] at h
      obtain ⟨i, j, e', h1, h2, h3⟩ := flat_get (fun x hx => hl x (by simp [hx])) h
      refine ⟨i + 1, j, e', ?_, by simpa using h2, h3⟩
      rw [Nat.succ_mul]; omega

theorem flat_length {sz : Nat} : ∀ {es : List (List AV)}, (∀ e ∈ es, e.length = sz) → es.flatten.length = es.length * sz
  | [], _ => by simp
  | e :: es, hl => by
    have ih := flat_length (es := es) (fun x hx => hl x (List.mem_cons_of_mem _ hx))
    have he := hl e List.mem_cons_self
    simp only [List.flatten_cons, List.length_append, List.length_cons, ih, he, Nat.succ_mul]
    omega

/-- elements' cells, off the memory -/
theorem Cells.seg {I : Inj} {cs : Array Value} {O sz : Nat} {es : List (List AV)} (h : Cells I cs O sz es) (hl : ∀ e ∈ es, e.length = sz) (i n : Nat) :
    ∃ vs, VRs I ((es.drop i).take n).flatten vs ∧ (∀ (k : Nat) v, vs[k]? = some v → cs[O + i * sz + k]? = some v) ∧ ∀ v ∈ vs, v.oneCell' = true := by
  refine Am.seg (fun k => cs[k]?) _ (O + i * sz) fun k c hk => ?_
  have hl' : ∀ e ∈ (es.drop i).take n, e.length = sz := fun e he => hl e (List.mem_of_mem_drop (List.mem_of_mem_take he))
  obtain ⟨i', j, e, rfl, he, hj⟩ := flat_get hl' hk
  have he' : es[i + i']? = some e := by
    rw [List.getElem?_take] at he
    split at he
    · simpa using he
    · cases he
  obtain ⟨v, h1, h2, h3⟩ := h (i + i') e he' j c hj
  refine ⟨v, ?_, h2, h3⟩
  show cs[O + i * sz + (i' * sz + j)]? = some v
  rw [← h1]; congr 1
  rw [Nat.add_mul]; omega

theorem cell_of {w : World} {b o : Nat} {cs : Array Value} {T fr} (h : w.heap[b]? = some (.cells cs T fr)) : w.cell? ⟨b, o, none⟩ = cs[o]? := by
  simp [World.cell?, h]

theorem addr_add (b o n : Nat) : (⟨b, o, none⟩ : Addr).add n = ⟨b, o + n, none⟩ := by unfold Addr.add; split <;> simp_all

/-- some cells of a block -/
def AHeap.cells (H : AHeap) (b i j n : Nat) : Option (List AV) :=
  match H.get b with
  | .row _ _ es _ => match es[i]? with
    | some e => if j + n ≤ e.length then some ((e.drop j).take n) else none
    | none => none
  | _ => none

theorem Sim.cells {I : Inj} {H : AHeap} {w : World} (hs : Sim I H w) {b i j n : Nat} {l : List AV} (h : H.cells b i j n = some l) :
    l.length = n ∧ b < I.n ∧ ∃ vs, VRs I l vs ∧ ∀ (k : Nat) v, vs[k]? = some v → w.cell? ((⟨I.B b, I.O b + i * I.esz b + j, none⟩ : Addr).add k) = some v := by
  unfold AHeap.cells at h
  split at h
  · rename_i T sz es o hb
    split at h
    · rename_i e he
      split at h
      · rename_i hle
        cases h
        refine ⟨by simp; omega, by rw [hs.size]; exact hs.lt_of_row hb, ?_⟩
        obtain ⟨r1, r2, cs, T', fr, r3, r4, _⟩ := hs.row b _ _ _ _ hb
        obtain ⟨vs, h1, h2, _⟩ := Am.seg (I := I) (fun k => cs[k]?) ((e.drop j).take n) (I.O b + i * sz + j) (fun k c hk => by
          have : e[j + k]? = some c := by
            rw [List.getElem?_take] at hk
            split at hk
            · simpa using hk
            · cases hk
          obtain ⟨v, g1, g2⟩ := r4 i e he (j + k) c this
          exact ⟨v, by show cs[I.O b + i * sz + j + k]? = _; rw [← g1]; congr 1; omega, g2⟩)
        refine ⟨vs, h1, fun k v hk => ?_⟩
        rw [addr_add, cell_of r3, r1]
        exact h2 k v hk
      · cases h
    · cases h
  · cases h

theorem VRss.flat {I : Inj} {sz : Nat} : ∀ {es : List (List AV)} {vs : List Value}, VRss I sz es vs → VRs I es.flatten vs ∧ (∀ e ∈ es, e.length = sz)
  | [], vs, h => by
    simp only [VRss] at h
    subst h
    exact ⟨VRs.nil, by simp⟩
  | e :: es, vs, h => by
    simp only [VRss] at h
    obtain ⟨u, r, rfl, h0, h1, h2⟩ := h
    obtain ⟨g1, g2⟩ := VRss.flat h2
    refine ⟨?_, fun x hx => ?_⟩
    · rw [List.flatten_cons]; exact h1.append g1
    · rcases List.mem_cons.1 hx with rfl | hx
      · exact h0
      · exact g2 x hx

theorem VRss.of_flat {I : Inj} {sz : Nat} : ∀ {es : List (List AV)} {vs : List Value}, VRs I es.flatten vs → (∀ e ∈ es, e.length = sz) → VRss I sz es vs
  | [], vs, h, _ => by
    simp only [List.flatten_nil, VRs] at h
    simpa only [VRss] using h
  | e :: es, vs, h, hl => by
    simp only [List.flatten_cons] at h
    have hlen := h.length
    have he := hl e List.mem_cons_self
    simp only [List.length_append] at hlen
    have hsplit : ∀ {l m : List AV} {vs : List Value}, VRs I (l ++ m) vs → ∃ a b, vs = a ++ b ∧ VRs I l a ∧ VRs I m b := by
      intro l
      induction l with
      | nil => intro m vs h; exact ⟨[], vs, rfl, VRs.nil, h⟩
      | cons x l ih =>
        intro m vs h
        simp only [List.cons_append, VRs] at h
        obtain ⟨v, r, rfl, h1, h2⟩ := h
        obtain ⟨a, b, rfl, h3, h4⟩ := ih h2
        exact ⟨v :: a, b, rfl, VRs.cons h1 h3, h4⟩
    obtain ⟨a, b, rfl, h1, h2⟩ := hsplit h
    simp only [VRss]
    exact ⟨a, b, rfl, he, h1, VRss.of_flat h2 fun x hx => hl x (List.mem_cons_of_mem _ hx)⟩

/-- what is frozen is read -/
theorem Sim.seg_cell {I : Inj} {H : AHeap} {w : World} (hs : Sim I H w) {B O : Nat} {vs : List Value} (h : FzSeg I B O vs) (k : Nat) (v : Value) (hk : vs[k]? = some v) : w.cell? ((⟨B, O, none⟩ : Addr).add k) = some v := by
  rcases h with rfl | ⟨cs, h1, h2⟩
  · simp at hk
  obtain ⟨cs', T, fr, h3, h4⟩ := hs.fz.held B cs h1
  rw [addr_add, cell_of h3]
  exact h4 _ _ (h2 k v hk)

/-- a part of what is frozen -/
theorem FzSeg.drop {I : Inj} {B O : Nat} {vs : List Value} (h : FzSeg I B O vs) (n : Nat) : FzSeg I B (O + n) (vs.drop n) := by
  rcases h with rfl | ⟨cs, h1, h2⟩
  · exact .inl (by simp)
  refine .inr ⟨cs, h1, fun k v hk => ?_⟩
  rw [List.getElem?_drop] at hk
  rw [← h2 _ v hk]; congr 1; omega
theorem FzSeg.take {I : Inj} {B O : Nat} {vs : List Value} (h : FzSeg I B O vs) (n : Nat) : FzSeg I B O (vs.take n) := by
  rcases h with rfl | ⟨cs, h1, h2⟩
  · exact .inl (by simp)
  refine .inr ⟨cs, h1, fun k v hk => ?_⟩
  rw [List.getElem?_take] at hk
  split at hk
  · exact h2 k v hk
  · cases hk
theorem VRs.drop {I : Inj} : ∀ {l : List AV} {vs : List Value}, VRs I l vs → ∀ n, VRs I (l.drop n) (vs.drop n)
  | l, vs, h, 0 => h
  | [], vs, h, n + 1 => by simp only [VRs] at h; subst h; exact VRs.nil
  | _ :: l, vs, h, n + 1 => by
    simp only [VRs] at h
    obtain ⟨v, r, rfl, _, h2⟩ := h
    exact VRs.drop h2 n
theorem VRs.take {I : Inj} : ∀ {l : List AV} {vs : List Value}, VRs I l vs → ∀ n, VRs I (l.take n) (vs.take n)
  | l, vs, h, 0 => VRs.nil
  | [], vs, h, n + 1 => by simp only [VRs] at h; subst h; exact VRs.nil
  | _ :: l, vs, h, n + 1 => by
    simp only [VRs] at h
    obtain ⟨v, r, rfl, h1, h2⟩ := h
    exact VRs.cons h1 (VRs.take h2 n)

theorem drop_flat {α : Type} {sz : Nat} : ∀ {es : List (List α)}, (∀ e ∈ es, e.length = sz) → ∀ n, es.flatten.drop (n * sz) = (es.drop n).flatten
  | es, _, 0 => by simp
  | [], _, n + 1 => by simp
  | e :: es, h, n + 1 => by
    have he := h e List.mem_cons_self
    rw [List.flatten_cons, Nat.succ_mul, List.drop_succ_cons, ← drop_flat (fun x hx => h x (List.mem_cons_of_mem _ hx)) n, Nat.add_comm (n * sz) sz, ← List.drop_drop]
    congr 1
    rw [← he]; simp
theorem take_flat {α : Type} {sz : Nat} : ∀ {es : List (List α)}, (∀ e ∈ es, e.length = sz) → ∀ n, es.flatten.take (n * sz) = (es.take n).flatten
  | es, _, 0 => by simp
  | [], _, n + 1 => by simp
  | e :: es, h, n + 1 => by
    have he := h e List.mem_cons_self
    rw [List.flatten_cons, Nat.succ_mul, List.take_succ_cons, List.flatten_cons, ← take_flat (fun x hx => h x (List.mem_cons_of_mem _ hx)) n, Nat.add_comm (n * sz) sz]
    rw [← he, List.take_append, List.take_of_length_le (by omega)]
    simp

/-- one element of what is frozen -/
theorem VRss.get {I : Inj} {sz : Nat} {es : List (List AV)} {vs : List Value} (h : VRss I sz es vs) {i : Nat} {e : List AV} (he : es[i]? = some e) : VRs I e ((vs.drop (i * sz)).take sz) := by
  obtain ⟨h1, h2⟩ := h.flat
  have := (h1.drop (i * sz)).take sz
  rw [drop_flat h2] at this
  have h3 := take_flat (fun x hx => h2 x (List.mem_of_mem_drop hx)) 1 (es := es.drop i)
  rw [Nat.one_mul] at h3
  rw [h3] at this
  have hi := (List.getElem?_eq_some_iff.1 he)
  obtain ⟨hlt, hget⟩ := hi
  rw [List.drop_eq_getElem_cons hlt] at this
  simpa [hget] using this

/-- the elements of a slice -/
def AHeap.elems (H : AHeap) (sz : Nat) : AV → Option (List (List AV))
  | .nilslice => some []
  | .slice z b i l _ => if l = 0 then some [] else if z ≠ sz then none else match H.get b with
    | .row _ _ es _ => if i + l ≤ es.length then some ((es.drop i).take l) else none
    | _ => none
  | .fs z es => if es = [] then some [] else if z ≠ sz then none else some es
  | _ => none

theorem Sim.elems {I : Inj} {H : AHeap} {w : World} (hs : Sim I H w) {sz : Nat} {s : AV} {new : List (List AV)} (h : H.elems sz s = some new) {v : Value} (hv : VR I s v) :
    (∀ e ∈ new, e.length = sz) ∧ ∃ A C vs, v = .slice A new.length C ∧ VRs I new.flatten vs ∧ vs.length = new.length * sz ∧ (∀ u ∈ vs, u.oneCell' = true) ∧
      (new.length = 0 ∨ ∃ a, A = some a ∧ ∀ (k : Nat) u, vs[k]? = some u → w.cell? (a.add k) = some u) := by
  unfold AHeap.elems at h
  split at h
  · cases h
    simp only [VR] at hv
    exact ⟨by simp, none, 0, [], hv, by simp [VRs], by simp, by simp, .inl rfl⟩
  · rename_i z b i l c
    simp only [VR] at hv
    obtain ⟨hb, hz, A, C, e1, hl, hC, hA, _⟩ := hv
    split at h
    · rename_i h0
      cases h
      subst h0
      exact ⟨by simp, some A, C, [], e1, by simp [VRs], by simp, by simp, .inl rfl⟩
    · rename_i h0
      split at h
      · cases h
      · rename_i hzz
        have hzz : z = sz := by simpa using hzz
        split at h
        · rename_i T sz' es o hg
          split at h
          · rename_i hle
            cases h
            obtain ⟨r1, r2, cs, T', fr, r3, r4, _⟩ := hs.row b _ _ _ _ hg
            have hsz : sz' = sz := by rw [← r1, ← hz, hzz]
            subst hsz
            obtain ⟨vs, g1, g2, g3⟩ := r4.seg r2 i l
            have hlen : ((es.drop i).take l).length = l := by simp; omega
            have hel : ∀ e ∈ (es.drop i).take l, e.length = sz' := fun e he => r2 e (List.mem_of_mem_drop (List.mem_of_mem_take he))
            refine ⟨hel, some A, C, vs, by rw [hlen]; exact e1, g1, by rw [g1.length, flat_length hel], g3, .inr ⟨A, rfl, fun k u hk => ?_⟩⟩
            have hA' : A = ⟨I.B b, I.O b + i * I.esz b, none⟩ := by
              rcases hA with hA | hA
              · omega
              · exact hA
            rw [hA', addr_add, cell_of r3, r1]
            exact g2 k u hk
          · cases h
        · cases h
  · rename_i z es
    simp only [VR] at hv
    obtain ⟨vs, h1, h2, h3⟩ := hv
    obtain ⟨f1, f2⟩ := h1.flat
    split at h
    · rename_i h0
      cases h
      subst h0
      simp only [VRss] at h1
      subst h1
      refine ⟨by simp, ?_⟩
      rcases h3 with ⟨_, rfl⟩ | ⟨A, C, rfl, _⟩
      · exact ⟨none, 0, [], rfl, by simp [VRs], by simp, by simp, .inl rfl⟩
      · exact ⟨some A, C, [], rfl, by simp [VRs], by simp, by simp, .inl rfl⟩
    · rename_i h0
      split at h
      · cases h
      · rename_i hz
        have hz : z = sz := by simpa using hz
        subst hz
        cases h
        refine ⟨f2, ?_⟩
        rcases h3 with ⟨h3, _⟩ | ⟨A, C, rfl, hC, h3 | ⟨B, O, rfl, h4⟩⟩
        · exact absurd h3 h0
        · exact absurd h3 h0
        · exact ⟨_, C, vs, rfl, f1, by rw [f1.length, flat_length f2], h2, .inr ⟨_, rfl, fun k u hk => hs.seg_cell h4 k u hk⟩⟩
  · cases h

theorem run_firstCells {P : Program} {w : World} {sz n : Nat} {A : Option Addr} {C : Nat} {vs : List Value} (hl : vs.length = n * sz) (h : n = 0 ∨ ∃ a, A = some a ∧ ∀ (k : Nat) u, vs[k]? = some u → w.cell? (a.add k) = some u) :
    (Builtin.firstCells sz n (.slice A n C)).run P w = .ok vs.toArray w := by
  rcases h with rfl | ⟨a, rfl, h⟩
  · have : vs = [] := List.eq_nil_of_length_eq_zero (by simpa using hl)
    subst this
    cases A <;> simp [Builtin.firstCells, loadCells, loadCellsFrom]
  · exact run_firstCells_some w sz n a n C vs hl h
end Go.Am
