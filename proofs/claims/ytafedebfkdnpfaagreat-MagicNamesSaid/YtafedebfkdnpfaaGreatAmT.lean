/- The abstract machine, part T: a row of the form 'it tells true, and leaves what was handed to it as it was'. -/
import Derived.Test.YtafedebfkdnpfaaGreatAmS
import Derived.Carry
namespace Go.Am
open Go Go.RowKit Go.ChangeShapes Go.WideShapes

def ArgFit (P : Program) (m : Nat) (t : TypeId) (a : AV) : Prop :=
  ∃ S, shape P m t = some S ∧ match P.underlying t with
    | some (.struct _) => ∃ l, a = .agg l ∧ FitL S l
    | _ => FitL S [a]
def ArgFits (P : Program) (m : Nat) : List TypeId → List AV → Prop
  | [], as => as = []
  | t :: ts, as => ∃ a r, as = a :: r ∧ ArgFit P m t a ∧ ArgFits P m ts r

section
variable {X : Type} {enc : TypeId × Value → X} {P : Program} {w : World}

theorem got_arg {m : Nat} {t : TypeId} {v : Value} {d : DataW X} {ps : List MemPlace} {b0 : Nat} (hval : Value.okWide P w .any b0 t v) (h : DataW.Trod enc P w 0 (fun _ => true) true t v d ps) (hz : Light P t d) {S : List CS} (hS : shape P m t = some S) :
    ∃ a, VR (Inj.all w) a v ∧ ArgFit P m t a := by
  obtain ⟨n, hn⟩ := h
  obtain ⟨as, h4, h5⟩ := got hn hz hS
  have one : (∀ fs, P.underlying t ≠ some (.struct fs)) → (∀ cs, v ≠ .agg cs) → ∃ a, VR (Inj.all w) a v ∧ ArgFit P m t a := by
    intro hne hna
    have hc : v.cells.toList = [v] := by cases v <;> simp_all [Value.cells]
    rw [hc] at h4
    cases as with
    | nil => simp [VRs] at h4
    | cons a as =>
      simp only [VRs, List.cons.injEq] at h4
      obtain ⟨u, r, ⟨rfl, rfl⟩, h6, h7⟩ := h4
      cases as with
      | cons _ _ => simp [VRs] at h7
      | nil =>
        refine ⟨a, h6, S, hS, ?_⟩
        split
        · rename_i fs hfs; exact absurd hfs (hne fs)
        · exact h5
  cases m with
  | zero => cases hS
  | succ m =>
    have hS' := hS
    unfold shape at hS'
    split at hS'
    · rename_i k hu
      refine one (fun fs e => by rw [hu] at e; cases e) (fun cs e => ?_)
      subst e; simp [Value.okWide, hu, Cell.okWide, Cell.ok] at hval
    · rename_i hu
      refine one (fun fs e => by rw [hu] at e; cases e) (fun cs e => ?_)
      subst e; simp [Value.okWide, hu, Cell.okWide, Cell.ok] at hval
    · rename_i hu
      refine one (fun fs e => by rw [hu] at e; cases e) (fun cs e => ?_)
      subst e; simp [Value.okWide, hu, Cell.okWide, Cell.ok] at hval
    · rename_i e hu
      refine one (fun fs e => by rw [hu] at e; cases e) (fun cs e => ?_)
      subst e; simp [Value.okWide, hu, Cell.okWide, Cell.ok] at hval
    · rename_i fs hu
      simp only [Value.okWide, hu] at hval
      obtain ⟨cs, rfl, _⟩ := hval
      refine ⟨.agg as, ?_, S, hS, ?_⟩
      · simp only [VR]
        exact ⟨cs, rfl, h4⟩
      · rw [hu]
        exact ⟨as, rfl, h5⟩
    · cases hS'

theorem got_args {m : Nat} : ∀ {ts : List TypeId} {vs : List Value} {ds : List (DataW X)} {ps : List MemPlace} {b0 : Nat}, (∀ (j : Nat) t v, ts[j]? = some t → vs[j]? = some v → Value.okWide P w .any b0 t v) →
    DataW.TrodAll enc P w 0 (fun _ => true) true ts vs ds ps → (∀ (j : Nat) t d, ts[j]? = some t → ds[j]? = some d → Light P t d) → (∀ t ∈ ts, (shape P m t).isSome = true) → ∃ as, VRs (Inj.all w) as vs ∧ ArgFits P m ts as
  | [], vs, ds, ps, b0, _, h, _, _ => by
    obtain ⟨rfl, _, _⟩ := trodAll_nil h
    exact ⟨[], VRs.nil, rfl⟩
  | t :: ts, vs, ds, ps, b0, hval, h, hz, hsh => by
    obtain ⟨v0, vs0, d0, ds0, p0, q0, rfl, rfl, rfl, h0, r0⟩ := trodAll_cons h
    obtain ⟨S, hS⟩ := Option.isSome_iff_exists.1 (hsh t List.mem_cons_self)
    obtain ⟨a, g4, g5⟩ := got_arg (hval 0 t v0 rfl rfl) h0 (hz 0 t d0 rfl rfl) hS
    obtain ⟨as, k4, k5⟩ := got_args (fun j t v h1 h2 => hval (j + 1) t v (by simpa using h1) (by simpa using h2)) r0 (fun j t d h1 h2 => hz (j + 1) t d (by simpa using h1) (by simpa using h2)) (fun t ht => hsh t (List.mem_cons_of_mem _ ht))
    exact ⟨a :: as, VRs.cons g4 k4, a, as, rfl, g5, k5⟩

theorem trodAll_below (hl : laidOutB P = true) {w' : World} (hb : Below w.heap.size w w') : ∀ {ts : List TypeId} {vs : List Value} {ds : List (DataW X)} {ps : List MemPlace}, (∀ t ∈ ts, P.readableRec t = true ∧ t < P.types.size) →
    DataW.TrodAll enc P w 0 (fun _ => true) true ts vs ds ps → DataW.TrodAll enc P w' 0 (fun b => decide (b < w.heap.size)) true ts vs ds ps
  | [], vs, ds, ps, _, h => by
    obtain ⟨rfl, rfl, rfl⟩ := trodAll_nil h
    exact trodAll_mk0
  | t :: ts, vs, ds, ps, hr, h => by
    have hlt := h.lt
    obtain ⟨v0, vs0, d0, ds0, p0, q0, rfl, rfl, rfl, h0, r0⟩ := trodAll_cons h
    obtain ⟨g1, g2⟩ := hr t List.mem_cons_self
    exact trodAll_cons_mk (Below.trod hl g1 g2 h0 hb fun x hx => hlt x (List.mem_append_left _ hx)) (trodAll_below hl hb (fun t ht => hr t (List.mem_cons_of_mem _ ht)) r0)

/-- What the row asks. -/
theorem post_true (hl : laidOutB P = true) {fn : Func} {s : ChangeSpec} {w' : World} {args : Array Value} {ds gs : List (DataW X)} {before : List MemPlace} {tb : TypeId}
    (hr : ∀ t ∈ fn.params.toList, P.readableRec t = true ∧ t < P.types.size) (hres : fn.resultTypes = #[tb]) (htb : P.underlying tb = some .bool) (hvars : s.vars = []) (hs : ∀ ds : List (DataW X), ds.length = fn.params.size → s.fn X ds = { results := [.lit (.bool true)], args := ds })
    (hW : DataW.Whole enc P fn.params.toList s.vars false w args.toList ds gs before) (hb : Below w.heap.size w w') : s.post enc P fn false true false false w args (.bool true) w' := by
  have hW' := hW
  obtain ⟨p, q, hA, hV, rfl, _, _⟩ := hW
  rw [hvars] at hV
  obtain ⟨rfl, rfl⟩ := trodVars_none hV
  have hlen : ∀ {ts : List TypeId} {vs : List Value} {ds : List (DataW X)} {ps : List MemPlace}, DataW.TrodAll enc P w 0 (fun _ => true) true ts vs ds ps → ds.length = ts.length := by
    intro ts
    induction ts with
    | nil => intro vs ds ps h; obtain ⟨_, rfl, _⟩ := trodAll_nil h; rfl
    | cons t ts ih =>
      intro vs ds ps h
      obtain ⟨v0, vs0, d0, ds0, p0, q0, rfl, rfl, rfl, h0, r0⟩ := trodAll_cons h
      simp [ih r0]
  have hfn : s.fn X (ds ++ []) = { results := [.lit (.bool true)], args := ds } := by rw [List.append_nil]; exact hs _ (by simpa using hlen hA)
  refine ⟨ds, [], p ++ [], [], p, [], hW', ?_, ?_, ?_, ?_, ?_⟩
  · rw [hfn, hres]
    exact trodAll_cons_mk (shut_bool htb _) trodAll_mk0
  · rw [hfn]
    exact trodAll_below hl hb hr hA
  · rw [hfn, hvars]
    rfl
  · exact hb.frame _
  · intro h; cases h

/-- THE ROW's STEP, from the abstract machine. -/
theorem calls_true (m : Nat) (hl : laidOutB P = true) {f : FuncId} {fn : Func} {s : ChangeSpec} {W : World} {args : Array Value} {ds gs : List (DataW X)} {before : List MemPlace} {tb : TypeId} {b0 : Nat}
    (hr : ∀ t ∈ fn.params.toList, P.readableRec t = true ∧ t < P.types.size) (hsh : ∀ t ∈ fn.params.toList, (shape P m t).isSome = true) (hres : fn.resultTypes = #[tb]) (htb : P.underlying tb = some .bool) (hvars : s.vars = [])
    (hs : ∀ ds : List (DataW X), ds.length = fn.params.size → s.fn X ds = { results := [.lit (.bool true)], args := ds })
    (hval : ∀ (j : Nat) t v, fn.params[j]? = some t → args[j]? = some v → Value.okWide P W .any b0 t v)
    (hW : DataW.Whole enc P fn.params.toList s.vars false W args.toList ds gs before)
    (hz : (DataW.weightsEach P (fn.params.toList ++ s.plain.varTypes P) (ds ++ gs)).all (· ≤ reachBytes) = true)
    (hx : ∀ (as : List AV), ArgFits P m fn.params.toList as → ACalls P f as (fun v _ => v = .bool true) AHeap.empty) :
    Calls P f args W fun e W' => ∃ v, e = .returned v ∧ s.post enc P fn false true false false W args v W' := by
  have hA := hW
  obtain ⟨p, q, hA, _⟩ := hA
  obtain ⟨as, h4, h5⟩ := got_args (m := m) (fun j t v e1 e2 => hval j t v (by simpa using e1) (by simpa using e2)) hA (fun j t d e1 e2 n hn => by
    have := List.all_eq_true.1 hz n (DataW.weights_mem_each (j := j) (t := t) (d := d) (by rw [List.getElem?_append_left (List.getElem?_eq_some_iff.1 e1).1]; exact e1) (by rw [List.getElem?_append_left (List.getElem?_eq_some_iff.1 e2).1]; exact e2) n hn)
    simpa using this) hsh
  refine ((hx as h5).2 (Inj.all W) W args (Sim.all W) h4).mono fun e W' ⟨v, v', H', I', e1, e2, e3, e4, e5⟩ => ?_
  subst e1 e2
  simp only [VR] at e5
  subst e5
  refine ⟨_, rfl, post_true hl hr hres htb hvars hs hW ?_⟩
  have := e4.below
  rw [e3.base, e3.w0] at this
  exact this.toBelow
end
end Go.Am
