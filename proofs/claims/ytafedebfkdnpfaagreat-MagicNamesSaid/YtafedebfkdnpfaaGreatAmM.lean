/- The abstract machine, part M: a function's text against the program's. -/
import Derived.Test.YtafedebfkdnpfaaGreatAmL
namespace Go.Am
open Go Go.RowKit

section
variable {P : Program} {N : Nat}

def apartB (x y : XO) : Bool := (x.dst.all fun d => !y.looks.contains d && y.dst != some d) && (y.dst.all fun d => !x.looks.contains d)
theorem apartB_ok {x y : XO} (h : apartB x y = true) : apartX x y := by
  simp only [apartB, Bool.and_eq_true] at h
  obtain ⟨h1, h2⟩ := h
  refine ⟨fun d hd => ?_, fun d hd => ?_⟩
  · rw [hd] at h1
    simp only [Option.all_some, Bool.and_eq_true, Bool.not_eq_true', bne_iff_ne, ne_eq] at h1
    refine ⟨?_, h1.2⟩
    intro hc
    have := h1.1
    simp [hc] at this
  · rw [hd] at h2
    simp only [Option.all_some, Bool.not_eq_true'] at h2
    intro hc
    simp [hc] at h2

/-- two that write, in either order: the first such pair's second -/
def confl (xs : List XO) (j : Nat) : Bool := (List.range j).any fun k => match xs[k]?, xs[j]? with | some x, some y => !y.before.contains k && x.op.eff && y.op.eff | _, _ => false
def lateOf (ops : Array Oper) (xs : List XO) : Option Nat := (List.range ops.size).find? (confl xs)
def lateB (xs : List XO) (j0 : Nat) : Bool :=
  match xs[j0]? with
  | some z =>
    (match z with | ⟨some _, .ef (.new _ _ cells), none, _, _⟩ => AV.pls cells && cells.all AV.one | _ => false) &&
    xs.all fun y => !y.before.contains j0 || (List.range j0).all fun k => match xs[k]? with | some x => !x.op.eff || z.before.contains k || y.before.contains k | none => true
  | none => false
def drawB (ops : Array Oper) (xs : List XO) : Bool :=
  (match lateOf ops xs with | some j0 => lateB xs j0 | none => true) &&
  (List.range ops.size).all (fun i => match ops[i]? with | some o => o.after.toList.all (fun e => !Region.binds .any e || decide (e.on < i)) | none => true) &&
  (List.range ops.size).all (fun j => (List.range j).all fun k => match xs[k]?, xs[j]? with | some x, some y => y.before.contains k || (apartB x y && (lateOf ops xs == some j || !(x.op.eff && y.op.eff))) | _, _ => true) &&
  (List.range ops.size).all (fun j => match ops[j]?, xs[j]? with
    | some o, some y => y.before.all fun k => o.after.toList.any fun e => Region.binds .any e && (e.on == k || (match xs[e.on]? with | some z => z.before.contains k | none => false))
    | _, _ => true)

theorem drawB_ok {ops : Array Oper} {xs : List XO} (hl : xs.length = ops.size) (hop : ∀ (i : Nat) o x, ops[i]? = some o → xs[i]? = some x → OpOk P N ops o x) (h : drawB ops xs = true) : DrawOk P N ops xs (lateOf ops xs) := by
  simp only [drawB, Bool.and_eq_true, List.all_eq_true, List.mem_range] at h
  obtain ⟨⟨⟨h0, h1⟩, h2⟩, h3⟩ := h
  refine ⟨hl, hop, ?_, ?_, ?_, ?_, ?_⟩
  · intro i o ho e he hb
    have hlt := (Array.getElem?_eq_some_iff.1 ho).1
    have := h1 i hlt
    rw [ho] at this
    simp only at this
    rw [List.all_eq_true] at this
    have := this e (by simpa using he)
    simpa [hb] using this
  · intro k j x y hx hy hkj hb
    have hlt := (List.getElem?_eq_some_iff.1 hy).1
    have := h2 j (by omega) k hkj
    rw [hx, hy] at this
    simp only [hb, Bool.false_or, Bool.and_eq_true, Bool.not_eq_true'] at this
    refine ⟨apartB_ok this.1, ?_⟩
    rintro e0 ⟨e1, e2⟩
    have h4 : (lateOf ops xs == some j) = false := by simpa using e0
    simp [e1, e2, h4] at this
  · intro j o y ho hy k hb
    have hlt := (Array.getElem?_eq_some_iff.1 ho).1
    have := h3 j hlt
    rw [ho, hy] at this
    simp only at this
    rw [List.all_eq_true] at this
    have := this k (by simpa using hb)
    rw [List.any_eq_true] at this
    obtain ⟨e, he, h4⟩ := this
    simp only [Bool.and_eq_true, Bool.or_eq_true, beq_iff_eq] at h4
    refine ⟨e, by simpa using he, h4.1, ?_⟩
    rcases h4.2 with h5 | h5
    · exact .inl h5
    · cases hz : xs[e.on]? with
      | none => rw [hz] at h5; cases h5
      | some z =>
        rw [hz] at h5
        exact .inr ⟨z, rfl, h5⟩
  · intro j0 hj0
    rw [hj0] at h0
    simp only [lateB] at h0
    cases hz : xs[j0]? with
    | none => rw [hz] at h0; cases h0
    | some z =>
      rw [hz] at h0
      simp only [Bool.and_eq_true] at h0
      have h4 := h0.1
      split at h4
      · simp only [Bool.and_eq_true] at h4
        exact ⟨_, _, _, _, _, _, rfl, h4.1, h4.2⟩
      · cases h4
  · intro j0 hj0 m y z k x hy hz hb hk hx he hzb
    rw [hj0] at h0
    simp only [lateB, hz, Bool.and_eq_true] at h0
    have h4 := h0.2
    rw [List.all_eq_true] at h4
    have h5 := h4 y (List.mem_of_getElem? hy)
    simp only [hb, Bool.not_true, Bool.false_or, List.all_eq_true, List.mem_range] at h5
    have h6 := h5 k hk
    rw [hx] at h6
    simp only [he, hzb, Bool.not_true, Bool.false_or] at h6
    exact h6

variable (P N) (E : TypeId → Option (List CK))

def compGuard (ops : Array Oper) : Option (Nat × Bool) → Option (Option (Nat × Bool))
  | none => some none
  | some (j, w) => ((ops[j]?).bind (·.dst)).map fun s => some (s, w)

def compXO (ops : Array Oper) (bef : List Nat) (o : Oper) : Option XO :=
  (compGuard ops o.guard).bind fun g => wh (match o.dst with | some d => decide (d < N) | none => true) <| some { dst := o.dst, op := (compOp P E o).getD .bad, guard := g, before := bef }

def befs : List Oper → List (List Nat) → List (List Nat)
  | [], acc => acc
  | o :: r, acc =>
    let es := (o.after.toList.filter (Region.binds .any)).map (·.on)
    befs r (acc ++ [(es ++ es.flatMap fun k => acc.getD k []).eraseDups])

def compL (ops : Array Oper) : List Oper → List (List Nat) → Option (List XO)
  | [], _ => some []
  | o :: r, bs => (compXO P N E ops (bs.headD []) o).bind fun x => (compL ops r bs.tail).map (x :: ·)

def firstLabel : Code → Option Nat
  | .seq a b => match firstLabel a with | some l => some l | none => firstLabel b
  | .label l => some l
  | _ => none
def hasGoto : XCode → Bool
  | .goto _ => true
  | .seq a b => hasGoto a || hasGoto b
  | .cond _ a b => hasGoto a || hasGoto b
  | .block _ a => hasGoto a
  | .loop _ a => hasGoto a
  | .scope _ _ a _ => hasGoto a
  | .keep _ a => hasGoto a
  | .straight a => hasGoto a
  | _ => false
def findX : XCode → Nat → Option XCode
  | .seq a b, l =>
    match findX a l with
    | some rest => some (.seq rest b)
    | none => findX b l
  | .label l', l => if l' == l then some .skip else none
  | .keep _ a, l => findX a l
  | _, _ => none

def compCode : Code → Option XCode
  | .skip => some .skip
  | .seq a b => (compCode a).bind fun x => (compCode b).map fun y => .seq x y
  | .region _ ops false => (compL P N E ops ops.toList []).map .region
  | .region _ ops true => (compL P N E ops ops.toList (befs ops.toList [])).bind fun xs => wh (drawB ops xs) (some (.draw xs))
  | .cond c a b => (opA c).bind fun c => (compCode a).bind fun x => (compCode b).map fun y => .cond c x y
  | .block id a => (compCode a).map fun x => .block id x
  | .loop a => (compCode a).map fun x => .loop [] x
  | .exit id => some (.exit id)
  | .scope a => (compCode a).bind fun x => if hasGoto x then (firstLabel a).bind fun l => (findX x l).map fun y => .scope l [] x y else some (.straight x)
  | .label l => some (.label l)
  | .goto l => some (.goto l)
  | .ret => some .ret
  | .refuse _ => some (.region [⟨none, .bad, none, [], false⟩])
  | _ => none

variable {P N E}

theorem compXO_ok (hE : ∀ t ks, E t = some ks → EqOk P t ks) {ops : Array Oper} {bef : List Nat} {o : Oper} {x : XO} (h : compXO P N E ops bef o = some x) : OpOk P N ops o x := by
  simp only [compXO, Option.bind_eq_some_iff, wh_some] at h
  obtain ⟨g, h2, h3, h⟩ := h
  cases h
  refine ⟨rfl, ?_, ?_, ?_⟩
  · intro d hd
    simp only at hd
    rw [hd] at h3
    simpa using h3
  · cases hg : o.guard with
    | none =>
      rw [hg] at h2
      cases h2
      trivial
    | some p =>
      obtain ⟨j, w⟩ := p
      rw [hg] at h2
      simp only [compGuard, Option.map_eq_some_iff] at h2
      obtain ⟨s, h4, rfl⟩ := h2
      exact ⟨rfl, h4⟩
  · cases ho : compOp P E o with
    | none => exact .bad
    | some x => exact compOp_ok hE ho

theorem compL_ok (hE : ∀ t ks, E t = some ks → EqOk P t ks) {ops : Array Oper} : ∀ {os : List Oper} {bs : List (List Nat)} {xs : List XO}, compL P N E ops os bs = some xs →
    xs.length = os.length ∧ ∀ (i : Nat) o x, os[i]? = some o → xs[i]? = some x → OpOk P N ops o x
  | [], bs, xs, h => by
    cases h
    exact ⟨rfl, fun i o x h => by simp at h⟩
  | o :: os, bs, xs, h => by
    simp only [compL, Option.bind_eq_some_iff, Option.map_eq_some_iff] at h
    obtain ⟨x, h1, xs', h2, rfl⟩ := h
    obtain ⟨h3, h4⟩ := compL_ok hE h2
    refine ⟨by simp [h3], fun i o' x' e1 e2 => ?_⟩
    cases i with
    | zero =>
      simp only [List.getElem?_cons_zero, Option.some.injEq] at e1 e2
      subst e1 e2
      exact compXO_ok hE h1
    | succ i => exact h4 i o' x' (by simpa using e1) (by simpa using e2)

theorem findX_none {c : Code} {x : XCode} (hx : CodeOk P N c x) {l : Nat} : findX x l = none → findLabel c l = none := by
  induction hx with
  | seq h1 h2 ih1 ih2 =>
    intro h
    simp only [findX] at h
    split at h
    · cases h
    · rename_i e
      simp only [findLabel, ih1 e, ih2 h]
  | label =>
    intro h
    simp only [findX] at h
    simp only [findLabel]
    split at h
    · cases h
    · rename_i e
      simp [e]
  | keep h1 ih => intro h; exact ih h
  | _ => intro _; rfl

theorem findX_ok {c : Code} {x : XCode} (hx : CodeOk P N c x) {l : Nat} : ∀ {y : XCode}, findX x l = some y → ∃ r, findLabel c l = some r ∧ CodeOk P N r y := by
  induction hx with
  | seq h1 h2 ih1 ih2 =>
    intro y h
    simp only [findX] at h
    split at h
    · rename_i e
      cases h
      obtain ⟨r, e1, e2⟩ := ih1 e
      exact ⟨_, by simp only [findLabel, e1], .seq e2 h2⟩
    · rename_i e
      obtain ⟨r, e1, e2⟩ := ih2 h
      exact ⟨r, by simp only [findLabel, findX_none h1 e, e1], e2⟩
  | label =>
    intro y h
    simp only [findX] at h
    split at h
    · rename_i e
      cases h
      exact ⟨.skip, by simp [findLabel, e], .skip⟩
    · cases h
  | keep h1 ih => intro y h; exact ih h
  | _ => intro y h; cases h

theorem compCode_ok (hE : ∀ t ks, E t = some ks → EqOk P t ks) : ∀ {c : Code} {x : XCode}, compCode P N E c = some x → CodeOk P N c x := by
  intro c
  induction c with
  | skip => intro x h; cases h; exact .skip
  | region id ops draw =>
    intro x h
    cases draw with
    | false =>
      simp only [compCode, Option.map_eq_some_iff] at h
      obtain ⟨xs, h1, rfl⟩ := h
      obtain ⟨h2, h3⟩ := compL_ok hE h1
      exact .region (by simpa using h2) fun i o x e1 e2 => h3 i o x (by simpa using e1) e2
    | true =>
      simp only [compCode, Option.bind_eq_some_iff, wh_some] at h
      obtain ⟨xs, h1, h4, h⟩ := h
      cases h
      obtain ⟨h2, h3⟩ := compL_ok hE h1
      exact .draw (drawB_ok (by simpa using h2) (fun i o x e1 e2 => h3 i o x (by simpa using e1) e2) h4)
  | seq a b ih1 ih2 =>
    intro x h
    simp only [compCode, Option.bind_eq_some_iff, Option.map_eq_some_iff] at h
    obtain ⟨x, h1, y, h2, rfl⟩ := h
    exact .seq (ih1 h1) (ih2 h2)
  | cond c a b ih1 ih2 =>
    intro x h
    simp only [compCode, Option.bind_eq_some_iff, Option.map_eq_some_iff] at h
    obtain ⟨c, h0, x, h1, y, h2, rfl⟩ := h
    exact .cond h0 (ih1 h1) (ih2 h2)
  | block id a ih =>
    intro x h
    simp only [compCode, Option.map_eq_some_iff] at h
    obtain ⟨x, h1, rfl⟩ := h
    exact .block (ih h1)
  | loop a ih =>
    intro x h
    simp only [compCode, Option.map_eq_some_iff] at h
    obtain ⟨x, h1, rfl⟩ := h
    exact .loop (ih h1)
  | rangeFunc f ps a b _ _ => intro x h; cases h
  | exit id => intro x h; cases h; exact .exit
  | scope a ih =>
    intro x h
    simp only [compCode, Option.bind_eq_some_iff] at h
    obtain ⟨x, h1, h⟩ := h
    split at h
    · simp only [Option.bind_eq_some_iff, Option.map_eq_some_iff] at h
      obtain ⟨l, h2, y, h3, rfl⟩ := h
      obtain ⟨r, h4, h5⟩ := findX_ok (ih h1) h3
      exact .scope (ih h1) h4 h5
    · cases h
      exact .straight (ih h1)
  | label l => intro x h; cases h; exact .label
  | goto l => intro x h; cases h; exact .goto
  | ret => intro x h; cases h; exact .ret
  | refuse w => intro x h; cases h; exact .refuse

/-- without what a text forgets -/
def erase : XCode → XCode
  | .seq a b => .seq (erase a) (erase b)
  | .cond c a b => .cond c (erase a) (erase b)
  | .block id a => .block id (erase a)
  | .loop _ a => .loop [] (erase a)
  | .scope l _ a r => .scope l [] (erase a) (erase r)
  | .straight a => .straight (erase a)
  | .keep _ a => erase a
  | x => x

theorem CodeOk.of_erase : ∀ {x : XCode} {c : Code}, CodeOk P N c (erase x) → CodeOk P N c x := by
  intro x
  induction x with
  | seq a b ih1 ih2 =>
    intro c h
    simp only [erase] at h
    cases h with
    | seq h1 h2 => exact .seq (ih1 h1) (ih2 h2)
  | cond q a b ih1 ih2 =>
    intro c h
    simp only [erase] at h
    cases h with
    | cond h0 h1 h2 => exact .cond h0 (ih1 h1) (ih2 h2)
  | block id a ih =>
    intro c h
    simp only [erase] at h
    cases h with
    | block h1 => exact .block (ih h1)
  | loop ks a ih =>
    intro c h
    simp only [erase] at h
    cases h with
    | loop h1 => exact .loop (ih h1)
  | scope l ks a r ih1 ih2 =>
    intro c h
    simp only [erase] at h
    cases h with
    | scope h1 h2 h3 => exact .scope (ih1 h1) h2 (ih2 h3)
  | straight a ih =>
    intro c h
    simp only [erase] at h
    cases h with
    | straight h1 => exact .straight (ih h1)
  | keep ks a ih => intro c h; exact .keep (ih h)
  | _ => intro c h; exact h

variable (P) in
def compRes : List ResultVar → Option (List XRes)
  | [] => some []
  | .tmp t :: r => (compRes r).map (.tmp t :: ·)
  | .cell a t :: r => (aggSz P t).bind fun s => (compRes r).map (.cell s.1 s.2 a :: ·)

theorem compRes_ok : ∀ {rs : List ResultVar} {xs : List XRes}, compRes P rs = some xs → ResOks P rs xs
  | [], xs, h => by cases h; trivial
  | .tmp t :: r, xs, h => by
    simp only [compRes, Option.map_eq_some_iff] at h
    obtain ⟨xs', h1, rfl⟩ := h
    exact ⟨rfl, compRes_ok h1⟩
  | .cell a t :: r, xs, h => by
    simp only [compRes, Option.map_eq_some_iff, Option.bind_eq_some_iff] at h
    obtain ⟨s, h0, xs', h1, rfl⟩ := h
    obtain ⟨g1, g2, g3⟩ := aggSz_ok h0
    exact ⟨⟨rfl, g1, g2, g3⟩, compRes_ok h1⟩

variable (P E) in
def compFun (f : FuncId) : Option XFun :=
  (P.funcs[f]?).bind fun fn => fn.body.bind fun c => (compCode P fn.ntmps E c).bind fun x => (compRes P fn.results.toList).bind fun r =>
    wh (callable P f && decide (fn.params.size + fn.nfree ≤ fn.ntmps)) <| some { params := fn.params.size + fn.nfree, body := x, res := r }

def eraseF (x : XFun) : XFun := { x with body := erase x.body }

theorem compFun_ok (hm : P.follows .mixedOrders = true) (hE : ∀ t ks, E t = some ks → EqOk P t ks) {f : FuncId} {x : XFun} (h : compFun P E f = some (eraseF x)) : FunOk P f x := by
  simp only [compFun, Option.bind_eq_some_iff, wh_some, Bool.and_eq_true, decide_eq_true_eq] at h
  obtain ⟨fn, h1, c, h2, y, h3, r, h4, ⟨h5, h6⟩, h⟩ := h
  simp only [Option.some.injEq, eraseF] at h
  have e1 : y = erase x.body := by rw [← (XFun.mk.inj h).2.1]
  have e2 : r = x.res := (XFun.mk.inj h).2.2
  have e3 : fn.params.size + fn.nfree = x.params := (XFun.mk.inj h).1
  subst e1 e2
  exact ⟨⟨fn, c, h1, h2, CodeOk.of_erase (compCode_ok hE h3), compRes_ok h4, by omega⟩, h5, hm⟩
end
end Go.Am
