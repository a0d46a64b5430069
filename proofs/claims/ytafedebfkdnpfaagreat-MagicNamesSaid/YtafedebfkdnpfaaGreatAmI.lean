/- The abstract machine, part I: one operation after the other; calls. -/
import Derived.Test.YtafedebfkdnpfaaGreatAmH
namespace Go.Am
open Go Go.RowKit

def callable (P : Program) (f : FuncId) : Bool :=
  match P.funcs[f]? with
  | some fn => fn.body.isSome && fn.name != "runtime.NumGoroutine"
  | none => false

/-- What a call comes to, from abstract values and an abstract memory. -/
def ACalls (P : Program) (f : FuncId) (args : List AV) (Q : AV → AHeap → Prop) (H : AHeap) : Prop :=
  callable P f = true ∧ ∀ (I : Inj) (w : World) (cargs : Array Value), Sim I H w → VRs I args cargs.toList →
    Calls P f cargs w fun e w' => ∃ v v' H' I', e = .returned v' ∧ Q v H' ∧ I.le I' ∧ Sim I' H' w' ∧ VR I' v v'

theorem ACalls.mono {P : Program} {f : FuncId} {args : List AV} {Q Q' : AV → AHeap → Prop} {H : AHeap} (h : ACalls P f args Q H) (hq : ∀ v H', Q v H' → Q' v H') : ACalls P f args Q' H :=
  ⟨h.1, fun I w cargs hs ha => (h.2 I w cargs hs ha).mono fun _ _ ⟨v, v', H', I', h1, h2, h3⟩ => ⟨v, v', H', I', h1, hq _ _ h2, h3⟩⟩

@[congr] theorem ACalls_congr {P : Program} {f f' : FuncId} {args args' : List AV} {Q : AV → AHeap → Prop} {H H' : AHeap} (h1 : f = f') (h2 : args = args') (h3 : H = H') : ACalls P f args Q H = ACalls P f' args' Q H' := by rw [h1, h2, h3]

inductive XOp where
  | rd (x : XRd)
  | ef (x : XEf)
  | call (f : FuncId) (args : List XA)
  | callv (f : XA) (args : List XA)
  | bad
  deriving Inhabited

structure XO where
  dst : Option Nat
  op : XOp
  guard : Option (Nat × Bool)
  before : List Nat := []
  pure : Bool := false
  deriving Inhabited

def putd (fr : AFr) : Option Nat → AV → AFr
  | some d, v => fr.put d v
  | none, _ => fr

def optP {α : Type} (o : Option α) (K : α → Prop) : Prop :=
  match o with
  | some a => K a
  | none => False
theorem optP_some {α : Type} (a : α) (K : α → Prop) : optP (some a) K = K a := rfl
theorem optP_none {α : Type} (K : α → Prop) : optP (none : Option α) K = False := rfl
@[congr] theorem optP_congr {α : Type} {o o' : Option α} {K : α → Prop} (h : o = o') : optP o K = optP o' K := by rw [h]
theorem optP_iff {α : Type} {o : Option α} {K : α → Prop} : optP o K ↔ ∃ a, o = some a ∧ K a := by
  cases o <;> simp [optP]

def callArgs : AV → List AV → Option (FuncId × List AV)
  | .func f caps, args => some (f, args ++ caps)
  | _, _ => none

/-- one operation, whatever its guard -/
def xact (P : Program) (o : XOp) (fr : AFr) (H : AHeap) (K : AV → AHeap → Prop) : Prop :=
  match o with
  | .rd x => optP (xrd x fr H) fun v => K v H
  | .ef x => optP (xef x fr H) fun r => K r.1 r.2
  | .call f args => optP (evs fr args) fun vs => ACalls P f vs K H
  | .callv f args => optP (ev fr f) fun fv => optP (evs fr args) fun vs => optP (callArgs fv vs) fun r => ACalls P r.1 r.2 K H
  | .bad => False

def isB : AV → Option Bool
  | .bool b => some b
  | _ => none

/-- is what a guard wants there? What was left out tells nothing. -/
def isG (want : Bool) : AV → Option Bool
  | .bool b => some (b == want)
  | .tuple [] => some false
  | _ => none

def xone (P : Program) (o : XO) (fr : AFr) (H : AHeap) (K : AV → AHeap → Prop) : Prop :=
  match o.guard with
  | none => xact P o.op fr H K
  | some (s, want) => optP ((look fr s).bind (isG want)) fun b => (b = true → xact P o.op fr H K) ∧ (b = false → K und H)

def xops (P : Program) : List XO → (AFr → AHeap → Prop) → AFr → AHeap → Prop
  | [], K, fr, H => K fr H
  | o :: r, K, fr, H => xone P o fr H fun v H' => xops P r K (putd fr o.dst v) H'

/-- an operation of the model, and an abstract one -/
inductive ActOk (P : Program) (o : Oper) : XOp → Prop where
  | rd {x : XRd} (h : RdOk P o x) : ActOk P o (.rd x)
  | ef {x : XEf} (h : EfOk P o x) : ActOk P o (.ef x)
  | call {c : Call} {f : FuncId} {xs : List XA} (ho : o.op = .call c) (hc : c.callee = .value (.func f)) (hx : c.args.toList.mapM opA = some xs) : ActOk P o (.call f xs)
  | callv {c : Call} {g : Operand} {x : XA} {xs : List XA} (ho : o.op = .call c) (hc : c.callee = .value g) (hg : opA g = some x) (hx : c.args.toList.mapM opA = some xs) : ActOk P o (.callv x xs)
  | bad : ActOk P o .bad

structure OpOk (P : Program) (N : Nat) (ops : Array Oper) (o : Oper) (x : XO) : Prop where
  dst : o.dst = x.dst
  lt : ∀ d, x.dst = some d → d < N
  guard : (match o.guard, x.guard with | none, none => True | some (j, w), some (s, w') => w = w' ∧ (ops[j]?).bind (·.dst) = some s | _, _ => False)
  act : ActOk P o x.op

section
variable {P : Program} {N : Nat} {ops : Array Oper}

theorem run_callFunc {f : FuncId} (h : callable P f = true) (args : Array Value) (w : World) : (callFunc f args).run P w = .ok (.enter f args) w := by
  unfold callable at h
  split at h
  · rename_i fn hf
    simp only [Bool.and_eq_true, bne_iff_ne, ne_eq] at h
    obtain ⟨h1, h2⟩ := h
    have h3 : ¬ (fn.body = none) := by intro h; rw [h] at h1; cases h1
    simp [callFunc, hf, h2, h3]
  · cases h

theorem putd_AR {I : Inj} {fr : AFr} {a : Act} (h : AR N I fr a) {d : Option Nat} (hd : ∀ k, d = some k → k < N) {v : AV} {v' : Value} (hv : VR I v v') : AR N I (putd fr d v) (a.put d v') := by
  cases d with
  | none => exact h
  | some d => exact h.put (hd d rfl) hv

/-- one operation -/
theorem xact_ok {o : Oper} {x : XOp} (hx : ActOk P o x) {fr : AFr} {H : AHeap} {K : AV → AHeap → Prop} (h : xact P x fr H K) {I : Inj} {w : World} {a : Act} (hs : Sim I H w) (ha : AR N I fr a)
    {K' : Act → World → Prop} {Q : Exit → Act → World → Prop} (hK : ∀ v v' H' I' w', K v H' → I.le I' → Sim I' H' w' → VR I' v v' → K' (a.put o.dst v') w') : o.wp P a w K' Q := by
  cases hx with
  | rd hr =>
    obtain ⟨v, hv, hk⟩ := optP_iff.1 h
    obtain ⟨v', h1, h2⟩ := hr I H w N fr a v hs ha hv
    unfold Oper.wp
    rw [h1]
    exact hK v v' H I w hk (Inj.le.refl I) hs h2
  | ef he =>
    obtain ⟨⟨v, H'⟩, hv, hk⟩ := optP_iff.1 h
    obtain ⟨n, w', I', v', h1, h2, h3, h4, h5⟩ := he I H w N fr a v H' hs ha hv
    unfold Oper.wp
    rw [h1]
    rcases h2 with rfl | ⟨rfl, rfl⟩
    · exact hK v v' H' I' w' hk h3 h4 h5
    · exact hK v undef H' I' w' hk h3 h4 h5
  | @call c f xs ho hc hxs =>
    obtain ⟨vs, hv, hk⟩ := optP_iff.1 h
    have hvr := evs_ok ha hxs hv
    have hcall := hk.2 I w (c.args.map a.eval) hs (by simpa using hvr)
    unfold Oper.wp
    have hrun : (execOp a.eval o).run P w = .ok (.enter f (c.args.map a.eval)) w := by
      have := run_callFunc hk.1 (c.args.map a.eval) w
      simp [execOp, ho, resolve, hc, Act.eval, Deferred.ofValue, invoke, this]
    rw [hrun]
    refine Calls.mono hcall fun e w' ⟨v, v', H', I', h1, h2, h3, h4, h5⟩ => ?_
    subst h1
    exact hK v v' H' I' w' h2 h3 h4 h5
  | bad => exact h.elim
  | @callv c g x xs ho hc hg hxs =>
    obtain ⟨fv, hfv, h⟩ := optP_iff.1 h
    obtain ⟨vs, hv, h⟩ := optP_iff.1 h
    obtain ⟨⟨f, args⟩, hca, hk⟩ := optP_iff.1 h
    have hvr := evs_ok ha hxs hv
    have hfr := ev_ok ha hg hfv
    unfold callArgs at hca
    split at hca
    · rename_i f' caps _
      cases hca
      simp only [VR] at hfr
      obtain ⟨cs, e1, hcs⟩ := hfr
      have hcall := hk.2 I w (c.args.map a.eval ++ cs) hs (by simpa using hvr.append hcs)
      unfold Oper.wp
      have hrun : (execOp a.eval o).run P w = .ok (.enter f (c.args.map a.eval ++ cs)) w := by
        have := run_callFunc hk.1 (c.args.map a.eval ++ cs) w
        simp [execOp, ho, resolve, hc, e1, Deferred.ofValue, invoke, this]
      rw [hrun]
      refine Calls.mono hcall fun e w' ⟨v, v', H', I', h1, h2, h3, h4, h5⟩ => ?_
      subst h1
      exact hK v v' H' I' w' h2 h3 h4 h5
    · cases hca

/-- operation i of a region -/
theorem xone_ok {i : Nat} {o : Oper} {x : XO} (ho : ops[i]? = some o) (hx : OpOk P N ops o x) {fr : AFr} {H : AHeap} {K : AV → AHeap → Prop} (h : xone P x fr H K) {I : Inj} {w : World} {a : Act} (hs : Sim I H w) (ha : AR N I fr a)
    {K' : Act → World → Prop} {Q : Exit → Act → World → Prop} (hK : ∀ v v' H' I' w', K v H' → I.le I' → Sim I' H' w' → AR N I' (putd fr x.dst v) (a.put o.dst v') → K' (a.put o.dst v') w') : wpOp P ops Q i K' a w := by
  have hK2 : ∀ v v' H' I' w', K v H' → I.le I' → Sim I' H' w' → VR I' v v' → K' (a.put o.dst v') w' := fun v v' H' I' w' h1 h2 h3 h4 => by
    refine hK v v' H' I' w' h1 h2 h3 ?_
    rw [hx.dst]
    exact putd_AR (ha.mono h2) hx.lt h4
  unfold wpOp
  simp only [ho]
  have hg := hx.guard
  unfold xone at h
  cases hxg : x.guard with
  | none =>
    rw [hxg] at h hg
    have : o.guard = none := by cases hog : o.guard with | none => rfl | some p => rw [hog] at hg; exact hg.elim
    have hw : Region.wanted o (yielded ops a.tmps) = true := by simp [Region.wanted, this]
    simp only [hw, if_true]
    exact .inl (xact_ok hx.act h hs ha hK2)
  | some sw =>
    obtain ⟨s, want⟩ := sw
    rw [hxg] at h hg
    cases hog : o.guard with
    | none => rw [hog] at hg; exact hg.elim
    | some p =>
      obtain ⟨j, want'⟩ := p
      rw [hog] at hg
      obtain ⟨rfl, hj⟩ := hg
      obtain ⟨b, hb, h1, h2⟩ := optP_iff.1 h
      simp only [Option.bind_eq_some_iff] at hb
      obtain ⟨bv, hb1, hb2⟩ := hb
      obtain ⟨hsN, hvr⟩ := ha.val s _ hb1
      have hlt : s < a.tmps.size := by rw [ha.size]; exact hsN
      have hget : a.tmps[s]? = some (a.tmps.getD s undef) := by
        rw [Array.getElem?_eq_getElem hlt]
        simp [Array.getD, hlt]
      have hw : Region.wanted o (yielded ops a.tmps) = b := by
        simp only [Region.wanted, hog, yielded, hj, Option.bind_some, hget]
        cases bv <;> simp only [isG] at hb2 <;> (try (cases hb2; done))
        · simp only [Option.some.injEq] at hb2
          simp only [VR] at hvr
          rw [hvr]
          simp only
          rename_i c
          subst hb2
          cases c <;> cases want' <;> rfl
        · rename_i l
          cases l with
          | cons _ _ => simp at hb2
          | nil =>
            simp only [Option.some.injEq] at hb2
            simp only [VR, VRs] at hvr
            obtain ⟨cs, e1, e2⟩ := hvr
            rw [e1]
            subst hb2
            rfl
      rw [hw]
      cases b with
      | true =>
        simp only [if_true]
        exact .inl (xact_ok hx.act (h1 rfl) hs ha hK2)
      | false =>
        simp only [Bool.false_eq_true, if_false]
        exact hK2 und undef H I w (h2 rfl) (Inj.le.refl I) hs (VR_und I)

/-- in the order of the text -/
theorem xops_ok {Q : Exit → Act → World → Prop} : ∀ {is : List Nat} {xs : List XO}, (∀ (k : Nat) (i : Nat) (x : XO), is[k]? = some i → xs[k]? = some x → ∃ o, ops[i]? = some o ∧ OpOk P N ops o x) → is.length = xs.length → ∀ {K : AFr → AHeap → Prop} {fr : AFr} {H : AHeap}, xops P xs K fr H →
    ∀ {I : Inj} {w : World} {a : Act}, Sim I H w → AR N I fr a → (∀ fr' H' I' w' a', K fr' H' → I.le I' → Sim I' H' w' → AR N I' fr' a' → Q .normal a' w') → wpOps P ops Q is a w
  | [], [], _, _, K, fr, H, h, I, w, a, hs, ha, hQ => hQ fr H I w a h (Inj.le.refl I) hs ha
  | [], _ :: _, _, hl, _, _, _, _, _, _, _, _, _, _ => by simp at hl
  | _ :: _, [], _, hl, _, _, _, _, _, _, _, _, _, _ => by simp at hl
  | i :: is, x :: xs, hm, hl, K, fr, H, h, I, w, a, hs, ha, hQ => by
    obtain ⟨o, ho, hx⟩ := hm 0 i x rfl rfl
    rw [wpOps_cons]
    refine xone_ok ho hx h hs ha fun v v' H' I' w' hk h2 h3 h4 => ?_
    exact xops_ok (fun k i x h5 h6 => hm (k + 1) i x (by simpa using h5) (by simpa using h6)) (by simpa using hl) hk h3 h4 (fun fr' H'' I'' w'' a'' g1 g2 g3 g4 => hQ fr' H'' I'' w'' a'' g1 (h2.trans g2) g3 g4)

end
end Go.Am
