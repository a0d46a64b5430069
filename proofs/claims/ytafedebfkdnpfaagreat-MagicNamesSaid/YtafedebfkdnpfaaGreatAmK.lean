/- The abstract machine, part K: the code, its weakest preconditions, and a function's call. -/
import Derived.Test.YtafedebfkdnpfaaGreatAmJ
import Derived.LoopN
import Derived.ScopeJumps
import Derived.Deep.LoopGhost
namespace Go.Am
open Go Go.RowKit

inductive XCode where
  | skip
  | seq (a b : XCode)
  | region (xs : List XO)
  | draw (xs : List XO)
  | cond (c : XA) (a b : XCode)
  | block (id : Nat) (a : XCode)
  | loop (ks : List Nat) (a : XCode)
  | exit (id : Nat)
  | scope (l : Nat) (ks : List Nat) (a rest : XCode)
  | label (l : Nat)
  | goto (l : Nat)
  | ret
  | keep (ks : List Nat) (a : XCode)
  | straight (a : XCode)
  deriving Inhabited

inductive XE where
  | normal | exit (id : Nat) | goto (l : Nat) | ret
  deriving DecidableEq, Inhabited

def XE.to : XE → Exit
  | .normal => .normal
  | .exit id => .exit id
  | .goto l => .goto l
  | .ret => .ret

def vals (fr : AFr) : List Nat → Option (List AV)
  | [] => some []
  | k :: r => (look fr k).bind fun v => (vals fr r).map (v :: ·)
def frOf : List Nat → List AV → AFr
  | k :: ks, v :: vs => (frOf ks vs).put k v
  | _, _ => AFr.none

abbrev XPost := XE → AFr → AHeap → Prop

def iter (step : (List AV → AHeap → Prop) → List AV → AHeap → Prop) : Nat → List AV → AHeap → Prop
  | 0 => fun _ _ => False
  | n + 1 => step (iter step n)

/-- on the normal way -/
def thenQ (K : AFr → AHeap → Prop) (Q : XPost) : XPost := fun e fr H =>
  match e with
  | .normal => K fr H
  | e => Q e fr H
def blockQ (id : Nat) (Q : XPost) : XPost := fun e fr H =>
  match e with
  | .exit id' => if id' = id then Q .normal fr H else Q (.exit id') fr H
  | e => Q e fr H
def jumpQ (l : Nat) (K : AFr → AHeap → Prop) (Q : XPost) : XPost := fun e fr H =>
  match e with
  | .goto l' => l' = l ∧ K fr H
  | e => Q e fr H
def noGotoQ (Q : XPost) : XPost := fun e fr H =>
  match e with
  | .goto _ => False
  | e => Q e fr H
def kept (ks : List Nat) (K : List AV → AHeap → Prop) : AFr → AHeap → Prop := fun fr H => optP (vals fr ks) fun vs => K vs H

@[simp] theorem thenQ_normal (K : AFr → AHeap → Prop) (Q : XPost) (fr : AFr) (H : AHeap) : thenQ K Q .normal fr H = K fr H := propext Iff.rfl
@[simp] theorem thenQ_exit (K : AFr → AHeap → Prop) (Q : XPost) (id : Nat) (fr : AFr) (H : AHeap) : thenQ K Q (.exit id) fr H = Q (.exit id) fr H := propext Iff.rfl
@[simp] theorem thenQ_goto (K : AFr → AHeap → Prop) (Q : XPost) (id : Nat) (fr : AFr) (H : AHeap) : thenQ K Q (.goto id) fr H = Q (.goto id) fr H := propext Iff.rfl
@[simp] theorem thenQ_ret (K : AFr → AHeap → Prop) (Q : XPost) (fr : AFr) (H : AHeap) : thenQ K Q .ret fr H = Q .ret fr H := propext Iff.rfl
@[simp] theorem blockQ_normal (id : Nat) (Q : XPost) (fr : AFr) (H : AHeap) : blockQ id Q .normal fr H = Q .normal fr H := propext Iff.rfl
@[simp] theorem blockQ_exit (id : Nat) (Q : XPost) (id' : Nat) (fr : AFr) (H : AHeap) : blockQ id Q (.exit id') fr H = if id' = id then Q .normal fr H else Q (.exit id') fr H := propext Iff.rfl
@[simp] theorem blockQ_goto (id : Nat) (Q : XPost) (l : Nat) (fr : AFr) (H : AHeap) : blockQ id Q (.goto l) fr H = Q (.goto l) fr H := propext Iff.rfl
@[simp] theorem blockQ_ret (id : Nat) (Q : XPost) (fr : AFr) (H : AHeap) : blockQ id Q .ret fr H = Q .ret fr H := propext Iff.rfl
@[simp] theorem noGotoQ_normal (Q : XPost) (fr : AFr) (H : AHeap) : noGotoQ Q .normal fr H = Q .normal fr H := propext Iff.rfl
@[simp] theorem noGotoQ_exit (Q : XPost) (id : Nat) (fr : AFr) (H : AHeap) : noGotoQ Q (.exit id) fr H = Q (.exit id) fr H := propext Iff.rfl
@[simp] theorem noGotoQ_goto (Q : XPost) (id : Nat) (fr : AFr) (H : AHeap) : noGotoQ Q (.goto id) fr H = False := propext Iff.rfl
@[simp] theorem noGotoQ_ret (Q : XPost) (fr : AFr) (H : AHeap) : noGotoQ Q .ret fr H = Q .ret fr H := propext Iff.rfl
@[simp] theorem jumpQ_normal (l : Nat) (K : AFr → AHeap → Prop) (Q : XPost) (fr : AFr) (H : AHeap) : jumpQ l K Q .normal fr H = Q .normal fr H := propext Iff.rfl
@[simp] theorem jumpQ_exit (l : Nat) (K : AFr → AHeap → Prop) (Q : XPost) (id : Nat) (fr : AFr) (H : AHeap) : jumpQ l K Q (.exit id) fr H = Q (.exit id) fr H := propext Iff.rfl
@[simp] theorem jumpQ_goto (l : Nat) (K : AFr → AHeap → Prop) (Q : XPost) (l' : Nat) (fr : AFr) (H : AHeap) : jumpQ l K Q (.goto l') fr H = (l' = l ∧ K fr H) := propext Iff.rfl
@[simp] theorem jumpQ_ret (l : Nat) (K : AFr → AHeap → Prop) (Q : XPost) (fr : AFr) (H : AHeap) : jumpQ l K Q .ret fr H = Q .ret fr H := propext Iff.rfl

def dwp (P : Program) : XCode → XPost → AFr → AHeap → Prop
  | .skip, Q => fun fr H => Q .normal fr H
  | .seq a b, Q => dwp P a (thenQ (dwp P b Q) Q)
  | .region xs, Q => xops P xs (Q .normal)
  | .draw xs, Q => xdraw P (enum xs) [] [] (Q .normal)
  | .cond c a b, Q => fun fr H => optP ((ev fr c).bind isB) fun t => (t = true → dwp P a Q fr H) ∧ (t = false → dwp P b Q fr H)
  | .block id a, Q => dwp P a (blockQ id Q)
  | .loop ks a, Q => kept ks fun vs H => ∃ n, iter (fun K vs H => dwp P a (thenQ (kept ks K) Q) (frOf ks vs) H) n vs H
  | .exit id, Q => fun fr H => Q (.exit id) fr H
  | .scope l ks a rest, Q => dwp P a (jumpQ l (kept ks fun vs H => ∃ n, iter (fun K vs H => dwp P rest (jumpQ l (kept ks K) Q) (frOf ks vs) H) n vs H) Q)
  | .label _, Q => fun fr H => Q .normal fr H
  | .goto l, Q => fun fr H => Q (.goto l) fr H
  | .ret, Q => fun fr H => Q .ret fr H
  | .keep ks a, Q => kept ks fun vs H => dwp P a Q (frOf ks vs) H
  | .straight a, Q => dwp P a (noGotoQ Q)

inductive CodeOk (P : Program) (N : Nat) : Code → XCode → Prop where
  | skip : CodeOk P N .skip .skip
  | seq {a b : Code} {x y : XCode} (ha : CodeOk P N a x) (hb : CodeOk P N b y) : CodeOk P N (.seq a b) (.seq x y)
  | region {id : Nat} {ops : Array Oper} {xs : List XO} (hl : xs.length = ops.size) (h : ∀ (i : Nat) o x, ops[i]? = some o → xs[i]? = some x → OpOk P N ops o x) : CodeOk P N (.region id ops false) (.region xs)
  | draw {id : Nat} {ops : Array Oper} {xs : List XO} {lt : Option Nat} (h : DrawOk P N ops xs lt) : CodeOk P N (.region id ops true) (.draw xs)
  | cond {c : Operand} {x : XA} {a b : Code} {y z : XCode} (hc : opA c = some x) (ha : CodeOk P N a y) (hb : CodeOk P N b z) : CodeOk P N (.cond c a b) (.cond x y z)
  | block {id : Nat} {a : Code} {x : XCode} (ha : CodeOk P N a x) : CodeOk P N (.block id a) (.block id x)
  | loop {ks : List Nat} {a : Code} {x : XCode} (ha : CodeOk P N a x) : CodeOk P N (.loop a) (.loop ks x)
  | exit {id : Nat} : CodeOk P N (.exit id) (.exit id)
  | scope {l : Nat} {ks : List Nat} {a r : Code} {x y : XCode} (ha : CodeOk P N a x) (hr : findLabel a l = some r) (hy : CodeOk P N r y) : CodeOk P N (.scope a) (.scope l ks x y)
  | label {l : Nat} : CodeOk P N (.label l) (.label l)
  | goto {l : Nat} : CodeOk P N (.goto l) (.goto l)
  | ret : CodeOk P N .ret .ret
  | keep {ks : List Nat} {a : Code} {x : XCode} (ha : CodeOk P N a x) : CodeOk P N a (.keep ks x)
  | straight {a : Code} {x : XCode} (ha : CodeOk P N a x) : CodeOk P N (.scope a) (.straight x)
  | refuse {why : String} : CodeOk P N (.refuse why) (.region [⟨none, .bad, none, [], false⟩])

section
variable {P : Program} {N : Nat}

theorem AR.bot {I : Inj} {fr : AFr} {a : Act} (h : AR N I fr a) : AR N I AFr.none a := ⟨h.defers, h.size, fun _ _ h => by cases h⟩
theorem AR.put1 {I : Inj} {fr g : AFr} {a : Act} (h : AR N I fr a) (hg : AR N I g a) {k : Nat} {v : AV} (hv : look fr k = some v) : AR N I (g.put k v) a := by
  refine ⟨h.defers, h.size, fun t u ht => ?_⟩
  rw [look_put] at ht
  split at ht
  · rename_i he
    subst he; cases ht
    exact h.val t _ hv
  · exact hg.val t u ht
theorem AR.kept {I : Inj} {fr : AFr} {a : Act} (h : AR N I fr a) : ∀ {ks : List Nat} {vs : List AV}, vals fr ks = some vs → AR N I (frOf ks vs) a
  | [], vs, hv => by
    cases hv
    exact h.bot
  | k :: ks, vs, hv => by
    simp only [vals, Option.bind_eq_some_iff, Option.map_eq_some_iff] at hv
    obtain ⟨v, h1, r, h2, rfl⟩ := hv
    exact h.put1 (AR.kept h h2) h1

theorem isB_some {v : Option AV} {b : Bool} (h : v.bind isB = some b) : v = some (.bool b) := by
  simp only [Option.bind_eq_some_iff] at h
  obtain ⟨u, h1, h2⟩ := h
  cases u <;> simp [isB] at h2
  subst h2
  exact h1

/-- what is asked behind an abstract run is asked behind the run -/
def Meets (N : Nat) (I : Inj) (Q : XPost) (Q' : Exit → Act → World → Prop) : Prop :=
  ∀ e fr' H' I' w' a', Q e fr' H' → I.le I' → Sim I' H' w' → AR N I' fr' a' → Q' e.to a' w'

theorem Meets.le {I J : Inj} (h : I.le J) {Q : XPost} {Q' : Exit → Act → World → Prop} (hm : Meets N I Q Q') : Meets N J Q Q' :=
  fun e fr' H' I' w' a' h1 h2 h3 h4 => hm e fr' H' I' w' a' h1 (h.trans h2) h3 h4

theorem dwp_ok (hm : P.follows .mixedOrders = true) {c : Code} {x : XCode} (hx : CodeOk P N c x) : ∀ {Q : XPost} {fr : AFr} {H : AHeap}, dwp P x Q fr H → ∀ {I : Inj} {w : World} {a : Act}, Sim I H w → AR N I fr a →
    ∀ {Q' : Exit → Act → World → Prop}, Meets N I Q Q' → c.wp P Q' a w := by
  induction hx with
  | skip => intro Q fr H h I w a hs ha Q' hQ; exact wp_skip (hQ _ _ _ _ _ _ h (Inj.le.refl I) hs ha)
  | seq h1 h2 ih1 ih2 =>
    intro Q fr H h I w a hs ha Q' hQ
    refine wp_seq (ih1 h hs ha ?_)
    intro e fr' H' I' w' a' g1 g2 g3 g4
    cases e with
    | normal => exact ih2 g1 g3 g4 (hQ.le g2)
    | exit id => exact hQ (.exit id) fr' H' I' w' a' g1 g2 g3 g4
    | goto l => exact hQ (.goto l) fr' H' I' w' a' g1 g2 g3 g4
    | ret => exact hQ .ret fr' H' I' w' a' g1 g2 g3 g4
  | @region id ops xs hl hop =>
    intro Q fr H h I w a hs ha Q' hQ
    refine wp_region (xops_ok ?_ (by simp [hl]) h hs ha fun fr' H' I' w' a' g1 g2 g3 g4 => hQ .normal fr' H' I' w' a' g1 g2 g3 g4)
    intro k i y hk hy
    have hlt := (List.getElem?_eq_some_iff.1 hk).1
    simp only [List.length_range] at hlt
    have hki : k = i := by
      have := (List.getElem?_eq_some_iff.1 hk).2
      simpa using this
    subst hki
    exact ⟨ops[k], by simp [hlt], hop k _ _ (by simp [hlt]) hy⟩
  | @draw id ops xs lt hd =>
    intro Q fr H h I w a hs ha Q' hQ
    exact xdraw_ok hm hd h hs ha fun fr' H' I' w' a' g1 g2 g3 g4 => hQ .normal fr' H' I' w' a' g1 g2 g3 g4
  | cond hc h1 h2 ih1 ih2 =>
    intro Q fr H h I w a hs ha Q' hQ
    obtain ⟨t, ht, k1, k2⟩ := optP_iff.1 h
    have := ev_ok ha hc (isB_some ht)
    simp only [VR] at this
    exact wp_cond_split this (fun e => ih1 (k1 e) hs ha hQ) (fun e => ih2 (k2 e) hs ha hQ)
  | @block id a x h1 ih =>
    intro Q fr H h I w a hs ha Q' hQ
    refine wp_block (ih h hs ha ?_)
    intro e fr' H' I' w' a' g1 g2 g3 g4
    cases e with
    | normal => exact hQ .normal fr' H' I' w' a' g1 g2 g3 g4
    | exit id' =>
      simp only [blockQ_exit] at g1
      simp only [XE.to, Exit.inBlock]
      split
      · rename_i he
        rw [if_pos he] at g1
        exact hQ .normal fr' H' I' w' a' g1 g2 g3 g4
      · rename_i he
        rw [if_neg he] at g1
        exact hQ (.exit id') fr' H' I' w' a' g1 g2 g3 g4
    | goto l => exact hQ (.goto l) fr' H' I' w' a' g1 g2 g3 g4
    | ret => exact hQ .ret fr' H' I' w' a' g1 g2 g3 g4
  | @loop ks c x h1 ih =>
    intro Q fr H h I w a hs ha Q' hQ
    obtain ⟨vs, hv, n, hn⟩ := optP_iff.1 h
    refine wp_loop_rounds n ?_
    have key : ∀ n vs H I w a, iter (fun K vs H => dwp P x (thenQ (kept ks K) Q) (frOf ks vs) H) n vs H → Sim I H w → AR N I (frOf ks vs) a → Meets N I Q Q' → Code.rounds P c Q' n a w := by
      intro n
      induction n with
      | zero => intro vs H I w a hi; exact hi.elim
      | succ n ihn =>
        intro vs H I w a hi hs ha hQ
        rw [rounds_succ]
        refine ih hi hs ha ?_
        intro e fr' H' I' w' a' g1 g2 g3 g4
        cases e with
        | normal =>
          obtain ⟨vs', e1, e2⟩ := optP_iff.1 g1
          exact ihn vs' H' I' w' a' e2 g3 (g4.kept e1) (hQ.le g2)
        | exit id => exact hQ (.exit id) fr' H' I' w' a' g1 g2 g3 g4
        | goto l => exact hQ (.goto l) fr' H' I' w' a' g1 g2 g3 g4
        | ret => exact hQ .ret fr' H' I' w' a' g1 g2 g3 g4
    exact key n vs H I w a hn hs (ha.kept hv) hQ
  | exit => intro Q fr H h I w a hs ha Q' hQ; exact wp_exit (hQ (.exit _) _ _ _ _ _ h (Inj.le.refl I) hs ha)
  | @scope l ks c r x y h1 hr h2 ih1 ih2 =>
    intro Q fr H h I w a hs ha Q' hQ
    let J : Nat → Act → World → Prop := fun n a w => ∃ vs H I', iter (fun K vs H => dwp P y (jumpQ l (kept ks K) Q) (frOf ks vs) H) n vs H ∧ I.le I' ∧ Sim I' H w ∧ AR N I' (frOf ks vs) a
    have conv : ∀ {K : List AV → AHeap → Prop} {J' : Act → World → Prop} {I1 : Inj}, I.le I1 → (∀ fr' H' I' w' a' vs, vals fr' ks = some vs → K vs H' → I1.le I' → Sim I' H' w' → AR N I' fr' a' → J' a' w') → Meets N I1 (jumpQ l (kept ks K) Q) (Exit.jump l J' Q') := by
      intro K J' I1 hI hK e fr' H' I' w' a' g1 g2 g3 g4
      cases e with
      | normal => exact hQ.le hI .normal fr' H' I' w' a' g1 g2 g3 g4
      | exit id => exact hQ.le hI (.exit id) fr' H' I' w' a' g1 g2 g3 g4
      | goto l' =>
        obtain ⟨e1, e2⟩ := g1
        obtain ⟨vs, e3, e4⟩ := optP_iff.1 e2
        exact ⟨e1, hK fr' H' I' w' a' vs e3 e4 g2 g3 g4⟩
      | ret => exact hQ.le hI .ret fr' H' I' w' a' g1 g2 g3 g4
    refine wp_scope_jumps l (fun a w => ∃ n, J n a w) (fun a w => leastOf fun n => J n a w) hr ?_ ?_
    · refine ih1 h hs ha (conv (Inj.le.refl I) ?_)
      intro fr' H' I' w' a' vs e1 ⟨n, e2⟩ g2 g3 g4
      exact ⟨n, vs, H', I', e2, g2, g3, g4.kept e1⟩
    · intro a' w' hJ
      have hl := leastOf_spec hJ
      generalize leastOf (fun n => J n a' w') = n at hl
      obtain ⟨⟨vs, H', I', j1, j2, j3, j4⟩, _⟩ := hl
      cases n with
      | zero => exact j1.elim
      | succ n =>
        refine ih2 j1 j3 j4 (conv j2 ?_)
        intro fr'' H'' I'' w'' a'' vs' e1 e2 g2 g3 g4
        have hJ' : J n a'' w'' := ⟨vs', H'', I'', e2, j2.trans g2, g3, g4.kept e1⟩
        exact ⟨⟨n, hJ'⟩, Nat.lt_succ_of_le ((leastOf_spec ⟨n, hJ'⟩).2 n hJ')⟩
  | label => intro Q fr H h I w a hs ha Q' hQ; exact wp_label (hQ .normal _ _ _ _ _ h (Inj.le.refl I) hs ha)
  | goto => intro Q fr H h I w a hs ha Q' hQ; exact wp_goto (hQ (.goto _) _ _ _ _ _ h (Inj.le.refl I) hs ha)
  | ret => intro Q fr H h I w a hs ha Q' hQ; exact wp_ret (hQ .ret _ _ _ _ _ h (Inj.le.refl I) hs ha)
  | keep h1 ih =>
    intro Q fr H h I w a hs ha Q' hQ
    obtain ⟨vs, e1, e2⟩ := optP_iff.1 h
    exact ih e2 hs (ha.kept e1) hQ
  | straight h1 ih =>
    intro Q fr H h I w a hs ha Q' hQ
    refine wp_scope_straight (ih h hs ha ?_)
    intro e fr' H' I' w' a' g1 g2 g3 g4
    cases e with
    | normal => exact hQ .normal fr' H' I' w' a' g1 g2 g3 g4
    | exit id => exact hQ (.exit id) fr' H' I' w' a' g1 g2 g3 g4
    | goto l => exact g1.elim
    | ret => exact hQ .ret fr' H' I' w' a' g1 g2 g3 g4
  | refuse => intro Q fr H h; exact absurd h (by simp [dwp, xops, xone, xact])

/-! ### a function -/

inductive XRes where
  | tmp (t : Nat)
  | cell (n : Nat) (agg : Bool) (t : Nat)
  deriving Inhabited

def xres (fr : AFr) (H : AHeap) : XRes → Option AV
  | .tmp t => look fr t
  | .cell n agg t => xrd (.load n agg (.t t)) fr H
def xresL (fr : AFr) (H : AHeap) : List XRes → Option (List AV)
  | [] => some []
  | x :: r => (xres fr H x).bind fun v => (xresL fr H r).map (v :: ·)
def tupleOf : List AV → AV
  | [v] => v
  | vs => .tuple vs
def argFr : Nat → List AV → AFr
  | _, [] => AFr.none
  | i, v :: vs => (argFr (i + 1) vs).put i v

structure XFun where
  params : Nat
  body : XCode
  res : List XRes
  deriving Inhabited

def ResOk (P : Program) : ResultVar → XRes → Prop
  | .tmp t, .tmp t' => t = t'
  | .cell a t, .cell n agg a' => a = a' ∧ szOf P t = some n ∧ aggOf P t = some agg ∧ (agg = false → n = 1)
  | _, _ => False

def ResOks (P : Program) : List ResultVar → List XRes → Prop
  | [], [] => True
  | r :: rs, x :: xs => ResOk P r x ∧ ResOks P rs xs
  | _, _ => False

structure FunOk (P : Program) (f : FuncId) (x : XFun) : Prop where
  ok : ∃ fn c, P.funcs[f]? = some fn ∧ fn.body = some c ∧ CodeOk P fn.ntmps c x.body ∧ ResOks P fn.results.toList x.res ∧ x.params ≤ fn.ntmps
  callable : callable P f = true
  mixed : P.follows .mixedOrders = true

/-- what is asked behind the body -/
def bodyQ (res : List XRes) (Q : AV → AHeap → Prop) : XPost := fun e fr H =>
  match e with
  | .normal => optP (xresL fr H res) fun vs => Q (tupleOf vs) H
  | .ret => optP (xresL fr H res) fun vs => Q (tupleOf vs) H
  | _ => False

theorem argFr_AR {I : Inj} (g : Nat → Value) : ∀ (args : List AV) (cargs : List Value) (i : Nat), VRs I args cargs → (∀ k v, cargs[k]? = some v → g (i + k) = v) → ∀ t v, look (argFr i args) t = some v → (i ≤ t ∧ t < i + args.length) ∧ VR I v (g t)
  | [], _, _, _, _, t, v, h => by cases h
  | a :: args, cargs, i, hv, hg, t, v, h => by
    cases cargs with
    | nil => simp [VRs] at hv
    | cons c cargs =>
      simp only [VRs, List.cons.injEq] at hv
      obtain ⟨_, _, ⟨rfl, rfl⟩, hv⟩ := hv
      simp only [argFr, look_put] at h
      split at h
      · rename_i he
        subst he; cases h
        refine ⟨by simp, ?_⟩
        have := hg 0 c rfl
        rw [Nat.add_zero] at this
        rw [this]; exact hv.1
      · obtain ⟨h1, h2⟩ := argFr_AR g args cargs (i + 1) hv.2 (fun k v hk => by rw [← hg (k + 1) v (by simpa using hk)]; congr 1; omega) t v h
        exact ⟨⟨by omega, by simp only [List.length_cons]; omega⟩, h2⟩

theorem xres_ok {r : ResultVar} {x : XRes} (hr : ResOk P r x) {I : Inj} {fr : AFr} {H : AHeap} {w : World} {a : Act} (hs : Sim I H w) (ha : AR N I fr a) {v : AV} (h : xres fr H x = some v) :
    ∃ u, (match r with | .tmp t => (pure (a.tmps.getD t undef) : Sem Value) | .cell b t => (do loadVar t (← asAddr (a.tmps.getD b undef)))).run P w = .ok u w ∧ VR I v u := by
  cases r with
  | tmp t =>
    cases x with
    | tmp t' =>
      simp only [ResOk] at hr
      subst hr
      exact ⟨_, rfl, (ha.val t v h).2⟩
    | cell n agg t' => exact hr.elim
  | cell b t =>
    cases x with
    | tmp t' => exact hr.elim
    | cell n agg b' =>
      obtain ⟨rfl, h1, h2, h3⟩ := hr
      simp only [xres, xrd, ev] at h
      split at h
      · rename_i p i j hp
        have e := (ha.val b _ hp).2
        simp only [VR] at e
        obtain ⟨_, e⟩ := e
        simp only [Option.bind_eq_some_iff] at h
        obtain ⟨l, hl, hv⟩ := h
        obtain ⟨hlen, _, vs, hvs, hcell⟩ := hs.cells hl
        have hvl := hvs.length
        have hload := run_loadCells_list (P := P) w _ vs hcell
        rw [hvl, hlen] at hload
        rcases wholeOr_VR hvs hv with ⟨rfl, hr⟩ | ⟨rfl, u, rfl, hr⟩
        · refine ⟨_, ?_, hr⟩
          simp [e, asAddr, loadVar, run_isAgg w h2, run_sizeOf w h1, hload]
        · refine ⟨u, ?_, hr⟩
          have hc := hcell 0 u rfl
          rw [addr_add, Nat.add_zero] at hc
          simp [e, asAddr, loadVar, run_isAgg w h2, hc]
      · rename_i e j hp
        have ep := (ha.val b _ hp).2
        simp only [VR] at ep
        obtain ⟨B, O, vs, e1, hseg, hvs, _⟩ := ep
        split at h
        · rename_i hle
          have hvs' := (hvs.drop j).take n
          have hlen : ((vs.drop j).take n).length = n := by have := hvs.length; simp; omega
          have hcell := fun k v hk => hs.seg_cell ((hseg.drop j).take n) k v hk
          have hload := run_loadCells_list (P := P) w _ _ hcell
          rw [hlen] at hload
          rcases wholeOr_VR hvs' h with ⟨rfl, hr⟩ | ⟨rfl, u, hu, hr⟩
          · refine ⟨_, ?_, hr⟩
            simp [e1, asAddr, loadVar, run_isAgg w h2, run_sizeOf w h1, hload]
          · refine ⟨u, ?_, hr⟩
            rw [hu] at hcell
            have hc := hcell 0 u rfl
            rw [addr_add, Nat.add_zero] at hc
            simp [e1, asAddr, loadVar, run_isAgg w h2, hc]
        · cases h
      · cases h

abbrev resF (tmps : Array Value) : ResultVar → Sem Value
  | .tmp t => pure (tmps.getD t undef)
  | .cell a t => do loadVar t (← asAddr (tmps.getD a undef))

theorem xresL_ok {I : Inj} {fr : AFr} {H : AHeap} {w : World} {a : Act} (hs : Sim I H w) (ha : AR N I fr a) : ∀ {rs : List ResultVar} {xs : List XRes}, ResOks P rs xs → ∀ {vs : List AV}, xresL fr H xs = some vs →
    ∃ us, (rs.mapM (resF a.tmps)).run P w = .ok us w ∧ VRs I vs us
  | [], [], _, vs, h => by
    cases h
    exact ⟨[], rfl, VRs.nil⟩
  | [], _ :: _, hr, _, _ => hr.elim
  | _ :: _, [], hr, _, _ => hr.elim
  | r :: rs, x :: xs, hr, vs, h => by
    simp only [xresL, Option.bind_eq_some_iff, Option.map_eq_some_iff] at h
    obtain ⟨v, h1, vs', h2, rfl⟩ := h
    obtain ⟨u, e1, e2⟩ := xres_ok hr.1 hs ha h1
    obtain ⟨us, e3, e4⟩ := xresL_ok hs ha hr.2 h2
    refine ⟨u :: us, ?_, VRs.cons e2 e4⟩
    have e1' : (resF a.tmps r).run P w = .ok u w := by
      cases r <;> exact e1
    simp [List.mapM_cons, e1', e3]

theorem results_ok {fn : Func} {xs : List XRes} (hr : ResOks P fn.results.toList xs) {I : Inj} {fr : AFr} {H : AHeap} {w : World} {a : Act} (hs : Sim I H w) (ha : AR N I fr a) {vs : List AV} (h : xresL fr H xs = some vs) :
    ∃ v, (results fn a.tmps).run P w = .ok v w ∧ VR I (tupleOf vs) v := by
  obtain ⟨us, e1, e2⟩ := xresL_ok hs ha hr h
  have e3 : (fn.results.mapM (resF a.tmps)).run P w = .ok us.toArray w := by
    rw [Array.mapM_eq_mapM_toList]
    simp [e1]
  refine ⟨if h : us.toArray.size = 1 then us.toArray[0] else .tuple us.toArray, ?_, ?_⟩
  · unfold results
    show ((fn.results.mapM (resF a.tmps)) >>= fun vs => pure _).run P w = _
    simp [e3]
  · match vs, us, e2 with
    | [], us, e2 =>
      have : us = [] := by simpa [VRs] using e2
      subst this
      simp [tupleOf, VR, VRs]
    | [v], us, e2 =>
      simp only [VRs] at e2
      obtain ⟨u, r, rfl, h1, h2⟩ := e2
      subst h2
      simpa [tupleOf] using h1
    | v :: v2 :: vs, us, e2 =>
      have e2' := e2
      simp only [VRs] at e2'
      obtain ⟨u, r, rfl, h1, u2, r2, rfl, h2, h3⟩ := e2'
      simp only [tupleOf, VR]
      refine ⟨_, ?_, e2⟩
      simp

/-- A function's call, from its body. -/
theorem acalls {f : FuncId} {x : XFun} (hf : FunOk P f x) {args : List AV} {Q : AV → AHeap → Prop} {H : AHeap} (hl : args.length ≤ x.params) (h : dwp P x.body (bodyQ x.res Q) (argFr 0 args) H) : ACalls P f args Q H := by
  obtain ⟨⟨fn, c, h1, h2, h3, h4, h5⟩, hc, hm⟩ := hf
  refine ⟨hc, fun I w cargs hs ha => calls_of_wp h1 h2 ?_⟩
  have hlen := ha.length
  simp only [Array.length_toList] at hlen
  refine dwp_ok hm h3 h hs ⟨rfl, by simp; omega, ?_⟩ ?_
  · intro t v ht
    obtain ⟨e1, e2⟩ := argFr_AR (I := I) (fun t => (cargs ++ Array.replicate (fn.ntmps - cargs.size) undef).getD t undef) args cargs.toList 0 ha (fun k v hk => by
      have hk' : cargs[k]? = some v := by simpa using hk
      have hlt := (Array.getElem?_eq_some_iff.1 hk').1
      simp only [Nat.zero_add]
      rw [Array.getD_eq_getD_getElem?, Array.getElem?_append_left hlt, hk']; rfl) t v ht
    exact ⟨by omega, e2⟩
  · intro e fr' H' I' w' a' g1 g2 g3 g4
    cases e with
    | normal =>
      obtain ⟨vs, e1, e2⟩ := optP_iff.1 g1
      obtain ⟨v, e3, e4⟩ := results_ok h4 g3 g4 e1
      exact ⟨g4.defers, v, e3, _, v, H', I', rfl, e2, g2, g3, e4⟩
    | ret =>
      obtain ⟨vs, e1, e2⟩ := optP_iff.1 g1
      obtain ⟨v, e3, e4⟩ := results_ok h4 g3 g4 e1
      exact ⟨g4.defers, v, e3, _, v, H', I', rfl, e2, g2, g3, e4⟩
    | exit id => exact g1.elim
    | goto l => exact g1.elim
end
end Go.Am
