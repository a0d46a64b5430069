/- The abstract machine, part R: a run by reckoning, for what is closed. -/
import Derived.Test.YtafedebfkdnpfaaGreatAmQ
namespace Go.Am
open Go Go.RowKit

mutual
def AV.beq : AV → AV → Bool
  | .bool a, .bool b => a == b
  | .int k a, .int k' b => decide (k = k') && a == b
  | .str a, .str b => a == b
  | .nilptr, .nilptr => true
  | .ptr b i j, .ptr b' i' j' => b == b' && i == i' && j == j'
  | .nilslice, .nilslice => true
  | .slice a b c d e, .slice a' b' c' d' e' => a == a' && b == b' && c == c' && d == d' && e == e'
  | .sub a b c d, .sub a' b' c' d' => a == a' && b == b' && c == c' && d == d'
  | .nilmap, .nilmap => true
  | .map b, .map b' => b == b'
  | .nilfunc, .nilfunc => true
  | .func f cs, .func f' cs' => f == f' && AV.beqs cs cs'
  | .nilif, .nilif => true
  | .iface t v, .iface t' v' => t == t' && AV.beq v v'
  | .agg a, .agg b => AV.beqs a b
  | .tuple a, .tuple b => AV.beqs a b
  | _, _ => false
def AV.beqs : List AV → List AV → Bool
  | [], [] => true
  | a :: l, b :: m => AV.beq a b && AV.beqs l m
  | _, _ => false
end

mutual
theorem AV.beq_ok : ∀ {a b : AV}, AV.beq a b = true → a = b := by
  intro a b h
  cases a <;> cases b <;> simp only [AV.beq, Bool.and_eq_true, beq_iff_eq, decide_eq_true_eq, Bool.false_eq_true] at h <;> try (first | rfl | (cases h; done))
  all_goals first
    | (obtain ⟨⟨⟨⟨rfl, rfl⟩, rfl⟩, rfl⟩, rfl⟩ := h; rfl)
    | (obtain ⟨⟨⟨rfl, rfl⟩, rfl⟩, rfl⟩ := h; rfl)
    | (obtain ⟨⟨rfl, rfl⟩, rfl⟩ := h; rfl)
    | (obtain ⟨rfl, h⟩ := h; rw [AV.beqs_ok h])
    | (obtain ⟨rfl, h⟩ := h; rw [AV.beq_ok h])
    | (obtain ⟨rfl, rfl⟩ := h; rfl)
    | (rw [AV.beqs_ok h])
    | (subst h; rfl)
theorem AV.beqs_ok : ∀ {a b : List AV}, AV.beqs a b = true → a = b := by
  intro a b h
  cases a <;> cases b <;> simp only [AV.beqs, Bool.and_eq_true, Bool.false_eq_true] at h <;> try rfl
  rw [AV.beq_ok h.1, AV.beqs_ok h.2]
end

abbrev Out := XE × AFr × AHeap
abbrev Rec := XCode → AFr → AHeap → Option Out

def xcallR (T : FuncId → Option XFun) (rec : Rec) (f : FuncId) (vs : List AV) (H : AHeap) : Option (AV × AHeap) :=
  match T f with
  | some x => if vs.length ≤ x.params then
      match rec x.body (argFr 0 vs) H with
      | some (.normal, fr', H') => (xresL fr' H' x.res).map fun l => (tupleOf l, H')
      | some (.ret, fr', H') => (xresL fr' H' x.res).map fun l => (tupleOf l, H')
      | _ => none
    else none
  | none => none

def actR (T : FuncId → Option XFun) (rec : Rec) (o : XOp) (fr : AFr) (H : AHeap) : Option (AV × AHeap) :=
  match o with
  | .rd x => (xrd x fr H).map fun v => (v, H)
  | .ef x => xef x fr H
  | .call f args => (evs fr args).bind fun vs => xcallR T rec f vs H
  | .callv f args => (ev fr f).bind fun fv => (evs fr args).bind fun vs => (callArgs fv vs).bind fun r => xcallR T rec r.1 r.2 H
  | .bad => none

def oneR (T : FuncId → Option XFun) (rec : Rec) (o : XO) (fr : AFr) (H : AHeap) : Option (AV × AHeap) :=
  match o.guard with
  | none => actR T rec o.op fr H
  | some (s, want) => ((look fr s).bind (isG want)).bind fun b => if b = true then actR T rec o.op fr H else some (und, H)

def opsR (T : FuncId → Option XFun) (rec : Rec) : List XO → AFr → AHeap → Option (AFr × AHeap)
  | [], fr, H => some (fr, H)
  | o :: r, fr, H => (oneR T rec o fr H).bind fun q => opsR T rec r (putd fr o.dst q.1) q.2

/-- the loads so far -/
abbrev LogR := List (Nat × XO × AFr × AV)
def sameR (o : XO) (fr : AFr) (v : AV) (h : AHeap) : Bool := match rdv o fr h with | some u => AV.beq u v | none => false
def logR : LogR → List Nat → AHeap → Bool
  | [], _, _ => true
  | (k, o, fr, v) :: r, bf, H => (bf.contains k || sameR o fr v H) && logR r bf H
def snapR : Snap → List Nat → XO → AFr → AV → Bool
  | [], _, _, _, _ => true
  | (k, h) :: r, bf, o, fr, v => (bf.contains k || sameR o fr v h) && snapR r bf o fr v

def drawR (T : FuncId → Option XFun) (rec : Rec) : List (Nat × XO) → Snap → LogR → AFr → AHeap → Option (AFr × AHeap)
  | [], _, _, fr, H => some (fr, H)
  | (k, o) :: r, sn, lg, fr, H =>
    if o.op.eff then (oneR T rec o fr H).bind fun q => if logR lg o.before q.2 then drawR T rec r ((k, H) :: sn) lg (putd fr o.dst q.1) q.2 else none
    else if o.op.pure then (oneR T rec o fr H).bind fun q => drawR T rec r sn lg (putd fr o.dst q.1) q.2
    else (oneR T rec o fr H).bind fun q => if snapR sn o.before o fr q.1 then drawR T rec r sn ((k, o, fr, q.1) :: lg) (putd fr o.dst q.1) q.2 else none

def stepR (T : FuncId → Option XFun) (rec : Rec) : Rec := fun c fr H =>
  match c with
  | .skip => some (.normal, fr, H)
  | .seq a b => match rec a fr H with
    | some (.normal, fr', H') => rec b fr' H'
    | r => r
  | .region xs => (opsR T rec xs fr H).map fun q => (.normal, q.1, q.2)
  | .draw xs => (drawR T rec (enum xs) [] [] fr H).map fun q => (.normal, q.1, q.2)
  | .cond c a b => ((ev fr c).bind isB).bind fun t => if t then rec a fr H else rec b fr H
  | .block id a => match rec a fr H with
    | some (.exit id', fr', H') => if id' = id then some (.normal, fr', H') else some (.exit id', fr', H')
    | r => r
  | .loop ks a => (vals fr ks).bind fun vs => match rec a (frOf ks vs) H with
    | some (.normal, fr', H') => rec (.loop ks a) fr' H'
    | r => r
  | .exit id => some (.exit id, fr, H)
  | .scope l ks a r => match rec a fr H with
    | some (.goto l', fr', H') => if l' = l then (vals fr' ks).bind fun vs => rec (.scope l ks r r) (frOf ks vs) H' else none
    | o => o
  | .label _ => some (.normal, fr, H)
  | .goto l => some (.goto l, fr, H)
  | .ret => some (.ret, fr, H)
  | .keep ks a => (vals fr ks).bind fun vs => rec a (frOf ks vs) H
  | .straight a => match rec a fr H with
    | some (.goto _, _, _) => none
    | r => r

def runR (T : FuncId → Option XFun) : Nat → Rec
  | 0 => fun _ _ _ => none
  | n + 1 => stepR T (runR T n)

section
variable {P : Program} {T : FuncId → Option XFun} (hT : ∀ f x, T f = some x → FunOk P f x)

def RecOk (P : Program) (rec : Rec) : Prop := ∀ c fr H o, rec c fr H = some o → ∀ Q : XPost, Q o.1 o.2.1 o.2.2 → dwp P c Q fr H

include hT in
theorem xcallR_ok {rec : Rec} (hr : RecOk P rec) {f : FuncId} {vs : List AV} {H : AHeap} {q : AV × AHeap} (h : xcallR T rec f vs H = some q) {K : AV → AHeap → Prop} (hK : K q.1 q.2) : ACalls P f vs K H := by
  unfold xcallR at h
  split at h
  · rename_i x hx
    split at h
    · rename_i hl
      refine acalls (hT f x hx) hl ?_
      split at h
      · rename_i fr' H' he
        simp only [Option.map_eq_some_iff] at h
        obtain ⟨l, h1, rfl⟩ := h
        exact hr _ _ _ _ he _ (optP_iff.2 ⟨l, h1, hK⟩)
      · rename_i fr' H' he
        simp only [Option.map_eq_some_iff] at h
        obtain ⟨l, h1, rfl⟩ := h
        exact hr _ _ _ _ he _ (optP_iff.2 ⟨l, h1, hK⟩)
      · cases h
    · cases h
  · cases h

include hT in
theorem actR_ok {rec : Rec} (hr : RecOk P rec) {o : XOp} {fr : AFr} {H : AHeap} {q : AV × AHeap} (h : actR T rec o fr H = some q) {K : AV → AHeap → Prop} (hK : K q.1 q.2) : xact P o fr H K := by
  cases o with
  | rd x =>
    simp only [actR, Option.map_eq_some_iff] at h
    obtain ⟨v, h1, rfl⟩ := h
    exact optP_iff.2 ⟨v, h1, hK⟩
  | ef x => exact optP_iff.2 ⟨q, h, hK⟩
  | call f args =>
    simp only [actR, Option.bind_eq_some_iff] at h
    obtain ⟨vs, h1, h2⟩ := h
    exact optP_iff.2 ⟨vs, h1, xcallR_ok hT hr h2 hK⟩
  | bad => cases h
  | callv f args =>
    simp only [actR, Option.bind_eq_some_iff] at h
    obtain ⟨fv, h0, vs, h1, r, h2, h3⟩ := h
    exact optP_iff.2 ⟨fv, h0, optP_iff.2 ⟨vs, h1, optP_iff.2 ⟨r, h2, xcallR_ok hT hr h3 hK⟩⟩⟩

include hT in
theorem oneR_ok {rec : Rec} (hr : RecOk P rec) {o : XO} {fr : AFr} {H : AHeap} {q : AV × AHeap} (h : oneR T rec o fr H = some q) {K : AV → AHeap → Prop} (hK : K q.1 q.2) : xone P o fr H K := by
  unfold oneR at h
  unfold xone
  split at h
  · rename_i hg
    rw [hg]
    exact actR_ok hT hr h hK
  · rename_i s want hg
    rw [hg]
    simp only [Option.bind_eq_some_iff] at h
    obtain ⟨b, hb, h⟩ := h
    refine optP_iff.2 ⟨b, Option.bind_eq_some_iff.2 hb, ?_⟩
    split at h
    · rename_i hw
      exact ⟨fun _ => actR_ok hT hr h hK, fun e => by rw [hw] at e; cases e⟩
    · rename_i hw
      cases h
      exact ⟨fun e => absurd e hw, fun _ => hK⟩

include hT in
theorem opsR_ok {rec : Rec} (hr : RecOk P rec) : ∀ {xs : List XO} {fr : AFr} {H : AHeap} {q : AFr × AHeap}, opsR T rec xs fr H = some q → ∀ {K : AFr → AHeap → Prop}, K q.1 q.2 → xops P xs K fr H
  | [], fr, H, q, h, K, hK => by cases h; exact hK
  | o :: r, fr, H, q, h, K, hK => by
    simp only [opsR, Option.bind_eq_some_iff] at h
    obtain ⟨q1, h1, h2⟩ := h
    exact oneR_ok hT hr h1 (opsR_ok hr h2 hK)

theorem sameR_ok {o : XO} {fr : AFr} {v : AV} {h : AHeap} (hs : sameR o fr v h = true) : rdv o fr h = some v := by
  unfold sameR at hs
  split at hs
  · rename_i u hu
    rw [hu, AV.beq_ok hs]
  · cases hs

def logP (l : LogR) : Log := l.map fun p => (p.1, fun h => rdv p.2.1 p.2.2.1 h = some p.2.2.2)
theorem logR_ok : ∀ {l : LogR} {bf : List Nat} {H : AHeap}, logR l bf H = true → logOk (logP l) bf H
  | [], _, _, _ => trivial
  | (k, o, fr, v) :: r, bf, H, h => by
    simp only [logR, Bool.and_eq_true, Bool.or_eq_true] at h
    exact ⟨fun hb => sameR_ok (h.1.resolve_left (by rw [hb]; simp)), logR_ok h.2⟩
theorem snapR_ok : ∀ {l : Snap} {bf : List Nat} {o : XO} {fr : AFr} {v : AV}, snapR l bf o fr v = true → snapOk l bf (fun h => rdv o fr h = some v)
  | [], _, _, _, _, _ => trivial
  | (k, H) :: r, bf, o, fr, v, h => by
    simp only [snapR, Bool.and_eq_true, Bool.or_eq_true] at h
    exact ⟨fun hb => sameR_ok (h.1.resolve_left (by rw [hb]; simp)), snapR_ok h.2⟩

include hT in
theorem drawR_ok {rec : Rec} (hr : RecOk P rec) : ∀ {xs : List (Nat × XO)} {sn : Snap} {lg : LogR} {fr : AFr} {H : AHeap} {q : AFr × AHeap}, drawR T rec xs sn lg fr H = some q → ∀ {K : AFr → AHeap → Prop}, K q.1 q.2 → xdraw P xs sn (logP lg) K fr H
  | [], _, _, fr, H, q, h, K, hK => by cases h; exact hK
  | (k, o) :: r, sn, lg, fr, H, q, h, K, hK => by
    unfold drawR at h
    unfold xdraw
    split at h
    · rename_i he
      rw [if_pos he]
      simp only [Option.bind_eq_some_iff] at h
      obtain ⟨q1, h1, h2⟩ := h
      split at h2
      · rename_i hl
        exact oneR_ok hT hr h1 ⟨logR_ok hl, drawR_ok hr h2 hK⟩
      · cases h2
    · rename_i he
      rw [if_neg he]
      split at h
      · rename_i hp
        rw [if_pos hp]
        simp only [Option.bind_eq_some_iff] at h
        obtain ⟨q1, h1, h2⟩ := h
        exact oneR_ok hT hr h1 (drawR_ok hr h2 hK)
      · rename_i hp
        rw [if_neg hp]
        simp only [Option.bind_eq_some_iff] at h
        obtain ⟨q1, h1, h2⟩ := h
        split at h2
        · rename_i hl
          exact oneR_ok hT hr h1 ⟨snapR_ok hl, drawR_ok (lg := (k, o, fr, q1.1) :: lg) hr h2 hK⟩
        · cases h2

def JumpOk (P : Program) (rec : Rec) : Prop := ∀ l ks r vs H o, rec (.scope l ks r r) (frOf ks vs) H = some o → ∀ Q : XPost, Q o.1 o.2.1 o.2.2 → ∃ n, iter (fun K vs H => dwp P r (jumpQ l (kept ks K) Q) (frOf ks vs) H) n vs H

include hT in
theorem stepR_ok {rec : Rec} (hr : RecOk P rec) (hj : JumpOk P rec) : RecOk P (stepR T rec) ∧ JumpOk P (stepR T rec) := by
  refine ⟨?_, ?_⟩
  · intro c fr H o h Q hQ
    cases c with
    | skip => simp only [stepR, Option.some.injEq] at h; subst h; exact hQ
    | seq a b =>
      simp only [stepR] at h
      split at h
      · rename_i fr' H' he
        exact hr _ _ _ _ he _ (hr _ _ _ _ h _ hQ)
      · rename_i hne
        refine hr _ _ _ _ h _ ?_
        obtain ⟨e, fr', H'⟩ := o
        cases e with
        | normal => exact absurd h (hne fr' H')
        | _ => exact hQ
    | region xs =>
      simp only [stepR, Option.map_eq_some_iff] at h
      obtain ⟨q, h1, rfl⟩ := h
      exact opsR_ok hT hr h1 hQ
    | draw xs =>
      simp only [stepR, Option.map_eq_some_iff] at h
      obtain ⟨q, h1, rfl⟩ := h
      exact drawR_ok (lg := []) hT hr h1 hQ
    | cond c a b =>
      simp only [stepR, Option.bind_eq_some_iff] at h
      obtain ⟨t, ht, h⟩ := h
      refine optP_iff.2 ⟨t, Option.bind_eq_some_iff.2 ht, ?_⟩
      cases t
      · exact ⟨fun e => (by cases e), fun _ => hr _ _ _ _ (by simpa using h) _ hQ⟩
      · exact ⟨fun _ => hr _ _ _ _ (by simpa using h) _ hQ, fun e => (by cases e)⟩
    | block id a =>
      simp only [stepR] at h
      split at h
      · rename_i id' fr' H' he
        refine hr _ _ _ _ he _ ?_
        simp only [blockQ_exit]
        split at h
        · rename_i e; rw [if_pos e]; cases h; exact hQ
        · rename_i e; rw [if_neg e]; cases h; exact hQ
      · rename_i hne
        refine hr _ _ _ _ h _ ?_
        obtain ⟨e, fr', H'⟩ := o
        cases e with
        | exit id' => exact absurd h (hne id' fr' H')
        | _ => exact hQ
    | loop ks a =>
      simp only [stepR, Option.bind_eq_some_iff] at h
      obtain ⟨vs, hv, h⟩ := h
      refine optP_iff.2 ⟨vs, hv, ?_⟩
      split at h
      · rename_i fr' H' he
        obtain ⟨vs', h1, n, h2⟩ := optP_iff.1 (hr _ _ _ _ h _ hQ)
        exact ⟨n + 1, hr _ _ _ _ he _ (optP_iff.2 ⟨vs', h1, h2⟩)⟩
      · rename_i hne
        refine ⟨1, hr _ _ _ _ h _ ?_⟩
        obtain ⟨e, fr', H'⟩ := o
        cases e with
        | normal => exact absurd h (hne fr' H')
        | _ => exact hQ
    | exit id => simp only [stepR, Option.some.injEq] at h; subst h; exact hQ
    | scope l ks a r =>
      simp only [stepR] at h
      split at h
      · rename_i l' fr' H' he
        split at h
        · rename_i e
          simp only [Option.bind_eq_some_iff] at h
          obtain ⟨vs, hv, h⟩ := h
          exact hr _ _ _ _ he _ ⟨e, optP_iff.2 ⟨vs, hv, hj _ _ _ _ _ _ h _ hQ⟩⟩
        · cases h
      · rename_i hne
        refine hr _ _ _ _ h _ ?_
        obtain ⟨e, fr', H'⟩ := o
        cases e with
        | goto l' => exact absurd h (hne l' fr' H')
        | _ => exact hQ
    | label l => simp only [stepR, Option.some.injEq] at h; subst h; exact hQ
    | goto l => simp only [stepR, Option.some.injEq] at h; subst h; exact hQ
    | ret => simp only [stepR, Option.some.injEq] at h; subst h; exact hQ
    | keep ks a =>
      simp only [stepR, Option.bind_eq_some_iff] at h
      obtain ⟨vs, hv, h⟩ := h
      exact optP_iff.2 ⟨vs, hv, hr _ _ _ _ h _ hQ⟩
    | straight a =>
      simp only [stepR] at h
      split at h
      · cases h
      · rename_i hne
        refine hr _ _ _ _ h _ ?_
        obtain ⟨e, fr', H'⟩ := o
        cases e with
        | goto l' => exact absurd h (hne l' fr' H')
        | _ => exact hQ
  · intro l ks r vs H o h Q hQ
    simp only [stepR] at h
    split at h
    · rename_i l' fr' H' he
      split at h
      · rename_i e
        simp only [Option.bind_eq_some_iff] at h
        obtain ⟨vs', hv, h⟩ := h
        obtain ⟨n, hn⟩ := hj _ _ _ _ _ _ h _ hQ
        exact ⟨n + 1, hr _ _ _ _ he _ ⟨e, optP_iff.2 ⟨vs', hv, hn⟩⟩⟩
      · cases h
    · rename_i hne
      refine ⟨1, hr _ _ _ _ h _ ?_⟩
      obtain ⟨e, fr', H'⟩ := o
      cases e with
      | goto l' => exact absurd h (hne l' fr' H')
      | _ => exact hQ

include hT in
theorem runR_ok : ∀ n, RecOk P (runR T n) ∧ JumpOk P (runR T n)
  | 0 => ⟨fun _ _ _ _ h => (by cases h), fun _ _ _ _ _ _ h => (by cases h)⟩
  | n + 1 => stepR_ok hT (runR_ok n).1 (runR_ok n).2

/-- a plain value told -/
def tellsR (T : FuncId → Option XFun) (n : Nat) (f : FuncId) (args : List AV) (v : AV) : Bool :=
  args.all AV.flat && v.flat && match xcallR T (runR T n) f args AHeap.empty with | some (u, _) => AV.beq u v | none => false

include hT in
theorem tells_ok {n : Nat} {f : FuncId} {args : List AV} {v : AV} (h : tellsR T n f args v = true) (H : AHeap) : ACalls P f args (fun u H' => H' = H ∧ u = v) H := by
  simp only [tellsR, Bool.and_eq_true] at h
  obtain ⟨⟨h1, h2⟩, h3⟩ := h
  split at h3
  · rename_i u H' he
    have hu := AV.beq_ok h3
    subst hu
    exact ACalls.closed (Q := fun x => x = u) (xcallR_ok hT (runR_ok hT n).1 he ⟨h2, rfl⟩) h1 H
  · cases h3
end
end Go.Am
