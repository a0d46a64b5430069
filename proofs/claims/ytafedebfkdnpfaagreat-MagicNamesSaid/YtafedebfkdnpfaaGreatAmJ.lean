/- The abstract machine, part J: regions that draw their order. -/
import Derived.Test.YtafedebfkdnpfaaGreatAmI
namespace Go.Am
open Go Go.RowKit

def XA.slots : XA → List Nat
  | .t n => [n]
  | .c _ => []
def XRd.args : XRd → List XA
  | .mov x | .load _ _ x | .nilchk x | .un _ x | .conv _ x | .convS x | .sliceA _ x | .off _ x | .field _ _ _ x | .extract _ x | .lenS x | .lenL x | .capL x | .upp x | .upf _ _ x | .usd x => [x]
  | .pick a b c => [a, b, c]
  | .bin _ _ x y | .eqc _ _ x y | .idx _ x y | .idxA _ _ x y | .indexS x y | .indexA _ _ _ x y | .min x y | .max x y | .lookup _ _ _ x y | .pne x y => [x, y]
  | .mkfunc _ l => l
  | .slice _ x a b c => x :: (a.toList ++ b.toList ++ c.toList)
  | .sliceS x a b => x :: (a.toList ++ b.toList)
  | .build _ ps => ps.map (·.2.2)
def XEf.args : XEf → List XA
  | .new _ _ _ | .mkmap => []
  | .box _ _ x | .clear _ _ x => [x]
  | .buildSlice _ _ _ _ ps => ps.map (·.2.2)
  | .store _ a x | .append _ _ _ a x | .appendZ _ _ _ _ a x | .copy _ a x | .mkslice _ _ _ _ a x | .mapentry _ _ a x | .appendS _ _ a x | .ustr _ a x => [a, x]
  | .mapset _ a b c | .entrystore a b c => [a, b, c]
def XOp.args : XOp → List XA
  | .rd x => x.args
  | .ef x => x.args
  | .call _ l => l
  | .callv f l => f :: l
  | .bad => []
def XOp.eff : XOp → Bool
  | .rd _ => false
  | _ => true
def XRd.pure : XRd → Bool
  | .load _ _ _ | .lookup _ _ _ _ _ | .upp _ | .upf _ _ _ => false
  | _ => true
def XOp.pure : XOp → Bool
  | .rd x => x.pure
  | _ => false
def XO.looks (o : XO) : List Nat := o.op.args.flatMap XA.slots ++ (match o.guard with | some (s, _) => [s] | none => [])

theorem ev_congr {fr fr' : AFr} {x : XA} (h : ∀ t ∈ x.slots, look fr t = look fr' t) : ev fr x = ev fr' x := by
  cases x with
  | t n => exact h n (by simp [XA.slots])
  | c v => rfl
theorem evs_congr {fr fr' : AFr} : ∀ {l : List XA}, (∀ x ∈ l, ev fr x = ev fr' x) → evs fr l = evs fr' l
  | [], _ => rfl
  | x :: l, h => by simp only [evs, h x List.mem_cons_self, evs_congr (l := l) fun y hy => h y (List.mem_cons_of_mem _ hy)]
theorem fillL_congr {fr fr' : AFr} : ∀ {ps : List (Nat × Nat × XA)} {l : List AV}, (∀ p ∈ ps, ev fr p.2.2 = ev fr' p.2.2) → fillL fr ps l = fillL fr' ps l
  | [], _, _ => rfl
  | (o, n, x) :: ps, l, h => by
    have h1 : ev fr x = ev fr' x := h (o, n, x) List.mem_cons_self
    simp only [fillL, h1]
    congr 1
    funext v
    split
    · exact fillL_congr fun p hp => h p (List.mem_cons_of_mem _ hp)
    · rfl
theorem bnd_congr {fr fr' : AFr} {x : Option XA} (h : ∀ y, x = some y → ev fr y = ev fr' y) (a b : Nat) : bnd fr x a b = bnd fr' x a b := by
  cases x with
  | none => rfl
  | some x => simp only [bnd, h x rfl]

theorem xrd_congr {fr fr' : AFr} {x : XRd} (h : ∀ y ∈ x.args, ev fr y = ev fr' y) (H : AHeap) : xrd x fr H = xrd x fr' H := by
  cases x
  case mkfunc f l => have e := evs_congr (l := l) h; simp only [xrd, e]
  case slice sz x a b c =>
    have h1 := h x (by simp [XRd.args])
    have h2 : ∀ y z, bnd fr a y z = bnd fr' a y z := bnd_congr fun y hy => h y (by simp [XRd.args, hy])
    have h3 : ∀ y z, bnd fr b y z = bnd fr' b y z := bnd_congr fun y hy => h y (by simp [XRd.args, hy])
    have h4 : ∀ y z, bnd fr c y z = bnd fr' c y z := bnd_congr fun y hy => h y (by simp [XRd.args, hy])
    simp only [xrd, h1]
    congr 1
    funext v
    cases v <;> simp only [xslice, h2, h3, h4]
  case sliceS x a b =>
    have h1 := h x (by simp [XRd.args])
    have h2 : ∀ y z, bnd fr a y z = bnd fr' a y z := bnd_congr fun y hy => h y (by simp [XRd.args, hy])
    have h3 : ∀ y z, bnd fr b y z = bnd fr' b y z := bnd_congr fun y hy => h y (by simp [XRd.args, hy])
    simp only [xrd, h1]
    congr 1
    funext v
    cases v <;> simp only [xsliceS, h2, h3]
  case build z ps => simp only [xrd, fillL_congr fun p hp => h p.2.2 (by simp only [XRd.args, List.mem_map]; exact ⟨p, hp, rfl⟩)]
  all_goals
    simp only [XRd.args, List.mem_cons, List.not_mem_nil, or_false, forall_eq_or_imp, forall_eq] at h
    simp only [xrd, h]

theorem xef_congr {fr fr' : AFr} {x : XEf} (h : ∀ y ∈ x.args, ev fr y = ev fr' y) (H : AHeap) : xef x fr H = xef x fr' H := by
  cases x
  case new => rfl
  case mkmap => rfl
  case buildSlice T sz len z ps => simp only [xef, fillL_congr fun p hp => h p.2.2 (by simp only [XEf.args, List.mem_map]; exact ⟨p, hp, rfl⟩)]
  all_goals
    simp only [XEf.args, List.mem_cons, List.not_mem_nil, or_false, forall_eq_or_imp, forall_eq] at h
    simp only [xef, h]

theorem xact_congr {P : Program} {fr fr' : AFr} {x : XOp} (h : ∀ y ∈ x.args, ev fr y = ev fr' y) (H : AHeap) (K : AV → AHeap → Prop) : xact P x fr H K = xact P x fr' H K := by
  cases x with
  | rd x => simp only [xact, xrd_congr h]
  | ef x => simp only [xact, xef_congr h]
  | bad => rfl
  | call f l => have e := evs_congr (l := l) h; simp only [xact, e]
  | callv f l =>
    have e := evs_congr (l := l) fun y hy => h y (List.mem_cons_of_mem _ hy)
    have e1 := h f List.mem_cons_self
    simp only [xact, e, e1]

theorem xone_congr {P : Program} {fr fr' : AFr} {x : XO} (h : ∀ t ∈ x.looks, look fr t = look fr' t) (H : AHeap) (K : AV → AHeap → Prop) : xone P x fr H K = xone P x fr' H K := by
  have h1 : ∀ y ∈ x.op.args, ev fr y = ev fr' y := fun y hy => ev_congr fun t ht => h t (List.mem_append_left _ (List.mem_flatMap.2 ⟨y, hy, ht⟩))
  unfold xone
  cases hg : x.guard with
  | none => simp only [xact_congr h1]
  | some p =>
    obtain ⟨s, w⟩ := p
    have h2 : look fr s = look fr' s := h s (by simp [XO.looks, hg])
    simp only [h2, xact_congr h1]

/-- the value of a quiet operation, whatever its guard -/
def rdv (o : XO) (fr : AFr) (H : AHeap) : Option AV :=
  match o.op with
  | .rd x => match o.guard with
    | none => xrd x fr H
    | some (s, want) => match (look fr s).bind (isG want) with
      | some b => if b = true then xrd x fr H else some und
      | none => none
  | _ => none

theorem xone_rd {P : Program} {o : XO} (ho : o.op.eff = false) {fr : AFr} {H : AHeap} {K : AV → AHeap → Prop} : xone P o fr H K ↔ ∃ v, rdv o fr H = some v ∧ K v H := by
  cases hop : o.op <;> rw [hop] at ho <;> simp [XOp.eff] at ho
  rename_i x
  unfold xone rdv
  simp only [hop]
  cases hg : o.guard with
  | none => exact optP_iff
  | some p =>
    obtain ⟨s, want⟩ := p
    simp only
    cases hb : (look fr s).bind (isG want) with
    | none => simp [optP]
    | some b =>
      simp only [optP_some]
      cases b with
      | true =>
        rw [if_pos rfl]
        constructor
        · rintro ⟨h1, _⟩; exact optP_iff.1 (h1 rfl)
        · intro h1; exact ⟨fun _ => optP_iff.2 h1, fun h2 => by cases h2⟩
      | false =>
        rw [if_neg (by simp)]
        constructor
        · rintro ⟨_, h2⟩; exact ⟨und, rfl, h2 rfl⟩
        · rintro ⟨v, h1, h2⟩; cases h1; exact ⟨fun h3 => (by cases h3), fun _ => h2⟩

theorem rdv_congr {fr fr' : AFr} {x : XO} (h : ∀ t ∈ x.looks, look fr t = look fr' t) (H : AHeap) : rdv x fr H = rdv x fr' H := by
  have h1 : ∀ y ∈ x.op.args, ev fr y = ev fr' y := fun y hy => ev_congr fun t ht => h t (List.mem_append_left _ (List.mem_flatMap.2 ⟨y, hy, ht⟩))
  unfold rdv
  cases hop : x.op <;> simp only
  rename_i r
  rw [hop] at h1
  have h3 := xrd_congr (x := r) h1 H
  cases hg : x.guard with
  | none => exact h3
  | some p =>
    obtain ⟨s, w⟩ := p
    have h2 : look fr s = look fr' s := h s (by simp [XO.looks, hg])
    simp only [h2, h3]

theorem rdv_pure {o : XO} (hp : o.op.pure = true) (fr : AFr) (H H' : AHeap) : rdv o fr H = rdv o fr H' := by
  have key : ∀ {x : XRd}, x.pure = true → xrd x fr H = xrd x fr H' := by
    intro x hx
    cases x <;> first | rfl | (simp [XRd.pure] at hx)
  unfold rdv
  cases hop : o.op <;> simp only
  rename_i r
  rw [hop] at hp
  simp only [key hp]

abbrev Snap := List (Nat × AHeap)
abbrev Log := List (Nat × (AHeap → Prop))
def logOk : Log → List Nat → AHeap → Prop
  | [], _, _ => True
  | (k, p) :: r, bf, H => (bf.contains k = false → p H) ∧ logOk r bf H
def snapOk : Snap → List Nat → (AHeap → Prop) → Prop
  | [], _, _ => True
  | (k, h) :: r, bf, p => (bf.contains k = false → p h) ∧ snapOk r bf p

def xdraw (P : Program) : List (Nat × XO) → Snap → Log → (AFr → AHeap → Prop) → AFr → AHeap → Prop
  | [], _, _, K, fr, H => K fr H
  | (k, o) :: r, sn, lg, K, fr, H =>
    if o.op.eff then xone P o fr H fun v H' => logOk lg o.before H' ∧ xdraw P r ((k, H) :: sn) lg K (putd fr o.dst v) H'
    else if o.op.pure then xone P o fr H fun v H' => xdraw P r sn lg K (putd fr o.dst v) H'
    else xone P o fr H fun v H' => snapOk sn o.before (fun h => rdv o fr h = some v) ∧ xdraw P r sn ((k, fun h => rdv o fr h = some v) :: lg) K (putd fr o.dst v) H'

/-- two operations that touch none of each other's temporaries -/
def apartX (x y : XO) : Prop := (∀ d, x.dst = some d → d ∉ y.looks ∧ y.dst ≠ some d) ∧ (∀ d, y.dst = some d → d ∉ x.looks)

theorem putd_comm {fr : AFr} {x y : Option Nat} (h : ∀ d, x = some d → y ≠ some d) (v u : AV) : putd (putd fr x v) y u = putd (putd fr y u) x v := by
  cases x with
  | none => cases y <;> rfl
  | some d => cases y with
    | none => rfl
    | some e =>
      have hne : d ≠ e := fun h' => h d rfl (by rw [h'])
      funext t
      simp only [putd, AFr.put]
      by_cases h1 : t = d
      · subst h1; simp [hne]
      · by_cases h2 : t = e
        · subst h2; simp [h1]
        · simp [h1, h2]

theorem look_putd {fr : AFr} {d : Option Nat} {v : AV} {t : Nat} (h : d ≠ some t) : look (putd fr d v) t = look fr t := by
  cases d with
  | none => rfl
  | some d => simp only [putd, look_put]; rw [if_neg (fun h' => h (by rw [h']))]

theorem looks_putd {x : XO} {fr : AFr} {d : Option Nat} {v : AV} (h : ∀ k, d = some k → k ∉ x.looks) : ∀ t ∈ x.looks, look (putd fr d v) t = look fr t :=
  fun t ht => look_putd fun h' => h t h' ht

section
variable {P : Program} {K : AFr → AHeap → Prop}

theorem logOk_sub {l l' : Log} {bf : List Nat} {H : AHeap} (h : ∀ x ∈ l', x ∈ l) (hl : logOk l bf H) : logOk l' bf H := by
  have g : ∀ {l : Log}, logOk l bf H ↔ ∀ x ∈ l, bf.contains x.1 = false → x.2 H := by
    intro l
    induction l with
    | nil => simp [logOk]
    | cons a l ih => obtain ⟨k, p⟩ := a; simp only [logOk, ih, List.mem_cons, forall_eq_or_imp]
  exact g.2 fun x hx => g.1 hl x (h x hx)
theorem snapOk_iff {l : Snap} {bf : List Nat} {p : AHeap → Prop} : snapOk l bf p ↔ ∀ x ∈ l, bf.contains x.1 = false → p x.2 := by
  induction l with
  | nil => simp [snapOk]
  | cons a l ih => obtain ⟨k, q⟩ := a; simp only [snapOk, ih, List.mem_cons, forall_eq_or_imp]
theorem logOk_iff {l : Log} {bf : List Nat} {H : AHeap} : logOk l bf H ↔ ∀ x ∈ l, bf.contains x.1 = false → x.2 H := by
  induction l with
  | nil => simp [logOk]
  | cons a l ih => obtain ⟨k, p⟩ := a; simp only [logOk, ih, List.mem_cons, forall_eq_or_imp]

theorem xone_mono {o : XO} {fr : AFr} {H : AHeap} {K K' : AV → AHeap → Prop} (h : xone P o fr H K) (hk : ∀ v H', K v H' → K' v H') : xone P o fr H K' := by
  have act : xact P o.op fr H K → xact P o.op fr H K' := by
    intro h
    cases hop : o.op <;> rw [hop] at h <;> simp only [xact] at h ⊢
    · obtain ⟨v, h1, h2⟩ := optP_iff.1 h; exact optP_iff.2 ⟨v, h1, hk _ _ h2⟩
    · obtain ⟨v, h1, h2⟩ := optP_iff.1 h; exact optP_iff.2 ⟨v, h1, hk _ _ h2⟩
    · obtain ⟨v, h1, h2⟩ := optP_iff.1 h; exact optP_iff.2 ⟨v, h1, h2.mono hk⟩
    · obtain ⟨v, h1, h2⟩ := optP_iff.1 h
      obtain ⟨u, h3, h4⟩ := optP_iff.1 h2
      obtain ⟨r, h5, h6⟩ := optP_iff.1 h4
      exact optP_iff.2 ⟨v, h1, optP_iff.2 ⟨u, h3, optP_iff.2 ⟨r, h5, h6.mono hk⟩⟩⟩
  unfold xone at h ⊢
  split
  · rename_i hg; rw [hg] at h; exact act h
  · rename_i s want hg
    rw [hg] at h
    obtain ⟨b, h1, h2, h3⟩ := optP_iff.1 h
    exact optP_iff.2 ⟨b, h1, fun hb => act (h2 hb), fun hb => hk _ _ (h3 hb)⟩

/-- fewer demands -/
theorem xdraw_weaken : ∀ {r : List (Nat × XO)} {sn sn' : Snap} {lg lg' : Log} {fr : AFr} {H : AHeap}, (∀ x ∈ sn', x ∈ sn) → (∀ x ∈ lg', x ∈ lg) → xdraw P r sn lg K fr H → xdraw P r sn' lg' K fr H
  | [], _, _, _, _, _, _, _, _, h => h
  | (k, o) :: r, sn, sn', lg, lg', fr, H, h1, h2, h => by
    unfold xdraw at h ⊢
    split
    · rename_i he
      rw [if_pos he] at h
      refine xone_mono h fun v H' ⟨g1, g2⟩ => ⟨logOk_sub h2 g1, xdraw_weaken (fun x hx => ?_) h2 g2⟩
      rcases List.mem_cons.1 hx with rfl | hx
      · exact List.mem_cons_self
      · exact List.mem_cons_of_mem _ (h1 x hx)
    · rename_i he
      rw [if_neg he] at h
      split
      · rename_i hp
        rw [if_pos hp] at h
        exact xone_mono h fun v H' g => xdraw_weaken h1 h2 g
      · rename_i hp
        rw [if_neg hp] at h
        refine xone_mono h fun v H' ⟨g1, g2⟩ => ⟨snapOk_iff.2 fun x hx => snapOk_iff.1 g1 x (h1 x hx), xdraw_weaken h1 (fun x hx => ?_) g2⟩
        rcases List.mem_cons.1 hx with rfl | hx
        · exact List.mem_cons_self
        · exact List.mem_cons_of_mem _ (h2 x hx)

/-- what must stand between an operation and one that is taken before it -/
structure Pass (j : Nat) (oj : XO) (p : Nat × XO) : Prop where
  apart : apartX p.2 oj
  nb : oj.before.contains p.1 = false
  ne : ¬ (p.2.op.eff = true ∧ oj.op.eff = true)

theorem Pass.j_i {j : Nat} {oj : XO} {p : Nat × XO} (h : Pass j oj p) {fr : AFr} {v : AV} : ∀ t ∈ oj.looks, look (putd fr p.2.dst v) t = look fr t := looks_putd fun k hk => (h.apart.1 k hk).1
theorem Pass.i_j {j : Nat} {oj : XO} {p : Nat × XO} (h : Pass j oj p) {fr : AFr} {v : AV} : ∀ t ∈ p.2.looks, look (putd fr oj.dst v) t = look fr t := looks_putd fun k hk => h.apart.2 k hk
theorem Pass.comm {j : Nat} {oj : XO} {p : Nat × XO} (h : Pass j oj p) (fr : AFr) (v u : AV) : putd (putd fr p.2.dst v) oj.dst u = putd (putd fr oj.dst u) p.2.dst v := putd_comm (fun d hd => (h.apart.1 d hd).2) v u

/-- a quiet operation is taken first: its value is pinned -/
theorem pullB {j : Nat} {oj : XO} (hj : oj.op.eff = false) {v0 : AV} : ∀ {pre post : List (Nat × XO)} {sn : Snap} {lg : Log} {fr : AFr} {H : AHeap}, (∀ p ∈ pre, Pass j oj p) →
    ((∃ s ∈ sn, oj.before.contains s.1 = false ∧ rdv oj fr s.2 = some v0) ∨ rdv oj fr H = some v0) → xdraw P (pre ++ (j, oj) :: post) sn lg K fr H → xdraw P (pre ++ post) sn lg K (putd fr oj.dst v0) H
  | [], post, sn, lg, fr, H, _, pin, h => by
    simp only [List.nil_append] at h ⊢
    unfold xdraw at h
    rw [if_neg (by rw [hj]; simp)] at h
    split at h
    · rename_i hp
      obtain ⟨v, h1, h2⟩ := (xone_rd hj).1 h
      have : v = v0 := by
        rcases pin with ⟨s, _, _, hs⟩ | hs
        · rw [rdv_pure hp fr s.2 H, h1] at hs; exact Option.some.inj hs
        · rw [h1] at hs; exact Option.some.inj hs
      subst this
      exact h2
    · obtain ⟨v, h1, h2, h3⟩ := (xone_rd hj).1 h
      have : v = v0 := by
        rcases pin with ⟨s, hs1, hs2, hs⟩ | hs
        · have := snapOk_iff.1 h2 s hs1 hs2
          rw [this] at hs; exact Option.some.inj hs
        · rw [h1] at hs; exact Option.some.inj hs
      subst this
      exact xdraw_weaken (fun x hx => hx) (fun x hx => List.mem_cons_of_mem _ hx) h3
  | (i, oi) :: pre, post, sn, lg, fr, H, hp, pin, h => by
    have hpi := hp (i, oi) List.mem_cons_self
    have hpre : ∀ p ∈ pre, Pass j oj p := fun p h' => hp p (List.mem_cons_of_mem _ h')
    have hji : ∀ v, ∀ t ∈ oj.looks, look (putd fr oi.dst v) t = look fr t := fun v => hpi.j_i
    have hij : ∀ t ∈ oi.looks, look (putd fr oj.dst v0) t = look fr t := hpi.i_j
    have pin' : ∀ (v : AV) (sn' : Snap), (∀ x ∈ sn, x ∈ sn') → (∃ s ∈ sn, oj.before.contains s.1 = false ∧ rdv oj fr s.2 = some v0) → ∃ s ∈ sn', oj.before.contains s.1 = false ∧ rdv oj (putd fr oi.dst v) s.2 = some v0 :=
      fun v sn' hsn ⟨s, s1, s2, s3⟩ => ⟨s, hsn s s1, s2, by rw [rdv_congr (hji v)]; exact s3⟩
    simp only [List.cons_append] at h ⊢
    unfold xdraw at h ⊢
    by_cases he : oi.op.eff = true
    · rw [if_pos he] at h ⊢
      rw [xone_congr hij]
      refine xone_mono h fun v H' ⟨g1, g2⟩ => ⟨g1, ?_⟩
      have := pullB hj hpre (v0 := v0) (.inl (by
        rcases pin with pin | pin
        · exact pin' v _ (fun x hx => List.mem_cons_of_mem _ hx) pin
        · exact ⟨(i, H), List.mem_cons_self, hpi.nb, by rw [rdv_congr (hji v)]; exact pin⟩)) g2
      rw [hpi.comm fr v v0] at this
      exact this
    · rw [if_neg he] at h ⊢
      have he' : oi.op.eff = false := by simpa using he
      have pin2 : ∀ v, (∃ s ∈ sn, oj.before.contains s.1 = false ∧ rdv oj (putd fr oi.dst v) s.2 = some v0) ∨ rdv oj (putd fr oi.dst v) H = some v0 := fun v => by
        rcases pin with pin | pin
        · exact .inl (pin' v _ (fun x hx => hx) pin)
        · exact .inr (by rw [rdv_congr (hji v)]; exact pin)
      split
      · rename_i hpu
        rw [if_pos hpu] at h
        obtain ⟨v, h1, h2⟩ := (xone_rd he').1 h
        refine (xone_rd he').2 ⟨v, by rw [rdv_congr hij]; exact h1, ?_⟩
        have := pullB hj hpre (pin2 v) h2
        rw [hpi.comm fr v v0] at this
        exact this
      · rename_i hpu
        rw [if_neg hpu] at h
        obtain ⟨v, h1, h2, h3⟩ := (xone_rd he').1 h
        refine (xone_rd he').2 ⟨v, by rw [rdv_congr hij]; exact h1, ?_, ?_⟩
        · refine snapOk_iff.2 fun x hx hb => ?_
          rw [rdv_congr hij]; exact snapOk_iff.1 h2 x hx hb
        · have := pullB hj hpre (pin2 v) h3
          rw [hpi.comm fr v v0] at this
          have e : (fun h => rdv oi (putd fr oj.dst v0) h = some v) = (fun h => rdv oi fr h = some v) := by
            funext h'; rw [rdv_congr hij]
          rw [e]; exact this

/-- one that writes is taken first: quiet ones alone stand before it -/
theorem pullC {j : Nat} {oj : XO} (hj : oj.op.eff = true) : ∀ {pre post : List (Nat × XO)} {sn : Snap} {lg : Log} {fr : AFr} {H : AHeap}, (∀ p ∈ pre, Pass j oj p) → xdraw P (pre ++ (j, oj) :: post) sn lg K fr H →
    xone P oj fr H fun v H' => logOk lg oj.before H' ∧ xdraw P (pre ++ post) sn lg K (putd fr oj.dst v) H'
  | [], post, sn, lg, fr, H, _, h => by
    simp only [List.nil_append] at h ⊢
    unfold xdraw at h
    rw [if_pos hj] at h
    exact xone_mono h fun v H' ⟨g1, g2⟩ => ⟨g1, xdraw_weaken (fun x hx => List.mem_cons_of_mem _ hx) (fun x hx => hx) g2⟩
  | (i, oi) :: pre, post, sn, lg, fr, H, hp, h => by
    have hpi := hp (i, oi) List.mem_cons_self
    have hpre : ∀ p ∈ pre, Pass j oj p := fun p h' => hp p (List.mem_cons_of_mem _ h')
    have hji : ∀ v, ∀ t ∈ oj.looks, look (putd fr oi.dst v) t = look fr t := fun v => hpi.j_i
    have hij : ∀ v, ∀ t ∈ oi.looks, look (putd fr oj.dst v) t = look fr t := fun v => hpi.i_j
    have he : oi.op.eff = false := by
      cases hh : oi.op.eff with
      | false => rfl
      | true => exact absurd ⟨hh, hj⟩ hpi.ne
    simp only [List.cons_append] at h ⊢
    unfold xdraw at h
    rw [if_neg (by rw [he]; simp)] at h
    split at h
    · rename_i hpu
      obtain ⟨v, h1, h2⟩ := (xone_rd he).1 h
      have h3 := pullC hj hpre h2
      rw [xone_congr (hji v)] at h3
      refine xone_mono h3 fun u H' ⟨g1, g2⟩ => ⟨g1, ?_⟩
      unfold xdraw
      rw [if_neg (by rw [he]; simp), if_pos hpu]
      refine (xone_rd he).2 ⟨v, by rw [rdv_congr (hij u), rdv_pure hpu fr H' H]; exact h1, ?_⟩
      rw [hpi.comm fr v u] at g2
      exact g2
    · rename_i hpu
      obtain ⟨v, h1, hsn, h2⟩ := (xone_rd he).1 h
      have h3 := pullC hj hpre h2
      rw [xone_congr (hji v)] at h3
      refine xone_mono h3 fun u H' ⟨g1, g2⟩ => ?_
      simp only [logOk] at g1
      refine ⟨g1.2, ?_⟩
      unfold xdraw
      rw [if_neg (by rw [he]; simp), if_neg hpu]
      have hv := g1.1 hpi.nb
      refine (xone_rd he).2 ⟨v, by rw [rdv_congr (hij u)]; exact hv, ?_, ?_⟩
      · refine snapOk_iff.2 fun x hx hb => ?_
        rw [rdv_congr (hij u)]; exact snapOk_iff.1 hsn x hx hb
      · rw [hpi.comm fr v u] at g2
        have e : (fun h => rdv oi (putd fr oj.dst u) h = some v) = (fun h => rdv oi fr h = some v) := by
          funext h'; rw [rdv_congr (hij u)]
        rw [e]; exact g2

variable {N : Nat} {ops : Array Oper}

/-- some outcome there is -/
theorem xact_out {o : Oper} {x : XOp} (hx : ActOk P o x) {fr : AFr} {H : AHeap} {K : AV → AHeap → Prop} (h : xact P x fr H K) {I : Inj} {w : World} {a : Act} (hs : Sim I H w) (ha : AR N I fr a) :
    ∃ v v' H' I' w', K v H' ∧ I.le I' ∧ Sim I' H' w' ∧ VR I' v v' := by
  have calls : ∀ {f : FuncId} {vs : List AV} {cargs : Array Value}, ACalls P f vs K H → VRs I vs cargs.toList → ∃ v v' H' I' w', K v H' ∧ I.le I' ∧ Sim I' H' w' ∧ VR I' v v' := by
    intro f vs cargs hk hv
    obtain ⟨e, w', _, ⟨v, v', H', I', _, h2, h3, h4, h5⟩, _⟩ := hk.2 I w cargs hs hv []
    exact ⟨v, v', H', I', w', h2, h3, h4, h5⟩
  cases hx with
  | rd hr =>
    obtain ⟨v, hv, hk⟩ := optP_iff.1 h
    obtain ⟨v', h1, h2⟩ := hr I H w N fr a v hs ha hv
    exact ⟨v, v', H, I, w, hk, Inj.le.refl I, hs, h2⟩
  | ef he =>
    obtain ⟨⟨v, H'⟩, hv, hk⟩ := optP_iff.1 h
    obtain ⟨n, w', I', v', h1, h2, h3, h4, h5⟩ := he I H w N fr a v H' hs ha hv
    exact ⟨v, v', H', I', w', hk, h3, h4, h5⟩
  | bad => exact h.elim
  | @call c f xs ho hc hxs =>
    obtain ⟨vs, hv, hk⟩ := optP_iff.1 h
    exact calls (cargs := c.args.map a.eval) hk (by simpa using evs_ok ha hxs hv)
  | @callv c g x xs ho hc hg hxs =>
    obtain ⟨fv, hfv, h⟩ := optP_iff.1 h
    obtain ⟨vs, hv, h⟩ := optP_iff.1 h
    obtain ⟨⟨f, args⟩, hca, hk⟩ := optP_iff.1 h
    have hvr := evs_ok ha hxs hv
    have hfr := ev_ok ha hg hfv
    unfold callArgs at hca
    split at hca
    · rename_i f' caps _
      cases hca
      simp only [VR] at hfr
      obtain ⟨cs, e1, hcs⟩ := hfr
      exact calls (cargs := c.args.map a.eval ++ cs) hk (by simpa using hvr.append hcs)
    · cases hca

theorem xone_out {o : Oper} {x : XO} (hx : OpOk P N ops o x) {fr : AFr} {H : AHeap} {K : AV → AHeap → Prop} (h : xone P x fr H K) {I : Inj} {w : World} {a : Act} (hs : Sim I H w) (ha : AR N I fr a) :
    ∃ v v' H' I' w', K v H' ∧ Sim I' H' w' ∧ AR N I' (putd fr x.dst v) (a.put x.dst v') := by
  have fin : (∃ v v' H' I' w', K v H' ∧ I.le I' ∧ Sim I' H' w' ∧ VR I' v v') → ∃ v v' H' I' w', K v H' ∧ Sim I' H' w' ∧ AR N I' (putd fr x.dst v) (a.put x.dst v') :=
    fun ⟨v, v', H', I', w', h1, h2, h3, h4⟩ => ⟨v, v', H', I', w', h1, h3, putd_AR (ha.mono h2) hx.lt h4⟩
  unfold xone at h
  split at h
  · exact fin (xact_out hx.act h hs ha)
  · rename_i s want hg
    obtain ⟨b, h1, h2, h3⟩ := optP_iff.1 h
    cases b with
    | true => exact fin (xact_out hx.act (h2 rfl) hs ha)
    | false => exact fin ⟨und, undef, H, I, w, h3 rfl, Inj.le.refl I, hs, VR_und I⟩

theorem pullA {j : Nat} {oj : XO} (hj : oj.op.eff = false) : ∀ {pre post : List (Nat × XO)} {sn : Snap} {lg : Log} {fr : AFr} {H : AHeap}, (∀ p ∈ pre, Pass j oj p ∧ ∃ o, OpOk P N ops o p.2) → xdraw P (pre ++ (j, oj) :: post) sn lg K fr H →
    ∀ {I : Inj} {w : World} {a : Act}, Sim I H w → AR N I fr a → ∃ v, rdv oj fr H = some v ∧ ∀ s ∈ sn, oj.before.contains s.1 = false → rdv oj fr s.2 = some v
  | [], post, sn, lg, fr, H, _, h, I, w, a, hs, ha => by
    simp only [List.nil_append] at h
    unfold xdraw at h
    rw [if_neg (by rw [hj]; simp)] at h
    split at h
    · rename_i hp
      obtain ⟨v, h1, h2⟩ := (xone_rd hj).1 h
      exact ⟨v, h1, fun s _ _ => by rw [rdv_pure hp fr s.2 H]; exact h1⟩
    · obtain ⟨v, h1, h2, h3⟩ := (xone_rd hj).1 h
      exact ⟨v, h1, fun s hs hb => snapOk_iff.1 h2 s hs hb⟩
  | (i, oi) :: pre, post, sn, lg, fr, H, hp, h, I, w, a, hs, ha => by
    obtain ⟨hpi, o, hop⟩ := hp (i, oi) List.mem_cons_self
    have hpre : ∀ p ∈ pre, Pass j oj p ∧ ∃ o, OpOk P N ops o p.2 := fun p h' => hp p (List.mem_cons_of_mem _ h')
    have hji : ∀ v, ∀ t ∈ oj.looks, look (putd fr oi.dst v) t = look fr t := fun v => hpi.j_i
    simp only [List.cons_append] at h
    unfold xdraw at h
    by_cases he : oi.op.eff = true
    · rw [if_pos he] at h
      obtain ⟨v, v', H', I', w', ⟨g1, g2⟩, g3, g4⟩ := xone_out hop h hs ha
      obtain ⟨u, h1, h2⟩ := pullA hj hpre g2 g3 g4
      have hu := h2 (i, H) List.mem_cons_self hpi.nb
      rw [rdv_congr (hji v)] at hu
      exact ⟨u, hu, fun s h3 h4 => by rw [← rdv_congr (hji v)]; exact h2 s (List.mem_cons_of_mem _ h3) h4⟩
    · rw [if_neg he] at h
      have he' : oi.op.eff = false := by simpa using he
      have key : ∀ {sn' : Snap} {lg' : Log} {v : AV}, rdv oi fr H = some v → (∀ x ∈ sn, x ∈ sn') → xdraw P (pre ++ (j, oj) :: post) sn' lg' K (putd fr oi.dst v) H → ∃ v, rdv oj fr H = some v ∧ ∀ s ∈ sn, oj.before.contains s.1 = false → rdv oj fr s.2 = some v := by
        intro sn' lg' v hv hsn hx
        obtain ⟨v1, v', H', I', w', ⟨rfl, rfl⟩, g3, g4⟩ := xone_out (K := fun v' H' => v = v' ∧ H = H') hop ((xone_rd he').2 ⟨v, hv, rfl, rfl⟩) hs ha
        obtain ⟨u, h1, h2⟩ := pullA hj hpre hx g3 g4
        rw [rdv_congr (hji v)] at h1
        exact ⟨u, h1, fun s h3 h4 => by rw [← rdv_congr (hji v)]; exact h2 s (hsn s h3) h4⟩
      split at h
      · obtain ⟨v, h1, h2⟩ := (xone_rd he').1 h
        exact key h1 (fun x hx => hx) h2
      · obtain ⟨v, h1, _, h2⟩ := (xone_rd he').1 h
        exact key h1 (fun x hx => hx) h2

/-- any operation is taken first -/
theorem pull {j : Nat} {oj : XO} {pre post : List (Nat × XO)} {fr : AFr} {H : AHeap} (hp : ∀ p ∈ pre, Pass j oj p ∧ ∃ o, OpOk P N ops o p.2) (h : xdraw P (pre ++ (j, oj) :: post) [] [] K fr H)
    {I : Inj} {w : World} {a : Act} (hs : Sim I H w) (ha : AR N I fr a) : xone P oj fr H fun v H' => xdraw P (pre ++ post) [] [] K (putd fr oj.dst v) H' := by
  cases hj : oj.op.eff with
  | true => exact xone_mono (pullC hj (fun p h' => (hp p h').1) h) fun v H' g => g.2
  | false =>
    obtain ⟨v, h1, _⟩ := pullA hj hp h hs ha
    exact (xone_rd hj).2 ⟨v, h1, pullB hj (fun p h' => (hp p h').1) (.inr h1) h⟩

/-- what is told of a region, off its text -/
structure DrawOk (P : Program) (N : Nat) (ops : Array Oper) (xs : List XO) (lt : Option Nat) : Prop where
  len : xs.length = ops.size
  op : ∀ (i : Nat) o x, ops[i]? = some o → xs[i]? = some x → OpOk P N ops o x
  lex : ∀ (i : Nat) o, ops[i]? = some o → ∀ e ∈ o.after, Region.binds .any e = true → e.on < i
  pair : ∀ (k j : Nat) x y, xs[k]? = some x → xs[j]? = some y → k < j → y.before.contains k = false → apartX x y ∧ (lt ≠ some j → ¬ (x.op.eff = true ∧ y.op.eff = true))
  bef : ∀ (j : Nat) o y, ops[j]? = some o → xs[j]? = some y → ∀ k, y.before.contains k = true → ∃ e ∈ o.after, Region.binds .any e = true ∧ (e.on = k ∨ ∃ z, xs[e.on]? = some z ∧ z.before.contains k = true)
  late : ∀ j0, lt = some j0 → ∃ T sz cells d bf p, xs[j0]? = some ⟨some d, .ef (.new T sz cells), none, bf, p⟩ ∧ AV.pls cells = true ∧ cells.all AV.one = true
  wait : ∀ j0, lt = some j0 → ∀ (m : Nat) (y z : XO) (k : Nat) (x : XO), xs[m]? = some y → xs[j0]? = some z → y.before.contains j0 = true → k < j0 → xs[k]? = some x → x.op.eff = true → z.before.contains k = false → y.before.contains k = true

def enum (xs : List XO) : List (Nat × XO) := xs.zipIdx.map fun p => (p.2, p.1)
def rem (xs : List XO) (l : Array Bool) : List (Nat × XO) := (enum xs).filter fun p => !l.getD p.1 true

theorem mem_enum {xs : List XO} {k : Nat} {x : XO} : (k, x) ∈ enum xs ↔ xs[k]? = some x := by
  simp only [enum, List.mem_map, Prod.mk.injEq]
  constructor
  · rintro ⟨⟨a, b⟩, h, rfl, rfl⟩
    exact List.mem_zipIdx_iff_getElem?.1 h
  · intro h
    exact ⟨(x, k), List.mem_zipIdx_iff_getElem?.2 h, rfl, rfl⟩

theorem enum_sorted (xs : List XO) : (enum xs).Pairwise fun p q => p.1 < q.1 := by
  have : ∀ (l : List XO) (n : Nat), ((l.zipIdx n).map fun p => (p.2, p.1)).Pairwise fun p q => p.1 < q.1 := by
    intro l
    induction l with
    | nil => intro n; simp
    | cons a l ih =>
      intro n
      simp only [List.zipIdx_cons, List.map_cons, List.pairwise_cons]
      refine ⟨fun p hp => ?_, ih (n + 1)⟩
      obtain ⟨⟨x, k⟩, hx, rfl⟩ := List.mem_map.1 hp
      have := List.le_snd_of_mem_zipIdx hx
      simp; omega
  exact this xs 0

theorem rem_sorted (xs : List XO) (l : Array Bool) : (rem xs l).Pairwise fun p q => p.1 < q.1 := (enum_sorted xs).filter _

theorem rem_take {xs : List XO} {l : Array Bool} {j : Nat} (hjl : j < l.size) {oj : XO} {pre post : List (Nat × XO)} (hsplit : rem xs l = pre ++ (j, oj) :: post) : rem xs (l.setIfInBounds j true) = pre ++ post := by
  have hsort := rem_sorted xs l
  rw [hsplit] at hsort
  have e1 : rem xs (l.setIfInBounds j true) = (rem xs l).filter fun p => p.1 != j := by
    unfold rem
    rw [List.filter_filter]
    apply List.filter_congr
    intro p hp
    obtain ⟨k, x⟩ := p
    by_cases hkj : k = j
    · subst hkj
      simp [hjl]
    · rw [getD_set_ne true (Ne.symm hkj)]
      have : (k != j) = true := by simpa using hkj
      simp [this]
  rw [e1, hsplit, List.filter_append, List.filter_cons]
  have e2 : pre.filter (fun p => p.1 != j) = pre := List.filter_eq_self.2 fun p hp => by
    have := (List.pairwise_append.1 hsort).2.2 p hp (j, oj) List.mem_cons_self
    simp only at this
    simp; omega
  have e3 : post.filter (fun p => p.1 != j) = post := List.filter_eq_self.2 fun p hp => by
    have := (List.pairwise_cons.1 (List.pairwise_append.1 hsort).2.1).1 p hp
    simp only at this
    simp; omega
  rw [e2, e3]; simp

theorem mem_rem {xs : List XO} {l : Array Bool} {k : Nat} {x : XO} : (k, x) ∈ rem xs l ↔ xs[k]? = some x ∧ l.getD k true = false := by
  unfold rem
  rw [List.mem_filter, mem_enum]
  simp

theorem getD_ne {l : Array Bool} {i k : Nat} {b c : Bool} (h : i ≠ k) : (l.setIfInBounds i b).getD k c = l.getD k c := by
  simp [Array.getD_eq_getD_getElem?, Array.getElem?_setIfInBounds_ne h]
theorem set_back {l : Array Bool} {j : Nat} {b c d : Bool} (hj : j < l.size) (h : l.getD j c = b) : (l.setIfInBounds j d).setIfInBounds j b = l := by
  apply Array.ext_getElem?
  intro i
  rw [Array.getElem?_setIfInBounds, Array.getElem?_setIfInBounds]
  by_cases hij : j = i
  · subst hij
    simp [hj] at h ⊢
    exact h.symm
  · simp [hij]
theorem set_comm {l : Array Bool} {i j : Nat} {b c : Bool} (hne : i ≠ j) : (l.setIfInBounds i b).setIfInBounds j c = (l.setIfInBounds j c).setIfInBounds i b := by
  apply Array.ext_getElem?
  intro k
  simp only [Array.getElem?_setIfInBounds, Array.size_setIfInBounds]
  by_cases h1 : j = k
  · by_cases h2 : i = k
    · exact absurd (h2.trans h1.symm) hne
    · simp [h1, h2]
  · simp [h1]

/-- a frame that does not know a slot -/
def AFr.forget (fr : AFr) (d : Nat) : AFr := fun t => if t = d then Option.none else fr t
theorem look_forget (fr : AFr) (d t : Nat) : look (fr.forget d) t = if t = d then Option.none else look fr t := rfl
theorem forget_putd {fr : AFr} {d : Nat} {e : Option Nat} {v : AV} (h : e ≠ some d) : putd (fr.forget d) e v = (putd fr e v).forget d := by
  cases e with
  | none => rfl
  | some e =>
    have hne : e ≠ d := fun h' => h (by rw [h'])
    funext t
    simp only [putd, AFr.put, AFr.forget]
    by_cases h1 : t = d
    · subst h1; simp [Ne.symm hne]
    · by_cases h2 : t = e <;> simp [h1]
theorem forget_put (fr : AFr) (d : Nat) (v : AV) : (fr.forget d).put d v = fr.put d v := by
  funext t
  simp only [AFr.put, AFr.forget]
  by_cases h1 : t = d <;> simp [h1]

theorem xdraw_forget {j : Nat} {d : Nat} {x0 : XO} (hd0 : x0.dst = some d) (he0 : x0.op.eff = true) (hl0 : x0.looks = []) : ∀ {pre post : List (Nat × XO)} {sn : Snap} {lg : Log} {fr : AFr} {H : AHeap}, (∀ p ∈ pre, apartX p.2 x0) →
    xdraw P (pre ++ (j, x0) :: post) sn lg K fr H → xdraw P (pre ++ (j, x0) :: post) sn lg K (fr.forget d) H
  | [], post, sn, lg, fr, H, _, h => by
    simp only [List.nil_append] at h ⊢
    unfold xdraw at h ⊢
    rw [if_pos he0] at h ⊢
    rw [xone_congr (fr' := fr) (by rw [hl0]; simp)]
    refine xone_mono h fun v H' ⟨g1, g2⟩ => ⟨g1, ?_⟩
    rw [hd0] at g2 ⊢
    show xdraw P post _ lg K ((fr.forget d).put d v) H'
    rw [forget_put]
    exact g2
  | (i, oi) :: pre, post, sn, lg, fr, H, hp, h => by
    have hap := hp (i, oi) List.mem_cons_self
    have hnl : ∀ t ∈ oi.looks, look (fr.forget d) t = look fr t := fun t ht => by
      rw [look_forget, if_neg]
      rintro rfl
      exact hap.2 _ hd0 ht
    have hdst : oi.dst ≠ some d := fun h' => (hap.1 d h').2 hd0
    have ih : ∀ {sn lg v H'}, xdraw P (pre ++ (j, x0) :: post) sn lg K (putd fr oi.dst v) H' → xdraw P (pre ++ (j, x0) :: post) sn lg K (putd (fr.forget d) oi.dst v) H' := by
      intro sn lg v H' h
      rw [forget_putd hdst]
      exact xdraw_forget hd0 he0 hl0 (fun p hp' => hp p (List.mem_cons_of_mem _ hp')) h
    simp only [List.cons_append] at h ⊢
    unfold xdraw at h ⊢
    split
    · rename_i he
      rw [if_pos he] at h
      rw [xone_congr hnl]
      exact xone_mono h fun v H' ⟨g1, g2⟩ => ⟨g1, ih g2⟩
    · rename_i he
      rw [if_neg he] at h
      split
      · rename_i hpu
        rw [if_pos hpu] at h
        rw [xone_congr hnl]
        exact xone_mono h fun v H' g => ih g
      · rename_i hpu
        rw [if_neg hpu] at h
        have e : ∀ v, (fun h => rdv oi (fr.forget d) h = some v) = (fun h => rdv oi fr h = some v) := by
          intro v; funext h'; rw [rdv_congr hnl]
        rw [xone_congr hnl]
        refine xone_mono h fun v H' ⟨g1, g2⟩ => ⟨?_, ?_⟩
        · rw [e v]; exact g1
        · rw [e v]; exact ih g2

theorem Inj.le_unp {I J : Inj} (h : I.le J) {B : Nat} (hB : I.base ≤ B) : (I.unp B).le (J.unp B) := by
  refine ⟨h.n, h.B, h.O, h.esz, h.csz, h.base, h.w0, fun X cs e => ?_, fun X hX => ?_, fun X o e => ?_⟩
  · by_cases hX : X = B
    · subst hX; simp [Inj.unp] at e
    · simp [Inj.unp, hX] at e ⊢; exact h.fz X cs e
  · have : X ≠ B := by
      have hX' : X < I.base := hX
      omega
    simp [Inj.unp, this]; exact h.fzb X hX
  · by_cases hX : X = B
    · subst hX; simp [Inj.unp] at e
    · simp [Inj.unp, hX] at e ⊢; exact h.pd X o e

section
variable {xs : List XO} {lt : Option Nat}

/-- a remaining one that is first may go -/
theorem DrawOk.first (hd : DrawOk P N ops xs lt) {l : Array Bool} {k : Nat} {x : XO} {r : List (Nat × XO)} (hl : l.size = ops.size) (hr : rem xs l = (k, x) :: r) : k ∈ Region.ready .any ops l := by
  have hmem : (k, x) ∈ rem xs l := by rw [hr]; exact List.mem_cons_self
  obtain ⟨h1, h2⟩ := List.mem_filter.1 hmem
  have hx := mem_enum.1 h1
  have hkl : k < ops.size := by rw [← hd.len]; exact (List.getElem?_eq_some_iff.1 hx).1
  refine mem_ready.2 ⟨by simpa using h2, ops[k], Array.getElem?_eq_getElem hkl, fun e he hb => ?_⟩
  have hlt := hd.lex k _ (Array.getElem?_eq_getElem hkl) e he hb
  cases hc : l.getD e.on false with
  | true => rfl
  | false =>
    exfalso
    have hel : e.on < xs.length := by rw [hd.len]; omega
    have hmem2 : (e.on, xs[e.on]) ∈ rem xs l := List.mem_filter.2 ⟨mem_enum.2 (List.getElem?_eq_getElem hel), by
      have : e.on < l.size := by rw [hl]; omega
      simp [this] at hc ⊢; exact hc⟩
    have hsort' : ((k, x) :: r).Pairwise fun p q => p.1 < q.1 := by rw [← hr]; exact rem_sorted xs l
    rw [hr] at hmem2
    rcases List.mem_cons.1 hmem2 with h3 | h3
    · have : e.on = k := congrArg Prod.fst h3
      omega
    · have := (List.pairwise_cons.1 hsort').1 _ h3
      simp only at this
      omega

/-- what is asked of what has come up: all ahead of it too -/
def Down (xs : List XO) (l : Array Bool) : Prop := ∀ (m : Nat) y, xs[m]? = some y → l.getD m true = true → ∀ k, y.before.contains k = true → l.getD k false = true

theorem getD_ft {l : Array Bool} {k : Nat} (h : k < l.size) : l.getD k true = l.getD k false := by simp [h]

/-- what it waits for has come up -/
theorem DrawOk.waited (hd : DrawOk P N ops xs lt) {l : Array Bool} (hdown : Down xs l) {j : Nat} {oj : Oper} (hoj : ops[j]? = some oj) (hafter : ∀ e ∈ oj.after, Region.binds .any e = true → l.getD e.on false = true) {xj : XO} (hxj : xs[j]? = some xj) :
    ∀ k, xj.before.contains k = true → l.getD k false = true := by
  intro k hk
  obtain ⟨e, he, hb, h1 | ⟨z, hz, h1⟩⟩ := hd.bef j oj xj hoj hxj k hk
  · rw [← h1]; exact hafter e he hb
  · refine hdown e.on z hz ?_ k h1
    have := hafter e he hb
    have hlt : e.on < l.size := by
      rcases Nat.lt_or_ge e.on l.size with h' | h'
      · exact h'
      · simp [Array.getElem?_eq_none h'] at this
    rw [getD_ft hlt]; exact this

theorem Down.set {l : Array Bool} (hdown : Down xs l) {j : Nat} {xj : XO} (hxj : xs[j]? = some xj) (hbef : ∀ k, xj.before.contains k = true → l.getD k false = true) : Down xs (l.setIfInBounds j true) := by
  intro m y hm hml k hk
  by_cases hmj : m = j
  · subst hmj
    rw [hxj] at hm; cases hm
    exact getD_set_true (hbef k hk)
  · rw [getD_set_ne true (Ne.symm hmj)] at hml
    exact getD_set_true (hdown m y hm hml k hk)

/-- the late one -/
abbrev lateX (T sz : Nat) (cells : List AV) (d : Nat) (bf : List Nat) (p : Bool) : XO := ⟨some d, .ef (.new T sz cells), none, bf, p⟩

theorem draw_any (hd : DrawOk P N ops xs lt) {Q : Exit → Act → World → Prop} : ∀ (fuel : Nat) (l : Array Bool), l.size = ops.size → (rem xs l).length = fuel → Down xs l →
    (∀ {fr : AFr} {H : AHeap}, xdraw P (rem xs l) [] [] K fr H → ∀ {I : Inj} {w : World} {a : Act}, Sim I H w → AR N I fr a → (∀ fr' H' I' w' a', K fr' H' → I.le I' → Sim I' H' w' → AR N I' fr' a' → Q .normal a' w') → wpAny P .any ops Q fuel l a w) ∧
    (∀ {j0 T sz d : Nat} {cells : List AV} {bf : List Nat} {p : Bool}, lt = some j0 → xs[j0]? = some (lateX T sz cells d bf p) → l.getD j0 false = true → (∃ k x, (k, x) ∈ rem xs l ∧ k < j0 ∧ x.op.eff = true) → ∀ {fr : AFr} {H : AHeap}, look fr d = none →
      xdraw P (rem xs (l.setIfInBounds j0 false)) [] [] K fr H → ∀ {I : Inj} {w : World} {a : Act} {B : Nat}, Sim I H w → AR N I fr a → Pend I T sz cells B → a.tmps.getD d undef = .pointer (some ⟨B, 0, none⟩) →
      (∀ fr' H' I' w' a', K fr' H' → (I.unp B).le I' → Sim I' H' w' → AR N I' fr' a' → Q .normal a' w') → wpAny P .any ops Q fuel l a w) := by
  intro fuel
  induction fuel with
  | zero =>
    intro l hl hf hdown
    have hr : rem xs l = [] := List.eq_nil_of_length_eq_zero hf
    refine ⟨?_, ?_⟩
    · intro fr H h I w a hs ha hQ
      rw [hr] at h
      refine ⟨?_, hQ fr H I w a h (Inj.le.refl I) hs ha⟩
      cases hready : Region.ready .any ops l with
      | nil => rfl
      | cons i is =>
        exfalso
        have hi : i ∈ Region.ready .any ops l := by rw [hready]; exact List.mem_cons_self
        obtain ⟨h1, o, h2, _⟩ := mem_ready.1 hi
        have hil : i < xs.length := by rw [hd.len]; exact (Array.getElem?_eq_some_iff.1 h2).1
        have : (i, xs[i]) ∈ rem xs l := List.mem_filter.2 ⟨mem_enum.2 (List.getElem?_eq_getElem hil), by simpa using h1⟩
        rw [hr] at this; cases this
    · rintro j0 T sz d cells bf p h0 hx0 hl0 ⟨k, x, hk, _⟩
      rw [hr] at hk; cases hk
  | succ fuel ih =>
    intro l hl hf hdown
    have nonempty : Region.ready .any ops l = [] → False := by
      intro hready
      cases hr : rem xs l with
      | nil => rw [hr] at hf; cases hf
      | cons p r =>
        obtain ⟨k, x⟩ := p
        have := hd.first hl hr
        rw [hready] at this; cases this
    refine ⟨?_, ?_⟩
    · intro fr H h I w a hs ha hQ
      refine ⟨fun hready => (nonempty hready).elim, fun j hj => ?_⟩
      obtain ⟨hju, oj, hoj, hafter⟩ := mem_ready.1 hj
      have hjl : j < xs.length := by rw [hd.len]; exact (Array.getElem?_eq_some_iff.1 hoj).1
      have hxj : xs[j]? = some xs[j] := List.getElem?_eq_getElem hjl
      have hjs : j < l.size := by rw [hl, ← hd.len]; exact hjl
      have hmem : (j, xs[j]) ∈ rem xs l := List.mem_filter.2 ⟨mem_enum.2 hxj, by simpa using hju⟩
      obtain ⟨pre, post, hsplit⟩ := List.append_of_mem hmem
      have hbef := hd.waited hdown hoj hafter hxj
      have hsort : (rem xs l).Pairwise fun p q => p.1 < q.1 := rem_sorted xs l
      rw [hsplit] at hsort
      have hpre0 : ∀ p ∈ pre, p.1 < j ∧ xs[p.1]? = some p.2 ∧ xs[j].before.contains p.1 = false := by
        intro p hp
        obtain ⟨k, x⟩ := p
        have hkj : k < j := (List.pairwise_append.1 hsort).2.2 (k, x) hp (j, xs[j]) List.mem_cons_self
        have hpm : (k, x) ∈ rem xs l := by rw [hsplit]; exact List.mem_append_left _ hp
        obtain ⟨hx, h2⟩ := mem_rem.1 hpm
        refine ⟨hkj, hx, ?_⟩
        cases hc : xs[j].before.contains k with
        | false => rfl
        | true =>
          have := hbef k hc
          rw [getD_ft (by omega)] at h2
          rw [this] at h2; cases h2
      have hrem : rem xs (l.setIfInBounds j true) = pre ++ post := rem_take hjs hsplit
      have hflen : (rem xs (l.setIfInBounds j true)).length = fuel := by
        rw [hrem]
        have := congrArg List.length hsplit
        simp at this ⊢
        omega
      have hnext := ih (l.setIfInBounds j true) (by simpa using hl) hflen (hdown.set hxj hbef)
      by_cases hsp : lt = some j ∧ ∃ p ∈ pre, p.2.op.eff = true
      · -- made, and not named yet
        obtain ⟨hlt, ⟨k, x⟩, hkp, hke⟩ := hsp
        obtain ⟨T, sz, cells, d, bf, p, hx0, hpl, hone⟩ := hd.late j hlt
        have hxe : xs[j] = lateX T sz cells d bf p := by rw [hxj] at hx0; exact Option.some.inj hx0
        have hdN : d < N := (hd.op j oj _ hoj hxj).lt d (by rw [hxe])
        refine xone_ok (fr := fr) (H := H) (K := fun v H' => v = .ptr H.size 0 0 ∧ H' = H.new (.row T sz [cells] (.own 0 true true))) hoj (hd.op j oj _ hoj hxj) ?_ hs ha ?_
        · rw [hxe]
          show optP (xef (.new T sz cells) fr H) _
          simp only [xef, hone, if_true]
          exact ⟨rfl, rfl⟩
        · rintro v v' H' I' w' ⟨rfl, rfl⟩ h2 h3 h4
          have hod : oj.dst = some d := by rw [(hd.op j oj _ hoj hxj).dst, hxe]
          rw [hod] at h4 ⊢
          rw [hxe] at h4
          obtain ⟨I2, g1, g2, g3, g4, g5⟩ := hs.to_pend h3 h2 hpl
          have hB := (h4.val d (.ptr H.size 0 0) (by show look (fr.put d _) d = _; rw [look_put, if_pos rfl])).2
          simp only [VR] at hB
          have hB2 : (a.put (some d) v').tmps.getD d undef = .pointer (some ⟨I'.B H.size, 0, none⟩) := by rw [hB.2, g5]; simp
          obtain ⟨hk1, hk2, hk3⟩ := hpre0 _ hkp
          have hpre1 : ∀ q ∈ pre, apartX q.2 (lateX T sz cells d bf p) := by
            intro q hq
            obtain ⟨q1, q2, q3⟩ := hpre0 q hq
            have := (hd.pair q.1 j q.2 _ q2 hxj q1 q3).1
            rw [hxe] at this; exact this
          have hl0 : l.getD j false = false := by rw [← getD_ft hjs]; exact (mem_rem.1 hmem).2
          have hll : (l.setIfInBounds j true).setIfInBounds j false = l := set_back hjs hl0
          refine hnext.2 hlt (by rw [hxj, hxe]) (by simp [hjs]) ⟨k, x, by rw [hrem]; exact List.mem_append_left _ hkp, hk1, hke⟩ (fr := fr.forget d) (by rw [look_forget, if_pos rfl]) ?_ g3 ?_ g4 hB2 ?_
          · rw [hll, hsplit, hxe]
            rw [hsplit, hxe] at h
            exact xdraw_forget rfl rfl rfl hpre1 h
          · refine ⟨h4.defers, h4.size, fun t u ht => ?_⟩
            rw [look_forget] at ht
            split at ht
            · cases ht
            · rename_i hne
              obtain ⟨m1, m2⟩ := ha.val t u ht
              refine ⟨m1, ?_⟩
              have : (a.put (some d) v').tmps.getD t undef = a.tmps.getD t undef := by
                simp [Act.put, Array.getD_eq_getD_getElem?, Array.getElem?_setIfInBounds_ne (Ne.symm hne)]
              rw [this]
              exact m2.mono g1
          · intro fr' H'' I'' w'' a'' k1 k2 k3 k4
            exact hQ fr' H'' I'' w'' a'' k1 (g2.trans k2) k3 k4
      · have hpre : ∀ p ∈ pre, Pass j xs[j] p ∧ ∃ o, OpOk P N ops o p.2 := by
          intro p hp
          obtain ⟨hkj, hx, hnb⟩ := hpre0 p hp
          have hkl : p.1 < ops.size := by rw [← hd.len]; exact (List.getElem?_eq_some_iff.1 hx).1
          obtain ⟨g1, g2⟩ := hd.pair p.1 j p.2 xs[j] hx hxj hkj hnb
          refine ⟨⟨g1, hnb, ?_⟩, ops[p.1], hd.op p.1 _ p.2 (Array.getElem?_eq_getElem hkl) hx⟩
          by_cases hlt : lt = some j
          · rintro ⟨q1, _⟩
            exact hsp ⟨hlt, p, hp, q1⟩
          · exact g2 hlt
        rw [hsplit] at h
        have hone := pull hpre h hs ha
        refine xone_ok hoj (hd.op j oj _ hoj hxj) hone hs ha fun v v' H' I' w' hk h2 h3 h4 => ?_
        exact hnext.1 (by rw [hrem]; exact hk) h3 h4 (fun fr' H'' I'' w'' a'' g1 g2 g3 g4 => hQ fr' H'' I'' w'' a'' g1 (h2.trans g2) g3 g4)
    · rintro j0 T sz d cells bf p hlt hx0 hl0 ⟨k0, x0', hk0m, hk0, hk0e⟩ fr H hfd h I w a B hs ha hp hB hQ
      refine ⟨fun hready => (nonempty hready).elim, fun m hm => ?_⟩
      obtain ⟨hmu, om, hom, hafter⟩ := mem_ready.1 hm
      have hml : m < xs.length := by rw [hd.len]; exact (Array.getElem?_eq_some_iff.1 hom).1
      have hj0l : j0 < xs.length := (List.getElem?_eq_some_iff.1 hx0).1
      have hms : m < l.size := by rw [hl, ← hd.len]; exact hml
      have hj0s : j0 < l.size := by rw [hl, ← hd.len]; exact hj0l
      have hxm : xs[m]? = some xs[m] := List.getElem?_eq_getElem hml
      have hmmem : (m, xs[m]) ∈ rem xs l := List.mem_filter.2 ⟨mem_enum.2 hxm, by simpa using hmu⟩
      have hmf : l.getD m true = false := (mem_rem.1 hmmem).2
      have hmj : m ≠ j0 := by
        rintro rfl
        rw [getD_ft hms, hl0] at hmf; cases hmf
      have hbef := hd.waited hdown hom hafter hxm
      -- what the late one waits for has come up
      have hbef0 : ∀ k, bf.contains k = true → l.getD k false = true := fun k hk => hdown j0 _ hx0 (by rw [getD_ft hj0s]; exact hl0) k hk
      have notdone : ∀ {k x}, (k, x) ∈ rem xs l → l.getD k false = false := by
        intro k x hk
        obtain ⟨h1, h2⟩ := mem_rem.1 hk
        have : k < l.size := by rw [hl, ← hd.len]; exact (List.getElem?_eq_some_iff.1 h1).1
        rw [getD_ft this] at h2; exact h2
      have nb0 : ∀ {k x}, (k, x) ∈ rem xs l → bf.contains k = false := by
        intro k x hk
        cases hc : bf.contains k with
        | false => rfl
        | true => have := hbef0 k hc; rw [notdone hk] at this; cases this
      have hmnb : xs[m].before.contains j0 = false := by
        cases hc : xs[m].before.contains j0 with
        | false => rfl
        | true =>
          exfalso
          have h1 := hd.wait j0 hlt m _ _ k0 x0' hxm hx0 hc hk0 (mem_rem.1 hk0m).1 hk0e (nb0 hk0m)
          have h2 := hbef k0 h1
          rw [notdone hk0m] at h2; cases h2
      -- the abstract list
      have hl1s : (l.setIfInBounds j0 false).size = l.size := by simp
      have hl1 : (l.setIfInBounds j0 false).setIfInBounds j0 true = l := set_back hj0s hl0
      have hR : ∀ {k x}, (k, x) ∈ rem xs (l.setIfInBounds j0 false) → k = j0 ∨ (k, x) ∈ rem xs l := by
        intro k x hk
        obtain ⟨h1, h2⟩ := mem_rem.1 hk
        by_cases hkj : k = j0
        · exact .inl hkj
        · rw [getD_ne (Ne.symm hkj)] at h2
          exact .inr (mem_rem.2 ⟨h1, h2⟩)
      have hmR : (m, xs[m]) ∈ rem xs (l.setIfInBounds j0 false) := mem_rem.2 ⟨hxm, by rw [getD_ne (Ne.symm hmj)]; exact hmf⟩
      obtain ⟨pre, post, hsplit⟩ := List.append_of_mem hmR
      have hsort := rem_sorted xs (l.setIfInBounds j0 false)
      rw [hsplit] at hsort
      have apart0 : apartX xs[m] (lateX T sz cells d bf p) ∨ apartX (lateX T sz cells d bf p) xs[m] := by
        rcases Nat.lt_or_gt_of_ne hmj with hlt' | hgt
        · exact .inl (hd.pair m j0 _ _ hxm hx0 hlt' (nb0 hmmem)).1
        · exact .inr (hd.pair j0 m _ _ hx0 hxm hgt hmnb).1
      have hdst : xs[m].dst ≠ some d := by
        intro h'
        rcases apart0 with h1 | h1
        · exact (h1.1 d h').2 rfl
        · exact (h1.1 d rfl).2 h'
      have hpre : ∀ q ∈ pre, Pass m xs[m] q ∧ ∃ o, OpOk P N ops o q.2 := by
        intro q hq
        obtain ⟨k, x⟩ := q
        have hkm : k < m := (List.pairwise_append.1 hsort).2.2 (k, x) hq (m, xs[m]) List.mem_cons_self
        have hqm : (k, x) ∈ rem xs (l.setIfInBounds j0 false) := by rw [hsplit]; exact List.mem_append_left _ hq
        have hx := (mem_rem.1 hqm).1
        have hkl : k < ops.size := by rw [← hd.len]; exact (List.getElem?_eq_some_iff.1 hx).1
        have hnb : xs[m].before.contains k = false := by
          rcases hR hqm with rfl | hk
          · exact hmnb
          · cases hc : xs[m].before.contains k with
            | false => rfl
            | true => have := hbef k hc; rw [notdone hk] at this; cases this
        obtain ⟨g1, g2⟩ := hd.pair k m x xs[m] hx hxm hkm hnb
        refine ⟨⟨g1, hnb, g2 ?_⟩, ops[k], hd.op k _ x (Array.getElem?_eq_getElem hkl) hx⟩
        rw [hlt]; intro h'; exact hmj (Option.some.inj h').symm
      rw [hsplit] at h
      have hone := pull hpre h hs ha
      have hremR : rem xs ((l.setIfInBounds j0 false).setIfInBounds m true) = pre ++ post := rem_take (by rw [hl1s]; exact hms) hsplit
      have hcomm : (l.setIfInBounds m true).setIfInBounds j0 false = (l.setIfInBounds j0 false).setIfInBounds m true := set_comm hmj
      have hl' : (l.setIfInBounds m true).getD j0 false = true := getD_set_true hl0
      have hlen' : (rem xs (l.setIfInBounds m true)).length = fuel := by
        obtain ⟨p1, p2, hs2⟩ := List.append_of_mem hmmem
        rw [rem_take hms hs2]
        have := congrArg List.length hs2
        simp at this ⊢
        omega
      have hnext := ih (l.setIfInBounds m true) (by simpa using hl) hlen' (hdown.set hxm hbef)
      refine xone_ok hom (hd.op m om _ hom hxm) hone hs ha fun v v' H' I' w' hk h2 h3 h4 => ?_
      have hfd' : look (putd fr xs[m].dst v) d = none := by rw [look_putd hdst]; exact hfd
      have hod : om.dst ≠ some d := by rw [(hd.op m om _ hom hxm).dst]; exact hdst
      have hB' : (a.put om.dst v').tmps.getD d undef = .pointer (some ⟨B, 0, none⟩) := by
        rw [← hB]
        cases hh : om.dst with
        | none => rfl
        | some e =>
          have : e ≠ d := fun h' => hod (by rw [hh, h'])
          simp [Act.put, Array.getD_eq_getD_getElem?, Array.getElem?_setIfInBounds_ne this]
      have hp' := hp.mono h2
      have hQ' : ∀ fr' H'' I'' w'' a'', K fr' H'' → (I'.unp B).le I'' → Sim I'' H'' w'' → AR N I'' fr' a'' → Q .normal a'' w'' :=
        fun fr' H'' I'' w'' a'' g1 g2 g3 g4 => hQ fr' H'' I'' w'' a'' g1 ((Inj.le_unp h2 hp.base).trans g2) g3 g4
      rw [← hremR, ← hcomm] at hk
      by_cases hmore : ∃ k x, (k, x) ∈ rem xs (l.setIfInBounds m true) ∧ k < j0 ∧ x.op.eff = true
      · exact hnext.2 hlt hx0 hl' hmore hfd' hk h3 h4 hp' hB' hQ'
      · -- it is named now
        have hj0R : (j0, lateX T sz cells d bf p) ∈ rem xs ((l.setIfInBounds m true).setIfInBounds j0 false) := mem_rem.2 ⟨hx0, by simp [hj0s]⟩
        obtain ⟨pre2, post2, hsplit2⟩ := List.append_of_mem hj0R
        have hsort2 := rem_sorted xs ((l.setIfInBounds m true).setIfInBounds j0 false)
        rw [hsplit2] at hsort2
        have hl2 : ((l.setIfInBounds m true).setIfInBounds j0 false).setIfInBounds j0 true = l.setIfInBounds m true := set_back (by simpa using hj0s) hl'
        have hrem2 : rem xs (l.setIfInBounds m true) = pre2 ++ post2 := by
          have := rem_take (xs := xs) (l := (l.setIfInBounds m true).setIfInBounds j0 false) (j := j0) (by simpa using hj0s) hsplit2
          rw [hl2] at this
          exact this
        have hpre2 : ∀ q ∈ pre2, Pass j0 (lateX T sz cells d bf p) q := by
          intro q hq
          obtain ⟨k, x⟩ := q
          have hkj : k < j0 := (List.pairwise_append.1 hsort2).2.2 (k, x) hq (j0, _) List.mem_cons_self
          have hqm : (k, x) ∈ rem xs (l.setIfInBounds m true) := by rw [hrem2]; exact List.mem_append_left _ hq
          have hkm : k ≠ m := by
            rintro rfl
            have := (mem_rem.1 hqm).2
            simp [hms] at this
          have hql : (k, x) ∈ rem xs l := by
            obtain ⟨q1, q2⟩ := mem_rem.1 hqm
            rw [getD_ne (Ne.symm hkm)] at q2
            exact mem_rem.2 ⟨q1, q2⟩
          have hnb := nb0 hql
          obtain ⟨g1, _⟩ := hd.pair k j0 x _ (mem_rem.1 hql).1 hx0 hkj hnb
          exact ⟨g1, hnb, fun ⟨q1, _⟩ => hmore ⟨k, x, hqm, hkj, q1⟩⟩
        rw [hsplit2] at hk
        have h5 := pullC rfl hpre2 hk
        have h6 : optP (xef (.new T sz cells) (putd fr xs[m].dst v) H') fun r => logOk [] bf r.2 ∧ xdraw P (pre2 ++ post2) [] [] K (putd (putd fr xs[m].dst v) (some d) r.1) r.2 := h5
        obtain ⟨_, _, cells', _, _, _, hx00, _, hone⟩ := hd.late j0 hlt
        rw [hx0] at hx00
        simp only [Option.some.injEq, lateX, XO.mk.injEq, XOp.ef.injEq, XEf.new.injEq] at hx00
        obtain ⟨_, ⟨_, _, rfl⟩, _⟩ := hx00
        simp only [xef, hone, if_true, optP_some] at h6
        obtain ⟨J, j1, j2, j3, j4, j5, j6⟩ := h3.of_pend hp'
        obtain ⟨cs0, pd0, _⟩ := hp'.ex
        have hz0 := (h3.fz.pend _ _ pd0).1
        refine hnext.1 (by rw [hrem2]; exact h6.2) j2 ?_ (fun fr' H'' I'' w'' a'' g1 g2 g3 g4 => hQ' fr' H'' I'' w'' a'' g1 (j1.trans g2) g3 g4)
        refine ⟨h4.defers, h4.size, fun t u ht => ?_⟩
        have ht' : look ((putd fr xs[m].dst v).put d (.ptr H'.size 0 0)) t = some u := ht
        rw [look_put] at ht'
        split at ht'
        · rename_i htd
          subst htd
          cases ht'
          obtain ⟨oj0, hoj0⟩ : ∃ o, ops[j0]? = some o := ⟨_, Array.getElem?_eq_getElem (by rw [← hd.len]; exact hj0l)⟩
          refine ⟨(hd.op j0 oj0 _ hoj0 hx0).lt _ rfl, ?_⟩
          simp only [VR]
          refine ⟨by omega, ?_⟩
          rw [hB', j4, j5]; simp
        · obtain ⟨m1, m2⟩ := h4.val t u ht'
          exact ⟨m1, (VR_unp hz0 m2).mono j1⟩
end

/-- a region that draws its order, walked in the order of the text -/
theorem xdraw_ok {xs : List XO} (hm : P.follows .mixedOrders = true) {lt : Option Nat} (hd : DrawOk P N ops xs lt) {id : Nat} {Q : Exit → Act → World → Prop} {fr : AFr} {H : AHeap} (h : xdraw P (enum xs) [] [] K fr H) {I : Inj} {w : World} {a : Act} (hs : Sim I H w) (ha : AR N I fr a)
    (hQ : ∀ fr' H' I' w' a', K fr' H' → I.le I' → Sim I' H' w' → AR N I' fr' a' → Q .normal a' w') : (Code.region id ops true).wp P Q a w := by
  have hall : rem xs (Array.replicate ops.size false) = enum xs := by
    unfold rem
    refine List.filter_eq_self.2 fun p hp => ?_
    obtain ⟨k, x⟩ := p
    have := (List.getElem?_eq_some_iff.1 (mem_enum.1 hp)).1
    rw [hd.len] at this
    simp [this]
  refine wp_region_any hm ?_
  refine (draw_any hd ops.size _ (by simp) ?_ ?_).1 (by rw [hall]; exact h) (hs.drawn (w.drawn + 1) (Nat.le_succ _)) ha hQ
  · rw [hall]; simp [enum, hd.len]
  · intro m y hm' hml
    have hlt := (List.getElem?_eq_some_iff.1 hm').1
    rw [hd.len] at hlt
    simp [hlt] at hml
end
end Go.Am
