/- The abstract machine, part P: closed calls beside what there is; what is dropped behind a call. -/
import Derived.Test.YtafedebfkdnpfaaGreatAmO
namespace Go.Am
open Go Go.RowKit

section
variable {P : Program}

theorem Sim.frame {I : Inj} {H : AHeap} {w w' : World} (h : Sim I H w) (hb : BelowD w.heap.size w w') : Sim I H w' := by
  have hbl : ∀ {b : Nat} {o : Obj}, w.heap[b]? = some o → w'.heap[b]? = some o := fun {b o} e => by
    rw [hb.block b (Array.getElem?_eq_some_iff.1 e).1]; exact e
  refine ⟨h.size, h.below.trans (hb.mono h.bs), Nat.le_trans h.bs hb.size, h.out, ?_, ?_, h.mapinj, h.head, h.one, h.sole, h.fz.step ⟨rfl, rfl⟩ (fun B hB => hb.block B (h.fz.lt hB)) h.fz.own⟩
  · intro b T sz es o hg
    obtain ⟨h1, h2, cs, T', fr, h3, h4, h5⟩ := h.row b T sz es o hg
    exact ⟨h1, h2, cs, T', fr, hbl h3, h4, h5⟩
  · intro b es hg
    obtain ⟨h1, xs, h2, h3⟩ := h.map b es hg
    exact ⟨h1, xs, hbl h2, h3⟩

/-- no memory of one's own yet -/
def Inj.start (w : World) (fz : Nat → Option (Array Value)) : Inj := ⟨0, id, fun _ => 0, fun _ => 0, fun _ => 0, id, w.heap.size, w, fz, fun _ => none⟩

theorem Sim.start (w : World) (fz : Nat → Option (Array Value)) (h : ∀ B cs, fz B = some cs → ∃ cs' T fr, w.heap[B]? = some (.cells cs' T fr) ∧ ∀ (k : Nat) v, cs[k]? = some v → cs'[k]? = some v) : Sim (Inj.start w fz) AHeap.empty w := by
  refine ⟨rfl, BelowD.refl _ _, Nat.le_refl _, fun _ _ => rfl, ?_, ?_, ?_, ?_, ?_, ?_, ⟨h, ?_, fun _ _ e => by cases e⟩⟩ <;> intros <;> rename_i h <;> simp_all [AHeap.empty]

theorem Sim.empty (w : World) : Sim (Inj.start w fun _ => none) AHeap.empty w := Sim.start w _ fun _ _ h => by cases h

/-- A call that needs no memory, beside what there is. -/
theorem ACalls.closed {f : FuncId} {args : List AV} {Q : AV → Prop} (h : ACalls P f args (fun v _ => v.flat = true ∧ Q v) AHeap.empty) (ha : args.all AV.flat = true) (H : AHeap) : ACalls P f args (fun v H' => H' = H ∧ Q v) H := by
  refine ⟨h.1, fun I w cargs hs hv => ?_⟩
  refine (h.2 _ w cargs (Sim.empty w) (VRs_flat ha hv)).mono fun e w' ⟨v, v', H', I', h1, ⟨h2, h3⟩, h4, h5, h6⟩ => ?_
  refine ⟨v, v', H, I, h1, ⟨rfl, h3⟩, Inj.le.refl I, hs.frame ?_, VR_flat h2 h6⟩
  have := h5.below
  rw [h4.base, h4.w0] at this
  exact this

/-! ### dropping -/
mutual
/-- it names no block from n on -/
def AV.lo (n : Nat) : AV → Bool
  | .ptr b _ _ | .slice _ b _ _ _ | .sub b _ _ _ | .map b => decide (b < n)
  | .func _ cs => AV.los n cs
  | .iface _ v => AV.lo n v
  | .agg cs | .tuple cs | .elem cs _ => AV.los n cs
  | .fs _ es => AV.loss n es
  | _ => true
def AV.los (n : Nat) : List AV → Bool
  | [] => true
  | a :: l => AV.lo n a && AV.los n l
def AV.loss (n : Nat) : List (List AV) → Bool
  | [] => true
  | a :: l => AV.los n a && AV.loss n l
end

mutual
theorem VR_below {J : Inj} {n : Nat} : ∀ {a : AV} {u : Value}, a.lo n = true → VR J a u → VR (J.cut n) a u
  | .bool _, _, _, h => h
  | .int _ _, _, _, h => h
  | .str _, _, _, h => h
  | .nilptr, _, _, h => h
  | .nilslice, _, _, h => h
  | .nilmap, _, _, h => h
  | .nilfunc, _, _, h => h
  | .nilif, _, _, h => h
  | .ptr b i j, u, g, h => by
    simp only [VR, AV.lo, decide_eq_true_eq] at *
    exact ⟨g, h.2⟩
  | .slice sz b i l c, u, g, h => by
    simp only [VR, AV.lo, decide_eq_true_eq] at *
    exact ⟨g, h.2⟩
  | .sub b i j l, u, g, h => by
    simp only [VR, AV.lo, decide_eq_true_eq] at *
    exact ⟨g, h.2⟩
  | .map b, u, g, h => by
    simp only [VR, AV.lo, decide_eq_true_eq] at *
    exact ⟨g, h.2⟩
  | .func f caps, u, g, h => by
    simp only [VR, AV.lo] at *
    obtain ⟨c2, e, h1⟩ := h
    exact ⟨c2, e, VRs_below g h1⟩
  | .iface t x, u, g, h => by
    simp only [VR, AV.lo] at *
    obtain ⟨c2, e, h1⟩ := h
    exact ⟨c2, e, VR_below g h1⟩
  | .agg l, u, g, h => by
    simp only [VR, AV.lo] at *
    obtain ⟨c2, e, h1⟩ := h
    exact ⟨c2, e, VRs_below g h1⟩
  | .tuple l, u, g, h => by
    simp only [VR, AV.lo] at *
    obtain ⟨c2, e, h1⟩ := h
    exact ⟨c2, e, VRs_below g h1⟩
  | .fs sz es, u, g, h => by
    simp only [VR, AV.lo] at *
    obtain ⟨us, h1, h2, h3⟩ := h
    exact ⟨us, VRss_below g h1, h2, h3⟩
  | .elem e j, u, g, h => by
    simp only [VR, AV.lo] at *
    obtain ⟨B, O, us, h0, h1, h2, h3⟩ := h
    exact ⟨B, O, us, h0, h1, VRs_below g h2, h3⟩
theorem VRs_below {J : Inj} {n : Nat} : ∀ {l : List AV} {u : List Value}, AV.los n l = true → VRs J l u → VRs (J.cut n) l u
  | [], _, _, h => by simpa [VRs] using h
  | a :: l, u, g, h => by
    simp only [VRs, AV.los, Bool.and_eq_true] at *
    obtain ⟨v2, r2, e, h1, h2⟩ := h
    exact ⟨v2, r2, e, VR_below g.1 h1, VRs_below g.2 h2⟩
theorem VRss_below {J : Inj} {n sz : Nat} : ∀ {l : List (List AV)} {u : List Value}, AV.loss n l = true → VRss J sz l u → VRss (J.cut n) sz l u
  | [], _, _, h => by simpa [VRss] using h
  | a :: l, u, g, h => by
    simp only [VRss, AV.loss, Bool.and_eq_true] at *
    obtain ⟨v2, r2, e, e0, h1, h2⟩ := h
    exact ⟨v2, r2, e, e0, VRs_below g.1 h1, VRss_below g.2 h2⟩
end

def AObj.lo (n : Nat) : AObj → Bool
  | .dead => true
  | .row _ _ es _ => AV.loss n es
  | .map es => es.all fun p => p.1.lo n && p.2.lo n

theorem belowss_get {n : Nat} : ∀ {es : List (List AV)}, AV.loss n es = true → ∀ {i : Nat} {e : List AV}, es[i]? = some e → AV.los n e = true
  | [], _, i, e, h => by simp at h
  | a :: l, g, i, e, h => by
    simp only [AV.loss, Bool.and_eq_true] at g
    cases i with
    | zero => simp at h; subst h; exact g.1
    | succ i => exact belowss_get g.2 (by simpa using h)
theorem belows_get {n : Nat} : ∀ {es : List AV}, AV.los n es = true → ∀ {i : Nat} {e : AV}, es[i]? = some e → AV.lo n e = true
  | [], _, i, e, h => by simp at h
  | a :: l, g, i, e, h => by
    simp only [AV.los, Bool.and_eq_true] at g
    cases i with
    | zero => simp at h; subst h; exact g.1
    | succ i => exact belows_get g.2 (by simpa using h)

/-- what came new is forgotten; what was there, and is told still, is as it is now -/
structure TrimTo (H H' H'' : AHeap) : Prop where
  size : H''.size = H.size
  out : ∀ b, H.size ≤ b → H''.get b = .dead
  get : ∀ b, b < H.size → H''.get b = .dead ∨ H''.get b = H'.get b ∧ (H'.get b = H.get b ∨ (H'.get b).lo H.size = true)

theorem Sim.trim {I J : Inj} {H H' H'' : AHeap} {w w' : World} (h : Sim I H w) (h' : Sim J H' w') (hI : I.le J) (hH : TrimTo H H' H'') : Sim (J.cut I.n) H'' w' := by
  have hg : ∀ {b : Nat} {o : AObj}, H''.get b = o → o ≠ .dead → H'.get b = o ∧ (H.get b = o ∨ o.lo H.size = true) := by
    intro b o e hne
    rcases Nat.lt_or_ge b H.size with hlt | hge
    · rcases hH.get b hlt with h1 | ⟨h1, h2⟩
      · rw [h1] at e; exact absurd e.symm hne
      · rw [h1] at e
        subst e
        exact ⟨rfl, h2.imp (fun h => h.symm) id⟩
    · rw [hH.out b hge] at e
      exact absurd e.symm hne
  refine ⟨h.size.trans hH.size.symm, h'.below, h'.bs, fun b hb => hH.out b (by rw [← hH.size]; exact hb), ?_, ?_, ?_, ?_, ?_, ?_, ⟨h'.fz.held, fun b T sz es d h s hb => h'.fz.own b T sz es d h s (hg hb (by simp)).1, h'.fz.pend⟩⟩
  · intro b T sz es o e
    obtain ⟨k1, k2⟩ := hg e (by simp)
    obtain ⟨h1, h2, cs, T', fr, h3, h4, h5⟩ := h'.row b T sz es o k1
    refine ⟨h1, h2, cs, T', fr, h3, ?_, ?_⟩
    · intro i e' he j c hc
      obtain ⟨v, e1, e2, e3⟩ := h4 i e' he j c hc
      refine ⟨v, e1, ?_, e3⟩
      rcases k2 with k2 | k2
      · obtain ⟨g1, g2, gcs, gT', gfr, g3, g4, g5⟩ := h.row b T sz es o k2
        obtain ⟨v0, _, e4, _⟩ := g4 i e' he j c hc
        exact VR_cut hI.n e4 e2
      · rw [← h.size] at k2
        exact VR_below (belows_get (belowss_get k2 he) hc) e2
    · cases o <;> exact h5
  · intro b es e
    obtain ⟨k1, k2⟩ := hg e (by simp)
    obtain ⟨h1, xs, h2, h3, h4, h5⟩ := h'.map b es k1
    refine ⟨h1, xs, h2, h3, h4, fun i k v hk => ?_⟩
    obtain ⟨x, e1, e2, e3⟩ := h5 i k v hk
    refine ⟨x, e1, ?_⟩
    rcases k2 with k2 | k2
    · obtain ⟨_, ys, _, g3, _, g5⟩ := h.map b es k2
      obtain ⟨y, f1, f2, f3⟩ := g5 i k v hk
      exact ⟨VR_cut hI.n f2 e2, VR_cut hI.n f3 e3⟩
    · simp only [AObj.lo, List.all_eq_true, Bool.and_eq_true] at k2
      have := k2 (k, v) (List.mem_of_getElem? hk)
      rw [← h.size] at this
      exact ⟨VR_below this.1 e2, VR_below this.2 e3⟩
  · intro b x es es' e1 e2 e3
    exact h'.mapinj b x es es' (hg e1 (by simp)).1 (hg e2 (by simp)).1 e3
  · intro b x T sz es d s T' sz' es' d' h'' s' e1 e2 e3 e4
    exact h'.head b x T sz es d s T' sz' es' d' h'' s' (hg e1 (by simp)).1 (hg e2 (by simp)).1 e3 e4
  · intro b x T sz es d s T' sz' es' d' s' e1 e2 e3
    exact h'.one b x T sz es d s T' sz' es' d' s' (hg e1 (by simp)).1 (hg e2 (by simp)).1 e3
  · intro b x T sz es d h'' T' sz' es' d' h3 s' e1 e2 e3
    exact h'.sole b x T sz es d h'' T' sz' es' d' h3 s' (hg e1 (by simp)).1 (hg e2 (by simp)).1 e3

/-- A call behind which what came new is forgotten. -/
theorem ACalls.trim {f : FuncId} {args : List AV} {Q : AV → AHeap → Prop} {H : AHeap} (h : ACalls P f args (fun v H' => v.lo H.size = true ∧ ∃ H'', TrimTo H H' H'' ∧ Q v H'') H) : ACalls P f args Q H := by
  refine ⟨h.1, fun I w cargs hs hv => (h.2 I w cargs hs hv).mono fun e w' ⟨v, v', H', I', h1, ⟨h2, H'', h3, h4⟩, h5, h6, h7⟩ => ?_⟩
  refine ⟨v, v', H'', I'.cut I.n, h1, h4, Inj.le_cut h5, hs.trim h6 h5 h3, ?_⟩
  rw [hs.size]
  exact VR_below h2 h7

/-- A call that changes nothing that was there, and tells a plain value. -/
theorem ACalls.drop {f : FuncId} {args : List AV} {Q : AV → Prop} {H : AHeap} (h : ACalls P f args (fun v H' => H.Le H' ∧ v.flat = true ∧ Q v) H) : ACalls P f args (fun v H' => H' = H ∧ Q v) H := by
  refine ⟨h.1, fun I w cargs hs hv => (h.2 I w cargs hs hv).mono fun e w' ⟨v, v', H', I', h1, ⟨h2, h3, h4⟩, h5, h6, h7⟩ => ?_⟩
  exact ⟨v, v', H, I'.cut I.n, h1, ⟨rfl, h4⟩, Inj.le_cut h5, hs.drop h6 h5 h2, VR_flat h3 h7⟩
end
end Go.Am
