/- The abstract machine, part Ba: what is forgotten; what is made and not named yet. -/
import Derived.Test.YtafedebfkdnpfaaGreatAmB
namespace Go.Am
open Go Go.RowKit

def Inj.cut (I : Inj) (n : Nat) : Inj := { I with n := n }

mutual
theorem VR_cut {I J : Inj} (hn : I.n ≤ J.n) : ∀ {a : AV} {v u : Value}, VR I a v → VR J a u → VR (J.cut I.n) a u
  | .bool _, _, _, _, h => h
  | .int _ _, _, _, _, h => h
  | .str _, _, _, _, h => h
  | .nilptr, _, _, _, h => h
  | .ptr b i j, v, u, g, h => by
    simp only [VR] at *
    exact ⟨g.1, h.2⟩
  | .nilslice, _, _, _, h => h
  | .slice sz b i l c, v, u, g, h => by
    simp only [VR] at *
    exact ⟨g.1, h.2⟩
  | .sub b i j l, v, u, g, h => by
    simp only [VR] at *
    exact ⟨g.1, h.2⟩
  | .nilmap, _, _, _, h => h
  | .map b, v, u, g, h => by
    simp only [VR] at *
    exact ⟨g.1, h.2⟩
  | .nilfunc, _, _, _, h => h
  | .func f caps, v, u, g, h => by
    simp only [VR] at *
    obtain ⟨c1, _, g1⟩ := g
    obtain ⟨c2, e, h1⟩ := h
    exact ⟨c2, e, VRs_cut hn g1 h1⟩
  | .nilif, _, _, _, h => h
  | .iface t x, v, u, g, h => by
    simp only [VR] at *
    obtain ⟨c1, _, g1⟩ := g
    obtain ⟨c2, e, h1⟩ := h
    exact ⟨c2, e, VR_cut hn g1 h1⟩
  | .fs sz es, v, u, g, h => by
    simp only [VR] at *
    obtain ⟨vs, g1, _⟩ := g
    obtain ⟨us, h1, h2, h3⟩ := h
    exact ⟨us, VRss_cut hn g1 h1, h2, h3⟩
  | .elem e j, v, u, g, h => by
    simp only [VR] at *
    obtain ⟨_, _, vs, _, _, g1, _⟩ := g
    obtain ⟨B, O, us, h0, h1, h2, h3⟩ := h
    exact ⟨B, O, us, h0, h1, VRs_cut hn g1 h2, h3⟩
  | .agg l, v, u, g, h => by
    simp only [VR] at *
    obtain ⟨c1, _, g1⟩ := g
    obtain ⟨c2, e, h1⟩ := h
    exact ⟨c2, e, VRs_cut hn g1 h1⟩
  | .tuple l, v, u, g, h => by
    simp only [VR] at *
    obtain ⟨c1, _, g1⟩ := g
    obtain ⟨c2, e, h1⟩ := h
    exact ⟨c2, e, VRs_cut hn g1 h1⟩
theorem VRs_cut {I J : Inj} (hn : I.n ≤ J.n) : ∀ {l : List AV} {v u : List Value}, VRs I l v → VRs J l u → VRs (J.cut I.n) l u
  | [], _, _, _, h => by simpa [VRs] using h
  | a :: l, v, u, g, h => by
    simp only [VRs] at *
    obtain ⟨v1, r1, _, g1, g2⟩ := g
    obtain ⟨v2, r2, e, h1, h2⟩ := h
    exact ⟨v2, r2, e, VR_cut hn g1 h1, VRs_cut hn g2 h2⟩
theorem VRss_cut {I J : Inj} (hn : I.n ≤ J.n) {sz : Nat} : ∀ {l : List (List AV)} {v u : List Value}, VRss I sz l v → VRss J sz l u → VRss (J.cut I.n) sz l u
  | [], _, _, _, h => by simpa [VRss] using h
  | a :: l, v, u, g, h => by
    simp only [VRss] at *
    obtain ⟨v1, r1, _, _, g1, g2⟩ := g
    obtain ⟨v2, r2, e, e0, h1, h2⟩ := h
    exact ⟨v2, r2, e, e0, VRs_cut hn g1 h1, VRss_cut hn g2 h2⟩
end

theorem Inj.le_cut {I J : Inj} (h : I.le J) : I.le (J.cut I.n) := ⟨Nat.le_refl _, h.B, h.O, h.esz, h.csz, h.base, h.w0, h.fz, h.fzb, h.pd⟩

mutual
/-- a value without memory -/
def AV.pl : AV → Bool
  | .ptr _ _ _ | .slice _ _ _ _ _ | .sub _ _ _ _ | .map _ | .fs _ _ | .elem _ _ => false
  | .func _ cs => AV.pls cs
  | .iface _ v => AV.pl v
  | .agg cs | .tuple cs => AV.pls cs
  | _ => true
def AV.pls : List AV → Bool
  | [] => true
  | a :: l => AV.pl a && AV.pls l
end

mutual
theorem VR_pl {I J : Inj} : ∀ {a : AV} {u : Value}, a.pl = true → VR I a u → VR J a u
  | .bool _, _, _, h => h
  | .int _ _, _, _, h => h
  | .str _, _, _, h => h
  | .nilptr, _, _, h => h
  | .nilslice, _, _, h => h
  | .nilmap, _, _, h => h
  | .nilfunc, _, _, h => h
  | .nilif, _, _, h => h
  | .ptr b i j, u, g, h => by simp [AV.pl] at g
  | .slice sz b i l c, u, g, h => by simp [AV.pl] at g
  | .sub b i j l, u, g, h => by simp [AV.pl] at g
  | .map b, u, g, h => by simp [AV.pl] at g
  | .fs _ _, u, g, h => by simp [AV.pl] at g
  | .elem _ _, u, g, h => by simp [AV.pl] at g
  | .func f caps, u, g, h => by
    simp only [VR, AV.pl] at *
    obtain ⟨c2, e, h1⟩ := h
    exact ⟨c2, e, VRs_pl g h1⟩
  | .iface t x, u, g, h => by
    simp only [VR, AV.pl] at *
    obtain ⟨c2, e, h1⟩ := h
    exact ⟨c2, e, VR_pl g h1⟩
  | .agg l, u, g, h => by
    simp only [VR, AV.pl] at *
    obtain ⟨c2, e, h1⟩ := h
    exact ⟨c2, e, VRs_pl g h1⟩
  | .tuple l, u, g, h => by
    simp only [VR, AV.pl] at *
    obtain ⟨c2, e, h1⟩ := h
    exact ⟨c2, e, VRs_pl g h1⟩
theorem VRs_pl {I J : Inj} : ∀ {l : List AV} {u : List Value}, AV.pls l = true → VRs I l u → VRs J l u
  | [], _, _, h => by simpa [VRs] using h
  | a :: l, u, g, h => by
    simp only [VRs, AV.pls, Bool.and_eq_true] at *
    obtain ⟨v2, r2, e, h1, h2⟩ := h
    exact ⟨v2, r2, e, VR_pl g.1 h1, VRs_pl g.2 h2⟩
end

theorem pls_get : ∀ {l : List AV}, AV.pls l = true → ∀ {j : Nat} {c : AV}, l[j]? = some c → c.pl = true
  | [], _, j, c, h => by simp at h
  | a :: l, g, j, c, h => by
    simp only [AV.pls, Bool.and_eq_true] at g
    cases j with
    | zero => simp at h; subst h; exact g.1
    | succ j => exact pls_get g.2 (by simpa using h)

/-- what was there is there still, as it was -/
structure AHeap.Le (H H' : AHeap) : Prop where
  size : H.size ≤ H'.size
  get : ∀ b, b < H.size → H'.get b = H.get b
theorem AHeap.Le.refl (H : AHeap) : H.Le H := ⟨Nat.le_refl _, fun _ _ => rfl⟩
theorem AHeap.Le.trans {H H' H'' : AHeap} (h : H.Le H') (h' : H'.Le H'') : H.Le H'' := ⟨Nat.le_trans h.size h'.size, fun b hb => (h'.get b (Nat.lt_of_lt_of_le hb h.size)).trans (h.get b hb)⟩

section
variable {I J : Inj} {H : AHeap} {w : World}

theorem Sim.drop {H' : AHeap} {w' : World} (h : Sim I H w) (h' : Sim J H' w') (hI : I.le J) (hH : H.Le H') : Sim (J.cut I.n) H w' := by
  have hg : ∀ {b : Nat} {o : AObj}, H.get b = o → o ≠ .dead → H'.get b = o := by
    intro b o e hne
    rcases Nat.lt_or_ge b H.size with hlt | hge
    · rw [hH.get b hlt]; exact e
    · rw [h.out b hge] at e
      exact absurd e.symm hne
  refine ⟨h.size, h'.below, h'.bs, h.out, ?_, ?_, ?_, ?_, ?_, ?_, ⟨h'.fz.held, fun b T sz es d h s hb => h'.fz.own b T sz es d h s (hg hb (by simp)), h'.fz.pend⟩⟩
  · intro b T sz es o e
    obtain ⟨h1, h2, cs, T', fr, h3, h4, h5⟩ := h'.row b T sz es o (hg e (by simp))
    obtain ⟨g1, g2, gcs, gT', gfr, g3, g4, g5⟩ := h.row b T sz es o e
    refine ⟨h1, h2, cs, T', fr, h3, ?_, ?_⟩
    · intro i e' he j c hc
      obtain ⟨v, e1, e2, e3⟩ := h4 i e' he j c hc
      obtain ⟨v0, _, e4, _⟩ := g4 i e' he j c hc
      exact ⟨v, e1, VR_cut hI.n e4 e2, e3⟩
    · cases o <;> exact h5
  · intro b es e
    obtain ⟨h1, xs, h2, h3, h4, h5⟩ := h'.map b es (hg e (by simp))
    obtain ⟨_, ys, _, g3, _, g5⟩ := h.map b es e
    refine ⟨h1, xs, h2, h3, h4, fun i k v hk => ?_⟩
    obtain ⟨x, e1, e2, e3⟩ := h5 i k v hk
    obtain ⟨y, f1, f2, f3⟩ := g5 i k v hk
    exact ⟨x, e1, VR_cut hI.n f2 e2, VR_cut hI.n f3 e3⟩
  · intro b x es es' e1 e2 e3
    exact h'.mapinj b x es es' (hg e1 (by simp)) (hg e2 (by simp)) e3
  · intro b x T sz es d s T' sz' es' d' h'' s' e1 e2 e3 e4
    exact h'.head b x T sz es d s T' sz' es' d' h'' s' (hg e1 (by simp)) (hg e2 (by simp)) e3 e4
  · intro b x T sz es d s T' sz' es' d' s' e1 e2 e3
    exact h'.one b x T sz es d s T' sz' es' d' s' (hg e1 (by simp)) (hg e2 (by simp)) e3
  · intro b x T sz es d h'' T' sz' es' d' h3 s' e1 e2 e3
    exact h'.sole b x T sz es d h'' T' sz' es' d' h3 s' (hg e1 (by simp)) (hg e2 (by simp)) e3

/-- more is known to stay as it is -/
theorem Sim.refz (hs : Sim I H w) (hI : I.le J) (hn : J.n = I.n) (how : J.ow = I.ow) (hfz : ∀ B cs, J.fz B = some cs → ∃ cs' T fr, w.heap[B]? = some (.cells cs' T fr) ∧ ∀ (k : Nat) v, cs[k]? = some v → cs'[k]? = some v)
    (hown : ∀ b T sz es d h s, H.get b = .row T sz es (.own d h s) → J.fz (I.B b) = none) (hpd : ∀ B o, J.pd B = some o → J.fz B = some #[] ∧ w.heap[B]? = some o) : Sim J H w := by
  have hb : ∀ {b}, b < H.size → b < I.n := fun h => by rw [hs.size]; exact h
  have eB : ∀ {b}, b < H.size → J.B b = I.B b := fun h => hI.B _ (hb h)
  refine ⟨hn.trans hs.size, by rw [hI.base, hI.w0]; exact hs.below, by rw [hI.base]; exact hs.bs, hs.out, ?_, ?_, ?_, ?_, hs.one, hs.sole, ⟨hfz, ?_, hpd⟩⟩
  · intro b T sz es o e
    exact (hs.row b T sz es o e).mono hI (hb (hs.lt_of_row e)) (by rw [how]) rfl
  · intro b es e
    exact (hs.map b es e).mono hI (hb (hs.lt_of_map e)) rfl
  · intro b x es es' h1 h2 h3
    rw [eB (hs.lt_of_map h1), eB (hs.lt_of_map h2)] at h3
    exact hs.mapinj b x es es' h1 h2 h3
  · intro b x T sz es d s T' sz' es' d' h' s' h1 h2 h3 h4
    rw [eB (hs.lt_of_row h2), eB (hs.lt_of_row h1)] at h4
    exact hs.head b x T sz es d s T' sz' es' d' h' s' h1 h2 h3 h4
  · intro b T sz es d h s e
    rw [eB (hs.lt_of_row e)]
    exact hown b T sz es d h s e

/-- the same, seen otherwise -/
theorem Sim.reVR (hs : Sim I H w) (hn : J.n = I.n) (eB : J.B = I.B) (eO : J.O = I.O) (ee : J.esz = I.esz) (ec : J.csz = I.csz) (how : J.ow = I.ow) (eb : J.base = I.base) (ew : J.w0 = I.w0)
    (hv : ∀ a v, VR I a v → VR J a v) (hf : FzOk J H w) : Sim J H w := by
  refine ⟨hn.trans hs.size, by rw [eb, ew]; exact hs.below, by rw [eb]; exact hs.bs, hs.out, ?_, ?_, ?_, ?_, hs.one, hs.sole, hf⟩
  · intro b T sz es o e
    obtain ⟨h1, h2, cs, T', fr, h3, h4, h5⟩ := hs.row b T sz es o e
    refine ⟨by rw [ee]; exact h1, h2, cs, T', fr, by rw [eB]; exact h3, fun i e he j c hc => ?_, ?_⟩
    · obtain ⟨v, k1, k2, k3⟩ := h4 i e he j c hc
      exact ⟨v, by rw [eO]; exact k1, hv _ _ k2, k3⟩
    · cases o <;> simp only [OwnOk] at * <;> simp only [eB, eb, ec, eO, how] <;> exact h5
  · intro b es e
    obtain ⟨h1, xs, h2, h3, h4, h5⟩ := hs.map b es e
    refine ⟨by rw [eb, eB]; exact h1, xs, by rw [eB]; exact h2, h3, h4, fun i k v hk => ?_⟩
    obtain ⟨x, k1, k2, k3⟩ := h5 i k v hk
    exact ⟨x, k1, hv _ _ k2, hv _ _ k3⟩
  · rw [eB]; exact hs.mapinj
  · rw [eB]; exact hs.head

/-- made, and not named yet -/
def Inj.pend (I : Inj) (B : Nat) (o : Obj) : Inj := { I with fz := fun x => if x = B then some #[] else I.fz x, pd := fun x => if x = B then some o else I.pd x }
def Inj.unp (I : Inj) (B : Nat) : Inj := { I with fz := fun x => if x = B then none else I.fz x, pd := fun x => if x = B then none else I.pd x }

theorem FzSeg.unp {B0 B O : Nat} {vs : List Value} (h0 : I.fz B0 = some #[]) (h : FzSeg I B O vs) : FzSeg (I.unp B0) B O vs := by
  rcases h with h | ⟨cs, h1, h2⟩
  · exact .inl h
  · by_cases hB : B = B0
    · subst hB
      rw [h0] at h1
      cases h1
      left
      cases vs with
      | nil => rfl
      | cons v vs => have := h2 0 v rfl; simp at this
    · exact .inr ⟨cs, by simp [Inj.unp, hB]; exact h1, h2⟩

mutual
theorem VR_unp {I : Inj} {B0 : Nat} (h0 : I.fz B0 = some #[]) : ∀ {a : AV} {u : Value}, VR I a u → VR (I.unp B0) a u
  | .bool _, _, h => h
  | .int _ _, _, h => h
  | .str _, _, h => h
  | .nilptr, _, h => h
  | .nilslice, _, h => h
  | .nilmap, _, h => h
  | .nilfunc, _, h => h
  | .nilif, _, h => h
  | .ptr b i j, u, h => by
    simp only [VR] at *; exact h
  | .slice sz b i l c, u, h => by
    simp only [VR] at *; exact h
  | .sub b i j l, u, h => by
    simp only [VR] at *; exact h
  | .map b, u, h => by
    simp only [VR] at *; exact h
  | .func f caps, u, h => by
    simp only [VR] at *
    obtain ⟨c2, e, h1⟩ := h
    exact ⟨c2, e, VRs_unp h0 h1⟩
  | .iface t x, u, h => by
    simp only [VR] at *
    obtain ⟨c2, e, h1⟩ := h
    exact ⟨c2, e, VR_unp h0 h1⟩
  | .agg l, u, h => by
    simp only [VR] at *
    obtain ⟨c2, e, h1⟩ := h
    exact ⟨c2, e, VRs_unp h0 h1⟩
  | .tuple l, u, h => by
    simp only [VR] at *
    obtain ⟨c2, e, h1⟩ := h
    exact ⟨c2, e, VRs_unp h0 h1⟩
  | .fs sz es, u, h => by
    simp only [VR] at *
    obtain ⟨us, h1, h2, h3⟩ := h
    refine ⟨us, VRss_unp h0 h1, h2, h3.imp id ?_⟩
    rintro ⟨A, C, h4, h5, h6⟩
    refine ⟨A, C, h4, h5, h6.imp id ?_⟩
    rintro ⟨B, O, h7, h8⟩
    exact ⟨B, O, h7, h8.unp h0⟩
  | .elem e j, u, h => by
    simp only [VR] at *
    obtain ⟨B, O, us, k0, h1, h2, h3⟩ := h
    exact ⟨B, O, us, k0, h1.unp h0, VRs_unp h0 h2, h3⟩
theorem VRs_unp {I : Inj} {B0 : Nat} (h0 : I.fz B0 = some #[]) : ∀ {l : List AV} {u : List Value}, VRs I l u → VRs (I.unp B0) l u
  | [], _, h => by simpa [VRs] using h
  | a :: l, u, h => by
    simp only [VRs] at *
    obtain ⟨v2, r2, e, h1, h2⟩ := h
    exact ⟨v2, r2, e, VR_unp h0 h1, VRs_unp h0 h2⟩
theorem VRss_unp {I : Inj} {B0 : Nat} (h0 : I.fz B0 = some #[]) {sz : Nat} : ∀ {l : List (List AV)} {u : List Value}, VRss I sz l u → VRss (I.unp B0) sz l u
  | [], _, h => by simpa [VRss] using h
  | a :: l, u, h => by
    simp only [VRss] at *
    obtain ⟨v2, r2, e, e0, h1, h2⟩ := h
    exact ⟨v2, r2, e, e0, VRs_unp h0 h1, VRss_unp h0 h2⟩
end

/-- a new row where nobody's block is -/
theorem Sim.new_row_at (h : Sim I H w) {T : TypeId} {sz : Nat} {es : List (List AV)} {cs : Array Value} {B : Nat} (hB : w.heap[B]? = some (.cells cs T (0, 0))) (hbase : I.base ≤ B) (hfz : I.fz B = none)
    (hne : ∀ b T sz es o, H.get b = .row T sz es o → I.B b ≠ B) (hlen : ∀ e ∈ es, e.length = sz) (hc : Cells I cs 0 sz es) (hsz : es.length * sz ≤ cs.size) :
    Sim (I.ext B 0 sz cs.size H.size) (H.new (.row T sz es (.own 0 true true))) w := by
  have hI := Inj.le_ext I B 0 sz cs.size H.size
  have eB : ∀ b, b < H.size → (I.ext B 0 sz cs.size H.size).B b = I.B b := fun b hb => hI.B b (by rw [h.size]; exact hb)
  have eN : (I.ext B 0 sz cs.size H.size).B H.size = B := by simp [Inj.ext, h.size]
  refine ⟨by simp [Inj.ext, AHeap.new, h.size], h.below, h.bs, ?_, ?_, ?_, ?_, ?_, ?_, ?_, h.fz.step ⟨rfl, rfl⟩ (fun B hB => rfl) ?_⟩
  rotate_right
  · intro b T' sz' es' d' h' s' hb
    rw [AHeap.get_new] at hb
    split at hb
    · rename_i hbs
      subst hbs
      rw [eN]
      exact hfz
    · rw [eB b (h.lt_of_row hb)]
      exact h.fz.own b _ _ _ _ _ _ hb
  · intro b hb
    have hb' : H.size + 1 ≤ b := hb
    rw [AHeap.get_new, if_neg (by omega)]
    exact h.out b (by omega)
  · intro b T' sz' es' o hb
    rw [AHeap.get_new] at hb
    split at hb
    · rename_i hbs
      cases hb
      subst hbs
      refine ⟨by simp [Inj.ext, h.size], hlen, cs, T, (0, 0), ?_, ?_, ?_⟩
      · rw [eN]; exact hB
      · have : (I.ext B 0 sz cs.size H.size).O H.size = 0 := by simp [Inj.ext, h.size]
        rw [this]; exact hc.mono hI
      · simp only [OwnOk]
        refine ⟨by simp [Inj.ext, h.size], by rw [eN]; exact hbase, trivial, trivial, by rw [eN]; simp [Inj.ext], by simp [Inj.ext, h.size], hsz⟩
    · have r := h.row b T' sz' es' o hb
      have hlt := h.lt_of_row hb
      exact r.mono hI (by rw [h.size]; exact hlt) (by simp only [Inj.ext]; rw [if_neg (hne b _ _ _ _ hb)]) rfl
  · intro b es' hb
    rw [AHeap.get_new] at hb
    split at hb
    · cases hb
    · have r := h.map b es' hb
      exact r.mono hI (by rw [h.size]; exact h.lt_of_map hb) rfl
  · intro b x es1 es2 hb hx
    rw [AHeap.get_new] at hb hx
    split at hb
    · cases hb
    · split at hx
      · cases hx
      · rw [eB b (h.lt_of_map hb), eB x (h.lt_of_map hx)]; exact h.mapinj b x es1 es2 hb hx
  · intro b x T1 sz1 es1 d s T2 sz2 es2 d' h' s' hb hx hg hB
    rw [AHeap.get_new] at hb hx
    split at hb
    · rename_i hbs
      split at hx
      · cases hb; cases hx; exact Nat.le_refl _
      · subst hbs
        rw [eN, eB x (h.lt_of_row hx)] at hB
        exact absurd hB (hne x _ _ _ _ hx)
    · split at hx
      · rename_i hxs
        subst hxs
        rw [eN, eB b (h.lt_of_row hb)] at hB
        exact absurd hB.symm (hne b _ _ _ _ hb)
      · rw [eB b (h.lt_of_row hb), eB x (h.lt_of_row hx)] at hB
        exact h.head b x _ _ _ _ _ _ _ _ _ _ _ hb hx hg hB
  · intro b x T1 sz1 es1 d s T2 sz2 es2 d' s' hb hx hg
    rw [AHeap.get_new] at hb hx
    split at hb
    · rename_i hbs
      cases hb
      split at hx
      · rename_i hxs; rw [hbs, hxs]
      · have := h.lt_of_row hx; omega
    · split at hx
      · rename_i hxs
        cases hx
        have := h.lt_of_row hb; omega
      · exact h.one b x _ _ _ _ _ _ _ _ _ _ hb hx hg
  · intro b x T1 sz1 es1 d hd T2 sz2 es2 d' h' s' hb hx hg
    rw [AHeap.get_new] at hb hx
    split at hb
    · rename_i hbs
      cases hb
      split at hx
      · rename_i hxs; rw [hbs, hxs]
      · have := h.lt_of_row hx; omega
    · split at hx
      · rename_i hxs
        cases hx
        have := h.lt_of_row hb; omega
      · exact h.sole b x _ _ _ _ _ _ _ _ _ _ _ hb hx hg

/-- what is told of a block that is made and not named yet -/
structure Pend (I : Inj) (T sz : Nat) (cells : List AV) (B : Nat) : Prop where
  ex : ∃ cs, I.pd B = some (.cells cs T (0, 0)) ∧ Cells I cs 0 sz [cells] ∧ cells.length = sz ∧ sz ≤ cs.size
  base : I.base ≤ B

theorem Pend.mono {T sz : Nat} {cells : List AV} {B : Nat} (h : Pend I T sz cells B) (hI : I.le J) : Pend J T sz cells B := by
  obtain ⟨⟨cs, h1, h2, h3⟩, h4⟩ := h
  exact ⟨⟨cs, hI.pd B _ h1, h2.mono hI, h3⟩, by rw [hI.base]; exact h4⟩

/-- a new row is not named yet -/
theorem Sim.to_pend {w' : World} {T sz : Nat} {cells : List AV} (hs : Sim I H w) (h' : Sim J (H.new (.row T sz [cells] (.own 0 true true))) w') (hI : I.le J) (hpl : AV.pls cells = true) :
    ∃ I', I.le I' ∧ I.le (I'.unp (J.B H.size)) ∧ Sim I' H w' ∧ Pend I' T sz cells (J.B H.size) ∧ J.O H.size = 0 := by
  have hle : H.Le (H.new (.row T sz [cells] (.own 0 true true))) := ⟨by simp [AHeap.new], fun b hb => by rw [AHeap.get_new, if_neg (Nat.ne_of_lt hb)]⟩
  have hd := hs.drop h' hI hle
  have hrow := h'.row H.size T sz [cells] (.own 0 true true) (by rw [AHeap.get_new, if_pos rfl])
  obtain ⟨r1, r2, cs, T', fr, r3, r4, r5⟩ := hrow
  simp only [OwnOk] at r5
  obtain ⟨a1, a2, rfl, rfl, a5, a6, a7⟩ := r5
  have hfz : J.fz (J.B H.size) = none := h'.fz.own H.size _ _ _ _ _ _ (by rw [AHeap.get_new, if_pos rfl])
  have hpd : J.pd (J.B H.size) = none := by
    cases e : J.pd (J.B H.size) with
    | none => rfl
    | some o => have := (h'.fz.pend _ _ e).1; rw [hfz] at this; cases this
  have hneB : ∀ b T sz es d h s, H.get b = .row T sz es (.own d h s) → J.B b ≠ J.B H.size := by
    intro b T1 sz1 es1 d1 h1 s1 hb heq
    have hb' : (H.new (.row T' sz [cells] (.own 0 true true))).get b = .row T1 sz1 es1 (.own d1 h1 s1) := by
      rw [hle.get b (hs.lt_of_row hb)]; exact hb
    obtain ⟨_, _, _, _, _, _, _, q⟩ := h'.row b _ _ _ _ hb'
    simp only [OwnOk] at q
    have := q.2.2.2.2.1
    rw [heq, a5] at this
    have := hs.lt_of_row hb
    omega
  let I1 := J.cut I.n
  have hI1 : I.le I1 := Inj.le_cut hI
  let I2 := I1.pend (J.B H.size) (.cells cs T' (0, 0))
  have h12 : I1.le I2 := by
    refine ⟨Nat.le_refl _, fun _ _ => rfl, fun _ _ => rfl, fun _ _ => rfl, fun _ _ => rfl, rfl, rfl, fun B c e => ?_, fun B hB => ?_, fun B o e => ?_⟩
    · by_cases hB : B = J.B H.size
      · subst hB; have e' : J.fz (J.B H.size) = some c := e; rw [hfz] at e'; cases e'
      · simp [I2, Inj.pend, hB]; exact e
    · have : B ≠ J.B H.size := by
        have : B < J.base := hB
        omega
      simp [I2, Inj.pend, this]
    · by_cases hB : B = J.B H.size
      · subst hB; have e' : J.pd (J.B H.size) = some o := e; rw [hpd] at e'; cases e'
      · simp [I2, Inj.pend, hB]; exact e
  have hS : Sim I2 H w' := by
    refine hd.refz h12 rfl rfl (fun B c e => ?_) (fun b T1 sz1 es1 d1 h1 s1 hb => ?_) (fun B o e => ?_)
    · by_cases hB : B = J.B H.size
      · subst hB
        simp [I2, Inj.pend] at e
        subst e
        exact ⟨cs, T', (0, 0), r3, by simp⟩
      · simp [I2, Inj.pend, hB] at e
        exact hd.fz.held B c e
    · have : I1.B b ≠ J.B H.size := hneB b _ _ _ _ _ _ hb
      show (if I1.B b = J.B H.size then some #[] else I1.fz (I1.B b)) = none
      rw [if_neg this]
      exact hd.fz.own b _ _ _ _ _ _ hb
    · by_cases hB : B = J.B H.size
      · subst hB
        simp [I2, Inj.pend] at e ⊢
        subst e
        exact r3
      · simp [I2, Inj.pend, hB] at e ⊢
        exact hd.fz.pend B o e
  refine ⟨I2, hI1.trans h12, ?_, hS, ⟨⟨cs, by simp [I2, Inj.pend], ?_, r2 _ List.mem_cons_self, by simpa using a7⟩, a2⟩, a1⟩
  · have hf0 : I.fz (J.B H.size) = none := by
      cases e : I.fz (J.B H.size) with
      | none => rfl
      | some c => have := hI.fz _ _ e; rw [hfz] at this; cases this
    have hp0 : I.pd (J.B H.size) = none := by
      cases e : I.pd (J.B H.size) with
      | none => rfl
      | some c => have := hI.pd _ _ e; rw [hpd] at this; cases this
    refine ⟨hI1.n, hI1.B, hI1.O, hI1.esz, hI1.csz, hI1.base, hI1.w0, fun B c e => ?_, fun B hB => ?_, fun B o e => ?_⟩
    · have hB : B ≠ J.B H.size := by rintro rfl; rw [hf0] at e; cases e
      simp [Inj.unp, I2, Inj.pend, hB]; exact hI1.fz B c e
    · have : B ≠ J.B H.size := by rw [hI.base] at a2; omega
      simp [Inj.unp, I2, Inj.pend, this]; exact hI1.fzb B hB
    · have hB : B ≠ J.B H.size := by rintro rfl; rw [hp0] at e; cases e
      simp [Inj.unp, I2, Inj.pend, hB]; exact hI1.pd B o e
  · rw [a1] at r4
    intro i e he j c hc
    obtain ⟨v, k1, k2, k3⟩ := r4 i e he j c hc
    refine ⟨v, k1, ?_, k3⟩
    have hi : i = 0 := by have := (List.getElem?_eq_some_iff.1 he).1; simpa using this
    subst hi
    simp at he
    subst he
    exact VR_pl (pls_get hpl hc) k2

/-- it is named -/
theorem Sim.of_pend {T sz : Nat} {cells : List AV} {B : Nat} (hs : Sim I H w) (hp : Pend I T sz cells B) :
    ∃ J, (I.unp B).le J ∧ Sim J (H.new (.row T sz [cells] (.own 0 true true))) w ∧ J.n = H.size + 1 ∧ J.B H.size = B ∧ J.O H.size = 0 ∧ J.esz H.size = sz := by
  obtain ⟨⟨cs, h1, h2, h3, h4⟩, h5⟩ := hp
  obtain ⟨e1, e2⟩ := hs.fz.pend B _ h1
  have hv : ∀ a v, VR I a v → VR (I.unp B) a v := fun a v => VR_unp e1
  have hfz : FzOk (I.unp B) H w := by
    refine ⟨fun X c e => ?_, fun b T sz es d h s hb => ?_, fun X o e => ?_⟩
    · by_cases hX : X = B
      · subst hX; simp [Inj.unp] at e
      · simp [Inj.unp, hX] at e; exact hs.fz.held X c e
    · have := hs.fz.own b _ _ _ _ _ _ hb
      have hne : I.B b ≠ B := by intro heq; rw [heq, e1] at this; cases this
      show (if I.B b = B then none else I.fz (I.B b)) = none
      rw [if_neg hne]; exact this
    · by_cases hX : X = B
      · subst hX; simp [Inj.unp] at e
      · simp [Inj.unp, hX] at e ⊢; exact hs.fz.pend X o e
  have hS : Sim (I.unp B) H w := hs.reVR rfl rfl rfl rfl rfl rfl rfl rfl hv hfz
  have hlt : B < w.heap.size := lt_of_getElem? e2
  have hne : ∀ b T sz es o, H.get b = .row T sz es o → (I.unp B).B b ≠ B := by
    intro b T sz es o hb heq
    cases o with
    | ro =>
      obtain ⟨_, _, _, _, _, _, _, q⟩ := hs.row b _ _ _ _ hb
      simp only [OwnOk] at q
      have : I.B b = B := heq
      omega
    | own d h s =>
      have := hs.fz.own b _ _ _ _ _ _ hb
      have heq' : I.B b = B := heq
      rw [heq', e1] at this; cases this
  refine ⟨_, Inj.le_ext _ _ _ _ _ _, hS.new_row_at e2 h5 (by simp [Inj.unp]) hne (by simpa using h3) (fun i e he j c hc => ?_) (by simpa using h4), by simp [Inj.ext, Inj.unp, hs.size], by simp [Inj.ext, Inj.unp, hs.size], by simp [Inj.ext, Inj.unp, hs.size], by simp [Inj.ext, Inj.unp, hs.size]⟩
  obtain ⟨v, k1, k2, k3⟩ := h2 i e he j c hc
  exact ⟨v, k1, hv _ _ k2, k3⟩
end
end Go.Am
