/- The abstract machine, part O: rules for weakest preconditions. -/
import Derived.Test.YtafedebfkdnpfaaGreatAmN
namespace Go.Am
open Go Go.RowKit

section
variable {P : Program}

theorem optP_mono {α : Type} {o : Option α} {K K' : α → Prop} (h : optP o K) (hk : ∀ a, K a → K' a) : optP o K' := by
  cases o with
  | none => exact h.elim
  | some a => exact hk a h

theorem xact_mono {o : XOp} {fr : AFr} {H : AHeap} {K K' : AV → AHeap → Prop} (h : xact P o fr H K) (hk : ∀ v H', K v H' → K' v H') : xact P o fr H K' := by
  cases o with
  | rd x => exact optP_mono h fun v => hk v H
  | ef x => exact optP_mono h fun r => hk r.1 r.2
  | call f args => exact optP_mono h fun vs hc => hc.mono hk
  | bad => exact h.elim
  | callv f args => exact optP_mono h fun fv h => optP_mono h fun vs h => optP_mono h fun r hc => hc.mono hk

theorem xops_mono : ∀ {xs : List XO} {K K' : AFr → AHeap → Prop} {fr : AFr} {H : AHeap}, xops P xs K fr H → (∀ fr H, K fr H → K' fr H) → xops P xs K' fr H
  | [], _, _, _, _, h, hk => hk _ _ h
  | _ :: _, _, _, _, _, h, hk => xone_mono h fun _ _ h => xops_mono h hk

theorem xdraw_mono : ∀ {xs : List (Nat × XO)} {sn : Snap} {lg : Log} {K K' : AFr → AHeap → Prop} {fr : AFr} {H : AHeap}, xdraw P xs sn lg K fr H → (∀ fr H, K fr H → K' fr H) → xdraw P xs sn lg K' fr H
  | [], _, _, _, _, _, _, h, hk => hk _ _ h
  | (k, o) :: r, sn, lg, K, K', fr, H, h, hk => by
    unfold xdraw at *
    split at h
    · rename_i he
      rw [if_pos he]
      exact xone_mono h fun v H' h => ⟨h.1, xdraw_mono h.2 hk⟩
    · rename_i he
      rw [if_neg he]
      split at h
      · rename_i hp
        rw [if_pos hp]
        exact xone_mono h fun v H' h => xdraw_mono h hk
      · rename_i hp
        rw [if_neg hp]
        exact xone_mono h fun v H' h => ⟨h.1, xdraw_mono h.2 hk⟩

theorem kept_mono {ks : List Nat} {K K' : List AV → AHeap → Prop} {fr : AFr} {H : AHeap} (h : kept ks K fr H) (hk : ∀ vs H, K vs H → K' vs H) : kept ks K' fr H := optP_mono h fun vs => hk vs H

theorem iter_mono {step step' : (List AV → AHeap → Prop) → List AV → AHeap → Prop} (hs : ∀ K K' vs H, (∀ vs H, K vs H → K' vs H) → step K vs H → step' K' vs H) : ∀ {n : Nat} {vs : List AV} {H : AHeap}, iter step n vs H → iter step' n vs H
  | 0, _, _, h => h
  | _ + 1, _, _, h => hs _ _ _ _ (fun _ _ h => iter_mono hs h) h

theorem dwp_mono : ∀ {c : XCode} {Q Q' : XPost} {fr : AFr} {H : AHeap}, dwp P c Q fr H → (∀ e fr H, Q e fr H → Q' e fr H) → dwp P c Q' fr H := by
  intro c
  induction c with
  | skip => intro Q Q' fr H h hq; exact hq _ _ _ h
  | seq a b ih1 ih2 =>
    intro Q Q' fr H h hq
    refine ih1 h fun e fr H h => ?_
    cases e with
    | normal => exact ih2 h hq
    | _ => exact hq _ _ _ h
  | region xs => intro Q Q' fr H h hq; exact xops_mono h fun fr H h => hq _ _ _ h
  | draw xs => intro Q Q' fr H h hq; exact xdraw_mono h fun fr H h => hq _ _ _ h
  | cond x a b ih1 ih2 => intro Q Q' fr H h hq; exact optP_mono h fun t ht => ⟨fun e => ih1 (ht.1 e) hq, fun e => ih2 (ht.2 e) hq⟩
  | block id a ih =>
    intro Q Q' fr H h hq
    refine ih h fun e fr H h => ?_
    cases e with
    | exit id' =>
      simp only [blockQ_exit] at *
      split at h
      · rename_i he; rw [if_pos he]; exact hq _ _ _ h
      · rename_i he; rw [if_neg he]; exact hq _ _ _ h
    | _ => exact hq _ _ _ h
  | loop ks a ih =>
    intro Q Q' fr H h hq
    refine kept_mono h fun vs H ⟨n, hn⟩ => ⟨n, iter_mono (step' := fun K vs H => dwp P a (thenQ (kept ks K) Q') (frOf ks vs) H) (fun K K' vs H hk h => ih h fun e fr H h => ?_) hn⟩
    cases e with
    | normal => exact kept_mono h hk
    | _ => exact hq _ _ _ h
  | exit id => intro Q Q' fr H h hq; exact hq _ _ _ h
  | scope l ks a r ih1 ih2 =>
    intro Q Q' fr H h hq
    refine ih1 h fun e fr H h => ?_
    cases e with
    | goto l' =>
      refine ⟨h.1, kept_mono h.2 fun vs H ⟨n, hn⟩ => ⟨n, iter_mono (step' := fun K vs H => dwp P r (jumpQ l (kept ks K) Q') (frOf ks vs) H) (fun K K' vs H hk h => ih2 h fun e fr H h => ?_) hn⟩⟩
      cases e with
      | goto l'' => exact ⟨h.1, kept_mono h.2 hk⟩
      | _ => exact hq _ _ _ h
    | _ => exact hq _ _ _ h
  | label l => intro Q Q' fr H h hq; exact hq _ _ _ h
  | goto l => intro Q Q' fr H h hq; exact hq _ _ _ h
  | ret => intro Q Q' fr H h hq; exact hq _ _ _ h
  | keep ks a ih => intro Q Q' fr H h hq; exact kept_mono h fun vs H h => ih h hq
  | straight a ih =>
    intro Q Q' fr H h hq
    refine ih h fun e fr H h => ?_
    cases e with
    | goto l => exact h.elim
    | _ => exact hq _ _ _ h

/-- A cut: what holds of what is kept behind the first part. -/
theorem dwp_cut {ks : List Nat} {a b : XCode} {Q : XPost} {fr : AFr} {H : AHeap} (R : List AV → AHeap → Prop) (h1 : dwp P a (thenQ (kept ks R) Q) fr H) (h2 : ∀ vs H', R vs H' → dwp P b Q (frOf ks vs) H') : dwp P (.seq a (.keep ks b)) Q fr H := by
  show dwp P a (thenQ (dwp P (.keep ks b) Q) Q) fr H
  refine dwp_mono h1 fun e fr H h => ?_
  cases e with
  | normal => exact kept_mono h h2
  | _ => exact h

/-- A loop: what holds at each round, with a number that falls. -/
theorem dwp_loop {ks : List Nat} {a : XCode} {Q : XPost} {fr : AFr} {H : AHeap} (J : Nat → List AV → AHeap → Prop) (n : Nat) (h0 : kept ks (J n) fr H)
    (step : ∀ n vs H, J n vs H → dwp P a (thenQ (kept ks fun vs' H' => ∃ m, m < n ∧ J m vs' H') Q) (frOf ks vs) H) : dwp P (.loop ks a) Q fr H := by
  refine kept_mono h0 fun vs H hj => ⟨n + 1, ?_⟩
  have key : ∀ (n m : Nat), m < n → ∀ vs H, J m vs H → iter (fun K vs H => dwp P a (thenQ (kept ks K) Q) (frOf ks vs) H) n vs H := by
    intro n
    induction n with
    | zero => intro m hm; omega
    | succ n ih =>
      intro m hm vs H hj
      show dwp P a (thenQ (kept ks _) Q) (frOf ks vs) H
      refine dwp_mono (step m vs H hj) fun e fr H h => ?_
      cases e with
      | normal => exact kept_mono (K := fun vs' H' => ∃ m', m' < m ∧ J m' vs' H') h fun vs' H' ⟨m', h1, h2⟩ => ih m' (by omega) vs' H' h2
      | _ => exact h
  exact key (n + 1) n (by omega) vs H hj

/-- 'dwp_loop', with what is asked behind a round, and behind the loop, out of sight. -/
theorem dwp_loop' {ks : List Nat} {a : XCode} {Q : XPost} {fr : AFr} {H : AHeap} (J : Nat → List AV → AHeap → Prop) (n : Nat) (h0 : kept ks (J n) fr H)
    (step : ∀ (K : List AV → AHeap → Prop) (Q' : XPost) n vs H, (∀ m vs' H', m < n → J m vs' H' → K vs' H') → (∀ e fr H, Q e fr H → Q' e fr H) → J n vs H → dwp P a (thenQ (kept ks K) Q') (frOf ks vs) H) : dwp P (.loop ks a) Q fr H :=
  dwp_loop J n h0 fun n vs H hj => step _ Q n vs H (fun m _ _ h1 h2 => ⟨m, h1, h2⟩) (fun _ _ _ h => h) hj

/-- what is asked, out of sight -/
theorem dwp_hide {c : XCode} {Q : XPost} {fr : AFr} {H : AHeap} (h : ∀ Q' : XPost, (∀ e fr H, Q e fr H → Q' e fr H) → dwp P c Q' fr H) : dwp P c Q fr H := h Q fun _ _ _ h => h

/-- A scope whose text jumps back. -/
theorem dwp_scope {l : Nat} {ks : List Nat} {a r : XCode} {Q : XPost} {fr : AFr} {H : AHeap} (J : Nat → List AV → AHeap → Prop) (h0 : dwp P a (jumpQ l (kept ks fun vs H => ∃ n, J n vs H) Q) fr H)
    (step : ∀ n vs H, J n vs H → dwp P r (jumpQ l (kept ks fun vs' H' => ∃ m, m < n ∧ J m vs' H') Q) (frOf ks vs) H) : dwp P (.scope l ks a r) Q fr H := by
  have key : ∀ (n m : Nat), m < n → ∀ vs H, J m vs H → iter (fun K vs H => dwp P r (jumpQ l (kept ks K) Q) (frOf ks vs) H) n vs H := by
    intro n
    induction n with
    | zero => intro m hm; omega
    | succ n ih =>
      intro m hm vs H hj
      show dwp P r (jumpQ l (kept ks _) Q) (frOf ks vs) H
      refine dwp_mono (step m vs H hj) fun e fr H h => ?_
      cases e with
      | goto l' => exact ⟨h.1, kept_mono h.2 fun vs' H' ⟨m', h1, h2⟩ => ih m' (by omega) vs' H' h2⟩
      | _ => exact h
  show dwp P a (jumpQ l (kept ks _) Q) fr H
  refine dwp_mono h0 fun e fr H h => ?_
  cases e with
  | goto l' => exact ⟨h.1, kept_mono h.2 fun vs H ⟨n, hj⟩ => ⟨n + 1, key (n + 1) n (by omega) vs H hj⟩⟩
  | _ => exact h

/-! ### what memory is dropped, or stands beside -/

/-- a value without addresses -/
def AV.flat : AV → Bool
  | .bool _ | .int _ _ | .str _ | .nilptr | .nilslice | .nilmap | .nilfunc | .nilif => true
  | .tuple vs => vs.all fun v => match v with | .bool _ | .int _ _ | .str _ | .nilptr | .nilslice | .nilmap | .nilfunc | .nilif => true | _ => false
  | .func _ cs => cs.isEmpty
  | _ => false

theorem VRs_flat1 {I J : Inj} : ∀ {l : List AV} {vs : List Value}, (l.all fun v => match v with | .bool _ | .int _ _ | .str _ | .nilptr | .nilslice | .nilmap | .nilfunc | .nilif => true | _ => false) = true → VRs I l vs → VRs J l vs
  | [], vs, _, h => by simpa [VRs] using h
  | v :: l, vs, hf, h => by
    simp only [VRs] at h ⊢
    simp only [List.all_cons, Bool.and_eq_true] at hf
    obtain ⟨u, r, rfl, h1, h2⟩ := h
    refine ⟨u, r, rfl, ?_, VRs_flat1 hf.2 h2⟩
    have := hf.1
    cases v <;> simp_all [VR]

theorem VR_flat {I J : Inj} {v : AV} {u : Value} (hf : v.flat = true) (h : VR I v u) : VR J v u := by
  cases v <;> simp [AV.flat] at hf <;> simp only [VR] at h ⊢ <;> try exact h
  · rename_i f cs
    subst hf
    simpa [VRs] using h
  · rename_i vs
    obtain ⟨cs, h1, h2⟩ := h
    refine ⟨cs, h1, VRs_flat1 ?_ h2⟩
    simpa using hf
theorem VRs_flat {I J : Inj} : ∀ {l : List AV} {vs : List Value}, l.all AV.flat = true → VRs I l vs → VRs J l vs
  | [], vs, _, h => by simpa [VRs] using h
  | v :: l, vs, hf, h => by
    simp only [VRs] at h ⊢
    simp only [List.all_cons, Bool.and_eq_true] at hf
    obtain ⟨u, r, rfl, h1, h2⟩ := h
    exact ⟨u, r, rfl, VR_flat hf.1 h1, VRs_flat hf.2 h2⟩
end
end Go.Am
