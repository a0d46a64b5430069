/- The abstract machine, part Pa: what is told is frozen; calls of functions as of plain values. -/
import Derived.Test.YtafedebfkdnpfaaGreatAmP
namespace Go.Am
open Go Go.RowKit

mutual
/-- it names no block -/
def AV.nr : AV → Bool
  | .ptr _ _ _ | .slice _ _ _ _ _ | .sub _ _ _ _ | .map _ => false
  | .func _ cs => AV.nrs cs
  | .iface _ v => AV.nr v
  | .agg cs | .tuple cs | .elem cs _ => AV.nrs cs
  | .fs _ es => AV.nrss es
  | _ => true
def AV.nrs : List AV → Bool
  | [] => true
  | a :: l => AV.nr a && AV.nrs l
def AV.nrss : List (List AV) → Bool
  | [] => true
  | a :: l => AV.nrs a && AV.nrss l
end

/-- what is frozen here is frozen there -/
def FzLe (I J : Inj) : Prop := ∀ B cs, I.fz B = some cs → ∃ cs', J.fz B = some cs' ∧ ∀ (k : Nat) v, cs[k]? = some v → cs'[k]? = some v
theorem FzSeg.to {I J : Inj} (h : FzLe I J) {B O : Nat} {vs : List Value} (k : FzSeg I B O vs) : FzSeg J B O vs := by
  rcases k with k | ⟨cs, h1, h2⟩
  · exact .inl k
  obtain ⟨cs', h3, h4⟩ := h B cs h1
  exact .inr ⟨cs', h3, fun k v hk => h4 _ v (h2 k v hk)⟩

mutual
theorem VR_nr {I J : Inj} (hf : FzLe I J) : ∀ {a : AV} {u : Value}, a.nr = true → VR I a u → VR J a u
  | .bool _, _, _, h => h
  | .int _ _, _, _, h => h
  | .str _, _, _, h => h
  | .nilptr, _, _, h => h
  | .nilslice, _, _, h => h
  | .nilmap, _, _, h => h
  | .nilfunc, _, _, h => h
  | .nilif, _, _, h => h
  | .ptr b i j, u, g, h => by simp [AV.nr] at g
  | .slice sz b i l c, u, g, h => by simp [AV.nr] at g
  | .sub b i j l, u, g, h => by simp [AV.nr] at g
  | .map b, u, g, h => by simp [AV.nr] at g
  | .func f caps, u, g, h => by
    simp only [VR, AV.nr] at *
    obtain ⟨c2, e, h1⟩ := h
    exact ⟨c2, e, VRs_nr hf g h1⟩
  | .iface t x, u, g, h => by
    simp only [VR, AV.nr] at *
    obtain ⟨c2, e, h1⟩ := h
    exact ⟨c2, e, VR_nr hf g h1⟩
  | .agg l, u, g, h => by
    simp only [VR, AV.nr] at *
    obtain ⟨c2, e, h1⟩ := h
    exact ⟨c2, e, VRs_nr hf g h1⟩
  | .tuple l, u, g, h => by
    simp only [VR, AV.nr] at *
    obtain ⟨c2, e, h1⟩ := h
    exact ⟨c2, e, VRs_nr hf g h1⟩
  | .fs sz es, u, g, h => by
    simp only [VR, AV.nr] at *
    obtain ⟨us, h1, h2, h3⟩ := h
    refine ⟨us, VRss_nr hf g h1, h2, h3.imp id ?_⟩
    rintro ⟨A, C, h4, h5, h6⟩
    refine ⟨A, C, h4, h5, h6.imp id ?_⟩
    rintro ⟨B, O, h7, h8⟩
    exact ⟨B, O, h7, h8.to hf⟩
  | .elem e j, u, g, h => by
    simp only [VR, AV.nr] at *
    obtain ⟨B, O, us, h0, h1, h2, h3⟩ := h
    exact ⟨B, O, us, h0, h1.to hf, VRs_nr hf g h2, h3⟩
theorem VRs_nr {I J : Inj} (hf : FzLe I J) : ∀ {l : List AV} {u : List Value}, AV.nrs l = true → VRs I l u → VRs J l u
  | [], _, _, h => by simpa [VRs] using h
  | a :: l, u, g, h => by
    simp only [VRs, AV.nrs, Bool.and_eq_true] at *
    obtain ⟨v2, r2, e, h1, h2⟩ := h
    exact ⟨v2, r2, e, VR_nr hf g.1 h1, VRs_nr hf g.2 h2⟩
theorem VRss_nr {I J : Inj} (hf : FzLe I J) {sz : Nat} : ∀ {l : List (List AV)} {u : List Value}, AV.nrss l = true → VRss I sz l u → VRss J sz l u
  | [], _, _, h => by simpa [VRss] using h
  | a :: l, u, g, h => by
    simp only [VRss, AV.nrss, Bool.and_eq_true] at *
    obtain ⟨v2, r2, e, e0, h1, h2⟩ := h
    exact ⟨v2, r2, e, e0, VRs_nr hf g.1 h1, VRss_nr hf g.2 h2⟩
end

mutual
/-- 'v' frozen is the second one -/
def Frz (H : AHeap) (v : AV) : AV → Prop
  | .fs sz es' => (v = .nilslice ∧ es' = []) ∨ (∃ es, v = .fs sz es ∧ Frzss H es es') ∨ (∃ b i l c T rs d h s, v = .slice sz b i l c ∧ H.get b = .row T sz rs (.own d h s) ∧ i + l ≤ rs.length ∧ Frzss H ((rs.drop i).take l) es') ∨ (es' = [] ∧ ∃ b i c, v = .slice sz b i 0 c)
  | .elem e' j => (∃ e, v = .elem e j ∧ Frzs H e e') ∨ (∃ b i T sz rs d h s e, v = .ptr b i j ∧ H.get b = .row T sz rs (.own d h s) ∧ rs[i]? = some e ∧ Frzs H e e')
  | .agg l' => ∃ l, v = .agg l ∧ Frzs H l l'
  | .tuple l' => ∃ l, v = .tuple l ∧ Frzs H l l'
  | .func f l' => ∃ l, v = .func f l ∧ Frzs H l l'
  | .iface t x' => ∃ x, v = .iface t x ∧ Frz H x x'
  | .ptr _ _ _ => False
  | .slice _ _ _ _ _ => False
  | .sub _ _ _ _ => False
  | .map _ => False
  | .bool b => v = .bool b
  | .int k n => v = .int k n
  | .str s => v = .str s
  | .nilptr => v = .nilptr
  | .nilslice => v = .nilslice
  | .nilmap => v = .nilmap
  | .nilfunc => v = .nilfunc
  | .nilif => v = .nilif
def Frzs (H : AHeap) (vs : List AV) : List AV → Prop
  | [] => vs = []
  | a' :: l' => ∃ a l, vs = a :: l ∧ Frz H a a' ∧ Frzs H l l'
def Frzss (H : AHeap) (vs : List (List AV)) : List (List AV) → Prop
  | [] => vs = []
  | a' :: l' => ∃ a l, vs = a :: l ∧ Frzs H a a' ∧ Frzss H l l'
end

theorem Frzs.length {H : AHeap} : ∀ {l' l : List AV}, Frzs H l l' → l.length = l'.length
  | [], l, h => by simp only [Frzs] at h; simp [h]
  | a' :: l', l, h => by
    simp only [Frzs] at h
    obtain ⟨a, r, rfl, _, h2⟩ := h
    simp [Frzs.length h2]
theorem Frzss.length {H : AHeap} : ∀ {l' l : List (List AV)}, Frzss H l l' → l.length = l'.length
  | [], l, h => by simp only [Frzss] at h; simp [h]
  | a' :: l', l, h => by
    simp only [Frzss] at h
    obtain ⟨a, r, rfl, _, h2⟩ := h
    simp [Frzss.length h2]

/-- the rows of one's own lie there as they are frozen -/
def Snaps (I J : Inj) (H : AHeap) (w : World) : Prop := ∀ b T sz rs d h s, H.get b = .row T sz rs (.own d h s) → ∃ cs T' fr, w.heap[I.B b]? = some (.cells cs T' fr) ∧ J.fz (I.B b) = some cs

section
variable {I J : Inj} {H : AHeap} {w : World}

theorem snap_seg (hs : Sim I H w) (hj : Snaps I J H w) {b T sz rs d h s} (hb : H.get b = .row T sz rs (.own d h s)) (i n : Nat) :
    ∃ vs, VRs I ((rs.drop i).take n).flatten vs ∧ FzSeg J (I.B b) (I.O b + i * sz) vs ∧ (∀ v ∈ vs, v.oneCell' = true) ∧ I.esz b = sz ∧ ∀ e ∈ (rs.drop i).take n, e.length = sz := by
  obtain ⟨r1, r2, cs, T', fr, r3, r4, _⟩ := hs.row b _ _ _ _ hb
  obtain ⟨cs2, T2, fr2, g1, g2⟩ := hj b _ _ _ _ _ _ hb
  rw [r3] at g1
  cases g1
  obtain ⟨vs, h1, h2, h3⟩ := r4.seg r2 i n
  exact ⟨vs, h1, .inr ⟨cs, g2, h2⟩, h3, r1, fun e he => r2 e (List.mem_of_mem_drop (List.mem_of_mem_take he))⟩

mutual
theorem Frz_VR (hs : Sim I H w) (hf : FzLe I J) (hj : Snaps I J H w) : ∀ {a' a : AV} {u : Value}, Frz H a a' → VR I a u → VR J a' u
  | .fs sz es', a, u, g, h => by
    simp only [Frz] at g
    rcases g with ⟨rfl, rfl⟩ | ⟨es, rfl, g⟩ | ⟨b, i, l, c, T, rs, d, hd, s, rfl, g1, g2, g⟩ | ⟨rfl, b, i, c, rfl⟩
    · simp only [VR] at *
      subst h
      exact ⟨[], by simp [VRss], by simp, .inl ⟨by trivial, by trivial⟩⟩
    · simp only [VR] at *
      obtain ⟨us, h1, h2, h3⟩ := h
      have hlen := g.length
      refine ⟨us, Frzss_VR hs hf hj g h1, h2, ?_⟩
      rcases h3 with ⟨rfl, h3⟩ | ⟨A, C, h4, h5, h6⟩
      · left
        exact ⟨List.eq_nil_of_length_eq_zero (by simpa using hlen.symm), h3⟩
      · right
        refine ⟨A, C, by rw [← hlen]; exact h4, by rw [← hlen]; exact h5, ?_⟩
        rcases h6 with rfl | ⟨B, O, h7, h8⟩
        · left; exact List.eq_nil_of_length_eq_zero (by simpa using hlen.symm)
        · right; exact ⟨B, O, h7, h8.to hf⟩
    · have hlen := g.length
      have hl : ((rs.drop i).take l).length = l := by simp; omega
      rw [hl] at hlen
      obtain ⟨vs, k1, k2, k3, k4, k5⟩ := snap_seg hs hj g1 i l
      have hv : VRss I sz ((rs.drop i).take l) vs := VRss.of_flat k1 k5
      simp only [VR] at h ⊢
      obtain ⟨hb, hz, A, C, e1, hlc, hcC, hA, _⟩ := h
      refine ⟨vs, Frzss_VR hs hf hj g hv, k3, .inr ⟨A, C, by rw [← hlen]; exact e1, by omega, ?_⟩⟩
      rcases hA with hA | hA
      · left; exact List.eq_nil_of_length_eq_zero (by omega)
      · right; exact ⟨_, _, hA, by rw [k4]; exact k2⟩
    · simp only [VR] at h ⊢
      obtain ⟨hb, hz, A, C, e1, hlc, hcC, hA, _⟩ := h
      exact ⟨[], by simp [VRss], by simp, .inr ⟨A, C, e1, by simp, .inl (by trivial)⟩⟩
  | .elem e' j, a, u, g, h => by
    simp only [Frz] at g
    rcases g with ⟨e, rfl, g⟩ | ⟨b, i, T, sz, rs, d, hd, s, e, rfl, g1, g2, g⟩
    · simp only [VR] at *
      obtain ⟨B, O, us, h0, h1, h2, h3⟩ := h
      exact ⟨B, O, us, h0, h1.to hf, Frzs_VR hs hf hj g h2, h3⟩
    · obtain ⟨vs, k1, k2, k3, k4, k5⟩ := snap_seg hs hj g1 i 1
      have hlt := (List.getElem?_eq_some_iff.1 g2)
      obtain ⟨hlt, hge⟩ := hlt
      have : (rs.drop i).take 1 = [e] := by
        rw [List.drop_eq_getElem_cons hlt]; simp [hge]
      rw [this] at k1
      simp only [List.flatten_cons, List.flatten_nil, List.append_nil] at k1
      simp only [VR] at h ⊢
      exact ⟨_, _, vs, by rw [h.2, k4], k2, Frzs_VR hs hf hj g k1, k3⟩
  | .agg l', a, u, g, h => by
    simp only [Frz] at g
    obtain ⟨l, rfl, g⟩ := g
    simp only [VR] at *
    obtain ⟨cs, h1, h2⟩ := h
    exact ⟨cs, h1, Frzs_VR hs hf hj g h2⟩
  | .tuple l', a, u, g, h => by
    simp only [Frz] at g
    obtain ⟨l, rfl, g⟩ := g
    simp only [VR] at *
    obtain ⟨cs, h1, h2⟩ := h
    exact ⟨cs, h1, Frzs_VR hs hf hj g h2⟩
  | .func f l', a, u, g, h => by
    simp only [Frz] at g
    obtain ⟨l, rfl, g⟩ := g
    simp only [VR] at *
    obtain ⟨cs, h1, h2⟩ := h
    exact ⟨cs, h1, Frzs_VR hs hf hj g h2⟩
  | .iface t x', a, u, g, h => by
    simp only [Frz] at g
    obtain ⟨x, rfl, g⟩ := g
    simp only [VR] at *
    obtain ⟨y, h1, h2⟩ := h
    exact ⟨y, h1, Frz_VR hs hf hj g h2⟩
  | .ptr _ _ _, _, _, g, _ => by simp [Frz] at g
  | .slice _ _ _ _ _, _, _, g, _ => by simp [Frz] at g
  | .sub _ _ _ _, _, _, g, _ => by simp [Frz] at g
  | .map _, _, _, g, _ => by simp [Frz] at g
  | .bool _, _, _, g, h => by simp only [Frz] at g; subst g; exact h
  | .int _ _, _, _, g, h => by simp only [Frz] at g; subst g; exact h
  | .str _, _, _, g, h => by simp only [Frz] at g; subst g; exact h
  | .nilptr, _, _, g, h => by simp only [Frz] at g; subst g; exact h
  | .nilslice, _, _, g, h => by simp only [Frz] at g; subst g; exact h
  | .nilmap, _, _, g, h => by simp only [Frz] at g; subst g; exact h
  | .nilfunc, _, _, g, h => by simp only [Frz] at g; subst g; exact h
  | .nilif, _, _, g, h => by simp only [Frz] at g; subst g; exact h
theorem Frzs_VR (hs : Sim I H w) (hf : FzLe I J) (hj : Snaps I J H w) : ∀ {l' l : List AV} {u : List Value}, Frzs H l l' → VRs I l u → VRs J l' u
  | [], l, u, g, h => by simp only [Frzs] at g; subst g; simpa [VRs] using h
  | a' :: l', l, u, g, h => by
    simp only [Frzs] at g
    obtain ⟨a, r, rfl, g1, g2⟩ := g
    simp only [VRs] at h ⊢
    obtain ⟨v, r', e, h1, h2⟩ := h
    exact ⟨v, r', e, Frz_VR hs hf hj g1 h1, Frzs_VR hs hf hj g2 h2⟩
theorem Frzss_VR (hs : Sim I H w) (hf : FzLe I J) (hj : Snaps I J H w) {sz : Nat} : ∀ {l' l : List (List AV)} {u : List Value}, Frzss H l l' → VRss I sz l u → VRss J sz l' u
  | [], l, u, g, h => by simp only [Frzss] at g; subst g; simpa [VRss] using h
  | a' :: l', l, u, g, h => by
    simp only [Frzss] at g
    obtain ⟨a, r, rfl, g1, g2⟩ := g
    simp only [VRss] at h ⊢
    obtain ⟨v, r', e, e0, h1, h2⟩ := h
    exact ⟨v, r', e, by rw [← g1.length]; exact e0, Frzs_VR hs hf hj g1 h1, Frzss_VR hs hf hj g2 h2⟩
end

end

/-- what lies there now -/
def snapW (w : World) (B : Nat) : Option (Array Value) :=
  match w.heap[B]? with
  | some (.cells cs _ _) => some cs
  | _ => none
theorem snapW_held {w : World} {B : Nat} {cs : Array Value} (h : snapW w B = some cs) : ∃ T fr, w.heap[B]? = some (.cells cs T fr) := by
  unfold snapW at h
  split at h
  · cases h; exact ⟨_, _, by assumption⟩
  · cases h

section
variable {P : Program}

/-- A function of plain values and of what nobody writes: what it tells, frozen; memory is as it was. -/
structure PC (P : Program) (f : FuncId) (args : List AV) (v : AV) : Prop where
  call : ACalls P f args (fun v' H' => Frz H' v' v) AHeap.empty

theorem PC.run {f : FuncId} {args : List AV} {v : AV} (h : PC P f args v) (hn : AV.nrs args = true) (H : AHeap) : ACalls P f args (fun v' H' => H' = H ∧ v' = v) H := by
  refine ⟨h.call.1, fun I w cargs hs hv => ?_⟩
  have hfz0 : ∀ B cs, I.fz B = some cs → ∃ cs' T fr, w.heap[B]? = some (.cells cs' T fr) ∧ ∀ (k : Nat) v, cs[k]? = some v → cs'[k]? = some v := hs.fz.held
  refine (h.call.2 (Inj.start w I.fz) w cargs (Sim.start w I.fz hfz0) (VRs_nr (I := I) (J := Inj.start w I.fz) (fun B cs e => ⟨cs, e, fun _ _ h => h⟩) hn hv)).mono fun e w' ⟨v', u, H', I', h1, h2, h3, h4, h5⟩ => ?_
  have hbelow : BelowD w.heap.size w w' := by
    have := h4.below
    rw [h3.base, h3.w0] at this
    exact this
  have hfr := hs.frame hbelow
  let J : Inj := { I with fz := fun B => if B < w.heap.size then I.fz B else snapW w' B }
  have eJ : ∀ B, J.fz B = if B < w.heap.size then I.fz B else snapW w' B := fun B => rfl
  have hbase : I'.base = w.heap.size := h3.base
  have hIJ : I.le J := ⟨Nat.le_refl _, fun _ _ => rfl, fun _ _ => rfl, fun _ _ => rfl, fun _ _ => rfl, rfl, rfl, fun B cs e => by
      rw [eJ, if_pos (hs.fz.lt (by rw [e]; rfl))]; exact e, fun B hB => by rw [eJ, if_pos (Nat.lt_of_lt_of_le hB hs.bs)], fun _ _ h => h⟩
  have hfz' : ∀ B, B < w.heap.size → I'.fz B = I.fz B := fun B hB => h3.fzb B hB
  have hS : Sim J H w' := by
    refine hfr.refz hIJ rfl rfl (fun B cs e => ?_) (fun b T sz es d hd s e => ?_) (fun B o e => ?_)
    · rw [eJ] at e
      split at e
      · exact hfr.fz.held B cs e
      · obtain ⟨T, fr, e1⟩ := snapW_held e
        exact ⟨cs, T, fr, e1, fun _ _ h => h⟩
    · rw [eJ, if_pos (hs.row b _ _ _ _ e).lt]
      exact hs.fz.own b _ _ _ _ _ _ e
    · obtain ⟨e1, e2⟩ := hfr.fz.pend B o e
      exact ⟨by rw [eJ, if_pos (hs.fz.lt (by rw [e1]; rfl))]; exact e1, e2⟩
  refine ⟨v, u, H, J, h1, ⟨rfl, rfl⟩, hIJ, hS, Frz_VR h4 ?_ ?_ h2 h5⟩
  · intro B cs e
    by_cases hB : B < w.heap.size
    · refine ⟨cs, ?_, fun _ _ h => h⟩
      rw [eJ, if_pos hB, ← hfz' B hB]; exact e
    · obtain ⟨cs', T, fr, e1, e2⟩ := h4.fz.held B cs e
      refine ⟨cs', ?_, e2⟩
      rw [eJ, if_neg hB]
      simp [snapW, e1]
  · intro b T sz rs d hd s e
    obtain ⟨r1, r2, cs, T', fr, r3, r4, r5⟩ := h4.row b _ _ _ _ e
    refine ⟨cs, T', fr, r3, ?_⟩
    simp only [OwnOk] at r5
    have := r5.2.1
    rw [hbase] at this
    rw [eJ, if_neg (by omega)]
    simp [snapW, r3]

/-- the call, in a caller's proof -/
theorem PC.use {f : FuncId} {args : List AV} {v : AV} (h : PC P f args v) (hn : AV.nrs args = true) {H : AHeap} {K : AV → AHeap → Prop} (hk : K v H) : ACalls P f args K H :=
  (h.run hn H).mono fun _ _ ⟨h1, h2⟩ => by subst h1 h2; exact hk

/-- the call, with arguments of one's own memory, which it reads alone -/
theorem PC.borrow {f : FuncId} {args args' : List AV} {v : AV} (h : PC P f args' v) {H : AHeap} (hF : Frzs H args args') (hp : v.pl = true) {K : AV → AHeap → Prop} (hk : K v H) : ACalls P f args K H := by
  refine ⟨h.call.1, fun I w cargs hs hv => ?_⟩
  have hheld : ∀ B cs, snapW w B = some cs → ∃ cs' T fr, w.heap[B]? = some (.cells cs' T fr) ∧ ∀ (k : Nat) v, cs[k]? = some v → cs'[k]? = some v := fun B cs e => by
    obtain ⟨T, fr, e1⟩ := snapW_held e
    exact ⟨cs, T, fr, e1, fun _ _ h => h⟩
  have hargs : VRs (Inj.start w (snapW w)) args' cargs.toList := by
    refine Frzs_VR hs ?_ ?_ hF hv
    · intro B cs e
      obtain ⟨cs', T, fr, e1, e2⟩ := hs.fz.held B cs e
      exact ⟨cs', by simp [Inj.start, snapW, e1], e2⟩
    · intro b T sz rs d hd s e
      obtain ⟨r1, r2, cs, T', fr, r3, r4, r5⟩ := hs.row b _ _ _ _ e
      exact ⟨cs, T', fr, r3, by simp [Inj.start, snapW, r3]⟩
  refine (h.call.2 (Inj.start w (snapW w)) w cargs (Sim.start w _ hheld) hargs).mono fun e w' ⟨v', u, H', I', h1, h2, h3, h4, h5⟩ => ?_
  have hbelow : BelowD w.heap.size w w' := by
    have := h4.below
    rw [h3.base, h3.w0] at this
    exact this
  let J : Inj := { I' with fz := snapW w' }
  have h6 : VR J v u := by
    refine Frz_VR h4 ?_ ?_ h2 h5
    · intro B cs e
      obtain ⟨cs', T, fr, e1, e2⟩ := h4.fz.held B cs e
      exact ⟨cs', by simp [J, snapW, e1], e2⟩
    · intro b T sz rs d hd s e
      obtain ⟨r1, r2, cs, T', fr, r3, r4, r5⟩ := h4.row b _ _ _ _ e
      exact ⟨cs, T', fr, r3, by simp [J, snapW, r3]⟩
  exact ⟨v, u, H, I, h1, hk, Inj.le.refl I, hs.frame hbelow, VR_pl hp h6⟩
end
end Go.Am
