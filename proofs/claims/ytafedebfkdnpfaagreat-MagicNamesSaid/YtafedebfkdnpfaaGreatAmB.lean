/- The abstract machine, part B: when a world holds an abstract memory; new rows, stores, appends. -/
import Derived.Test.YtafedebfkdnpfaaGreatAmA
namespace Go.Am
open Go Go.RowKit

/-- nothing below is written, and no draw is undone -/
structure BelowD (B : Nat) (w w' : World) : Prop extends Below B w w' where
  drawn : w.drawn ≤ w'.drawn
theorem BelowD.refl (B : Nat) (w : World) : BelowD B w w := ⟨Below.refl B w, Nat.le_refl _⟩
theorem BelowD.trans {B : Nat} {a b c : World} (h : BelowD B a b) (k : BelowD B b c) : BelowD B a c := ⟨h.toBelow.trans k.toBelow, Nat.le_trans h.drawn k.drawn⟩
theorem BelowD.mono {B B' : Nat} {w w' : World} (h : BelowD B' w w') (hB : B ≤ B') : BelowD B w w' := ⟨h.toBelow.mono hB, h.drawn⟩
theorem BelowD.alloc {B : Nat} {w w' : World} (h : BelowD B w w') (hB : B ≤ w'.heap.size) (o : Obj) : BelowD B w (w'.alloc o) := ⟨h.toBelow.alloc hB o, h.drawn⟩

def Cells (I : Inj) (cs : Array Value) (O sz : Nat) (es : List (List AV)) : Prop :=
  ∀ (i : Nat) e, es[i]? = some e → ∀ (j : Nat) c, e[j]? = some c → ∃ v, cs[O + i * sz + j]? = some v ∧ VR I c v ∧ v.oneCell' = true

def OwnOk (I : Inj) (b T sz : Nat) (n : Nat) (cs : Array Value) (T' : TypeId) (fr : Nat × Nat) : Own → Prop
  | .ro => I.B b < I.base ∧ I.csz b = 0
  | .own d _ _ => I.O b = 0 ∧ I.base ≤ I.B b ∧ fr = (0, 0) ∧ T' = T ∧ I.ow (I.B b) = b - d ∧ I.csz b = cs.size ∧ n * sz ≤ cs.size

def RowOk (I : Inj) (w : World) (b : Nat) (T : TypeId) (sz : Nat) (es : List (List AV)) (o : Own) : Prop :=
  I.esz b = sz ∧ (∀ e ∈ es, e.length = sz) ∧ ∃ cs T' fr, w.heap[I.B b]? = some (.cells cs T' fr) ∧ Cells I cs (I.O b) sz es ∧ OwnOk I b T sz es.length cs T' fr o

/-- of a key: a plain value -/
def AV.key : AV → Bool
  | .bool _ | .int _ _ | .str _ => true
  | _ => false

def MapOk (I : Inj) (w : World) (b : Nat) (es : List (AV × AV)) : Prop :=
  I.base ≤ I.B b ∧ ∃ xs, w.heap[I.B b]? = some (.map xs xs.size) ∧ xs.size = es.length ∧ (∀ (i : Nat) x, xs[i]? = some x → x.born = i) ∧
    ∀ (i : Nat) k v, es[i]? = some (k, v) → ∃ x, xs[i]? = some x ∧ VR I k x.key ∧ VR I v x.val

/-- what is frozen is there, and nobody's own -/
structure FzOk (I : Inj) (H : AHeap) (w : World) : Prop where
  held : ∀ B cs, I.fz B = some cs → ∃ cs' T fr, w.heap[B]? = some (.cells cs' T fr) ∧ ∀ (k : Nat) v, cs[k]? = some v → cs'[k]? = some v
  own : ∀ b T sz es d h s, H.get b = .row T sz es (.own d h s) → I.fz (I.B b) = none
  pend : ∀ B o, I.pd B = some o → I.fz B = some #[] ∧ w.heap[B]? = some o

theorem FzOk.step {I J : Inj} {H H' : AHeap} {w w' : World} (h : FzOk I H w) (hfz : J.fz = I.fz ∧ J.pd = I.pd) (hheap : ∀ B, (I.fz B).isSome = true → w'.heap[B]? = w.heap[B]?)
    (hown : ∀ b T sz es d h s, H'.get b = .row T sz es (.own d h s) → I.fz (J.B b) = none) : FzOk J H' w' := by
  obtain ⟨hfz, hpd⟩ := hfz
  refine ⟨fun B cs hB => ?_, fun b T sz es d h s hb => by rw [hfz]; exact hown b T sz es d h s hb, fun B o hB => ?_⟩
  · rw [hfz] at hB
    rw [hheap B (by rw [hB]; rfl)]
    exact h.held B cs hB
  · rw [hpd] at hB
    obtain ⟨h1, h2⟩ := h.pend B o hB
    rw [hfz, hheap B (by rw [h1]; rfl)]
    exact ⟨h1, h2⟩

structure Sim (I : Inj) (H : AHeap) (w : World) : Prop where
  size : I.n = H.size
  below : BelowD I.base I.w0 w
  bs : I.base ≤ w.heap.size
  out : ∀ b, H.size ≤ b → H.get b = .dead
  row : ∀ b T sz es o, H.get b = .row T sz es o → RowOk I w b T sz es o
  map : ∀ b es, H.get b = .map es → MapOk I w b es
  mapinj : ∀ b x es es', H.get b = .map es → H.get x = .map es' → I.B b = I.B x → b = x
  head : ∀ b x T sz es d s T' sz' es' d' h' s', H.get b = .row T sz es (.own d true s) → H.get x = .row T' sz' es' (.own d' h' s') → x - d' = b - d → I.B x = I.B b → es'.length * sz' ≤ es.length * sz
  one : ∀ b x T sz es d s T' sz' es' d' s', H.get b = .row T sz es (.own d true s) → H.get x = .row T' sz' es' (.own d' true s') → x - d' = b - d → x = b
  sole : ∀ b x T sz es d h T' sz' es' d' h' s', H.get b = .row T sz es (.own d h true) → H.get x = .row T' sz' es' (.own d' h' s') → x - d' = b - d → x = b
  fz : FzOk I H w

section
variable {I J : Inj} {H : AHeap} {w w' : World}

theorem FzOk.lt (h : FzOk I H w) {B : Nat} (hB : (I.fz B).isSome = true) : B < w.heap.size := by
  obtain ⟨cs, hcs⟩ := Option.isSome_iff_exists.1 hB
  obtain ⟨cs', T, fr, h1, _⟩ := h.held B cs hcs
  rcases Nat.lt_or_ge B w.heap.size with h' | h'
  · exact h'
  · simp [Array.getElem?_eq_none h'] at h1
theorem FzOk.none_of (h : FzOk I H w) {B : Nat} (hB : w.heap.size ≤ B) : I.fz B = none := by
  cases e : I.fz B with
  | none => rfl
  | some cs => have := h.lt (B := B) (by rw [e]; rfl); omega

theorem Sim.lt_of_row (h : Sim I H w) {b T sz es o} (hb : H.get b = .row T sz es o) : b < H.size := by
  rcases Nat.lt_or_ge b H.size with h' | h'
  · exact h'
  · rw [h.out b h'] at hb; cases hb

theorem Sim.lt_of_map (h : Sim I H w) {b es} (hb : H.get b = .map es) : b < H.size := by
  rcases Nat.lt_or_ge b H.size with h' | h'
  · exact h'
  · rw [h.out b h'] at hb; cases hb

theorem Cells.mono {cs : Array Value} {O sz : Nat} {es : List (List AV)} (h : Cells I cs O sz es) (hI : I.le J) : Cells J cs O sz es :=
  fun i e he j c hc => let ⟨v, h1, h2, h3⟩ := h i e he j c hc; ⟨v, h1, h2.mono hI, h3⟩

theorem RowOk.mono {b T sz es o} (h : RowOk I w b T sz es o) (hI : I.le J) (hb : b < I.n) (how : J.ow (I.B b) = I.ow (I.B b)) (hw : w'.heap[I.B b]? = w.heap[I.B b]?) : RowOk J w' b T sz es o := by
  obtain ⟨h1, h2, cs, T', fr, h3, h4, h5⟩ := h
  refine ⟨by rw [hI.esz b hb]; exact h1, h2, cs, T', fr, by rw [hI.B b hb, hw]; exact h3, by rw [hI.O b hb]; exact h4.mono hI, ?_⟩
  cases o with
  | ro =>
    simp only [OwnOk] at *
    rw [hI.B b hb, hI.base, hI.csz b hb]; exact h5
  | own d hd s =>
    simp only [OwnOk] at *
    rw [hI.B b hb, hI.base, hI.csz b hb, hI.O b hb, how]; exact h5

theorem MapOk.mono {b es} (h : MapOk I w b es) (hI : I.le J) (hb : b < I.n) (hw : w'.heap[I.B b]? = w.heap[I.B b]?) : MapOk J w' b es := by
  obtain ⟨h1, xs, h2, h3, h3', h4⟩ := h
  refine ⟨by rw [hI.B b hb, hI.base]; exact h1, xs, by rw [hI.B b hb, hw]; exact h2, h3, h3', fun i k v hi => ?_⟩
  obtain ⟨x, e, r1, r2⟩ := h4 i k v hi
  exact ⟨x, e, r1.mono hI, r2.mono hI⟩

/-- the tape's count turns nothing -/
theorem Sim.drawn (h : Sim I H w) (n : Nat) (hn : w.drawn ≤ n) : Sim I H { w with drawn := n } :=
  ⟨h.size, ⟨⟨h.below.os, h.below.tape, h.below.output, h.below.size, h.below.block⟩, Nat.le_trans h.below.drawn hn⟩, h.bs, h.out, h.row, h.map, h.mapinj, h.head, h.one, h.sole, ⟨h.fz.held, h.fz.own, h.fz.pend⟩⟩

def Inj.ext (I : Inj) (B O sz c g : Nat) : Inj :=
  { I with n := I.n + 1, B := fun b => if b = I.n then B else I.B b, O := fun b => if b = I.n then O else I.O b, esz := fun b => if b = I.n then sz else I.esz b,
           csz := fun b => if b = I.n then c else I.csz b, ow := fun x => if x = B then g else I.ow x }

theorem Inj.le_ext (I : Inj) (B O sz c g : Nat) : I.le (I.ext B O sz c g) :=
  ⟨Nat.le_succ _, fun b hb => by simp [Inj.ext, Nat.ne_of_lt hb], fun b hb => by simp [Inj.ext, Nat.ne_of_lt hb], fun b hb => by simp [Inj.ext, Nat.ne_of_lt hb],
    fun b hb => by simp [Inj.ext, Nat.ne_of_lt hb], rfl, rfl, fun _ _ h => h, fun _ _ => rfl, fun _ _ h => h⟩

theorem AHeap.get_new (H : AHeap) (o : AObj) (b : Nat) : (H.new o).get b = if b = H.size then o else H.get b := rfl
theorem AHeap.get_set (H : AHeap) (b : Nat) (o : AObj) (x : Nat) : (H.set b o).get x = if x = b then o else H.get x := rfl

theorem lt_of_getElem? {α : Type} {a : Array α} {i : Nat} {x : α} (h : a[i]? = some x) : i < a.size := by
  rcases Nat.lt_or_ge i a.size with h' | h'
  · exact h'
  · simp [Array.getElem?_eq_none h'] at h

theorem heap_new (w : World) (o : Obj) : (w.alloc o).heap[w.heap.size]? = some o := by
  show (w.heap.push o)[w.heap.size]? = _
  simp

theorem RowOk.lt {b T sz es o} (h : RowOk I w b T sz es o) : I.B b < w.heap.size := by
  obtain ⟨_, _, cs, T', fr, h3, _⟩ := h
  exact lt_of_getElem? h3
theorem MapOk.lt {b es} (h : MapOk I w b es) : I.B b < w.heap.size := by
  obtain ⟨_, xs, h2, _⟩ := h
  exact lt_of_getElem? h2

/-- a new real block that no abstract one stands for -/
theorem Sim.alloc_only (h : Sim I H w) (o : Obj) : Sim I H (w.alloc o) := by
  have keep : ∀ k, k < w.heap.size → (w.alloc o).heap[k]? = w.heap[k]? := fun k hk => Below.heap_alloc w o k hk
  refine ⟨h.size, h.below.alloc h.bs o, by have := h.bs; simp; omega, h.out, fun b T sz es o' hb => ?_, fun b es hb => ?_, h.mapinj, h.head, h.one, h.sole, h.fz.step ⟨rfl, rfl⟩ (fun B hB => keep B (h.fz.lt hB)) h.fz.own⟩
  · have r := h.row b T sz es o' hb
    exact r.mono (Inj.le.refl I) (by rw [h.size]; exact h.lt_of_row hb) rfl (keep _ r.lt)
  · have r := h.map b es hb
    exact r.mono (Inj.le.refl I) (by rw [h.size]; exact h.lt_of_map hb) (keep _ r.lt)

/-- a new row of its own -/
theorem Sim.new_row (h : Sim I H w) {T : TypeId} {sz : Nat} {es : List (List AV)} {cs : Array Value} (hlen : ∀ e ∈ es, e.length = sz)
    (hc : Cells I cs 0 sz es) (hsz : es.length * sz ≤ cs.size) :
    Sim (I.ext w.heap.size 0 sz cs.size H.size) (H.new (.row T sz es (.own 0 true true))) (w.alloc (.cells cs T)) := by
  have hI := Inj.le_ext I w.heap.size 0 sz cs.size H.size
  have keep : ∀ k, k < w.heap.size → (w.alloc (.cells cs T)).heap[k]? = w.heap[k]? := fun k hk => Below.heap_alloc w _ k hk
  have eB : ∀ b, b < H.size → (I.ext w.heap.size 0 sz cs.size H.size).B b = I.B b := fun b hb => hI.B b (by rw [h.size]; exact hb)
  have eN : (I.ext w.heap.size 0 sz cs.size H.size).B H.size = w.heap.size := by simp [Inj.ext, h.size]
  refine ⟨by simp [Inj.ext, AHeap.new, h.size], h.below.alloc h.bs _, by have := h.bs; simp [Inj.ext]; omega, ?_, ?_, ?_, ?_, ?_, ?_, ?_, h.fz.step ⟨rfl, rfl⟩ (fun B hB => keep B (h.fz.lt hB)) ?_⟩
  rotate_right
  · intro b T' sz' es' d' h' s' hb
    rw [AHeap.get_new] at hb
    split at hb
    · rename_i hbs
      subst hbs
      rw [eN]
      exact h.fz.none_of (Nat.le_refl _)
    · rw [eB b (h.lt_of_row hb)]
      exact h.fz.own b _ _ _ _ _ _ hb
  · intro b hb
    have hb' : H.size + 1 ≤ b := hb
    rw [AHeap.get_new, if_neg (by omega)]
    exact h.out b (by omega)
  · intro b T' sz' es' o hb
    rw [AHeap.get_new] at hb
    split at hb
    · rename_i hbs
      cases hb
      subst hbs
      refine ⟨by simp [Inj.ext, h.size], hlen, cs, T, (0, 0), ?_, ?_, ?_⟩
      · rw [eN]; exact heap_new w _
      · have : (I.ext w.heap.size 0 sz cs.size H.size).O H.size = 0 := by simp [Inj.ext, h.size]
        rw [this]; exact hc.mono hI
      · simp only [OwnOk]
        refine ⟨by simp [Inj.ext, h.size], by rw [eN]; exact h.bs, trivial, trivial, by rw [eN]; simp [Inj.ext], by simp [Inj.ext, h.size], hsz⟩
    · have r := h.row b T' sz' es' o hb
      have hlt := h.lt_of_row hb
      exact r.mono hI (by rw [h.size]; exact hlt) (by simp only [Inj.ext]; rw [if_neg (Nat.ne_of_lt r.lt)]) (keep _ r.lt)
  · intro b es' hb
    rw [AHeap.get_new] at hb
    split at hb
    · cases hb
    · have r := h.map b es' hb
      exact r.mono hI (by rw [h.size]; exact h.lt_of_map hb) (keep _ r.lt)
  · intro b x es1 es2 hb hx
    rw [AHeap.get_new] at hb hx
    split at hb
    · cases hb
    · split at hx
      · cases hx
      · rw [eB b (h.lt_of_map hb), eB x (h.lt_of_map hx)]; exact h.mapinj b x es1 es2 hb hx
  · intro b x T1 sz1 es1 d s T2 sz2 es2 d' h' s' hb hx hg hB
    rw [AHeap.get_new] at hb hx
    split at hb
    · rename_i hbs
      split at hx
      · cases hb; cases hx; exact Nat.le_refl _
      · subst hbs
        have r := h.row x _ _ _ _ hx
        rw [eN, eB x (h.lt_of_row hx)] at hB
        have := r.lt; omega
    · split at hx
      · rename_i hxs
        subst hxs
        have r := h.row b _ _ _ _ hb
        rw [eN, eB b (h.lt_of_row hb)] at hB
        have := r.lt; omega
      · rw [eB b (h.lt_of_row hb), eB x (h.lt_of_row hx)] at hB
        exact h.head b x _ _ _ _ _ _ _ _ _ _ _ hb hx hg hB
  · intro b x T1 sz1 es1 d s T2 sz2 es2 d' s' hb hx hg
    rw [AHeap.get_new] at hb hx
    split at hb
    · rename_i hbs
      cases hb
      split at hx
      · rename_i hxs; rw [hbs, hxs]
      · have := h.lt_of_row hx; omega
    · split at hx
      · rename_i hxs
        cases hx
        have := h.lt_of_row hb; omega
      · exact h.one b x _ _ _ _ _ _ _ _ _ _ hb hx hg
  · intro b x T1 sz1 es1 d hd T2 sz2 es2 d' h' s' hb hx hg
    rw [AHeap.get_new] at hb hx
    split at hb
    · rename_i hbs
      cases hb
      split at hx
      · rename_i hxs; rw [hbs, hxs]
      · have := h.lt_of_row hx; omega
    · split at hx
      · rename_i hxs
        cases hx
        have := h.lt_of_row hb; omega
      · exact h.sole b x _ _ _ _ _ _ _ _ _ _ _ hb hx hg

theorem AHeap.get_kill (H : AHeap) (g b x : Nat) : (H.kill g b).get x = if x ≠ b ∧ (H.get x).inGroup g x = true then .dead else H.get x := rfl

theorem AHeap.kill_row {H : AHeap} {g b x : Nat} {T sz es o} (h : (H.kill g b).get x = .row T sz es o) : H.get x = .row T sz es o := by
  rw [AHeap.get_kill] at h
  split at h
  · cases h
  · exact h

theorem AHeap.kill_map {H : AHeap} {g b x : Nat} {es} (h : (H.kill g b).get x = .map es) : H.get x = .map es := by
  rw [AHeap.get_kill] at h
  split at h
  · cases h
  · exact h

theorem Sim.kill (h : Sim I H w) (g b : Nat) : Sim I (H.kill g b) w :=
  ⟨h.size, h.below, h.bs, fun x hx => by rw [AHeap.get_kill, h.out x hx]; split <;> rfl, fun x T sz es o hx => h.row x T sz es o (AHeap.kill_row hx), fun x es hx => h.map x es (AHeap.kill_map hx),
    fun x y e1 e2 hx hy => h.mapinj x y e1 e2 (AHeap.kill_map hx) (AHeap.kill_map hy),
    fun x y _ _ _ _ _ _ _ _ _ _ _ hx hy => h.head x y _ _ _ _ _ _ _ _ _ _ _ (AHeap.kill_row hx) (AHeap.kill_row hy),
    fun x y _ _ _ _ _ _ _ _ _ _ hx hy => h.one x y _ _ _ _ _ _ _ _ _ _ (AHeap.kill_row hx) (AHeap.kill_row hy),
    fun x y _ _ _ _ _ _ _ _ _ _ _ hx hy => h.sole x y _ _ _ _ _ _ _ _ _ _ _ (AHeap.kill_row hx) (AHeap.kill_row hy),
    h.fz.step ⟨rfl, rfl⟩ (fun _ _ => rfl) fun x _ _ _ _ _ _ hx => h.fz.own x _ _ _ _ _ _ (AHeap.kill_row hx)⟩

/-- A row taken for oneself: all that may share memory with it is dead; told up to l elements. -/
def AHeap.take (H : AHeap) (b : Nat) (T sz : Nat) (es : List (List AV)) (d : Nat) : AHeap := (H.kill (b - d) b).set b (.row T sz es (.own d true true))

theorem OwnOk.flags {b T sz n cs T' fr d h s h' s'} (r : OwnOk I b T sz n cs T' fr (.own d h s)) : OwnOk I b T sz n cs T' fr (.own d h' s') := r

theorem inGroup_of {x T sz es d h s g} (hg : x - d = g) : (AObj.row T sz es (.own d h s)).inGroup g x = true := by simp [AObj.inGroup, hg]

theorem Sim.take (hs : Sim I H w) {b T sz es d h s} (hb : H.get b = .row T sz es (.own d h s)) (l : Nat) : Sim I (H.take b T sz (es.take l) d) w := by
  have hk := hs.kill (b - d) b
  have hrow := hs.row b _ _ _ _ hb
  have hlt := hs.lt_of_row hb
  -- who is left in the group
  have alone : ∀ x T' sz' es' d' h' s', (H.take b T sz (es.take l) d).get x = .row T' sz' es' (.own d' h' s') → x - d' = b - d → x = b := by
    intro x T' sz' es' d' h' s' hx hg
    by_cases hxb : x = b
    · exact hxb
    · simp only [AHeap.take, AHeap.get_set, if_neg hxb, AHeap.get_kill] at hx
      split at hx
      · cases hx
      · rename_i hn
        exact absurd ⟨hxb, by rw [hx]; exact inGroup_of hg⟩ hn
  have getne : ∀ {x o}, x ≠ b → (H.take b T sz (es.take l) d).get x = o → (H.kill (b - d) b).get x = o := by
    intro x o hx ho; simpa only [AHeap.take, AHeap.get_set, if_neg hx] using ho
  have getb : (H.take b T sz (es.take l) d).get b = .row T sz (es.take l) (.own d true true) := by simp [AHeap.take, AHeap.get_set]
  refine ⟨hs.size, hs.below, hs.bs, ?_, ?_, ?_, ?_, ?_, ?_, ?_, hs.fz.step ⟨rfl, rfl⟩ (fun _ _ => rfl) ?_⟩
  rotate_right
  · intro x T' sz' es' d' h' s' hx
    by_cases hxb : x = b
    · subst hxb
      exact hs.fz.own x _ _ _ _ _ _ hb
    · exact hk.fz.own x _ _ _ _ _ _ (getne hxb hx)
  · intro x hx
    have hx' : H.size ≤ x := hx
    have : x ≠ b := by omega
    simp only [AHeap.take, AHeap.get_set, if_neg this]
    exact hk.out x hx'
  · intro x T' sz' es' o hx
    by_cases hxb : x = b
    · subst hxb
      rw [getb] at hx; cases hx
      obtain ⟨r1, r2, cs, T2, fr, r3, r4, r5⟩ := hrow
      refine ⟨r1, fun e he => r2 e (List.mem_of_mem_take he), cs, T2, fr, r3, fun i e he => ?_, ?_⟩
      · have : es[i]? = some e := by
          rw [List.getElem?_take] at he
          split at he
          · exact he
          · cases he
        exact r4 i e this
      · simp only [OwnOk] at *
        obtain ⟨a1, a2, a3, a4, a5, a6, a7⟩ := r5
        refine ⟨a1, a2, a3, a4, a5, a6, Nat.le_trans (Nat.mul_le_mul_right _ ?_) a7⟩
        simp; omega
    · exact hk.row x _ _ _ _ (getne hxb hx)
  · intro x es' hx
    have hxb : x ≠ b := by rintro rfl; rw [getb] at hx; cases hx
    exact hk.map x es' (getne hxb hx)
  · intro x y e1 e2 hx hy
    have hxb : x ≠ b := by rintro rfl; rw [getb] at hx; cases hx
    have hyb : y ≠ b := by rintro rfl; rw [getb] at hy; cases hy
    exact hk.mapinj x y e1 e2 (getne hxb hx) (getne hyb hy)
  · intro x y T1 sz1 es1 d1 s1 T2 sz2 es2 d2 h2 s2 hx hy hg hB
    by_cases hxb : x = b
    · subst hxb
      rw [getb] at hx; cases hx
      have := alone y _ _ _ _ _ _ hy hg
      subst this
      rw [getb] at hy; cases hy
      exact Nat.le_refl _
    · by_cases hyb : y = b
      · subst hyb
        rw [getb] at hy; cases hy
        exact absurd (alone x _ _ _ _ _ _ hx hg.symm) hxb
      · exact hk.head x y _ _ _ _ _ _ _ _ _ _ _ (getne hxb hx) (getne hyb hy) hg hB
  · intro x y T1 sz1 es1 d1 s1 T2 sz2 es2 d2 s2 hx hy hg
    by_cases hxb : x = b
    · subst hxb
      rw [getb] at hx; cases hx
      exact alone y _ _ _ _ _ _ hy hg
    · by_cases hyb : y = b
      · subst hyb
        rw [getb] at hy; cases hy
        exact (alone x _ _ _ _ _ _ hx hg.symm).symm
      · exact hk.one x y _ _ _ _ _ _ _ _ _ _ (getne hxb hx) (getne hyb hy) hg
  · intro x y T1 sz1 es1 d1 h1 T2 sz2 es2 d2 h2 s2 hx hy hg
    by_cases hxb : x = b
    · subst hxb
      rw [getb] at hx; cases hx
      exact alone y _ _ _ _ _ _ hy hg
    · by_cases hyb : y = b
      · subst hyb
        rw [getb] at hy; cases hy
        exact (alone x _ _ _ _ _ _ hx hg.symm).symm
      · exact hk.sole x y _ _ _ _ _ _ _ _ _ _ _ (getne hxb hx) (getne hyb hy) hg

/-- w' is w but for one block. -/
structure WSet (w w' : World) (B : Nat) (o : Obj) : Prop where
  at_ : w'.heap[B]? = some o
  other : ∀ k, k ≠ B → w'.heap[k]? = w.heap[k]?
  size : w'.heap.size = w.heap.size
  os : w'.os = w.os
  tape : w'.tape = w.tape
  output : w'.output = w.output
  drawn : w'.drawn = w.drawn

theorem WSet.below {B0 : Nat} {w0 : World} {B : Nat} {o : Obj} (hw : WSet w w' B o) (h : BelowD B0 w0 w) (hB : B0 ≤ B) : BelowD B0 w0 w' :=
  h.trans ⟨⟨hw.os, hw.tape, hw.output, Nat.le_of_eq hw.size.symm, fun k hk => hw.other k (by omega)⟩, Nat.le_of_eq hw.drawn.symm⟩

/-- a store into a row that nobody else sees -/
theorem Sim.set_row (hs : Sim I H w) {b T sz es d} (hb : H.get b = .row T sz es (.own d true true)) {es' : List (List AV)} {cs' : Array Value}
    (hlen : es'.length = es.length) (hsz : ∀ e ∈ es', e.length = sz) (hcs : cs'.size = I.csz b) (hc : Cells I cs' 0 sz es')
    (hw : WSet w w' (I.B b) (.cells cs' T)) : Sim I (H.set b (.row T sz es' (.own d true true))) w' := by
  have hlt := hs.lt_of_row hb
  obtain ⟨r1, r2, cs, T2, fr, r3, r4, r5⟩ := hs.row b _ _ _ _ hb
  simp only [OwnOk] at r5
  obtain ⟨a1, a2, a3, a4, a5, a6, a7⟩ := r5
  have getb : (H.set b (.row T sz es' (.own d true true))).get b = .row T sz es' (.own d true true) := by simp [AHeap.get_set]
  have getne : ∀ {x o}, x ≠ b → (H.set b (.row T sz es' (.own d true true))).get x = o → H.get x = o := by
    intro x o hx ho; simpa only [AHeap.get_set, if_neg hx] using ho
  have neB : ∀ x T1 sz1 es1 o1, x ≠ b → H.get x = .row T1 sz1 es1 o1 → I.B x ≠ I.B b := by
    intro x T1 sz1 es1 o1 hxb hx heq
    obtain ⟨_, _, _, _, _, _, _, r⟩ := hs.row x _ _ _ _ hx
    cases o1 with
    | ro => simp only [OwnOk] at r; have := r.1; omega
    | own d1 h1 s1 =>
      simp only [OwnOk] at r
      exact hxb (hs.sole b x _ _ _ _ _ _ _ _ _ _ _ hb hx (by rw [← r.2.2.2.2.1, heq, a5]))
  have neM : ∀ x es1, H.get x = .map es1 → I.B x ≠ I.B b := by
    intro x es1 hx heq
    obtain ⟨_, xs, r, _⟩ := hs.map x _ hx
    rw [heq, r3] at r; cases r
  have flag : ∀ {x T1 sz1 es1 d1 h1 s1}, (H.set b (.row T sz es' (.own d true true))).get x = .row T1 sz1 es1 (.own d1 h1 s1) → ∃ es2, H.get x = .row T1 sz1 es2 (.own d1 h1 s1) ∧ es2.length = es1.length := by
    intro x T1 sz1 es1 d1 h1 s1 hx
    by_cases hxb : x = b
    · subst hxb; rw [getb] at hx; cases hx; exact ⟨es, hb, hlen.symm⟩
    · exact ⟨es1, getne hxb hx, rfl⟩
  refine ⟨hs.size, hw.below hs.below a2, by rw [hw.size]; exact hs.bs, ?_, ?_, ?_, ?_, ?_, ?_, ?_, hs.fz.step ⟨rfl, rfl⟩ (fun B hB => hw.other B ?_) ?_⟩
  rotate_right 2
  · rintro rfl
    rw [hs.fz.own b _ _ _ _ _ _ hb] at hB; cases hB
  · intro x T1 sz1 es1 d1 h1 s1 hx
    obtain ⟨e1, hx', _⟩ := flag hx
    exact hs.fz.own x _ _ _ _ _ _ hx'
  · intro x hx
    have hx' : H.size ≤ x := hx
    have : x ≠ b := by omega
    rw [AHeap.get_set, if_neg this]; exact hs.out x hx'
  · intro x T1 sz1 es1 o1 hx
    by_cases hxb : x = b
    · subst hxb
      rw [getb] at hx; cases hx
      refine ⟨r1, hsz, cs', T, (0, 0), hw.at_, by rw [a1]; exact hc, ?_⟩
      simp only [OwnOk]
      refine ⟨a1, a2, trivial, trivial, a5, hcs.symm, by rw [hlen, hcs, a6]; exact a7⟩
    · have hx' := getne hxb hx
      have r := hs.row x _ _ _ _ hx'
      exact r.mono (Inj.le.refl I) (by rw [hs.size]; exact hs.lt_of_row hx') rfl (hw.other _ (neB x _ _ _ _ hxb hx'))
  · intro x es1 hx
    have hxb : x ≠ b := by rintro rfl; rw [getb] at hx; cases hx
    have hx' := getne hxb hx
    exact (hs.map x es1 hx').mono (Inj.le.refl I) (by rw [hs.size]; exact hs.lt_of_map hx') (hw.other _ (neM x _ hx'))
  · intro x y e1 e2 hx hy
    have hxb : x ≠ b := by rintro rfl; rw [getb] at hx; cases hx
    have hyb : y ≠ b := by rintro rfl; rw [getb] at hy; cases hy
    exact hs.mapinj x y e1 e2 (getne hxb hx) (getne hyb hy)
  · intro x y T1 sz1 es1 d1 s1 T2 sz2 es2 d2 h2 s2 hx hy hg hB
    obtain ⟨e1, hx', l1⟩ := flag hx
    obtain ⟨e2, hy', l2⟩ := flag hy
    rw [← l1, ← l2]
    exact hs.head x y _ _ _ _ _ _ _ _ _ _ _ hx' hy' hg hB
  · intro x y T1 sz1 es1 d1 s1 T2 sz2 es2 d2 s2 hx hy hg
    obtain ⟨e1, hx', l1⟩ := flag hx
    obtain ⟨e2, hy', l2⟩ := flag hy
    exact hs.one x y _ _ _ _ _ _ _ _ _ _ hx' hy' hg
  · intro x y T1 sz1 es1 d1 h1 T2 sz2 es2 d2 h2 s2 hx hy hg
    obtain ⟨e1, hx', l1⟩ := flag hx
    obtain ⟨e2, hy', l2⟩ := flag hy
    exact hs.sole x y _ _ _ _ _ _ _ _ _ _ _ hx' hy' hg
/-- The memory behind an append: a new row, what was appended to is read alone. -/
def AHeap.grow (H : AHeap) (b : Nat) (T sz : Nat) (es new : List (List AV)) (d : Nat) : AHeap :=
  (H.set b (.row T sz es (.own d false false))).new (.row T sz (es ++ new) (.own (H.size - (b - d)) true false))

theorem Sim.grow_core (hs : Sim I H w) {b T sz es d s} (hb : H.get b = .row T sz es (.own d true s)) {new : List (List AV)} {B' c : Nat} {cs' : Array Value}
    (hnew : ∀ e ∈ new, e.length = sz) (hw : w'.heap[B']? = some (.cells cs' T (0, 0))) (hc : cs'.size = c) (hcs : Cells I cs' 0 sz (es ++ new))
    (hle : (es ++ new).length * sz ≤ c) (hrows : ∀ x T1 sz1 es1 o, H.get x = .row T1 sz1 es1 o → RowOk (I.ext B' 0 sz c (b - d)) w' x T1 sz1 es1 o)
    (hmaps : ∀ x es1, H.get x = .map es1 → MapOk (I.ext B' 0 sz c (b - d)) w' x es1) (hbel : BelowD I.base I.w0 w') (hbs : I.base ≤ w'.heap.size) (hB' : I.base ≤ B')
    (hF : ∀ x T1 sz1 es1 d1 h1 s1, H.get x = .row T1 sz1 es1 (.own d1 h1 s1) → I.B x = B' → es1.length * sz1 ≤ (es ++ new).length * sz)
    (hZ : I.fz B' = none) (hZ' : ∀ B, (I.fz B).isSome = true → w'.heap[B]? = w.heap[B]?) :
    Sim (I.ext B' 0 sz c (b - d)) (H.grow b T sz es new d) w' := by
  have hlt := hs.lt_of_row hb
  have hI := Inj.le_ext I B' 0 sz c (b - d)
  obtain ⟨r1, r2, _⟩ := hs.row b _ _ _ _ hb
  have eB : ∀ x, x < H.size → (I.ext B' 0 sz c (b - d)).B x = I.B x := fun x hx => hI.B x (by rw [hs.size]; exact hx)
  have eN : (I.ext B' 0 sz c (b - d)).B H.size = B' := by simp [Inj.ext, hs.size]
  have gN : (H.grow b T sz es new d).get H.size = .row T sz (es ++ new) (.own (H.size - (b - d)) true false) := by
    exact if_pos rfl
  have gb : (H.grow b T sz es new d).get b = .row T sz es (.own d false false) := by
    show (AHeap.new _ _).get b = _; rw [AHeap.get_new, if_neg (by show ¬ b = H.size; omega), AHeap.get_set, if_pos rfl]
  have gx : ∀ {x}, x ≠ H.size → x ≠ b → (H.grow b T sz es new d).get x = H.get x := by
    intro x h1 h2
    show (AHeap.new _ _).get x = _; rw [AHeap.get_new, if_neg (by show ¬ x = H.size; exact h1), AHeap.get_set, if_neg h2]
  -- what an old block was
  have old : ∀ {x T1 sz1 es1 d1 h1 s1}, x ≠ H.size → (H.grow b T sz es new d).get x = .row T1 sz1 es1 (.own d1 h1 s1) → ∃ h2 s2, H.get x = .row T1 sz1 es1 (.own d1 h2 s2) ∧ (h1 = true → h2 = true ∧ x ≠ b) ∧ (s1 = true → s2 = true ∧ x ≠ b) := by
    intro x T1 sz1 es1 d1 h1 s1 hx hr
    by_cases hxb : x = b
    · subst hxb; rw [gb] at hr; cases hr
      exact ⟨true, s, hb, fun h => (by cases h), fun h => (by cases h)⟩
    · rw [gx hx hxb] at hr
      exact ⟨h1, s1, hr, fun h => ⟨h, hxb⟩, fun h => ⟨h, hxb⟩⟩
  have ltx : ∀ {x T1 sz1 es1 o}, H.get x = .row T1 sz1 es1 o → x < H.size := fun h => hs.lt_of_row h
  have grpN : H.size - (H.size - (b - d)) = b - d := by omega
  refine ⟨by simp [Inj.ext, AHeap.grow, AHeap.new, AHeap.set, hs.size], hbel, hbs, ?_, ?_, ?_, ?_, ?_, ?_, ?_, hs.fz.step ⟨rfl, rfl⟩ hZ' ?_⟩
  rotate_right
  · intro x T1 sz1 es1 d1 h1 s1 hx
    by_cases hxn : x = H.size
    · subst hxn; rw [eN]; exact hZ
    · obtain ⟨h2, s2, hx', _, _⟩ := old hxn hx
      rw [eB x (ltx hx')]
      exact hs.fz.own x _ _ _ _ _ _ hx'
  · intro x hx
    have hx' : H.size + 1 ≤ x := hx
    rw [gx (by omega) (by omega)]; exact hs.out x (by omega)
  · intro x T1 sz1 es1 o hx
    by_cases hxn : x = H.size
    · subst hxn
      rw [gN] at hx; cases hx
      have e0 : (I.ext B' 0 sz c (b - d)).O H.size = 0 := by simp [Inj.ext, hs.size]
      refine ⟨by simp [Inj.ext, hs.size], fun e he => ?_, cs', T, (0, 0), by rw [eN]; exact hw, by rw [e0]; exact hcs.mono hI, ?_⟩
      · rcases List.mem_append.1 he with h' | h'
        · exact r2 e h'
        · exact hnew e h'
      · simp only [OwnOk]
        exact ⟨e0, by rw [eN]; exact hB', trivial, trivial, by rw [eN, grpN]; simp [Inj.ext], by simp [Inj.ext, hs.size, hc], by rw [hc]; exact hle⟩
    · by_cases hxb : x = b
      · subst hxb
        rw [gb] at hx; cases hx
        obtain ⟨q1, q2, q3⟩ := hrows x _ _ _ _ hb
        exact ⟨q1, q2, q3⟩
      · rw [gx hxn hxb] at hx
        exact hrows x _ _ _ _ hx
  · intro x es1 hx
    have hxn : x ≠ H.size := by rintro rfl; rw [gN] at hx; cases hx
    have hxb : x ≠ b := by rintro rfl; rw [gb] at hx; cases hx
    rw [gx hxn hxb] at hx
    exact hmaps x es1 hx
  · intro x y e1 e2 hx hy
    have hxn : x ≠ H.size := by rintro rfl; rw [gN] at hx; cases hx
    have hxb : x ≠ b := by rintro rfl; rw [gb] at hx; cases hx
    have hyn : y ≠ H.size := by rintro rfl; rw [gN] at hy; cases hy
    have hyb : y ≠ b := by rintro rfl; rw [gb] at hy; cases hy
    rw [gx hxn hxb] at hx
    rw [gx hyn hyb] at hy
    rw [eB x (hs.lt_of_map hx), eB y (hs.lt_of_map hy)]
    exact hs.mapinj x y e1 e2 hx hy
  · intro x y T1 sz1 es1 d1 s1 T2 sz2 es2 d2 h2 s2 hx hy hg hB
    by_cases hxn : x = H.size
    · subst hxn
      rw [gN] at hx; cases hx
      by_cases hyn : y = H.size
      · subst hyn; rw [gN] at hy; cases hy; exact Nat.le_refl _
      · obtain ⟨h3, s3, hy', _, _⟩ := old hyn hy
        rw [eN, eB y (ltx hy')] at hB
        exact hF y _ _ _ _ _ _ hy' hB
    · obtain ⟨h3, s3, hx', k1, _⟩ := old hxn hx
      obtain ⟨e3, hxb⟩ := k1 rfl
      subst e3
      by_cases hyn : y = H.size
      · subst hyn
        rw [gN] at hy; cases hy
        rw [grpN] at hg
        exact absurd (hs.one x b _ _ _ _ _ _ _ _ _ _ hx' hb hg).symm hxb
      · obtain ⟨h4, s4, hy', _, _⟩ := old hyn hy
        rw [eB x (ltx hx'), eB y (ltx hy')] at hB
        exact hs.head x y _ _ _ _ _ _ _ _ _ _ _ hx' hy' hg hB
  · intro x y T1 sz1 es1 d1 s1 T2 sz2 es2 d2 s2 hx hy hg
    by_cases hxn : x = H.size
    · subst hxn
      rw [gN] at hx; cases hx
      by_cases hyn : y = H.size
      · exact hyn
      · obtain ⟨h3, s3, hy', k1, _⟩ := old hyn hy
        obtain ⟨e3, hyb⟩ := k1 rfl
        subst e3
        rw [grpN] at hg
        exact absurd (hs.one y b _ _ _ _ _ _ _ _ _ _ hy' hb hg.symm).symm hyb
    · obtain ⟨h3, s3, hx', k1, _⟩ := old hxn hx
      obtain ⟨e3, hxb⟩ := k1 rfl
      subst e3
      by_cases hyn : y = H.size
      · subst hyn
        rw [gN] at hy; cases hy
        rw [grpN] at hg
        exact absurd (hs.one x b _ _ _ _ _ _ _ _ _ _ hx' hb hg).symm hxb
      · obtain ⟨h4, s4, hy', k2, _⟩ := old hyn hy
        obtain ⟨e4, _⟩ := k2 rfl
        subst e4
        exact hs.one x y _ _ _ _ _ _ _ _ _ _ hx' hy' hg
  · intro x y T1 sz1 es1 d1 h1 T2 sz2 es2 d2 h2 s2 hx hy hg
    by_cases hxn : x = H.size
    · subst hxn; rw [gN] at hx; cases hx
    · obtain ⟨h3, s3, hx', _, k2⟩ := old hxn hx
      obtain ⟨e3, hxb⟩ := k2 rfl
      subst e3
      by_cases hyn : y = H.size
      · subst hyn
        rw [gN] at hy; cases hy
        rw [grpN] at hg
        exact absurd (hs.sole x b _ _ _ _ _ _ _ _ _ _ _ hx' hb hg).symm hxb
      · obtain ⟨h4, s4, hy', _, _⟩ := old hyn hy
        exact hs.sole x y _ _ _ _ _ _ _ _ _ _ _ hx' hy' hg

/-- a real block of the call's own: whose it is -/
theorem Sim.row_at (hs : Sim I H w) {b T sz es d h s} (hb : H.get b = .row T sz es (.own d h s)) {x T1 sz1 es1 o} (hx : H.get x = .row T1 sz1 es1 o) (hB : I.B x = I.B b) :
    ∃ d1 h1 s1, o = .own d1 h1 s1 ∧ x - d1 = b - d := by
  obtain ⟨_, _, _, _, _, _, _, r⟩ := hs.row b _ _ _ _ hb
  obtain ⟨_, _, _, _, _, _, _, q⟩ := hs.row x _ _ _ _ hx
  simp only [OwnOk] at r
  cases o with
  | ro => simp only [OwnOk] at q; have := q.1; omega
  | own d1 h1 s1 =>
    simp only [OwnOk] at q
    exact ⟨d1, h1, s1, rfl, by rw [← q.2.2.2.2.1, hB]; exact r.2.2.2.2.1⟩

/-- an append that found room -/
theorem Sim.grow_room (hs : Sim I H w) {b T sz es d s} (hb : H.get b = .row T sz es (.own d true s)) {new : List (List AV)} {cs cs' : Array Value}
    (hnew : ∀ e ∈ new, e.length = sz) (hcell : w.heap[I.B b]? = some (.cells cs T (0, 0))) (hsame : ∀ k, k < es.length * sz → cs'[k]? = cs[k]?)
    (hsize : cs'.size = cs.size) (hcs : Cells I cs' 0 sz (es ++ new)) (hle : (es ++ new).length * sz ≤ cs.size) (hw : WSet w w' (I.B b) (.cells cs' T)) :
    Sim (I.ext (I.B b) 0 sz cs.size (b - d)) (H.grow b T sz es new d) w' := by
  have hI := Inj.le_ext I (I.B b) 0 sz cs.size (b - d)
  have hlt := hs.lt_of_row hb
  obtain ⟨r1, r2, cs0, T0, fr0, r3, r4, r5⟩ := hs.row b _ _ _ _ hb
  rw [hcell] at r3
  cases r3
  simp only [OwnOk] at r5
  obtain ⟨a1, a2, a3, a4, a5, a6, a7⟩ := r5
  have small : ∀ x T1 sz1 es1 d1 h1 s1, H.get x = .row T1 sz1 es1 (.own d1 h1 s1) → I.B x = I.B b → es1.length * sz1 ≤ es.length * sz := by
    intro x T1 sz1 es1 d1 h1 s1 hx hB
    obtain ⟨d2, h2, s2, e, hg⟩ := hs.row_at hb hx hB
    cases e
    exact hs.head b x _ _ _ _ _ _ _ _ _ _ _ hb hx hg hB
  refine hs.grow_core hb hnew hw.at_ hsize hcs hle ?_ ?_ (hw.below hs.below a2) (by rw [hw.size]; exact hs.bs) a2 ?_ (hs.fz.own b _ _ _ _ _ _ hb) (fun B hB => hw.other B ?_)
  rotate_right
  · rintro rfl
    rw [hs.fz.own b _ _ _ _ _ _ hb] at hB; cases hB
  · intro x T1 sz1 es1 o hx
    have hxl := hs.lt_of_row hx
    have hxn : x < I.n := by rw [hs.size]; exact hxl
    have how : (I.ext (I.B b) 0 sz cs.size (b - d)).ow (I.B x) = I.ow (I.B x) := by
      simp only [Inj.ext]
      split
      · rename_i e; rw [e, a5]
      · rfl
    by_cases hB : I.B x = I.B b
    · obtain ⟨d1, h1, s1, e, hg⟩ := hs.row_at hb hx hB
      subst e
      have hsm := small x _ _ _ _ _ _ hx hB
      obtain ⟨q1, q2, cs1, T2, fr1, q3, q4, q5⟩ := hs.row x _ _ _ _ hx
      rw [hB, hcell] at q3
      cases q3
      simp only [OwnOk] at q5
      obtain ⟨c1, c2, c3, c4, c5, c6, c7⟩ := q5
      refine ⟨by rw [hI.esz x hxn]; exact q1, q2, cs', T, (0, 0), by rw [hI.B x hxn, hB]; exact hw.at_, ?_, ?_⟩
      · rw [hI.O x hxn, c1]
        rw [c1] at q4
        intro i e he j c hc
        obtain ⟨v, hv, hr, ho⟩ := q4 i e he j c hc
        refine ⟨v, ?_, hr.mono hI, ho⟩
        have hi : i < es1.length := (List.getElem?_eq_some_iff.1 he).1
        have hj : j < e.length := (List.getElem?_eq_some_iff.1 hc).1
        have hel : e.length = sz1 := q2 e (List.mem_of_getElem? he)
        rw [hsame _ ?_]
        · exact hv
        · have : i * sz1 + sz1 ≤ es1.length * sz1 := by
            have := Nat.mul_le_mul_right sz1 hi
            rwa [Nat.succ_mul] at this
          omega
      · simp only [OwnOk]
        rw [hI.B x hxn, hI.O x hxn, hI.csz x hxn, hI.base, how, hsize]
        exact ⟨c1, c2, trivial, c4, c5, c6, c7⟩
    · exact (hs.row x _ _ _ _ hx).mono hI hxn how (hw.other _ hB)
  · intro x es1 hx
    have hxl := hs.lt_of_map hx
    refine (hs.map x _ hx).mono hI (by rw [hs.size]; exact hxl) (hw.other _ ?_)
    intro heq
    obtain ⟨_, xs, r, _⟩ := hs.map x _ hx
    rw [heq, hcell] at r; cases r
  · intro x T1 sz1 es1 d1 h1 s1 hx hB
    refine Nat.le_trans (small x _ _ _ _ _ _ hx hB) (Nat.mul_le_mul_right _ ?_)
    simp

/-- an append that moved -/
theorem Sim.grow_moved (hs : Sim I H w) {b T sz es d s} (hb : H.get b = .row T sz es (.own d true s)) {new : List (List AV)} {cs' : Array Value}
    (hnew : ∀ e ∈ new, e.length = sz) (hcs : Cells I cs' 0 sz (es ++ new)) (hle : (es ++ new).length * sz ≤ cs'.size) :
    Sim (I.ext w.heap.size 0 sz cs'.size (b - d)) (H.grow b T sz es new d) (w.alloc (.cells cs' T)) := by
  have hI := Inj.le_ext I w.heap.size 0 sz cs'.size (b - d)
  have keep : ∀ k, k < w.heap.size → (w.alloc (.cells cs' T)).heap[k]? = w.heap[k]? := fun k hk => Below.heap_alloc w _ k hk
  refine hs.grow_core hb hnew (heap_new w _) rfl hcs hle ?_ ?_ (hs.below.alloc hs.bs _) (by have := hs.bs; simp; omega) hs.bs ?_ (hs.fz.none_of (Nat.le_refl _)) (fun B hB => keep B (hs.fz.lt hB))
  · intro x T1 sz1 es1 o hx
    have r := hs.row x _ _ _ _ hx
    exact r.mono hI (by rw [hs.size]; exact hs.lt_of_row hx) (by simp only [Inj.ext]; rw [if_neg (Nat.ne_of_lt r.lt)]) (keep _ r.lt)
  · intro x es1 hx
    have r := hs.map x _ hx
    exact r.mono hI (by rw [hs.size]; exact hs.lt_of_map hx) (keep _ r.lt)
  · intro x T1 sz1 es1 d1 h1 s1 hx hB
    have r := hs.row x _ _ _ _ hx
    have := r.lt
    omega

/-- a new map -/
theorem Sim.new_map (h : Sim I H w) : Sim (I.ext w.heap.size 0 0 0 H.size) (H.new (.map [])) (w.alloc (.map #[] 0)) := by
  have hI := Inj.le_ext I w.heap.size 0 0 0 H.size
  have keep : ∀ k, k < w.heap.size → (w.alloc (.map #[] 0)).heap[k]? = w.heap[k]? := fun k hk => Below.heap_alloc w _ k hk
  have eB : ∀ b, b < H.size → (I.ext w.heap.size 0 0 0 H.size).B b = I.B b := fun b hb => hI.B b (by rw [h.size]; exact hb)
  have eN : (I.ext w.heap.size 0 0 0 H.size).B H.size = w.heap.size := by simp [Inj.ext, h.size]
  have rowne : ∀ {b T sz es o}, (H.new (.map [])).get b = .row T sz es o → H.get b = .row T sz es o := by
    intro b T sz es o hb
    rw [AHeap.get_new] at hb
    split at hb
    · cases hb
    · exact hb
  refine ⟨by simp [Inj.ext, AHeap.new, h.size], h.below.alloc h.bs _, by have := h.bs; simp [Inj.ext]; omega, ?_, ?_, ?_, ?_, ?_, ?_, ?_, h.fz.step ⟨rfl, rfl⟩ (fun B hB => keep B (h.fz.lt hB)) ?_⟩
  rotate_right
  · intro b T sz es d h' s hb
    rw [eB b (h.lt_of_row (rowne hb))]
    exact h.fz.own b _ _ _ _ _ _ (rowne hb)
  · intro b hb
    have hb' : H.size + 1 ≤ b := hb
    rw [AHeap.get_new, if_neg (by omega)]
    exact h.out b (by omega)
  · intro b T sz es o hb
    have hb' := rowne hb
    have r := h.row b _ _ _ _ hb'
    exact r.mono hI (by rw [h.size]; exact h.lt_of_row hb') (by simp only [Inj.ext]; rw [if_neg (Nat.ne_of_lt r.lt)]) (keep _ r.lt)
  · intro b es hb
    rw [AHeap.get_new] at hb
    split at hb
    · rename_i hbs
      cases hb
      subst hbs
      refine ⟨by rw [eN]; exact h.bs, #[], by rw [eN]; exact heap_new w _, rfl, fun i x hi => by simp at hi, fun i k v hi => by simp at hi⟩
    · have r := h.map b es hb
      exact r.mono hI (by rw [h.size]; exact h.lt_of_map hb) (keep _ r.lt)
  · intro b x es1 es2 hb hx hB
    rw [AHeap.get_new] at hb hx
    split at hb
    · rename_i hbs
      split at hx
      · rename_i hxs; rw [hbs, hxs]
      · subst hbs
        rw [eN, eB x (h.lt_of_map hx)] at hB
        have := (h.map x _ hx).lt; omega
    · split at hx
      · rename_i hxs
        subst hxs
        rw [eN, eB b (h.lt_of_map hb)] at hB
        have := (h.map b _ hb).lt; omega
      · rw [eB b (h.lt_of_map hb), eB x (h.lt_of_map hx)] at hB; exact h.mapinj b x es1 es2 hb hx hB
  · intro b x T1 sz1 es1 d s T2 sz2 es2 d' h' s' hb hx hg hB
    have hb' := rowne hb
    have hx' := rowne hx
    rw [eB b (h.lt_of_row hb'), eB x (h.lt_of_row hx')] at hB
    exact h.head b x _ _ _ _ _ _ _ _ _ _ _ hb' hx' hg hB
  · intro b x T1 sz1 es1 d s T2 sz2 es2 d' s' hb hx hg
    exact h.one b x _ _ _ _ _ _ _ _ _ _ (rowne hb) (rowne hx) hg
  · intro b x T1 sz1 es1 d hd T2 sz2 es2 d' h' s' hb hx hg
    exact h.sole b x _ _ _ _ _ _ _ _ _ _ _ (rowne hb) (rowne hx) hg

/-- a map is written -/
theorem Sim.set_map (hs : Sim I H w) {b : Nat} {es es' : List (AV × AV)} (hb : H.get b = .map es) {xs : Array MapEntry} (hw : WSet w w' (I.B b) (.map xs xs.size))
    (hsz : xs.size = es'.length) (hborn : ∀ (i : Nat) x, xs[i]? = some x → x.born = i) (hval : ∀ (i : Nat) k v, es'[i]? = some (k, v) → ∃ x, xs[i]? = some x ∧ VR I k x.key ∧ VR I v x.val) :
    Sim I (H.set b (.map es')) w' := by
  obtain ⟨r1, xs0, r2, _⟩ := hs.map b _ hb
  have getb : (H.set b (.map es')).get b = .map es' := by simp [AHeap.get_set]
  have getne : ∀ {x o}, x ≠ b → (H.set b (.map es')).get x = o → H.get x = o := by
    intro x o hx ho; simpa only [AHeap.get_set, if_neg hx] using ho
  have rowne : ∀ {x T sz es o}, (H.set b (.map es')).get x = .row T sz es o → H.get x = .row T sz es o := by
    intro x T sz es o hx
    have hxb : x ≠ b := by rintro rfl; rw [getb] at hx; cases hx
    exact getne hxb hx
  refine ⟨hs.size, hw.below hs.below r1, by rw [hw.size]; exact hs.bs, ?_, ?_, ?_, ?_, ?_, ?_, ?_, hs.fz.step ⟨rfl, rfl⟩ (fun B hB => hw.other B ?_) fun x _ _ _ _ _ _ hx => hs.fz.own x _ _ _ _ _ _ (rowne hx)⟩
  rotate_right
  · rintro rfl
    obtain ⟨cs, hcs⟩ := Option.isSome_iff_exists.1 hB
    obtain ⟨cs', T, fr, h1, _⟩ := hs.fz.held _ cs hcs
    rw [r2] at h1; cases h1
  · intro x hx
    have hx' : H.size ≤ x := hx
    have := hs.lt_of_map hb
    rw [AHeap.get_set, if_neg (by omega)]; exact hs.out x hx'
  · intro x T sz es1 o hx
    have hx' := rowne hx
    have r := hs.row x _ _ _ _ hx'
    refine r.mono (Inj.le.refl I) (by rw [hs.size]; exact hs.lt_of_row hx') rfl (hw.other _ ?_)
    intro heq
    obtain ⟨_, _, cs, T2, fr, r3, _⟩ := r
    rw [heq, r2] at r3; cases r3
  · intro x es1 hx
    by_cases hxb : x = b
    · subst hxb
      rw [getb] at hx; cases hx
      exact ⟨r1, xs, hw.at_, hsz, hborn, hval⟩
    · have hx' := getne hxb hx
      exact (hs.map x _ hx').mono (Inj.le.refl I) (by rw [hs.size]; exact hs.lt_of_map hx') (hw.other _ (fun heq => hxb (hs.mapinj x b _ _ hx' hb heq)))
  · intro x y e1 e2 hx hy hB
    have : ∀ {z e}, (H.set b (.map es')).get z = .map e → ∃ e', H.get z = .map e' := by
      intro z e hz
      by_cases hzb : z = b
      · subst hzb; exact ⟨es, hb⟩
      · exact ⟨e, getne hzb hz⟩
    obtain ⟨_, hx'⟩ := this hx
    obtain ⟨_, hy'⟩ := this hy
    exact hs.mapinj x y _ _ hx' hy' hB
  · intro x y T1 sz1 es1 d1 s1 T2 sz2 es2 d2 h2 s2 hx hy hg hB
    exact hs.head x y _ _ _ _ _ _ _ _ _ _ _ (rowne hx) (rowne hy) hg hB
  · intro x y T1 sz1 es1 d1 s1 T2 sz2 es2 d2 s2 hx hy hg
    exact hs.one x y _ _ _ _ _ _ _ _ _ _ (rowne hx) (rowne hy) hg
  · intro x y T1 sz1 es1 d1 h1 T2 sz2 es2 d2 h2 s2 hx hy hg
    exact hs.sole x y _ _ _ _ _ _ _ _ _ _ _ (rowne hx) (rowne hy) hg
end
end Go.Am
