/- The abstract machine, part A: values, memory, and what it means that a world holds them. -/
import Derived.Calls
import Derived.Orders
import Derived.Below
import Derived.LoopN
import Derived.Scope
import Derived.ScopeJumps
import Derived.KernelRfl
namespace Go.Am
open Go Go.RowKit

/-- Abstract values. -/
inductive AV where
  | bool (b : Bool)
  | int (k : IntKind) (n : Int)
  | str (s : List UInt8)
  | nilptr
  | ptr (b i j : Nat)
  | nilslice
  | slice (sz b i l c : Nat)
  | sub (b i j l : Nat)
  | nilmap
  | map (b : Nat)
  | nilfunc
  | func (f : FuncId) (caps : List AV)
  | nilif
  | iface (t : TypeId) (v : AV)
  | agg (cs : List AV)
  | tuple (vs : List AV)
  /-- a slice of what nobody writes any more (or a nil one, if it is empty) -/
  | fs (sz : Nat) (es : List (List AV))
  /-- a pointer to cell j of an element that nobody writes any more -/
  | elem (e : List AV) (j : Nat)
  deriving Inhabited

def AV.one : AV → Bool
  | .agg _ | .tuple _ => false
  | _ => true

def AV.cells : AV → List AV
  | .agg cs => cs
  | v => [v]

inductive Own where
  | ro
  | own (d : Nat) (head sole : Bool)
  deriving DecidableEq, Inhabited

inductive AObj where
  | dead
  | row (elem : TypeId) (sz : Nat) (es : List (List AV)) (o : Own)
  | map (es : List (AV × AV))
  deriving Inhabited

structure AHeap where
  size : Nat
  get : Nat → AObj

def AHeap.empty : AHeap := ⟨0, fun _ => .dead⟩
def AHeap.new (H : AHeap) (o : AObj) : AHeap := ⟨H.size + 1, fun b => if b = H.size then o else H.get b⟩
def AHeap.set (H : AHeap) (b : Nat) (o : AObj) : AHeap := ⟨H.size, fun x => if x = b then o else H.get x⟩
/-- is a block a row of group g? -/
def AObj.inGroup (g b : Nat) : AObj → Bool
  | .row _ _ _ (.own d _ _) => b - d == g
  | _ => false
def AHeap.kill (H : AHeap) (g b : Nat) : AHeap := ⟨H.size, fun x => if x ≠ b ∧ (H.get x).inGroup g x = true then .dead else H.get x⟩

/-- From abstract blocks to real ones. -/
structure Inj where
  n : Nat
  B : Nat → Nat
  O : Nat → Nat
  esz : Nat → Nat
  csz : Nat → Nat
  ow : Nat → Nat
  base : Nat
  w0 : World
  /-- what nobody writes any more -/
  fz : Nat → Option (Array Value)
  /-- what is made, and not named yet -/
  pd : Nat → Option Obj

structure Inj.le (I J : Inj) : Prop where
  n : I.n ≤ J.n
  B : ∀ b, b < I.n → J.B b = I.B b
  O : ∀ b, b < I.n → J.O b = I.O b
  esz : ∀ b, b < I.n → J.esz b = I.esz b
  csz : ∀ b, b < I.n → J.csz b = I.csz b
  base : J.base = I.base
  w0 : J.w0 = I.w0
  fz : ∀ B cs, I.fz B = some cs → J.fz B = some cs
  fzb : ∀ B, B < I.base → J.fz B = I.fz B
  pd : ∀ B o, I.pd B = some o → J.pd B = some o

theorem Inj.le.refl (I : Inj) : I.le I := ⟨Nat.le_refl _, fun _ _ => rfl, fun _ _ => rfl, fun _ _ => rfl, fun _ _ => rfl, rfl, rfl, fun _ _ h => h, fun _ _ => rfl, fun _ _ h => h⟩
theorem Inj.le.trans {I J K : Inj} (h : I.le J) (k : J.le K) : I.le K :=
  ⟨Nat.le_trans h.n k.n, fun b hb => (k.B b (Nat.lt_of_lt_of_le hb h.n)).trans (h.B b hb), fun b hb => (k.O b (Nat.lt_of_lt_of_le hb h.n)).trans (h.O b hb),
    fun b hb => (k.esz b (Nat.lt_of_lt_of_le hb h.n)).trans (h.esz b hb), fun b hb => (k.csz b (Nat.lt_of_lt_of_le hb h.n)).trans (h.csz b hb), k.base.trans h.base, k.w0.trans h.w0, fun B cs e => k.fz B cs (h.fz B cs e), fun B hB => (k.fzb B (by rw [h.base]; exact hB)).trans (h.fzb B hB), fun B o e => k.pd B o (h.pd B o e)⟩

/-- these values lie there, and stay -/
def FzSeg (I : Inj) (B O : Nat) (vs : List Value) : Prop := vs = [] ∨ ∃ cs, I.fz B = some cs ∧ ∀ (k : Nat) v, vs[k]? = some v → cs[O + k]? = some v

mutual
/-- A value stands for an abstract one. -/
def VR (I : Inj) : AV → Value → Prop
  | .bool b, v => v = .bool b
  | .int k n, v => v = .int k n
  | .str s, v => v = .string ⟨s.toArray⟩
  | .nilptr, v => v = .pointer none
  | .ptr b i j, v => b < I.n ∧ v = .pointer (some ⟨I.B b, I.O b + i * I.esz b + j, none⟩)
  | .nilslice, v => v = .slice none 0 0
  | .slice sz b i l c, v => b < I.n ∧ sz = I.esz b ∧ ∃ A C, v = .slice (some A) l C ∧ l ≤ c ∧ c ≤ C ∧ (C = 0 ∨ A = ⟨I.B b, I.O b + i * I.esz b, none⟩) ∧ (c = C ∨ I.O b + (i + C) * I.esz b ≤ I.csz b)
  | .sub b i j l, v => b < I.n ∧ v = .slice (some ⟨I.B b, I.O b + i * I.esz b + j, none⟩) l l ∧ 0 < l
  | .nilmap, v => v = .map none
  | .map b, v => b < I.n ∧ v = .map (some (I.B b))
  | .nilfunc, v => v = .nilFunc
  | .func f caps, v => ∃ cs, v = .func (.func f) #[] cs ∧ VRs I caps cs.toList
  | .nilif, v => v = .nilIface
  | .iface t x, v => ∃ y, v = .iface t y ∧ VR I x y
  | .agg l, v => ∃ cs, v = .agg cs ∧ VRs I l cs.toList
  | .tuple l, v => ∃ cs, v = .tuple cs ∧ VRs I l cs.toList
  | .fs sz es, v => ∃ vs, VRss I sz es vs ∧ (∀ u ∈ vs, u.oneCell' = true) ∧ ((es = [] ∧ v = .slice none 0 0) ∨ ∃ A C, v = .slice (some A) es.length C ∧ es.length ≤ C ∧ (es = [] ∨ ∃ B O, A = ⟨B, O, none⟩ ∧ FzSeg I B O vs))
  | .elem e j, v => ∃ B O vs, v = .pointer (some ⟨B, O + j, none⟩) ∧ FzSeg I B O vs ∧ VRs I e vs ∧ ∀ u ∈ vs, u.oneCell' = true
def VRs (I : Inj) : List AV → List Value → Prop
  | [], vs => vs = []
  | a :: l, vs => ∃ v r, vs = v :: r ∧ VR I a v ∧ VRs I l r
def VRss (I : Inj) (sz : Nat) : List (List AV) → List Value → Prop
  | [], vs => vs = []
  | e :: es, vs => ∃ u r, vs = u ++ r ∧ e.length = sz ∧ VRs I e u ∧ VRss I sz es r
end

theorem FzSeg.mono {I J : Inj} (h : I.le J) {B O : Nat} {vs : List Value} (k : FzSeg I B O vs) : FzSeg J B O vs := by
  rcases k with k | ⟨cs, h1, h2⟩
  · exact .inl k
  · exact .inr ⟨cs, h.fz B cs h1, h2⟩

mutual
theorem VR.mono {I J : Inj} (h : I.le J) : ∀ {a : AV} {v : Value}, VR I a v → VR J a v
  | .bool _, _, r => r
  | .int _ _, _, r => r
  | .str _, _, r => r
  | .nilptr, _, r => r
  | .ptr b i j, v, r => by
    simp only [VR] at *
    obtain ⟨hb, r⟩ := r
    exact ⟨Nat.lt_of_lt_of_le hb h.n, by rw [r, h.B b hb, h.O b hb, h.esz b hb]⟩
  | .nilslice, _, r => r
  | .slice sz b i l c, v, r => by
    simp only [VR] at *
    obtain ⟨hb, hs, A, C, e, h1, h2, h3, h4⟩ := r
    refine ⟨Nat.lt_of_lt_of_le hb h.n, by rw [hs, h.esz b hb], A, C, e, h1, h2, ?_, ?_⟩
    · rw [h.B b hb, h.O b hb, h.esz b hb]; exact h3
    · rw [h.O b hb, h.esz b hb, h.csz b hb]; exact h4
  | .sub b i j l, v, r => by
    simp only [VR] at *
    obtain ⟨hb, r, r2⟩ := r
    exact ⟨Nat.lt_of_lt_of_le hb h.n, by rw [r, h.B b hb, h.O b hb, h.esz b hb], r2⟩
  | .nilmap, _, r => r
  | .map b, v, r => by
    simp only [VR] at *
    obtain ⟨hb, r⟩ := r
    exact ⟨Nat.lt_of_lt_of_le hb h.n, by rw [r, h.B b hb]⟩
  | .nilfunc, _, r => r
  | .func f caps, v, r => by
    simp only [VR] at *
    obtain ⟨cs, e, r⟩ := r
    exact ⟨cs, e, VRs.mono h r⟩
  | .nilif, _, r => r
  | .iface t x, v, r => by
    simp only [VR] at *
    obtain ⟨y, e, r⟩ := r
    exact ⟨y, e, VR.mono h r⟩
  | .agg l, v, r => by
    simp only [VR] at *
    obtain ⟨cs, e, r⟩ := r
    exact ⟨cs, e, VRs.mono h r⟩
  | .tuple l, v, r => by
    simp only [VR] at *
    obtain ⟨cs, e, r⟩ := r
    exact ⟨cs, e, VRs.mono h r⟩
  | .fs sz es, v, r => by
    simp only [VR] at *
    obtain ⟨vs, h1, h2, h3⟩ := r
    refine ⟨vs, VRss.mono h h1, h2, h3.imp id ?_⟩
    rintro ⟨A, C, h4, h5, h6⟩
    refine ⟨A, C, h4, h5, h6.imp id ?_⟩
    rintro ⟨B, O, h7, h8⟩
    exact ⟨B, O, h7, h8.mono h⟩
  | .elem e j, v, r => by
    simp only [VR] at *
    obtain ⟨B, O, vs, h1, h2, h3, h4⟩ := r
    exact ⟨B, O, vs, h1, h2.mono h, VRs.mono h h3, h4⟩
theorem VRs.mono {I J : Inj} (h : I.le J) : ∀ {l : List AV} {vs : List Value}, VRs I l vs → VRs J l vs
  | [], _, r => by simpa only [VRs] using r
  | a :: l, vs, r => by
    simp only [VRs] at *
    obtain ⟨v, r', e, h1, h2⟩ := r
    exact ⟨v, r', e, VR.mono h h1, VRs.mono h h2⟩
theorem VRss.mono {I J : Inj} (h : I.le J) {sz : Nat} : ∀ {l : List (List AV)} {vs : List Value}, VRss I sz l vs → VRss J sz l vs
  | [], _, r => by simpa only [VRss] using r
  | e :: l, vs, r => by
    simp only [VRss] at *
    obtain ⟨v, r', e, h0, h1, h2⟩ := r
    exact ⟨v, r', e, h0, VRs.mono h h1, VRss.mono h h2⟩
end

theorem VRs.length {I : Inj} : ∀ {l : List AV} {vs : List Value}, VRs I l vs → vs.length = l.length
  | [], _, r => by simp only [VRs] at r; simp [r]
  | a :: l, vs, r => by
    simp only [VRs] at r
    obtain ⟨v, r', e, _, h2⟩ := r
    simp [e, VRs.length h2]

theorem VRs.get {I : Inj} : ∀ {l : List AV} {vs : List Value}, VRs I l vs → ∀ {i : Nat} {a : AV}, l[i]? = some a → ∃ v, vs[i]? = some v ∧ VR I a v
  | [], _, _, i, a, h => by simp at h
  | b :: l, vs, r, i, a, h => by
    simp only [VRs] at r
    obtain ⟨v, r', e, h1, h2⟩ := r
    subst e
    cases i with
    | zero => simp at h; subst h; exact ⟨v, rfl, h1⟩
    | succ i => simpa using VRs.get h2 (by simpa using h)

theorem VRs.of_get {I : Inj} : ∀ {l : List AV} {vs : List Value}, vs.length = l.length → (∀ (i : Nat) (a : AV), l[i]? = some a → ∃ v, vs[i]? = some v ∧ VR I a v) → VRs I l vs
  | [], vs, h, _ => by simp only [VRs]; exact List.eq_nil_of_length_eq_zero (by simpa using h)
  | a :: l, [], h, _ => by simp at h
  | a :: l, v :: vs, h, g => by
    simp only [VRs]
    obtain ⟨v', e, r⟩ := g 0 a rfl
    simp at e; subst e
    exact ⟨v, vs, rfl, r, VRs.of_get (by simpa using h) (fun i b hb => by simpa using g (i + 1) b (by simpa using hb))⟩

theorem VRss.append {I : Inj} {sz : Nat} : ∀ {l m : List (List AV)} {vs us : List Value}, VRss I sz l vs → VRss I sz m us → VRss I sz (l ++ m) (vs ++ us)
  | [], m, vs, us, h, k => by simp only [VRss] at h; subst h; exact k
  | e :: l, m, vs, us, h, k => by
    simp only [VRss] at h
    obtain ⟨v, r, e, h0, h1, h2⟩ := h
    subst e
    simp only [List.cons_append, VRss]
    exact ⟨v, r ++ us, by simp, h0, h1, VRss.append h2 k⟩

theorem VRs.append {I : Inj} : ∀ {l m : List AV} {vs us : List Value}, VRs I l vs → VRs I m us → VRs I (l ++ m) (vs ++ us)
  | [], m, vs, us, h, k => by simp only [VRs] at h; subst h; exact k
  | a :: l, m, vs, us, h, k => by
    simp only [VRs] at h
    obtain ⟨v, r, e, h1, h2⟩ := h
    subst e
    simp only [List.cons_append, VRs]
    exact ⟨v, r ++ us, rfl, h1, VRs.append h2 k⟩

theorem VRs.nil {I : Inj} : VRs I [] [] := by simp [VRs]
theorem VRs.cons {I : Inj} {a : AV} {v : Value} {l : List AV} {vs : List Value} (h : VR I a v) (k : VRs I l vs) : VRs I (a :: l) (v :: vs) := by
  simp only [VRs]; exact ⟨v, vs, rfl, h, k⟩

def vone : Value → Bool
  | .agg _ | .tuple _ => false
  | _ => true

theorem VR.oneCell {I : Inj} {a : AV} {v : Value} (h : VR I a v) : vone v = a.one := by
  cases a <;> simp only [VR] at h
  case ptr => obtain ⟨_, rfl⟩ := h; rfl
  case slice => obtain ⟨_, _, A, C, rfl, _⟩ := h; rfl
  case sub => obtain ⟨_, rfl, _⟩ := h; rfl
  case map => obtain ⟨_, rfl⟩ := h; rfl
  case func => obtain ⟨cs, rfl, _⟩ := h; rfl
  case iface => obtain ⟨cs, rfl, _⟩ := h; rfl
  case agg => obtain ⟨cs, rfl, _⟩ := h; rfl
  case tuple => obtain ⟨cs, rfl, _⟩ := h; rfl
  case fs => rcases h with ⟨vs, _, _, ⟨_, rfl⟩ | ⟨A, C, rfl, _⟩⟩ <;> rfl
  case elem => obtain ⟨B, O, vs, rfl, _⟩ := h; rfl
  all_goals (subst h; rfl)

/-- the cells of related values -/
theorem VR.cells {I : Inj} {a : AV} {v : Value} (h : VR I a v) : VRs I a.cells v.cells.toList := by
  have single : ∀ {a : AV} {v : Value}, VR I a v → VRs I [a] [v] := fun h => VRs.cons h VRs.nil
  cases a
  case agg l =>
    simp only [VR] at h
    obtain ⟨cs, rfl, h⟩ := h
    exact h
  all_goals
    have h' := h
    simp only [VR] at h
    first
      | (rcases h with ⟨vs, _, _, ⟨_, rfl⟩ | ⟨A, C, rfl, _⟩⟩ <;> exact single h')
      | (obtain ⟨B, O, vs, rfl, _⟩ := h; exact single h')
      | (obtain ⟨_, rfl⟩ := h; exact single h')
      | (subst h; exact single h')
      | (obtain ⟨_, rfl, _⟩ := h; exact single h')
      | (obtain ⟨_, _, A, C, rfl, _⟩ := h; exact single h')
end Go.Am
