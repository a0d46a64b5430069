/- The abstract machine, part D: the operations that change nothing, what each tells, and that it is so. -/
import Derived.Test.YtafedebfkdnpfaaGreatAmC
namespace Go.Am
open Go Go.RowKit

def szOf (P : Program) (t : TypeId) : Option Nat := (P.info? t).map (·.size)
def aggD : TypeDesc → Bool
  | .struct _ | .array _ _ => true
  | _ => false
def aggOf (P : Program) (t : TypeId) : Option Bool := (P.underlying t).map aggD

section runs
variable {P : Program} (w : World)
theorem run_typeInfo {t : TypeId} {i : TypeInfo} (h : P.info? t = some i) : (typeInfo t).run P w = .ok i w := by
  simp [typeInfo, h]
theorem run_sizeOf {t : TypeId} {n : Nat} (h : szOf P t = some n) : (sizeOf t).run P w = .ok n w := by
  simp only [szOf, Option.map_eq_some_iff] at h
  obtain ⟨i, hi, rfl⟩ := h
  simp [sizeOf, run_typeInfo w hi]
theorem run_isAgg {t : TypeId} {b : Bool} (h : aggOf P t = some b) : (isAgg t).run P w = .ok b w := by
  simp only [aggOf, Option.map_eq_some_iff] at h
  obtain ⟨d, hd, rfl⟩ := h
  simp only [isAgg, Sem.run_bind, run_underlying hd, Result.andThen_ok]
  cases d <;> rfl
theorem run_zeroValue {t : TypeId} {v : Value} (h : (P.info? t).bind (·.zero) = some v) : (zeroValue t).run P w = .ok v w := by
  simp only [Option.bind_eq_some_iff] at h
  obtain ⟨i, hi, hz⟩ := h
  simp [zeroValue, run_typeInfo w hi, hz]
end runs

inductive XTy where
  | bool | slice | ptr | map | func | other
  deriving DecidableEq, Inhabited
def xty (P : Program) (t : TypeId) : XTy :=
  match P.underlying t with
  | some .bool => .bool
  | some (.slice _) => .slice
  | some (.pointer _) => .ptr
  | some (.map _ _) => .map
  | some (.func _ _ _) => .func
  | _ => .other

/-- a cell's kind, of what can be held against another one -/
inductive CK where
  | int (k : IntKind) | str | bool
  deriving DecidableEq, Inhabited

inductive XRd where
  | mov (x : XA)
  | pick (c a b : XA)
  | load (n : Nat) (agg : Bool) (x : XA)
  | nilchk (x : XA)
  | bin (op : BinOp) (ty : XTy) (x y : XA)
  | eqc (neg : Bool) (ks : List CK) (x y : XA)
  | un (op : UnOp) (x : XA)
  | conv (k : IntKind) (x : XA)
  | convS (x : XA)
  | mkfunc (f : FuncId) (caps : List XA)
  | slice (sz : Nat) (x : XA) (lo hi mx : Option XA)
  | sliceS (x : XA) (lo hi : Option XA)
  | sliceA (n : Nat) (x : XA)
  | off (j : Nat) (x : XA)
  | idx (sz : Nat) (x i : XA)
  | idxA (n sz : Nat) (x i : XA)
  | indexS (x i : XA)
  | indexA (n sz : Nat) (agg : Bool) (x i : XA)
  | field (off n : Nat) (agg : Bool) (x : XA)
  | extract (i : Nat) (x : XA)
  | lenS (x : XA)
  | lenL (x : XA)
  | capL (x : XA)
  | min (x y : XA)
  | max (x y : XA)
  | build (zero : List AV) (parts : List (Nat × Nat × XA))
  | lookup (zero : AV) (ok : Bool) (c : CK) (x k : XA)
  | upp (x : XA)
  | upf (u : TypeId) (sz : Nat) (x : XA)
  | usd (x : XA)
  | pne (x y : XA)
  deriving Inhabited

def xint : BinOp → IntKind → Int → Int → Option AV
  | .add, k, a, b => some (.int k (k.wrap (a + b)))
  | .sub, k, a, b => some (.int k (k.wrap (a - b)))
  | .mul, k, a, b => some (.int k (k.wrap (a * b)))
  | .quo, k, a, b => if b = 0 then none else some (.int k (k.wrap (a.tdiv b)))
  | .rem, k, a, b => if b = 0 then none else some (.int k (a.tmod b))
  | .eql, _, a, b => some (.bool (a == b))
  | .neq, _, a, b => some (.bool (a != b))
  | .lss, _, a, b => some (.bool (decide (a < b)))
  | .leq, _, a, b => some (.bool (decide (a ≤ b)))
  | .gtr, _, a, b => some (.bool (decide (a > b)))
  | .geq, _, a, b => some (.bool (decide (a ≥ b)))
  | _, _, _, _ => none
def xstr : BinOp → List UInt8 → List UInt8 → Option AV
  | .add, a, b => if a.length + b.length ≤ 9223372036854775807 then some (.str (a ++ b)) else none
  | .eql, a, b => some (.bool (a == b))
  | .neq, a, b => some (.bool (!(a == b)))
  | .lss, a, b => some (.bool (Op.bytesLess a b))
  | .leq, a, b => some (.bool (Op.bytesLess a b || (a == b)))
  | .gtr, a, b => some (.bool (!(Op.bytesLess a b || (a == b))))
  | .geq, a, b => some (.bool (!Op.bytesLess a b))
  | _, _, _ => none
def xeq (neg : Bool) (b : Bool) : AV := .bool (if neg then !b else b)
def isEq : BinOp → Option Bool
  | .eql => some false
  | .neq => some true
  | _ => none
/-- of two that are held against nil -/
def xnil : XTy → AV → AV → Option Bool
  | .bool, .bool a, .bool b => some (a == b)
  | .slice, .nilslice, .nilslice => some true
  | .slice, .nilslice, .slice _ _ _ _ _ => some false
  | .slice, .slice _ _ _ _ _, .nilslice => some false
  | .slice, .nilslice, .fs _ (_ :: _) => some false
  | .slice, .fs _ (_ :: _), .nilslice => some false
  | .ptr, .nilptr, .nilptr => some true
  | .ptr, .nilptr, .ptr _ _ _ => some false
  | .ptr, .ptr _ _ _, .nilptr => some false
  | .ptr, .nilptr, .elem _ _ => some false
  | .ptr, .elem _ _, .nilptr => some false
  | .map, .nilmap, .nilmap => some true
  | .map, .nilmap, .map _ => some false
  | .map, .map _, .nilmap => some false
  | .func, .nilfunc, .nilfunc => some true
  | .func, .nilfunc, .func _ _ => some false
  | .func, .func _ _, .nilfunc => some false
  | _, _, _ => none
def isSh : BinOp → Bool
  | .shl | .shr => true
  | _ => false
def xshift : BinOp → IntKind → Int → Int → Option AV
  | .shl, k, a, b => if b < 0 then none else some (.int k (k.wrap (a * 2 ^ (min b.toNat k.bits))))
  | .shr, k, a, b => if b < 0 then none else some (.int k (a.fdiv (2 ^ (min b.toNat k.bits))))
  | _, _, _, _ => none
def xbin (op : BinOp) (ty : XTy) : AV → AV → Option AV
  | .int k a, .int k' b => if isSh op then xshift op k a b else if k = k' then xint op k a b else none
  | .str a, .str b => xstr op a b
  | x, y => match isEq op with
    | some neg => (xnil ty x y).map (xeq neg)
    | none => none

def eqCells : List CK → List AV → List AV → Option Bool
  | [], [], [] => some true
  | .int k :: ks, .int k1 a :: l, .int k2 b :: m => if k1 = k ∧ k2 = k then (eqCells ks l m).map (a == b && ·) else none
  | .str :: ks, .str a :: l, .str b :: m => (eqCells ks l m).map (a == b && ·)
  | .bool :: ks, .bool a :: l, .bool b :: m => (eqCells ks l m).map (a == b && ·)
  | _, _, _ => none
def eqVals : List CK → List Value → List Value → Option Bool
  | [], [], [] => some true
  | .int k :: ks, .int k1 a :: l, .int k2 b :: m => if k1 = k ∧ k2 = k then (eqVals ks l m).map (a == b && ·) else none
  | .str :: ks, .string a :: l, .string b :: m => (eqVals ks l m).map (a.data.toList == b.data.toList && ·)
  | .bool :: ks, .bool a :: l, .bool b :: m => (eqVals ks l m).map (a == b && ·)
  | _, _, _ => none
/-- What must be shown, once, of a type of structs or arrays that are held against each other. -/
def EqOk (P : Program) (t : TypeId) (ks : List CK) : Prop :=
  P.eqGuardType P.depth t = false ∧ ∀ (l m : List Value) (r : Bool) (w : World), eqVals ks l m = some r → (Op.equal t (.agg l.toArray) (.agg m.toArray)).run P w = .ok r w

def xun : UnOp → AV → Option AV
  | .not, .bool b => some (.bool (!b))
  | .neg, .int k n => some (.int k (k.wrap (0 - n)))
  | _, _ => none
def bnd (fr : AFr) (o : Option XA) (y dflt : Nat) : Option Nat :=
  match o with
  | none => some dflt
  | some x => match ev fr x with
    | some (.int _ n) => if 0 ≤ n ∧ n ≤ y then some n.toNat else none
    | _ => none
def xslice (sz : Nat) (fr : AFr) (lo hi mx : Option XA) : AV → Option AV
  | .nilslice => (bnd fr mx 0 0).bind fun m => (bnd fr hi m 0).bind fun h => (bnd fr lo h 0).bind fun _ => some .nilslice
  | .slice z b i l c => if z = sz then (bnd fr mx c c).bind fun m => (bnd fr hi m l).bind fun h => (bnd fr lo h 0).bind fun o => if h ≤ m ∧ o ≤ h then some (.slice z b (i + o) (h - o) (m - o)) else none else none
  | .fs z es => if z = sz then (bnd fr mx es.length es.length).bind fun m => (bnd fr hi m es.length).bind fun h => (bnd fr lo h 0).bind fun o => if h ≤ m ∧ o ≤ h then some (.fs z ((es.take h).drop o)) else none else none
  | _ => none
def xsliceS (fr : AFr) (lo hi : Option XA) : AV → Option AV
  | .str s => (bnd fr hi s.length s.length).bind fun h => (bnd fr lo h 0).bind fun o => some (.str ((s.take h).drop o))
  | _ => none
def xidx (sz : Nat) : AV → AV → Option AV
  | .slice z b i l _, .int _ n => if z = sz ∧ 0 ≤ n ∧ n < l then some (.ptr b (i + n.toNat) 0) else none
  | .sub b i j l, .int _ n => if 0 ≤ n ∧ n < l then some (.ptr b i (j + n.toNat * sz)) else none
  | .fs z es, .int _ n => if z = sz ∧ 0 ≤ n then (es[n.toNat]?).map fun e => .elem e 0 else none
  | _, _ => none
def wholeOr (agg : Bool) (l : List AV) : Option AV := if agg then some (.agg l) else match l with | [v] => some v | _ => none
def ckFits : CK → AV → Bool
  | .int _, .int _ _ => true
  | .str, .str _ => true
  | .bool, .bool _ => true
  | _, _ => false
def descCK : TypeDesc → Option CK
  | .int k => some (.int k)
  | .string => some .str
  | .bool => some .bool
  | _ => none
def keyEq : AV → AV → Option Bool
  | .int k a, .int k' b => if k = k' then some (a == b) else none
  | .str a, .str b => some (a == b)
  | .bool a, .bool b => some (a == b)
  | _, _ => none
def mfind (k : AV) : List (AV × AV) → Option (Option AV)
  | [] => some none
  | (k', v) :: r => match keyEq k k' with
    | some true => some (some v)
    | some false => mfind k r
    | none => none
def fillL (fr : AFr) : List (Nat × Nat × XA) → List AV → Option (List AV)
  | [], l => some l
  | (o, n, x) :: r, l => (ev fr x).bind fun v => if v.cells.length = n ∧ o + n ≤ l.length then fillL fr r (l.take o ++ v.cells ++ l.drop (o + n)) else none

/-- to an unsafe pointer: the address of a variable that is there -/
def xupp (H : AHeap) : AV → Option AV
  | .ptr b 0 0 => match H.get b with
    | .row _ sz es (.own _ _ _) => if 0 < es.length * sz then some (.ptr b 0 0) else none
    | _ => none
  | _ => none
/-- from an unsafe pointer, to a variable of its own type -/
def xupf (u : TypeId) (sz : Nat) (H : AHeap) : AV → Option AV
  | .ptr b 0 0 => match H.get b with
    | .row T z es (.own _ _ _) => if T = u ∧ z = sz ∧ 0 < es.length then some (.ptr b 0 0) else none
    | _ => none
  | _ => none
/-- a pointer, and the same one -/
def xpne : AV → AV → Option AV
  | .ptr b i j, .ptr b' i' j' => if b = b' ∧ i = i' ∧ j = j' then some (.bool false) else none
  | _, _ => none
/-- a slice's first cell -/
def xusd : AV → Option AV
  | .nilslice => some .nilptr
  | .slice _ b i _ c => if c = 0 then none else some (.ptr b i 0)
  | _ => none

/-- What a quiet operation tells. -/
def xrd (x : XRd) (fr : AFr) (H : AHeap) : Option AV :=
  match x with
  | .mov x => ev fr x
  | .pick c a b => match ev fr c with
    | some (.bool true) => ev fr a
    | some (.bool false) => ev fr b
    | _ => none
  | .load n agg x => match ev fr x with
    | some (.ptr b i j) => (H.cells b i j n).bind (wholeOr agg)
    | some (.elem e j) => if j + n ≤ e.length then wholeOr agg ((e.drop j).take n) else none
    | _ => none
  | .nilchk x => match ev fr x with
    | some (.ptr b i j) => some (.ptr b i j)
    | some (.func f cs) => some (.func f cs)
    | some (.elem e j) => some (.elem e j)
    | _ => none
  | .bin op ty x y => (ev fr x).bind fun a => (ev fr y).bind fun b => xbin op ty a b
  | .eqc neg ks x y => match ev fr x, ev fr y with
    | some (.agg a), some (.agg b) => (eqCells ks a b).map (xeq neg)
    | _, _ => none
  | .un op x => (ev fr x).bind (xun op)
  | .conv k x => match ev fr x with
    | some (.int _ n) => some (.int k (k.wrap n))
    | _ => none
  | .convS x => match ev fr x with
    | some (.str s) => some (.str s)
    | _ => none
  | .mkfunc f caps => (evs fr caps).map (.func f)
  | .slice sz x lo hi mx => (ev fr x).bind (xslice sz fr lo hi mx)
  | .sliceS x lo hi => (ev fr x).bind (xsliceS fr lo hi)
  | .sliceA n x => match ev fr x with
    | some (.ptr b i j) => if 0 < n then some (.sub b i j n) else none
    | _ => none
  | .off k x => match ev fr x with
    | some (.ptr b i j) => some (.ptr b i (j + k))
    | some (.elem e j) => some (.elem e (j + k))
    | _ => none
  | .idx sz x i => (ev fr x).bind fun a => (ev fr i).bind fun n => xidx sz a n
  | .idxA n sz x i => match ev fr x, ev fr i with
    | some (.ptr b i j), some (.int _ m) => if 0 ≤ m ∧ m < n then some (.ptr b i (j + m.toNat * sz)) else none
    | some (.elem e j), some (.int _ m) => if 0 ≤ m ∧ m < n then some (.elem e (j + m.toNat * sz)) else none
    | _, _ => none
  | .indexS x i => match ev fr x, ev fr i with
    | some (.str s), some (.int _ m) => if 0 ≤ m then (s[m.toNat]?).map fun c => .int .u8 c.toNat else none
    | _, _ => none
  | .indexA n sz agg x i => match ev fr x, ev fr i with
    | some (.agg l), some (.int _ m) => if 0 ≤ m ∧ m < n ∧ m.toNat * sz + sz ≤ l.length then wholeOr agg ((l.drop (m.toNat * sz)).take sz) else none
    | _, _ => none
  | .field o n agg x => match ev fr x with
    | some (.agg l) => if o + n ≤ l.length then wholeOr agg ((l.drop o).take n) else none
    | _ => none
  | .extract i x => match ev fr x with
    | some (.tuple l) => l[i]?
    | _ => none
  | .lenS x => match ev fr x with
    | some (.str s) => some (.int .i64 s.length)
    | _ => none
  | .capL x => match ev fr x with
    | some .nilslice => some (.int .i64 0)
    | _ => none
  | .lenL x => match ev fr x with
    | some .nilslice => some (.int .i64 0)
    | some (.slice _ _ _ l _) => some (.int .i64 l)
    | some (.sub _ _ _ l) => some (.int .i64 l)
    | some (.fs _ es) => some (.int .i64 es.length)
    | _ => none
  | .min x y => match ev fr x, ev fr y with
    | some (.int k a), some (.int _ b) => some (.int k (if b < a then b else a))
    | _, _ => none
  | .max x y => match ev fr x, ev fr y with
    | some (.int k a), some (.int _ b) => some (.int k (if b > a then b else a))
    | _, _ => none
  | .build zero parts => (fillL fr parts zero).map .agg
  | .lookup zero ok c x k => match ev fr k with
    | some kv => if ckFits c kv then match ev fr x with
      | some .nilmap => some (if ok then .tuple [zero, .bool false] else zero)
      | some (.map b) => match H.get b with
        | .map es => match mfind kv es with
          | some (some v) => some (if ok then .tuple [v, .bool true] else v)
          | some none => some (if ok then .tuple [zero, .bool false] else zero)
          | none => none
        | _ => none
      | _ => none
      else none
    | none => none
  | .upp x => (ev fr x).bind (xupp H)
  | .upf u sz x => (ev fr x).bind (xupf u sz H)
  | .usd x => (ev fr x).bind xusd
  | .pne x y => (ev fr x).bind fun p => (ev fr y).bind (xpne p)

/-- An operation of the model that tells what an abstract one does. -/
def RdOk (P : Program) (o : Oper) (x : XRd) : Prop :=
  ∀ (I : Inj) (H : AHeap) (w : World) (N : Nat) (fr : AFr) (a : Act) (v : AV), Sim I H w → AR N I fr a → xrd x fr H = some v → ∃ v', (execOp a.eval o).run P w = .ok (.value v') w ∧ VR I v v'

section
variable {P : Program} {o : Oper}

theorem rd_mov {s : Operand} {x : XA} (ho : o.op = .move s ∨ o.op = .assign s) (hx : opA s = some x) : RdOk P o (.mov x) := by
  intro I H w N fr a v hs ha h
  refine ⟨a.eval s, ?_, ev_ok ha hx h⟩
  rcases ho with ho | ho <;> simp [execOp, ho]

theorem rd_pick {c s t : Operand} {xc x y : XA} (ho : o.op = .pick c s t) (hc : opA c = some xc) (hx : opA s = some x) (hy : opA t = some y) : RdOk P o (.pick xc x y) := by
  intro I H w N fr a v hs ha h
  simp only [xrd] at h
  split at h
  · rename_i hb
    have e := ev_ok ha hc hb
    simp only [VR] at e
    refine ⟨a.eval s, ?_, ev_ok ha hx h⟩
    simp [execOp, ho, e, asBool]
  · rename_i hb
    have e := ev_ok ha hc hb
    simp only [VR] at e
    refine ⟨a.eval t, ?_, ev_ok ha hy h⟩
    simp [execOp, ho, e, asBool]
  · cases h

theorem wholeOr_VR {I : Inj} {agg : Bool} {l : List AV} {vs : List Value} (h : VRs I l vs) {v : AV} (hv : wholeOr agg l = some v) :
    (agg = true ∧ VR I v (.agg vs.toArray)) ∨ (agg = false ∧ ∃ u, vs = [u] ∧ VR I v u) := by
  unfold wholeOr at hv
  split at hv
  · rename_i ha
    cases hv
    exact .inl ⟨ha, by simp only [VR]; exact ⟨_, rfl, by simpa using h⟩⟩
  · rename_i ha
    split at hv
    · cases hv
      simp only [VRs] at h
      obtain ⟨u, r, rfl, h1, rfl⟩ := h
      exact .inr ⟨by simpa using ha, u, rfl, h1⟩
    · cases hv

theorem rd_load {t : TypeId} {s : Operand} {x : XA} {n : Nat} {agg : Bool} (ho : o.op = .load t s) (hx : opA s = some x) (hn : szOf P t = some n) (hg : aggOf P t = some agg)
    (h1 : agg = false → n = 1) : RdOk P o (.load n agg x) := by
  intro I H w N fr a v hs ha h
  simp only [xrd] at h
  split at h
  · rename_i b i j hp
    have e := ev_ok ha hx hp
    simp only [VR] at e
    obtain ⟨_, e⟩ := e
    simp only [Option.bind_eq_some_iff] at h
    obtain ⟨l, hl, hv⟩ := h
    obtain ⟨hlen, _, vs, hvs, hcell⟩ := hs.cells hl
    have hvl := hvs.length
    have hload := run_loadCells_list (P := P) w _ vs hcell
    rw [hvl, hlen] at hload
    rcases wholeOr_VR hvs hv with ⟨rfl, hr⟩ | ⟨rfl, u, rfl, hr⟩
    · refine ⟨_, ?_, hr⟩
      simp [execOp, ho, e, Instr.loadAt, Instr.sureAddr, loadVar, run_isAgg w hg, run_sizeOf w hn, hload]
    · refine ⟨u, ?_, hr⟩
      have hc := hcell 0 u rfl
      rw [addr_add, Nat.add_zero] at hc
      simp [execOp, ho, e, Instr.loadAt, Instr.sureAddr, loadVar, run_isAgg w hg, hc]
  · rename_i e j hp
    have ep := ev_ok ha hx hp
    simp only [VR] at ep
    obtain ⟨B, O, vs, e1, hseg, hvs, _⟩ := ep
    split at h
    · rename_i hle
      have hvs' := (hvs.drop j).take n
      have hlen : ((vs.drop j).take n).length = n := by have := hvs.length; simp; omega
      have hcell := fun k v hk => hs.seg_cell ((hseg.drop j).take n) k v hk
      have hload := run_loadCells_list (P := P) w _ _ hcell
      rw [hlen] at hload
      rcases wholeOr_VR hvs' h with ⟨rfl, hr⟩ | ⟨rfl, u, hu, hr⟩
      · refine ⟨_, ?_, hr⟩
        simp [execOp, ho, e1, Instr.loadAt, Instr.sureAddr, loadVar, run_isAgg w hg, run_sizeOf w hn, hload]
      · refine ⟨u, ?_, hr⟩
        rw [hu] at hcell
        have hc := hcell 0 u rfl
        rw [addr_add, Nat.add_zero] at hc
        simp [execOp, ho, e1, Instr.loadAt, Instr.sureAddr, loadVar, run_isAgg w hg, hc]
    · cases h
  · cases h

theorem rd_nilchk {s : Operand} {x : XA} (ho : o.op = .nilCheck s) (hx : opA s = some x) : RdOk P o (.nilchk x) := by
  intro I H w N fr a v hs ha h
  simp only [xrd] at h
  split at h
  · rename_i b i j hp
    cases h
    have e := ev_ok ha hx hp
    have e' := e
    simp only [VR] at e'
    obtain ⟨_, e'⟩ := e'
    exact ⟨_, by simp [execOp, ho, e'], e' ▸ e⟩
  · rename_i f cs hp
    cases h
    have e := ev_ok ha hx hp
    have e' := e
    simp only [VR] at e'
    obtain ⟨cs', e', _⟩ := e'
    exact ⟨_, by simp [execOp, ho, e'], e' ▸ e⟩
  · rename_i e j hp
    cases h
    have e := ev_ok ha hx hp
    have e' := e
    simp only [VR] at e'
    obtain ⟨B, O, vs, e', _⟩ := e'
    exact ⟨_, by simp [execOp, ho, e'], e' ▸ e⟩
  · cases h

theorem eqGuard_int (op : BinOp) (t : TypeId) (x y : Operand) (k k' : IntKind) (a b : Int) (w : World) : (eqGuard op t x y (.int k a) (.int k' b)).run P w = .ok () w := by
  cases op <;> simp [eqGuard]
theorem eqGuard_str (op : BinOp) (t : TypeId) (x y : Operand) (a b : ByteArray) (w : World) : (eqGuard op t x y (.string a) (.string b)).run P w = .ok () w := by
  cases op <;> simp [eqGuard]

theorem xint_ok {op : BinOp} {k : IntKind} {a b : Int} {v : AV} (h : xint op k a b = some v) (t : TypeId) (w : World) :
    ∃ v', (binOp op t (.int k a) (.int k b)).run P w = .ok v' w ∧ ∀ I, VR I v v' := by
  unfold xint at h
  split at h <;> (try (split at h)) <;> (try (cases h; done)) <;> (try cases h) <;> refine ⟨_, ?_, fun I => by simp [VR]; rfl⟩ <;> simp [binOp, Op.intArith, Op.intDiv, Op.intCmp, *]

theorem size_toList (a : List UInt8) : (ByteArray.mk a.toArray).size = a.length := by simp [ByteArray.size]
theorem ba_append (a b : List UInt8) : (ByteArray.mk a.toArray) ++ (ByteArray.mk b.toArray) = ByteArray.mk (a ++ b).toArray := by
  apply ByteArray.ext
  simp

theorem xstr_ok {op : BinOp} {a b : List UInt8} {v : AV} (h : xstr op a b = some v) (t : TypeId) (w : World) :
    ∃ v', (binOp op t (.string ⟨a.toArray⟩) (.string ⟨b.toArray⟩)).run P w = .ok v' w ∧ ∀ I, VR I v v' := by
  unfold xstr at h
  split at h
  · split at h
    · rename_i hle
      cases h
      refine ⟨_, ?_, fun I => by simp only [VR]; rfl⟩
      have h2 : ¬ (((a.length + b.length : Nat) : Int) > IntKind.i64.max) := by
        simp [IntKind.max, IntKind.signed, IntKind.bits]; omega
      simp only [binOp, Op.stringOp, size_toList]
      rw [if_neg h2, ba_append]; rfl
    · cases h
  all_goals first | (cases h; done) | skip
  all_goals
    cases h
    refine ⟨_, ?_, fun I => by simp only [VR]; rfl⟩
    simp [binOp, Op.stringOp]


theorem fs_cons_some {I : Inj} {sz : Nat} {e : List AV} {es : List (List AV)} {v : Value} (h : ∃ vs, VRss I sz (e :: es) vs ∧ (∀ u ∈ vs, u.oneCell' = true) ∧ ((e :: es = [] ∧ v = .slice none 0 0) ∨ ∃ A C, v = .slice (some A) (e :: es).length C ∧ (e :: es).length ≤ C ∧ (e :: es = [] ∨ ∃ B O, A = ⟨B, O, none⟩ ∧ FzSeg I B O vs))) :
    ∃ A n C, v = .slice (some A) n C := by
  obtain ⟨_, _, _, ⟨h, _⟩ | ⟨A, C, h, _⟩⟩ := h
  · cases h
  · exact ⟨A, _, C, h⟩

theorem xnil_in {I : Inj} {ty : XTy} {x y : AV} {r : Bool} (h : xnil ty x y = some r) {t : TypeId} (ht : xty P t = ty) {v u : Value} (hv : VR I x v) (hu : VR I y u) (w : World) (d : Nat) :
    (Op.equalIn (d + 1) t v u).run P w = .ok r w := by
  unfold xnil at h
  have tyD : ∀ {c : XTy}, xty P t = c → c ≠ .other → ∃ d, P.underlying t = some d ∧ (match d, c with | .bool, .bool => True | .slice _, .slice => True | .pointer _, .ptr => True | .map _ _, .map => True | .func _ _ _, .func => True | _, _ => False) := by
    intro c hc hn
    unfold xty at hc
    split at hc <;> first | (exact absurd hc.symm hn) | (refine ⟨_, by assumption, ?_⟩; subst hc; trivial)
  split at h <;> (try (cases h; done)) <;> obtain ⟨d', hd, hm⟩ := tyD ht (by simp) <;> cases h <;> simp only [VR] at hv hu
  all_goals (try (obtain ⟨A, n, C, rfl⟩ := fs_cons_some hv)) <;> (try (obtain ⟨A, n, C, rfl⟩ := fs_cons_some hu)) <;> (try (obtain ⟨_, _, A, C, rfl, _⟩ := hv)) <;> (try (obtain ⟨_, _, A, C, rfl, _⟩ := hu)) <;> (try (obtain ⟨_, rfl⟩ := hv)) <;> (try (obtain ⟨_, rfl⟩ := hu)) <;> (try (obtain ⟨_, rfl, _⟩ := hv)) <;> (try (obtain ⟨_, rfl, _⟩ := hu)) <;> (try (obtain ⟨_, _, _, rfl, _⟩ := hv)) <;> (try (obtain ⟨_, _, _, rfl, _⟩ := hu)) <;> (try subst hv) <;> (try subst hu)
  all_goals (cases d' <;> simp at hm <;> simp [Op.equalIn, run_underlying hd])

theorem xnil_ok {I : Inj} {ty : XTy} {x y : AV} {r : Bool} (h : xnil ty x y = some r) {t : TypeId} (ht : xty P t = ty) {v u : Value} (hv : VR I x v) (hu : VR I y u) (w : World) :
    (Op.equal t v u).run P w = .ok r w := xnil_in h ht hv hu w 9999

theorem eqGuard_plain (op : BinOp) (t : TypeId) (x y : Operand) {I : Inj} {ty : XTy} {a b : AV} {r : Bool} (h : xnil ty a b = some r) {v u : Value} (hv : VR I a v) (hu : VR I b u) (w : World) :
    (eqGuard op t x y v u).run P w = .ok () w := by
  unfold xnil at h
  split at h <;> (try (cases h; done)) <;> simp only [VR] at hv hu
  all_goals (try (obtain ⟨A, n, C, rfl⟩ := fs_cons_some hv)) <;> (try (obtain ⟨A, n, C, rfl⟩ := fs_cons_some hu)) <;> (try (obtain ⟨_, _, A, C, rfl, _⟩ := hv)) <;> (try (obtain ⟨_, _, A, C, rfl, _⟩ := hu)) <;> (try (obtain ⟨_, rfl⟩ := hv)) <;> (try (obtain ⟨_, rfl⟩ := hu)) <;> (try (obtain ⟨_, rfl, _⟩ := hv)) <;> (try (obtain ⟨_, rfl, _⟩ := hu)) <;> (try (obtain ⟨_, _, _, rfl, _⟩ := hv)) <;> (try (obtain ⟨_, _, _, rfl, _⟩ := hu)) <;> (try subst hv) <;> (try subst hu)
  all_goals (cases op <;> simp [eqGuard])

theorem binOp_eq (op : BinOp) (neg : Bool) (hop : isEq op = some neg) (t : TypeId) {v u : Value} (hv : ∀ k n, v ≠ .int k n) (hs : ∀ s, v ≠ .string s) (hf : ∀ k n, v ≠ .float k n) (hc : ∀ k n m, v ≠ .complex k n m) {r : Bool} {w : World}
    (h : (Op.equal t v u).run P w = .ok r w) : (binOp op t v u).run P w = .ok (.bool (if neg then !r else r)) w := by
  have hop' : (op = .eql ∧ neg = false) ∨ (op = .neq ∧ neg = true) := by
    cases op <;> simp [isEq] at hop <;> subst hop <;> simp
  rcases hop' with ⟨rfl, rfl⟩ | ⟨rfl, rfl⟩
  · cases v <;> simp [binOp, h] <;> first | (exact absurd rfl (hv _ _)) | (exact absurd rfl (hs _)) | (exact absurd rfl (hf _ _)) | (exact absurd rfl (hc _ _ _)) | skip
  · cases v <;> simp [binOp, h] <;> first | (exact absurd rfl (hv _ _)) | (exact absurd rfl (hs _)) | (exact absurd rfl (hf _ _)) | (exact absurd rfl (hc _ _ _)) | skip

theorem VR.not_num {I : Inj} {a : AV} {v : Value} (h : VR I a v) (h1 : ∀ k n, a ≠ .int k n) (h2 : ∀ s, a ≠ .str s) : (∀ k n, v ≠ .int k n) ∧ (∀ s, v ≠ .string s) ∧ (∀ k n, v ≠ .float k n) ∧ (∀ k n m, v ≠ .complex k n m) := by
  cases a <;> simp only [VR] at h <;> (try (exact absurd rfl (h1 _ _))) <;> (try (exact absurd rfl (h2 _)))
  case ptr => obtain ⟨_, rfl⟩ := h; simp
  case slice => obtain ⟨_, _, A, C, rfl, _⟩ := h; simp
  case sub => obtain ⟨_, rfl, _⟩ := h; simp
  case map => obtain ⟨_, rfl⟩ := h; simp
  case func => obtain ⟨_, rfl, _⟩ := h; simp
  case iface => obtain ⟨_, rfl, _⟩ := h; simp
  case agg => obtain ⟨_, rfl, _⟩ := h; simp
  case tuple => obtain ⟨_, rfl, _⟩ := h; simp
  case fs => rcases h with ⟨_, _, _, ⟨_, rfl⟩ | ⟨A, C, rfl, _⟩⟩ <;> simp
  case elem => obtain ⟨_, _, _, rfl, _⟩ := h; simp
  all_goals (subst h; simp)

theorem rd_bin {op : BinOp} {t t' : TypeId} {s u : Operand} {x y : XA} (ho : o.op = .binOp op t s u t') (hx : opA s = some x) (hy : opA u = some y) : RdOk P o (.bin op (xty P t) x y) := by
  intro I H w N fr a v hs ha h
  simp only [xrd, Option.bind_eq_some_iff] at h
  obtain ⟨p, hp, q, hq, h⟩ := h
  have ep := ev_ok ha hx hp
  have eq := ev_ok ha hy hq
  have run : ∀ {r : Value}, (eqGuard op t s u (a.eval s) (a.eval u)).run P w = .ok () w → (binOp op t (a.eval s) (a.eval u)).run P w = .ok r w → (execOp a.eval o).run P w = .ok (.value r) w := by
    intro r h1 h2
    simp [execOp, ho, h1, h2]
  unfold xbin at h
  split at h
  · split at h
    · simp only [VR] at ep eq
      cases op <;> simp only [xshift] at h <;> (try (cases h; done)) <;> split at h <;> (try (cases h; done)) <;> rename_i hb <;> cases h
      · refine ⟨_, run (by rw [ep, eq]; simp [eqGuard]) (by rw [ep, eq]; simp [binOp, Op.shift, hb]; rfl), by simp [VR]⟩
      · refine ⟨_, run (by rw [ep, eq]; simp [eqGuard]) (by rw [ep, eq]; simp [binOp, Op.shift, hb]; rfl), by simp [VR]⟩
    split at h
    · rename_i hk
      subst hk
      simp only [VR] at ep eq
      obtain ⟨v', h1, h2⟩ := xint_ok (P := P) h t w
      exact ⟨v', run (by rw [ep, eq]; exact eqGuard_int ..) (by rw [ep, eq]; exact h1), h2 I⟩
    · cases h
  · simp only [VR] at ep eq
    obtain ⟨v', h1, h2⟩ := xstr_ok (P := P) h t w
    exact ⟨v', run (by rw [ep, eq]; exact eqGuard_str ..) (by rw [ep, eq]; exact h1), h2 I⟩
  · rename_i p' q' hn1 hn2
    split at h
    · rename_i neg hneg
      simp only [Option.map_eq_some_iff] at h
      obtain ⟨r, hr, rfl⟩ := h
      have he := xnil_ok (P := P) hr rfl ep eq w
      have hnn := VR.not_num ep (fun k n e => by subst e; unfold xnil at hr; split at hr <;> simp_all) (fun z e => by subst e; unfold xnil at hr; split at hr <;> simp_all)
      exact ⟨_, run (eqGuard_plain op t s u hr ep eq w) (binOp_eq op neg hneg t hnn.1 hnn.2.1 hnn.2.2.1 hnn.2.2.2 he), by simp [xeq, VR]⟩
    · cases h

theorem eqCells_vals {I : Inj} : ∀ {ks : List CK} {l m : List AV} {r : Bool}, eqCells ks l m = some r → ∀ {vs us : List Value}, VRs I l vs → VRs I m us → eqVals ks vs us = some r
  | [], l, m, r, h, vs, us, hv, hu => by
    unfold eqCells at h
    split at h <;> (try (cases h; done))
    all_goals first | (rename_i e; cases e; done) | skip
    simp only [VRs] at hv hu
    subst hv; subst hu
    exact h
  | k :: ks, l, m, r, h, vs, us, hv, hu => by
    unfold eqCells at h
    split at h <;> (try (cases h; done))
    all_goals (rename_i e; cases e)
    all_goals simp only [VRs] at hv hu
    all_goals obtain ⟨v, vs', rfl, h1, h2⟩ := hv
    all_goals obtain ⟨u, us', rfl, h3, h4⟩ := hu
    all_goals simp only [VR] at h1 h3
    all_goals subst h1
    all_goals subst h3
    · split at h
      · rename_i hk
        simp only [Option.map_eq_some_iff] at h
        obtain ⟨r', h5, rfl⟩ := h
        simp [eqVals, hk, eqCells_vals h5 h2 h4]
      · cases h
    · simp only [Option.map_eq_some_iff] at h
      obtain ⟨r', h5, rfl⟩ := h
      simp [eqVals, eqCells_vals h5 h2 h4]
    · simp only [Option.map_eq_some_iff] at h
      obtain ⟨r', h5, rfl⟩ := h
      simp [eqVals, eqCells_vals h5 h2 h4]

theorem rd_eqc {op : BinOp} {neg : Bool} {t t' : TypeId} {s u : Operand} {x y : XA} {ks : List CK} (ho : o.op = .binOp op t s u t') (hop : isEq op = some neg) (hx : opA s = some x) (hy : opA u = some y)
    (hk : EqOk P t ks) : RdOk P o (.eqc neg ks x y) := by
  intro I H w N fr a v hs ha h
  simp only [xrd] at h
  split at h
  · rename_i l m hp hq
    have ep := ev_ok ha hx hp
    have eq := ev_ok ha hy hq
    simp only [Option.map_eq_some_iff] at h
    obtain ⟨r, hr, rfl⟩ := h
    simp only [VR] at ep eq
    obtain ⟨cs, e1, r1⟩ := ep
    obtain ⟨ds, e2, r2⟩ := eq
    have hv := eqCells_vals hr r1 r2
    have he := hk.2 _ _ _ w hv
    simp only [Array.toArray_toList] at he
    have hb := binOp_eq (P := P) op neg hop t (v := .agg cs) (u := .agg ds) (by simp) (by simp) (by simp) (by simp) he
    have hop' : (op = .eql ∧ neg = false) ∨ (op = .neq ∧ neg = true) := by
      cases op <;> simp [isEq] at hop <;> subst hop <;> simp
    have hgd : (eqGuard op t s u (.agg cs) (.agg ds)).run P w = .ok () w := by
      rcases hop' with ⟨rfl, rfl⟩ | ⟨rfl, rfl⟩ <;> simp [eqGuard, hk.1]
    refine ⟨_, ?_, by simp only [xeq, VR]; rfl⟩
    simp [execOp, ho, e1, e2, hgd, hb]
  · cases h

theorem rd_un {op : UnOp} {t : TypeId} {s : Operand} {x : XA} (ho : o.op = .unOp op t s) (hx : opA s = some x) : RdOk P o (.un op x) := by
  intro I H w N fr a v hs ha h
  simp only [xrd, Option.bind_eq_some_iff] at h
  obtain ⟨p, hp, h⟩ := h
  have e := ev_ok ha hx hp
  unfold xun at h
  split at h <;> (try (cases h; done)) <;> cases h <;> simp only [VR] at e
  · rename_i b; exact ⟨.bool (!b), by simp [execOp, ho, e, Op.unary], by simp [VR]⟩
  · rename_i k n; exact ⟨.int k (k.wrap (0 - n)), by simp [execOp, ho, e, Op.unary, Op.intArith], by simp [VR]⟩

theorem rd_conv {s d : TypeId} {op : Operand} {x : XA} {k : IntKind} {u : TypeDesc} (ho : o.op = .convert s d op) (hx : opA op = some x) (hs : P.underlying s = some u) (hd : P.underlying d = some (.int k)) : RdOk P o (.conv k x) := by
  intro I H w N fr a v hsim ha h
  simp only [xrd] at h
  split at h
  · rename_i k' n hp
    cases h
    have e := ev_ok ha hx hp
    simp only [VR] at e
    exact ⟨.int k (k.wrap n), by simp [execOp, ho, e, convert, run_underlying hs, run_underlying hd, Conv.intToInt], by simp [VR]⟩
  · cases h

theorem rd_convS {s d : TypeId} {op : Operand} {x : XA} {u : TypeDesc} (ho : o.op = .convert s d op) (hx : opA op = some x) (hs : P.underlying s = some u) (hd : P.underlying d = some .string) : RdOk P o (.convS x) := by
  intro I H w N fr a v hsim ha h
  simp only [xrd] at h
  split at h
  · rename_i l hp
    cases h
    have e := ev_ok ha hx hp
    have e' := e
    simp only [VR] at e
    exact ⟨a.eval op, by simp [execOp, ho, e, convert, run_underlying hs, run_underlying hd], e'⟩
  · cases h

theorem rd_mkfunc {f : FuncId} {first caps : Array Operand} {xs : List XA} (ho : o.op = .makeFunc (.func f) first caps) (hf : first = #[]) (hx : caps.toList.mapM opA = some xs) : RdOk P o (.mkfunc f xs) := by
  intro I H w N fr a v hsim ha h
  simp only [xrd, Option.map_eq_some_iff] at h
  obtain ⟨vs, hv, rfl⟩ := h
  refine ⟨.func (.func f) #[] (caps.map a.eval), by simp [execOp, ho, hf, Instr.makeFunc], ?_⟩
  simp only [VR]
  exact ⟨_, rfl, by simpa using evs_ok ha hx hv⟩

theorem bnd_ok {I : Inj} {N : Nat} {fr : AFr} {a : Act} (ha : AR N I fr a) {q : Option Operand} {x : Option XA} (hx : (match q, x with | none, none => True | some q, some x => opA q = some x | _, _ => False))
    {y d r : Nat} (h : bnd fr x y d = some r) (code : BoundsCode) (w : World) :
    (match q.map a.eval with | some v => (Instr.sliceBound v y code).run P w = .ok r w ∧ r ≤ y | none => r = d) := by
  cases q with
  | none =>
    cases x with
    | none => simp only [bnd, Option.some.injEq] at h; exact h.symm
    | some x => exact hx.elim
  | some q =>
    cases x with
    | none => exact hx.elim
    | some x =>
      simp only [bnd] at h
      split at h
      · rename_i k n hp
        have e := ev_ok ha hx hp
        simp only [VR] at e
        split at h
        · rename_i hc
          cases h
          refine ⟨by simp [e, Instr.sliceBound, asIntOf, hc], by omega⟩
        · cases h
      · cases h

def oA : Option Operand → Option XA → Prop
  | none, none => True
  | some q, some x => opA q = some x
  | _, _ => False

theorem bnd_le {fr : AFr} {x : Option XA} {y d r : Nat} (h : bnd fr x y d = some r) : r = d ∨ r ≤ y := by
  cases x with
  | none => simp only [bnd, Option.some.injEq] at h; exact .inl h.symm
  | some x =>
    simp only [bnd] at h
    split at h
    · split at h
      · cases h; exact .inr (by omega)
      · cases h
    · cases h

theorem rd_slice {t e : TypeId} {s : Operand} {lo hi mx : Option Operand} {x : XA} {xl xh xm : Option XA} {sz : Nat} (ho : o.op = .slice t s lo hi mx) (hx : opA s = some x)
    (hlo : oA lo xl) (hhi : oA hi xh) (hmx : oA mx xm) (hmh : (xm.isSome && xh.isNone) = false) (ht : P.underlying t = some (.slice e)) (he : szOf P e = some sz) : RdOk P o (.slice sz x xl xh xm) := by
  intro I H w N fr a v hsim ha h
  simp only [xrd, Option.bind_eq_some_iff] at h
  obtain ⟨p, hp, h⟩ := h
  have ep := ev_ok ha hx hp
  have sb : ∀ {len cap m h' o' : Nat}, (∀ {q : Nat}, bnd fr xm cap cap = some m → bnd fr xh m len = some h' → bnd fr xl h' 0 = some o' → q = q →
      (Instr.sliceBounds true len cap (lo.map a.eval) (hi.map a.eval) (mx.map a.eval)).run P w = .ok (o', h', m) w) := by
    intro len cap m h' o' q h1 h2 h3 _
    have b1 := bnd_ok (P := P) ha (q := mx) (x := xm) (by cases mx <;> cases xm <;> simp_all [oA]) h1 .slice3Acap w
    have b2 := bnd_ok (P := P) ha (q := hi) (x := xh) (by cases hi <;> cases xh <;> simp_all [oA]) h2 .slice3B w
    have b2' := bnd_ok (P := P) ha (q := hi) (x := xh) (by cases hi <;> cases xh <;> simp_all [oA]) h2 .sliceAcap w
    have b3 := bnd_ok (P := P) ha (q := lo) (x := xl) (by cases lo <;> cases xl <;> simp_all [oA]) h3 .slice3C w
    have b3' := bnd_ok (P := P) ha (q := lo) (x := xl) (by cases lo <;> cases xl <;> simp_all [oA]) h3 .sliceB w
    cases mx <;> cases hi <;> cases lo <;> cases xm <;> cases xh <;> simp_all [oA, Instr.sliceBounds]
  have sa : ∀ {A : Option Addr} {len cap m h' o' : Nat}, a.eval s = .slice A len cap → bnd fr xm cap cap = some m → bnd fr xh m len = some h' → bnd fr xl h' 0 = some o' →
      (execOp a.eval o).run P w = .ok (.value (.slice (if m = o' then A else A.map (·.add (o' * sz))) (h' - o') (m - o'))) w := by
    intro A len cap m h' o' h0 h1 h2 h3
    have h4 := sb (q := 0) h1 h2 h3 rfl
    simp [execOp, ho, h0, Instr.sliceAt, Instr.slice, run_underlying ht, h4, run_sizeOf w he]
  unfold xslice at h
  split at h
  · simp only [Option.bind_eq_some_iff] at h
    obtain ⟨m, h1, h', h2, o', h3, h4⟩ := h
    cases h4
    simp only [VR] at ep
    have c1 := bnd_le h1
    have c2 := bnd_le h2
    have c3 := bnd_le h3
    have m0 : m = 0 := by omega
    have h0 : h' = 0 := by omega
    have o0 : o' = 0 := by omega
    subst m0; subst h0; subst o0
    exact ⟨_, sa ep h1 h2 h3, by simp [VR]⟩
  · rename_i z b i l c
    split at h
    · rename_i hz
      subst hz
      simp only [Option.bind_eq_some_iff] at h
      obtain ⟨m, h1, h', h2, o', h3, h4⟩ := h
      split at h4
      · rename_i hc
        cases h4
        simp only [VR] at ep
        obtain ⟨hb, hz, A, C, e1, hl, hcC, hA, hcap⟩ := ep
        -- the bounds, at the real capacity
        have c1 := bnd_le h1
        have hm : m ≤ c := by omega
        cases hxm : xm with
        | none =>
          have e2 : m = c := by rw [hxm] at h1; simpa [bnd] using h1.symm
          subst e2
          have h1' : bnd fr xm C C = some C := by rw [hxm]; rfl
          have h2' : bnd fr xh C l = some h' := by
            cases hxh : xh with
            | none => rw [hxh] at h2; exact h2
            | some q =>
              rw [hxh] at h2
              simp only [bnd] at h2 ⊢
              split at h2
              · split at h2
                · rename_i hn; rw [if_pos (by omega)]; exact h2
                · cases h2
              · cases h2
          refine ⟨_, sa e1 h1' h2' h3, ?_⟩
          simp only [VR]
          refine ⟨hb, hz, if C = o' then A else A.add (o' * z), C - o', by congr 1; split <;> rfl, by omega, by omega, ?_, ?_⟩
          · by_cases hCo : C = o'
            · exact .inl (by omega)
            · right
              rw [if_neg hCo]
              rcases hA with hA | hA
              · omega
              · rw [hA, addr_add, hz, Nat.add_mul, Nat.add_assoc]
          · rcases hcap with hcap | hcap
            · exact .inl (by omega)
            · right
              have : i + o' + (C - o') = i + C := by omega
              rw [this]; exact hcap
        | some q =>
          have h1' : bnd fr xm C C = some m := by
            rw [hxm] at h1 ⊢
            simp only [bnd] at h1 ⊢
            split at h1
            · split at h1
              · rename_i hn; rw [if_pos (by omega)]; exact h1
              · cases h1
            · cases h1
          refine ⟨_, sa e1 h1' h2 h3, ?_⟩
          simp only [VR]
          refine ⟨hb, hz, if m = o' then A else A.add (o' * z), m - o', by congr 1; split <;> rfl, by omega, by omega, ?_, .inl rfl⟩
          by_cases hCo : m = o'
          · exact .inl (by omega)
          · right
            rw [if_neg hCo]
            rcases hA with hA | hA
            · omega
            · rw [hA, addr_add, hz, Nat.add_mul, Nat.add_assoc]
      · cases h4
    · cases h
  · rename_i z es
    split at h
    · rename_i hz
      subst hz
      simp only [Option.bind_eq_some_iff] at h
      obtain ⟨m, h1, h', h2, o', h3, h4⟩ := h
      split at h4
      · rename_i hc
        cases h4
        simp only [VR] at ep
        obtain ⟨vs, hvs, hone, hA⟩ := ep
        obtain ⟨f1, f2⟩ := hvs.flat
        have c1 := bnd_le h1
        have hm : m ≤ es.length := by omega
        have part : VRss I z ((es.take h').drop o') ((vs.take (h' * z)).drop (o' * z)) := by
          refine VRss.of_flat ?_ fun e he => f2 e (List.mem_of_mem_take (List.mem_of_mem_drop he))
          rw [← drop_flat (fun e he => f2 e (List.mem_of_mem_take he)), ← take_flat f2]
          exact (f1.take _).drop _
        have one' : ∀ u ∈ (vs.take (h' * z)).drop (o' * z), u.oneCell' = true := fun u hu => hone u (List.mem_of_mem_take (List.mem_of_mem_drop hu))
        have len' : ((es.take h').drop o').length = h' - o' := by simp; omega
        rcases hA with ⟨he, e1⟩ | ⟨A, C, e1, hC, hA⟩
        · subst he
          have m0 : m = 0 := by simpa using hm
          have h0 : h' = 0 := by omega
          have o0 : o' = 0 := by omega
          subst m0; subst h0; subst o0
          refine ⟨_, sa e1 h1 h2 h3, ?_⟩
          simp only [VR]
          exact ⟨_, part, one', .inl (by simp)⟩
        · have fin : ∀ M, h' ≤ M → M ≤ C → (execOp a.eval o).run P w = .ok (.value (.slice (if M = o' then some A else (some A).map (·.add (o' * z))) (h' - o') (M - o'))) w → ∃ v', (execOp a.eval o).run P w = .ok (.value v') w ∧ VR I (.fs z ((es.take h').drop o')) v' := by
            intro M hM1 hM2 hrun
            refine ⟨_, hrun, ?_⟩
            simp only [VR]
            refine ⟨_, part, one', .inr ⟨if M = o' then A else A.add (o' * z), M - o', by rw [len']; congr 1; split <;> rfl, by rw [len']; omega, ?_⟩⟩
            by_cases hMo : M = o'
            · left; exact List.eq_nil_of_length_eq_zero (by rw [len']; omega)
            · rcases hA with hA | ⟨B, O, rfl, hseg⟩
              · left; simp [hA]
              · right
                refine ⟨B, O + o' * z, ?_, ?_⟩
                · rw [if_neg hMo, addr_add]
                · exact (hseg.take _).drop _
          cases hxm : xm with
          | none =>
            have e2 : m = es.length := by rw [hxm] at h1; simpa [bnd] using h1.symm
            subst e2
            have h1' : bnd fr xm C C = some C := by rw [hxm]; rfl
            have h2' : bnd fr xh C es.length = some h' := by
              cases hxh : xh with
              | none => rw [hxh] at h2; exact h2
              | some q =>
                rw [hxh] at h2
                simp only [bnd] at h2 ⊢
                split at h2
                · split at h2
                  · rename_i hn; rw [if_pos (by omega)]; exact h2
                  · cases h2
                · cases h2
            exact fin C (by omega) (Nat.le_refl _) (sa e1 h1' h2' h3)
          | some q =>
            have h1' : bnd fr xm C C = some m := by
              rw [hxm] at h1 ⊢
              simp only [bnd] at h1 ⊢
              split at h1
              · split at h1
                · rename_i hn; rw [if_pos (by omega)]; exact h1
                · cases h1
              · cases h1
            exact fin m (by omega) (by omega) (sa e1 h1' h2 h3)
      · cases h4
    · cases h
  · cases h

theorem rd_sliceS {t : TypeId} {s : Operand} {lo hi : Option Operand} {x : XA} {xl xh : Option XA} (ho : o.op = .slice t s lo hi none) (hx : opA s = some x)
    (hlo : oA lo xl) (hhi : oA hi xh) (ht : P.underlying t = some .string) : RdOk P o (.sliceS x xl xh) := by
  intro I H w N fr a v hsim ha h
  simp only [xrd, Option.bind_eq_some_iff] at h
  obtain ⟨p, hp, h⟩ := h
  have ep := ev_ok ha hx hp
  unfold xsliceS at h
  split at h
  · rename_i l
    simp only [Option.bind_eq_some_iff] at h
    obtain ⟨h', h2, o', h3, h4⟩ := h
    cases h4
    simp only [VR] at ep
    have b2 := bnd_ok (P := P) ha (q := hi) (x := xh) (by cases hi <;> cases xh <;> simp_all [oA]) h2 .sliceAlen w
    have b3 := bnd_ok (P := P) ha (q := lo) (x := xl) (by cases lo <;> cases xl <;> simp_all [oA]) h3 .sliceB w
    have sb : (Instr.sliceBounds false l.length l.length (lo.map a.eval) (hi.map a.eval) none).run P w = .ok (o', h', l.length) w := by
      cases hi <;> cases lo <;> simp_all [Instr.sliceBounds]
    refine ⟨.string ((ByteArray.mk l.toArray).extract o' h'), ?_, ?_⟩
    · simp [execOp, ho, ep, Instr.sliceAt, Instr.slice, run_underlying ht, size_toList, sb]
    · simp only [VR]
      congr 1
      apply ByteArray.ext
      simp [List.drop_take]
  · cases h

theorem rd_sliceA {t e : TypeId} {s : Operand} {x : XA} {n : Nat} (ho : o.op = .slice t s none none none) (hx : opA s = some x) (ht : P.underlying t = some (.array n e)) (he : (szOf P e).isSome = true) : RdOk P o (.sliceA n x) := by
  intro I H w N fr a v hsim ha h
  simp only [xrd] at h
  split at h
  · rename_i b i j hp
    split at h
    · rename_i hn
      cases h
      have ep := ev_ok ha hx hp
      simp only [VR] at ep
      obtain ⟨hb, ep⟩ := ep
      obtain ⟨sz, hsz⟩ := Option.isSome_iff_exists.1 he
      refine ⟨.slice (some ⟨I.B b, I.O b + i * I.esz b + j, none⟩) n n, ?_, by simp only [VR]; exact ⟨hb, trivial, hn⟩⟩
      simp [execOp, ho, ep, Instr.sliceAt, Instr.sureAddr, Instr.sliceBounds, run_underlying ht, run_sizeOf w hsz, Addr.add]
    · cases h
  · cases h

theorem rd_off {t : TypeId} {s : Operand} {f : Nat} {x : XA} {fs : Array Field} {fd : Field} {sz : Nat} (ho : o.op = .fieldAddr t s f) (hx : opA s = some x) (ht : P.underlying t = some (.struct fs)) (hf : fs[f]? = some fd)
    (hsz : szOf P fd.type = some sz) (h0 : sz ≠ 0) : RdOk P o (.off fd.offset x) := by
  intro I H w N fr a v hsim ha h
  simp only [xrd] at h
  split at h
  · rename_i b i j hp
    cases h
    have ep := ev_ok ha hx hp
    simp only [VR] at ep
    obtain ⟨hb, ep⟩ := ep
    refine ⟨_, ?_, by simp only [VR]; exact ⟨hb, rfl⟩⟩
    simp [execOp, ho, ep, Instr.fieldAt, run_underlying ht, hf, Instr.sureAddr, fieldPlace, run_sizeOf w hsz, h0, addr_add, Nat.add_assoc]
  · rename_i e j hp
    cases h
    have ep := ev_ok ha hx hp
    simp only [VR] at ep
    obtain ⟨B, O, vs, ep, hseg, hvs, hone⟩ := ep
    refine ⟨_, ?_, by simp only [VR]; exact ⟨B, O, vs, rfl, hseg, hvs, hone⟩⟩
    simp [execOp, ho, ep, Instr.fieldAt, run_underlying ht, hf, Instr.sureAddr, fieldPlace, run_sizeOf w hsz, h0, addr_add, Nat.add_assoc]
  · cases h

theorem rd_idx {t e : TypeId} {s q : Operand} {x y : XA} {sz : Nat} (ho : o.op = .indexAddr t s q) (hx : opA s = some x) (hy : opA q = some y) (ht : P.underlying t = some (.slice e)) (he : szOf P e = some sz) : RdOk P o (.idx sz x y) := by
  intro I H w N fr a v hsim ha h
  simp only [xrd, Option.bind_eq_some_iff] at h
  obtain ⟨p, hp, n, hn, h⟩ := h
  have ep := ev_ok ha hx hp
  have en := ev_ok ha hy hn
  unfold xidx at h
  split at h
  · rename_i z b i l c k m
    split at h
    · rename_i hc
      cases h
      simp only [VR] at ep en
      obtain ⟨hb, hz, A, C, e1, hl, hcC, hA, hcap⟩ := ep
      have hA' : A = ⟨I.B b, I.O b + i * I.esz b, none⟩ := by
        rcases hA with hA | hA
        · omega
        · exact hA
      refine ⟨.pointer (some ⟨I.B b, I.O b + (i + m.toNat) * I.esz b + 0, none⟩), ?_, by simp only [VR]; exact ⟨hb, trivial⟩⟩
      have e2 : z = I.esz b := hz
      have e3 : z = sz := hc.1
      simp [execOp, ho, e1, en, Instr.indexAt, asIntOf, run_underlying ht, hc.2.1, hc.2.2, run_sizeOf w he, hA', addr_add, ← e3, e2, Nat.add_mul, Nat.add_assoc]
    · cases h
  · rename_i b i j l k m
    split at h
    · rename_i hc
      cases h
      simp only [VR] at ep en
      obtain ⟨hb, e1, hl⟩ := ep
      refine ⟨.pointer (some ⟨I.B b, I.O b + i * I.esz b + (j + m.toNat * sz), none⟩), ?_, by simp only [VR]; exact ⟨hb, trivial⟩⟩
      simp [execOp, ho, e1, en, Instr.indexAt, asIntOf, run_underlying ht, hc.1, hc.2, run_sizeOf w he, addr_add, Nat.add_assoc]
    · cases h
  · rename_i z es k m
    split at h
    · rename_i hc
      simp only [Option.map_eq_some_iff] at h
      obtain ⟨el, hel, rfl⟩ := h
      simp only [VR] at ep en
      obtain ⟨vs, hvs, hone, hA⟩ := ep
      obtain ⟨rfl, hc⟩ := hc
      have hlt := (List.getElem?_eq_some_iff.1 hel).1
      have hne : es ≠ [] := by rintro rfl; simp at hlt
      rcases hA with ⟨hA, _⟩ | ⟨A, C, e1, hC, hA | ⟨B, O, rfl, hseg⟩⟩
      · exact absurd hA hne
      · exact absurd hA hne
      · refine ⟨.pointer (some ⟨B, O + m.toNat * z + 0, none⟩), ?_, ?_⟩
        · have h2 : m < es.length := by omega
          simp [execOp, ho, e1, en, Instr.indexAt, asIntOf, run_underlying ht, hc, h2, run_sizeOf w he, addr_add]
        · simp only [VR]
          refine ⟨B, O + m.toNat * z, _, rfl, (hseg.drop _).take z, hvs.get hel, fun u hu => hone u (List.mem_of_mem_drop (List.mem_of_mem_take hu))⟩
    · cases h
  · cases h

theorem rd_idxA {t e : TypeId} {s q : Operand} {x y : XA} {sz n : Nat} (ho : o.op = .indexAddr t s q) (hx : opA s = some x) (hy : opA q = some y) (ht : P.underlying t = some (.array n e)) (he : szOf P e = some sz) : RdOk P o (.idxA n sz x y) := by
  intro I H w N fr a v hsim ha h
  simp only [xrd] at h
  split at h
  · rename_i b i j k m hp hn
    split at h
    · rename_i hc
      cases h
      have ep := ev_ok ha hx hp
      have en := ev_ok ha hy hn
      simp only [VR] at ep en
      obtain ⟨hb, e1⟩ := ep
      refine ⟨.pointer (some ⟨I.B b, I.O b + i * I.esz b + (j + m.toNat * sz), none⟩), ?_, by simp only [VR]; exact ⟨hb, trivial⟩⟩
      simp [execOp, ho, e1, en, Instr.indexAt, Instr.sureAddr, asIntOf, run_underlying ht, hc.1, hc.2, run_sizeOf w he, addr_add, Nat.add_assoc]
    · cases h
  · rename_i e j k m hp hn
    split at h
    · rename_i hc
      cases h
      have ep := ev_ok ha hx hp
      have en := ev_ok ha hy hn
      simp only [VR] at ep en
      obtain ⟨B, O, vs, e1, hseg, hvs, hone⟩ := ep
      refine ⟨.pointer (some ⟨B, O + (j + m.toNat * sz), none⟩), ?_, by simp only [VR]; exact ⟨B, O, vs, rfl, hseg, hvs, hone⟩⟩
      simp [execOp, ho, e1, en, Instr.indexAt, Instr.sureAddr, asIntOf, run_underlying ht, hc.1, hc.2, run_sizeOf w he, addr_add, Nat.add_assoc]
    · cases h
  · cases h

theorem rd_indexS {t : TypeId} {s q : Operand} {x y : XA} (ho : o.op = .index t s q) (hx : opA s = some x) (hy : opA q = some y) (ht : P.underlying t = some .string) : RdOk P o (.indexS x y) := by
  intro I H w N fr a v hsim ha h
  simp only [xrd] at h
  split at h
  · rename_i l k m hp hn
    split at h
    · rename_i hc
      simp only [Option.map_eq_some_iff] at h
      obtain ⟨c, hcc, rfl⟩ := h
      have ep := ev_ok ha hx hp
      have en := ev_ok ha hy hn
      simp only [VR] at ep en
      have hlt : m.toNat < l.length := (List.getElem?_eq_some_iff.1 hcc).1
      have hget : (ByteArray.mk l.toArray)[m.toNat]? = some c := by
        rw [ByteArray.getElem?_lt' _ _ (by rw [size_toList]; exact hlt)]
        have : (ByteArray.mk l.toArray)[m.toNat]'(by rw [size_toList]; exact hlt) = l[m.toNat] := rfl
        rw [this]
        rw [List.getElem?_eq_getElem hlt] at hcc
        exact hcc
      refine ⟨.int .u8 c.toNat, ?_, by simp [VR]⟩
      simp [execOp, ho, ep, en, Instr.index, asIntOf, run_underlying ht, hc, hget]
    · cases h
  · cases h

theorem run_part {e : TypeId} {cs : Array Value} {off sz : Nat} {agg : Bool} (hsz : szOf P e = some sz) (hg : aggOf P e = some agg) (h1 : agg = false → sz = 1) {I : Inj} {l : List AV} (hl : VRs I l cs.toList)
    (hle : off + sz ≤ l.length) {v : AV} (hv : wholeOr agg ((l.drop off).take sz) = some v) (w : World) : ∃ v', (part e cs off).run P w = .ok v' w ∧ VR I v v' := by
  have hseg : VRs I ((l.drop off).take sz) ((cs.toList.drop off).take sz) := by
    refine VRs.of_get (by have := hl.length; simp [this]) fun i c hi => ?_
    rw [List.getElem?_take] at hi ⊢
    split at hi
    · rename_i hlt
      rw [if_pos hlt]
      rw [List.getElem?_drop] at hi ⊢
      exact hl.get hi
    · cases hi
  rcases wholeOr_VR hseg hv with ⟨rfl, hr⟩ | ⟨rfl, u, hu, hr⟩
  · refine ⟨.agg (cs.extract off (off + sz)), by simp [part, run_isAgg w hg, run_sizeOf w hsz], ?_⟩
    have : cs.extract off (off + sz) = ((cs.toList.drop off).take sz).toArray := by
      apply Array.ext'
      simp
    rw [this]; exact hr
  · have hs1 := h1 rfl
    subst hs1
    have hc : cs[off]? = some u := by
      have : ((cs.toList.drop off).take 1)[0]? = some u := by rw [hu]; rfl
      simpa using this
    exact ⟨u, by simp [part, run_isAgg w hg, hc], hr⟩

theorem rd_indexA {t e : TypeId} {s q : Operand} {x y : XA} {sz n : Nat} {agg : Bool} (ho : o.op = .index t s q) (hx : opA s = some x) (hy : opA q = some y) (ht : P.underlying t = some (.array n e)) (he : szOf P e = some sz) (hg : aggOf P e = some agg)
    (h1 : agg = false → sz = 1) : RdOk P o (.indexA n sz agg x y) := by
  intro I H w N fr a v hsim ha h
  simp only [xrd] at h
  split at h
  · rename_i l k m hp hn
    split at h
    · rename_i hc
      have ep := ev_ok ha hx hp
      have en := ev_ok ha hy hn
      simp only [VR] at ep en
      obtain ⟨cs, e1, hr⟩ := ep
      obtain ⟨v', h2, h3⟩ := run_part he hg h1 hr hc.2.2 h w
      exact ⟨v', by simp [execOp, ho, e1, en, Instr.index, asIntOf, run_underlying ht, hc.1, hc.2.1, run_sizeOf w he, h2], h3⟩
    · cases h
  · cases h

theorem rd_field {t : TypeId} {s : Operand} {f : Nat} {x : XA} {fs : Array Field} {fd : Field} {sz : Nat} {agg : Bool} (ho : o.op = .field t s f) (hx : opA s = some x) (ht : P.underlying t = some (.struct fs)) (hf : fs[f]? = some fd)
    (hsz : szOf P fd.type = some sz) (hg : aggOf P fd.type = some agg) (h1 : agg = false → sz = 1) : RdOk P o (.field fd.offset sz agg x) := by
  intro I H w N fr a v hsim ha h
  simp only [xrd] at h
  split at h
  · rename_i l hp
    split at h
    · rename_i hc
      have ep := ev_ok ha hx hp
      simp only [VR] at ep
      obtain ⟨cs, e1, hr⟩ := ep
      obtain ⟨v', h2, h3⟩ := run_part hsz hg h1 hr hc h w
      exact ⟨v', by simp [execOp, ho, e1, Instr.field, run_underlying ht, hf, asAgg, h2], h3⟩
    · cases h
  · cases h

theorem rd_extract {s : Operand} {i : Nat} {x : XA} (ho : o.op = .extract s i) (hx : opA s = some x) : RdOk P o (.extract i x) := by
  intro I H w N fr a v hsim ha h
  simp only [xrd] at h
  split at h
  · rename_i l hp
    have ep := ev_ok ha hx hp
    simp only [VR] at ep
    obtain ⟨cs, e1, hr⟩ := ep
    obtain ⟨v', h2, h3⟩ := hr.get h
    exact ⟨v', by simp [execOp, ho, e1, Instr.extract, by simpa using h2], h3⟩
  · cases h

theorem rd_lenS {c : Call} {t : TypeId} {s : Operand} {x : XA} (ho : o.op = .call c) (hc : c.callee = .builtin .len) (hargs : c.args = #[s]) (hts : c.argTypes = #[t]) (hx : opA s = some x) (ht : P.underlying t = some .string) : RdOk P o (.lenS x) := by
  intro I H w N fr a v hsim ha h
  simp only [xrd] at h
  split at h
  · rename_i l hp
    cases h
    have ep := ev_ok ha hx hp
    simp only [VR] at ep
    exact ⟨.int .i64 l.length, by simp [execOp, ho, resolve, hc, hargs, hts, invoke, builtin, ep, Builtin.len_, run_underlying ht, size_toList, goInt], by simp [VR]⟩
  · cases h

theorem rd_lenL {c : Call} {t e : TypeId} {s : Operand} {x : XA} (ho : o.op = .call c) (hc : c.callee = .builtin .len) (hargs : c.args = #[s]) (hts : c.argTypes = #[t]) (hx : opA s = some x) (ht : P.underlying t = some (.slice e)) : RdOk P o (.lenL x) := by
  intro I H w N fr a v hsim ha h
  simp only [xrd] at h
  split at h <;> (try (cases h; done)) <;> rename_i hp <;> cases h <;> have ep := ev_ok ha hx hp <;> simp only [VR] at ep
  · exact ⟨.int .i64 0, by simp [execOp, ho, resolve, hc, hargs, hts, invoke, builtin, ep, Builtin.len_, run_underlying ht, goInt], by simp [VR]⟩
  · obtain ⟨_, _, A, C, e1, _⟩ := ep
    exact ⟨_, by simp [execOp, ho, resolve, hc, hargs, hts, invoke, builtin, e1, Builtin.len_, run_underlying ht, goInt]; rfl, by simp [VR]⟩
  · obtain ⟨_, e1, _⟩ := ep
    exact ⟨_, by simp [execOp, ho, resolve, hc, hargs, hts, invoke, builtin, e1, Builtin.len_, run_underlying ht, goInt]; rfl, by simp [VR]⟩
  · obtain ⟨vs, _, _, ⟨he, e1⟩ | ⟨A, C, e1, _⟩⟩ := ep
    · rename_i es
      subst he
      exact ⟨.int .i64 0, by simp [execOp, ho, resolve, hc, hargs, hts, invoke, builtin, e1, Builtin.len_, run_underlying ht, goInt], by simp [VR]⟩
    · exact ⟨_, by simp [execOp, ho, resolve, hc, hargs, hts, invoke, builtin, e1, Builtin.len_, run_underlying ht, goInt]; rfl, by simp [VR]⟩

theorem rd_capL {c : Call} {t e : TypeId} {s : Operand} {x : XA} (ho : o.op = .call c) (hc : c.callee = .builtin .cap) (hargs : c.args = #[s]) (hts : c.argTypes = #[t]) (hx : opA s = some x) (ht : P.underlying t = some (.slice e)) : RdOk P o (.capL x) := by
  intro I H w N fr a v hsim ha h
  simp only [xrd] at h
  split at h
  · rename_i hp
    cases h
    have ep := ev_ok ha hx hp
    simp only [VR] at ep
    exact ⟨.int .i64 0, by simp [execOp, ho, resolve, hc, hargs, hts, invoke, builtin, ep, Builtin.cap_, run_underlying ht, goInt], by simp [VR]⟩
  · cases h

theorem rd_min {c : Call} {s u : Operand} {x y : XA} (ho : o.op = .call c) (hc : c.callee = .builtin .min) (hargs : c.args = #[s, u]) (hx : opA s = some x) (hy : opA u = some y) : RdOk P o (.min x y) := by
  intro I H w N fr a v hsim ha h
  simp only [xrd] at h
  split at h
  · rename_i k p k' q hp hq
    cases h
    have ep := ev_ok ha hx hp
    have eq := ev_ok ha hy hq
    simp only [VR] at ep eq
    exact ⟨.int k (if q < p then q else p), by simp [execOp, ho, resolve, hc, hargs, invoke, builtin, ep, eq, Builtin.min_, Builtin.min2], by simp [VR]⟩
  · cases h

theorem rd_max {c : Call} {s u : Operand} {x y : XA} (ho : o.op = .call c) (hc : c.callee = .builtin .max) (hargs : c.args = #[s, u]) (hx : opA s = some x) (hy : opA u = some y) : RdOk P o (.max x y) := by
  intro I H w N fr a v hsim ha h
  simp only [xrd] at h
  split at h
  · rename_i k p k' q hp hq
    cases h
    have ep := ev_ok ha hx hp
    have eq := ev_ok ha hy hq
    simp only [VR] at ep eq
    exact ⟨.int k (if q > p then q else p), by simp [execOp, ho, resolve, hc, hargs, invoke, builtin, ep, eq, Builtin.max_, Builtin.max2], by simp [VR]⟩
  · cases h

end
end Go.Am
