/- The abstract machine, part L: from the program's code to the abstract one. -/
import Derived.Test.YtafedebfkdnpfaaGreatAmK
import Derived.Test.YtafedebfkdnpfaaGreatAmHa
namespace Go.Am
open Go Go.RowKit

def wh {α : Type} (b : Bool) (o : Option α) : Option α := if b then o else none
theorem wh_some {α : Type} {b : Bool} {o : Option α} {x : α} : wh b o = some x ↔ b = true ∧ o = some x := by
  cases b <;> simp [wh]

def slOf (P : Program) (t : TypeId) : Option TypeId := match P.underlying t with | some (.slice e) => some e | _ => none
def arOf (P : Program) (t : TypeId) : Option (Nat × TypeId) := match P.underlying t with | some (.array n e) => some (n, e) | _ => none
def stOf (P : Program) (t : TypeId) : Option (Array Field) := match P.underlying t with | some (.struct fs) => some fs | _ => none
def mpOf (P : Program) (t : TypeId) : Option (TypeId × TypeId) := match P.underlying t with | some (.map k e) => some (k, e) | _ => none
def inOf (P : Program) (t : TypeId) : Option IntKind := match P.underlying t with | some (.int k) => some k | _ => none
def isNeq : BinOp → Bool
  | .neq => true
  | _ => false
theorem isNeq_some {op : BinOp} (h : isNeq op = true) : op = .neq := by
  cases op <;> simp_all [isNeq]
/-- neither is a constant -/
def pnB (x y : XA) : Bool := match x, y with | .t _, .t _ => true | _, _ => false
def isUnsT (P : Program) (t : TypeId) : Bool := match P.underlying t with | some .unsafePointer => true | _ => false
def ptOf (P : Program) (t : TypeId) : Option TypeId := match P.underlying t with | some (.pointer e) => some e | _ => none
theorem ptOf_some {P : Program} {t e : TypeId} : ptOf P t = some e ↔ P.underlying t = some (.pointer e) := by
  unfold ptOf; split <;> simp_all
theorem isUnsT_some {P : Program} {t : TypeId} : isUnsT P t = true ↔ P.underlying t = some .unsafePointer := by
  unfold isUnsT; split <;> simp_all
def isStrT (P : Program) (t : TypeId) : Bool := match P.underlying t with | some .string => true | _ => false
theorem slOf_some {P : Program} {t e : TypeId} : slOf P t = some e ↔ P.underlying t = some (.slice e) := by
  unfold slOf; split <;> simp_all
theorem arOf_some {P : Program} {t : TypeId} {r : Nat × TypeId} : arOf P t = some r ↔ P.underlying t = some (.array r.1 r.2) := by
  unfold arOf; split <;> simp_all [Prod.ext_iff]
theorem stOf_some {P : Program} {t : TypeId} {fs : Array Field} : stOf P t = some fs ↔ P.underlying t = some (.struct fs) := by
  unfold stOf; split <;> simp_all
theorem mpOf_some {P : Program} {t : TypeId} {r : TypeId × TypeId} : mpOf P t = some r ↔ P.underlying t = some (.map r.1 r.2) := by
  unfold mpOf; split <;> simp_all [Prod.ext_iff]
theorem inOf_some {P : Program} {t : TypeId} {k : IntKind} : inOf P t = some k ↔ P.underlying t = some (.int k) := by
  unfold inOf; split <;> simp_all
theorem isStrT_some {P : Program} {t : TypeId} : isStrT P t = true ↔ P.underlying t = some .string := by
  unfold isStrT; split <;> simp_all

def zOf (P : Program) (t : TypeId) : Option Value := (P.info? t).bind (·.zero)

def compParts (place : Nat → Option (Nat × Nat)) : List (Nat × Operand) → Option (List (Nat × Nat × XA))
  | [] => some []
  | (i, q) :: r => (place i).bind fun p => (opA q).bind fun x => (compParts place r).map ((p.1, p.2, x) :: ·)
theorem compParts_ok {place : Nat → Option (Nat × Nat)} : ∀ {l : List (Nat × Operand)} {xs : List (Nat × Nat × XA)}, compParts place l = some xs → partsOk place l xs
  | [], xs, h => by cases h; trivial
  | (i, q) :: r, xs, h => by
    simp only [compParts, Option.bind_eq_some_iff, Option.map_eq_some_iff] at h
    obtain ⟨p, h1, x, h2, r', h3, rfl⟩ := h
    exact ⟨h1, h2, compParts_ok h3⟩
def oA? : Option Operand → Option (Option XA)
  | none => some none
  | some q => (opA q).map some
theorem oA?_ok {q : Option Operand} {x : Option XA} (h : oA? q = some x) : oA q x := by
  cases q with
  | none => cases h; trivial
  | some q =>
    simp only [oA?, Option.map_eq_some_iff] at h
    obtain ⟨y, h1, rfl⟩ := h
    exact h1

/-- what is copied into or from an aggregate, or a cell -/
def aggSz (P : Program) (t : TypeId) : Option (Nat × Bool) := (szOf P t).bind fun n => (aggOf P t).bind fun g => wh (g || n == 1) (some (n, g))
theorem aggSz_ok {P : Program} {t : TypeId} {r : Nat × Bool} (h : aggSz P t = some r) : szOf P t = some r.1 ∧ aggOf P t = some r.2 ∧ (r.2 = false → r.1 = 1) := by
  simp only [aggSz, Option.bind_eq_some_iff, wh_some, Option.some.injEq] at h
  obtain ⟨n, h1, g, h2, h3, rfl⟩ := h
  refine ⟨h1, h2, fun hg => ?_⟩
  simp only at hg
  subst hg
  simpa using h3
/-- an element's type: what is asked of it by append and makeSlice -/
def elOf (P : Program) (e : TypeId) : Option (TypeInfo × Value × AV) := (P.info? e).bind fun i => i.zero.bind fun z => (cvd 4 z).bind fun zc => wh (z.cells.size == i.size) (some (i, z, zc))
theorem elOf_ok {P : Program} {e : TypeId} {r : TypeInfo × Value × AV} (h : elOf P e = some r) : P.info? e = some r.1 ∧ r.1.zero = some r.2.1 ∧ cvd 4 r.2.1 = some r.2.2 ∧ r.2.1.cells.size = r.1.size := by
  simp only [elOf, Option.bind_eq_some_iff, wh_some, Option.some.injEq] at h
  obtain ⟨i, h1, z, h2, zc, h3, h4, rfl⟩ := h
  exact ⟨h1, h2, h3, by simpa using h4⟩
def ckOf (P : Program) (t : TypeId) : Option CK := (P.underlying t).bind descCK

section
variable (P : Program) (E : TypeId → Option (List CK))

def compCall (c : Call) : Option XOp :=
  match c.callee, c.args.toList, c.argTypes.toList with
  | .value (.func f), [s], _ => if noesc P f = true then (opA s).map fun x => .rd (.mov x) else (c.args.toList.mapM opA).map fun xs => .call f xs
  | .value (.func f), _, _ => (c.args.toList.mapM opA).map fun xs => .call f xs
  | .value g, _, _ => (opA g).bind fun x => (c.args.toList.mapM opA).map fun xs => .callv x xs
  | .builtin .len, [s], [t] => (opA s).bind fun x => if isStrT P t then some (.rd (.lenS x)) else (slOf P t).map fun _ => .rd (.lenL x)
  | .builtin .cap, [s], [t] => (opA s).bind fun x => (slOf P t).map fun _ => .rd (.capL x)
  | .builtin .min, [s, u], _ => (opA s).bind fun x => (opA u).map fun y => .rd (.min x y)
  | .builtin .max, [s, u], _ => (opA s).bind fun x => (opA u).map fun y => .rd (.max x y)
  | .builtin .append, [s, q], [t, u] => (opA s).bind fun x => (opA q).bind fun y => (slOf P t).bind fun e => (elOf P e).bind fun r => wh (decide (0 < r.1.size) && decide (r.1.size ≤ r.1.bytes)) <|
      match P.underlying u with
      | some (.slice _) => some (.ef (.append e r.1.size r.1.bytes x y))
      | some (.int _) => some (.ef (.appendZ e r.1.size r.1.bytes r.2.2.cells x y))
      | some .string => wh (decide (r.1.size = 1)) (some (.ef (.appendS e r.1.bytes x y)))
      | _ => none
  | .builtin .unsafeSliceData, [s], _ => (opA s).map fun x => .rd (.usd x)
  | .builtin .unsafeString, [s, q], [t, _] => (opA s).bind fun x => (opA q).bind fun y => (ptOf P t).bind fun e => wh (decide (P.cellsOf e = 1)) (some (.ef (.ustr e x y)))
  | .builtin .clear, [s], [t] => (opA s).bind fun x => (slOf P t).bind fun e => (elOf P e).map fun r => .ef (.clear r.1.size r.2.2.cells x)
  | .builtin .copy, [s, q], [t, _] => (opA s).bind fun x => (opA q).bind fun y => (slOf P t).bind fun e => (szOf P e).map fun sz => .ef (.copy sz x y)
  | _, _, _ => none

def compOp (o : Oper) : Option XOp :=
  match o.op with
  | .move s => (opA s).map fun x => .rd (.mov x)
  | .assign s => (opA s).map fun x => .rd (.mov x)
  | .pick c s t => (opA c).bind fun c => (opA s).bind fun x => (opA t).map fun y => .rd (.pick c x y)
  | .load t s => (opA s).bind fun x => (aggSz P t).map fun r => .rd (.load r.1 r.2 x)
  | .nilCheck s => (opA s).map fun x => .rd (.nilchk x)
  | .binOp op t s u _ => (opA s).bind fun x => (opA u).bind fun y =>
      match E t with
      | some ks => (isEq op).map fun neg => .rd (.eqc neg ks x y)
      | none => if isNeq op = true ∧ pnB x y = true ∧ (ptOf P t).isSome = true then (ptOf P t).bind fun e => (P.info? e).map fun _ => .rd (.pne x y) else some (.rd (.bin op (xty P t) x y))
  | .unOp op _ s => (opA s).map fun x => .rd (.un op x)
  | .convert s d q => (opA q).bind fun x => (P.underlying s).bind fun _ => if isStrT P d then some (.rd (.convS x)) else if isUnsT P d then (ptOf P s).bind fun e => (P.info? e).bind fun j => wh (decide (j.size ≠ 0)) (some (.rd (.upp x))) else
      if isUnsT P s then (ptOf P d).bind fun e => (P.info? e).bind fun _ => wh (decide (P.cellsOf e ≠ 0)) (some (.rd (.upf e (P.cellsOf e) x))) else (inOf P d).map fun k => .rd (.conv k x)
  | .makeFunc (.func f) first caps => wh first.isEmpty <| (caps.toList.mapM opA).map fun xs => .rd (.mkfunc f xs)
  | .slice t s lo hi mx => (opA s).bind fun x => (oA? lo).bind fun xl => (oA? hi).bind fun xh => (oA? mx).bind fun xm =>
      match P.underlying t with
      | some (.slice e) => wh (!(xm.isSome && xh.isNone)) <| (szOf P e).map fun sz => .rd (.slice sz x xl xh xm)
      | some .string => wh mx.isNone <| some (.rd (.sliceS x xl xh))
      | some (.array n e) => wh (lo.isNone && hi.isNone && mx.isNone && (szOf P e).isSome) <| some (.rd (.sliceA n x))
      | _ => none
  | .fieldAddr t s f => (opA s).bind fun x => (stOf P t).bind fun fs => (fs[f]?).bind fun fd => (szOf P fd.type).bind fun sz => wh (sz != 0) <| some (.rd (.off fd.offset x))
  | .field t s f => (opA s).bind fun x => (stOf P t).bind fun fs => (fs[f]?).bind fun fd => (aggSz P fd.type).map fun r => .rd (.field fd.offset r.1 r.2 x)
  | .indexAddr t s q => (opA s).bind fun x => (opA q).bind fun y =>
      match P.underlying t with
      | some (.slice e) => (szOf P e).map fun sz => .rd (.idx sz x y)
      | some (.array n e) => (szOf P e).map fun sz => .rd (.idxA n sz x y)
      | _ => none
  | .index t s q => (opA s).bind fun x => (opA q).bind fun y =>
      match P.underlying t with
      | some .string => some (.rd (.indexS x y))
      | some (.array n e) => (aggSz P e).map fun r => .rd (.indexA n r.1 r.2 x y)
      | _ => none
  | .extract s i => (opA s).map fun x => .rd (.extract i x)
  | .build t parts =>
      match P.underlying t with
      | some (.struct fs) => (placesOf P fs).bind fun ps => (zOf P t).bind fun z => (cvd 4 z).bind fun zc => (compParts (ps.toArray[·]?) parts.toList).map fun xs => .rd (.build zc.cells xs)
      | some (.array _ e) => (szOf P e).bind fun sz => (zOf P t).bind fun z => (cvd 4 z).bind fun zc => (compParts (fun i => some (i * sz, sz)) parts.toList).map fun xs => .rd (.build zc.cells xs)
      | _ => none
  | .lookup t s q ok => (opA s).bind fun x => (opA q).bind fun y => (mpOf P t).bind fun m => (ckOf P m.1).bind fun c => (zOf P m.2).bind fun z => (cvd 4 z).map fun zc => .rd (.lookup zc ok c x y)
  | .alloc t => (zOf P t).bind fun z => (cvd 4 z).map fun zc => .ef (.new t zc.cells.length zc.cells)
  | .box t s => (opA s).bind fun x => (szOf P t).map fun sz => .ef (.box t sz x)
  | .buildSlice t len parts => (slOf P t).bind fun e => (szOf P e).bind fun sz => (zOf P e).bind fun z => (cvd 4 z).bind fun zc => wh (zc.cells.length == sz && decide (len * sz ≤ 16777216)) <|
      (compParts (fun i => some (i * sz, sz)) parts.toList).map fun xs => .ef (.buildSlice e sz len zc.cells xs)
  | .store t s q => (opA s).bind fun x => (opA q).bind fun y => (szOf P t).map fun n => .ef (.store n x y)
  | .makeSlice t s q => (opA s).bind fun x => (opA q).bind fun y => (slOf P t).bind fun e => (elOf P e).map fun r => .ef (.mkslice e r.1.size r.1.bytes r.2.2.cells x y)
  | .makeMap _ none => some (.ef .mkmap)
  | .mapUpdate t m s q => (opA m).bind fun xm => (opA s).bind fun x => (opA q).bind fun y => (mpOf P t).bind fun r => (ckOf P r.1).map fun c => .ef (.mapset c xm x y)
  | .insert t m s q => (opA m).bind fun xm => (opA s).bind fun x => (opA q).bind fun y => (mpOf P t).bind fun r => (ckOf P r.1).map fun c => .ef (.mapset c xm x y)
  | .mapEntry t m s => (opA m).bind fun xm => (opA s).bind fun x => (mpOf P t).bind fun r => (ckOf P r.1).bind fun c => (zOf P r.2).bind fun z => (cvd 4 z).map fun zc => .ef (.mapentry c zc xm x)
  | .entryStore _ m s q => (opA m).bind fun xm => (opA s).bind fun x => (opA q).map fun y => .ef (.entrystore xm x y)
  | .call c => compCall P c
  | _ => none

variable {P E}

theorem arr1 {α : Type} {x : Array α} {a : α} (h : x.toList = [a]) : x = #[a] := by
  cases x; simp_all
theorem arr2 {α : Type} {x : Array α} {a b : α} (h : x.toList = [a, b]) : x = #[a, b] := by
  cases x; simp_all

theorem compCall_ok {o : Oper} {c : Call} (ho : o.op = .call c) {x : XOp} (h : compCall P c = some x) : ActOk P o x := by
  unfold compCall at h
  split at h
  · rename_i f s _ hc h1
    split at h
    · rename_i hn
      simp only [Option.map_eq_some_iff] at h
      obtain ⟨x, h2, rfl⟩ := h
      exact .rd (rd_noesc ho (by assumption) (arr1 (by assumption)) h2 hn)
    · simp only [Option.map_eq_some_iff] at h
      obtain ⟨xs, h1, rfl⟩ := h
      exact .call ho (by assumption) h1
  · simp only [Option.map_eq_some_iff] at h
    obtain ⟨xs, h1, rfl⟩ := h
    exact .call ho (by assumption) h1
  · rename_i g _ _ _ hc
    simp only [Option.bind_eq_some_iff, Option.map_eq_some_iff] at h
    obtain ⟨y, h0, xs, h1, rfl⟩ := h
    exact .callv ho (by assumption) h0 h1
  · rename_i s t hc h1 h2
    simp only [Option.bind_eq_some_iff] at h
    obtain ⟨y, h0, h⟩ := h
    split at h
    · rename_i hs
      cases h
      exact .rd (rd_lenS ho hc (arr1 h1) (arr1 h2) h0 (isStrT_some.1 hs))
    · simp only [Option.map_eq_some_iff] at h
      obtain ⟨e, h3, rfl⟩ := h
      exact .rd (rd_lenL ho hc (arr1 h1) (arr1 h2) h0 (slOf_some.1 h3))
  · rename_i s t hc h1 h2
    simp only [Option.bind_eq_some_iff, Option.map_eq_some_iff] at h
    obtain ⟨y, h0, e, h3, rfl⟩ := h
    exact .rd (rd_capL ho hc (arr1 h1) (arr1 h2) h0 (slOf_some.1 h3))
  · rename_i s u _ hc h1
    simp only [Option.bind_eq_some_iff, Option.map_eq_some_iff] at h
    obtain ⟨y, h3, z, h4, rfl⟩ := h
    exact .rd (rd_min ho hc (arr2 h1) h3 h4)
  · rename_i s u _ hc h1
    simp only [Option.bind_eq_some_iff, Option.map_eq_some_iff] at h
    obtain ⟨y, h3, z, h4, rfl⟩ := h
    exact .rd (rd_max ho hc (arr2 h1) h3 h4)
  · rename_i s q t u hc h1 h2
    simp only [Option.bind_eq_some_iff, wh_some, Bool.and_eq_true, decide_eq_true_eq] at h
    obtain ⟨y, h3, z, h4, e, h5, r, h6, ⟨h7, h8⟩, h⟩ := h
    obtain ⟨g1, g2, g3, g4⟩ := elOf_ok h6
    split at h
    · rename_i hu
      cases h
      exact .ef (ef_append ho hc (arr2 h1) (arr2 h2) h3 h4 (slOf_some.1 h5) hu g1 g2 g4 h7 h8)
    · rename_i hu
      cases h
      exact .ef (ef_appendZ ho hc (arr2 h1) (arr2 h2) h3 h4 (slOf_some.1 h5) hu g1 g2 g3 g4 h7 h8)
    · rename_i hu
      simp only [wh_some, decide_eq_true_eq] at h
      obtain ⟨h9, h⟩ := h
      cases h
      exact .ef (ef_appendS ho hc (arr2 h1) (arr2 h2) h3 h4 (slOf_some.1 h5) hu g1 g2 g4 h9 h8)
    · cases h
  · rename_i s _ hc h1
    simp only [Option.map_eq_some_iff] at h
    obtain ⟨y, h3, rfl⟩ := h
    exact .rd (rd_usd ho hc (arr1 h1) h3)
  · rename_i s q t _ hc h1 h2
    simp only [Option.bind_eq_some_iff, wh_some, decide_eq_true_eq] at h
    obtain ⟨y, h3, z, h4, e, h5, h6, h⟩ := h
    cases h
    exact .ef (ef_ustr ho hc (arr2 h1) (arr2 h2) h3 h4 (ptOf_some.1 h5) h6)
  · rename_i s t hc h1 h2
    simp only [Option.bind_eq_some_iff, Option.map_eq_some_iff] at h
    obtain ⟨y, h3, e, h5, r, h6, rfl⟩ := h
    obtain ⟨g1, g2, g3, g4⟩ := elOf_ok h6
    exact .ef (ef_clear ho hc (arr1 h1) (arr1 h2) h3 (slOf_some.1 h5) g1 g2 g3 g4)
  · rename_i s q t u hc h1 h2
    simp only [Option.bind_eq_some_iff, Option.map_eq_some_iff] at h
    obtain ⟨y, h3, z, h4, e, h5, sz, h6, rfl⟩ := h
    exact .ef (ef_copy ho hc (arr2 h1) (arr2 h2) h3 h4 (slOf_some.1 h5) h6)
  · cases h

theorem compOp_ok (hE : ∀ t ks, E t = some ks → EqOk P t ks) {o : Oper} {x : XOp} (h : compOp P E o = some x) : ActOk P o x := by
  unfold compOp at h
  split at h
  case h_1 s ho => simp only [Option.map_eq_some_iff] at h; obtain ⟨x, h1, rfl⟩ := h; exact .rd (rd_mov (.inl ho) h1)
  case h_2 s ho => simp only [Option.map_eq_some_iff] at h; obtain ⟨x, h1, rfl⟩ := h; exact .rd (rd_mov (.inr ho) h1)
  case h_3 ho => simp only [Option.map_eq_some_iff, Option.bind_eq_some_iff] at h; obtain ⟨c, h1, x, h2, y, h3, rfl⟩ := h; exact .rd (rd_pick ho h1 h2 h3)
  case h_4 ho =>
    simp only [Option.map_eq_some_iff, Option.bind_eq_some_iff] at h; obtain ⟨x, h1, r, h2, rfl⟩ := h
    obtain ⟨g1, g2, g3⟩ := aggSz_ok h2
    exact .rd (rd_load ho h1 g1 g2 g3)
  case h_5 ho => simp only [Option.map_eq_some_iff] at h; obtain ⟨x, h1, rfl⟩ := h; exact .rd (rd_nilchk ho h1)
  case h_6 ho =>
    simp only [Option.bind_eq_some_iff] at h; obtain ⟨x, h1, y, h2, h⟩ := h
    split at h
    · rename_i ks hk
      simp only [Option.map_eq_some_iff] at h; obtain ⟨neg, h3, rfl⟩ := h
      exact .rd (rd_eqc ho h3 h1 h2 (hE _ _ hk))
    · split at h
      · rename_i hn
        simp only [Option.bind_eq_some_iff, Option.map_eq_some_iff] at h
        obtain ⟨e, h3, j, h4, rfl⟩ := h
        have := isNeq_some hn.1
        subst this
        exact .rd (rd_pne ho h1 h2 (ptOf_some.1 h3) h4)
      · cases h
        exact .rd (rd_bin ho h1 h2)
  case h_7 ho => simp only [Option.map_eq_some_iff] at h; obtain ⟨x, h1, rfl⟩ := h; exact .rd (rd_un ho h1)
  case h_8 ho =>
    simp only [Option.bind_eq_some_iff] at h; obtain ⟨x, h1, u, h2, h⟩ := h
    split at h
    · rename_i hs; cases h
      exact .rd (rd_convS ho h1 h2 (isStrT_some.1 hs))
    · split at h
      · rename_i hu
        simp only [Option.bind_eq_some_iff, wh_some, decide_eq_true_eq] at h
        obtain ⟨e, h3, j, h4, h5, h⟩ := h
        cases h
        exact .rd (rd_upp ho h1 (ptOf_some.1 h3) (isUnsT_some.1 hu) h4 h5)
      · split at h
        · rename_i hu
          simp only [Option.bind_eq_some_iff, wh_some, decide_eq_true_eq] at h
          obtain ⟨e, h3, j, h4, h5, h⟩ := h
          cases h
          exact .rd (rd_upf ho h1 (isUnsT_some.1 hu) (ptOf_some.1 h3) h4 h5)
        · simp only [Option.map_eq_some_iff] at h; obtain ⟨k, h3, rfl⟩ := h
          exact .rd (rd_conv ho h1 h2 (inOf_some.1 h3))
  case h_9 ho =>
    simp only [wh_some, Option.map_eq_some_iff] at h; obtain ⟨h1, x, h2, rfl⟩ := h
    exact .rd (rd_mkfunc ho (by simpa using h1) h2)
  case h_10 ho =>
    simp only [Option.bind_eq_some_iff] at h
    obtain ⟨x, h1, xl, h2, xh, h3, xm, h4, h⟩ := h
    split at h
    · rename_i e he
      simp only [wh_some, Option.map_eq_some_iff] at h; obtain ⟨h5, sz, h6, rfl⟩ := h
      exact .rd (rd_slice ho h1 (oA?_ok h2) (oA?_ok h3) (oA?_ok h4) (by revert h5; cases xm.isSome && xh.isNone <;> simp) he h6)
    · rename_i he
      simp only [wh_some] at h; obtain ⟨h5, h⟩ := h
      cases h
      rw [Option.isNone_iff_eq_none] at h5
      subst h5
      exact .rd (rd_sliceS ho h1 (oA?_ok h2) (oA?_ok h3) he)
    · rename_i n e he
      simp only [wh_some, Bool.and_eq_true] at h; obtain ⟨⟨⟨⟨h5, h6⟩, h7⟩, h8⟩, h⟩ := h
      cases h
      simp only [Option.isNone_iff_eq_none] at h5 h6 h7
      subst h5 h6 h7
      exact .rd (rd_sliceA ho h1 he h8)
    · cases h
  case h_11 ho =>
    simp only [wh_some, Option.bind_eq_some_iff] at h
    obtain ⟨x, h1, fs, h2, fd, h3, sz, h4, h5, h⟩ := h
    cases h
    exact .rd (rd_off ho h1 (stOf_some.1 h2) h3 h4 (by simpa using h5))
  case h_12 ho =>
    simp only [Option.map_eq_some_iff, Option.bind_eq_some_iff] at h
    obtain ⟨x, h1, fs, h2, fd, h3, r, h4, rfl⟩ := h
    obtain ⟨g1, g2, g3⟩ := aggSz_ok h4
    exact .rd (rd_field ho h1 (stOf_some.1 h2) h3 g1 g2 g3)
  case h_13 ho =>
    simp only [Option.bind_eq_some_iff] at h
    obtain ⟨x, h1, y, h2, h⟩ := h
    split at h
    · rename_i he
      simp only [Option.map_eq_some_iff] at h; obtain ⟨sz, h3, rfl⟩ := h
      exact .rd (rd_idx ho h1 h2 he h3)
    · rename_i he
      simp only [Option.map_eq_some_iff] at h; obtain ⟨sz, h3, rfl⟩ := h
      exact .rd (rd_idxA ho h1 h2 he h3)
    · cases h
  case h_14 ho =>
    simp only [Option.bind_eq_some_iff] at h
    obtain ⟨x, h1, y, h2, h⟩ := h
    split at h
    · rename_i he; cases h
      exact .rd (rd_indexS ho h1 h2 he)
    · rename_i he
      simp only [Option.map_eq_some_iff] at h; obtain ⟨r, h3, rfl⟩ := h
      obtain ⟨g1, g2, g3⟩ := aggSz_ok h3
      exact .rd (rd_indexA ho h1 h2 he g1 g2 g3)
    · cases h
  case h_15 ho => simp only [Option.map_eq_some_iff] at h; obtain ⟨x, h1, rfl⟩ := h; exact .rd (rd_extract ho h1)
  case h_16 ho =>
    split at h
    · rename_i he
      simp only [Option.map_eq_some_iff, Option.bind_eq_some_iff] at h
      obtain ⟨ps, h1, z, h2, zc, h3, xs, h4, rfl⟩ := h
      exact .rd (rd_build ho he h1 h2 h3 (compParts_ok h4))
    · rename_i he
      simp only [Option.map_eq_some_iff, Option.bind_eq_some_iff] at h
      obtain ⟨sz, h1, z, h2, zc, h3, xs, h4, rfl⟩ := h
      exact .rd (rd_buildA ho he h1 h2 h3 (compParts_ok h4))
    · cases h
  case h_17 ho =>
    simp only [Option.map_eq_some_iff, Option.bind_eq_some_iff, ckOf] at h
    obtain ⟨x, h1, y, h2, m, h3, c, ⟨d, h4, h5⟩, z, h6, zc, h7, rfl⟩ := h
    exact .rd (rd_lookup ho h1 h2 (mpOf_some.1 h3) h4 h5 h6 h7)
  case h_18 ho =>
    simp only [Option.map_eq_some_iff, Option.bind_eq_some_iff] at h
    obtain ⟨z, h1, zc, h2, rfl⟩ := h
    exact .ef (ef_new ho h1 h2)
  case h_19 ho =>
    simp only [Option.map_eq_some_iff, Option.bind_eq_some_iff] at h
    obtain ⟨x, h1, sz, h2, rfl⟩ := h
    exact .ef (ef_box ho h1)
  case h_20 ho =>
    simp only [Option.map_eq_some_iff, Option.bind_eq_some_iff, wh_some, Bool.and_eq_true, beq_iff_eq, decide_eq_true_eq] at h
    obtain ⟨e, h1, sz, h2, z, h3, zc, h4, ⟨h5, h6⟩, xs, h7, rfl⟩ := h
    exact .ef (ef_buildSlice ho (slOf_some.1 h1) h2 h3 h4 h5 h6 (compParts_ok h7))
  case h_21 ho =>
    simp only [Option.map_eq_some_iff, Option.bind_eq_some_iff] at h
    obtain ⟨x, h1, y, h2, n, h3, rfl⟩ := h
    exact .ef (ef_store ho h1 h2 h3)
  case h_22 ho =>
    simp only [Option.map_eq_some_iff, Option.bind_eq_some_iff] at h
    obtain ⟨x, h1, y, h2, e, h3, r, h4, rfl⟩ := h
    obtain ⟨g1, g2, g3, g4⟩ := elOf_ok h4
    exact .ef (ef_mkslice ho h1 h2 (slOf_some.1 h3) g1 g2 g3 g4)
  case h_23 ho => cases h; exact .ef (ef_mkmap ho)
  case h_24 ho =>
    simp only [Option.map_eq_some_iff, Option.bind_eq_some_iff, ckOf] at h
    obtain ⟨xm, h1, x, h2, y, h3, r, h4, c, ⟨d, h5, h6⟩, rfl⟩ := h
    exact .ef (ef_mapset (.inl ho) h1 h2 h3 (mpOf_some.1 h4) h5 h6)
  case h_25 ho =>
    simp only [Option.map_eq_some_iff, Option.bind_eq_some_iff, ckOf] at h
    obtain ⟨xm, h1, x, h2, y, h3, r, h4, c, ⟨d, h5, h6⟩, rfl⟩ := h
    exact .ef (ef_mapset (.inr ho) h1 h2 h3 (mpOf_some.1 h4) h5 h6)
  case h_26 ho =>
    simp only [Option.map_eq_some_iff, Option.bind_eq_some_iff, ckOf] at h
    obtain ⟨xm, h1, x, h2, r, h4, c, ⟨d, h5, h6⟩, z, h7, zc, h8, rfl⟩ := h
    exact .ef (ef_mapentry ho h1 h2 (mpOf_some.1 h4) h5 h6 h7 h8)
  case h_27 ho =>
    simp only [Option.map_eq_some_iff, Option.bind_eq_some_iff] at h
    obtain ⟨xm, h1, x, h2, y, h3, rfl⟩ := h
    exact .ef (ef_entrystore ho h1 h2 h3)
  case h_28 c ho => exact compCall_ok ho h
  case h_29 => cases h
end
end Go.Am
