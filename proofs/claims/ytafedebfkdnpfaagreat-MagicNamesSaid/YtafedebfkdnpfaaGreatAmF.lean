/- The abstract machine, part F: the operations that write or make memory. -/
import Derived.Test.YtafedebfkdnpfaaGreatAmE
namespace Go.Am
open Go Go.RowKit

inductive XEf where
  | new (T sz : Nat) (cells : List AV)
  | box (T sz : Nat) (x : XA)
  | buildSlice (T sz len : Nat) (zero : List AV) (parts : List (Nat × Nat × XA))
  | store (n : Nat) (a x : XA)
  | mkslice (T sz bytes : Nat) (zero : List AV) (l c : XA)
  | append (T sz bytes : Nat) (d s : XA)
  | appendZ (T sz bytes : Nat) (zero : List AV) (d n : XA)
  | clear (sz : Nat) (zero : List AV) (x : XA)
  | copy (sz : Nat) (d s : XA)
  | mkmap
  | mapset (c : CK) (m k x : XA)
  | mapentry (c : CK) (zero : AV) (m k : XA)
  | entrystore (m s x : XA)
  | appendS (T bytes : Nat) (d s : XA)
  | ustr (T : TypeId) (p n : XA)
  deriving Inhabited

def und : AV := .tuple []
theorem VR_und (I : Inj) : VR I und undef := by simp [VR, VRs, und, undef]

/-- a row of one's own, for a store -/
def AHeap.own (H : AHeap) (b : Nat) : Option (AHeap × TypeId × Nat × List (List AV) × Nat) :=
  match H.get b with
  | .row T sz es (.own d h s) => some (if h && s then H else H.take b T sz es d, T, sz, es, d)
  | _ => none
/-- elements i .. of a row are replaced -/
def AHeap.put (H : AHeap) (b i : Nat) (new : List (List AV)) : Option AHeap :=
  match H.own b with
  | some (H1, T, sz, es, d) => if i + new.length ≤ es.length ∧ (∀ e ∈ new, e.length = sz) then some (H1.set b (.row T sz (es.take i ++ new ++ es.drop (i + new.length)) (.own d true true))) else none
  | none => none
/-- cells j .. of element i are replaced -/
def AHeap.putCells (H : AHeap) (b i j : Nat) (cs : List AV) : Option AHeap :=
  match H.get b with
  | .row _ _ es _ => match es[i]? with
    | some e => if j + cs.length ≤ e.length then H.put b i [e.take j ++ cs ++ e.drop (j + cs.length)] else none
    | none => none
  | _ => none

def room : Nat := 140737488355328
def xappend (T sz bytes : Nat) (H : AHeap) (new : List (List AV)) : AV → Option (AV × AHeap)
  | .nilslice => if new.length = 0 then some (.nilslice, H) else if new.length * bytes ≤ room then some (.slice sz H.size 0 new.length new.length, H.new (.row T sz new (.own 0 true true))) else none
  | .slice z b i l c => if z ≠ sz then none else if new.length = 0 then some (.slice z b i l c, H) else if l + new.length ≤ c then (H.put b (i + l) new).map fun H' => (.slice z b i (l + new.length) c, H') else
    if (l + new.length) * bytes ≤ room then match H.get b with
      | .row _ z' es .ro => if z' = sz ∧ i + l ≤ es.length then some (.slice sz H.size 0 (l + new.length) (l + new.length), H.new (.row T sz ((es.drop i).take l ++ new) (.own 0 true true))) else none
      | .row T' z' es (.own d h _) => if z' = sz ∧ T' = T ∧ i = 0 ∧ l ≤ es.length then
          if h ∧ l = es.length then some (.slice sz H.size 0 (l + new.length) (l + new.length), H.grow b T sz es new d)
          else some (.slice sz H.size 0 (l + new.length) (l + new.length), (H.take b T sz (es.take l) d).grow b T sz (es.take l) new d) else none
      | _ => none
    else none
  | _ => none
def chunk (sz : Nat) : Nat → List AV → List (List AV)
  | 0, _ => []
  | n + 1, l => l.take sz :: chunk sz n (l.drop sz)
def mset (k x : AV) : List (AV × AV) → Option (List (AV × AV))
  | [] => some [(k, x)]
  | (k', v) :: r => match keyEq k k' with
    | some true => some ((k, x) :: r)
    | some false => (mset k x r).map ((k', v) :: ·)
    | none => none

def byteCells (l : List UInt8) : List (List AV) := l.map fun c => [.int .u8 c.toNat]
def bytesOf : List (List AV) → Option (List UInt8)
  | [] => some []
  | [.int .u8 n] :: r => if 0 ≤ n ∧ n < 256 then (bytesOf r).map (UInt8.ofNat n.toNat :: ·) else none
  | _ :: _ => none
/-- a row's bytes, as a string; they are nobody's any more -/
def xustr (T : TypeId) (H : AHeap) (m : Nat) : AV → Option (AV × AHeap)
  | .ptr b 0 0 => match H.get b with
    | .row T' 1 es (.own d _ _) => if T' = T ∧ m ≤ es.length then (bytesOf (es.take m)).map fun l => (.str l, (H.kill (b - d) b).set b .dead) else none
    | _ => none
  | _ => none
def xustr0 (H : AHeap) : AV → Option (AV × AHeap)
  | .nilptr => some (.str [], H)
  | .ptr _ _ _ => some (.str [], H)
  | _ => none

def xef (x : XEf) (fr : AFr) (H : AHeap) : Option (AV × AHeap) :=
  match x with
  | .new T sz cells => if cells.all AV.one then some (.ptr H.size 0 0, H.new (.row T sz [cells] (.own 0 true true))) else none
  | .box T sz x => match ev fr x with
    | some v => if v.cells.length = sz ∧ v.cells.all AV.one then some (.ptr H.size 0 0, H.new (.row T sz [v.cells] (.own 0 true true))) else none
    | none => none
  | .buildSlice T sz len zero parts => match fillL fr parts (List.replicate len zero).flatten with
    | some l => if l.all AV.one then some (.slice sz H.size 0 len len, H.new (.row T sz (chunk sz len l) (.own 0 true true))) else none
    | none => none
  | .store n a x => match ev fr a, ev fr x with
    | some (.ptr b i j), some v => if v.cells.length = n ∧ v.cells.all AV.one then (H.putCells b i j v.cells).map fun H' => (und, H') else none
    | _, _ => none
  | .mkslice T sz bytes zero l c => match ev fr l, ev fr c with
    | some (.int _ m), some (.int _ n) => if 0 ≤ m ∧ m ≤ n ∧ n.toNat * bytes ≤ room ∧ n ≤ 140737488355328 ∧ zero.all AV.one then some (.slice sz H.size 0 m.toNat n.toNat, H.new (.row T sz (List.replicate n.toNat zero) (.own 0 true true))) else none
    | _, _ => none
  | .append T sz bytes d s => match ev fr d, ev fr s with
    | some dv, some sv => match H.elems sz sv with
      | some new => xappend T sz bytes H new dv
      | none => none
    | _, _ => none
  | .appendZ T sz bytes zero d n => match ev fr d, ev fr n with
    | some dv, some (.int _ m) => if 0 ≤ m ∧ m ≤ 140737488355328 ∧ m.toNat * bytes ≤ room ∧ zero.all AV.one then xappend T sz bytes H (List.replicate m.toNat zero) dv else none
    | _, _ => none
  | .clear sz zero x => match ev fr x with
    | some .nilslice => some (und, H)
    | some (.slice z b i l _) => if z ≠ sz ∨ zero.all AV.one = false then none else if l = 0 then some (und, H) else (H.put b i (List.replicate l zero)).map fun H' => (und, H')
    | _ => none
  | .copy sz d s => match ev fr d, ev fr s with
    | some .nilslice, some .nilslice => some (.int .i64 0, H)
    | some .nilslice, some (.slice _ _ _ _ _) => some (.int .i64 0, H)
    | some (.slice _ _ _ _ _), some .nilslice => some (.int .i64 0, H)
    | some (.slice z b i l _), some (.slice z' b' i' m c') => if z ≠ sz then none else match H.elems sz (.slice z' b' i' (Nat.min m l) c') with
      | some new => if new.length = 0 then some (.int .i64 0, H) else (H.put b i new).map fun H' => (.int .i64 (Nat.min m l : Nat), H')
      | none => none
    | some .nilslice, some (.fs _ _) => some (.int .i64 0, H)
    | some (.slice z b i l _), some (.fs z' es) => if z ≠ sz then none else match H.elems sz (.fs z' (es.take (Nat.min es.length l))) with
      | some new => if new.length = 0 then some (.int .i64 0, H) else (H.put b i new).map fun H' => (.int .i64 (Nat.min es.length l : Nat), H')
      | none => none
    | _, _ => none
  | .mkmap => some (.map H.size, H.new (.map []))
  | .mapset c m k x => match ev fr m, ev fr k, ev fr x with
    | some (.map b), some kv, some v => if ckFits c kv ∧ v.one then match H.get b with
      | .map es => (mset kv v es).map fun es' => (und, H.set b (.map es'))
      | _ => none else none
    | _, _, _ => none
  | .mapentry c zero m k => match ev fr m, ev fr k with
    | some (.map b), some kv => if ckFits c kv then match H.get b with
      | .map es => match midx kv es 0 with
        | some (some i) => match es[i]? with
          | some (_, v) => some (.tuple [v, .int .i64 i], H.set b (.map (es.set i (kv, v))))
          | none => none
        | some none => some (.tuple [zero, .int .i64 es.length], H.set b (.map (es ++ [(kv, zero)])))
        | none => none
      | _ => none else none
    | _, _ => none
  | .entrystore m s x => match ev fr m, ev fr s, ev fr x with
    | some (.map b), some (.int _ n), some v => if 0 ≤ n ∧ v.one then match H.get b with
      | .map es => match es[n.toNat]? with
        | some (k, _) => some (und, H.set b (.map (es.set n.toNat (k, v))))
        | none => none
      | _ => none else none
    | _, _, _ => none
  | .appendS T bytes d s => match ev fr d, ev fr s with
    | some dv, some (.str l) => xappend T 1 bytes H (byteCells l) dv
    | _, _ => none
  | .ustr T p n => match ev fr p, ev fr n with
    | some pv, some (.int .i64 m) => if m = 0 then xustr0 H pv else if 0 < m ∧ m < 9223372036854775807 then xustr T H m.toNat pv else none
    | _, _ => none

def EfRes (P : Program) (o : Oper) (I : Inj) (w : World) (a : Act) (v : AV) (H' : AHeap) : Prop :=
  ∃ n w' I' v', (execOp a.eval o).run P w = .ok n w' ∧ (n = .value v' ∨ (n = .skip ∧ v' = undef)) ∧ I.le I' ∧ Sim I' H' w' ∧ VR I' v v'
def EfOk (P : Program) (o : Oper) (x : XEf) : Prop :=
  ∀ (I : Inj) (H : AHeap) (w : World) (N : Nat) (fr : AFr) (a : Act) (v : AV) (H' : AHeap), Sim I H w → AR N I fr a → xef x fr H = some (v, H') → EfRes P o I w a v H'

theorem one_of {I : Inj} {c : AV} {v : Value} (h : VR I c v) (h1 : c.one = true) : v.oneCell' = true := by
  have := h.oneCell
  rw [h1] at this
  cases v <;> simp_all [vone, Value.oneCell']
theorem one_all {I : Inj} {l : List AV} {vs : List Value} (h : VRs I l vs) (h1 : ∀ c ∈ l, c.one = true) : ∀ v ∈ vs, v.oneCell' = true := by
  intro v hv
  obtain ⟨i, hi⟩ := List.getElem?_of_mem hv
  have hl := h.length
  have hil : i < l.length := by have := (List.getElem?_eq_some_iff.1 hi).1; omega
  obtain ⟨u, h2, h3⟩ := h.get (List.getElem?_eq_getElem hil)
  rw [hi] at h2
  cases h2
  exact one_of h3 (h1 _ (List.getElem_mem hil))

theorem Cells.one {I : Inj} {l : List AV} {cs : Array Value} (h : VRs I l cs.toList) (h1 : ∀ c ∈ l, c.one = true) : Cells I cs 0 l.length [l] := by
  intro i e he j c hc
  cases i with
  | succ i => simp at he
  | zero =>
    simp at he; subst he
    obtain ⟨v, h2, h3⟩ := h.get hc
    exact ⟨v, by simpa using h2, h3, one_of h3 (h1 c (List.mem_of_getElem? hc))⟩

/-- from flat cells -/
theorem Cells.of_flat {I : Inj} {cs : Array Value} {O sz : Nat} : ∀ {es : List (List AV)}, (∀ e ∈ es, e.length = sz) → (∀ (k : Nat) c, es.flatten[k]? = some c → ∃ v, cs[O + k]? = some v ∧ VR I c v ∧ v.oneCell' = true) → Cells I cs O sz es := by
  intro es hl h i e he j c hc
  have : es.flatten[i * sz + j]? = some c := by
    clear h
    induction es generalizing i with
    | nil => simp at he
    | cons x es ih =>
      have hx := hl x List.mem_cons_self
      cases i with
      | zero =>
        simp at he; subst he
        have : j < x.length := (List.getElem?_eq_some_iff.1 hc).1
        simp only [List.flatten_cons, Nat.zero_mul, Nat.zero_add]
        rw [List.getElem?_append_left this]; exact hc
      | succ i =>
        simp only [List.flatten_cons]
        rw [List.getElem?_append_right (by rw [hx, Nat.succ_mul]; omega), hx]
        have : (i + 1) * sz + j - sz = i * sz + j := by rw [Nat.succ_mul]; omega
        rw [this]
        exact ih (fun e he => hl e (List.mem_cons_of_mem _ he)) i (by simpa using he)
  obtain ⟨v, h1, h2⟩ := h _ c this
  exact ⟨v, by rw [← h1]; congr 1; omega, h2⟩

theorem VRs.flat {I : Inj} {cs : List Value} {es : List (List AV)} {sz : Nat} (hl : ∀ e ∈ es, e.length = sz) (h : VRs I es.flatten cs) (h1 : ∀ v ∈ cs, v.oneCell' = true) : Cells I cs.toArray 0 sz es :=
  Cells.of_flat hl fun k c hc => by
    obtain ⟨v, h2, h3⟩ := h.get hc
    exact ⟨v, by simpa using h2, h3, h1 v (List.mem_of_getElem? h2)⟩

theorem chunk_length (sz : Nat) : ∀ (n : Nat) (l : List AV), (chunk sz n l).length = n
  | 0, _ => rfl
  | n + 1, l => by simp [chunk, chunk_length sz n]
theorem chunk_flat (sz : Nat) : ∀ (n : Nat) (l : List AV), l.length = n * sz → (chunk sz n l).flatten = l ∧ ∀ e ∈ chunk sz n l, e.length = sz
  | 0, l, h => by
    have : l = [] := List.eq_nil_of_length_eq_zero (by simpa using h)
    subst this; simp [chunk]
  | n + 1, l, h => by
    rw [Nat.succ_mul] at h
    obtain ⟨h1, h2⟩ := chunk_flat sz n (l.drop sz) (by simp; omega)
    refine ⟨by simp [chunk, h1], fun e he => ?_⟩
    simp only [chunk, List.mem_cons] at he
    rcases he with rfl | he
    · simp; omega
    · exact h2 e he

theorem fillL_length {fr : AFr} : ∀ {ps : List (Nat × Nat × XA)} {l r : List AV}, fillL fr ps l = some r → r.length = l.length
  | [], l, r, h => by simp only [fillL, Option.some.injEq] at h; rw [h]
  | (o, n, x) :: ps, l, r, h => by
    simp only [fillL, Option.bind_eq_some_iff] at h
    obtain ⟨v, hv, h⟩ := h
    split at h
    · rename_i hc
      have := fillL_length h
      simp at this
      omega
    · cases h

theorem seg_put {cur : Array Value} {vs : List Value} {o : Nat} (h : o + vs.length ≤ cur.size) (k : Nat) :
    (cur.toList.take o ++ vs ++ cur.toList.drop (o + vs.length)).toArray[k]? = if o ≤ k ∧ k < o + vs.length then vs[k - o]? else cur[k]? := by
  have hlt : (cur.toList.take o).length = o := by simp; omega
  rw [List.getElem?_toArray]
  by_cases h1 : k < o
  · rw [List.append_assoc, List.getElem?_append_left (by omega), List.getElem?_take, if_pos h1, if_neg (by omega)]; simp
  · by_cases h2 : k < o + vs.length
    · rw [List.append_assoc, List.getElem?_append_right (by omega), List.getElem?_append_left (by omega), if_pos (by omega), hlt]
    · rw [List.getElem?_append_right (by simp; omega), List.getElem?_drop, if_neg (by omega)]
      have : o + vs.length + (k - (cur.toList.take o ++ vs).length) = k := by simp; omega
      rw [this]; simp

theorem wset_row {w : World} {g : Nat} {old cs : Array Value} {T : TypeId} (hg : w.heap[g]? = some (.cells old T (0, 0))) : WSet w (w.setRow g cs) g (.cells cs T) :=
  ⟨setRow_heap w g old cs T (0, 0) hg, fun k hk => setRow_other w g k cs hk, by simp, rfl, rfl, rfl, rfl⟩

theorem VR_newslice {I : Inj} {H : AHeap} (hn : I.n = H.size) {B sz c g l k C : Nat} (hl : l ≤ k) (hk : k ≤ C) (hc : k = C ∨ C * sz ≤ c) :
    VR (I.ext B 0 sz c g) (.slice sz H.size 0 l k) (.slice (some ⟨B, 0, none⟩) l C) := by
  simp only [VR]
  refine ⟨by simp [Inj.ext, hn], by simp [Inj.ext, hn], _, _, rfl, hl, hk, .inr (by simp [Inj.ext, hn]), ?_⟩
  rcases hc with hc | hc
  · exact .inl hc
  · right; simp [Inj.ext, hn]; exact hc

section
variable {P : Program} {o : Oper} {I : Inj} {H : AHeap} {w : World}

theorem ef_new {t : TypeId} {z : Value} {zc : AV} (ho : o.op = .alloc t) (hz : (P.info? t).bind (·.zero) = some z) (hzc : cvd 4 z = some zc) : EfOk P o (.new t zc.cells.length zc.cells) := by
  intro I H w N fr a v H' hs ha h
  simp only [xef] at h
  split at h
  · rename_i h1
    simp only [Option.some.injEq, Prod.mk.injEq] at h
    obtain ⟨rfl, rfl⟩ := h
    have hzr : VRs I zc.cells z.cells.toList := (cvd_ok (I := I) 4 hzc).cells
    have hsim := hs.new_row (T := t) (es := [zc.cells]) (cs := z.cells) (sz := zc.cells.length) (by simp) (Cells.one hzr (by simpa using h1)) (by have := hzr.length; simp at this; simp [this])
    refine ⟨.value (.pointer (some ⟨w.heap.size, 0, none⟩)), _, _, _, ?_, .inl rfl, Inj.le_ext .., hsim, ?_⟩
    · simp [execOp, ho, Instr.alloc, run_zeroValue w hz, newVar, newRow]
    · simp [VR, Inj.ext, hs.size]
  · cases h

theorem ef_box {t : TypeId} {s : Operand} {x : XA} {sz : Nat} (ho : o.op = .box t s) (hx : opA s = some x) : EfOk P o (.box t sz x) := by
  intro I H w N fr a v H' hs ha h
  simp only [xef] at h
  split at h
  · rename_i u hu
    split at h
    · rename_i hlen
      obtain ⟨hlen, h1⟩ := hlen
      simp only [Option.some.injEq, Prod.mk.injEq] at h
      obtain ⟨rfl, rfl⟩ := h
      subst hlen
      have hc := (ev_ok ha hx hu).cells
      have hsim := hs.new_row (T := t) (es := [u.cells]) (cs := (a.eval s).cells) (sz := u.cells.length) (by simp) (Cells.one hc (by simpa using h1)) (by have := hc.length; simp at this; simp [this])
      refine ⟨.value (.pointer (some ⟨w.heap.size, 0, none⟩)), _, _, _, ?_, .inl rfl, Inj.le_ext .., hsim, ?_⟩
      · simp [execOp, ho, Instr.box, newVar, newRow]
      · simp [VR, Inj.ext, hs.size]
    · cases h
  · cases h

theorem zero_flat {z : Array Value} {l : List AV} (hz : VRs I l z.toList) {sz : Nat} (hsz : sz = l.length) (n : Nat) : VRs I (List.replicate n l).flatten ((Array.range (n * sz)).map (z[· % z.size]!)).toList := by
  subst hsz
  have hzl := hz.length
  simp only [Array.length_toList] at hzl
  refine VRs.of_get (by simp) fun k c hk => ?_
  have hl : ∀ e ∈ List.replicate n l, e.length = l.length := fun e he => by rw [(List.mem_replicate.1 he).2]
  obtain ⟨i, j, e, rfl, he, hj⟩ := flat_get hl hk
  have hin : i < n := by
    have := (List.getElem?_eq_some_iff.1 he).1
    simpa using this
  have hel : e = l := by
    have := List.mem_of_getElem? he
    exact (List.mem_replicate.1 this).2
  subst hel
  have hjl : j < e.length := (List.getElem?_eq_some_iff.1 hj).1
  obtain ⟨v, h1, h2⟩ := hz.get hj
  refine ⟨v, ?_, h2⟩
  have hlt : i * e.length + j < n * e.length := by
    have := Nat.mul_le_mul_right e.length hin
    rw [Nat.succ_mul] at this; omega
  have hmod : (i * e.length + j) % z.size = j := by
    rw [hzl, Nat.mul_comm, Nat.mul_add_mod, Nat.mod_eq_of_lt hjl]
  simp only [Array.toList_map, Array.toList_range, List.getElem?_map, List.getElem?_range hlt, Option.map_some, hmod]
  have hjz : j < z.size := by omega
  rw [getElem!_pos z j hjz]
  rw [Array.getElem?_toList, Array.getElem?_eq_getElem hjz] at h1
  exact h1

theorem ef_buildSlice {t e : TypeId} {len sz : Nat} {parts : Array (Nat × Operand)} {z : Value} {zc : AV} {xs : List (Nat × Nat × XA)} (ho : o.op = .buildSlice t len parts) (ht : P.underlying t = some (.slice e)) (hs : szOf P e = some sz)
    (hz : (P.info? e).bind (·.zero) = some z) (hzc : cvd 4 z = some zc) (hzl : zc.cells.length = sz) (hlen : len * sz ≤ 16777216) (hp : partsOk (fun i => some (i * sz, sz)) parts.toList xs) : EfOk P o (.buildSlice e sz len zc.cells xs) := by
  intro I H w N fr a v H' hsim ha h
  simp only [xef] at h
  split at h
  · rename_i l hl
    split at h
    rotate_left
    · cases h
    rename_i hone
    simp only [Option.some.injEq, Prod.mk.injEq] at h
    obtain ⟨rfl, rfl⟩ := h
    have hzr : VRs I zc.cells z.cells.toList := (cvd_ok (I := I) 4 hzc).cells
    have hz0 : VRs I (List.replicate len zc.cells).flatten ((Array.range (len * sz)).map ((if len * sz = 0 then #[] else z.cells)[· % (if len * sz = 0 then #[] else z.cells).size]!)).toList := by
      by_cases h0 : len * sz = 0
      · rw [if_pos h0]
        have hfl := flat_length (es := List.replicate len zc.cells) (sz := sz) (fun e he => by rw [(List.mem_replicate.1 he).2]; exact hzl)
        have : (List.replicate len zc.cells).flatten = [] := List.eq_nil_of_length_eq_zero (by rw [hfl]; simpa using h0)
        rw [this, h0]; simp [VRs]
      · rw [if_neg h0]; exact zero_flat hzr hzl.symm len
    obtain ⟨cells', e1, e2⟩ := fill_ok ha hp hz0 hl
    have hll : l.length = len * sz := by rw [fillL_length hl, flat_length (sz := sz) (fun e he => by rw [(List.mem_replicate.1 he).2]; exact hzl)]; simp
    obtain ⟨hcf, hcl⟩ := chunk_flat sz len l hll
    have hcells : Cells I cells' 0 sz (chunk sz len l) := by
      have := VRs.flat (I := I) (cs := cells'.toList) hcl (by rw [hcf]; exact e2) (one_all e2 (by simpa using hone))
      simpa using this
    have hsim' := hsim.new_row (T := e) hcl hcells (by rw [chunk_length]; have := e2.length; simp at this; omega)
    refine ⟨.value (.slice (some ⟨w.heap.size, 0, none⟩) len len), _, _, _, ?_, .inl rfl, Inj.le_ext .., hsim', ?_⟩
    · have hgt : ¬ (len * sz > 2 ^ 24) := by omega
      have e1' : Instr.fill (fun i => some (i * sz, sz)) ((Array.range (len * sz)).map ((if len * sz = 0 then #[] else z.cells)[· % (if len * sz = 0 then #[] else z.cells).size]!)) (parts.map fun (i, x) => (i, a.eval x)).toList = some cells' := by
        rw [Array.toList_map]; exact e1
      by_cases h0 : len * sz = 0
      · rw [if_pos h0] at e1'
        simp only [execOp, ho, Instr.buildSlice, Sem.run_bind, run_underlying ht, Result.andThen_ok, run_sizeOf w hs, if_neg hgt, if_pos h0, Sem.run_pure, e1', newRow, run_newObj]
        rfl
      · rw [if_neg h0] at e1'
        simp only [execOp, ho, Instr.buildSlice, Sem.run_bind, run_underlying ht, Result.andThen_ok, run_sizeOf w hs, if_neg hgt, if_neg h0, run_zeroValue w hz, Sem.run_pure, e1', newRow, run_newObj]
        rfl
    · exact VR_newslice hsim.size (Nat.le_refl _) (Nat.le_refl _) (.inl rfl)
  · cases h

/-! ### stores -/
theorem Sim.own (hs : Sim I H w) {b : Nat} {H1 : AHeap} {T : TypeId} {sz : Nat} {es : List (List AV)} {d : Nat} (h : H.own b = some (H1, T, sz, es, d)) :
    Sim I H1 w ∧ H1.get b = .row T sz es (.own d true true) := by
  unfold AHeap.own at h
  split at h
  · rename_i T' sz' es' d' h' s' hb
    simp only [Option.some.injEq, Prod.mk.injEq] at h
    obtain ⟨h1, rfl, rfl, rfl, rfl⟩ := h
    by_cases hh : (h' && s') = true
    · rw [if_pos hh] at h1
      subst h1
      simp at hh
      obtain ⟨rfl, rfl⟩ := hh
      exact ⟨hs, hb⟩
    · rw [if_neg hh] at h1
      subst h1
      have := hs.take hb es'.length
      rw [List.take_length] at this
      exact ⟨this, by simp [AHeap.take, AHeap.get_set]⟩
  · cases h

/-- elements are replaced: the world behind the cells' stores -/
theorem Sim.put (hs : Sim I H w) {b i : Nat} {new : List (List AV)} {H' : AHeap} (h : H.put b i new = some H') {vs : List Value} (hv : VRs I new.flatten vs) (hone : ∀ v ∈ vs, v.oneCell' = true) :
    ∃ cs T, w.heap[I.B b]? = some (.cells cs T (0, 0)) ∧ I.O b = 0 ∧ i * I.esz b + vs.length ≤ cs.size ∧
      Sim I H' (w.setRow (I.B b) (cs.toList.take (i * I.esz b) ++ vs ++ cs.toList.drop (i * I.esz b + vs.length)).toArray) := by
  unfold AHeap.put at h
  split at h
  · rename_i H1 T sz es d ho
    split at h
    · rename_i hc
      cases h
      obtain ⟨hs1, hb⟩ := hs.own ho
      obtain ⟨r1, r2, cs, T', fr, r3, r4, r5⟩ := hs1.row b _ _ _ _ hb
      simp only [OwnOk] at r5
      obtain ⟨a1, a2, rfl, rfl, a5, a6, a7⟩ := r5
      subst r1
      have hvl := hv.length
      rw [flat_length hc.2] at hvl
      have hle : i * I.esz b + new.length * I.esz b ≤ es.length * I.esz b := by
        rw [← Nat.add_mul]; exact Nat.mul_le_mul_right _ hc.1
      have hfit : i * I.esz b + vs.length ≤ cs.size := by omega
      refine ⟨cs, T', r3, a1, hfit, ?_⟩
      refine hs1.set_row hb ?_ ?_ ?_ ?_ (wset_row r3)
      · simp; omega
      · intro e he
        rcases List.mem_append.1 he with he | he
        · rcases List.mem_append.1 he with he | he
          · exact r2 e (List.mem_of_mem_take he)
          · exact hc.2 e he
        · exact r2 e (List.mem_of_mem_drop he)
      · rw [a6]; simp; omega
      · rw [a1] at r4
        intro i' e' he' j' c' hc'
        rw [Nat.zero_add, seg_put hfit]
        have hi' : i' < es.length := by
          have := (List.getElem?_eq_some_iff.1 he').1
          simp at this; omega
        by_cases h1 : i' < i
        · rw [List.append_assoc, List.getElem?_append_left (by simp; omega), List.getElem?_take, if_pos h1] at he'
          have hel := r2 e' (List.mem_of_getElem? he')
          have hj : j' < e'.length := (List.getElem?_eq_some_iff.1 hc').1
          have : i' * I.esz b + I.esz b ≤ i * I.esz b := by have := Nat.mul_le_mul_right (I.esz b) h1; rwa [Nat.succ_mul] at this
          rw [if_neg (by omega)]
          have := r4 i' e' he' j' c' hc'
          rwa [Nat.zero_add] at this
        · by_cases h2 : i' < i + new.length
          · rw [List.append_assoc, List.getElem?_append_right (by simp; omega), List.getElem?_append_left (by simp; omega)] at he'
            have hti : (es.take i).length = i := by simp; omega
            rw [hti] at he'
            have hel := hc.2 e' (List.mem_of_getElem? he')
            have hj : j' < e'.length := (List.getElem?_eq_some_iff.1 hc').1
            have hcell : Cells I vs.toArray 0 (I.esz b) new := VRs.flat hc.2 hv hone
            obtain ⟨v, g1, g2⟩ := hcell (i' - i) e' he' j' c' hc'
            have e1 : i' * I.esz b = i * I.esz b + (i' - i) * I.esz b := by rw [← Nat.add_mul]; congr 1; omega
            have e2 : (i' - i) * I.esz b + I.esz b ≤ new.length * I.esz b := by have := Nat.mul_le_mul_right (I.esz b) (show i' - i + 1 ≤ new.length by omega); rwa [Nat.succ_mul] at this
            rw [if_pos (by omega)]
            refine ⟨v, ?_, g2⟩
            rw [← g1]
            simp only [Nat.zero_add, List.getElem?_toArray]
            congr 1; omega
          · rw [List.getElem?_append_right (by simp; omega), List.getElem?_drop] at he'
            have : i + new.length + (i' - (es.take i ++ new).length) = i' := by simp; omega
            rw [this] at he'
            have hj : j' < e'.length := (List.getElem?_eq_some_iff.1 hc').1
            have hel := r2 e' (List.mem_of_getElem? he')
            have e1 : (i + new.length) * I.esz b ≤ i' * I.esz b := Nat.mul_le_mul_right _ (by omega)
            rw [Nat.add_mul] at e1
            rw [if_neg (by omega)]
            have := r4 i' e' he' j' c' hc'
            rwa [Nat.zero_add] at this
    · cases h
  · cases h

end
end Go.Am
