/- The abstract machine, part V: a memory that is spelled out; the rules for it. -/
import Derived.Test.YtafedebfkdnpfaaGreatAmU
namespace Go.Am
open Go

/-- a memory, block by block -/
def AHeap.of (l : List AObj) : AHeap := ⟨l.length, fun b => l.getD b .dead⟩
theorem of_size (l : List AObj) : (AHeap.of l).size = l.length := by rw [AHeap.of]
theorem of_get (l : List AObj) (b : Nat) : (AHeap.of l).get b = l.getD b .dead := by rw [AHeap.of]
theorem of_empty : AHeap.empty = AHeap.of [] := by simp [AHeap.empty, AHeap.of]
theorem AHeap.ext' {H H' : AHeap} (h1 : H.size = H'.size) (h2 : ∀ b, H.get b = H'.get b) : H = H' := by
  obtain ⟨n, g⟩ := H
  obtain ⟨m, k⟩ := H'
  simp only at h1 h2
  subst h1
  simp only [AHeap.mk.injEq, true_and]
  funext b; exact h2 b
theorem of_new (l : List AObj) (o : AObj) : (AHeap.of l).new o = AHeap.of (l ++ [o]) := by
  refine AHeap.ext' (by simp [AHeap.new, of_size]) fun b => ?_
  rw [AHeap.get_new, of_get, of_get, of_size]
  by_cases h : b = l.length
  · subst h; simp [List.getD]
  · rw [if_neg h]
    rcases Nat.lt_or_gt_of_ne h with h' | h'
    · simp [List.getD, List.getElem?_append_left h']
    · have : l.length + 1 ≤ b := h'
      simp only [List.getD]
      rw [List.getElem?_eq_none (by omega), List.getElem?_eq_none (by simp; omega)]
theorem of_set (l : List AObj) (b : Nat) (o : AObj) (h : b < l.length) : (AHeap.of l).set b o = AHeap.of (l.set b o) := by
  simp only [AHeap.of, AHeap.set, List.length_set, AHeap.mk.injEq, true_and]
  funext x
  simp only [List.getD, List.getElem?_set]
  by_cases hx : x = b
  · subst hx; simp [h]
  · simp [hx, Ne.symm hx]
theorem of_get_some {l : List AObj} {b : Nat} {o : AObj} (h : l[b]? = some o) : (AHeap.of l).get b = o := by simp [of_get, List.getD, h]
theorem of_kill (l : List AObj) (g b : Nat) : (AHeap.of l).kill g b = AHeap.of (l.mapIdx fun x o => if x ≠ b ∧ o.inGroup g x = true then .dead else o) := by
  simp only [AHeap.of, AHeap.kill, List.length_mapIdx, AHeap.mk.injEq, true_and]
  funext x
  simp only [List.getD, List.getElem?_mapIdx]
  rcases Nat.lt_or_ge x l.length with h | h
  · simp [List.getElem?_eq_getElem h]
  · simp [List.getElem?_eq_none h, AObj.inGroup]

/-- every memory is so -/
theorem ACalls.of {P : Program} {f : FuncId} {args : List AV} {Q : AV → AHeap → Prop} {H : AHeap} (hc : callable P f = true) (h : ∀ l, H = AHeap.of l → ACalls P f args Q (AHeap.of l)) : ACalls P f args Q H := by
  refine ⟨hc, fun I w cargs hs hv => ?_⟩
  have e : H = AHeap.of ((List.range H.size).map H.get) := by
    obtain ⟨n, g⟩ := H
    simp only [AHeap.of, AHeap.mk.injEq, List.length_map, List.length_range, true_and]
    funext b
    simp only [List.getD, List.getElem?_map]
    rcases Nat.lt_or_ge b n with h' | h'
    · simp [List.getElem?_range h']
    · rw [List.getElem?_eq_none (by simp; exact h')]
      exact hs.out b h'
  have := h _ e
  rw [← e] at this
  exact this.2 I w cargs hs hv

/-! ### objects -/
def ocells (i j n : Nat) : AObj → Option (List AV)
  | .row _ _ es _ => (es[i]?).bind fun e => if j + n ≤ e.length then some ((e.drop j).take n) else none
  | _ => none
theorem cells_ocells (H : AHeap) (b i j n : Nat) : H.cells b i j n = ocells i j n (H.get b) := by
  unfold AHeap.cells ocells
  cases H.get b with
  | row T sz es o => simp only; cases es[i]? <;> rfl
  | _ => rfl
theorem ocells_row (i j n T sz : Nat) (es : List (List AV)) (o : Own) : ocells i j n (.row T sz es o) = (es[i]?).bind fun e => if j + n ≤ e.length then some ((e.drop j).take n) else none := by rw [ocells]

def oelems (i l : Nat) : AObj → Option (List (List AV))
  | .row _ _ es _ => if i + l ≤ es.length then some ((es.drop i).take l) else none
  | _ => none
theorem oelems_row (i l T sz : Nat) (es : List (List AV)) (o : Own) : oelems i l (.row T sz es o) = if i + l ≤ es.length then some ((es.drop i).take l) else none := by rw [oelems]
theorem elems_slice (H : AHeap) (sz b i l c : Nat) : H.elems sz (.slice sz b i l c) = if l = 0 then some [] else oelems i l (H.get b) := by
  simp only [AHeap.elems, ne_eq, not_true_eq_false, if_false]
  split
  · rfl
  · cases H.get b <;> rfl
theorem elems_nil (H : AHeap) (sz : Nat) : H.elems sz .nilslice = some [] := by rw [AHeap.elems]
theorem elems_fs (H : AHeap) (sz : Nat) (es : List (List AV)) : H.elems sz (.fs sz es) = some es := by
  simp only [AHeap.elems, ne_eq, not_true_eq_false, if_false]
  split
  · rename_i h; rw [h]
  · rfl

/-- a store into a row -/
def oput (H : AHeap) (b i : Nat) (new : List (List AV)) : AObj → Option AHeap
  | .row T sz es (.own d h s) => if i + new.length ≤ es.length ∧ (∀ e ∈ new, e.length = sz) then some ((if h && s then H else H.take b T sz es d).set b (.row T sz (es.take i ++ new ++ es.drop (i + new.length)) (.own d true true))) else none
  | _ => none
theorem put_oput (H : AHeap) (b i : Nat) (new : List (List AV)) : H.put b i new = oput H b i new (H.get b) := by
  unfold AHeap.put AHeap.own oput
  cases H.get b with
  | row T sz es o => cases o <;> rfl
  | _ => rfl
theorem oput_row (H : AHeap) (b i T sz d : Nat) (new es : List (List AV)) : oput H b i new (.row T sz es (.own d true true)) = if i + new.length ≤ es.length ∧ (∀ e ∈ new, e.length = sz) then some (H.set b (.row T sz (es.take i ++ new ++ es.drop (i + new.length)) (.own d true true))) else none := by
  simp only [oput, Bool.and_self, if_true]
theorem oput_row' (H : AHeap) (b i T sz d : Nat) (h : Bool) (new es : List (List AV)) : oput H b i new (.row T sz es (.own d h false)) = if i + new.length ≤ es.length ∧ (∀ e ∈ new, e.length = sz) then some ((H.kill (b - d) b).set b (.row T sz (es.take i ++ new ++ es.drop (i + new.length)) (.own d true true))) else none := by
  have e : ∀ (H' : AHeap) (o o' : AObj), (H'.set b o).set b o' = H'.set b o' := by
    intro H' o o'
    simp only [AHeap.set, AHeap.mk.injEq, true_and]
    funext x; split <;> rfl
  simp only [oput, Bool.and_false, Bool.false_eq_true, if_false, AHeap.take, e]

def oputc (H : AHeap) (b i j : Nat) (cs : List AV) : AObj → Option AHeap
  | .row _ _ es _ => (es[i]?).bind fun e => if j + cs.length ≤ e.length then H.put b i [e.take j ++ cs ++ e.drop (j + cs.length)] else none
  | _ => none
theorem putCells_oputc (H : AHeap) (b i j : Nat) (cs : List AV) : H.putCells b i j cs = oputc H b i j cs (H.get b) := by
  unfold AHeap.putCells oputc
  cases H.get b with
  | row T sz es o => simp only; cases es[i]? <;> rfl
  | _ => rfl
theorem oputc_row (H : AHeap) (b i j T sz : Nat) (cs : List AV) (es : List (List AV)) (o : Own) : oputc H b i j cs (.row T sz es o) = (es[i]?).bind fun e => if j + cs.length ≤ e.length then H.put b i [e.take j ++ cs ++ e.drop (j + cs.length)] else none := by rw [oputc]

/-- an append that finds no room: by the object -/
def ogrow (T sz bytes : Nat) (H : AHeap) (new : List (List AV)) (b i l : Nat) : AObj → Option (AV × AHeap)
  | .row T' z' es (.own d h _) => if z' = sz ∧ T' = T ∧ i = 0 ∧ l ≤ es.length then
          if h ∧ l = es.length then some (.slice sz H.size 0 (l + new.length) (l + new.length), H.grow b T sz es new d)
          else some (.slice sz H.size 0 (l + new.length) (l + new.length), (H.take b T sz (es.take l) d).grow b T sz (es.take l) new d) else none
  | .row _ z' es .ro => if z' = sz ∧ i + l ≤ es.length then some (.slice sz H.size 0 (l + new.length) (l + new.length), H.new (.row T sz ((es.drop i).take l ++ new) (.own 0 true true))) else none
  | _ => none
theorem xappend_nil (T sz bytes : Nat) (H : AHeap) (new : List (List AV)) : xappend T sz bytes H new .nilslice = if new.length = 0 then some (.nilslice, H) else if new.length * bytes ≤ room then some (.slice sz H.size 0 new.length new.length, H.new (.row T sz new (.own 0 true true))) else none := by rw [xappend]
theorem xappend_slice (T sz bytes : Nat) (H : AHeap) (new : List (List AV)) (b i l c : Nat) : xappend T sz bytes H new (.slice sz b i l c) = if new.length = 0 then some (.slice sz b i l c, H) else if l + new.length ≤ c then (H.put b (i + l) new).map fun H' => (.slice sz b i (l + new.length) c, H') else
    if (l + new.length) * bytes ≤ room then ogrow T sz bytes H new b i l (H.get b) else none := by
  simp only [xappend, ne_eq, not_true_eq_false, if_false]
  split
  · rfl
  · split
    · rfl
    · split
      · cases H.get b with
        | row T' z' es o => cases o <;> rfl
        | _ => rfl
      · rfl
theorem ogrow_row (T sz bytes : Nat) (H : AHeap) (new es : List (List AV)) (b l d : Nat) (s : Bool) (hl : l = es.length) : ogrow T sz bytes H new b 0 l (.row T sz es (.own d true s)) = some (.slice sz H.size 0 (l + new.length) (l + new.length), H.grow b T sz es new d) := by
  simp [ogrow, hl]
theorem grow_of (H : AHeap) (b T sz : Nat) (es new : List (List AV)) (d : Nat) : H.grow b T sz es new d = (H.set b (.row T sz es (.own d false false))).new (.row T sz (es ++ new) (.own (H.size - (b - d)) true false)) := by rw [AHeap.grow]

/-- of one cell each -/
def AV.ones (l : List AV) : Bool := l.all AV.one
theorem ones_nil : AV.ones [] = true := by simp [AV.ones]
theorem ones_cons (a : AV) (l : List AV) : AV.ones (a :: l) = (a.one && AV.ones l) := by simp [AV.ones]
section
variable {P : Program} (fr : AFr) (H : AHeap)
def vbox (T sz : Nat) (H : AHeap) (v : AV) : Option (AV × AHeap) := if v.cells.length = sz ∧ AV.ones v.cells then some (.ptr H.size 0 0, H.new (.row T sz [v.cells] (.own 0 true true))) else none
def vstore (n : Nat) (H : AHeap) : AV → AV → Option (AV × AHeap)
  | .ptr b i j, v => if v.cells.length = n ∧ AV.ones v.cells then (H.putCells b i j v.cells).map fun H' => (und, H') else none
  | _, _ => none
def vappend (T sz bytes : Nat) (H : AHeap) (d s : AV) : Option (AV × AHeap) := (H.elems sz s).bind fun new => xappend T sz bytes H new d
theorem xef_new (T sz : Nat) (cells : List AV) : xef (.new T sz cells) fr H = if AV.ones cells then some (.ptr H.size 0 0, H.new (.row T sz [cells] (.own 0 true true))) else none := by simp only [xef]; rfl
theorem xef_box (T sz : Nat) (x : XA) : xef (.box T sz x) fr H = (ev fr x).bind (vbox T sz H) := by
  simp only [xef]; cases ev fr x <;> rfl
theorem xef_store (n : Nat) (a x : XA) : xef (.store n a x) fr H = (ev fr a).bind fun p => (ev fr x).bind fun v => vstore n H p v := by
  simp only [xef]; cases ev fr a with
  | none => rfl
  | some p => cases ev fr x with
    | none => cases p <;> rfl
    | some v => cases p <;> rfl
theorem xef_append (T sz bytes : Nat) (d s : XA) : xef (.append T sz bytes d s) fr H = (ev fr d).bind fun p => (ev fr s).bind fun v => vappend T sz bytes H p v := by
  simp only [xef, vappend]; cases ev fr d with
  | none => rfl
  | some p => cases ev fr s with
    | none => rfl
    | some v => simp only [Option.bind_some]; cases H.elems sz v <;> rfl
theorem xef_buildSlice (T sz len : Nat) (zero : List AV) (parts : List (Nat × Nat × XA)) : xef (.buildSlice T sz len zero parts) fr H = (fillL fr parts (List.replicate len zero).flatten).bind fun l => if AV.ones l then some (.slice sz H.size 0 len len, H.new (.row T sz (chunk sz len l) (.own 0 true true))) else none := by
  simp only [xef]; cases fillL fr parts (List.replicate len zero).flatten <;> rfl
def vmkslice (T sz bytes : Nat) (zero : List AV) (H : AHeap) : AV → AV → Option (AV × AHeap)
  | .int _ m, .int _ n => if 0 ≤ m ∧ m ≤ n ∧ n.toNat * bytes ≤ room ∧ n ≤ 140737488355328 ∧ AV.ones zero then some (.slice sz H.size 0 m.toNat n.toNat, H.new (.row T sz (List.replicate n.toNat zero) (.own 0 true true))) else none
  | _, _ => none
theorem xef_mkslice (T sz bytes : Nat) (zero : List AV) (l c : XA) : xef (.mkslice T sz bytes zero l c) fr H = (ev fr l).bind fun m => (ev fr c).bind fun n => vmkslice T sz bytes zero H m n := by
  simp only [xef]; cases ev fr l with
  | none => rfl
  | some p => cases ev fr c with
    | none => cases p <;> rfl
    | some v => cases p <;> cases v <;> rfl
def vappendZ (T sz bytes : Nat) (zero : List AV) (H : AHeap) (d : AV) : AV → Option (AV × AHeap)
  | .int _ m => if 0 ≤ m ∧ m ≤ 140737488355328 ∧ m.toNat * bytes ≤ room ∧ AV.ones zero then xappend T sz bytes H (List.replicate m.toNat zero) d else none
  | _ => none
theorem xef_appendZ (T sz bytes : Nat) (zero : List AV) (d n : XA) : xef (.appendZ T sz bytes zero d n) fr H = (ev fr d).bind fun p => (ev fr n).bind fun v => vappendZ T sz bytes zero H p v := by
  simp only [xef]; cases ev fr d with
  | none => rfl
  | some p => cases ev fr n with
    | none => rfl
    | some v => cases v <;> rfl
def vclear (sz : Nat) (zero : List AV) (H : AHeap) : AV → Option (AV × AHeap)
  | .nilslice => some (und, H)
  | .slice z b i l _ => if z ≠ sz ∨ AV.ones zero = false then none else if l = 0 then some (und, H) else (H.put b i (List.replicate l zero)).map fun H' => (und, H')
  | _ => none
theorem xef_clear (sz : Nat) (zero : List AV) (x : XA) : xef (.clear sz zero x) fr H = (ev fr x).bind (vclear sz zero H) := by
  simp only [xef]; cases ev fr x with
  | none => rfl
  | some v => cases v <;> rfl
/-- copy, of what the second one's elements are -/
def vcopy (sz : Nat) (H : AHeap) : AV → AV → Option (AV × AHeap)
  | .nilslice, .nilslice => some (.int .i64 0, H)
  | .nilslice, .slice _ _ _ _ _ => some (.int .i64 0, H)
  | .nilslice, .fs _ _ => some (.int .i64 0, H)
  | .slice _ _ _ _ _, .nilslice => some (.int .i64 0, H)
  | .slice z b i l _, .slice z' b' i' m c' => if z ≠ sz then none else (H.elems sz (.slice z' b' i' (Nat.min m l) c')).bind fun new => if new.length = 0 then some (.int .i64 0, H) else (H.put b i new).map fun H' => (.int .i64 (Nat.min m l : Nat), H')
  | .slice z b i l _, .fs z' es => if z ≠ sz then none else (H.elems sz (.fs z' (es.take (Nat.min es.length l)))).bind fun new => if new.length = 0 then some (.int .i64 0, H) else (H.put b i new).map fun H' => (.int .i64 (Nat.min es.length l : Nat), H')
  | _, _ => none
theorem xef_copy (sz : Nat) (d s : XA) : xef (.copy sz d s) fr H = (ev fr d).bind fun p => (ev fr s).bind fun v => vcopy sz H p v := by
  simp only [xef]; cases ev fr d with
  | none => rfl
  | some p => cases ev fr s with
    | none => cases p <;> rfl
    | some v =>
      cases p <;> cases v <;> simp only [Option.bind_some, vcopy] <;> (try rfl) <;> split <;> (try rfl)
      · rename_i z b i l c z' b' i' m c' _
        cases H.elems sz (.slice z' b' i' (Nat.min m l) c') <;> rfl
      · rename_i z b i l c z' es _
        cases H.elems sz (.fs z' (es.take (Nat.min es.length l))) <;> rfl
theorem xef_mkmap : xef .mkmap fr H = some (.map H.size, H.new (.map [])) := by simp only [xef]

def omapset (kv v : AV) (b : Nat) (H : AHeap) : AObj → Option (AV × AHeap)
  | .map es => (mset kv v es).map fun es' => (und, H.set b (.map es'))
  | _ => none
def vmapset (c : CK) (H : AHeap) : AV → AV → AV → Option (AV × AHeap)
  | .map b, kv, v => if ckFits c kv ∧ v.one then omapset kv v b H (H.get b) else none
  | _, _, _ => none
theorem xef_mapset (c : CK) (m k x : XA) : xef (.mapset c m k x) fr H = (ev fr m).bind fun p => (ev fr k).bind fun kv => (ev fr x).bind fun v => vmapset c H p kv v := by
  simp only [xef]; cases ev fr m with
  | none => rfl
  | some p => cases ev fr k with
    | none => cases p <;> rfl
    | some kv => cases ev fr x with
      | none => cases p <;> rfl
      | some v => cases p <;> rfl
def omapentry (kv zero : AV) (b : Nat) (H : AHeap) : AObj → Option (AV × AHeap)
  | .map es => (midx kv es 0).bind fun r => match r with
        | some i => (es[i]?).bind fun p => some (.tuple [p.2, .int .i64 i], H.set b (.map (es.set i (kv, p.2))))
        | none => some (.tuple [zero, .int .i64 es.length], H.set b (.map (es ++ [(kv, zero)])))
  | _ => none
def vmapentry (c : CK) (zero : AV) (H : AHeap) : AV → AV → Option (AV × AHeap)
  | .map b, kv => if ckFits c kv then omapentry kv zero b H (H.get b) else none
  | _, _ => none
theorem xef_mapentry (c : CK) (zero : AV) (m k : XA) : xef (.mapentry c zero m k) fr H = (ev fr m).bind fun p => (ev fr k).bind fun kv => vmapentry c zero H p kv := by
  simp only [xef]; cases ev fr m with
  | none => rfl
  | some p => cases ev fr k with
    | none => cases p <;> rfl
    | some kv =>
      cases p <;> try rfl
      rename_i b
      simp only [Option.bind_some, vmapentry]
      split
      · cases H.get b with
        | map es =>
          simp only [omapentry]
          cases midx kv es 0 with
          | none => rfl
          | some r =>
            cases r with
            | none => rfl
            | some i => simp only [Option.bind_some]; cases es[i]? <;> rfl
        | _ => rfl
      · rfl
def oentrystore (n : Int) (v : AV) (b : Nat) (H : AHeap) : AObj → Option (AV × AHeap)
  | .map es => (es[n.toNat]?).bind fun p => some (und, H.set b (.map (es.set n.toNat (p.1, v))))
  | _ => none
def ventrystore (H : AHeap) : AV → AV → AV → Option (AV × AHeap)
  | .map b, .int _ n, v => if 0 ≤ n ∧ v.one then oentrystore n v b H (H.get b) else none
  | _, _, _ => none
theorem xef_entrystore (m s x : XA) : xef (.entrystore m s x) fr H = (ev fr m).bind fun p => (ev fr s).bind fun n => (ev fr x).bind fun v => ventrystore H p n v := by
  simp only [xef]; cases ev fr m with
  | none => rfl
  | some p => cases ev fr s with
    | none => cases p <;> rfl
    | some n => cases ev fr x with
      | none => cases p <;> cases n <;> rfl
      | some v =>
        cases p <;> cases n <;> try rfl
        rename_i b k n
        simp only [Option.bind_some, ventrystore]
        split
        · cases H.get b with
          | map es => simp only [oentrystore]; cases es[n.toNat]? <;> rfl
          | _ => rfl
        · rfl
def olookup (zero : AV) (ok : Bool) (kv : AV) : AObj → Option AV
  | .map es => (mfind kv es).map fun r => match r with
      | some v => if ok then .tuple [v, .bool true] else v
      | none => if ok then .tuple [zero, .bool false] else zero
  | _ => none
def vlookup (zero : AV) (ok : Bool) (c : CK) (H : AHeap) : AV → AV → Option AV
  | .nilmap, kv => if ckFits c kv then some (if ok then .tuple [zero, .bool false] else zero) else none
  | .map b, kv => if ckFits c kv then olookup zero ok kv (H.get b) else none
  | _, _ => none
theorem xrd_lookup (zero : AV) (ok : Bool) (c : CK) (x k : XA) : xrd (.lookup zero ok c x k) fr H = (ev fr x).bind fun m => (ev fr k).bind fun kv => vlookup zero ok c H m kv := by
  simp only [xrd]; cases ev fr k with
  | none => cases ev fr x <;> rfl
  | some kv =>
    simp only
    cases ev fr x with
    | none => simp
    | some m =>
      cases m <;> simp only [Option.bind_some, vlookup] <;> (try (split <;> rfl)) <;> try simp
      rename_i b
      split
      · cases H.get b with
        | map es =>
          simp only [olookup]
          cases mfind kv es with
          | none => rfl
          | some r => cases r <;> rfl
        | _ => rfl
      · rfl
def vsliceA (n : Nat) : AV → Option AV
  | .ptr b i j => if 0 < n then some (.sub b i j n) else none
  | _ => none
theorem xrd_sliceA (n : Nat) (x : XA) : xrd (.sliceA n x) fr H = (ev fr x).bind (vsliceA n) := by
  simp only [xrd]; cases ev fr x with
  | none => rfl
  | some v => cases v <;> rfl
def vidxA (n sz : Nat) : AV → AV → Option AV
  | .ptr b i j, .int _ m => if 0 ≤ m ∧ m < n then some (.ptr b i (j + m.toNat * sz)) else none
  | .elem e j, .int _ m => if 0 ≤ m ∧ m < n then some (.elem e (j + m.toNat * sz)) else none
  | _, _ => none
theorem xrd_idxA (n sz : Nat) (x i : XA) : xrd (.idxA n sz x i) fr H = (ev fr x).bind fun p => (ev fr i).bind fun m => vidxA n sz p m := by
  simp only [xrd]; cases ev fr x with
  | none => cases ev fr i <;> rfl
  | some p => cases ev fr i with
    | none => cases p <;> rfl
    | some m => cases p <;> cases m <;> rfl
def vindexS : AV → AV → Option AV
  | .str s, .int _ m => if 0 ≤ m then (s[m.toNat]?).map fun c => .int .u8 c.toNat else none
  | _, _ => none
theorem xrd_indexS (x i : XA) : xrd (.indexS x i) fr H = (ev fr x).bind fun p => (ev fr i).bind fun m => vindexS p m := by
  simp only [xrd]; cases ev fr x with
  | none => cases ev fr i <;> rfl
  | some p => cases ev fr i with
    | none => cases p <;> rfl
    | some m => cases p <;> cases m <;> rfl
def vindexA (n sz : Nat) (agg : Bool) : AV → AV → Option AV
  | .agg l, .int _ m => if 0 ≤ m ∧ m < n ∧ m.toNat * sz + sz ≤ l.length then wholeOr agg ((l.drop (m.toNat * sz)).take sz) else none
  | _, _ => none
theorem xrd_indexA (n sz : Nat) (agg : Bool) (x i : XA) : xrd (.indexA n sz agg x i) fr H = (ev fr x).bind fun p => (ev fr i).bind fun m => vindexA n sz agg p m := by
  simp only [xrd]; cases ev fr x with
  | none => cases ev fr i <;> rfl
  | some p => cases ev fr i with
    | none => cases p <;> rfl
    | some m => cases p <;> cases m <;> rfl
def vconvS : AV → Option AV
  | .str s => some (.str s)
  | _ => none
theorem xrd_convS (x : XA) : xrd (.convS x) fr H = (ev fr x).bind vconvS := by
  simp only [xrd]; cases ev fr x with
  | none => rfl
  | some v => cases v <;> rfl
def vmin : AV → AV → Option AV
  | .int k a, .int _ b => some (.int k (if b < a then b else a))
  | _, _ => none
def vmax : AV → AV → Option AV
  | .int k a, .int _ b => some (.int k (if b > a then b else a))
  | _, _ => none
theorem xrd_min (x y : XA) : xrd (.min x y) fr H = (ev fr x).bind fun p => (ev fr y).bind fun m => vmin p m := by
  simp only [xrd]; cases ev fr x with
  | none => cases ev fr y <;> rfl
  | some p => cases ev fr y with
    | none => cases p <;> rfl
    | some m => cases p <;> cases m <;> rfl
theorem xrd_max (x y : XA) : xrd (.max x y) fr H = (ev fr x).bind fun p => (ev fr y).bind fun m => vmax p m := by
  simp only [xrd]; cases ev fr x with
  | none => cases ev fr y <;> rfl
  | some p => cases ev fr y with
    | none => cases p <;> rfl
    | some m => cases p <;> cases m <;> rfl
end
end Go.Am
