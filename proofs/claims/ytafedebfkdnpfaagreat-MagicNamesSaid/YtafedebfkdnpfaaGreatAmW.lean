/- The abstract machine, part W: rules for simp; functions of plain values. -/
import Derived.Test.YtafedebfkdnpfaaGreatAmV
namespace Go.Am
open Go

/-! ### memory -/
theorem getD_of (l : List AObj) (b : Nat) (o : AObj) : l.getD b o = (l[b]?).getD o := by rw [List.getD_eq_getElem?_getD]
attribute [simp] ones_nil ones_cons of_empty of_size of_get of_new of_set of_kill cells_ocells ocells_row elems_slice elems_nil elems_fs oelems_row put_oput oput_row oput_row' putCells_oputc oputc_row xappend_nil xappend_slice ogrow_row grow_of
  xef_new xef_box xef_store xef_append xef_buildSlice xef_mkslice xef_appendZ xef_clear xef_copy xef_mkmap xef_mapset xef_mapentry xef_entrystore xrd_lookup xrd_sliceA xrd_idxA xrd_indexS xrd_indexA xrd_convS xrd_min xrd_max

theorem xrd_upp (x : XA) (fr : AFr) (H : AHeap) : xrd (.upp x) fr H = (ev fr x).bind (xupp H) := by simp only [xrd]
theorem xrd_upf (u : TypeId) (sz : Nat) (x : XA) (fr : AFr) (H : AHeap) : xrd (.upf u sz x) fr H = (ev fr x).bind (xupf u sz H) := by simp only [xrd]
theorem xrd_usd (x : XA) (fr : AFr) (H : AHeap) : xrd (.usd x) fr H = (ev fr x).bind xusd := by simp only [xrd]
theorem xrd_pne (x y : XA) (fr : AFr) (H : AHeap) : xrd (.pne x y) fr H = (ev fr x).bind fun p => (ev fr y).bind (xpne p) := by simp only [xrd]
theorem xpne_same (b i j : Nat) : xpne (.ptr b i j) (.ptr b i j) = some (.bool false) := by simp [xpne]
theorem xusd_nil : xusd .nilslice = some .nilptr := by rw [xusd]
theorem xusd_slice (z b i l c : Nat) : xusd (.slice z b i l c) = if c = 0 then none else some (.ptr b i 0) := by rw [xusd]
def oupp (b : Nat) : AObj → Option AV
  | .row _ sz es (.own _ _ _) => if 0 < es.length * sz then some (.ptr b 0 0) else none
  | _ => none
theorem xupp_ptr (H : AHeap) (b : Nat) : xupp H (.ptr b 0 0) = oupp b (H.get b) := by
  simp only [xupp, oupp]; cases H.get b with
  | row T sz es o => cases o <;> rfl
  | _ => rfl
theorem oupp_row (b T sz : Nat) (es : List (List AV)) (d : Nat) (h s : Bool) : oupp b (.row T sz es (.own d h s)) = if 0 < es.length * sz then some (.ptr b 0 0) else none := by rw [oupp]
def oupf (u sz b : Nat) : AObj → Option AV
  | .row T z es (.own _ _ _) => if T = u ∧ z = sz ∧ 0 < es.length then some (.ptr b 0 0) else none
  | _ => none
theorem xupf_ptr (u sz : Nat) (H : AHeap) (b : Nat) : xupf u sz H (.ptr b 0 0) = oupf u sz b (H.get b) := by
  simp only [xupf, oupf]; cases H.get b with
  | row T sz es o => cases o <;> rfl
  | _ => rfl
theorem oupf_row (u sz b T z : Nat) (es : List (List AV)) (d : Nat) (h s : Bool) : oupf u sz b (.row T z es (.own d h s)) = if T = u ∧ z = sz ∧ 0 < es.length then some (.ptr b 0 0) else none := by rw [oupf]
def vappendS (T bytes : Nat) (H : AHeap) (d : AV) : AV → Option (AV × AHeap)
  | .str l => xappend T 1 bytes H (byteCells l) d
  | _ => none
theorem xef_appendS (T bytes : Nat) (d s : XA) (fr : AFr) (H : AHeap) : xef (.appendS T bytes d s) fr H = (ev fr d).bind fun p => (ev fr s).bind (vappendS T bytes H p) := by
  simp only [xef]
  cases ev fr d with
  | none => rfl
  | some p => cases ev fr s with
    | none => rfl
    | some v => cases v <;> rfl
theorem vappendS_str (T bytes : Nat) (H : AHeap) (d : AV) (l : List UInt8) : vappendS T bytes H d (.str l) = xappend T 1 bytes H (byteCells l) d := by rw [vappendS]
def vustr (T : TypeId) (H : AHeap) (p : AV) : AV → Option (AV × AHeap)
  | .int .i64 m => if m = 0 then xustr0 H p else if 0 < m ∧ m < 9223372036854775807 then xustr T H m.toNat p else none
  | _ => none
theorem xef_ustr (T : TypeId) (p n : XA) (fr : AFr) (H : AHeap) : xef (.ustr T p n) fr H = (ev fr p).bind fun q => (ev fr n).bind (vustr T H q) := by
  simp only [xef]
  cases ev fr p with
  | none => rfl
  | some q => cases ev fr n with
    | none => rfl
    | some v =>
      cases v with
      | int k m => cases k <;> rfl
      | _ => rfl
theorem vustr_int (T : TypeId) (H : AHeap) (p : AV) (m : Int) : vustr T H p (.int .i64 m) = if m = 0 then xustr0 H p else if 0 < m ∧ m < 9223372036854775807 then xustr T H m.toNat p else none := by rw [vustr]
theorem xustr0_nil (H : AHeap) : xustr0 H .nilptr = some (.str [], H) := by rw [xustr0]
theorem xustr0_ptr (H : AHeap) (b i j : Nat) : xustr0 H (.ptr b i j) = some (.str [], H) := by rw [xustr0]
def oustr (T : TypeId) (H : AHeap) (m b : Nat) : AObj → Option (AV × AHeap)
  | .row T' 1 es (.own d _ _) => if T' = T ∧ m ≤ es.length then (bytesOf (es.take m)).map fun l => (.str l, (H.kill (b - d) b).set b .dead) else none
  | _ => none
theorem xustr_ptr (T : TypeId) (H : AHeap) (m b : Nat) : xustr T H m (.ptr b 0 0) = oustr T H m b (H.get b) := by
  simp only [xustr, oustr]; cases H.get b with
  | row T' sz es o => 
    cases o with
    | ro => split <;> simp_all
    | own d h s => split <;> simp_all
  | _ => rfl
theorem oustr_row (T : TypeId) (H : AHeap) (m b T' d : Nat) (es : List (List AV)) (h s : Bool) : oustr T H m b (.row T' 1 es (.own d h s)) = if T' = T ∧ m ≤ es.length then (bytesOf (es.take m)).map fun l => (.str l, (H.kill (b - d) b).set b .dead) else none := by rw [oustr]
theorem bytesOf_cells (l : List UInt8) : bytesOf (byteCells l) = some l := by
  induction l with
  | nil => rfl
  | cons a l ih =>
    have h1 : (0 : Int) ≤ a.toNat ∧ (a.toNat : Int) < 256 := ⟨by omega, by have := a.toNat_lt; omega⟩
    have e : byteCells (a :: l) = [.int .u8 a.toNat] :: byteCells l := rfl
    rw [e, bytesOf, if_pos h1, ih]
    simp
theorem byteCells_app (a b : List UInt8) : byteCells (a ++ b) = byteCells a ++ byteCells b := by simp [byteCells]
attribute [simp] xrd_upp xrd_upf xrd_usd xrd_pne xpne_same xusd_nil xusd_slice xupp_ptr oupp_row xupf_ptr oupf_row xef_appendS vappendS_str xef_ustr vustr_int xustr0_nil xustr0_ptr xustr_ptr oustr_row bytesOf_cells byteCells_len
theorem nr_vbox (T sz : Nat) (H : AHeap) (v : AV) : vbox T sz H v = if v.cells.length = sz ∧ AV.ones v.cells then some (.ptr H.size 0 0, H.new (.row T sz [v.cells] (.own 0 true true))) else none := by rw [vbox]
theorem nr_vstore (n : Nat) (H : AHeap) (b i j : Nat) (v : AV) : vstore n H (.ptr b i j) v = if v.cells.length = n ∧ AV.ones v.cells then (H.putCells b i j v.cells).map fun H' => (und, H') else none := by rw [vstore]
theorem nr_vappend (T sz bytes : Nat) (H : AHeap) (d s : AV) : vappend T sz bytes H d s = (H.elems sz s).bind fun new => xappend T sz bytes H new d := by rw [vappend]
theorem nr_vmkslice (T sz bytes : Nat) (zero : List AV) (H : AHeap) (k k' : IntKind) (m n : Int) : vmkslice T sz bytes zero H (.int k m) (.int k' n) = if 0 ≤ m ∧ m ≤ n ∧ n.toNat * bytes ≤ room ∧ n ≤ 140737488355328 ∧ AV.ones zero then some (.slice sz H.size 0 m.toNat n.toNat, H.new (.row T sz (List.replicate n.toNat zero) (.own 0 true true))) else none := by rw [vmkslice]
theorem nr_vappendZ (T sz bytes : Nat) (zero : List AV) (H : AHeap) (d : AV) (k : IntKind) (m : Int) : vappendZ T sz bytes zero H d (.int k m) = if 0 ≤ m ∧ m ≤ 140737488355328 ∧ m.toNat * bytes ≤ room ∧ AV.ones zero then xappend T sz bytes H (List.replicate m.toNat zero) d else none := by rw [vappendZ]
theorem vclear_nil (sz : Nat) (zero : List AV) (H : AHeap) : vclear sz zero H .nilslice = some (und, H) := by rw [vclear]
theorem vclear_slice (sz : Nat) (zero : List AV) (H : AHeap) (z b i l c : Nat) : vclear sz zero H (.slice z b i l c) = if z ≠ sz ∨ AV.ones zero = false then none else if l = 0 then some (und, H) else (H.put b i (List.replicate l zero)).map fun H' => (und, H') := by rw [vclear]
theorem vcopy_nn (sz : Nat) (H : AHeap) : vcopy sz H .nilslice .nilslice = some (.int .i64 0, H) := by rw [vcopy]
theorem vcopy_ns (sz : Nat) (H : AHeap) (z b i l c : Nat) : vcopy sz H .nilslice (.slice z b i l c) = some (.int .i64 0, H) := by rw [vcopy]
theorem vcopy_nf (sz : Nat) (H : AHeap) (z : Nat) (es : List (List AV)) : vcopy sz H .nilslice (.fs z es) = some (.int .i64 0, H) := by rw [vcopy]
theorem vcopy_sn (sz : Nat) (H : AHeap) (z b i l c : Nat) : vcopy sz H (.slice z b i l c) .nilslice = some (.int .i64 0, H) := by rw [vcopy]
theorem vcopy_ss (sz : Nat) (H : AHeap) (z b i l c z' b' i' m c' : Nat) : vcopy sz H (.slice z b i l c) (.slice z' b' i' m c') = if z ≠ sz then none else (H.elems sz (.slice z' b' i' (Nat.min m l) c')).bind fun new => if new.length = 0 then some (.int .i64 0, H) else (H.put b i new).map fun H' => (.int .i64 (Nat.min m l : Nat), H') := by rw [vcopy]
theorem vcopy_sf (sz : Nat) (H : AHeap) (z b i l c z' : Nat) (es : List (List AV)) : vcopy sz H (.slice z b i l c) (.fs z' es) = if z ≠ sz then none else (H.elems sz (.fs z' (es.take (Nat.min es.length l)))).bind fun new => if new.length = 0 then some (.int .i64 0, H) else (H.put b i new).map fun H' => (.int .i64 (Nat.min es.length l : Nat), H') := by rw [vcopy]
theorem nr_omapset (kv v : AV) (b : Nat) (H : AHeap) (es : List (AV × AV)) : omapset kv v b H (.map es) = (mset kv v es).map fun es' => (und, H.set b (.map es')) := by rw [omapset]
theorem nr_vmapset (c : CK) (H : AHeap) (b : Nat) (kv v : AV) : vmapset c H (.map b) kv v = if ckFits c kv ∧ v.one then omapset kv v b H (H.get b) else none := by rw [vmapset]
theorem nr_omapentry (kv zero : AV) (b : Nat) (H : AHeap) (es : List (AV × AV)) : omapentry kv zero b H (.map es) = (midx kv es 0).bind fun r => match r with
        | some i => (es[i]?).bind fun p => some (.tuple [p.2, .int .i64 i], H.set b (.map (es.set i (kv, p.2))))
        | none => some (.tuple [zero, .int .i64 es.length], H.set b (.map (es ++ [(kv, zero)]))) := by rw [omapentry]; rfl
theorem nr_vmapentry (c : CK) (zero : AV) (H : AHeap) (b : Nat) (kv : AV) : vmapentry c zero H (.map b) kv = if ckFits c kv then omapentry kv zero b H (H.get b) else none := by rw [vmapentry]
theorem nr_oentrystore (n : Int) (v : AV) (b : Nat) (H : AHeap) (es : List (AV × AV)) : oentrystore n v b H (.map es) = (es[n.toNat]?).bind fun p => some (und, H.set b (.map (es.set n.toNat (p.1, v)))) := by rw [oentrystore]
theorem nr_ventrystore (H : AHeap) (b : Nat) (k : IntKind) (n : Int) (v : AV) : ventrystore H (.map b) (.int k n) v = if 0 ≤ n ∧ v.one then oentrystore n v b H (H.get b) else none := by rw [ventrystore]
theorem nr_olookup (zero : AV) (ok : Bool) (kv : AV) (es : List (AV × AV)) : olookup zero ok kv (.map es) = (mfind kv es).map fun r => match r with
      | some v => if ok then .tuple [v, .bool true] else v
      | none => if ok then .tuple [zero, .bool false] else zero := by rw [olookup]; rfl
theorem vlookup_nil (zero : AV) (ok : Bool) (c : CK) (H : AHeap) (kv : AV) : vlookup zero ok c H .nilmap kv = if ckFits c kv then some (if ok then .tuple [zero, .bool false] else zero) else none := by rw [vlookup]
theorem vlookup_map (zero : AV) (ok : Bool) (c : CK) (H : AHeap) (b : Nat) (kv : AV) : vlookup zero ok c H (.map b) kv = if ckFits c kv then olookup zero ok kv (H.get b) else none := by rw [vlookup]
theorem vsliceA_ptr (n b i j : Nat) : vsliceA n (.ptr b i j) = if 0 < n then some (.sub b i j n) else none := by rw [vsliceA]
theorem vidxA_ptr (n sz b i j : Nat) (k : IntKind) (m : Int) : vidxA n sz (.ptr b i j) (.int k m) = if 0 ≤ m ∧ m < n then some (.ptr b i (j + m.toNat * sz)) else none := by rw [vidxA]
theorem vidxA_elem (n sz : Nat) (e : List AV) (j : Nat) (k : IntKind) (m : Int) : vidxA n sz (.elem e j) (.int k m) = if 0 ≤ m ∧ m < n then some (.elem e (j + m.toNat * sz)) else none := by rw [vidxA]
theorem nr_vindexS (s : List UInt8) (k : IntKind) (m : Int) : vindexS (.str s) (.int k m) = if 0 ≤ m then (s[m.toNat]?).map fun c => .int .u8 c.toNat else none := by rw [vindexS]
theorem nr_vindexA (n sz : Nat) (agg : Bool) (l : List AV) (k : IntKind) (m : Int) : vindexA n sz agg (.agg l) (.int k m) = if 0 ≤ m ∧ m < n ∧ m.toNat * sz + sz ≤ l.length then wholeOr agg ((l.drop (m.toNat * sz)).take sz) else none := by rw [vindexA]
theorem nr_vconvS (s : List UInt8) : vconvS (.str s) = some (.str s) := by rw [vconvS]
theorem nr_vmin (k k' : IntKind) (a b : Int) : vmin (.int k a) (.int k' b) = some (.int k (if b < a then b else a)) := by rw [vmin]
theorem nr_vmax (k k' : IntKind) (a b : Int) : vmax (.int k a) (.int k' b) = some (.int k (if b > a then b else a)) := by rw [vmax]
theorem vload_elem (n : Nat) (g : Bool) (H : AHeap) (e : List AV) (j : Nat) : vload n g H (.elem e j) = if j + n ≤ e.length then wholeOr g ((e.drop j).take n) else none := by rw [vload]
theorem vlen_fs (z : Nat) (es : List (List AV)) : vlen (.fs z es) = some (.int .i64 es.length) := by rw [vlen]
theorem vlen_sub (b i j l : Nat) : vlen (.sub b i j l) = some (.int .i64 l) := by rw [vlen]
theorem vnil_elem (e : List AV) (j : Nat) : vnil (.elem e j) = some (.elem e j) := by rw [vnil]
theorem voff_elem (k : Nat) (e : List AV) (j : Nat) : voff k (.elem e j) = some (.elem e (j + k)) := by rw [voff]
theorem xidx_fs (sz : Nat) (es : List (List AV)) (k : IntKind) (n : Int) : xidx sz (.fs sz es) (.int k n) = if 0 ≤ n then (es[n.toNat]?).map fun e => .elem e 0 else none := by simp [xidx]
theorem xidx_slice (sz b i l c : Nat) (k : IntKind) (n : Int) : xidx sz (.slice sz b i l c) (.int k n) = if 0 ≤ n ∧ n < l then some (.ptr b (i + n.toNat) 0) else none := by simp [xidx]
theorem xidx_sub (sz b i j l : Nat) (k : IntKind) (n : Int) : xidx sz (.sub b i j l) (.int k n) = if 0 ≤ n ∧ n < l then some (.ptr b i (j + n.toNat * sz)) else none := by simp [xidx]
attribute [simp] nr_vbox nr_vstore nr_vappend nr_vmkslice nr_vappendZ vclear_nil vclear_slice vcopy_nn vcopy_ns vcopy_nf vcopy_sn vcopy_ss vcopy_sf nr_omapset nr_vmapset nr_omapentry nr_vmapentry nr_oentrystore nr_ventrystore nr_olookup vlookup_nil vlookup_map
  vsliceA_ptr vidxA_ptr vidxA_elem nr_vindexS nr_vindexA nr_vconvS nr_vmin nr_vmax vload_elem vlen_fs vlen_sub vnil_elem voff_elem xidx_fs xidx_slice xidx_sub

def vbnd (y : Nat) : AV → Option Nat
  | .int _ n => if 0 ≤ n ∧ n ≤ y then some n.toNat else none
  | _ => none
theorem bnd_none (fr : AFr) (y d : Nat) : bnd fr none y d = some d := by rw [bnd]
theorem bnd_some (fr : AFr) (x : XA) (y d : Nat) : bnd fr (some x) y d = (ev fr x).bind (vbnd y) := by
  simp only [bnd]; cases ev fr x with
  | none => rfl
  | some v => cases v <;> rfl
theorem nr_vbnd (y : Nat) (k : IntKind) (n : Int) : vbnd y (.int k n) = if 0 ≤ n ∧ n ≤ y then some n.toNat else none := by rw [vbnd]
theorem xslice_nil (sz : Nat) (fr : AFr) (lo hi mx : Option XA) : xslice sz fr lo hi mx .nilslice = (bnd fr mx 0 0).bind fun m => (bnd fr hi m 0).bind fun h => (bnd fr lo h 0).bind fun _ => some .nilslice := by rw [xslice]
theorem xslice_slice (sz : Nat) (fr : AFr) (lo hi mx : Option XA) (b i l c : Nat) : xslice sz fr lo hi mx (.slice sz b i l c) = (bnd fr mx c c).bind fun m => (bnd fr hi m l).bind fun h => (bnd fr lo h 0).bind fun o => if h ≤ m ∧ o ≤ h then some (.slice sz b (i + o) (h - o) (m - o)) else none := by simp [xslice]
theorem xslice_fs (sz : Nat) (fr : AFr) (lo hi mx : Option XA) (es : List (List AV)) : xslice sz fr lo hi mx (.fs sz es) = (bnd fr mx es.length es.length).bind fun m => (bnd fr hi m es.length).bind fun h => (bnd fr lo h 0).bind fun o => if h ≤ m ∧ o ≤ h then some (.fs sz ((es.take h).drop o)) else none := by simp [xslice]
theorem xsliceS_str (fr : AFr) (lo hi : Option XA) (s : List UInt8) : xsliceS fr lo hi (.str s) = (bnd fr hi s.length s.length).bind fun h => (bnd fr lo h 0).bind fun o => some (.str ((s.take h).drop o)) := by rw [xsliceS]
attribute [simp] bnd_none bnd_some nr_vbnd xslice_nil xslice_slice xslice_fs xsliceS_str

theorem inGroup_row (g b T sz : Nat) (es : List (List AV)) (d : Nat) (h s : Bool) : (AObj.row T sz es (.own d h s)).inGroup g b = (b - d == g) := by rw [AObj.inGroup]
theorem inGroup_dead (g b : Nat) : AObj.dead.inGroup g b = false := by rw [AObj.inGroup]; simp
theorem inGroup_map (g b : Nat) (es : List (AV × AV)) : (AObj.map es).inGroup g b = false := by rw [AObj.inGroup]; simp
theorem ckFits_str (s : List UInt8) : ckFits .str (.str s) = true := by rw [ckFits]
theorem ckFits_int (k k' : IntKind) (n : Int) : ckFits (.int k) (.int k' n) = true := by rw [ckFits]
theorem ckFits_bool (b : Bool) : ckFits .bool (.bool b) = true := by rw [ckFits]
theorem veqc_agg (neg : Bool) (ks : List CK) (a b : List AV) : veqc neg ks (.agg a) (.agg b) = (eqCells ks a b).map (xeq neg) := by rw [veqc]
theorem eqCells_nil : eqCells [] [] [] = some true := by rw [eqCells]
theorem eqCells_int (k : IntKind) (ks : List CK) (a b : Int) (l m : List AV) : eqCells (.int k :: ks) (.int k a :: l) (.int k b :: m) = (eqCells ks l m).map (a == b && ·) := by simp [eqCells]
theorem eqCells_str (ks : List CK) (a b : List UInt8) (l m : List AV) : eqCells (.str :: ks) (.str a :: l) (.str b :: m) = (eqCells ks l m).map (a == b && ·) := by rw [eqCells]
theorem eqCells_bool (ks : List CK) (a b : Bool) (l m : List AV) : eqCells (.bool :: ks) (.bool a :: l) (.bool b :: m) = (eqCells ks l m).map (a == b && ·) := by rw [eqCells]
theorem xeq_false (b : Bool) : xeq false b = .bool b := by simp [xeq]
theorem xeq_true (b : Bool) : xeq true b = .bool (!b) := by simp [xeq]
attribute [simp] inGroup_row inGroup_dead inGroup_map ckFits_str ckFits_int ckFits_bool veqc_agg eqCells_nil eqCells_int eqCells_str eqCells_bool xeq_false xeq_true
theorem xbin_nil_sf (z : Nat) (e : List AV) (es : List (List AV)) : xbin .eql .slice (.fs z (e :: es)) .nilslice = some (.bool false) := by simp [xbin, isEq, xnil, xeq]
theorem xbin_nil_ss (z b i l c : Nat) : xbin .eql .slice (.slice z b i l c) .nilslice = some (.bool false) := by simp [xbin, isEq, xnil, xeq]
theorem xbin_nil_nn : xbin .eql .slice .nilslice .nilslice = some (.bool true) := by simp [xbin, isEq, xnil, xeq]
theorem xbin_nnil_ss (z b i l c : Nat) : xbin .neq .slice (.slice z b i l c) .nilslice = some (.bool true) := by simp [xbin, isEq, xnil, xeq]
theorem xbin_nnil_nn : xbin .neq .slice .nilslice .nilslice = some (.bool false) := by simp [xbin, isEq, xnil, xeq]
theorem xbin_pnil (b i j : Nat) : xbin .eql .ptr (.ptr b i j) .nilptr = some (.bool false) := by simp [xbin, isEq, xnil, xeq]
theorem xbin_pnil0 : xbin .eql .ptr .nilptr .nilptr = some (.bool true) := by simp [xbin, isEq, xnil, xeq]
theorem xbin_pnnil (b i j : Nat) : xbin .neq .ptr (.ptr b i j) .nilptr = some (.bool true) := by simp [xbin, isEq, xnil, xeq]
theorem xbin_pnnil0 : xbin .neq .ptr .nilptr .nilptr = some (.bool false) := by simp [xbin, isEq, xnil, xeq]
theorem xbin_sadd (ty : XTy) (a b : List UInt8) : xbin .add ty (.str a) (.str b) = if a.length + b.length ≤ 9223372036854775807 then some (.str (a ++ b)) else none := by simp [xbin, xstr]
theorem xbin_sgtr (ty : XTy) (a b : List UInt8) : xbin .gtr ty (.str a) (.str b) = some (.bool (!(Op.bytesLess a b || (a == b)))) := by simp [xbin, xstr]
theorem xbin_bneq (a b : Bool) : xbin .neq .bool (.bool a) (.bool b) = some (.bool (!(a == b))) := by simp [xbin, isEq, xnil, xeq]
attribute [simp] xbin_nil_sf xbin_nil_ss xbin_nil_nn xbin_nnil_ss xbin_nnil_nn xbin_pnil xbin_pnil0 xbin_pnnil xbin_pnnil0 xbin_sadd xbin_sgtr xbin_bneq
theorem one_fs (z : Nat) (es : List (List AV)) : (AV.fs z es).one = true := by simp [AV.one]
theorem one_elem (e : List AV) (j : Nat) : (AV.elem e j).one = true := by simp [AV.one]
theorem one_nilfunc : AV.nilfunc.one = true := by simp [AV.one]
theorem one_sub (b i j l : Nat) : (AV.sub b i j l).one = true := by simp [AV.one]
theorem cells_fs (z : Nat) (es : List (List AV)) : (AV.fs z es).cells = [.fs z es] := by rw [AV.cells]; simp
theorem cells_elem (e : List AV) (j : Nat) : (AV.elem e j).cells = [.elem e j] := by rw [AV.cells]; simp
theorem cells_nilptr : AV.nilptr.cells = [.nilptr] := by rw [AV.cells]; simp
theorem cells_sub (b i j l : Nat) : (AV.sub b i j l).cells = [.sub b i j l] := by rw [AV.cells]; simp
attribute [simp] one_fs one_elem one_nilfunc one_sub cells_fs cells_elem cells_nilptr cells_sub

/-! ### what is frozen -/
mutual
theorem Frz.self {H : AHeap} : ∀ {v : AV}, v.nr = true → Frz H v v
  | .bool _, _ => by simp [Frz]
  | .int _ _, _ => by simp [Frz]
  | .str _, _ => by simp [Frz]
  | .nilptr, _ => by simp [Frz]
  | .nilslice, _ => by simp [Frz]
  | .nilmap, _ => by simp [Frz]
  | .nilfunc, _ => by simp [Frz]
  | .nilif, _ => by simp [Frz]
  | .ptr _ _ _, h => by simp [AV.nr] at h
  | .slice _ _ _ _ _, h => by simp [AV.nr] at h
  | .sub _ _ _ _, h => by simp [AV.nr] at h
  | .map _, h => by simp [AV.nr] at h
  | .func f l, h => by
    simp only [AV.nr] at h
    simp only [Frz]
    exact ⟨l, rfl, Frzs.self h⟩
  | .iface t x, h => by
    simp only [AV.nr] at h
    simp only [Frz]
    exact ⟨x, rfl, Frz.self h⟩
  | .agg l, h => by
    simp only [AV.nr] at h
    simp only [Frz]
    exact ⟨l, rfl, Frzs.self h⟩
  | .tuple l, h => by
    simp only [AV.nr] at h
    simp only [Frz]
    exact ⟨l, rfl, Frzs.self h⟩
  | .elem l j, h => by
    simp only [AV.nr] at h
    simp only [Frz]
    exact .inl ⟨l, rfl, Frzs.self h⟩
  | .fs z l, h => by
    simp only [AV.nr] at h
    simp only [Frz]
    exact .inr (.inl ⟨l, rfl, Frzss.self h⟩)
theorem Frzs.self {H : AHeap} : ∀ {v : List AV}, AV.nrs v = true → Frzs H v v
  | [], _ => by simp [Frzs]
  | a :: l, h => by
    simp only [AV.nrs, Bool.and_eq_true] at h
    simp only [Frzs]
    exact ⟨a, l, rfl, Frz.self h.1, Frzs.self h.2⟩
theorem Frzss.self {H : AHeap} : ∀ {v : List (List AV)}, AV.nrss v = true → Frzss H v v
  | [], _ => by simp [Frzss]
  | a :: l, h => by
    simp only [AV.nrss, Bool.and_eq_true] at h
    simp only [Frzss]
    exact ⟨a, l, rfl, Frzs.self h.1, Frzss.self h.2⟩
end
theorem Frz.nil (H : AHeap) (sz : Nat) : Frz H .nilslice (.fs sz []) := by simp [Frz]
theorem Frz.slice {H : AHeap} {sz b i l c T d : Nat} {h s : Bool} {rs es : List (List AV)} (hb : H.get b = .row T sz rs (.own d h s)) (hl : i + l ≤ rs.length) (he : Frzss H ((rs.drop i).take l) es) : Frz H (.slice sz b i l c) (.fs sz es) := by
  simp only [Frz]
  exact .inr (.inr (.inl ⟨b, i, l, c, T, rs, d, h, s, rfl, hb, hl, he⟩))
/-- a row of plain elements, all of it -/
theorem Frz.row {H : AHeap} {sz b c T d : Nat} {h s : Bool} {es : List (List AV)} (hb : H.get b = .row T sz es (.own d h s)) (hn : AV.nrss es = true) : Frz H (.slice sz b 0 es.length c) (.fs sz es) :=
  Frz.slice hb (by simp) (by simpa using Frzss.self hn)
theorem Frz.empty (H : AHeap) (sz b i c : Nat) : Frz H (.slice sz b i 0 c) (.fs sz []) := by simp [Frz]
theorem frz_bool (H : AHeap) (v : AV) (b : Bool) : Frz H v (.bool b) = (v = .bool b) := by simp [Frz]
theorem frz_int (H : AHeap) (v : AV) (k : IntKind) (n : Int) : Frz H v (.int k n) = (v = .int k n) := by simp [Frz]
theorem frz_str (H : AHeap) (v : AV) (s : List UInt8) : Frz H v (.str s) = (v = .str s) := by simp [Frz]
theorem frz_tuple (H : AHeap) (l l' : List AV) : Frz H (.tuple l) (.tuple l') = Frzs H l l' := by simp [Frz]
theorem frz_agg (H : AHeap) (l l' : List AV) : Frz H (.agg l) (.agg l') = Frzs H l l' := by simp [Frz]
theorem frz_fs (H : AHeap) (z : Nat) (l l' : List (List AV)) : Frz H (.fs z l) (.fs z l') = Frzss H l l' := by simp [Frz]
theorem frz_nilptr (H : AHeap) (v : AV) : Frz H v .nilptr = (v = .nilptr) := by simp [Frz]
theorem frz_nilslice (H : AHeap) (v : AV) : Frz H v .nilslice = (v = .nilslice) := by simp [Frz]
theorem frzs_nil (H : AHeap) (l : List AV) : Frzs H l [] = (l = []) := by simp [Frzs]
theorem frzs_cons (H : AHeap) (a a' : AV) (l l' : List AV) : Frzs H (a :: l) (a' :: l') = (Frz H a a' ∧ Frzs H l l') := by
  simp only [Frzs, List.cons.injEq, eq_iff_iff]
  exact ⟨fun ⟨_, _, ⟨h1, h2⟩, h3⟩ => by subst h1 h2; exact h3, fun h => ⟨a, l, ⟨rfl, rfl⟩, h⟩⟩
theorem frzss_nil (H : AHeap) (l : List (List AV)) : Frzss H l [] = (l = []) := by simp [Frzss]
theorem frzss_cons (H : AHeap) (a a' : List AV) (l l' : List (List AV)) : Frzss H (a :: l) (a' :: l') = (Frzs H a a' ∧ Frzss H l l') := by
  simp only [Frzss, List.cons.injEq, eq_iff_iff]
  exact ⟨fun ⟨_, _, ⟨h1, h2⟩, h3⟩ => by subst h1 h2; exact h3, fun h => ⟨a, l, ⟨rfl, rfl⟩, h⟩⟩
attribute [simp] frz_bool frz_int frz_str frz_tuple frz_agg frz_fs frz_nilptr frz_nilslice frzs_nil frzs_cons frzss_nil frzss_cons Frz.nil Frz.empty

theorem nr_ptr (b i j : Nat) : (AV.ptr b i j).nr = false := by rw [AV.nr]
theorem nr_slice (z b i l c : Nat) : (AV.slice z b i l c).nr = false := by rw [AV.nr]
theorem nr_bool (b : Bool) : (AV.bool b).nr = true := by simp [AV.nr]
theorem nr_int (k : IntKind) (n : Int) : (AV.int k n).nr = true := by simp [AV.nr]
theorem nr_str (s : List UInt8) : (AV.str s).nr = true := by simp [AV.nr]
theorem nr_nilslice : AV.nilslice.nr = true := by simp [AV.nr]
theorem nr_nilptr : AV.nilptr.nr = true := by simp [AV.nr]
theorem nr_func (f : FuncId) (l : List AV) : (AV.func f l).nr = AV.nrs l := by rw [AV.nr]
theorem nr_agg (l : List AV) : (AV.agg l).nr = AV.nrs l := by rw [AV.nr]
theorem nr_tuple (l : List AV) : (AV.tuple l).nr = AV.nrs l := by rw [AV.nr]
theorem nr_fs (z : Nat) (l : List (List AV)) : (AV.fs z l).nr = AV.nrss l := by rw [AV.nr]
theorem nr_elem (l : List AV) (j : Nat) : (AV.elem l j).nr = AV.nrs l := by rw [AV.nr]
theorem nrs_nil : AV.nrs [] = true := by rw [AV.nrs]
theorem nrs_cons (a : AV) (l : List AV) : AV.nrs (a :: l) = (a.nr && AV.nrs l) := by rw [AV.nrs]
theorem nrss_nil : AV.nrss [] = true := by rw [AV.nrss]
theorem nrss_cons (a : List AV) (l : List (List AV)) : AV.nrss (a :: l) = (AV.nrs a && AV.nrss l) := by rw [AV.nrss]
theorem nrs_append : ∀ (l m : List AV), AV.nrs (l ++ m) = (AV.nrs l && AV.nrs m)
  | [], m => by simp [AV.nrs]
  | a :: l, m => by simp [AV.nrs, nrs_append l m, Bool.and_assoc]
theorem nrss_append : ∀ (l m : List (List AV)), AV.nrss (l ++ m) = (AV.nrss l && AV.nrss m)
  | [], m => by simp [AV.nrss]
  | a :: l, m => by simp [AV.nrss, nrss_append l m, Bool.and_assoc]
theorem nrss_map {α : Type} {f : α → List AV} (h : ∀ x, AV.nrs (f x) = true) : ∀ (l : List α), AV.nrss (l.map f) = true
  | [] => by simp [AV.nrss]
  | a :: l => by simp [AV.nrss, h, nrss_map h l]
attribute [simp] nr_ptr nr_slice nr_bool nr_int nr_str nr_nilslice nr_nilptr nr_func nr_agg nr_tuple nr_fs nr_elem nrs_nil nrs_cons nrss_nil nrss_cons nrs_append nrss_append

theorem pl_bool (b : Bool) : (AV.bool b).pl = true := by simp [AV.pl]
theorem pl_int (k : IntKind) (n : Int) : (AV.int k n).pl = true := by simp [AV.pl]
theorem pl_str (s : List UInt8) : (AV.str s).pl = true := by simp [AV.pl]
theorem pl_tuple (l : List AV) : (AV.tuple l).pl = AV.pls l := by rw [AV.pl]
theorem pl_agg (l : List AV) : (AV.agg l).pl = AV.pls l := by rw [AV.pl]
theorem pls_nil : AV.pls [] = true := by rw [AV.pls]
theorem pls_cons (a : AV) (l : List AV) : AV.pls (a :: l) = (a.pl && AV.pls l) := by rw [AV.pls]
attribute [simp] pl_bool pl_int pl_str pl_tuple pl_agg pls_nil pls_cons

/-! ### groups in open order -/
def enumAt : Nat → List XO → List (Nat × XO)
  | _, [] => []
  | n, x :: xs => (n, x) :: enumAt (n + 1) xs
theorem enum_at (xs : List XO) : enum xs = enumAt 0 xs := by
  have : ∀ (l : List XO) (n : Nat), ((l.zipIdx n).map fun p => (p.2, p.1)) = enumAt n l := by
    intro l
    induction l with
    | nil => intro n; simp [enumAt]
    | cons a l ih => intro n; simp [enumAt, ih]
  exact this xs 0
theorem enumAt_nil (n : Nat) : enumAt n [] = [] := by rw [enumAt]
theorem enumAt_cons (n : Nat) (x : XO) (xs : List XO) : enumAt n (x :: xs) = (n, x) :: enumAt (n + 1) xs := by rw [enumAt]
section
variable {P : Program}
theorem xdraw_nil (sn : Snap) (lg : Log) (K : AFr → AHeap → Prop) (fr : AFr) (H : AHeap) : xdraw P [] sn lg K fr H = K fr H := by rw [xdraw]
theorem xdraw_ef (k : Nat) (d : Option Nat) (x : XEf) (g : Option (Nat × Bool)) (b : List Nat) (p : Bool) (r : List (Nat × XO)) (sn : Snap) (lg : Log) (K : AFr → AHeap → Prop) (fr : AFr) (H : AHeap) :
    xdraw P ((k, ⟨d, .ef x, g, b, p⟩) :: r) sn lg K fr H = xone P ⟨d, .ef x, g, b, p⟩ fr H fun v H' => logOk lg b H' ∧ xdraw P r ((k, H) :: sn) lg K (putd fr d v) H' := by
  rw [xdraw]; simp [XOp.eff]
theorem xdraw_call (k : Nat) (d : Option Nat) (f : FuncId) (a : List XA) (g : Option (Nat × Bool)) (b : List Nat) (p : Bool) (r : List (Nat × XO)) (sn : Snap) (lg : Log) (K : AFr → AHeap → Prop) (fr : AFr) (H : AHeap) :
    xdraw P ((k, ⟨d, .call f a, g, b, p⟩) :: r) sn lg K fr H = xone P ⟨d, .call f a, g, b, p⟩ fr H fun v H' => logOk lg b H' ∧ xdraw P r ((k, H) :: sn) lg K (putd fr d v) H' := by
  rw [xdraw]; simp [XOp.eff]
theorem xdraw_callv (k : Nat) (d : Option Nat) (f : XA) (a : List XA) (g : Option (Nat × Bool)) (b : List Nat) (p : Bool) (r : List (Nat × XO)) (sn : Snap) (lg : Log) (K : AFr → AHeap → Prop) (fr : AFr) (H : AHeap) :
    xdraw P ((k, ⟨d, .callv f a, g, b, p⟩) :: r) sn lg K fr H = xone P ⟨d, .callv f a, g, b, p⟩ fr H fun v H' => logOk lg b H' ∧ xdraw P r ((k, H) :: sn) lg K (putd fr d v) H' := by
  rw [xdraw]; simp [XOp.eff]
theorem xdraw_rd (k : Nat) (d : Option Nat) (x : XRd) (g : Option (Nat × Bool)) (b : List Nat) (p : Bool) (r : List (Nat × XO)) (sn : Snap) (lg : Log) (K : AFr → AHeap → Prop) (fr : AFr) (H : AHeap) :
    xdraw P ((k, ⟨d, .rd x, g, b, p⟩) :: r) sn lg K fr H = if x.pure then xone P ⟨d, .rd x, g, b, p⟩ fr H fun v H' => xdraw P r sn lg K (putd fr d v) H'
    else xone P ⟨d, .rd x, g, b, p⟩ fr H fun v H' => snapOk sn b (fun h => rdv ⟨d, .rd x, g, b, p⟩ fr h = some v) ∧ xdraw P r sn ((k, fun h => rdv ⟨d, .rd x, g, b, p⟩ fr h = some v) :: lg) K (putd fr d v) H' := by
  rw [xdraw]; simp only [XOp.eff, Bool.false_eq_true, if_false]; rfl
end
theorem logOk_nil (b : List Nat) (H : AHeap) : logOk [] b H = True := by rw [logOk]
theorem logOk_cons (k : Nat) (p : AHeap → Prop) (r : Log) (b : List Nat) (H : AHeap) : logOk ((k, p) :: r) b H = ((b.contains k = false → p H) ∧ logOk r b H) := by rw [logOk]
theorem snapOk_nil (b : List Nat) (p : AHeap → Prop) : snapOk [] b p = True := by rw [snapOk]
theorem snapOk_cons (k : Nat) (h : AHeap) (r : Snap) (b : List Nat) (p : AHeap → Prop) : snapOk ((k, h) :: r) b p = ((b.contains k = false → p h) ∧ snapOk r b p) := by rw [snapOk]
theorem rdv_none (d : Option Nat) (x : XRd) (b : List Nat) (p : Bool) (fr : AFr) (H : AHeap) : rdv ⟨d, .rd x, none, b, p⟩ fr H = xrd x fr H := by rw [rdv]
theorem rdv_some (d : Option Nat) (x : XRd) (s : Nat) (want : Bool) (b : List Nat) (p : Bool) (fr : AFr) (H : AHeap) : rdv ⟨d, .rd x, some (s, want), b, p⟩ fr H = ((look fr s).bind (isG want)).bind fun b => if b = true then xrd x fr H else some und := by
  simp only [rdv]; cases (look fr s).bind (isG want) <;> rfl
attribute [simp] enum_at enumAt_nil enumAt_cons xdraw_nil xdraw_ef xdraw_call xdraw_callv xdraw_rd logOk_nil logOk_cons snapOk_nil snapOk_cons rdv_none rdv_some XRd.pure

/-! ### what is reckoned behind a test -/
section
variable {P : Program}
theorem xone_grd (d : Option Nat) (x : XRd) (s : Nat) (want : Bool) (b : List Nat) (p : Bool) (fr : AFr) (H : AHeap) (K : AV → AHeap → Prop) :
    xone P ⟨d, .rd x, some (s, want), b, p⟩ fr H K = optP (((look fr s).bind (isG want)).bind fun g => if g = true then xrd x fr H else some und) fun v => K v H := by
  rw [xone_some]
  cases (look fr s).bind (isG want) with
  | none => rfl
  | some g => cases g <;> rfl
end
theorem ite_some {c : Prop} [Decidable c] (a b : AV) : (if c then some a else some b) = some (if c then a else b) := by split <;> rfl
theorem isG_ite {c : Prop} [Decidable c] (want d : Bool) : isG want (if c then .bool d else und) = some (decide c && (d == want)) := by
  split
  · rename_i h; simp [h]
  · rename_i h; simp [h]
theorem vpick_or {c : Bool} (d : Bool) : vpick (some (.bool true)) (some (if c = false then .bool d else und)) (.bool c) = some (.bool (c || d)) := by cases c <;> rfl
theorem vpick_and {c : Bool} (d : Bool) : vpick (some (if c = true then .bool d else und)) (some (.bool false)) (.bool c) = some (.bool (c && d)) := by cases c <;> rfl
theorem vpick_orp {c : Prop} [Decidable c] (d : Bool) : vpick (some (.bool true)) (some (if c then und else .bool d)) (.bool (decide c)) = some (.bool (decide c || d)) := by by_cases h : c <;> simp [h]
theorem vpick_orn {c e : Prop} [Decidable c] [Decidable e] (h : e ↔ ¬ c) (d : Bool) : vpick (some (.bool true)) (some (if e then .bool d else und)) (.bool (decide c)) = some (.bool (decide c || d)) := by
  by_cases h' : c
  · have : ¬ e := fun x => h.1 x h'
    simp [h', this]
  · have : e := h.2 h'
    simp [h', this]
theorem vpick_ande {c e : Prop} [Decidable c] [Decidable e] (h : e ↔ c) (d : Bool) : vpick (some (if e then .bool d else und)) (some (.bool false)) (.bool (decide c)) = some (.bool (decide c && d)) := by
  by_cases h' : c
  · have : e := h.2 h'
    simp [h', this]
  · have : ¬ e := fun x => h' (h.1 x)
    simp [h', this]
theorem vpick_orb {c : Bool} {e : Prop} [Decidable e] (h : e ↔ c = false) (d : Bool) : vpick (some (.bool true)) (some (if e then .bool d else und)) (.bool c) = some (.bool (c || d)) := by
  cases c
  · have : e := h.2 rfl
    simp [this]
  · have : ¬ e := fun x => by have := h.1 x; cases this
    simp [this]
theorem vpick_andb {c : Bool} {e : Prop} [Decidable e] (h : e ↔ c = true) (d : Bool) : vpick (some (if e then .bool d else und)) (some (.bool false)) (.bool c) = some (.bool (c && d)) := by
  cases c
  · have : ¬ e := fun x => by have := h.1 x; cases this
    simp [this]
  · have : e := h.2 rfl
    simp [this]
theorem vpick_andp {c : Prop} [Decidable c] (d : Bool) : vpick (some (if c then .bool d else und)) (some (.bool false)) (.bool (decide c)) = some (.bool (decide c && d)) := by by_cases h : c <;> simp [h]
attribute [simp high] xone_grd
attribute [simp] ite_some isG_ite vpick_or vpick_and vpick_orp vpick_andp vpick_orn vpick_ande vpick_orb vpick_andb
section
variable {P : Program}
theorem kept_of {ks : List Nat} {K : List AV → AHeap → Prop} {fr : AFr} {H : AHeap} {vs : List AV} (h : vals fr ks = some vs) (hk : K vs H) : kept ks K fr H := by
  unfold kept; rw [h]; exact hk
/-- a function of plain values, from its body -/
theorem PC.of {f : FuncId} {x : XFun} {args : List AV} {v : AV} (hf : FunOk P f x) (hl : args.length ≤ x.params) (h : dwp P x.body (bodyQ x.res fun v' H' => Frz H' v' v) (argFr 0 args) (AHeap.of [])) : PC P f args v :=
  ⟨acalls hf hl (by rw [of_empty]; exact h)⟩
end

theorem lti {a b : Nat} (h : a < b) : (a : Int) < b := by omega
theorem nlti {a b : Nat} (h : b ≤ a) : ¬ (a : Int) < b := by omega
theorem drop_get {α : Type} {l : List α} {i : Nat} (h : i < l.length) : l.drop i = l[i] :: l.drop (i + 1) := List.drop_eq_getElem_cons h
abbrev Str := List UInt8
theorem wrap_nat1 {n : Nat} (h : n < 9223372036854775807) : IntKind.i64.wrap ((n : Int) + 1) = ((n + 1 : Nat) : Int) := by rw [wrap64] <;> omega
end Go.Am
