/- The abstract machine, part Q: rules for simp. -/
import Derived.Test.YtafedebfkdnpfaaGreatAmPa
namespace Go.Am
open Go Go.RowKit

def vload (n : Nat) (agg : Bool) (H : AHeap) : AV → Option AV
  | .ptr b i j => (H.cells b i j n).bind (wholeOr agg)
  | .elem e j => if j + n ≤ e.length then wholeOr agg ((e.drop j).take n) else none
  | _ => none
def vlen : AV → Option AV
  | .nilslice => some (.int .i64 0)
  | .slice _ _ _ l _ => some (.int .i64 l)
  | .sub _ _ _ l => some (.int .i64 l)
  | .fs _ es => some (.int .i64 es.length)
  | _ => none
def vlenS : AV → Option AV
  | .str s => some (.int .i64 s.length)
  | _ => none
def vnil : AV → Option AV
  | .ptr b i j => some (.ptr b i j)
  | .func f cs => some (.func f cs)
  | .elem e j => some (.elem e j)
  | _ => none
def voff (k : Nat) : AV → Option AV
  | .ptr b i j => some (.ptr b i (j + k))
  | .elem e j => some (.elem e (j + k))
  | _ => none
def vfield (o n : Nat) (agg : Bool) : AV → Option AV
  | .agg l => if o + n ≤ l.length then wholeOr agg ((l.drop o).take n) else none
  | _ => none
def vextract (i : Nat) : AV → Option AV
  | .tuple l => l[i]?
  | _ => none
def veqc (neg : Bool) (ks : List CK) : AV → AV → Option AV
  | .agg a, .agg b => (eqCells ks a b).map (xeq neg)
  | _, _ => none
def vconv (k : IntKind) : AV → Option AV
  | .int _ n => some (.int k (k.wrap n))
  | _ => none
def vpick (a b : Option AV) : AV → Option AV
  | .bool true => a
  | .bool false => b
  | _ => none
def vcall (P : Program) (args : List AV) (K : AV → AHeap → Prop) (H : AHeap) : AV → Prop
  | .func f caps => ACalls P f (args ++ caps) K H
  | _ => False

section
variable {P : Program} (fr : AFr) (H : AHeap)
theorem xrd_mov (x : XA) : xrd (.mov x) fr H = ev fr x := by simp only [xrd]
theorem xrd_pick (c a b : XA) : xrd (.pick c a b) fr H = (ev fr c).bind (vpick (ev fr a) (ev fr b)) := by
  simp only [xrd]; cases ev fr c with
  | none => rfl
  | some v => cases v <;> try rfl
              rename_i b; cases b <;> rfl
theorem xrd_load (n : Nat) (agg : Bool) (x : XA) : xrd (.load n agg x) fr H = (ev fr x).bind (vload n agg H) := by
  simp only [xrd]; cases ev fr x with
  | none => rfl
  | some v => cases v <;> rfl
theorem xrd_nilchk (x : XA) : xrd (.nilchk x) fr H = (ev fr x).bind vnil := by
  simp only [xrd]; cases ev fr x with
  | none => rfl
  | some v => cases v <;> rfl
theorem xrd_bin (op : BinOp) (ty : XTy) (x y : XA) : xrd (.bin op ty x y) fr H = (ev fr x).bind fun a => (ev fr y).bind fun b => xbin op ty a b := by simp only [xrd]
theorem xrd_eqc (neg : Bool) (ks : List CK) (x y : XA) : xrd (.eqc neg ks x y) fr H = (ev fr x).bind fun a => (ev fr y).bind fun b => veqc neg ks a b := by
  simp only [xrd]; cases ev fr x with
  | none => rfl
  | some v => cases ev fr y with
    | none => cases v <;> rfl
    | some u => cases v <;> cases u <;> rfl
theorem xrd_un (op : UnOp) (x : XA) : xrd (.un op x) fr H = (ev fr x).bind (xun op) := by simp only [xrd]
theorem xrd_conv (k : IntKind) (x : XA) : xrd (.conv k x) fr H = (ev fr x).bind (vconv k) := by
  simp only [xrd]; cases ev fr x with
  | none => rfl
  | some v => cases v <;> rfl
theorem xrd_mkfunc (f : FuncId) (caps : List XA) : xrd (.mkfunc f caps) fr H = (evs fr caps).map (.func f) := by simp only [xrd]
theorem xrd_slice (sz : Nat) (x : XA) (lo hi mx : Option XA) : xrd (.slice sz x lo hi mx) fr H = (ev fr x).bind (xslice sz fr lo hi mx) := by simp only [xrd]
theorem xrd_sliceS (x : XA) (lo hi : Option XA) : xrd (.sliceS x lo hi) fr H = (ev fr x).bind (xsliceS fr lo hi) := by simp only [xrd]
theorem xrd_off (k : Nat) (x : XA) : xrd (.off k x) fr H = (ev fr x).bind (voff k) := by
  simp only [xrd]; cases ev fr x with
  | none => rfl
  | some v => cases v <;> rfl
theorem xrd_idx (sz : Nat) (x i : XA) : xrd (.idx sz x i) fr H = (ev fr x).bind fun a => (ev fr i).bind fun n => xidx sz a n := by simp only [xrd]
theorem xrd_field (o n : Nat) (agg : Bool) (x : XA) : xrd (.field o n agg x) fr H = (ev fr x).bind (vfield o n agg) := by
  simp only [xrd]; cases ev fr x with
  | none => rfl
  | some v => cases v <;> rfl
theorem xrd_extract (i : Nat) (x : XA) : xrd (.extract i x) fr H = (ev fr x).bind (vextract i) := by
  simp only [xrd]; cases ev fr x with
  | none => rfl
  | some v => cases v <;> rfl
theorem xrd_lenS (x : XA) : xrd (.lenS x) fr H = (ev fr x).bind vlenS := by
  simp only [xrd]; cases ev fr x with
  | none => rfl
  | some v => cases v <;> rfl
theorem xrd_lenL (x : XA) : xrd (.lenL x) fr H = (ev fr x).bind vlen := by
  simp only [xrd]; cases ev fr x with
  | none => rfl
  | some v => cases v <;> rfl
def vcap : AV → Option AV
  | .nilslice => some (.int .i64 0)
  | _ => none
theorem xrd_capL (x : XA) : xrd (.capL x) fr H = (ev fr x).bind vcap := by
  simp only [xrd]; cases ev fr x with
  | none => rfl
  | some v => cases v <;> rfl
theorem xrd_build (zero : List AV) (parts : List (Nat × Nat × XA)) : xrd (.build zero parts) fr H = (fillL fr parts zero).map .agg := by simp only [xrd]
attribute [simp] xrd_capL xrd_mov xrd_pick xrd_load xrd_nilchk xrd_bin xrd_eqc xrd_un xrd_conv xrd_mkfunc xrd_slice xrd_sliceS xrd_off xrd_idx xrd_field xrd_extract xrd_lenS xrd_lenL xrd_build

theorem xact_rd (x : XRd) (K : AV → AHeap → Prop) : xact P (.rd x) fr H K = optP (xrd x fr H) fun v => K v H := propext Iff.rfl
theorem xact_ef (x : XEf) (K : AV → AHeap → Prop) : xact P (.ef x) fr H K = optP (xef x fr H) fun r => K r.1 r.2 := propext Iff.rfl
theorem xact_call (f : FuncId) (args : List XA) (K : AV → AHeap → Prop) : xact P (.call f args) fr H K = optP (evs fr args) fun vs => ACalls P f vs K H := propext Iff.rfl
theorem xact_callv (f : XA) (args : List XA) (K : AV → AHeap → Prop) : xact P (.callv f args) fr H K = optP (ev fr f) fun fv => optP (evs fr args) fun vs => vcall P vs K H fv := by
  simp only [xact]
  congr 1
  funext fv
  congr 1
  funext vs
  cases fv <;> rfl
theorem xact_bad (K : AV → AHeap → Prop) : xact P .bad fr H K = False := propext Iff.rfl
attribute [simp] xact_bad xact_rd xact_ef xact_call xact_callv

theorem dwp_skip (Q : XPost) : dwp P .skip Q fr H = Q .normal fr H := propext Iff.rfl
theorem dwp_seq (a b : XCode) (Q : XPost) : dwp P (.seq a b) Q fr H = dwp P a (thenQ (dwp P b Q) Q) fr H := propext Iff.rfl
theorem dwp_region (xs : List XO) (Q : XPost) : dwp P (.region xs) Q fr H = xops P xs (Q .normal) fr H := propext Iff.rfl
theorem dwp_draw (xs : List XO) (Q : XPost) : dwp P (.draw xs) Q fr H = xdraw P (enum xs) [] [] (Q .normal) fr H := propext Iff.rfl
theorem two_ite (b : Bool) (A B : Prop) : ((b = true → A) ∧ (b = false → B)) = if b = true then A else B := by cases b <;> simp
theorem dwp_cond (c : XA) (a b : XCode) (Q : XPost) : dwp P (.cond c a b) Q fr H = optP ((ev fr c).bind isB) fun t => if t = true then dwp P a Q fr H else dwp P b Q fr H := by
  rw [dwp]; simp only [two_ite]
theorem dwp_block (id : Nat) (a : XCode) (Q : XPost) : dwp P (.block id a) Q fr H = dwp P a (blockQ id Q) fr H := propext Iff.rfl
theorem dwp_exit (id : Nat) (Q : XPost) : dwp P (.exit id) Q fr H = Q (.exit id) fr H := propext Iff.rfl
theorem dwp_label (id : Nat) (Q : XPost) : dwp P (.label id) Q fr H = Q .normal fr H := propext Iff.rfl
theorem dwp_goto (id : Nat) (Q : XPost) : dwp P (.goto id) Q fr H = Q (.goto id) fr H := propext Iff.rfl
theorem dwp_ret (Q : XPost) : dwp P .ret Q fr H = Q .ret fr H := propext Iff.rfl
theorem dwp_keep (ks : List Nat) (a : XCode) (Q : XPost) : dwp P (.keep ks a) Q fr H = kept ks (fun vs H => dwp P a Q (frOf ks vs) H) fr H := propext Iff.rfl
theorem dwp_straight (a : XCode) (Q : XPost) : dwp P (.straight a) Q fr H = dwp P a (noGotoQ Q) fr H := propext Iff.rfl
attribute [simp] dwp_skip dwp_seq dwp_region dwp_draw dwp_cond dwp_block dwp_exit dwp_label dwp_goto dwp_ret dwp_keep dwp_straight
theorem nr_optP_some {α : Type} (a : α) (K : α → Prop) : optP (some a) K = K a := propext Iff.rfl
theorem nr_optP_none {α : Type} (K : α → Prop) : optP (none : Option α) K = False := propext Iff.rfl
theorem nr_xops_nil (K : AFr → AHeap → Prop) : xops P [] K fr H = K fr H := propext Iff.rfl
theorem nr_xops_cons (o : XO) (r : List XO) (K : AFr → AHeap → Prop) : xops P (o :: r) K fr H = xone P o fr H fun v H' => xops P r K (putd fr o.dst v) H' := propext Iff.rfl
theorem nr_putd_some (d : Nat) (v : AV) : putd fr (some d) v = fr.put d v := by rw [putd]
theorem nr_putd_none (v : AV) : putd fr none v = fr := by rw [putd]
theorem nr_argFr_nil (i : Nat) : argFr i [] = AFr.none := by rw [argFr]
theorem nr_argFr_cons (i : Nat) (v : AV) (vs : List AV) : argFr i (v :: vs) = (argFr (i + 1) vs).put i v := by rw [argFr]
theorem nr_frOf_nil (vs : List AV) : frOf [] vs = AFr.none := by cases vs <;> rfl
theorem nr_frOf_cons (k : Nat) (ks : List Nat) (v : AV) (vs : List AV) : frOf (k :: ks) (v :: vs) = (frOf ks vs).put k v := by rw [frOf]
theorem nr_bodyQ_normal (res : List XRes) (Q : AV → AHeap → Prop) : bodyQ res Q .normal fr H = optP (xresL fr H res) fun vs => Q (tupleOf vs) H := propext Iff.rfl
theorem nr_bodyQ_ret (res : List XRes) (Q : AV → AHeap → Prop) : bodyQ res Q .ret fr H = optP (xresL fr H res) fun vs => Q (tupleOf vs) H := propext Iff.rfl
theorem nr_xresL_nil : xresL fr H [] = some [] := by rw [xresL]
theorem nr_xresL_cons (x : XRes) (r : List XRes) : xresL fr H (x :: r) = (xres fr H x).bind fun v => (xresL fr H r).map (v :: ·) := by rw [xresL]
theorem nr_xres_tmp (t : Nat) : xres fr H (.tmp t) = look fr t := by rw [xres]
theorem nr_xres_cell (n : Nat) (g : Bool) (t : Nat) : xres fr H (.cell n g t) = (look fr t).bind (vload n g H) := by rw [xres, xrd_load]; rfl
theorem nr_kept (ks : List Nat) (K : List AV → AHeap → Prop) : kept ks K fr H = optP (vals fr ks) fun vs => K vs H := propext Iff.rfl
theorem nr_vals_nil : vals fr [] = some [] := by rw [vals]
theorem nr_vals_cons (k : Nat) (r : List Nat) : vals fr (k :: r) = (look fr k).bind fun v => (vals fr r).map (v :: ·) := by rw [vals]
theorem nr_ev_t (t : Nat) : ev fr (.t t) = look fr t := by rw [ev]
theorem nr_ev_c (v : AV) : ev fr (.c v) = some v := by rw [ev]
theorem nr_evs_nil : evs fr [] = some [] := by rw [evs]
theorem nr_evs_cons (x : XA) (r : List XA) : evs fr (x :: r) = (ev fr x).bind fun v => (evs fr r).map (v :: ·) := by rw [evs]
theorem nr_look_put (d : Nat) (v : AV) (t : Nat) : look (fr.put d v) t = if t = d then some v else look fr t := by rw [look_put]
theorem nr_look_none (t : Nat) : look AFr.none t = none := by rw [look_none]
theorem nr_isB (b : Bool) : isB (.bool b) = some b := by rw [isB]
theorem nr_isG (want b : Bool) : isG want (.bool b) = some (b == want) := by rw [isG]
theorem nr_isGu (want : Bool) : isG want und = some false := by simp only [und, isG]
attribute [simp] nr_isG nr_isGu nr_optP_some nr_optP_none nr_xops_nil nr_xops_cons nr_putd_some nr_putd_none nr_argFr_nil nr_argFr_cons nr_frOf_nil nr_frOf_cons nr_bodyQ_normal nr_bodyQ_ret nr_xresL_nil nr_xresL_cons nr_xres_tmp nr_xres_cell nr_kept nr_vals_nil nr_vals_cons nr_ev_t nr_ev_c nr_evs_nil nr_evs_cons nr_look_put nr_look_none nr_isB

@[simp] theorem xone_none (d : Option Nat) (op : XOp) (b : List Nat) (p : Bool) (K : AV → AHeap → Prop) : xone P ⟨d, op, none, b, p⟩ fr H K = xact P op fr H K := propext Iff.rfl
@[simp] theorem xone_some (d : Option Nat) (op : XOp) (s : Nat) (want : Bool) (b : List Nat) (p : Bool) (K : AV → AHeap → Prop) :
    xone P ⟨d, op, some (s, want), b, p⟩ fr H K = optP ((look fr s).bind (isG want)) fun b => if b = true then xact P op fr H K else K und H := by
  rw [xone]; simp only [two_ite]
end

/-! what the small functions tell of plain values -/
theorem nr_vcall (args : List AV) (K : AV → AHeap → Prop) (H : AHeap) (P : Program) (f : FuncId) (caps : List AV) : vcall P args K H (.func f caps) = ACalls P f (args ++ caps) K H := propext Iff.rfl
theorem nr_tuple0 : tupleOf [] = .tuple [] := by rw [tupleOf]; simp
theorem nr_tuple1 (v : AV) : tupleOf [v] = v := by rw [tupleOf]
theorem nr_tuple2 (v u : AV) (l : List AV) : tupleOf (v :: u :: l) = .tuple (v :: u :: l) := by rw [tupleOf]; simp
theorem nr_fillL_nil (fr : AFr) (l : List AV) : fillL fr [] l = some l := by rw [fillL]
theorem nr_fillL_cons (fr : AFr) (o n : Nat) (x : XA) (ps : List (Nat × Nat × XA)) (l : List AV) : fillL fr ((o, n, x) :: ps) l = (ev fr x).bind fun v => if v.cells.length = n ∧ o + n ≤ l.length then fillL fr ps (l.take o ++ v.cells ++ l.drop (o + n)) else none := by
  rw [fillL]
theorem vpick_true (a b : Option AV) : vpick a b (.bool true) = a := by rw [vpick]
theorem vpick_false (a b : Option AV) : vpick a b (.bool false) = b := by rw [vpick]
theorem vconv_int (k k' : IntKind) (n : Int) : vconv k (.int k' n) = some (.int k (k.wrap n)) := by rw [vconv]
theorem vnil_ptr (b i j : Nat) : vnil (.ptr b i j) = some (.ptr b i j) := by rw [vnil]
theorem vnil_func (f : FuncId) (cs : List AV) : vnil (.func f cs) = some (.func f cs) := by rw [vnil]
theorem voff_ptr (k b i j : Nat) : voff k (.ptr b i j) = some (.ptr b i (j + k)) := by rw [voff]
theorem vload_ptr (n : Nat) (g : Bool) (H : AHeap) (b i j : Nat) : vload n g H (.ptr b i j) = (H.cells b i j n).bind (wholeOr g) := by rw [vload]
theorem vlenS_str (s : List UInt8) : vlenS (.str s) = some (.int .i64 s.length) := by rw [vlenS]
theorem vlen_nil : vlen .nilslice = some (.int .i64 0) := by rw [vlen]
theorem vcap_nil : vcap .nilslice = some (.int .i64 0) := by rw [vcap]
theorem vlen_slice (z b i l c : Nat) : vlen (.slice z b i l c) = some (.int .i64 l) := by rw [vlen]
theorem vextract_tuple (i : Nat) (l : List AV) : vextract i (.tuple l) = l[i]? := by rw [vextract]
theorem vfield_agg (o n : Nat) (g : Bool) (l : List AV) : vfield o n g (.agg l) = if o + n ≤ l.length then wholeOr g ((l.drop o).take n) else none := by rw [vfield]
theorem wholeOr_true (l : List AV) : wholeOr true l = some (.agg l) := by simp [wholeOr]
theorem wholeOr_one (v : AV) : wholeOr false [v] = some v := by simp [wholeOr]
theorem xbin_add (ty : XTy) (k : IntKind) (a b : Int) : xbin .add ty (.int k a) (.int k b) = some (.int k (k.wrap (a + b))) := by simp [xbin, isSh, xint]
theorem xbin_sub (ty : XTy) (k : IntKind) (a b : Int) : xbin .sub ty (.int k a) (.int k b) = some (.int k (k.wrap (a - b))) := by simp [xbin, isSh, xint]
theorem xbin_mul (ty : XTy) (k : IntKind) (a b : Int) : xbin .mul ty (.int k a) (.int k b) = some (.int k (k.wrap (a * b))) := by simp [xbin, isSh, xint]
theorem xbin_rem (ty : XTy) (k : IntKind) (a b : Int) : xbin .rem ty (.int k a) (.int k b) = if b = 0 then none else some (.int k (a.tmod b)) := by simp [xbin, isSh, xint]
theorem xbin_quo (ty : XTy) (k : IntKind) (a b : Int) : xbin .quo ty (.int k a) (.int k b) = if b = 0 then none else some (.int k (k.wrap (a.tdiv b))) := by simp [xbin, isSh, xint]
theorem xbin_eql (ty : XTy) (k : IntKind) (a b : Int) : xbin .eql ty (.int k a) (.int k b) = some (.bool (a == b)) := by simp [xbin, isSh, xint]
theorem xbin_neq (ty : XTy) (k : IntKind) (a b : Int) : xbin .neq ty (.int k a) (.int k b) = some (.bool (a != b)) := by simp [xbin, isSh, xint]
theorem xbin_lss (ty : XTy) (k : IntKind) (a b : Int) : xbin .lss ty (.int k a) (.int k b) = some (.bool (decide (a < b))) := by simp [xbin, isSh, xint]
theorem xbin_leq (ty : XTy) (k : IntKind) (a b : Int) : xbin .leq ty (.int k a) (.int k b) = some (.bool (decide (a ≤ b))) := by simp [xbin, isSh, xint]
theorem xbin_gtr (ty : XTy) (k : IntKind) (a b : Int) : xbin .gtr ty (.int k a) (.int k b) = some (.bool (decide (a > b))) := by simp [xbin, isSh, xint]
theorem xbin_geq (ty : XTy) (k : IntKind) (a b : Int) : xbin .geq ty (.int k a) (.int k b) = some (.bool (decide (a ≥ b))) := by simp [xbin, isSh, xint]
theorem xbin_shr (ty : XTy) (k k' : IntKind) (a b : Int) : xbin .shr ty (.int k a) (.int k' b) = if b < 0 then none else some (.int k (a.fdiv (2 ^ (min b.toNat k.bits)))) := by simp [xbin, isSh, xshift]
theorem xbin_seql (ty : XTy) (a b : List UInt8) : xbin .eql ty (.str a) (.str b) = some (.bool (a == b)) := by simp [xbin, xstr]
theorem xbin_sneq (ty : XTy) (a b : List UInt8) : xbin .neq ty (.str a) (.str b) = some (.bool (!(a == b))) := by simp [xbin, xstr]
theorem xbin_slss (ty : XTy) (a b : List UInt8) : xbin .lss ty (.str a) (.str b) = some (.bool (Op.bytesLess a b)) := by simp [xbin, xstr]
theorem xbin_sgeq (ty : XTy) (a b : List UInt8) : xbin .geq ty (.str a) (.str b) = some (.bool (!Op.bytesLess a b)) := by simp [xbin, xstr]
theorem xbin_sleq (ty : XTy) (a b : List UInt8) : xbin .leq ty (.str a) (.str b) = some (.bool (Op.bytesLess a b || (a == b))) := by simp [xbin, xstr]
theorem xbin_beql (a b : Bool) : xbin .eql .bool (.bool a) (.bool b) = some (.bool (a == b)) := by simp [xbin, isEq, xnil, xeq]
theorem xun_not (b : Bool) : xun .not (.bool b) = some (.bool (!b)) := by rw [xun]
theorem xun_neg (k : IntKind) (n : Int) : xun .neg (.int k n) = some (.int k (k.wrap (0 - n))) := by rw [xun]
theorem cells_agg (l : List AV) : (AV.agg l).cells = l := by rw [AV.cells]
theorem cells_one {v : AV} (h : v.one = true) : v.cells = [v] := by cases v <;> simp_all [AV.cells, AV.one]
theorem cells_bool (b : Bool) : (AV.bool b).cells = [.bool b] := by rw [AV.cells]; simp
theorem cells_int (k : IntKind) (n : Int) : (AV.int k n).cells = [.int k n] := by rw [AV.cells]; simp
theorem cells_str (s : List UInt8) : (AV.str s).cells = [.str s] := by rw [AV.cells]; simp
theorem cells_ptr (b i j : Nat) : (AV.ptr b i j).cells = [.ptr b i j] := by rw [AV.cells]; simp
theorem cells_slice (z b i l c : Nat) : (AV.slice z b i l c).cells = [.slice z b i l c] := by rw [AV.cells]; simp
theorem cells_nilslice : AV.nilslice.cells = [.nilslice] := by rw [AV.cells]; simp
theorem cells_map (b : Nat) : (AV.map b).cells = [.map b] := by rw [AV.cells]; simp
theorem cells_nilmap : AV.nilmap.cells = [.nilmap] := by rw [AV.cells]; simp
theorem cells_func (f : FuncId) (cs : List AV) : (AV.func f cs).cells = [.func f cs] := by rw [AV.cells]; simp
theorem one_bool (b : Bool) : (AV.bool b).one = true := by simp [AV.one]
theorem one_int (k : IntKind) (n : Int) : (AV.int k n).one = true := by simp [AV.one]
theorem one_str (s : List UInt8) : (AV.str s).one = true := by simp [AV.one]
theorem one_ptr (b i j : Nat) : (AV.ptr b i j).one = true := by simp [AV.one]
theorem one_slice (z b i l c : Nat) : (AV.slice z b i l c).one = true := by simp [AV.one]
theorem one_nilslice : AV.nilslice.one = true := by simp [AV.one]
theorem one_map (b : Nat) : (AV.map b).one = true := by simp [AV.one]
theorem one_nilmap : AV.nilmap.one = true := by simp [AV.one]
theorem one_nilptr : AV.nilptr.one = true := by simp [AV.one]
theorem one_func (f : FuncId) (cs : List AV) : (AV.func f cs).one = true := by simp [AV.one]
attribute [simp] nr_vcall nr_tuple0 nr_tuple1 nr_tuple2 nr_fillL_nil nr_fillL_cons vpick_true vpick_false vconv_int vnil_ptr vnil_func voff_ptr vload_ptr vlenS_str vlen_nil vcap_nil vlen_slice vextract_tuple vfield_agg wholeOr_true wholeOr_one
  xbin_add xbin_sub xbin_mul xbin_rem xbin_quo xbin_eql xbin_neq xbin_lss xbin_leq xbin_gtr xbin_geq xbin_shr xbin_seql xbin_sneq xbin_slss xbin_sgeq xbin_sleq xbin_beql xun_not xun_neg
  cells_agg cells_one cells_bool cells_int cells_str cells_ptr cells_slice cells_nilslice cells_map cells_nilmap cells_func one_bool one_int one_str one_ptr one_slice one_nilslice one_map one_nilmap one_nilptr one_func

/-- a slice, and its elements -/
def SL (H : AHeap) (sz : Nat) (v : AV) (es : List (List AV)) : Prop :=
  match v with
  | .nilslice => es = []
  | .slice z b i l _ => z = sz ∧ l = es.length ∧ (es = [] ∨ b < H.size ∧ ∃ T rs o, H.get b = .row T sz rs o ∧ i + l ≤ rs.length ∧ es = (rs.drop i).take l)
  | _ => False

theorem SL.mono {H H' : AHeap} (hle : H.Le H') {sz : Nat} {v : AV} {es : List (List AV)} (h : SL H sz v es) : SL H' sz v es := by
  cases v <;> simp only [SL] at h ⊢
  · exact h
  · obtain ⟨h1, h2, h3⟩ := h
    refine ⟨h1, h2, h3.imp id fun ⟨h4, T, rs, o, h5, h6⟩ => ⟨Nat.lt_of_lt_of_le h4 hle.size, T, rs, o, by rw [hle.get _ h4]; exact h5, h6⟩⟩

theorem SL.len {H : AHeap} {sz : Nat} {v : AV} {es : List (List AV)} (h : SL H sz v es) : vlen v = some (.int .i64 es.length) := by
  cases v <;> simp only [SL] at h
  · subst h; rfl
  · obtain ⟨_, rfl, _⟩ := h; rfl

theorem SL.idx {H : AHeap} {sz : Nat} {v : AV} {es : List (List AV)} (h : SL H sz v es) {i : Nat} {e : List AV} (he : es[i]? = some e) : ∃ b j, xidx sz v (.int .i64 i) = some (.ptr b j 0) ∧ b < H.size ∧ ∀ {H' : AHeap}, H.Le H' → (∀ k n, H'.cells b j k n = if k + n ≤ e.length then some ((e.drop k).take n) else none) := by
  have hi := (List.getElem?_eq_some_iff.1 he).1
  cases v <;> simp only [SL] at h
  · subst h; simp at hi
  · rename_i z b j l c
    obtain ⟨rfl, hl, h⟩ := h
    rcases h with h | ⟨h0, T, rs, o, h1, h2, h3⟩
    · rw [h] at hi; simp at hi
    refine ⟨b, j + i, ?_, h0, ?_⟩
    · simp [xidx]; omega
    · intro H' hle k n
      have : rs[j + i]? = some e := by
        rw [← he, h3, List.getElem?_take_of_lt (by omega), List.getElem?_drop]
      simp [AHeap.cells, hle.get b h0, h1, this]

theorem SL.elems {H : AHeap} {sz : Nat} {v : AV} {es : List (List AV)} (h : SL H sz v es) : H.elems sz v = some es := by
  cases v <;> simp only [SL] at h
  · subst h; rfl
  · obtain ⟨rfl, rfl, h⟩ := h
    rcases h with rfl | ⟨h0, T, rs, o, h1, h2, h3⟩
    · simp [AHeap.elems]
    · simp only [AHeap.elems, h1, h2, if_true, ne_eq, not_true_eq_false, if_false, ← h3]
      split
      · rename_i h4; rw [List.eq_nil_of_length_eq_zero h4]
      · rfl

theorem wrap64 {n : Int} (h1 : -9223372036854775808 ≤ n) (h2 : n < 9223372036854775808) : IntKind.i64.wrap n = n := by
  have e1 : IntKind.i64.bits = 64 := rfl
  have e2 : IntKind.i64.signed = true := rfl
  simp only [IntKind.wrap, e1, e2, Bool.true_and]
  split
  · rename_i h; simp at h; omega
  · rename_i h; simp at h; omega
end Go.Am
