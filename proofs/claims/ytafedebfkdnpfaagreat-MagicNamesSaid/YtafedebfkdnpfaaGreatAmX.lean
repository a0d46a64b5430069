/- The abstract machine, part X: the program's data as values. -/
import Derived.Test.YtafedebfkdnpfaaGreatAmW
namespace Go.Am
open Go

structure LVal where
  kind : Int
  n : Int
  s : Str
  deriving DecidableEq
structure LTerm where
  var : Str
  val : LVal
  deriving DecidableEq
structure LAtom where
  pred : Str
  args : List LTerm
  deriving DecidableEq
structure LStep where
  kind : Int
  label : Str
  deriving DecidableEq
structure LLit where
  kind : Int
  atom : LAtom
  op : Str
  a : LTerm
  b : LTerm
  c : LTerm
  path : List LStep
  deriving DecidableEq
structure LRule where
  head : LAtom
  fold : Int
  body : List LLit
  deriving DecidableEq
structure LProg where
  rules : List LRule
  query : LAtom
  deriving DecidableEq

def encVal (v : LVal) : List AV := [.int .i64 v.kind, .int .i64 v.n, .str v.s]
def encTerm (t : LTerm) : List AV := [.str t.var, .int .i64 t.val.kind, .int .i64 t.val.n, .str t.val.s]
def encStep (t : LStep) : List AV := [.int .i64 t.kind, .str t.label]
def encAtom (a : LAtom) : List AV := [.str a.pred, .fs 4 (a.args.map encTerm)]
def encLit (l : LLit) : List AV :=
  [.int .i64 l.kind, .str l.atom.pred, .fs 4 (l.atom.args.map encTerm), .str l.op, .str l.a.var, .int .i64 l.a.val.kind, .int .i64 l.a.val.n, .str l.a.val.s, .str l.b.var, .int .i64 l.b.val.kind, .int .i64 l.b.val.n, .str l.b.val.s,
   .str l.c.var, .int .i64 l.c.val.kind, .int .i64 l.c.val.n, .str l.c.val.s, .fs 2 (l.path.map encStep)]
def encRule (r : LRule) : List AV := [.str r.head.pred, .fs 4 (r.head.args.map encTerm), .int .i64 r.fold, .fs 17 (r.body.map encLit)]
def encProg (p : LProg) : List AV := [.fs 4 (p.rules.map encRule), .str p.query.pred, .fs 4 (p.query.args.map encTerm)]
def encStr (s : Str) : List AV := [.str s]
def encInt (n : Int) : List AV := [.int .i64 n]
def encInts (l : List Int) : List AV := [.fs 1 (l.map encInt)]
def encVals (l : List LVal) : List AV := [.fs 3 (l.map encVal)]
def encStrs (l : List Str) : List AV := [.fs 1 (l.map encStr)]
/-- slices -/
def aStrs (l : List Str) : AV := .fs 1 (l.map encStr)
def aInts (l : List Int) : AV := .fs 1 (l.map encInt)

theorem nrs_val (v : LVal) : AV.nrs (encVal v) = true := by simp [encVal]
theorem nrs_term (t : LTerm) : AV.nrs (encTerm t) = true := by simp [encTerm]
theorem nrs_step (t : LStep) : AV.nrs (encStep t) = true := by simp [encStep]
theorem nrss_term (l : List LTerm) : AV.nrss (l.map encTerm) = true := nrss_map nrs_term l
theorem nrss_step (l : List LStep) : AV.nrss (l.map encStep) = true := nrss_map nrs_step l
theorem nrs_atom (a : LAtom) : AV.nrs (encAtom a) = true := by simp [encAtom, nrss_term]
theorem nrs_lit (l : LLit) : AV.nrs (encLit l) = true := by simp [encLit, nrss_term, nrss_step]
theorem nrss_lit (l : List LLit) : AV.nrss (l.map encLit) = true := nrss_map nrs_lit l
theorem nrs_rule (r : LRule) : AV.nrs (encRule r) = true := by simp [encRule, nrss_term, nrss_lit]
theorem nrss_rule (l : List LRule) : AV.nrss (l.map encRule) = true := nrss_map nrs_rule l
theorem nrs_prog (p : LProg) : AV.nrs (encProg p) = true := by simp [encProg, nrss_term, nrss_rule]
theorem nrs_str (s : Str) : AV.nrs (encStr s) = true := by simp [encStr]
theorem nrs_int (s : Int) : AV.nrs (encInt s) = true := by simp [encInt]
theorem nrss_str (l : List Str) : AV.nrss (l.map encStr) = true := nrss_map nrs_str l
theorem nrss_int (l : List Int) : AV.nrss (l.map encInt) = true := nrss_map nrs_int l
theorem nrss_val (l : List LVal) : AV.nrss (l.map encVal) = true := nrss_map nrs_val l
theorem nrs_ints (l : List Int) : AV.nrs (encInts l) = true := by simp [encInts, nrss_int]
theorem nrs_vals (l : List LVal) : AV.nrs (encVals l) = true := by simp [encVals, nrss_val]
theorem nrs_strs (l : List Str) : AV.nrs (encStrs l) = true := by simp [encStrs, nrss_str]
theorem nrss_ints (l : List (List Int)) : AV.nrss (l.map encInts) = true := nrss_map nrs_ints l
theorem nrss_vals (l : List (List LVal)) : AV.nrss (l.map encVals) = true := nrss_map nrs_vals l
theorem nrss_strs (l : List (List Str)) : AV.nrss (l.map encStrs) = true := nrss_map nrs_strs l
theorem nr_aStrs (l : List Str) : (aStrs l).nr = true := by simp [aStrs, nrss_str]
theorem nr_aInts (l : List Int) : (aInts l).nr = true := by simp [aInts, nrss_int]
attribute [simp] nrs_val nrs_term nrs_step nrss_term nrss_step nrs_atom nrs_lit nrss_lit nrs_rule nrss_rule nrs_prog nrs_str nrs_int nrss_str nrss_int nrss_val nrs_ints nrs_vals nrs_strs nrss_ints nrss_vals nrss_strs nr_aStrs nr_aInts

/-! ### one cell of it, or all -/
theorem encVal_len (x : LVal) : (encVal x).length = 3 := by simp [encVal]
theorem encVal_ones (x : LVal) : AV.ones (encVal x) = true := by simp [encVal]
theorem encVal_all (x : LVal) : List.take 3 (encVal x) = encVal x := by simp [encVal]
theorem encVal_take (x : LVal) (n : Nat) : List.take n (encVal x) = List.take n ([.int .i64 x.kind, .int .i64 x.n, .str x.s]) := by rw [encVal]
theorem encVal_drop (x : LVal) (n : Nat) : List.drop n (encVal x) = List.drop n ([.int .i64 x.kind, .int .i64 x.n, .str x.s]) := by rw [encVal]
theorem encVal_tail (x : LVal) : List.tail (encVal x) = List.tail ([.int .i64 x.kind, .int .i64 x.n, .str x.s]) := by rw [encVal]
attribute [simp] encVal_tail encVal_len encVal_ones encVal_take encVal_drop
attribute [simp high] encVal_all
theorem encTerm_len (x : LTerm) : (encTerm x).length = 4 := by simp [encTerm]
theorem encTerm_ones (x : LTerm) : AV.ones (encTerm x) = true := by simp [encTerm]
theorem encTerm_all (x : LTerm) : List.take 4 (encTerm x) = encTerm x := by simp [encTerm]
theorem encTerm_take (x : LTerm) (n : Nat) : List.take n (encTerm x) = List.take n ([.str x.var, .int .i64 x.val.kind, .int .i64 x.val.n, .str x.val.s]) := by rw [encTerm]
theorem encTerm_drop (x : LTerm) (n : Nat) : List.drop n (encTerm x) = List.drop n ([.str x.var, .int .i64 x.val.kind, .int .i64 x.val.n, .str x.val.s]) := by rw [encTerm]
theorem encTerm_tail (x : LTerm) : List.tail (encTerm x) = List.tail ([.str x.var, .int .i64 x.val.kind, .int .i64 x.val.n, .str x.val.s]) := by rw [encTerm]
attribute [simp] encTerm_tail encTerm_len encTerm_ones encTerm_take encTerm_drop
attribute [simp high] encTerm_all
theorem encStep_len (x : LStep) : (encStep x).length = 2 := by simp [encStep]
theorem encStep_ones (x : LStep) : AV.ones (encStep x) = true := by simp [encStep]
theorem encStep_all (x : LStep) : List.take 2 (encStep x) = encStep x := by simp [encStep]
theorem encStep_take (x : LStep) (n : Nat) : List.take n (encStep x) = List.take n ([.int .i64 x.kind, .str x.label]) := by rw [encStep]
theorem encStep_drop (x : LStep) (n : Nat) : List.drop n (encStep x) = List.drop n ([.int .i64 x.kind, .str x.label]) := by rw [encStep]
theorem encStep_tail (x : LStep) : List.tail (encStep x) = List.tail ([.int .i64 x.kind, .str x.label]) := by rw [encStep]
attribute [simp] encStep_tail encStep_len encStep_ones encStep_take encStep_drop
attribute [simp high] encStep_all
theorem encAtom_len (x : LAtom) : (encAtom x).length = 2 := by simp [encAtom]
theorem encAtom_ones (x : LAtom) : AV.ones (encAtom x) = true := by simp [encAtom]
theorem encAtom_all (x : LAtom) : List.take 2 (encAtom x) = encAtom x := by simp [encAtom]
theorem encAtom_take (x : LAtom) (n : Nat) : List.take n (encAtom x) = List.take n ([.str x.pred, .fs 4 (x.args.map encTerm)]) := by rw [encAtom]
theorem encAtom_drop (x : LAtom) (n : Nat) : List.drop n (encAtom x) = List.drop n ([.str x.pred, .fs 4 (x.args.map encTerm)]) := by rw [encAtom]
theorem encAtom_tail (x : LAtom) : List.tail (encAtom x) = List.tail ([.str x.pred, .fs 4 (x.args.map encTerm)]) := by rw [encAtom]
attribute [simp] encAtom_tail encAtom_len encAtom_ones encAtom_take encAtom_drop
attribute [simp high] encAtom_all
theorem encLit_len (x : LLit) : (encLit x).length = 17 := by simp [encLit]
theorem encLit_ones (x : LLit) : AV.ones (encLit x) = true := by simp [encLit]
theorem encLit_all (x : LLit) : List.take 17 (encLit x) = encLit x := by simp [encLit]
theorem encLit_take (x : LLit) (n : Nat) : List.take n (encLit x) = List.take n ([.int .i64 x.kind, .str x.atom.pred, .fs 4 (x.atom.args.map encTerm), .str x.op, .str x.a.var, .int .i64 x.a.val.kind, .int .i64 x.a.val.n, .str x.a.val.s, .str x.b.var, .int .i64 x.b.val.kind, .int .i64 x.b.val.n, .str x.b.val.s,   .str x.c.var, .int .i64 x.c.val.kind, .int .i64 x.c.val.n, .str x.c.val.s, .fs 2 (x.path.map encStep)]) := by rw [encLit]
theorem encLit_drop (x : LLit) (n : Nat) : List.drop n (encLit x) = List.drop n ([.int .i64 x.kind, .str x.atom.pred, .fs 4 (x.atom.args.map encTerm), .str x.op, .str x.a.var, .int .i64 x.a.val.kind, .int .i64 x.a.val.n, .str x.a.val.s, .str x.b.var, .int .i64 x.b.val.kind, .int .i64 x.b.val.n, .str x.b.val.s,   .str x.c.var, .int .i64 x.c.val.kind, .int .i64 x.c.val.n, .str x.c.val.s, .fs 2 (x.path.map encStep)]) := by rw [encLit]
theorem encLit_tail (x : LLit) : List.tail (encLit x) = List.tail ([.int .i64 x.kind, .str x.atom.pred, .fs 4 (x.atom.args.map encTerm), .str x.op, .str x.a.var, .int .i64 x.a.val.kind, .int .i64 x.a.val.n, .str x.a.val.s, .str x.b.var, .int .i64 x.b.val.kind, .int .i64 x.b.val.n, .str x.b.val.s,   .str x.c.var, .int .i64 x.c.val.kind, .int .i64 x.c.val.n, .str x.c.val.s, .fs 2 (x.path.map encStep)]) := by rw [encLit]
attribute [simp] encLit_tail encLit_len encLit_ones encLit_take encLit_drop
attribute [simp high] encLit_all
theorem encRule_len (x : LRule) : (encRule x).length = 4 := by simp [encRule]
theorem encRule_ones (x : LRule) : AV.ones (encRule x) = true := by simp [encRule]
theorem encRule_all (x : LRule) : List.take 4 (encRule x) = encRule x := by simp [encRule]
theorem encRule_take (x : LRule) (n : Nat) : List.take n (encRule x) = List.take n ([.str x.head.pred, .fs 4 (x.head.args.map encTerm), .int .i64 x.fold, .fs 17 (x.body.map encLit)]) := by rw [encRule]
theorem encRule_drop (x : LRule) (n : Nat) : List.drop n (encRule x) = List.drop n ([.str x.head.pred, .fs 4 (x.head.args.map encTerm), .int .i64 x.fold, .fs 17 (x.body.map encLit)]) := by rw [encRule]
theorem encRule_tail (x : LRule) : List.tail (encRule x) = List.tail ([.str x.head.pred, .fs 4 (x.head.args.map encTerm), .int .i64 x.fold, .fs 17 (x.body.map encLit)]) := by rw [encRule]
attribute [simp] encRule_tail encRule_len encRule_ones encRule_take encRule_drop
attribute [simp high] encRule_all
theorem encProg_len (x : LProg) : (encProg x).length = 3 := by simp [encProg]
theorem encProg_ones (x : LProg) : AV.ones (encProg x) = true := by simp [encProg]
theorem encProg_all (x : LProg) : List.take 3 (encProg x) = encProg x := by simp [encProg]
theorem encProg_take (x : LProg) (n : Nat) : List.take n (encProg x) = List.take n ([.fs 4 (x.rules.map encRule), .str x.query.pred, .fs 4 (x.query.args.map encTerm)]) := by rw [encProg]
theorem encProg_drop (x : LProg) (n : Nat) : List.drop n (encProg x) = List.drop n ([.fs 4 (x.rules.map encRule), .str x.query.pred, .fs 4 (x.query.args.map encTerm)]) := by rw [encProg]
theorem encProg_tail (x : LProg) : List.tail (encProg x) = List.tail ([.fs 4 (x.rules.map encRule), .str x.query.pred, .fs 4 (x.query.args.map encTerm)]) := by rw [encProg]
attribute [simp] encProg_tail encProg_len encProg_ones encProg_take encProg_drop
attribute [simp high] encProg_all
theorem encStr_len (x : Str) : (encStr x).length = 1 := by simp [encStr]
theorem encStr_ones (x : Str) : AV.ones (encStr x) = true := by simp [encStr]
theorem encStr_all (x : Str) : List.take 1 (encStr x) = encStr x := by simp [encStr]
theorem encStr_take (x : Str) (n : Nat) : List.take n (encStr x) = List.take n ([.str x]) := by rw [encStr]
theorem encStr_drop (x : Str) (n : Nat) : List.drop n (encStr x) = List.drop n ([.str x]) := by rw [encStr]
theorem encStr_tail (x : Str) : List.tail (encStr x) = List.tail ([.str x]) := by rw [encStr]
attribute [simp] encStr_tail encStr_len encStr_ones encStr_take encStr_drop
attribute [simp high] encStr_all
theorem encInt_len (x : Int) : (encInt x).length = 1 := by simp [encInt]
theorem encInt_ones (x : Int) : AV.ones (encInt x) = true := by simp [encInt]
theorem encInt_all (x : Int) : List.take 1 (encInt x) = encInt x := by simp [encInt]
theorem encInt_take (x : Int) (n : Nat) : List.take n (encInt x) = List.take n ([.int .i64 x]) := by rw [encInt]
theorem encInt_drop (x : Int) (n : Nat) : List.drop n (encInt x) = List.drop n ([.int .i64 x]) := by rw [encInt]
theorem encInt_tail (x : Int) : List.tail (encInt x) = List.tail ([.int .i64 x]) := by rw [encInt]
attribute [simp] encInt_tail encInt_len encInt_ones encInt_take encInt_drop
attribute [simp high] encInt_all
theorem encInts_len (x : List Int) : (encInts x).length = 1 := by simp [encInts]
theorem encInts_ones (x : List Int) : AV.ones (encInts x) = true := by simp [encInts]
theorem encInts_all (x : List Int) : List.take 1 (encInts x) = encInts x := by simp [encInts]
theorem encInts_take (x : List Int) (n : Nat) : List.take n (encInts x) = List.take n ([.fs 1 (x.map encInt)]) := by rw [encInts]
theorem encInts_drop (x : List Int) (n : Nat) : List.drop n (encInts x) = List.drop n ([.fs 1 (x.map encInt)]) := by rw [encInts]
theorem encInts_tail (x : List Int) : List.tail (encInts x) = List.tail ([.fs 1 (x.map encInt)]) := by rw [encInts]
attribute [simp] encInts_tail encInts_len encInts_ones encInts_take encInts_drop
attribute [simp high] encInts_all
theorem encVals_len (x : List LVal) : (encVals x).length = 1 := by simp [encVals]
theorem encVals_ones (x : List LVal) : AV.ones (encVals x) = true := by simp [encVals]
theorem encVals_all (x : List LVal) : List.take 1 (encVals x) = encVals x := by simp [encVals]
theorem encVals_take (x : List LVal) (n : Nat) : List.take n (encVals x) = List.take n ([.fs 3 (x.map encVal)]) := by rw [encVals]
theorem encVals_drop (x : List LVal) (n : Nat) : List.drop n (encVals x) = List.drop n ([.fs 3 (x.map encVal)]) := by rw [encVals]
theorem encVals_tail (x : List LVal) : List.tail (encVals x) = List.tail ([.fs 3 (x.map encVal)]) := by rw [encVals]
attribute [simp] encVals_tail encVals_len encVals_ones encVals_take encVals_drop
attribute [simp high] encVals_all
theorem encStrs_len (x : List Str) : (encStrs x).length = 1 := by simp [encStrs]
theorem encStrs_ones (x : List Str) : AV.ones (encStrs x) = true := by simp [encStrs]
theorem encStrs_all (x : List Str) : List.take 1 (encStrs x) = encStrs x := by simp [encStrs]
theorem encStrs_take (x : List Str) (n : Nat) : List.take n (encStrs x) = List.take n ([.fs 1 (x.map encStr)]) := by rw [encStrs]
theorem encStrs_drop (x : List Str) (n : Nat) : List.drop n (encStrs x) = List.drop n ([.fs 1 (x.map encStr)]) := by rw [encStrs]
theorem encStrs_tail (x : List Str) : List.tail (encStrs x) = List.tail ([.fs 1 (x.map encStr)]) := by rw [encStrs]
attribute [simp] encStrs_tail encStrs_len encStrs_ones encStrs_take encStrs_drop
attribute [simp high] encStrs_all

/-! ### what came in can be -/
def i64 (n : Int) : Prop := -9223372036854775808 ≤ n ∧ n < 9223372036854775808
def WStr (s : Str) : Prop := s.length ≤ reachBytes
def WVal (v : LVal) : Prop := i64 v.kind ∧ i64 v.n ∧ WStr v.s
def WTerm (t : LTerm) : Prop := WStr t.var ∧ WVal t.val
def WStep (t : LStep) : Prop := i64 t.kind ∧ WStr t.label
def WAtom (a : LAtom) : Prop := WStr a.pred ∧ a.args.length ≤ reachBytes ∧ ∀ t ∈ a.args, WTerm t
structure WLit (l : LLit) : Prop where
  kind : i64 l.kind
  atom : WAtom l.atom
  op : WStr l.op
  a : WTerm l.a
  b : WTerm l.b
  c : WTerm l.c
  plen : l.path.length ≤ reachBytes
  path : ∀ t ∈ l.path, WStep t
structure WRule (r : LRule) : Prop where
  head : WAtom r.head
  fold : i64 r.fold
  blen : r.body.length ≤ reachBytes
  body : ∀ l ∈ r.body, WLit l
structure WProg (p : LProg) : Prop where
  rlen : p.rules.length ≤ reachBytes
  rules : ∀ r ∈ p.rules, WRule r
  query : WAtom p.query

theorem i64_of {n : Int} (h : (Lit.int .i64 n).wf = true) : i64 n := by
  have := bounds_i64 h
  unfold i64; omega

/-- a slice of such things -/
theorem fs_of {α : Type} {enc : α → List AV} {W : α → Prop} {t : TypeId} {e : List CS} {v : AV} (h : FitC (.slice t e) v) (hR : ∀ c, FitL e c → ∃ x, c = enc x ∧ W x) : ∃ xs : List α, v = .fs e.length (xs.map enc) ∧ xs.length ≤ reachBytes ∧ ∀ x ∈ xs, W x := by
  simp only [FitC] at h
  obtain ⟨es, rfl, h2, h3⟩ := h
  have : ∃ xs : List α, es = xs.map enc ∧ ∀ x ∈ xs, W x := by
    clear h2
    induction es with
    | nil => exact ⟨[], rfl, by simp⟩
    | cons a l ih =>
      obtain ⟨x, rfl, hx⟩ := hR a (h3 a List.mem_cons_self)
      obtain ⟨xs, rfl, hxs⟩ := ih fun y hy => h3 y (List.mem_cons_of_mem _ hy)
      refine ⟨x :: xs, rfl, fun y hy => ?_⟩
      rcases List.mem_cons.1 hy with rfl | hy
      · exact hx
      · exact hxs y hy
  obtain ⟨xs, rfl, hxs⟩ := this
  exact ⟨xs, rfl, by simpa using h2, hxs⟩

def csVal : List CS := [.int .i64, .int .i64, .str]
def csTerm : List CS := [.str, .int .i64, .int .i64, .str]
def csStep : List CS := [.int .i64, .str]
def csAtom (tt : TypeId) : List CS := [.str, .slice tt csTerm]
def csLit (tt ts : TypeId) : List CS := [.int .i64, .str, .slice tt csTerm, .str] ++ csTerm ++ csTerm ++ csTerm ++ [.slice ts csStep]
def csRule (tt ts tl : TypeId) : List CS := [.str, .slice tt csTerm, .int .i64, .slice tl (csLit tt ts)]
def csProg (tt ts tl tr : TypeId) : List CS := [.slice tr (csRule tt ts tl), .str, .slice tt csTerm]

theorem str_of {c : List AV} (h : FitL [.str] c) : ∃ t, c = encStr t ∧ WStr t := by
  simp only [FitL, FitC] at h
  obtain ⟨_, _, rfl, ⟨z, rfl, hz⟩, rfl⟩ := h
  exact ⟨z, rfl, hz⟩
theorem int_of {c : List AV} (h : FitL [.int .i64] c) : ∃ t, c = encInt t ∧ i64 t := by
  simp only [FitL, FitC] at h
  obtain ⟨_, _, rfl, ⟨z, rfl, hz⟩, rfl⟩ := h
  exact ⟨z, rfl, i64_of hz⟩
theorem val_of {c : List AV} (h : FitL csVal c) : ∃ t, c = encVal t ∧ WVal t := by
  simp only [csVal, FitL, FitC] at h
  obtain ⟨_, _, rfl, ⟨k, rfl, hk⟩, _, _, rfl, ⟨n, rfl, hn⟩, _, _, rfl, ⟨z, rfl, hz⟩, rfl⟩ := h
  exact ⟨⟨k, n, z⟩, rfl, i64_of hk, i64_of hn, hz⟩
theorem term_of {c : List AV} (h : FitL csTerm c) : ∃ t, c = encTerm t ∧ WTerm t := by
  simp only [csTerm, FitL, FitC] at h
  obtain ⟨_, _, rfl, ⟨s, rfl, hs⟩, _, _, rfl, ⟨k, rfl, hk⟩, _, _, rfl, ⟨n, rfl, hn⟩, _, _, rfl, ⟨z, rfl, hz⟩, rfl⟩ := h
  exact ⟨⟨s, k, n, z⟩, rfl, hs, i64_of hk, i64_of hn, hz⟩
theorem step_of {c : List AV} (h : FitL csStep c) : ∃ t, c = encStep t ∧ WStep t := by
  simp only [csStep, FitL, FitC] at h
  obtain ⟨_, _, rfl, ⟨k, rfl, hk⟩, _, _, rfl, ⟨z, rfl, hz⟩, rfl⟩ := h
  exact ⟨⟨k, z⟩, rfl, i64_of hk, hz⟩
theorem ints_of {t : TypeId} {c : List AV} (h : FitL [.slice t [.int .i64]] c) : ∃ l, c = encInts l ∧ l.length ≤ reachBytes ∧ ∀ x ∈ l, i64 x := by
  simp only [FitL] at h
  obtain ⟨_, _, rfl, h, rfl⟩ := h
  obtain ⟨l, rfl, h1, h2⟩ := fs_of h fun _ => int_of
  exact ⟨l, rfl, h1, h2⟩
theorem vals_of {t : TypeId} {c : List AV} (h : FitL [.slice t csVal] c) : ∃ l, c = encVals l ∧ l.length ≤ reachBytes ∧ ∀ x ∈ l, WVal x := by
  simp only [FitL] at h
  obtain ⟨_, _, rfl, h, rfl⟩ := h
  obtain ⟨l, rfl, h1, h2⟩ := fs_of h fun _ => val_of
  exact ⟨l, rfl, h1, h2⟩
theorem atom_of {tt : TypeId} {c : List AV} (h : FitL (csAtom tt) c) : ∃ a, c = encAtom a ∧ WAtom a := by
  simp only [csAtom, FitL] at h
  obtain ⟨_, _, rfl, h1, _, _, rfl, h2, rfl⟩ := h
  obtain ⟨args, rfl, ha1, ha2⟩ := fs_of h2 fun _ => term_of
  simp only [FitC] at h1
  obtain ⟨pred, rfl, hp⟩ := h1
  exact ⟨⟨pred, args⟩, rfl, hp, ha1, ha2⟩
theorem lit_of {tt ts : TypeId} {c : List AV} (h : FitL (csLit tt ts) c) : ∃ l, c = encLit l ∧ WLit l := by
  simp only [csLit, csTerm, List.cons_append, List.nil_append, FitL] at h
  obtain ⟨_, _, rfl, h1, _, _, rfl, h2, _, _, rfl, h3, _, _, rfl, h4, _, _, rfl, h5, _, _, rfl, h6, _, _, rfl, h7, _, _, rfl, h8, _, _, rfl, h9, _, _, rfl, h10, _, _, rfl, h11, _, _, rfl, h12, _, _, rfl, h13, _, _, rfl, h14, _, _, rfl, h15, _, _, rfl, h16, _, _, rfl, h17, rfl⟩ := h
  obtain ⟨args, rfl, ha1, ha2⟩ := fs_of h3 fun _ hc => term_of (by simpa only [csTerm] using hc)
  obtain ⟨path, rfl, hp1, hp2⟩ := fs_of h17 fun _ => step_of
  simp only [FitC] at h1 h2 h4 h5 h6 h7 h8 h9 h10 h11 h12 h13 h14 h15 h16
  obtain ⟨k, rfl, hk⟩ := h1
  obtain ⟨pred, rfl, hpr⟩ := h2
  obtain ⟨op, rfl, hop⟩ := h4
  obtain ⟨av, rfl, hav⟩ := h5
  obtain ⟨ak, rfl, hak⟩ := h6
  obtain ⟨an, rfl, han⟩ := h7
  obtain ⟨az, rfl, haz⟩ := h8
  obtain ⟨bv, rfl, hbv⟩ := h9
  obtain ⟨bk, rfl, hbk⟩ := h10
  obtain ⟨bn, rfl, hbn⟩ := h11
  obtain ⟨bz, rfl, hbz⟩ := h12
  obtain ⟨cv, rfl, hcv⟩ := h13
  obtain ⟨ck, rfl, hck⟩ := h14
  obtain ⟨cn, rfl, hcn⟩ := h15
  obtain ⟨cz, rfl, hcz⟩ := h16
  exact ⟨⟨k, ⟨pred, args⟩, op, ⟨av, ak, an, az⟩, ⟨bv, bk, bn, bz⟩, ⟨cv, ck, cn, cz⟩, path⟩, rfl,
    ⟨i64_of hk, ⟨hpr, ha1, ha2⟩, hop, ⟨hav, i64_of hak, i64_of han, haz⟩, ⟨hbv, i64_of hbk, i64_of hbn, hbz⟩, ⟨hcv, i64_of hck, i64_of hcn, hcz⟩, hp1, hp2⟩⟩
theorem rule_of {tt ts tl : TypeId} {c : List AV} (h : FitL (csRule tt ts tl) c) : ∃ r, c = encRule r ∧ WRule r := by
  simp only [csRule, FitL] at h
  obtain ⟨_, _, rfl, h1, _, _, rfl, h2, _, _, rfl, h3, _, _, rfl, h4, rfl⟩ := h
  obtain ⟨args, rfl, ha1, ha2⟩ := fs_of h2 fun _ => term_of
  obtain ⟨body, rfl, hb1, hb2⟩ := fs_of h4 fun _ => lit_of
  simp only [FitC] at h1 h3
  obtain ⟨pred, rfl, hp⟩ := h1
  obtain ⟨fold, rfl, hf⟩ := h3
  exact ⟨⟨⟨pred, args⟩, fold, body⟩, rfl, ⟨hp, ha1, ha2⟩, i64_of hf, hb1, hb2⟩
theorem prog_of {tt ts tl tr : TypeId} {c : List AV} (h : FitL (csProg tt ts tl tr) c) : ∃ p, c = encProg p ∧ WProg p := by
  simp only [csProg, FitL] at h
  obtain ⟨_, _, rfl, h1, _, _, rfl, h2, _, _, rfl, h3, rfl⟩ := h
  obtain ⟨rules, rfl, hr1, hr2⟩ := fs_of h1 fun _ => rule_of
  obtain ⟨args, rfl, ha1, ha2⟩ := fs_of h3 fun _ => term_of
  simp only [FitC] at h2
  obtain ⟨pred, rfl, hp⟩ := h2
  exact ⟨⟨rules, ⟨pred, args⟩⟩, rfl, hr1, hr2, hp, ha1, ha2⟩
end Go.Am
