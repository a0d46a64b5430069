/- What functions of the program compute, under the conditions that each statement names. -/
import Derived.Test.YtafedebfkdnpfaaAmX
import Derived.Test.YtafedebfkdnpfaaTx
namespace Go.Am.A
open Go Go.Proofs Go.Am

def fewL : List LLit → Nat → Option Nat
  | [], st => some st
  | l :: ls, st => if 30 < l.path.length ∨ 10 < l.atom.args.length ∨ 60 < st + l.path.length then none else fewL ls (st + l.path.length)
def fewR (k : Nat) : List LRule → Nat → Bool
  | [], _ => true
  | r :: rs, st => if k < r.body.length ∨ 10 < r.head.args.length then false else match fewL r.body st with
    | some st' => fewR k rs st'
    | none => false
def fewB (p : LProg) (m k : Nat) : Bool := if m < p.rules.length ∨ 10 < p.query.args.length then false else fewR k p.rules 0

set_option maxHeartbeats 2000000 in
theorem few_pc (p : LProg) (m k : Nat) (hm : m < 1000) (hk : k < 1000) : PC Try.prog ref09_Few_id [.agg (encProg p), .int .i64 m, .int .i64 k] (.bool (fewB p m k)) := by
  refine PC.of ref09_Few_ok (by simp [ref09_Few]) ?_
  show dwp Try.prog ref09_Few.body (bodyQ [.tmp 6] fun v' H' => Frz H' v' (.bool (fewB p m k))) _ _
  have fin : ∀ (b : Bool) (fr : AFr) (H' : AHeap), b = fewB p m k → look fr 6 = some (.bool b) → bodyQ [.tmp 6] (fun v' H' => Frz H' v' (.bool (fewB p m k))) .ret fr H' := by
    intro b fr H' h1 h2; simp [h2, h1]
  generalize bodyQ [.tmp 6] (fun v' H' => Frz H' v' (.bool (fewB p m k))) = Q at fin
  simp +contextual [ref09_Few, ref09_Few_37, ref09_Few_36, ref09_Few_35, ref09_Few_34, ref09_Few_33, ref09_Few_32, ref09_Few_3, ref09_Few_0, ref09_Few_2, ref09_Few_1, ref09_Few_4, encProg]
  split
  · rename_i h1
    exact fin false _ _ (by simp [fewB]; omega) (by simp)
  rename_i h1
  have h2 : fewB p m k = fewR k p.rules 0 := by simp only [fewB]; rw [if_neg (by omega)]
  refine dwp_loop' (fun n vs H => ∃ (i st : Nat) (G : List AObj), vs = [.int .i64 k, .ptr 0 0 0, .int .i64 st, .int .i64 p.rules.length, .int .i64 i] ∧ i + n = p.rules.length ∧ st ≤ 60 ∧
     H = AHeap.of (.row T_api_Program 3 [encProg p] (.own 0 true true) :: G) ∧ fewB p m k = fewR k (p.rules.drop i) st) p.rules.length ?_ ?_
  · exact kept_of (vs := [.int .i64 k, .ptr 0 0 0, .int .i64 (0 : Nat), .int .i64 p.rules.length, .int .i64 (0 : Nat)]) (by simp) ⟨0, 0, [], rfl, by simp, by simp, rfl, h2⟩
  · rintro K Q' n vs H' hK hQ' ⟨i, st, G, rfl, hi, hst, rfl, hres⟩
    rcases Nat.lt_or_ge i p.rules.length with hlt | hlt
    · rw [drop_get hlt, fewR] at hres
      simp +contextual (maxSteps := 2000000) [ref09_Few_31, ref09_Few_30, ref09_Few_5, ref09_Few_29, ref09_Few_27, ref09_Few_26, ref09_Few_6, ref09_Few_25, ref09_Few_10, ref09_Few_7, ref09_Few_8, ref09_Few_9, ref09_Few_24, ref09_Few_11, encProg, encRule, hlt]
      split
      · rename_i h1
        exact hQ' .ret _ _ (fin false _ _ (by rw [hres, if_pos (by omega)]) (by simp))
      rename_i h1
      rw [if_neg (by omega)] at hres
      refine dwp_loop' (fun n vs H => ∃ (j st : Nat) (G' : List AObj), vs = [.int .i64 k, .ptr 0 0 0, .int .i64 st, .ptr (G.length + 1) 0 0, .int .i64 p.rules.length, .int .i64 i, .int .i64 p.rules[i].body.length, .int .i64 j] ∧ j + n = p.rules[i].body.length ∧ st ≤ 60 ∧
        H = AHeap.of (.row T_api_Program 3 [encProg p] (.own 0 true true) :: (G ++ .row T_api_Rule 4 [encRule p.rules[i]] (.own 0 true true) :: G')) ∧
        fewB p m k = match fewL (p.rules[i].body.drop j) st with | some st' => fewR k (p.rules.drop (i + 1)) st' | none => false) p.rules[i].body.length ?_ ?_
      · exact kept_of (vs := [.int .i64 k, .ptr 0 0 0, .int .i64 st, .ptr (G.length + 1) 0 0, .int .i64 p.rules.length, .int .i64 i, .int .i64 p.rules[i].body.length, .int .i64 (0 : Nat)]) (by simp) ⟨0, st, [], rfl, by simp, hst, rfl, by simpa using hres⟩
      · rintro K2 Q2 n2 vs H2 hK2 hQ2 ⟨j, st, G', rfl, hj, hst, rfl, hres⟩
        rcases Nat.lt_or_ge j p.rules[i].body.length with hjl | hjl
        · rw [drop_get hjl, fewL] at hres
          have e1 : (G ++ AObj.row T_api_Rule 4 [encRule p.rules[i]] (Own.own 0 true true) :: G')[G.length]? = some (AObj.row T_api_Rule 4 [encRule p.rules[i]] (Own.own 0 true true)) := by simp
          rcases Nat.lt_or_ge 30 p.rules[i].body[j].path.length with h30 | h30
          · have h30' : (30 : Int) < p.rules[i].body[j].path.length := by omega
            simp +contextual (maxSteps := 2000000) [ref09_Few_23, ref09_Few_22, ref09_Few_12, ref09_Few_21, ref09_Few_19, ref09_Few_18, ref09_Few_13, ref09_Few_17, ref09_Few_14, ref09_Few_16, ref09_Few_15, encRule, encLit, hlt, hjl, h30']
            exact hQ2 .ret _ _ (hQ' .ret _ _ (fin false _ _ (by rw [hres, if_pos (by omega)]) (by simp)))
          have h30' : ¬ (30 : Int) < p.rules[i].body[j].path.length := by omega
          have hw : IntKind.i64.wrap ((st : Int) + p.rules[i].body[j].path.length) = ((st + p.rules[i].body[j].path.length : Nat) : Int) := by rw [wrap64] <;> omega
          simp +contextual (maxSteps := 2000000) [ref09_Few_23, ref09_Few_22, ref09_Few_12, ref09_Few_21, ref09_Few_19, ref09_Few_18, ref09_Few_13, ref09_Few_17, ref09_Few_14, ref09_Few_16, ref09_Few_15, encRule, encLit, hlt, hjl, hw, h30']
          split
          · rename_i h1
            exact hQ2 .ret _ _ (hQ' .ret _ _ (fin false _ _ (by rw [hres, if_pos (by omega)]) (by simp)))
          rename_i h1
          rw [if_neg (by omega)] at hres
          have hw1 : IntKind.i64.wrap ((j : Int) + 1) = ((j + 1 : Nat) : Int) := by rw [wrap64] <;> omega
          simp [ref09_Few_20, hw1]
          exact hK2 (n2 - 1) _ _ (by omega) ⟨j + 1, st + p.rules[i].body[j].path.length, G', by simp, by omega, by omega, by simp [encRule], hres⟩
        · have e : j = p.rules[i].body.length := by omega
          subst e
          simp [ref09_Few_23, ref09_Few_22, ref09_Few_12]
          refine hQ2 (.exit 2) _ _ ?_
          have hw1 : IntKind.i64.wrap ((i : Int) + 1) = ((i + 1 : Nat) : Int) := by rw [wrap64] <;> omega
          simp [ref09_Few_28, hw1]
          exact hK (n - 1) _ _ (by omega) ⟨i + 1, st, _, rfl, by omega, hst, rfl, by simpa [fewL] using hres⟩
    · have e : i = p.rules.length := by omega
      subst e
      simp [ref09_Few_31, ref09_Few_30, ref09_Few_5]
      refine hQ' (.exit 0) _ _ ?_
      simp [ref09_Few_33]
      exact fin true _ _ (by rw [hres]; simp [fewR]) (by simp)
end Go.Am.A
