/- What functions of the program compute, under the conditions that each statement names. -/
import Derived.Test.YtafedebfkdnpfaaLawA
namespace Go.Am.A
open Go Go.Proofs Go.Am

/-- the law's memory: the program, the names, what is laid behind them -/
def LMem (p : LProg) (ns : List Str) (base : List AObj) : Prop := base[0]? = some (.row T_api_Program 3 [encProg p] (.own 0 true true)) ∧ base[1]? = some (.row T_sl_string 1 [[aStrs ns]] (.own 0 true true))
theorem LMem.mono {p : LProg} {ns : List Str} {base : List AObj} (h : LMem p ns base) (m : List AObj) : LMem p ns (base ++ m) := by
  obtain ⟨h1, h2⟩ := h
  refine ⟨?_, ?_⟩
  · rw [List.getElem?_append_left (List.getElem?_eq_some_iff.1 h1).1]; exact h1
  · rw [List.getElem?_append_left (List.getElem?_eq_some_iff.1 h2).1]; exact h2

def hit (ns : List Str) (t : Int × Int) (r : LRule) (s : Str) : Bool := atL ns r.head.pred == t.1 && atL ns s == t.2
def hitB (ns : List Str) (t : Int × Int) (r : LRule) (ls : List LLit) : Bool := (pairsL ls).any fun q => hit ns t r q.2
def hitR (ns : List Str) (t : Int × Int) (rs : List LRule) : Bool := rs.any fun r => hitB ns t r r.body
abbrev atV : AV := .func law13_StrataNames_f1_id [.ptr 1 0 0]

set_option maxHeartbeats 4000000 in
theorem some_loop (hS : SortC Try.prog slices_Sort_string_id) {p : LProg} (hf : FewOk p) {ns : List Str} (hnl : ns.length < 4611686018427387904) {nd : List (Int × Int)} {i : Nat} (hi : i < nd.length) {many many' : Int} {fr : AFr} {base : List AObj} (hm : LMem p ns base)
    (l1 : look fr 1 = some (.ptr 0 0 0)) (l4 : look fr 4 = some atV) (l6 : look fr 6 = some (aPairs nd)) (l7 : look fr 7 = some (.int .i64 many)) (l8 : look fr 8 = some (.int .i64 i)) (l9 : look fr 9 = some (.bool false))
    (l52 : look fr 52 = some (.int .i64 many')) (l53 : look fr 53 = some (.int .i64 i)) {Q : XPost}
    (hQ : ∀ fr' base', LMem p ns base' → look fr' 1 = some (.ptr 0 0 0) → look fr' 4 = some atV → look fr' 6 = some (aPairs nd) → look fr' 7 = some (.int .i64 many) → look fr' 9 = some (.bool (hitR ns nd[i] p.rules)) → look fr' 52 = some (.int .i64 many') → look fr' 53 = some (.int .i64 i) → Q .normal fr' (AHeap.of base')) :
    dwp Try.prog law13_StrataNames_46 Q fr (AHeap.of base) := by
  have l6' := l6
  rw [aPairs] at l6'
  simp [law13_StrataNames_46, law13_StrataNames_21, l1, l4, l6, l7, l8, l9, l52, l53, hm.1, encProg]
  refine dwp_loop' (fun n vs H => ∃ (k : Nat) (bs : List AObj), vs = [.ptr 0 0 0, atV, aPairs nd, .int .i64 many, .int .i64 i, .bool (hitR ns nd[i] (p.rules.take k)), .int .i64 many', .int .i64 i, .int .i64 p.rules.length, .int .i64 k] ∧ k + n = p.rules.length ∧ H = AHeap.of bs ∧ LMem p ns bs) p.rules.length ?_ ?_
  · exact kept_of (vs := [.ptr 0 0 0, atV, aPairs nd, .int .i64 many, .int .i64 i, .bool false, .int .i64 many', .int .i64 i, .int .i64 p.rules.length, .int .i64 (0 : Nat)]) (by simp) ⟨0, base, by simp [hitR], by simp, rfl, hm⟩
  · rintro K1 Q1 n vs H hK1 hQ1 ⟨k, bs, rfl, hk, rfl, hm1⟩
    rcases Nat.lt_or_ge k p.rules.length with hlt | hlt
    · have hw1 := wrap_nat1 (n := k) (by have := hf.rules; omega)
      simp [law13_StrataNames_45, law13_StrataNames_22, law13_StrataNames_44, law13_StrataNames_43, law13_StrataNames_41, law13_StrataNames_40, law13_StrataNames_23, hlt, hm1.1, encProg, encRule]
      have hmem : p.rules[k] ∈ p.rules := List.getElem_mem hlt
      have hbl := hf.body _ hmem
      have hpl := hf.path _ hmem
      have htakeR : hitR ns nd[i] (p.rules.take (k + 1)) = (hitR ns nd[i] (p.rules.take k) || hitB ns nd[i] p.rules[k] p.rules[k].body) := by
        rw [List.take_succ_eq_append_getElem hlt, hitR, List.any_append]; simp [hitR]
      generalize hr : p.rules[k] = r at *
      generalize hitR ns nd[i] (p.rules.take k) = A at *
      refine dwp_loop' (fun n vs H => ∃ (j : Nat) (bs : List AObj), vs = [.ptr 0 0 0, atV, aPairs nd, .int .i64 many, .int .i64 i, .bool (A || hitB ns nd[i] r (r.body.take j)), .int .i64 k, .int .i64 many', .int .i64 i, .int .i64 p.rules.length, .int .i64 k, .fs 17 (r.body.map encLit), .int .i64 r.body.length, .int .i64 j] ∧
        j + n = r.body.length ∧ H = AHeap.of bs ∧ LMem p ns bs) r.body.length ?_ ?_
      · exact kept_of (vs := [.ptr 0 0 0, atV, aPairs nd, .int .i64 many, .int .i64 i, .bool A, .int .i64 k, .int .i64 many', .int .i64 i, .int .i64 p.rules.length, .int .i64 k, .fs 17 (r.body.map encLit), .int .i64 r.body.length, .int .i64 (0 : Nat)]) (by simp) ⟨0, bs, by simp [hitB, pairsL], by simp, rfl, hm1⟩
      · rintro K2 Q2 n2 vs H hK2 hQ2 ⟨j, bs, rfl, hj, rfl, hm2⟩
        rcases Nat.lt_or_ge j r.body.length with hjl | hjl
        · have hw2 := wrap_nat1 (n := j) (by omega)
          have hmem2 : r.body[j] ∈ r.body := List.getElem_mem hjl
          have hul := usesL_length _ (hpl _ hmem2)
          have htakeB : hitB ns nd[i] r (r.body.take (j + 1)) = (hitB ns nd[i] r (r.body.take j) || (usesL r.body[j]).any (hit ns nd[i] r)) := by
            rw [List.take_succ_eq_append_getElem hjl, hitB, pairsL, List.flatMap_append, List.any_append]; simp [hitB, pairsL, Function.comp_def]
          simp [law13_StrataNames_39, law13_StrataNames_24, law13_StrataNames_38, law13_StrataNames_37, law13_StrataNames_35, law13_StrataNames_25, law13_StrataNames_34, law13_StrataNames_26, hjl]
          refine (uses_pc hS r.body[j] (hpl _ hmem2)).use (by simp) ?_
          simp [aStrs]
          generalize hl : r.body[j] = l at *
          generalize hB : (A || hitB ns nd[i] r (r.body.take j)) = B at *
          refine dwp_loop' (fun n vs H => ∃ (m : Nat) (bs : List AObj), vs = [.ptr 0 0 0, atV, aPairs nd, .int .i64 many, .int .i64 i, .bool (B || ((usesL l).take m).any (hit ns nd[i] r)), .int .i64 k, .int .i64 many', .int .i64 i, .int .i64 p.rules.length, .int .i64 k, .fs 17 (r.body.map encLit), .int .i64 r.body.length, .int .i64 j, .fs 1 ((usesL l).map encStr), .int .i64 (usesL l).length, .int .i64 m] ∧
            m + n = (usesL l).length ∧ H = AHeap.of bs ∧ LMem p ns bs) (usesL l).length ?_ ?_
          · exact kept_of (vs := [.ptr 0 0 0, atV, aPairs nd, .int .i64 many, .int .i64 i, .bool B, .int .i64 k, .int .i64 many', .int .i64 i, .int .i64 p.rules.length, .int .i64 k, .fs 17 (r.body.map encLit), .int .i64 r.body.length, .int .i64 j, .fs 1 ((usesL l).map encStr), .int .i64 (usesL l).length, .int .i64 (0 : Nat)]) (by simp) ⟨0, _, by simp, by simp, rfl, hm2.mono _⟩
          · rintro K3 Q3 n3 vs H hK3 hQ3 ⟨m, bs, rfl, hmm, rfl, hm3⟩
            rcases Nat.lt_or_ge m (usesL l).length with hml | hml
            · have hw3 := wrap_nat1 (n := m) (by omega)
              have htakeU : ((usesL l).take (m + 1)).any (hit ns nd[i] r) = (((usesL l).take m).any (hit ns nd[i] r) || hit ns nd[i] r (usesL l)[m]) := by
                rw [List.take_succ_eq_append_getElem hml, List.any_append]; simp
              have hr' : (p.rules.map encRule)[k]? = some (encRule r) := by simp [hlt, hr]
              simp [law13_StrataNames_33, law13_StrataNames_27, law13_StrataNames_32, law13_StrataNames_31, law13_StrataNames_29, hml, encStr]
              generalize (usesL l)[m] = s at *
              cases hfl : (B || ((usesL l).take m).any (hit ns nd[i] r))
              · simp [law13_StrataNames_28, hfl, hm3.1, encProg, hlt, hr, encRule, encAtom, aPairs, hi, encPair]
                refine at_call hm3.2 hnl ?_
                cases hc : (atL ns r.head.pred == nd[i].1)
                · simp [law13_StrataNames_30, hc, hw3]
                  refine hK3 (n3 - 1) _ _ (by omega) ⟨m + 1, bs, ?_, by omega, rfl, hm3⟩
                  simp only [htakeU]
                  rw [← Bool.or_assoc, hfl]; simp [hit, hc, aPairs]
                · simp [law13_StrataNames_30, hc, hi, hw3, encPair]
                  refine at_call hm3.2 hnl ?_
                  simp [law13_StrataNames_30, hc, hi, hw3, encPair]
                  refine hK3 (n3 - 1) _ _ (by omega) ⟨m + 1, bs, ?_, by omega, rfl, hm3⟩
                  simp only [htakeU]
                  rw [← Bool.or_assoc, hfl]; simp [hit, hc, aPairs]
              · simp [law13_StrataNames_28, law13_StrataNames_30, hfl, hw3]
                refine hK3 (n3 - 1) _ _ (by omega) ⟨m + 1, bs, ?_, by omega, rfl, hm3⟩
                simp only [htakeU]
                rw [← Bool.or_assoc, hfl]; simp
            · have e : m = (usesL l).length := by omega
              subst e
              simp [law13_StrataNames_33, law13_StrataNames_27, law13_StrataNames_32]
              refine hQ3 (.exit 8) _ _ ?_
              simp [law13_StrataNames_36, hw2]
              refine hK2 (n2 - 1) _ _ (by omega) ⟨j + 1, bs, ?_, by omega, rfl, hm3⟩
              rw [htakeB, ← Bool.or_assoc, hB]
              simp
        · have e : j = r.body.length := by omega
          subst e
          simp [law13_StrataNames_39, law13_StrataNames_24, law13_StrataNames_38]
          refine hQ2 (.exit 6) _ _ ?_
          simp [law13_StrataNames_42, hw1]
          refine hK1 (n - 1) _ _ (by omega) ⟨k + 1, bs, ?_, by omega, rfl, hm2⟩
          rw [htakeR]
          simp
    · have e : k = p.rules.length := by omega
      subst e
      simp [law13_StrataNames_45, law13_StrataNames_22, law13_StrataNames_44]
      refine hQ1 (.exit 4) _ _ ?_
      simp
      exact hQ _ _ hm1 (by simp) (by simp) (by simp) (by simp) (by simp) (by simp) (by simp)
end Go.Am.A
