/- What functions of the program compute, under the conditions that each statement names. -/
import Derived.Test.YtafedebfkdnpfaaUses
namespace Go.Am.A
open Go Go.Proofs Go.Am

/-- what a rule's literals use, one behind the other -/
def pairsL (ls : List LLit) : List (LLit × Str) := ls.flatMap fun l => (usesL l).map fun s => (l, s)
def lbox (l : LLit) : AObj := .row T_api_Literal 17 [encLit l] (.own 0 true true)

theorem usesL_length (l : LLit) (h : l.path.length ≤ 1000) : (usesL l).length ≤ 1000 := by
  refine Nat.le_trans (sortU_length _) ?_
  unfold gathered
  split
  · simp
  · split
    · exact Nat.le_trans (List.length_filter_le _ _) (by simpa using h)
    · simp

theorem pairsL_split (ls : List LLit) {i : Nat} (h : i < ls.length) : pairsL ls = pairsL (ls.take i) ++ ((usesL ls[i]).map fun s => (ls[i], s)) ++ pairsL (ls.drop (i + 1)) := by
  have e : ls = ls.take i ++ ls[i] :: ls.drop (i + 1) := by rw [← drop_get h, List.take_append_drop]
  have : pairsL (ls.take i ++ ls[i] :: ls.drop (i + 1)) = pairsL (ls.take i) ++ ((usesL ls[i]).map fun s => (ls[i], s)) ++ pairsL (ls.drop (i + 1)) := by
    simp only [pairsL, List.flatMap_append, List.flatMap_cons, List.append_assoc]
  rw [← e] at this
  exact this

set_option maxHeartbeats 2000000 in
theorem each_call (hS : SortC Try.prog slices_Sort_string_id) {x : LRule} {f : FuncId} {caps : List AV} (hw : ∀ l ∈ x.body, l.path.length ≤ 1000) (hb : x.body.length < 4611686018427387904)
    {Inv : List (LLit × Str) → List AObj → Prop} (hgc : ∀ done base o, Inv done base → Inv done (base ++ [o]))
    {done0 : List (LLit × Str)} (hcl : ∀ (l : LLit) (s : Str) (done : List (LLit × Str)) (base : List AObj) (q : Nat) (K : AV → AHeap → Prop), l ∈ x.body → s ∈ usesL l → done.length < done0.length + (pairsL x.body).length → Inv done base → base[q]? = some (lbox l) →
      (∀ v base', Inv (done ++ [(l, s)]) base' → base'[q]? = some (lbox l) → K v (AHeap.of base')) → ACalls Try.prog f ([.agg (encLit l), .str s] ++ caps) K (AHeap.of base))
    {base0 : List AObj} (h0 : Inv done0 base0) {K : AV → AHeap → Prop} (hK : ∀ v base', Inv (done0 ++ pairsL x.body) base' → K v (AHeap.of base')) :
    ACalls Try.prog strata_each_id [.agg (encRule x), .func f caps] K (AHeap.of base0) := by
  refine acalls strata_each_ok (by simp [strata_each]) ?_
  simp [strata_each, strata_each_18, strata_each_17, strata_each_0]
  refine dwp_loop' (fun n vs H => ∃ (i : Nat) (base : List AObj), vs = [.func f caps, .fs 17 (x.body.map encLit), .int .i64 x.body.length, .int .i64 i] ∧ i + n = x.body.length ∧ H = AHeap.of base ∧ Inv (done0 ++ pairsL (x.body.take i)) base) x.body.length ?_ ?_
  · exact kept_of (vs := [.func f caps, .fs 17 (x.body.map encLit), .int .i64 x.body.length, .int .i64 (0 : Nat)]) (by simp) ⟨0, _, rfl, by simp, rfl, by simpa [pairsL] using hgc _ _ _ h0⟩
  · rintro K1 Q1 n vs H1 hK1 hQ1 ⟨i, base, rfl, hi, rfl, hinv⟩
    rcases Nat.lt_or_ge i x.body.length with hlt | hlt
    · have hw1 := wrap_nat1 (n := i) (by omega)
      have hmem : x.body[i] ∈ x.body := List.getElem_mem hlt
      have hu := usesL_length _ (hw _ hmem)
      simp [strata_each_16, strata_each_15, strata_each_1, strata_each_14, strata_each_12, strata_each_2, strata_each_11, strata_each_3, hlt]
      refine (uses_pc hS x.body[i] (hw _ hmem)).use (by simp) ?_
      simp [aStrs]
      refine dwp_loop' (fun n vs H => ∃ (j : Nat) (base' : List AObj), vs = [.func f caps, .ptr base.length 0 0, .fs 17 (x.body.map encLit), .int .i64 x.body.length, .int .i64 i, .fs 1 ((usesL x.body[i]).map encStr), .int .i64 (usesL x.body[i]).length, .int .i64 j] ∧ j + n = (usesL x.body[i]).length ∧
        H = AHeap.of base' ∧ Inv (done0 ++ pairsL (x.body.take i) ++ ((usesL x.body[i]).take j).map fun s => (x.body[i], s)) base' ∧ base'[base.length]? = some (lbox x.body[i])) (usesL x.body[i]).length ?_ ?_
      · exact kept_of (vs := [.func f caps, .ptr base.length 0 0, .fs 17 (x.body.map encLit), .int .i64 x.body.length, .int .i64 i, .fs 1 ((usesL x.body[i]).map encStr), .int .i64 (usesL x.body[i]).length, .int .i64 (0 : Nat)]) (by simp) ⟨0, _, rfl, by simp, rfl, by simpa using hgc _ _ _ hinv, by simp [lbox]⟩
      · rintro K2 Q2 n2 vs H2 hK2 hQ2 ⟨j, base', rfl, hj, rfl, hinv2, hq⟩
        have hq' := hq
        rw [lbox] at hq'
        rcases Nat.lt_or_ge j (usesL x.body[i]).length with hjl | hjl
        · have hw2 := wrap_nat1 (n := j) (by omega)
          simp [strata_each_10, strata_each_9, strata_each_4, strata_each_8, strata_each_6, strata_each_5, hjl, hq', encStr]
          refine hcl x.body[i] (usesL x.body[i])[j] _ base' base.length _ hmem (List.getElem_mem hjl) (by
            have e := pairsL_split x.body hlt
            have e2 := congrArg List.length e
            simp at e2 ⊢
            omega) hinv2 hq fun v base2 h1 h2 => ?_
          simp [strata_each_7, hw2]
          refine hK2 (n2 - 1) _ _ (by omega) ⟨j + 1, base2, rfl, by omega, rfl, ?_, h2⟩
          rw [List.take_succ_eq_append_getElem hjl, List.map_append, ← List.append_assoc]
          exact h1
        · have e : j = (usesL x.body[i]).length := by omega
          subst e
          simp [strata_each_10, strata_each_9, strata_each_4]
          refine hQ2 (.exit 2) _ _ ?_
          simp [strata_each_13, hw1]
          refine hK1 (n - 1) _ _ (by omega) ⟨i + 1, base', rfl, by omega, rfl, ?_⟩
          rw [List.take_succ_eq_append_getElem hlt, pairsL, List.flatMap_append, ← List.append_assoc]
          simpa [pairsL] using hinv2
    · have e : i = x.body.length := by omega
      subst e
      simp [strata_each_16, strata_each_15, strata_each_1]
      refine hQ1 (.exit 0) _ _ ?_
      simp
      rw [List.take_length] at hinv
      exact hK _ _ hinv
end Go.Am.A
