/- What functions of the program compute, under the conditions that each statement names. -/
import Derived.Test.YtafedebfkdnpfaaSorted
namespace Go.Am.A
open Go Go.Proofs Go.Am

/-- what a literal uses, as it is gathered -/
def gathered (l : LLit) : List Str :=
  if l.kind = 1 ∨ l.kind = 2 then [l.atom.pred]
  else if l.kind = 5 then (l.path.map (·.label)).filter (· ≠ [])
  else []
def usesL (l : LLit) : List Str := sortU (gathered l)

set_option maxHeartbeats 2000000 in
theorem uses_pc (hS : SortC Try.prog slices_Sort_string_id) (l : LLit) (hp : l.path.length ≤ 1000) : PC Try.prog strata_Uses_id [.agg (encLit l)] (aStrs (usesL l)) := by
  refine PC.of strata_Uses_ok (by simp [strata_Uses]) ?_
  have hgl : (gathered l).length ≤ 1000 := by
    unfold gathered
    split
    · simp
    · split
      · exact Nat.le_trans (List.length_filter_le _ _) (by simpa using hp)
      · simp
  simp [strata_Uses, strata_Uses_24, strata_Uses_23, strata_Uses_22]
  have fin : ∀ (Q0 : XPost) (fr : AFr) (G : List AObj) (v : AV), look fr 3 = some v → Acc 1 (.row T_api_Literal 17 [encLit l] (.own 0 true true) :: G) T_string 1 v ((gathered l).map encStr) →
      thenQ (dwp Try.prog (XCode.keep [3] strata_Uses_21) (bodyQ [XRes.tmp 2] fun v' H' => Frz H' v' (aStrs (usesL l)))) Q0 .normal fr (AHeap.of (.row T_api_Literal 17 [encLit l] (.own 0 true true) :: G)) := by
    intro Q0 fr G v h1 h2
    simp [strata_Uses_21, h1]
    refine sorted_acc hS h2 (by omega) fun v' H' h3 h4 => ?_
    simpa [usesL] using h4
  have fin := fun fr G v => fin (bodyQ [XRes.tmp 2] fun v' H' => Frz H' v' (aStrs (usesL l))) fr G v
  generalize thenQ (dwp Try.prog (XCode.keep [3] strata_Uses_21) (bodyQ [XRes.tmp 2] fun v' H' => Frz H' v' (aStrs (usesL l)))) _ = Q at fin ⊢
  have fin0 : ∀ (fr : AFr), look fr 3 = some .nilslice → gathered l = [] → Q .normal fr (AHeap.of [.row T_api_Literal 17 [encLit l] (.own 0 true true)]) := fun fr h1 h2 => fin fr [] _ h1 (by rw [h2]; exact Acc.nil _ _ _ _)
  by_cases k12 : l.kind = 1 ∨ l.kind = 2
  · have hg : gathered l = [l.atom.pred] := by simp [gathered, k12]
    obtain ⟨v', G', e1, e2⟩ := (Acc.nil 1 [.row T_api_Literal 17 [encLit l] (.own 0 true true)] T_string 1).app1 (live := [.row T_api_Literal 17 [encLit l] (.own 0 true true)]) (G := []) (T' := T_string) (bytes := 16) (encStr l.atom.pred) (.own 0 true true) (by simp [room])
    simp [encStr] at e1 e2
    by_cases k1 : l.kind = 1
    · simp [strata_Uses_20, strata_Uses_19, strata_Uses_2, strata_Uses_1, strata_Uses_18, strata_Uses_3, k1, chunk, e1, room]
      refine fin _ _ v' ?_ ?_
      · simp
      · rw [hg]; simpa [encStr] using e2
    · have k2 : l.kind = 2 := by omega
      simp [strata_Uses_20, strata_Uses_19, strata_Uses_2, strata_Uses_1, strata_Uses_0, strata_Uses_18, strata_Uses_3, k2, chunk, e1, room]
      refine fin _ _ v' ?_ ?_
      · simp
      · rw [hg]; simpa [encStr] using e2
  · have k1 : ¬ l.kind = 1 := by omega
    have k2 : ¬ l.kind = 2 := by omega
    by_cases k5 : l.kind = 5
    · have hg : gathered l = (l.path.map (·.label)).filter (· ≠ []) := by simp [gathered, k12, k5]
      simp [strata_Uses_20, strata_Uses_19, strata_Uses_2, strata_Uses_1, strata_Uses_0, strata_Uses_18, strata_Uses_17, strata_Uses_16, strata_Uses_15, strata_Uses_4, k5]
      refine dwp_loop' (fun n vs H => ∃ (i : Nat) (v : AV) (G : List AObj), vs = [v, .fs 2 (l.path.map encStep), .int .i64 l.path.length, .int .i64 i] ∧ i + n = l.path.length ∧
        H = AHeap.of (.row T_api_Literal 17 [encLit l] (.own 0 true true) :: G) ∧ Acc 1 (.row T_api_Literal 17 [encLit l] (.own 0 true true) :: G) T_string 1 v ((((l.path.take i).map (·.label)).filter (· ≠ [])).map encStr)) l.path.length ?_ ?_
      · exact kept_of (vs := [.nilslice, .fs 2 (l.path.map encStep), .int .i64 l.path.length, .int .i64 (0 : Nat)]) (by simp) ⟨0, _, [], rfl, by simp, rfl, by simp [Acc.nil]⟩
      · rintro K Q' n vs H' hK hQ' ⟨i, v, G, rfl, hi, rfl, hv⟩
        rcases Nat.lt_or_ge i l.path.length with hlt | hlt
        · have hw := wrap_nat1 (n := i) (by omega)
          have htake : ((l.path.take (i + 1)).map (·.label)).filter (· ≠ []) = ((l.path.take i).map (·.label)).filter (· ≠ []) ++ (if l.path[i].label = [] then [] else [l.path[i].label]) := by
            rw [List.take_succ_eq_append_getElem hlt]
            simp only [List.map_append, List.map_cons, List.map_nil, List.filter_append]
            congr 1
            by_cases hz : l.path[i].label = [] <;> simp [hz]
          by_cases hz : l.path[i].label = []
          · simp [strata_Uses_14, strata_Uses_13, strata_Uses_5, strata_Uses_12, strata_Uses_10, strata_Uses_6, strata_Uses_9, strata_Uses_8, strata_Uses_11, hlt, hz, hw]
            exact hK (n - 1) _ _ (by omega) ⟨i + 1, v, G ++ [.row T_api_Step 2 [encStep l.path[i]] (.own 0 true true)], rfl, by omega, rfl, by rw [htake, if_pos hz, List.append_nil]; exact hv.mono1 _⟩
          · have hlen : ((((l.path.take i).map (·.label)).filter (· ≠ [])).map encStr).length ≤ 1000 := by
              simp only [List.length_map]
              refine Nat.le_trans (List.length_filter_le _ _) ?_
              simp; omega
            obtain ⟨v', G', e1, e2⟩ := (hv.mono1 [.row T_api_Step 2 [encStep l.path[i]] (.own 0 true true)]).app1 (live := [.row T_api_Literal 17 [encLit l] (.own 0 true true)]) (T' := T_string) (bytes := 16) (encStr l.path[i].label) (.own 0 true true) (by simp only [room]; omega)
            simp [encStr] at e1
            simp [strata_Uses_14, strata_Uses_13, strata_Uses_5, strata_Uses_12, strata_Uses_10, strata_Uses_6, strata_Uses_9, strata_Uses_8, strata_Uses_7, strata_Uses_11, hlt, hz, hw, chunk, e1]
            refine hK (n - 1) _ _ (by omega) ⟨i + 1, v', G', rfl, by omega, rfl, ?_⟩
            rw [htake, if_neg hz, List.map_append]
            exact e2
        · have e : i = l.path.length := by omega
          subst e
          simp [strata_Uses_14, strata_Uses_13, strata_Uses_5]
          refine hQ' (.exit 1) _ _ ?_
          simp
          exact fin _ _ v (by simp) (by rw [hg]; simpa using hv)
    · have hg : gathered l = [] := by simp [gathered, k12, k5]
      simp [strata_Uses_20, strata_Uses_19, strata_Uses_2, strata_Uses_1, strata_Uses_0, strata_Uses_18, strata_Uses_17, strata_Uses_16, k1, k2, k5]
      exact fin0 _ (by simp) hg
end Go.Am.A
