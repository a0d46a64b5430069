/- What functions of the program compute, under the conditions that each statement names. -/
import Derived.Test.YtafedebfkdnpfaaLawC
namespace Go.Am.A
open Go Go.Proofs Go.Am

theorem namesL_sorted (p : LProg) : (namesL p).Pairwise fun a b => a < b := sortU_sorted _
theorem namesL_len {p : LProg} (hf : FewOk p) : (namesL p).length < 4611686018427387904 := by
  have h1 := sortU_length (namesG p)
  have h2 := take_flat_length hf p.rules.length
  rw [List.take_length] at h2
  simp only [namesL, namesG, List.length_cons] at h1 ⊢
  omega
theorem needsL_len {p : LProg} (hf : FewOk p) : (needsL p).length < 4611686018427387904 := by
  have h2 := needs_len hf p.rules.length fun r q => ((rankL (namesL p) r.head.pred : Int), (rankL (namesL p) q.2 : Int))
  rw [List.take_length] at h2
  have h1 := uniq_length ((needsG p).mergeSort fun x y => !(ltOf cmpP) y x)
  simp only [needsL, List.length_mergeSort] at h1 ⊢
  have h3 : (needsG p).length ≤ 1000001000 := h2
  omega

theorem namesG_head {p : LProg} {r : LRule} (hr : r ∈ p.rules) : r.head.pred ∈ namesL p := by
  rw [namesL, mem_sortU, namesG]
  exact List.mem_cons_of_mem _ (List.mem_flatMap.2 ⟨r, hr, List.mem_cons_self⟩)
theorem namesG_use {p : LProg} {r : LRule} (hr : r ∈ p.rules) {q : LLit × Str} (hq : q ∈ pairsL r.body) : q.2 ∈ namesL p := by
  rw [namesL, mem_sortU, namesG]
  exact List.mem_cons_of_mem _ (List.mem_flatMap.2 ⟨r, hr, List.mem_cons_of_mem _ (List.mem_map.2 ⟨q, hq, rfl⟩)⟩)
theorem namesG_query {p : LProg} : p.query.pred ∈ namesL p := by
  rw [namesL, mem_sortU, namesG]
  exact List.mem_cons_self
theorem mem_needsL {p : LProg} {t : Int × Int} : t ∈ needsL p ↔ ∃ r ∈ p.rules, ∃ q ∈ pairsL r.body, t = (atL (namesL p) r.head.pred, atL (namesL p) q.2) := by
  rw [needsL, mem_uniq, List.mem_mergeSort, needsG, List.mem_flatMap]
  constructor
  · rintro ⟨r, hr, hm⟩
    obtain ⟨q, hq, rfl⟩ := List.mem_map.1 hm
    exact ⟨r, hr, q, hq, by rw [atL_rank (namesL_sorted p) (namesG_head hr), atL_rank (namesL_sorted p) (namesG_use hr hq)]⟩
  · rintro ⟨r, hr, q, hq, rfl⟩
    exact ⟨r, hr, List.mem_map.2 ⟨q, hq, by rw [atL_rank (namesL_sorted p) (namesG_head hr), atL_rank (namesL_sorted p) (namesG_use hr hq)]⟩⟩
theorem needs_hit {p : LProg} {t : Int × Int} (h : t ∈ needsL p) : hitR (namesL p) t p.rules = true := by
  obtain ⟨r, hr, q, hq, rfl⟩ := mem_needsL.1 h
  exact List.any_eq_true.2 ⟨r, hr, List.any_eq_true.2 ⟨q, hq, by simp [hit]⟩⟩
theorem hit_needs {p : LProg} {r : LRule} (hr : r ∈ p.rules) {q : LLit × Str} (hq : q ∈ pairsL r.body) : ((needsL p).any fun t => hit (namesL p) t r q.2) = true :=
  List.any_eq_true.2 ⟨_, mem_needsL.2 ⟨r, hr, q, hq, rfl⟩, by simp [hit]⟩
theorem needsL_sorted (p : LProg) : (needsL p).Pairwise fun a b => a.1 < b.1 ∨ a.1 = b.1 ∧ a.2 < b.2 := by
  have h := uniq_sorted (R := fun a b : Int × Int => ltOf cmpP b a = false) (fun a b h1 h2 => totP a b h2 h1) (l := (needsG p).mergeSort fun x y => !(ltOf cmpP) y x) (by
    have := List.pairwise_mergeSort (le := fun x y => !(ltOf cmpP) y x) (fun a b c h1 h2 => by
      simp only [Bool.not_eq_true'] at *
      exact swoP.ntrans _ _ _ h2 h1) (fun a b => by
      simp only [Bool.or_eq_true, Bool.not_eq_true', nltP]; omega) (needsG p)
    exact this.imp fun h => by simpa using h)
  refine h.imp fun {a b} hab => ?_
  obtain ⟨h1, h2⟩ := hab
  rw [nltP] at h1
  rcases Classical.em (a.1 = b.1) with h3 | h3
  · rcases Classical.em (a.2 = b.2) with h4 | h4
    · exact absurd (Prod.ext h3 h4) h2
    · omega
  · omega

set_option maxHeartbeats 8000000 in
theorem law_names (hS : SortC Try.prog slices_Sort_string_id) (hS2 : SortPC Try.prog slices_SortFunc_sl_ar2_int_ar2_int_id) (hA : ∀ H, ACalls Try.prog law13_awake_id [] (fun u H' => H' = H ∧ u = .bool true) H) (p : LProg)  :
    ACalls Try.prog law13_StrataNames_id [.agg (encProg p)] (fun v _ => v = .bool true) AHeap.empty := by
  rw [of_empty]
  refine acalls law13_StrataNames_ok (by simp [law13_StrataNames]) ?_
  simp [law13_StrataNames, law13_StrataNames_107, law13_StrataNames_106, law13_StrataNames_3, law13_StrataNames_0]
  refine (hA _).mono ?_
  rintro u H' ⟨rfl, rfl⟩
  simp
  refine (lfew_pc p).use (by simp) ?_
  cases hfew : fewB p 10 8
  · simp [law13_StrataNames_2, law13_StrataNames_1]
    refine (hA _).mono ?_
    rintro u H' ⟨rfl, rfl⟩
    simp
  · have hf := FewOk.of hfew
    have fin : ∀ (fr : AFr) (H' : AHeap), look fr 2 = some (.bool true) → bodyQ [XRes.tmp 2] (fun v _ => v = .bool true) .ret fr H' := by
      intro fr H' h1
      simp [h1]
    generalize bodyQ [XRes.tmp 2] (fun v _ => v = .bool true) = Q at fin ⊢
    simp [law13_StrataNames_2, law13_StrataNames_105, law13_StrataNames_4, law13_StrataNames_104, law13_StrataNames_103, law13_StrataNames_15]
    refine (names_pc hS p hf).use (by simp) ?_
    simp [law13_StrataNames_2, law13_StrataNames_105, law13_StrataNames_4, law13_StrataNames_104, law13_StrataNames_103, law13_StrataNames_15, aStrs]
    have hns := namesL_sorted p
    have hnl := namesL_len hf
    have hndl := needsL_len hf
    have hM : LMem p (namesL p) [.row T_api_Program 3 [encProg p] (.own 0 true true), .row T_sl_string 1 [[aStrs (namesL p)]] (.own 0 true true)] := ⟨rfl, rfl⟩
    generalize hb0 : [AObj.row T_api_Program 3 [encProg p] (.own 0 true true), AObj.row T_sl_string 1 [[aStrs (namesL p)]] (.own 0 true true)] = base0 at hM
    have hb0' : [AObj.row T_api_Program 3 [encProg p] (.own 0 true true), AObj.row T_sl_string 1 [[.fs 1 ((namesL p).map encStr)]] (.own 0 true true)] = base0 := hb0
    rw [hb0']
    refine dwp_loop' (fun n vs H => ∃ i : Nat, vs = [.ptr 0 0 0, .ptr 1 0 0, atV, .int .i64 i] ∧ 1 ≤ i ∧ i + n = (namesL p).length + 1 ∧ H = AHeap.of base0) (namesL p).length ?_ ?_
    · exact kept_of (vs := [.ptr 0 0 0, .ptr 1 0 0, atV, .int .i64 (1 : Nat)]) (by simp) ⟨1, rfl, by omega, by omega, rfl⟩
    · rintro K1 Q1 n vs H hK1 hQ1 ⟨i, rfl, hi1, hi, rfl⟩
      have h2 := hM.2
      rw [aStrs] at h2
      rcases Nat.lt_or_ge i (namesL p).length with hlt | hlt
      · obtain ⟨i, rfl⟩ : ∃ j, i = j + 1 := ⟨i - 1, by omega⟩
        have hw1 := wrap_nat1 (n := i + 1) (by omega)
        have hw0 : IntKind.i64.wrap (i : Int) = i := by rw [wrap64] <;> omega
        have hlt' : (i : Int) + 1 < (namesL p).length := by omega
        have hlt2 : i < (namesL p).length := by omega
        have hp : (namesL p)[i] < (namesL p)[i + 1] := List.pairwise_iff_getElem.1 hns i (i + 1) hlt2 hlt (by omega)
        have hp0 : (0 : Int) ≤ (i : Int) + 1 := by omega
        have hp1 : ((i : Int) + 1).toNat = i + 1 := by omega
        simp [law13_StrataNames_14, law13_StrataNames_7, law13_StrataNames_5, law13_StrataNames_6, law13_StrataNames_13, law13_StrataNames_11, law13_StrataNames_8, law13_StrataNames_10, law13_StrataNames_12, h2, hlt', hw0, hlt2, hlt, hp0, hp1, encStr, bytesLess_eq, hp]
        refine hK1 (n - 1) _ _ (by omega) ⟨i + 2, ?_, by omega, by omega, rfl⟩
        have : ((i : Int) + 1 + 1) = ((i + 2 : Nat) : Int) := by omega
        rw [this, wrap64 (by omega) (by omega)]
      · have hlt' : ¬ (i : Int) < (namesL p).length := by omega
        simp [law13_StrataNames_14, law13_StrataNames_7, law13_StrataNames_5, law13_StrataNames_6, law13_StrataNames_13, h2, hlt']
        refine hQ1 (.exit 0) _ _ ?_
        simp [law13_StrataNames_102, law13_StrataNames_101, law13_StrataNames_100, hM.1]
        refine (needs_pc hS hS2 p hf).use (by simp) ?_
        simp [law13_StrataNames_58, aPairs]
        have hnd := needsL_sorted p
        have hh : ∀ i (h : i < (needsL p).length), hitR (namesL p) (needsL p)[i] p.rules = true := fun i h => needs_hit (List.getElem_mem h)
        have hmem : ∀ t, t ∈ needsL p ↔ t ∈ needsL p := fun _ => Iff.rfl
        refine dwp_loop' (fun n vs H => ∃ (i : Nat) (base : List AObj), vs = [.ptr 0 0 0, atV, aPairs (needsL p), .int .i64 i, .int .i64 (needsL p).length, .int .i64 i] ∧ i + n = (needsL p).length ∧ H = AHeap.of base ∧ LMem p (namesL p) base) (needsL p).length ?_ ?_
        · exact kept_of (vs := [.ptr 0 0 0, atV, aPairs (needsL p), .int .i64 (0 : Nat), .int .i64 (needsL p).length, .int .i64 (0 : Nat)]) (by simp [aPairs]) ⟨0, base0, rfl, by omega, rfl, hM⟩
        · rintro K2 Q2 n2 vs H hK2 hQ2 ⟨i, base, rfl, hi2, rfl, hm⟩
          rcases Nat.lt_or_ge i (needsL p).length with hlt | hlt
          · have hw1 := wrap_nat1 (n := i) (by omega)
            have tail : ∀ (fr : AFr), look fr 1 = some (.ptr 0 0 0) → look fr 4 = some atV → look fr 6 = some (aPairs (needsL p)) → look fr 7 = some (.int .i64 i) → look fr 8 = some (.int .i64 i) → look fr 9 = some (.bool false) → look fr 52 = some (.int .i64 (needsL p).length) → look fr 53 = some (.int .i64 i) →
                dwp Try.prog law13_StrataNames_46 (thenQ (dwp Try.prog (.keep [1, 4, 6, 7, 9, 52, 53] law13_StrataNames_49) (blockQ 3 (thenQ (dwp Try.prog (.keep [1, 4, 6, 7, 52, 53] law13_StrataNames_54) (thenQ (kept [1, 4, 6, 7, 52, 53] K2) Q2)) (thenQ (kept [1, 4, 6, 7, 52, 53] K2) Q2))))
                  (blockQ 3 (thenQ (dwp Try.prog (.keep [1, 4, 6, 7, 52, 53] law13_StrataNames_54) (thenQ (kept [1, 4, 6, 7, 52, 53] K2) Q2)) (thenQ (kept [1, 4, 6, 7, 52, 53] K2) Q2)))) fr (AHeap.of base) := by
              intro fr l1 l4 l6 l7 l8 l9 l52 l53
              refine some_loop hS hf hnl hlt hm l1 l4 l6 l7 l8 l9 l52 l53 ?_
              intro fr' base' hm' m1 m4 m6 m7 m9 m52 m53
              rw [hh i hlt] at m9
              simp [law13_StrataNames_49, law13_StrataNames_48, law13_StrataNames_47, law13_StrataNames_54, m1, m4, m6, m7, m9, m52, m53, hw1]
              exact hK2 (n2 - 1) _ _ (by omega) ⟨i + 1, base', rfl, by omega, rfl, hm'⟩
            rcases Nat.eq_zero_or_pos i with hz | hz
            · subst hz
              simp [law13_StrataNames_57, law13_StrataNames_16, law13_StrataNames_56, law13_StrataNames_55, law13_StrataNames_53, law13_StrataNames_52, law13_StrataNames_20, law13_StrataNames_17, law13_StrataNames_19, law13_StrataNames_51, law13_StrataNames_50, hlt]
              refine tail _ ?_ ?_ ?_ ?_ ?_ ?_ ?_ ?_ <;> simp
            · obtain ⟨i, rfl⟩ : ∃ j, i = j + 1 := ⟨i - 1, by omega⟩
              have hw0 : IntKind.i64.wrap (i : Int) = i := by rw [wrap64] <;> omega
              have hlt' : (i : Int) + 1 < (needsL p).length := by omega
              have hlt2 : i < (needsL p).length := by omega
              have hp := List.pairwise_iff_getElem.1 hnd i (i + 1) hlt2 hlt (by omega)
              have hp0 : (0 : Int) ≤ (i : Int) + 1 := by omega
              have hp1 : ((i : Int) + 1).toNat = i + 1 := by omega
              have hp2 : (0 : Int) < (i : Int) + 1 := by omega
              have c1 : ¬ (needsL p)[i + 1].1 < (needsL p)[i].1 := by omega
              cases hc : ((needsL p)[i + 1].1 == (needsL p)[i].1)
              · simp [law13_StrataNames_57, law13_StrataNames_16, law13_StrataNames_56, law13_StrataNames_55, law13_StrataNames_53, law13_StrataNames_52, law13_StrataNames_20, law13_StrataNames_17, law13_StrataNames_19, law13_StrataNames_51, law13_StrataNames_50, hlt', hlt, hlt2, hw0, hp0, hp1, hp2, encPair, c1, hc, aPairs]
                refine tail _ ?_ ?_ ?_ ?_ ?_ ?_ ?_ ?_ <;> simp [aPairs]
              · have c2 : ¬ (needsL p)[i + 1].2 ≤ (needsL p)[i].2 := by
                  have := eq_of_beq hc
                  omega
                simp [law13_StrataNames_57, law13_StrataNames_16, law13_StrataNames_56, law13_StrataNames_55, law13_StrataNames_53, law13_StrataNames_52, law13_StrataNames_20, law13_StrataNames_17, law13_StrataNames_19, law13_StrataNames_51, law13_StrataNames_50, hlt', hlt, hlt2, hw0, hp0, hp1, hp2, encPair, c1, hc, c2, aPairs]
                refine tail _ ?_ ?_ ?_ ?_ ?_ ?_ ?_ ?_ <;> simp [aPairs]
          · have e : i = (needsL p).length := by omega
            subst e
            simp [law13_StrataNames_57, law13_StrataNames_16, law13_StrataNames_56]
            refine hQ2 (.exit 2) _ _ ?_
            simp [law13_StrataNames_99, law13_StrataNames_96, law13_StrataNames_59, hm.1, encProg]
            refine dwp_loop' (fun n vs H => ∃ (k : Nat) (base : List AObj), vs = [.ptr 0 0 0, atV, aPairs (needsL p), .int .i64 (needsL p).length, .int .i64 p.rules.length, .int .i64 k] ∧ k + n = p.rules.length ∧ H = AHeap.of base ∧ LMem p (namesL p) base) p.rules.length ?_ ?_
            · exact kept_of (vs := [.ptr 0 0 0, atV, aPairs (needsL p), .int .i64 (needsL p).length, .int .i64 p.rules.length, .int .i64 (0 : Nat)]) (by simp) ⟨0, base, rfl, by omega, rfl, hm⟩
            · rintro K3 Q3 n3 vs H hK3 hQ3 ⟨k, base, rfl, hk, rfl, hm⟩
              rcases Nat.lt_or_ge k p.rules.length with hkl | hkl
              · have hw1 := wrap_nat1 (n := k) (by have := hf.rules; omega)
                have hmem : p.rules[k] ∈ p.rules := List.getElem_mem hkl
                have hbl := hf.body _ hmem
                have hpl := hf.path _ hmem
                simp [law13_StrataNames_95, law13_StrataNames_60, law13_StrataNames_94, law13_StrataNames_93, law13_StrataNames_91, law13_StrataNames_90, law13_StrataNames_61, hkl, hm.1, encProg, encRule]
                refine dwp_loop' (fun n vs H => ∃ (j : Nat) (base : List AObj), vs = [.ptr 0 0 0, atV, aPairs (needsL p), .int .i64 (needsL p).length, .int .i64 k, .int .i64 p.rules.length, .int .i64 k, .fs 17 (p.rules[k].body.map encLit), .int .i64 p.rules[k].body.length, .int .i64 j] ∧ j + n = p.rules[k].body.length ∧ H = AHeap.of base ∧ LMem p (namesL p) base) p.rules[k].body.length ?_ ?_
                · exact kept_of (vs := [.ptr 0 0 0, atV, aPairs (needsL p), .int .i64 (needsL p).length, .int .i64 k, .int .i64 p.rules.length, .int .i64 k, .fs 17 (p.rules[k].body.map encLit), .int .i64 p.rules[k].body.length, .int .i64 (0 : Nat)]) (by simp) ⟨0, base, rfl, by omega, rfl, hm⟩
                · rintro K4 Q4 n4 vs H hK4 hQ4 ⟨j, base, rfl, hj, rfl, hm⟩
                  rcases Nat.lt_or_ge j p.rules[k].body.length with hjl | hjl
                  · have hw2 := wrap_nat1 (n := j) (by omega)
                    have hmem2 : p.rules[k].body[j] ∈ p.rules[k].body := List.getElem_mem hjl
                    have hul := usesL_length _ (hpl _ hmem2)
                    simp [law13_StrataNames_89, law13_StrataNames_62, law13_StrataNames_88, law13_StrataNames_87, law13_StrataNames_85, law13_StrataNames_63, law13_StrataNames_84, law13_StrataNames_64, hjl]
                    refine (uses_pc hS p.rules[k].body[j] (hpl _ hmem2)).use (by simp) ?_
                    simp [aStrs]
                    refine dwp_loop' (fun n vs H => ∃ (m : Nat) (base : List AObj), vs = [.ptr 0 0 0, atV, aPairs (needsL p), .int .i64 (needsL p).length, .int .i64 k, .int .i64 p.rules.length, .int .i64 k, .fs 17 (p.rules[k].body.map encLit), .int .i64 p.rules[k].body.length, .int .i64 j, .fs 1 ((usesL p.rules[k].body[j]).map encStr), .int .i64 (usesL p.rules[k].body[j]).length, .int .i64 m] ∧
                      m + n = (usesL p.rules[k].body[j]).length ∧ H = AHeap.of base ∧ LMem p (namesL p) base) (usesL p.rules[k].body[j]).length ?_ ?_
                    · exact kept_of (vs := [.ptr 0 0 0, atV, aPairs (needsL p), .int .i64 (needsL p).length, .int .i64 k, .int .i64 p.rules.length, .int .i64 k, .fs 17 (p.rules[k].body.map encLit), .int .i64 p.rules[k].body.length, .int .i64 j, .fs 1 ((usesL p.rules[k].body[j]).map encStr), .int .i64 (usesL p.rules[k].body[j]).length, .int .i64 (0 : Nat)]) (by simp) ⟨0, _, rfl, by omega, rfl, hm.mono _⟩
                    · rintro K5 Q5 n5 vs H hK5 hQ5 ⟨m, base, rfl, hmm, rfl, hm⟩
                      rcases Nat.lt_or_ge m (usesL p.rules[k].body[j]).length with hml | hml
                      · have hw3 := wrap_nat1 (n := m) (by omega)
                        have hin : (p.rules[k].body[j], (usesL p.rules[k].body[j])[m]) ∈ pairsL p.rules[k].body :=
                          List.mem_flatMap.2 ⟨_, hmem2, List.mem_map.2 ⟨_, List.getElem_mem hml, rfl⟩⟩
                        have hhit := hit_needs hmem hin
                        simp [law13_StrataNames_83, law13_StrataNames_65, law13_StrataNames_82, law13_StrataNames_81, law13_StrataNames_79, law13_StrataNames_78, law13_StrataNames_77, hml, encStr]
                        refine need_loop hnl hndl hkl (s := (usesL p.rules[k].body[j])[m]) (v7 := .int .i64 (needsL p).length) (v162 := .int .i64 p.rules.length) (v163 := .int .i64 k) (v171 := .fs 17 (p.rules[k].body.map encLit)) (v172 := .int .i64 p.rules[k].body.length) (v173 := .int .i64 j) (v178 := .fs 1 ((usesL p.rules[k].body[j]).map encStr)) (v179 := .int .i64 (usesL p.rules[k].body[j]).length) (v180 := .int .i64 m) hm (by simp) (by simp) (by simp) (by simp) (by simp) (by simp) (by simp) (by simp) (by simp) (by simp) (by simp) (by simp) (by simp) (by simp) (by simp) ?_
                        intro fr' base' hm' m1 m4 m6 m7 m15 m20 m162 m163 m171 m172 m173 m178 m179 m180
                        simp only at hhit
                        rw [hhit] at m20
                        simp [law13_StrataNames_76, law13_StrataNames_75, law13_StrataNames_80, m1, m4, m6, m7, m15, m20, m162, m163, m171, m172, m173, m178, m179, m180, hw3]
                        exact hK5 (n5 - 1) _ _ (by omega) ⟨m + 1, base', rfl, by omega, rfl, hm'⟩
                      · have e : m = (usesL p.rules[k].body[j]).length := by omega
                        subst e
                        simp [law13_StrataNames_83, law13_StrataNames_65, law13_StrataNames_82]
                        refine hQ5 (.exit 14) _ _ ?_
                        simp [law13_StrataNames_86, hw2]
                        exact hK4 (n4 - 1) _ _ (by omega) ⟨j + 1, base, rfl, by omega, rfl, hm⟩
                  · have e : j = p.rules[k].body.length := by omega
                    subst e
                    simp [law13_StrataNames_89, law13_StrataNames_62, law13_StrataNames_88]
                    refine hQ4 (.exit 12) _ _ ?_
                    simp [law13_StrataNames_92, hw1]
                    exact hK3 (n3 - 1) _ _ (by omega) ⟨k + 1, base, rfl, by omega, rfl, hm⟩
              · have e : k = p.rules.length := by omega
                subst e
                simp [law13_StrataNames_95, law13_StrataNames_60, law13_StrataNames_94]
                refine hQ3 (.exit 10) _ _ ?_
                have hat : (0 : Int) ≤ atL (namesL p) p.query.pred := by rw [atL_rank hns namesG_query]; omega
                simp [law13_StrataNames_98, law13_StrataNames_97, hm.1, encProg, encAtom, aPairs]
                refine at_call hm.2 hnl ?_
                simp [hat]
                exact fin _ _ (by simp)
end Go.Am.A
