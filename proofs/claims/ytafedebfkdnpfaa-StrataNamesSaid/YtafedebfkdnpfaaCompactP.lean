/- What functions of the program compute, under the conditions that each statement names. -/
import Derived.Test.YtafedebfkdnpfaaAmY
import Derived.Test.YtafedebfkdnpfaaTx
namespace Go.Am.A
open Go Go.Proofs Go.Am


set_option maxHeartbeats 4000000 in
/-- slices.Compact of pairs: in place -/
theorem compact_pair {base : List AObj} {b d : Nat} {ss : List (Int × Int)} (hb : base[b]? = some (.row T_ar2_int 2 (ss.map encPair) (.own d true true))) (hn : ss.length < 4611686018427387904) :
    ACalls Try.prog slices_Compact_sl_ar2_int_ar2_int_id [.slice 2 b 0 ss.length ss.length] (fun v H' => ∃ tail c, v = .slice 2 b 0 (uniq ss).length c ∧ H' = AHeap.of (base.set b (.row T_ar2_int 2 ((uniq ss).map encPair ++ tail) (.own d true true)))) (AHeap.of base) := by
  obtain ⟨hbl, hbv⟩ := List.getElem?_eq_some_iff.1 hb
  refine acalls slices_Compact_sl_ar2_int_ar2_int_ok (by simp [slices_Compact_sl_ar2_int_ar2_int]) ?_
  have fin : ∀ (fr : AFr) (H' : AHeap) (tail : List (List AV)) (c : Nat), look fr 2 = some (.slice 2 b 0 (uniq ss).length c) → H' = AHeap.of (base.set b (.row T_ar2_int 2 ((uniq ss).map encPair ++ tail) (.own d true true))) →
      bodyQ [.tmp 2] (fun v H' => ∃ tail c, v = .slice 2 b 0 (uniq ss).length c ∧ H' = AHeap.of (base.set b (.row T_ar2_int 2 ((uniq ss).map encPair ++ tail) (.own d true true)))) .ret fr H' := by
    intro fr H' tail c h1 h2
    simp [h1, h2]
    exact ⟨tail, rfl⟩
  show dwp Try.prog slices_Compact_sl_ar2_int_ar2_int.body (bodyQ [.tmp 2] _) _ _
  generalize bodyQ [.tmp 2] (fun v H' => ∃ tail c, v = .slice 2 b 0 (uniq ss).length c ∧ H' = AHeap.of (base.set b (.row T_ar2_int 2 ((uniq ss).map encPair ++ tail) (.own d true true)))) = Q at fin
  have same : base.set b (.row T_ar2_int 2 (ss.map encPair ++ []) (.own d true true)) = base := by
    rw [List.append_nil]
    obtain ⟨_, h⟩ := List.getElem?_eq_some_iff.1 hb
    rw [← h, List.set_getElem_self]
  rcases Nat.lt_or_ge ss.length 2 with h2 | h2
  · have h2' : (ss.length : Int) < 2 := by omega
    have hu : uniq ss = ss := by
      match ss, h2 with
      | [], _ => rfl
      | [a], _ => exact uniq_one a
    simp [slices_Compact_sl_ar2_int_ar2_int, slices_Compact_sl_ar2_int_ar2_int_36, slices_Compact_sl_ar2_int_ar2_int_35, slices_Compact_sl_ar2_int_ar2_int_2, slices_Compact_sl_ar2_int_ar2_int_1, slices_Compact_sl_ar2_int_ar2_int_0, h2']
    exact fin _ _ [] ss.length (by rw [hu]; simp) (by rw [hu, same])
  have h2' : ¬ (ss.length : Int) < 2 := by omega
  simp [slices_Compact_sl_ar2_int_ar2_int, slices_Compact_sl_ar2_int_ar2_int_36, slices_Compact_sl_ar2_int_ar2_int_35, slices_Compact_sl_ar2_int_ar2_int_2, slices_Compact_sl_ar2_int_ar2_int_1, slices_Compact_sl_ar2_int_ar2_int_0, slices_Compact_sl_ar2_int_ar2_int_34, slices_Compact_sl_ar2_int_ar2_int_32, h2']
  -- the first repeat
  refine dwp_loop' (fun n vs H => ∃ k : Nat, vs = [.slice 2 b 0 ss.length ss.length, .int .i64 k] ∧ k + n = ss.length ∧ 1 ≤ k ∧ H = AHeap.of base ∧ uniq (ss.take k) = ss.take k) (ss.length - 1) ?_ ?_
  · exact kept_of (vs := [.slice 2 b 0 ss.length ss.length, .int .i64 (1 : Nat)]) (by simp) ⟨1, rfl, by omega, by omega, rfl, by
      match ss, h2 with
      | a :: l, _ => simp [uniq_one]⟩
  · rintro K Q' n vs H' hK hQ' ⟨k, rfl, hk, hk1, rfl, hu⟩
    rcases Nat.lt_or_ge k ss.length with hlt | hlt
    · obtain ⟨k, rfl⟩ : ∃ j, k = j + 1 := ⟨k - 1, by omega⟩
      have e1 : IntKind.i64.wrap (k : Int) = (k : Int) := by rw [wrap64] <;> omega
      have e2 : IntKind.i64.wrap ((k : Int) + 1 + 1) = (k : Int) + 2 := by rw [wrap64] <;> omega
      have c1 : (k : Int) + 1 < ss.length := by omega
      have c2 : (k : Int) < ss.length := by omega
      have c3 : k < ss.length := by omega
      have c5 : (k : Int) + 1 ≤ ss.length := by omega
      have c6 : k + 1 ≤ ss.length := by omega
      have t0 : ((k : Int) + 1).toNat = k + 1 := by omega
      have ht := uniq_take ss (m := k) hlt
      have p0 : (0 : Int) ≤ (k : Int) + 1 := by omega
      by_cases he : ss[k + 1] = ss[k]
      · -- a repeat
        have he1 : ss[k + 1].1 = ss[k].1 := by rw [he]
        have he2 : ss[k + 1].2 = ss[k].2 := by rw [he]
        simp [slices_Compact_sl_ar2_int_ar2_int_31, slices_Compact_sl_ar2_int_ar2_int_5, slices_Compact_sl_ar2_int_ar2_int_3, slices_Compact_sl_ar2_int_ar2_int_4, slices_Compact_sl_ar2_int_ar2_int_30, slices_Compact_sl_ar2_int_ar2_int_28, slices_Compact_sl_ar2_int_ar2_int_6, slices_Compact_sl_ar2_int_ar2_int_27, slices_Compact_sl_ar2_int_ar2_int_26, slices_Compact_sl_ar2_int_ar2_int_7, slices_Compact_sl_ar2_int_ar2_int_25, slices_Compact_sl_ar2_int_ar2_int_20, e1, c1, c2, c3, c5, c6, hlt, t0, hb, hbv, encPair, he1, he2, p0]
        rw [if_pos he] at ht
        refine dwp_loop' (fun n vs H => ∃ (q m : Nat) (es : List (List AV)), vs = [.slice 2 b 0 ss.length ss.length, .int .i64 q, .slice 2 b (k + 1) (ss.length - (k + 1)) (ss.length - (k + 1)), .int .i64 m] ∧
          k + 1 + m + n = ss.length ∧ 1 ≤ m ∧ q < k + 1 + m ∧ H = AHeap.of (base.set b (.row T_ar2_int 2 es (.own d true true))) ∧ es.length = ss.length ∧ q = (uniq (ss.take (k + 1 + m))).length ∧ es.take q = (uniq (ss.take (k + 1 + m))).map encPair ∧
          (∀ j, k + m ≤ j → es[j]? = (ss[j]?).map encPair) ∧ ∀ j (h : j < es.length), ∃ a b, es[j] = [a, b]) (ss.length - (k + 1 + 1)) ?_ ?_
        · refine kept_of (vs := [.slice 2 b 0 ss.length ss.length, .int .i64 (k + 1 : Nat), .slice 2 b (k + 1) (ss.length - (k + 1)) (ss.length - (k + 1)), .int .i64 (1 : Nat)]) (by simp) ⟨k + 1, 1, ss.map encPair, rfl, by omega, by omega, by omega, ?_, by simp, ?_, ?_, fun j _ => by simp, fun j h => ⟨.int .i64 (ss[j]'(by simpa using h)).1, .int .i64 (ss[j]'(by simpa using h)).2, by simp [encPair]⟩⟩
          · rw [← same]; simp
          · rw [ht, hu]; simp; omega
          · rw [ht, hu, List.map_take]
        · rintro K2 Q2 n2 vs H2 hK2 hQ2 ⟨q, m, es, rfl, hm, hm1, hq, rfl, hel, hqe, htk, hrest, hone⟩
          rcases Nat.lt_or_ge (k + 1 + m) ss.length with hl2 | hl2
          · obtain ⟨m, rfl⟩ : ∃ j, m = j + 1 := ⟨m - 1, by omega⟩
            have d1 : IntKind.i64.wrap (m : Int) = (m : Int) := by rw [wrap64] <;> omega
            have d2 : IntKind.i64.wrap ((m : Int) + 1 + 1) = ((m + 2 : Nat) : Int) := by rw [wrap64] <;> omega
            have d3 : IntKind.i64.wrap ((q : Int) + 1) = ((q + 1 : Nat) : Int) := by rw [wrap64] <;> omega
            have f1 : (m : Int) + 1 < ((ss.length - (k + 1) : Nat) : Int) := by omega
            have f2 : (m : Int) < ((ss.length - (k + 1) : Nat) : Int) := by omega
            have f3 : (q : Int) < ss.length := by omega
            have f4 : q < es.length := by omega
            have f5 : (0 : Int) ≤ (m : Int) + 1 := by omega
            have f6 : ((m : Int) + 1).toNat = m + 1 := by omega
            have r1 : es[k + 1 + (m + 1)]? = some (encPair ss[k + 1 + (m + 1)]) := by rw [hrest _ (by omega), List.getElem?_eq_getElem hl2]; rfl
            have r2 : es[k + 1 + m]? = some (encPair ss[k + 1 + m]) := by rw [hrest _ (by omega), List.getElem?_eq_getElem (by omega)]; rfl
            have ht2 := uniq_take ss (m := k + 1 + m) hl2
            have hq1 : q + 1 ≤ es.length := by omega
            obtain ⟨u, u', hu2⟩ := hone q f4
            by_cases hee : ss[k + 1 + (m + 1)] = ss[k + 1 + m]
            · have hee1 : ss[k + 1 + (m + 1)].1 = ss[k + 1 + m].1 := by rw [hee]
              have hee2 : ss[k + 1 + (m + 1)].2 = ss[k + 1 + m].2 := by rw [hee]
              have ht3 : uniq (ss.take (k + 1 + (m + 2))) = uniq (ss.take (k + 1 + (m + 1))) := ht2.trans (if_pos hee)
              simp [slices_Compact_sl_ar2_int_ar2_int_19, slices_Compact_sl_ar2_int_ar2_int_10, slices_Compact_sl_ar2_int_ar2_int_8, slices_Compact_sl_ar2_int_ar2_int_9, slices_Compact_sl_ar2_int_ar2_int_18, slices_Compact_sl_ar2_int_ar2_int_16, slices_Compact_sl_ar2_int_ar2_int_11, slices_Compact_sl_ar2_int_ar2_int_15, slices_Compact_sl_ar2_int_ar2_int_17, d1, d2, f1, f2, f5, f6, hbl, r1, r2, encPair, hee1, hee2]
              refine hK2 (n2 - 1) _ _ (by omega) ⟨q, m + 2, es, rfl, by omega, by omega, by omega, rfl, hel, by rw [ht3]; exact hqe, by rw [ht3]; exact htk, fun j hj => hrest j (by omega), hone⟩
            · have hee' : ((ss[k + 1 + (m + 1)].1 == ss[k + 1 + m].1) && (ss[k + 1 + (m + 1)].2 == ss[k + 1 + m].2)) = false := by
                rw [Bool.eq_false_iff]; intro h; simp at h; exact hee (Prod.ext h.1 h.2)
              have ht3 : uniq (ss.take (k + 1 + (m + 2))) = uniq (ss.take (k + 1 + (m + 1))) ++ [ss[k + 1 + (m + 1)]] := ht2.trans (if_neg hee)
              simp [slices_Compact_sl_ar2_int_ar2_int_19, slices_Compact_sl_ar2_int_ar2_int_10, slices_Compact_sl_ar2_int_ar2_int_8, slices_Compact_sl_ar2_int_ar2_int_9, slices_Compact_sl_ar2_int_ar2_int_18, slices_Compact_sl_ar2_int_ar2_int_16, slices_Compact_sl_ar2_int_ar2_int_11, slices_Compact_sl_ar2_int_ar2_int_15, slices_Compact_sl_ar2_int_ar2_int_17, slices_Compact_sl_ar2_int_ar2_int_14, slices_Compact_sl_ar2_int_ar2_int_12, slices_Compact_sl_ar2_int_ar2_int_13, d1, d2, d3, f1, f2, f3, f4, f5, f6, hbl, r1, r2, encPair, hee', hq1, hu2]
              have hset : es.take q ++ [AV.int IntKind.i64 ss[k + 1 + (m + 1)].fst, AV.int IntKind.i64 ss[k + 1 + (m + 1)].snd] :: es.drop (q + 1) = es.set q (encPair ss[k + 1 + (m + 1)]) := by rw [List.set_eq_take_append_cons_drop, if_pos f4]; rfl
              rw [hset]
              refine hK2 (n2 - 1) _ _ (by omega) ⟨q + 1, m + 2, es.set q (encPair ss[k + 1 + (m + 1)]), rfl, by omega, by omega, by omega, rfl, by simpa using hel, by rw [ht3, List.length_append, ← hqe]; rfl, ?_, ?_, ?_⟩
              · rw [ht3, List.map_append, ← htk, List.take_succ_eq_append_getElem (by simpa using f4), List.take_set_of_le (Nat.le_refl q)]
                simp [encPair]
              · intro j hj
                rw [List.getElem?_set_ne (by omega)]
                exact hrest j (by omega)
              · intro j hj
                rw [List.getElem_set]
                split
                · exact ⟨_, _, rfl⟩
                · exact hone j (by simpa using hj)
          · have e : k + 1 + m = ss.length := by omega
            rw [e, List.take_length] at hqe htk
            have f1 : ¬ (m : Int) < ((ss.length - (k + 1) : Nat) : Int) := by omega
            have f2 : (q : Int) ≤ ss.length := by omega
            have f3 : q ≤ ss.length := by omega
            simp [slices_Compact_sl_ar2_int_ar2_int_19, slices_Compact_sl_ar2_int_ar2_int_10, slices_Compact_sl_ar2_int_ar2_int_8, slices_Compact_sl_ar2_int_ar2_int_9, f1]
            refine hQ2 (.exit 2) _ _ ?_
            have hq0 : ¬ ss.length - q = 0 := by omega
            have hdrop : es.drop (q + (ss.length - q)) = [] := by rw [List.drop_eq_nil_iff]; omega
            have hle : ss.length ≤ es.length := by omega
            simp [slices_Compact_sl_ar2_int_ar2_int_24, slices_Compact_sl_ar2_int_ar2_int_21, slices_Compact_sl_ar2_int_ar2_int_23, slices_Compact_sl_ar2_int_ar2_int_22, f2, f3, hq0, hbl, hle]
            refine hQ' .ret _ _ (fin _ _ (List.replicate (ss.length - q) [AV.int .i64 0, AV.int .i64 0] ++ List.drop ss.length es) ss.length ?_ ?_)
            · simp [← hqe]
            · rw [htk]
      · have he' : ((ss[k + 1].1 == ss[k].1) && (ss[k + 1].2 == ss[k].2)) = false := by
          rw [Bool.eq_false_iff]; intro h; simp at h; exact he (Prod.ext h.1 h.2)
        simp [slices_Compact_sl_ar2_int_ar2_int_31, slices_Compact_sl_ar2_int_ar2_int_5, slices_Compact_sl_ar2_int_ar2_int_3, slices_Compact_sl_ar2_int_ar2_int_4, slices_Compact_sl_ar2_int_ar2_int_30, slices_Compact_sl_ar2_int_ar2_int_28, slices_Compact_sl_ar2_int_ar2_int_6, slices_Compact_sl_ar2_int_ar2_int_27, slices_Compact_sl_ar2_int_ar2_int_29, e1, c1, c2, c3, hlt, t0, hb, hbv, encPair, he', p0, e2]
        refine hK (n - 1) _ _ (by omega) ⟨k + 2, by simp, by omega, by omega, rfl, ?_⟩
        rw [ht, if_neg he, hu, ← List.take_succ_eq_append_getElem hlt]
    · have e : k = ss.length := by omega
      subst e
      simp [slices_Compact_sl_ar2_int_ar2_int_31, slices_Compact_sl_ar2_int_ar2_int_5, slices_Compact_sl_ar2_int_ar2_int_3, slices_Compact_sl_ar2_int_ar2_int_4, slices_Compact_sl_ar2_int_ar2_int_30]
      refine hQ' (.exit 0) _ _ ?_
      simp [slices_Compact_sl_ar2_int_ar2_int_33]
      rw [List.take_length] at hu
      exact fin _ _ [] ss.length (by simp [hu]) (by rw [hu, same])
end Go.Am.A
