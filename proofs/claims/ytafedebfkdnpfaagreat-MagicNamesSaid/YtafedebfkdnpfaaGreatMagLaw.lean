/- What functions of the program compute, under the conditions that each statement names. -/
import Derived.Test.YtafedebfkdnpfaaGreatMag
namespace Go.Am.Z
open Go Go.Proofs Go.Am

/-- nothing but b and f -/
def plainB (s : Str) : Bool := s.all fun c => c == 98 || c == 102
theorem plain_no {s : Str} (h : plainB s = true) : (95 : UInt8) ∉ s := by
  intro hm
  have := List.all_eq_true.1 h 95 hm
  revert this; decide
theorem cut_eq : ∀ {x y p q : Str}, (95 : UInt8) ∉ x → (95 : UInt8) ∉ y → x ++ 95 :: p = y ++ 95 :: q → x = y ∧ p = q
  | [], [], p, q, _, _, h => by simpa using h
  | [], b :: y, p, q, _, hy, h => by
    simp only [List.nil_append, List.cons_append, List.cons.injEq] at h
    exact absurd (by rw [← h.1]; exact List.mem_cons_self) hy
  | a :: x, [], p, q, hx, _, h => by
    simp only [List.nil_append, List.cons_append, List.cons.injEq] at h
    exact absurd (by rw [h.1]; exact List.mem_cons_self) hx
  | a :: x, b :: y, p, q, hx, hy, h => by
    simp only [List.cons_append, List.cons.injEq] at h
    obtain ⟨rfl, h⟩ := h
    obtain ⟨rfl, rfl⟩ := cut_eq (fun h => hx (List.mem_cons_of_mem _ h)) (fun h => hy (List.mem_cons_of_mem _ h)) h
    exact ⟨rfl, rfl⟩
theorem asked_inj {pre p q x y : Str} (hx : plainB x = true) (hy : plainB y = true) : (askedL pre p x == askedL pre q y) = (p == q && x == y) := by
  rw [Bool.eq_iff_iff]
  simp only [beq_iff_eq, Bool.and_eq_true, askedL, List.append_assoc, List.append_cancel_left_eq]
  constructor
  · intro h
    obtain ⟨rfl, rfl⟩ := cut_eq (plain_no hx) (plain_no hy) (by simpa using h)
    exact ⟨rfl, rfl⟩
  · rintro ⟨rfl, rfl⟩; rfl

set_option maxHeartbeats 4000000 in
theorem law_mnames (hA : ∀ H, ACalls Tryz.prog law17_awake_id [] (fun u H' => H' = H ∧ u = .bool true) H) (pre dp dt ep et : Str) (a : LAtom)
    (h1 : pre.length ≤ reachBytes) (h2 : dp.length ≤ reachBytes) (h3 : dt.length ≤ reachBytes) (h4 : ep.length ≤ reachBytes) (h5 : et.length ≤ reachBytes) (h6 : a.args.length ≤ reachBytes) :
    ACalls Tryz.prog law17_MagicNames_id [.str pre, .agg [.str dp, .str dt], .agg [.str ep, .str et], .agg (encAtom a)] (fun v _ => v = .bool true) AHeap.empty := by
  rw [of_empty]
  simp only [reachBytes] at h1 h2 h3 h4 h5 h6
  refine acalls law17_MagicNames_ok (by simp [law17_MagicNames]) ?_
  have w1 : IntKind.i64.wrap ((dt.length : Int) + et.length) = ((dt.length + et.length : Nat) : Int) := by rw [wrap64] <;> omega
  have w2 : IntKind.i64.wrap ((dp.length : Int) + ep.length) = ((dp.length + ep.length : Nat) : Int) := by rw [wrap64] <;> omega
  simp [law17_MagicNames, law17_MagicNames_49, law17_MagicNames_0, law17_MagicNames_48, law17_MagicNames_4, law17_MagicNames_1]
  refine (hA _).mono ?_
  rintro u H' ⟨rfl, rfl⟩
  have early : ∀ (fr : AFr) (H : AHeap), look fr 49 = some (.bool true) → dwp Tryz.prog law17_MagicNames_3 (thenQ (dwp Tryz.prog (.keep [0, 5, 6, 7] law17_MagicNames_47) (bodyQ [.tmp 8] fun v _ => v = .bool true)) (bodyQ [.tmp 8] fun v _ => v = .bool true)) fr H := by
    intro fr H hb
    simp [law17_MagicNames_3, law17_MagicNames_2, hb]
    refine (hA _).mono ?_
    rintro u H' ⟨rfl, rfl⟩
    simp
  rcases Nat.lt_or_ge 50 pre.length with g1 | g1
  · have g1' : (50 : Int) < pre.length := by omega
    simp [g1', encAtom]
    exact early _ _ (by simp)
  have g1' : ¬ (50 : Int) < pre.length := by omega
  rcases Nat.lt_or_ge 50 (dt.length + et.length) with g2 | g2
  · have g2' : (50 : Int) < (dt.length + et.length : Nat) := by omega
    simp [-Int.natCast_add, g1', w1, g2', encAtom]
    exact early _ _ (by simp)
  have g2' : ¬ (50 : Int) < (dt.length + et.length : Nat) := by omega
  rcases Nat.lt_or_ge 100 (dp.length + ep.length) with g3 | g3
  · have g3' : (100 : Int) < (dp.length + ep.length : Nat) := by omega
    simp [-Int.natCast_add, g1', w1, g2', w2, g3', encAtom]
    exact early _ _ (by simp)
  have g3' : ¬ (100 : Int) < (dp.length + ep.length : Nat) := by omega
  rcases Nat.lt_or_ge 20 a.args.length with g4 | g4
  · have g4' : (20 : Int) < a.args.length := by omega
    simp [-Int.natCast_add, g1', w1, g2', w2, g3', g4', encAtom]
    exact early _ _ (by simp)
  have g4' : ¬ (20 : Int) < a.args.length := by omega
  clear early
  simp [-Int.natCast_add, g1', w1, g2', w2, g3', g4', encAtom, law17_MagicNames_3, law17_MagicNames_47, law17_MagicNames_5, law17_MagicNames_46, law17_MagicNames_6]
  refine (given_pc a dt (by omega) (by omega)).use (by simp) ?_
  simp [encAtom]
  refine (rgiven_pc a dt (by omega) (by omega)).use (by simp) ?_
  simp [law17_MagicNames_45, law17_MagicNames_10, law17_MagicNames_7]
  refine (asked_pc pre dp dt (by omega)).use (by simp) ?_
  simp
  refine (rasked_pc pre dp dt (by omega)).use (by simp) ?_
  simp
  refine (found_pc pre dp dt (by omega)).use (by simp) ?_
  simp
  refine (rfound_pc pre dp dt (by omega)).use (by simp) ?_
  have gl := givenL_length a.args dt
  simp [law17_MagicNames_9, law17_MagicNames_44, law17_MagicNames_21]
  have fin : ∀ (fr : AFr) (H' : AHeap), look fr 8 = some (.bool true) → bodyQ [XRes.tmp 8] (fun v _ => v = .bool true) .ret fr H' := by
    intro fr H' h1
    simp [h1]
  generalize hbase : [AObj.row T_antecedentref16_Demand 2 [[AV.str dp, AV.str dt]] (.own 0 true true), AObj.row T_antecedentref16_Demand 2 [[AV.str ep, AV.str et]] (.own 0 true true),
      AObj.row T_api_Atom 2 [[AV.str a.pred, AV.fs 4 (List.map encTerm a.args)]] (.own 0 true true), AObj.row T_adorn_Demand 2 [[AV.str dp, AV.str dt]] (.own 0 true true), AObj.row T_adorn_Demand 2 [[AV.str ep, AV.str et]] (.own 0 true true)] = base
  generalize givenL a.args dt = ts at *
  generalize bodyQ [XRes.tmp 8] (fun v _ => v = .bool true) = Q at fin ⊢
  refine dwp_loop' (fun n vs H => ∃ i : Nat, vs = [.str pre, .ptr 0 0 0, .ptr 1 0 0, .ptr 3 0 0, .ptr 4 0 0, .fs 4 (ts.map encTerm), .fs 4 (ts.map encTerm), .int .i64 ts.length, .int .i64 i] ∧ i + n = ts.length ∧ H = AHeap.of base) ts.length ?_ ?_
  · exact kept_of (vs := [.str pre, .ptr 0 0 0, .ptr 1 0 0, .ptr 3 0 0, .ptr 4 0 0, .fs 4 (ts.map encTerm), .fs 4 (ts.map encTerm), .int .i64 ts.length, .int .i64 (0 : Nat)]) (by simp) ⟨0, rfl, by simp, rfl⟩
  · rintro K1 Q1 n vs H hK1 hQ1 ⟨i, rfl, hi, rfl⟩
    rcases Nat.lt_or_ge i ts.length with hlt | hlt
    · have hw1 := wrap_nat1 (n := i) (by omega)
      simp [law17_MagicNames_20, law17_MagicNames_11, law17_MagicNames_19, law17_MagicNames_18, law17_MagicNames_16, law17_MagicNames_15, law17_MagicNames_12, law17_MagicNames_14, law17_MagicNames_17, hlt, encTerm, hw1]
      exact hK1 (n - 1) _ _ (by omega) ⟨i + 1, rfl, by omega, rfl⟩
    · have e : i = ts.length := by omega
      subst e
      simp [law17_MagicNames_20, law17_MagicNames_11, law17_MagicNames_19]
      refine hQ1 (.exit 0) _ _ ?_
      simp [law17_MagicNames_43, law17_MagicNames_40, law17_MagicNames_22, ← hbase, chunk]
      generalize hb2 : [AObj.row T_antecedentref16_Demand 2 [[AV.str dp, AV.str dt]] (.own 0 true true), AObj.row T_antecedentref16_Demand 2 [[AV.str ep, AV.str et]] (.own 0 true true),
        AObj.row T_api_Atom 2 [[AV.str a.pred, AV.fs 4 (List.map encTerm a.args)]] (.own 0 true true), AObj.row T_adorn_Demand 2 [[AV.str dp, AV.str dt]] (.own 0 true true), AObj.row T_adorn_Demand 2 [[AV.str ep, AV.str et]] (.own 0 true true),
        AObj.row T_string 1 [[AV.str dt], [AV.str et]] (.own 0 true true)] = base2
      refine dwp_loop' (fun n vs H => ∃ i : Nat, vs = [.str pre, .ptr 0 0 0, .ptr 1 0 0, .ptr 3 0 0, .ptr 4 0 0, .slice 1 5 0 2 2, .int .i64 2, .int .i64 i] ∧ i + n = 2 ∧ H = AHeap.of base2 ∧ (1 ≤ i → plainB dt = true) ∧ (2 ≤ i → plainB et = true)) 2 ?_ ?_
      · exact kept_of (vs := [.str pre, .ptr 0 0 0, .ptr 1 0 0, .ptr 3 0 0, .ptr 4 0 0, .slice 1 5 0 2 2, .int .i64 2, .int .i64 (0 : Nat)]) (by simp) ⟨0, rfl, by simp, rfl, by omega, by omega⟩
      · rintro K2 Q2 n2 vs H hK2 hQ2 ⟨i, rfl, hi, rfl, p1, p2⟩
        rcases Nat.lt_or_ge i 2 with hlt | hlt
        · have hw1 := wrap_nat1 (n := i) (by omega)
          obtain ⟨s, hs1, hs2, hs5, hs3⟩ : ∃ s : Str, base2[5]? = some (.row T_string 1 [[AV.str dt], [AV.str et]] (.own 0 true true)) ∧ ([[AV.str dt], [AV.str et]] : List (List AV))[i]? = some [.str s] ∧ s.length ≤ 50 ∧ (plainB s = true → (1 ≤ i + 1 → plainB dt = true) ∧ (2 ≤ i + 1 → plainB et = true)) := by
            rcases (by omega : i = 0 ∨ i = 1) with rfl | rfl
            · exact ⟨dt, by rw [← hb2]; rfl, rfl, by omega, fun h => ⟨fun _ => h, by omega⟩⟩
            · exact ⟨et, by rw [← hb2]; rfl, rfl, by omega, fun h => ⟨fun _ => p1 (by omega), fun _ => h⟩⟩
          have hlt' : (i : Int) < 2 := by omega
          simp [law17_MagicNames_39, law17_MagicNames_23, law17_MagicNames_38, law17_MagicNames_37, law17_MagicNames_35, law17_MagicNames_34, hlt', hs1, hs2]
          refine dwp_loop' (fun n vs H => ∃ k : Nat, vs = [.str pre, .ptr 0 0 0, .ptr 1 0 0, .ptr 3 0 0, .ptr 4 0 0, .str s, .int .i64 k, .slice 1 5 0 2 2, .int .i64 2, .int .i64 i] ∧ k + n = s.length ∧ H = AHeap.of base2 ∧ plainB (s.take k) = true) s.length ?_ ?_
          · exact kept_of (vs := [.str pre, .ptr 0 0 0, .ptr 1 0 0, .ptr 3 0 0, .ptr 4 0 0, .str s, .int .i64 (0 : Nat), .slice 1 5 0 2 2, .int .i64 2, .int .i64 i]) (by simp) ⟨0, rfl, by simp, rfl, by simp [plainB]⟩
          · rintro K3 Q3 n3 vs H hK3 hQ3 ⟨k, rfl, hk, rfl, hp⟩
            rcases Nat.lt_or_ge k s.length with hkl | hkl
            · have hw2 := wrap_nat1 (n := k) (by omega)
              have htk : plainB (s.take (k + 1)) = (plainB (s.take k) && (s[k] == 98 || s[k] == 102)) := by
                unfold plainB
                rw [List.take_succ_eq_append_getElem hkl, List.all_append]; simp only [List.all_cons, List.all_nil, Bool.and_true]
              by_cases c1 : s[k] = 98
              · simp [law17_MagicNames_33, law17_MagicNames_26, law17_MagicNames_24, law17_MagicNames_25, law17_MagicNames_32, law17_MagicNames_30, law17_MagicNames_27, law17_MagicNames_29, law17_MagicNames_31, hkl, c1, hw2]
                exact hK3 (n3 - 1) _ _ (by omega) ⟨k + 1, rfl, by omega, rfl, by rw [htk, hp]; simp [c1]⟩
              · have c1' : ¬ (s[k].toNat : Int) = 98 := fun h => c1 (UInt8.toNat_inj.1 (show s[k].toNat = 98 by omega))
                by_cases c2 : s[k] = 102
                · simp [law17_MagicNames_33, law17_MagicNames_26, law17_MagicNames_24, law17_MagicNames_25, law17_MagicNames_32, law17_MagicNames_30, law17_MagicNames_27, law17_MagicNames_29, law17_MagicNames_31, hkl, c2, hw2]
                  exact hK3 (n3 - 1) _ _ (by omega) ⟨k + 1, rfl, by omega, rfl, by rw [htk, hp]; simp [c2]⟩
                · have c2' : ¬ (s[k].toNat : Int) = 102 := fun h => c2 (UInt8.toNat_inj.1 (show s[k].toNat = 102 by omega))
                  have n1 : ((s[k].toNat : Int) != 98) = true := by simpa using c1'
                  have n2 : ((s[k].toNat : Int) != 102) = true := by simpa using c2'
                  simp [law17_MagicNames_33, law17_MagicNames_26, law17_MagicNames_24, law17_MagicNames_25, law17_MagicNames_32, law17_MagicNames_30, law17_MagicNames_27, law17_MagicNames_29, law17_MagicNames_28, hkl, c1', c2', n1, n2]
                  refine hQ3 .ret _ _ (hQ2 .ret _ _ ?_)
                  simp
                  exact fin _ _ (by simp)
            · have e : k = s.length := by omega
              subst e
              rw [List.take_length] at hp
              simp [law17_MagicNames_33, law17_MagicNames_26, law17_MagicNames_24, law17_MagicNames_25]
              refine hQ3 (.exit 4) _ _ ?_
              simp [law17_MagicNames_36, hw1]
              exact hK2 (n2 - 1) _ _ (by omega) ⟨i + 1, rfl, by omega, rfl, hs3 hp⟩
        · have e : i = 2 := by omega
          subst e
          simp [law17_MagicNames_39, law17_MagicNames_23, law17_MagicNames_38]
          refine hQ2 (.exit 2) _ _ ?_
          have q1 := p1 (by omega)
          have q2 := p2 (by omega)
          simp [law17_MagicNames_42, law17_MagicNames_41, ← hb2]
          refine (asked_pc pre dp dt (by omega)).use (by simp) ?_
          simp
          refine (asked_pc pre ep et (by omega)).use (by simp) ?_
          have i1 := asked_inj (pre := pre) (p := dp) (q := ep) q1 q2
          have i2 := asked_inj (pre := pre ++ [105, 115, 95]) (p := dp) (q := ep) q1 q2
          simp [i1]
          refine (found_pc pre dp dt (by omega)).use (by simp) ?_
          simp
          refine (found_pc pre ep et (by omega)).use (by simp) ?_
          simp [foundL, i2]
          exact fin _ _ (by simp)
end Go.Am.Z
