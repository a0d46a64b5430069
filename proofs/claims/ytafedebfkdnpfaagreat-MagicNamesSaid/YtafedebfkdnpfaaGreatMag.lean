/- What functions of the program compute, under the conditions that each statement names. -/
import Derived.Test.YtafedebfkdnpfaaGreatAmZ
import Derived.Test.YtafedebfkdnpfaaGreatTx
namespace Go.Am.Z
open Go Go.Proofs Go.Am

theorem cat (ty : XTy) (a b : Str) (h : a.length + b.length ≤ 1000000) : xbin .add ty (.str a) (.str b) = some (.str (a ++ b)) := by
  simp only [xbin_sadd]; rw [if_pos (by omega)]
/-- what is asked for, and found -/
def askedL (pre pred pat : Str) : Str := pre ++ pat ++ [95] ++ pred
def foundL (pre pred pat : Str) : Str := askedL (pre ++ [105, 115, 95]) pred pat
theorem asked_pc (pre pred pat : Str) (h : pre.length + pat.length + pred.length < 900000) : PC Tryz.prog magic_Asked_id [.str pre, .agg [.str pred, .str pat]] (.str (askedL pre pred pat)) := by
  refine PC.of magic_Asked_ok (by simp [magic_Asked]) ?_
  simp [magic_Asked, magic_Asked_0, magic_Asked_1, magic_Asked_2, -xbin_sadd]
  rw [cat _ pre pat (by omega)]; simp only [nr_optP_some]
  rw [cat _ (pre ++ pat) [95] (by simp; omega)]; simp only [nr_optP_some]
  rw [cat _ (pre ++ pat ++ [95]) pred (by simp; omega)]; simp [askedL]
theorem rasked_pc (pre pred pat : Str) (h : pre.length + pat.length + pred.length < 900000) : PC Tryz.prog ref17_Asked_id [.str pre, .agg [.str pred, .str pat]] (.str (askedL pre pred pat)) := by
  refine PC.of ref17_Asked_ok (by simp [ref17_Asked]) ?_
  simp [ref17_Asked, ref17_Asked_0, ref17_Asked_1, ref17_Asked_2, -xbin_sadd]
  rw [cat _ pre pat (by omega)]; simp only [nr_optP_some]
  rw [cat _ (pre ++ pat) [95] (by simp; omega)]; simp only [nr_optP_some]
  rw [cat _ (pre ++ pat ++ [95]) pred (by simp; omega)]; simp [askedL]
theorem found_pc (pre pred pat : Str) (h : pre.length + pat.length + pred.length < 100000) : PC Tryz.prog magic_Found_id [.str pre, .agg [.str pred, .str pat]] (.str (foundL pre pred pat)) := by
  refine PC.of magic_Found_ok (by simp [magic_Found]) ?_
  simp [magic_Found, magic_Found_0, magic_Found_1, magic_Found_2, -xbin_sadd]
  rw [cat _ pre [105, 115, 95] (by simp; omega)]; simp [-xbin_sadd]
  refine (asked_pc (pre ++ [105, 115, 95]) pred pat (by simp; omega)).use (by simp) ?_
  simp [foundL]
theorem rfound_pc (pre pred pat : Str) (h : pre.length + pat.length + pred.length < 100000) : PC Tryz.prog ref17_Found_id [.str pre, .agg [.str pred, .str pat]] (.str (foundL pre pred pat)) := by
  refine PC.of ref17_Found_ok (by simp [ref17_Found]) ?_
  simp [ref17_Found, ref17_Found_0, ref17_Found_1, ref17_Found_2, -xbin_sadd]
  rw [cat _ pre [105, 115, 95] (by simp; omega)]; simp only [nr_optP_some]
  rw [cat _ (pre ++ [105, 115, 95]) pat (by simp; omega)]; simp only [nr_optP_some]
  rw [cat _ (pre ++ [105, 115, 95] ++ pat) [95] (by simp; omega)]; simp only [nr_optP_some]
  rw [cat _ (pre ++ [105, 115, 95] ++ pat ++ [95]) pred (by simp; omega)]; simp [foundL, askedL]

theorem zip_take' {α β : Type} : ∀ (l : List α) (m : List β) (n : Nat), (l.take n).zip (m.take n) = (l.zip m).take n
  | [], _, _ => by simp
  | _ :: _, [], _ => by simp
  | _ :: _, _ :: _, 0 => by simp
  | a :: l, b :: m, n + 1 => by simp [zip_take' l m n]
/-- the arguments that a pattern gives -/
def givenL (args : List LTerm) (pat : Str) : List LTerm := ((args.zip pat).filter fun q => q.2 == 98).map (·.1)
theorem given_take (args : List LTerm) (pat : Str) {i : Nat} (h1 : i < args.length) (h2 : i < pat.length) :
    givenL (args.take (i + 1)) (pat.take (i + 1)) = givenL (args.take i) (pat.take i) ++ if pat[i] = 98 then [args[i]] else [] := by
  have e : ∀ n, (args.take n).zip (pat.take n) = (args.zip pat).take n := fun n => zip_take' args pat n
  have hz : i < (args.zip pat).length := by simp; omega
  simp only [givenL, e]
  rw [List.take_succ_eq_append_getElem hz, List.filter_append, List.map_append]
  congr 1
  by_cases h : pat[i] = 98 <;> simp [h]
theorem givenL_length (args : List LTerm) (pat : Str) : (givenL args pat).length ≤ args.length := by
  simp only [givenL, List.length_map]
  refine Nat.le_trans (List.length_filter_le _ _) ?_
  simp; omega

set_option maxHeartbeats 1000000 in
theorem given_pc (a : LAtom) (pat : Str) (h : a.args.length ≤ 1000) (h2 : pat.length ≤ 1000) : PC Tryz.prog magic_Given_id [.agg (encAtom a), .str pat] (.fs 4 ((givenL a.args pat).map encTerm)) := by
  refine PC.of magic_Given_ok (by simp [magic_Given]) ?_
  simp [magic_Given, magic_Given_16, magic_Given_15, magic_Given_14, magic_Given_12, magic_Given_0, encAtom]
  obtain ⟨M, hM, hM1, hM2, hM3⟩ : ∃ M : Nat, (if pat.length < a.args.length then (pat.length : Int) else a.args.length) = M ∧ M ≤ a.args.length ∧ M ≤ pat.length ∧ (M = a.args.length ∨ M = pat.length) := by
    rcases Nat.lt_or_ge pat.length a.args.length with hh | hh
    · exact ⟨pat.length, by rw [if_pos hh], by omega, by omega, .inr rfl⟩
    · exact ⟨a.args.length, by rw [if_neg (by omega)], by omega, by omega, .inl rfl⟩
  have hge : givenL (a.args.take M) (pat.take M) = givenL a.args pat := by
    simp only [givenL, zip_take']
    rw [List.take_of_length_le (by simp; omega)]
  have hM4 : (M : Int) ≤ a.args.length := by omega
  simp only [hM]
  simp [hM4, hM1, Nat.min_eq_left hM1]
  refine dwp_loop' (fun n vs H => ∃ (i : Nat) (v : AV) (G : List AObj), vs = [.str pat, v, .fs 4 ((a.args.map encTerm).take M), .int .i64 M, .int .i64 i] ∧ i + n = M ∧
    H = AHeap.of (.row T_api_Atom 2 [encAtom a] (.own 0 true true) :: G) ∧ Acc 1 (.row T_api_Atom 2 [encAtom a] (.own 0 true true) :: G) T_api_Term 4 v ((givenL (a.args.take i) (pat.take i)).map encTerm)) M ?_ ?_
  · exact kept_of (vs := [.str pat, .nilslice, .fs 4 ((a.args.map encTerm).take M), .int .i64 M, .int .i64 (0 : Nat)]) (by simp) ⟨0, _, [], rfl, by simp, rfl, by simp [givenL, Acc.nil]⟩
  · rintro K Q' n vs H' hK hQ' ⟨i, v, G, rfl, hi, rfl, hv⟩
    rcases Nat.lt_or_ge i M with hlt | hlt
    · have hw := wrap_nat1 (n := i) (by omega)
      have ha : i < a.args.length := by omega
      have hp : i < pat.length := by omega
      have ht := given_take a.args pat ha hp
      have hlen := givenL_length (a.args.take i) (pat.take i)
      have hi4 : ((a.args.map encTerm).take M)[i]? = some (encTerm a.args[i]) := by rw [List.getElem?_take_of_lt hlt]; simp [ha]
      by_cases hb : pat[i] = 98
      · obtain ⟨v', G', e1, e2⟩ := (hv.mono1 [.row T_api_Term 4 [encTerm a.args[i]] (.own 0 true true)]).app1 (live := [.row T_api_Atom 2 [encAtom a] (.own 0 true true)]) (T' := T_api_Term) (bytes := 48) (encTerm a.args[i]) (.own 0 true true) (by simp only [room, List.length_map]; simp at hlen; omega)
        simp [encTerm, encAtom] at e1
        simp [magic_Given_11, magic_Given_1, magic_Given_10, magic_Given_9, magic_Given_7, magic_Given_2, magic_Given_6, magic_Given_3, magic_Given_5, magic_Given_4, magic_Given_8, hlt, hi4, hp, hb, encTerm, encAtom, chunk, e1, hw]
        refine hK (n - 1) _ _ (by omega) ⟨i + 1, v', G', rfl, by omega, rfl, ?_⟩
        rw [ht, if_pos hb, List.map_append]
        exact e2
      · have hb' : ¬ (pat[i].toNat : Int) = 98 := fun h => hb (UInt8.toNat_inj.1 (show pat[i].toNat = 98 by omega))
        simp [magic_Given_11, magic_Given_1, magic_Given_10, magic_Given_9, magic_Given_7, magic_Given_2, magic_Given_6, magic_Given_3, magic_Given_5, magic_Given_4, magic_Given_8, hlt, hi4, hp, hb', encTerm, encAtom, hw]
        refine hK (n - 1) _ _ (by omega) ⟨i + 1, v, _, rfl, by omega, rfl, ?_⟩
        rw [ht, if_neg hb, List.append_nil]
        exact hv.mono1 _
    · have e : i = M := by omega
      subst e
      simp [magic_Given_11, magic_Given_1, magic_Given_10]
      refine hQ' (.exit 0) _ _ ?_
      simp [magic_Given_13]
      rw [hge] at hv
      exact hv.frz (nrss_term _)

set_option maxHeartbeats 1000000 in
theorem rgiven_pc (a : LAtom) (pat : Str) (h : a.args.length ≤ 1000) (h2 : pat.length ≤ 1000) : PC Tryz.prog ref16_Given_id [.agg (encAtom a), .str pat] (.fs 4 ((givenL a.args pat).map encTerm)) := by
  refine PC.of ref16_Given_ok (by simp [ref16_Given]) ?_
  simp [ref16_Given, ref16_Given_14, ref16_Given_13, ref16_Given_12, ref16_Given_10]
  refine dwp_loop' (fun n vs H => ∃ (i : Nat) (v : AV) (G : List AObj), vs = [.str pat, .ptr 0 0 0, v, .int .i64 i] ∧ i + n = a.args.length ∧ i ≤ pat.length ∧
    H = AHeap.of (.row T_api_Atom 2 [encAtom a] (.own 0 true true) :: G) ∧ Acc 1 (.row T_api_Atom 2 [encAtom a] (.own 0 true true) :: G) T_api_Term 4 v ((givenL (a.args.take i) (pat.take i)).map encTerm)) a.args.length ?_ ?_
  · exact kept_of (vs := [.str pat, .ptr 0 0 0, .nilslice, .int .i64 (0 : Nat)]) (by simp) ⟨0, _, [], rfl, by simp, by omega, rfl, by simp [givenL, Acc.nil]⟩
  · rintro K Q' n vs H' hK hQ' ⟨i, v, G, rfl, hi, hip, rfl, hv⟩
    rcases Nat.lt_or_ge i a.args.length with ha | ha
    · rcases Nat.lt_or_ge i pat.length with hp | hp
      · have hw := wrap_nat1 (n := i) (by omega)
        have ht := given_take a.args pat ha hp
        have hlen := givenL_length (a.args.take i) (pat.take i)
        by_cases hb : pat[i] = 98
        · obtain ⟨v', G', e1, e2⟩ := hv.app1 (live := [.row T_api_Atom 2 [encAtom a] (.own 0 true true)]) (T' := T_api_Term) (bytes := 48) (encTerm a.args[i]) (.own 0 true true) (by simp only [room, List.length_map]; simp at hlen; omega)
          simp [encTerm, encAtom] at e1
          simp [ref16_Given_9, ref16_Given_2, ref16_Given_0, ref16_Given_1, ref16_Given_8, ref16_Given_6, ref16_Given_3, ref16_Given_5, ref16_Given_4, ref16_Given_7, ha, hp, hb, encTerm, encAtom, chunk, e1, hw]
          refine hK (n - 1) _ _ (by omega) ⟨i + 1, v', G', rfl, by omega, by omega, rfl, ?_⟩
          rw [ht, if_pos hb, List.map_append]
          exact e2
        · have hb' : ¬ (pat[i].toNat : Int) = 98 := fun h => hb (UInt8.toNat_inj.1 (show pat[i].toNat = 98 by omega))
          simp [ref16_Given_9, ref16_Given_2, ref16_Given_0, ref16_Given_1, ref16_Given_8, ref16_Given_6, ref16_Given_3, ref16_Given_5, ref16_Given_4, ref16_Given_7, ha, hp, hb', encTerm, encAtom, hw]
          refine hK (n - 1) _ _ (by omega) ⟨i + 1, v, _, rfl, by omega, by omega, rfl, ?_⟩
          rw [ht, if_neg hb, List.append_nil]
          exact hv
      · have hp' : ¬ (i : Int) < pat.length := by omega
        have hp2 : ¬ i < pat.length := by omega
        have hge : givenL (a.args.take i) (pat.take i) = givenL a.args pat := by
          simp only [givenL, zip_take']
          rw [List.take_of_length_le (by simp; omega)]
        simp [ref16_Given_9, ref16_Given_2, ref16_Given_0, ref16_Given_1, ref16_Given_8, ha, hp', hp2, encAtom]
        refine hQ' (.exit 0) _ _ ?_
        simp [ref16_Given_11]
        rw [hge] at hv
        exact hv.frz (nrss_term _)
    · have ha' : ¬ (i : Int) < a.args.length := by omega
      have ha2 : ¬ i < a.args.length := by omega
      have hge : givenL (a.args.take i) (pat.take i) = givenL a.args pat := by
        simp only [givenL, zip_take']
        rw [List.take_of_length_le (by simp; omega)]
      simp [ref16_Given_9, ref16_Given_2, ref16_Given_0, ref16_Given_1, ref16_Given_8, ha', ha2, encAtom]
      refine hQ' (.exit 0) _ _ ?_
      simp [ref16_Given_11]
      rw [hge] at hv
      exact hv.frz (nrss_term _)
end Go.Am.Z
