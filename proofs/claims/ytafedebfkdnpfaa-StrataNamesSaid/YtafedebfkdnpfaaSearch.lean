/- What functions of the program compute, under the conditions that each statement names. -/
import Derived.Test.YtafedebfkdnpfaaAmY
import Derived.Sort.Walk0
import Derived.Test.YtafedebfkdnpfaaTx
namespace Go.Am.A
open Go Go.Proofs Go.Am

/-- where a name stands, or would -/
def rankL (ss : List Str) (t : Str) : Nat := (ss.takeWhile fun s => decide (s < t)).length
theorem rank_eq : ∀ {ss : List Str} {t : Str} {i : Nat}, i ≤ ss.length → (∀ k (h : k < ss.length), k < i → ss[k] < t) → (∀ h : i < ss.length, ¬ ss[i] < t) → rankL ss t = i
  | [], t, i, h, _, _ => by simp [rankL] at h ⊢; omega
  | a :: l, t, 0, h, h1, h2 => by
    have := h2 (by simp)
    simp only [List.getElem_cons_zero] at this
    simp [rankL, List.takeWhile_cons, this]
  | a :: l, t, i + 1, h, h1, h2 => by
    have h0 := h1 0 (by simp) (by omega)
    simp only [List.getElem_cons_zero] at h0
    have := rank_eq (ss := l) (t := t) (i := i) (by simpa using h) (fun k hk hi => h1 (k + 1) (Nat.succ_lt_succ hk) (by omega)) (fun hh => h2 (Nat.succ_lt_succ hh))
    simp only [rankL, List.takeWhile_cons, h0, decide_true, if_true, List.length_cons] at this ⊢
    omega

theorem less_pc (x y : Str) : PC Try.prog cmp_Less_string_id [.str x, .str y] (.bool (decide (x < y))) := by
  refine PC.of cmp_Less_string_ok (by simp [cmp_Less_string]) ?_
  have e : PC Try.prog cmp_isNaN_string_id [.str x] (.bool false) := by
    refine PC.of cmp_isNaN_string_ok (by simp [cmp_isNaN_string]) ?_
    simp [cmp_isNaN_string, cmp_isNaN_string_0, cmp_isNaN_string_1, cmp_isNaN_string_2]
  simp [cmp_Less_string, cmp_Less_string_0, cmp_Less_string_1, cmp_Less_string_2]
  refine e.use (by simp) ?_
  simp [bytesLess_eq]

set_option maxHeartbeats 2000000 in
theorem search_pc (ss : List Str) (t : Str) (hs : ss.Pairwise fun a b => a < b) (hn : ss.length < 4611686018427387904) :
    PC Try.prog slices_BinarySearch_string_id [aStrs ss, .str t] (.tuple [.int .i64 (rankL ss t), .bool (decide (ss[rankL ss t]? = some t))]) := by
  refine PC.of slices_BinarySearch_string_ok (by simp [slices_BinarySearch_string]) ?_
  simp [slices_BinarySearch_string, slices_BinarySearch_string_15, slices_BinarySearch_string_14, slices_BinarySearch_string_13, slices_BinarySearch_string_12, aStrs]
  refine dwp_loop' (fun n vs H => ∃ (i j : Nat), vs = [.fs 1 (ss.map encStr), .str t, .int .i64 ss.length, .int .i64 i, .int .i64 j] ∧ i + n = j ∧ j ≤ ss.length ∧ H = AHeap.of [] ∧
    (∀ k (h : k < ss.length), k < i → ss[k] < t) ∧ (∀ k (h : k < ss.length), j ≤ k → ¬ ss[k] < t)) ss.length ?_ ?_
  · exact kept_of (vs := [.fs 1 (ss.map encStr), .str t, .int .i64 ss.length, .int .i64 (0 : Nat), .int .i64 ss.length]) (by simp) ⟨0, ss.length, rfl, by simp, by simp, rfl, by simp, fun k h hk => by omega⟩
  · rintro K Q n vs H hK hQ ⟨i, j, rfl, hi, hj, rfl, h1, h2⟩
    rcases Nat.lt_or_ge i j with hlt | hlt
    · have hlt' : (i : Int) < j := by omega
      have w1 : IntKind.i64.wrap ((i : Int) + j) = ((i + j : Nat) : Int) := by rw [wrap64] <;> omega
      have w2 : IntKind.u64.wrap ((i + j : Nat) : Int) = ((i + j : Nat) : Int) := by
        simp [IntKind.wrap, IntKind.signed, IntKind.bits]; omega
      have w3 : (((i + j : Nat) : Int).fdiv (2 ^ min 1 IntKind.u64.bits)) = (((i + j) / 2 : Nat) : Int) := by
        have : (2 : Int) ^ min 1 IntKind.u64.bits = 2 := by decide
        rw [this, Int.fdiv_eq_ediv_of_nonneg _ (by omega)]
        omega
      have w4 : IntKind.i64.wrap (((i + j) / 2 : Nat) : Int) = (((i + j) / 2 : Nat) : Int) := by rw [wrap64] <;> omega
      have hm : (i + j) / 2 < ss.length := by omega
      have w5 := wrap_nat1 (n := (i + j) / 2) (by omega)
      generalize hh : (i + j) / 2 = m at *
      simp [slices_BinarySearch_string_9, slices_BinarySearch_string_1, slices_BinarySearch_string_0, slices_BinarySearch_string_8, slices_BinarySearch_string_2, slices_BinarySearch_string_7, slices_BinarySearch_string_3, hlt', -Int.natCast_add, w1, w2, w3, w4, hm, encStr]
      refine (less_pc _ _).use (by simp) ?_
      by_cases hc : ss[m] < t
      · simp [slices_BinarySearch_string_6, slices_BinarySearch_string_4, hc, w5]
        refine hK (j - (m + 1)) _ _ (by omega) ⟨m + 1, j, rfl, by omega, hj, rfl, ?_, h2⟩
        intro k hk hkm
        rcases Nat.lt_or_ge k m with h | h
        · exact List.lt_trans (List.pairwise_iff_getElem.1 hs k m hk hm h) hc
        · have : k = m := by omega
          subst this; exact hc
      · simp [slices_BinarySearch_string_6, slices_BinarySearch_string_5, hc]
        refine hK (m - i) _ _ (by omega) ⟨i, m, rfl, by omega, by omega, rfl, h1, ?_⟩
        intro k hk hkm hlt2
        rcases Nat.lt_or_ge m k with h | h
        · exact hc (List.lt_trans (List.pairwise_iff_getElem.1 hs m k hm hk h) hlt2)
        · have : k = m := by omega
          subst this; exact hc hlt2
    · have e : i = j := by omega
      subst e
      simp [slices_BinarySearch_string_9, slices_BinarySearch_string_1, slices_BinarySearch_string_0]
      refine hQ (.exit 0) _ _ ?_
      have hr := rank_eq (by omega) h1 fun h => h2 i h (Nat.le_refl _)
      rcases Nat.lt_or_ge i ss.length with hl | hl
      · by_cases he : ss[i] = t
        · simp [slices_BinarySearch_string_11, slices_BinarySearch_string_10, hl, encStr, he, hr]
        · have hnan : ∀ s : Str, PC Try.prog slices_isNaN_string_id [.str s] (.bool false) := fun s => by
            refine PC.of slices_isNaN_string_ok (by simp [slices_isNaN_string]) ?_
            simp [slices_isNaN_string, slices_isNaN_string_0, slices_isNaN_string_1, slices_isNaN_string_2]
          simp [slices_BinarySearch_string_11, slices_BinarySearch_string_10, hl, encStr, he, hr]
          refine (hnan _).use (by simp) ?_
          have he' : (ss[i] == t) = false := by simpa using he
          simp [hr, he', hl, he]
      · have hl' : ¬ (i : Int) < ss.length := by omega
        have hl2 : ¬ i < ss.length := by omega
        simp [slices_BinarySearch_string_11, slices_BinarySearch_string_10, hl', hl2, hr]
end Go.Am.A
