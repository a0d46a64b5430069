/- What functions of the program compute, under the conditions that each statement names. -/
import Derived.Test.YtafedebfkdnpfaaAmZ
import Derived.Test.YtafedebfkdnpfaaCompactS
namespace Go.Am.A
open Go Go.Proofs Go.Am

theorem strs_enc (ss : List Str) : strs ss = ss.map encStr := rfl

/-- names in order, each once, in place -/
theorem sorted_acc (hS : SortC Try.prog slices_Sort_string_id) {k : Nat} {l : List AObj} {v : AV} {ss : List Str} (h : Acc k l T_string 1 v (ss.map encStr)) (hn : ss.length < 4611686018427387904) {K : AV → AHeap → Prop}
    (hk : ∀ v' H', v'.one = true → Frz H' v' (aStrs (sortU ss)) → K v' H') : ACalls Try.prog strata_sorted_id [v] K (AHeap.of l) := by
  refine acalls strata_sorted_ok (by simp [strata_sorted]) ?_
  simp [strata_sorted, strata_sorted_2, strata_sorted_1]
  have hel := h.elems
  rcases h with ⟨rfl, h0⟩ | ⟨b, d, s, _, _, rfl, h3, hne⟩
  · have : ss = [] := by simpa using h0
    subst this
    refine (sort_strings (by kernel_rfl) hS (H := AHeap.of l) (v := .nilslice) (ss := []) (by simp [strs]) (by simp) (.inl rfl)).mono ?_
    rintro r H' ⟨rfl, h | ⟨_, _, _, _, h, _⟩⟩
    · obtain ⟨_, rfl⟩ := h
      simp [strata_sorted_0]
      refine acalls slices_Compact_string_ok (by simp [slices_Compact_string]) ?_
      simp [slices_Compact_string, slices_Compact_string_36, slices_Compact_string_35, slices_Compact_string_2, slices_Compact_string_1, slices_Compact_string_0]
      refine hk _ _ (by simp) ?_
      have e : sortU [] = [] := by simp [sortU, uniq_nil]
      simp [aStrs, e]
    · cases h
  · obtain ⟨hb, hbv⟩ := List.getElem?_eq_some_iff.1 h3
    have h0 : ss ≠ [] := by rintro rfl; simp at hne
    have hp : ∃ base, base[b]? = some (.row T_string 1 ((ss.mergeSort fun x y => decide (x ≤ y)).map encStr) (.own d true true)) ∧ (AHeap.of l).put b 0 (strs (ss.mergeSort fun x y => decide (x ≤ y))) = some (AHeap.of base) := by
      rw [put_oput, of_get_some h3]
      have hdrop : List.drop ss.length (List.map encStr ss) = [] := by simp
      cases s
      · rw [oput_row', if_pos ⟨by simp [strs], by simp [strs]⟩, of_kill, of_set _ _ _ (by simpa using hb)]
        refine ⟨_, ?_, rfl⟩
        rw [List.getElem?_set_self (by simpa using hb)]
        simp [strs_enc]
      · rw [oput_row, if_pos ⟨by simp [strs], by simp [strs]⟩, of_set _ _ _ hb]
        refine ⟨_, ?_, rfl⟩
        rw [List.getElem?_set_self hb]
        simp [strs_enc]
    obtain ⟨base, hb1, hb2⟩ := hp
    refine (sort_strings (by kernel_rfl) hS (H := AHeap.of l) (ss := ss) (by simpa [strs_enc] using hel) hn (.inr ⟨b, 0, ss.length, ss.length, _, by simp, hb2⟩)).mono ?_
    rintro r H' ⟨rfl, h | ⟨b', i', l', c', h, hp⟩⟩
    · exact absurd h.1 h0
    · simp at h
      obtain ⟨rfl, rfl, rfl, rfl⟩ := h
      rw [hb2] at hp
      have hp := Option.some.inj hp
      subst hp
      simp [strata_sorted_0]
      have := compact_str (ss := ss.mergeSort fun x y => decide (x ≤ y)) hb1 (by simpa using hn)
      simp at this
      refine this.mono ?_
      rintro v' H' ⟨⟨c, rfl⟩, tail, rfl⟩
      refine hk _ _ (by simp) ?_
      obtain ⟨hb2, _⟩ := List.getElem?_eq_some_iff.1 hb1
      refine Frz.slice (T := T_string) (d := d) (h := true) (s := true) (rs := (uniq (ss.mergeSort fun x y => decide (x ≤ y))).map encStr ++ tail) (by simp [hb2]) (by simp) ?_
      simp
      exact Frzss.self (by simp)
end Go.Am.A
