/- The abstract machine, part Y: lists without repeats, one behind the other; strings in order. -/
import Derived.Test.YtafedebfkdnpfaaGreatAmX
namespace Go.Am
open Go

theorem snoc_ind {α : Type} {P : List α → Prop} (h0 : P []) (h1 : ∀ l x, P l → P (l ++ [x])) (l : List α) : P l := by
  have : ∀ (r : List α), P r.reverse := by
    intro r
    induction r with
    | nil => exact h0
    | cons a r ih => rw [List.reverse_cons]; exact h1 _ _ ih
  simpa using this l.reverse

section
variable {α : Type} [DecidableEq α]
/-- of equal ones, one behind the other, one is left -/
def uniq (l : List α) : List α := l.foldl (fun acc x => if acc.getLast? = some x then acc else acc ++ [x]) []
theorem uniq_nil : uniq ([] : List α) = [] := rfl
theorem uniq_snoc0 (l : List α) (x : α) : uniq (l ++ [x]) = if (uniq l).getLast? = some x then uniq l else uniq l ++ [x] := by
  unfold uniq
  rw [List.foldl_append]; rfl
theorem uniq_last (l : List α) : (uniq l).getLast? = l.getLast? := by
  induction l using snoc_ind with
  | h0 => rfl
  | h1 l x ih =>
    rw [uniq_snoc0]
    split
    · rename_i h; rw [h]; simp
    · simp
theorem uniq_snoc (l : List α) (x : α) : uniq (l ++ [x]) = if l.getLast? = some x then uniq l else uniq l ++ [x] := by rw [uniq_snoc0, uniq_last]
theorem uniq_length (l : List α) : (uniq l).length ≤ l.length := by
  induction l using snoc_ind with
  | h0 => simp [uniq_nil]
  | h1 l x ih =>
    rw [uniq_snoc]
    split <;> simp <;> omega
theorem mem_uniq {l : List α} {x : α} : x ∈ uniq l ↔ x ∈ l := by
  induction l using snoc_ind with
  | h0 => simp [uniq_nil]
  | h1 l y ih =>
    rw [uniq_snoc]
    split
    · rename_i h
      rw [ih]
      constructor
      · intro hx; exact List.mem_append_left _ hx
      · intro hx
        rcases List.mem_append.1 hx with hx | hx
        · exact hx
        · simp only [List.mem_singleton] at hx
          subst hx
          exact List.mem_of_getLast? h
    · simp only [List.mem_append, ih]
theorem uniq_take (l : List α) {m : Nat} (hm : m + 1 < l.length) : uniq (l.take (m + 2)) = if l[m + 1] = l[m] then uniq (l.take (m + 1)) else uniq (l.take (m + 1)) ++ [l[m + 1]] := by
  rw [List.take_succ_eq_append_getElem hm, uniq_snoc]
  have : (l.take (m + 1)).getLast? = some l[m] := by
    rw [List.take_succ_eq_append_getElem (by omega), List.getLast?_append]; rfl
  rw [this]
  by_cases h : l[m + 1] = l[m]
  · simp [h]
  · have : ¬ l[m] = l[m + 1] := fun h' => h h'.symm
    simp [h, this]
theorem uniq_one (x : α) : uniq [x] = [x] := by simp [uniq]

theorem uniq_sorted {R : α → α → Prop} (has : ∀ a b, R a b → R b a → a = b) {l : List α} (h : l.Pairwise R) : (uniq l).Pairwise fun a b => R a b ∧ a ≠ b := by
  induction l using snoc_ind with
  | h0 => simp [uniq_nil]
  | h1 l x ih =>
    rw [List.pairwise_append] at h
    rw [uniq_snoc]
    split
    · exact ih h.1
    · rename_i hne
      rw [List.pairwise_append]
      refine ⟨ih h.1, by simp, ?_⟩
      intro a ha b hb
      simp only [List.mem_singleton] at hb
      subst hb
      have ha' := mem_uniq.1 ha
      refine ⟨h.2.2 a ha' b (by simp), ?_⟩
      rintro rfl
      -- a is in l, and so is the last of it
      apply hne
      cases hl : l.getLast? with
      | none => simp at hl; subst hl; simp at ha'
      | some y =>
        have hy := List.mem_of_getLast? hl
        have h1 := h.2.2 y hy a (by simp)
        obtain ⟨m, rfl⟩ : ∃ m, l = m ++ [y] := by
          obtain ⟨m, hm⟩ := List.getLast?_eq_some_iff.1 hl
          exact ⟨m, hm⟩
        rcases List.mem_append.1 ha' with ha' | ha'
        · have h2 := (List.pairwise_append.1 h.1).2.2 a ha' y (by simp)
          rw [has _ _ h2 h1]
        · simp only [List.mem_singleton] at ha'; rw [ha']
end

/-- a pair of numbers in a row -/
def encPair (p : Int × Int) : List AV := [.int .i64 p.1, .int .i64 p.2]
theorem nrs_pair (p : Int × Int) : AV.nrs (encPair p) = true := by simp [encPair]
theorem nrss_pair (l : List (Int × Int)) : AV.nrss (l.map encPair) = true := nrss_map nrs_pair l
def aPairs (l : List (Int × Int)) : AV := .fs 2 (l.map encPair)
theorem nr_aPairs (l : List (Int × Int)) : (aPairs l).nr = true := by simp [aPairs, nrss_pair]
attribute [simp] nrs_pair nrss_pair nr_aPairs

/-! ### strings in order -/
def sle (x y : Str) : Bool := decide (x ≤ y)
/-- names in order, each once -/
def sortU (l : List Str) : List Str := uniq (l.mergeSort fun x y => decide (x ≤ y))
theorem str_le_trans (a b c : Str) : decide (a ≤ b) = true → decide (b ≤ c) = true → decide (a ≤ c) = true := by
  simp only [decide_eq_true_eq]; exact List.le_trans
theorem str_le_total (a b : Str) : (decide (a ≤ b) || decide (b ≤ a)) = true := by
  simp only [Bool.or_eq_true, decide_eq_true_eq]; exact List.le_total a b
theorem mem_sortU {l : List Str} {x : Str} : x ∈ sortU l ↔ x ∈ l := by rw [sortU, mem_uniq, List.mem_mergeSort]
theorem sortU_sorted (l : List Str) : (sortU l).Pairwise fun a b => a < b := by
  have h := uniq_sorted (R := fun a b : Str => a ≤ b) (fun a b h1 h2 => List.le_antisymm h1 h2) (l := l.mergeSort fun x y => decide (x ≤ y)) (by
    have := List.pairwise_mergeSort str_le_trans str_le_total l
    exact this.imp fun h => by simpa using h)
  refine h.imp fun {a b} hab => ?_
  rcases List.le_iff_lt_or_eq.1 hab.1 with h1 | h1
  · exact h1
  · exact absurd h1 hab.2
theorem sortU_length (l : List Str) : (sortU l).length ≤ l.length := by
  have := uniq_length (l.mergeSort fun x y => decide (x ≤ y))
  simpa [sortU] using this
end Go.Am
