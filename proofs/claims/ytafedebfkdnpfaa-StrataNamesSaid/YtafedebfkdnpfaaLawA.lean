/- What functions of the program compute, under the conditions that each statement names. -/
import Derived.Test.YtafedebfkdnpfaaFew
import Derived.Test.YtafedebfkdnpfaaNeeds
namespace Go.Am.A
open Go Go.Proofs Go.Am

/-- the place of a name -/
def atL (ns : List Str) (s : Str) : Int := if s ∈ ns then ns.findIdx (· == s) else -1
theorem atL_some {ns : List Str} {s : Str} {i : Nat} (h : i < ns.length) (he : ns[i] = s) (hk : ∀ k (h : k < ns.length), k < i → ns[k] ≠ s) : atL ns s = i := by
  have hm : s ∈ ns := by rw [← he]; exact List.getElem_mem h
  rw [atL, if_pos hm]
  have : ns.findIdx (· == s) = i := (List.findIdx_eq h).2 ⟨by simpa using he, fun j hj => by simpa using hk j (by omega) hj⟩
  rw [this]
theorem atL_none {ns : List Str} {s : Str} (hk : ∀ k (h : k < ns.length), ns[k] ≠ s) : atL ns s = -1 := by
  have hm : s ∉ ns := fun h => by
    obtain ⟨k, hk1, hk2⟩ := List.getElem_of_mem h
    exact hk k hk1 hk2
  rw [atL, if_neg hm]
theorem atL_rank {ns : List Str} {s : Str} (hs : ns.Pairwise fun a b => a < b) (h : s ∈ ns) : atL ns s = rankL ns s := by
  obtain ⟨i, hi, he⟩ := List.getElem_of_mem h
  have hp := List.pairwise_iff_getElem.1 hs
  have h1 : ∀ k (h : k < ns.length), k < i → ns[k] < s := fun k hk hki => by rw [← he]; exact hp k i hk hi hki
  have h2 : rankL ns s = i := rank_eq (by omega) h1 fun hh => by rw [he]; exact List.lt_irrefl s
  rw [h2]
  exact atL_some hi he fun k hk hki e => by have := h1 k hk hki; rw [e] at this; exact List.lt_irrefl s this

theorem at_call {base : List AObj} {pn : Nat} {ns : List Str} {s : Str} (hn : base[pn]? = some (.row T_sl_string 1 [[aStrs ns]] (.own 0 true true))) (hnl : ns.length < 4611686018427387904) {K : AV → AHeap → Prop} (hk : K (.int .i64 (atL ns s)) (AHeap.of base)) :
    ACalls Try.prog law13_StrataNames_f1_id [.str s, .ptr pn 0 0] K (AHeap.of base) := by
  refine acalls law13_StrataNames_f1_ok (by simp [law13_StrataNames_f1]) ?_
  have fin : ∀ (fr : AFr) (a : Int), look fr 3 = some (.int .i64 a) → a = atL ns s → bodyQ [XRes.tmp 3] K .ret fr (AHeap.of base) := by
    intro fr a h1 h2
    simp [h1, h2, hk]
  show dwp Try.prog law13_StrataNames_f1.body (bodyQ [XRes.tmp 3] K) _ _
  generalize bodyQ [XRes.tmp 3] K = Q at fin ⊢
  simp [law13_StrataNames_f1, law13_StrataNames_f1_13, law13_StrataNames_f1_12, law13_StrataNames_f1_10, hn, aStrs]
  refine dwp_loop' (fun n vs H => ∃ i : Nat, vs = [.str s, .ptr pn 0 0, .int .i64 ns.length, .int .i64 i] ∧ i + n = ns.length ∧ H = AHeap.of base ∧ ∀ k (h : k < ns.length), k < i → ns[k] ≠ s) ns.length ?_ ?_
  · exact kept_of (vs := [.str s, .ptr pn 0 0, .int .i64 ns.length, .int .i64 (0 : Nat)]) (by simp) ⟨0, rfl, by simp, rfl, by omega⟩
  · rintro K1 Q1 n vs H hK hQ ⟨i, rfl, hi, rfl, h1⟩
    rcases Nat.lt_or_ge i ns.length with hlt | hlt
    · have hw1 := wrap_nat1 (n := i) (by omega)
      by_cases he : ns[i] = s
      · simp [law13_StrataNames_f1_9, law13_StrataNames_f1_0, law13_StrataNames_f1_8, law13_StrataNames_f1_7, law13_StrataNames_f1_5, law13_StrataNames_f1_4, law13_StrataNames_f1_1, law13_StrataNames_f1_3, law13_StrataNames_f1_2, hlt, hn, aStrs, encStr, he]
        exact hQ .ret _ _ (fin _ i (by simp) (atL_some hlt he h1).symm)
      · have he' : (ns[i] == s) = false := by simpa using he
        simp [law13_StrataNames_f1_9, law13_StrataNames_f1_0, law13_StrataNames_f1_8, law13_StrataNames_f1_7, law13_StrataNames_f1_5, law13_StrataNames_f1_4, law13_StrataNames_f1_1, law13_StrataNames_f1_3, law13_StrataNames_f1_6, hlt, hn, aStrs, encStr, he', hw1]
        refine hK (n - 1) _ _ (by omega) ⟨i + 1, rfl, by omega, rfl, fun k hk hki => ?_⟩
        rcases Nat.lt_or_ge k i with hh | hh
        · exact h1 k hk hh
        · have : k = i := by omega
          subst this; exact he
    · have e : i = ns.length := by omega
      subst e
      simp [law13_StrataNames_f1_9, law13_StrataNames_f1_8, law13_StrataNames_f1_0]
      refine hQ (.exit 0) _ _ ?_
      simp [law13_StrataNames_f1_11]
      exact fin _ _ (by simp) (atL_none fun k hk => h1 k hk hk).symm

theorem lfew_pc (p : LProg) : PC Try.prog law13_few_id [.agg (encProg p)] (.bool (fewB p 10 8)) := by
  refine PC.of law13_few_ok (by simp [law13_few]) ?_
  simp [law13_few, law13_few_0, law13_few_1]
  refine (few_pc p 10 8 (by omega) (by omega)).use (by simp) ?_
  simp

theorem fewL_len {ls : List LLit} {st st' : Nat} (h : fewL ls st = some st') : ∀ l ∈ ls, l.path.length ≤ 30 := by
  induction ls generalizing st with
  | nil => simp
  | cons a ls ih =>
    simp only [fewL] at h
    split at h
    · cases h
    · rename_i hn
      intro l hl
      rcases List.mem_cons.1 hl with rfl | hl
      · omega
      · exact ih h l hl
theorem fewR_len {k : Nat} {rs : List LRule} {st : Nat} (h : fewR k rs st = true) : ∀ r ∈ rs, r.body.length ≤ k ∧ ∀ l ∈ r.body, l.path.length ≤ 30 := by
  induction rs generalizing st with
  | nil => simp
  | cons a rs ih =>
    simp only [fewR] at h
    split at h
    · cases h
    · rename_i hn
      split at h
      · rename_i st' hs
        intro r hr
        rcases List.mem_cons.1 hr with rfl | hr
        · exact ⟨by omega, fewL_len hs⟩
        · exact ih h r hr
      · cases h
theorem FewOk.of {p : LProg} (h : fewB p 10 8 = true) : FewOk p := by
  simp only [fewB] at h
  split at h
  · cases h
  · rename_i hn
    have := fewR_len h
    exact ⟨by omega, fun r hr => by have := (this r hr).1; omega, fun r hr l hl => by have := (this r hr).2 l hl; omega⟩
end Go.Am.A
