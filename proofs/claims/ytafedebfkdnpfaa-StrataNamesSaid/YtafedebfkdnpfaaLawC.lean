/- What functions of the program compute, under the conditions that each statement names. -/
import Derived.Test.YtafedebfkdnpfaaLawB
namespace Go.Am.A
open Go Go.Proofs Go.Am

set_option maxHeartbeats 4000000 in
/-- is what a rule's literal uses needed by its head? -/
theorem need_loop {p : LProg} {ns : List Str} (hnl : ns.length < 4611686018427387904) {nd : List (Int × Int)} (hnd : nd.length < 4611686018427387904) {k : Nat} (hk : k < p.rules.length) {s : Str} {v7 v162 v163 v171 v172 v173 v178 v179 v180 : AV} {fr : AFr} {base : List AObj} (hm : LMem p ns base)
    (l1 : look fr 1 = some (.ptr 0 0 0)) (l4 : look fr 4 = some atV) (l6 : look fr 6 = some (aPairs nd)) (l7 : look fr 7 = some v7) (l15 : look fr 15 = some (.int .i64 k)) (l19 : look fr 19 = some (.str s)) (l20 : look fr 20 = some (.bool false))
    (l162 : look fr 162 = some v162) (l163 : look fr 163 = some v163) (l171 : look fr 171 = some v171) (l172 : look fr 172 = some v172) (l173 : look fr 173 = some v173) (l178 : look fr 178 = some v178) (l179 : look fr 179 = some v179) (l180 : look fr 180 = some v180) {Q : XPost}
    (hQ : ∀ fr' base', LMem p ns base' → look fr' 1 = some (.ptr 0 0 0) → look fr' 4 = some atV → look fr' 6 = some (aPairs nd) → look fr' 7 = some v7 → look fr' 15 = some (.int .i64 k) → look fr' 20 = some (.bool (nd.any fun t => hit ns t p.rules[k] s)) →
      look fr' 162 = some v162 → look fr' 163 = some v163 → look fr' 171 = some v171 → look fr' 172 = some v172 → look fr' 173 = some v173 → look fr' 178 = some v178 → look fr' 179 = some v179 → look fr' 180 = some v180 → Q .normal fr' (AHeap.of base')) :
    dwp Try.prog law13_StrataNames_73 Q fr (AHeap.of base) := by
  have l6' := l6
  rw [aPairs] at l6'
  simp [law13_StrataNames_73, l6', l1, l4, l7, l15, l19, l20, l162, l163, l171, l172, l173, l178, l179, l180]
  refine dwp_loop' (fun n vs H => ∃ (i : Nat), vs = [.ptr 0 0 0, atV, aPairs nd, v7, .int .i64 k, .str s, .bool ((nd.take i).any fun t => hit ns t p.rules[k] s), v162, v163, v171, v172, v173, v178, v179, v180, .int .i64 nd.length, .int .i64 i] ∧ i + n = nd.length ∧ H = AHeap.of base) nd.length ?_ ?_
  · exact kept_of (vs := [.ptr 0 0 0, atV, aPairs nd, v7, .int .i64 k, .str s, .bool false, v162, v163, v171, v172, v173, v178, v179, v180, .int .i64 nd.length, .int .i64 (0 : Nat)]) (by simp [aPairs, l1, l4, l6, l6', l7, l15, l19, l20, l162, l163, l171, l172, l173, l178, l179, l180]) ⟨0, by simp, by simp, rfl⟩
  · rintro K1 Q1 n vs H hK1 hQ1 ⟨i, rfl, hi, rfl⟩
    rcases Nat.lt_or_ge i nd.length with hlt | hlt
    · have hw1 := wrap_nat1 (n := i) (by omega)
      have htake : ((nd.take (i + 1)).any fun t => hit ns t p.rules[k] s) = (((nd.take i).any fun t => hit ns t p.rules[k] s) || hit ns nd[i] p.rules[k] s) := by
        rw [List.take_succ_eq_append_getElem hlt, List.any_append]; simp
      simp [law13_StrataNames_72, law13_StrataNames_66, law13_StrataNames_71, law13_StrataNames_70, law13_StrataNames_68, hlt]
      cases hfl : ((nd.take i).any fun t => hit ns t p.rules[k] s)
      · simp [law13_StrataNames_67, law13_StrataNames_69, hfl, hm.1, encProg, hk, encRule, encAtom, aPairs, hlt, encPair]
        refine at_call hm.2 hnl ?_
        simp [law13_StrataNames_67, law13_StrataNames_69, hfl, hm.1, encProg, hk, encRule, encAtom, aPairs, hlt, encPair]
        refine at_call hm.2 hnl ?_
        simp [hw1]
        refine hK1 (n - 1) _ _ (by omega) ⟨i + 1, ?_, by omega, rfl⟩
        simp only [htake]
        rw [hfl]; simp [hit, aPairs]
        rw [Bool.eq_iff_iff]
        simp only [Bool.and_eq_true, beq_iff_eq]
        constructor <;> rintro ⟨h1, h2⟩ <;> exact ⟨h1.symm, h2.symm⟩
      · simp [law13_StrataNames_67, law13_StrataNames_69, hfl, hw1]
        refine hK1 (n - 1) _ _ (by omega) ⟨i + 1, ?_, by omega, rfl⟩
        simp only [htake]
        rw [hfl]; simp
    · have e : i = nd.length := by omega
      subst e
      simp [law13_StrataNames_72, law13_StrataNames_66, law13_StrataNames_71]
      refine hQ1 (.exit 16) _ _ ?_
      simp
      refine hQ _ _ hm ?_ ?_ ?_ ?_ ?_ ?_ ?_ ?_ ?_ ?_ ?_ ?_ ?_ ?_ <;> simp
end Go.Am.A
