/- What functions of the program compute, under the conditions that each statement names. -/
import Derived.Test.YtafedebfkdnpfaaAmZa
import Derived.Test.YtafedebfkdnpfaaNames
import Derived.Test.YtafedebfkdnpfaaSearch
import Derived.Test.YtafedebfkdnpfaaCompactP
namespace Go.Am.A
open Go Go.Proofs Go.Am

/-- pairs in order -/
def cmpP (x y : Int × Int) : Int := if x.1 < y.1 then -1 else if y.1 < x.1 then 1 else if x.2 < y.2 then -1 else if y.2 < x.2 then 1 else 0

theorem cmpI_pc (x y : Int) : PC Try.prog cmp_Compare_int_id [.int .i64 x, .int .i64 y] (.int .i64 (if x < y then -1 else if y < x then 1 else 0)) := by
  refine PC.of cmp_Compare_int_ok (by simp [cmp_Compare_int]) ?_
  have e : ∀ x : Int, PC Try.prog cmp_isNaN_int_id [.int .i64 x] (.bool false) := fun x => by
    refine PC.of cmp_isNaN_int_ok (by simp [cmp_isNaN_int]) ?_
    simp [cmp_isNaN_int, cmp_isNaN_int_0, cmp_isNaN_int_1, cmp_isNaN_int_2]
  simp [cmp_Compare_int, cmp_Compare_int_23, cmp_Compare_int_22]
  refine (e x).use (by simp) ?_
  simp [cmp_Compare_int_21]
  refine (e y).use (by simp) ?_
  by_cases h1 : x < y
  · simp [cmp_Compare_int_20, cmp_Compare_int_6, cmp_Compare_int_5, cmp_Compare_int_19, cmp_Compare_int_9, cmp_Compare_int_8, cmp_Compare_int_18, cmp_Compare_int_12, cmp_Compare_int_11, cmp_Compare_int_10, h1]
  · by_cases h2 : y < x
    · simp [cmp_Compare_int_20, cmp_Compare_int_6, cmp_Compare_int_5, cmp_Compare_int_19, cmp_Compare_int_9, cmp_Compare_int_8, cmp_Compare_int_18, cmp_Compare_int_12, cmp_Compare_int_11, cmp_Compare_int_10, cmp_Compare_int_17, cmp_Compare_int_15, cmp_Compare_int_14, cmp_Compare_int_13, h1, h2]
    · simp [cmp_Compare_int_20, cmp_Compare_int_6, cmp_Compare_int_5, cmp_Compare_int_19, cmp_Compare_int_9, cmp_Compare_int_8, cmp_Compare_int_18, cmp_Compare_int_12, cmp_Compare_int_11, cmp_Compare_int_10, cmp_Compare_int_17, cmp_Compare_int_15, cmp_Compare_int_14, cmp_Compare_int_13, cmp_Compare_int_16, h1, h2]

set_option maxHeartbeats 1000000 in
theorem cmpP_pc (x y : Int × Int) : PC Try.prog strata_Needs_f2_id [.agg (encPair x), .agg (encPair y)] (.int .i64 (cmpP x y)) := by
  refine PC.of strata_Needs_f2_ok (by simp [strata_Needs_f2]) ?_
  simp [strata_Needs_f2, strata_Needs_f2_2, strata_Needs_f2_1, strata_Needs_f2_0, encPair]
  refine acalls slices_Compare_int_ok (by simp [slices_Compare_int]) ?_
  simp [slices_Compare_int, slices_Compare_int_27, slices_Compare_int_26, slices_Compare_int_19]
  have fin : ∀ (fr : AFr) (H' : AHeap) (a : Int), look fr 4 = some (.int .i64 a) → a = cmpP x y → bodyQ [XRes.tmp 4] (fun v' _ => v' = AV.int IntKind.i64 (cmpP x y)) .ret fr H' := by
    intro fr H' a h1 h2
    simp [h1, h2]
  generalize bodyQ [XRes.tmp 4] (fun v' _ => v' = AV.int IntKind.i64 (cmpP x y)) = Q at fin ⊢
  refine dwp_loop' (fun n vs H => ∃ i : Nat, vs = [.sub 0 0 0 2, .sub 1 0 0 2, .sub 0 0 0 2, .int .i64 2, .int .i64 i] ∧ i + n = 2 ∧
    H = AHeap.of [.row T_ar2_int 2 [[.int .i64 x.1, .int .i64 x.2]] (.own 0 true true), .row T_ar2_int 2 [[.int .i64 y.1, .int .i64 y.2]] (.own 0 true true)] ∧ (1 ≤ i → x.1 = y.1) ∧ (2 ≤ i → x.2 = y.2)) 2 ?_ ?_
  · exact kept_of (vs := [.sub 0 0 0 2, .sub 1 0 0 2, .sub 0 0 0 2, .int .i64 2, .int .i64 (0 : Nat)]) (by simp) ⟨0, rfl, by omega, rfl, by omega, by omega⟩
  · rintro K2 Q2 n vs H hK hQ ⟨i, rfl, hi, rfl, h1, h2⟩
    have hi2 : i = 0 ∨ i = 1 ∨ i = 2 := by omega
    rcases hi2 with rfl | rfl | rfl
    · simp [slices_Compare_int_18, slices_Compare_int_0, slices_Compare_int_17, slices_Compare_int_16, slices_Compare_int_14, slices_Compare_int_1, slices_Compare_int_13, slices_Compare_int_5, slices_Compare_int_2, slices_Compare_int_4, slices_Compare_int_12, slices_Compare_int_6, slices_Compare_int_11, slices_Compare_int_7]
      refine (cmpI_pc _ _).use (by simp) ?_
      by_cases c1 : x.1 < y.1
      · simp [slices_Compare_int_10, slices_Compare_int_9, slices_Compare_int_8, c1]
        exact hQ .ret _ _ (fin _ _ (-1) (by simp) (by simp [cmpP, c1]))
      · by_cases c2 : y.1 < x.1
        · simp [slices_Compare_int_10, slices_Compare_int_9, slices_Compare_int_8, c1, c2]
          exact hQ .ret _ _ (fin _ _ 1 (by simp) (by simp [cmpP, c1, c2]))
        · simp [slices_Compare_int_10, slices_Compare_int_9, slices_Compare_int_8, slices_Compare_int_15, c1, c2]
          refine hK 1 _ _ (by omega) ⟨1, by simp [wrap64], by omega, rfl, fun _ => by omega, by omega⟩
    · have h1 := h1 (by omega)
      have c1 : ¬ x.1 < y.1 := by omega
      have c2 : ¬ y.1 < x.1 := by omega
      simp [slices_Compare_int_18, slices_Compare_int_0, slices_Compare_int_17, slices_Compare_int_16, slices_Compare_int_14, slices_Compare_int_1, slices_Compare_int_13, slices_Compare_int_5, slices_Compare_int_2, slices_Compare_int_4, slices_Compare_int_12, slices_Compare_int_6, slices_Compare_int_11, slices_Compare_int_7]
      refine (cmpI_pc _ _).use (by simp) ?_
      by_cases c3 : x.2 < y.2
      · simp [slices_Compare_int_10, slices_Compare_int_9, slices_Compare_int_8, c3]
        exact hQ .ret _ _ (fin _ _ (-1) (by simp) (by simp [cmpP, c1, c2, c3]))
      · by_cases c4 : y.2 < x.2
        · simp [slices_Compare_int_10, slices_Compare_int_9, slices_Compare_int_8, c3, c4]
          exact hQ .ret _ _ (fin _ _ 1 (by simp) (by simp [cmpP, c1, c2, c3, c4]))
        · simp [slices_Compare_int_10, slices_Compare_int_9, slices_Compare_int_8, slices_Compare_int_15, c3, c4]
          refine hK 0 _ _ (by omega) ⟨2, by simp [wrap64], by omega, rfl, fun _ => h1, fun _ => by omega⟩
    · have h1 := h1 (by omega)
      have h2 := h2 (by omega)
      simp [slices_Compare_int_18, slices_Compare_int_17, slices_Compare_int_0]
      refine hQ (.exit 0) _ _ ?_
      simp [slices_Compare_int_25, slices_Compare_int_23, slices_Compare_int_20, slices_Compare_int_22, slices_Compare_int_24]
      refine fin _ _ 0 (by simp) (by simp [cmpP, h1, h2])

theorem cmpP_neg {x y : Int × Int} : cmpP x y < 0 ↔ x.1 < y.1 ∨ x.1 = y.1 ∧ x.2 < y.2 := by
  unfold cmpP
  repeat' split
  all_goals omega
theorem ltP {x y : Int × Int} : ltOf cmpP x y = true ↔ x.1 < y.1 ∨ x.1 = y.1 ∧ x.2 < y.2 := by
  simp only [ltOf, decide_eq_true_eq, cmpP_neg]
theorem nltP {x y : Int × Int} : ltOf cmpP x y = false ↔ ¬ (x.1 < y.1 ∨ x.1 = y.1 ∧ x.2 < y.2) := by
  rw [← ltP]; simp
theorem swoP : Go.Sort.SWO (ltOf cmpP) := by
  refine ⟨fun x => ?_, fun x y z h1 h2 => ?_, fun x y z h1 h2 => ?_⟩
  · rw [nltP]; omega
  · rw [ltP] at *; omega
  · rw [nltP] at *; omega
theorem totP (x y : Int × Int) (h1 : ltOf cmpP x y = false) (h2 : ltOf cmpP y x = false) : x = y := by
  rw [nltP] at *
  exact Prod.ext (by omega) (by omega)

set_option maxHeartbeats 1000000 in
/-- Needs$1: one pair more -/
theorem needs_f1 {pn po pf q : Nat} {base : List AObj} {ns : List Str} {r : Nat} {ss : List (Int × Int)} {l : LLit} {s : Str} (hs : ns.Pairwise fun a b => a < b) (hnl : ns.length < 4611686018427387904)
    (hn : base[pn]? = some (.row T_sl_string 1 [[aStrs ns]] (.own 0 true true))) (hf : base[pf]? = some (.row T_int 1 [[.int .i64 r]] (.own 0 true true)))
    (h : GAcc po T_sl_ar2_int T_ar2_int 2 base (ss.map encPair)) (hl : ss.length < 4611686018427) (hq : base[q]? = some (lbox l)) {K : AV → AHeap → Prop}
    (hK : ∀ v base', GAcc po T_sl_ar2_int T_ar2_int 2 base' ((ss ++ [((r : Int), (rankL ns s : Int))]).map encPair) → base'[pn]? = some (.row T_sl_string 1 [[aStrs ns]] (.own 0 true true)) →
      base'[pf]? = some (.row T_int 1 [[.int .i64 r]] (.own 0 true true)) → base'[q]? = some (lbox l) → K v (AHeap.of base')) :
    ACalls Try.prog strata_Needs_f1_id ([.agg (encLit l), .str s] ++ [.ptr pn 0 0, .ptr po 0 0, .ptr pf 0 0]) K (AHeap.of base) := by
  refine acalls strata_Needs_f1_ok (by simp [strata_Needs_f1]) ?_
  obtain ⟨hnl1, hnv⟩ := List.getElem?_eq_some_iff.1 hn
  obtain ⟨hfl1, hfv⟩ := List.getElem?_eq_some_iff.1 hf
  have hn' : (base ++ [AObj.row T_api_Literal 17 [encLit l] (.own 0 true true)])[pn]? = some (.row T_sl_string 1 [[aStrs ns]] (.own 0 true true)) := by rw [List.getElem?_append_left hnl1]; exact hn
  have hf' : (base ++ [AObj.row T_api_Literal 17 [encLit l] (.own 0 true true)])[pf]? = some (.row T_int 1 [[.int .i64 r]] (.own 0 true true)) := by rw [List.getElem?_append_left hfl1]; exact hf
  have hnp : ∀ {p : Nat} {T : TypeId} {v : AV}, base[p]? = some (.row T 1 [[v]] (.own 0 true true)) → T ≠ T_sl_ar2_int → p ≠ po := by
    rintro p T v hp hT rfl
    obtain ⟨v0, k1, _⟩ := h
    rw [hp] at k1
    cases k1
    exact hT rfl
  have hqp : q ≠ po := by
    rintro rfl
    obtain ⟨v0, k1, _⟩ := h
    rw [hq] at k1
    simp [lbox] at k1
  simp [strata_Needs_f1, strata_Needs_f1_3, strata_Needs_f1_2, strata_Needs_f1_0, hn', chunk]
  refine (search_pc ns s hs hnl).use (by simp [aStrs]) ?_
  obtain ⟨v, v', l', h1, h2, e1, e2, e3, e4, e5, e6⟩ := (h.mono [lbox l]).app1 (T' := T_ar2_int) (bytes := 16) (by decide) (encPair ((r : Int), (rankL ns s : Int))) (.own 0 true true) (by simp [room]; omega)
  obtain ⟨e3, e2v⟩ := List.getElem?_eq_some_iff.1 e2
  simp [lbox, encPair] at e1 h1
  simp [strata_Needs_f1_1, hf', h1, e1, e2v, e3, e4, h2, chunk]
  have keep : ∀ {p : Nat} {o : AObj}, p ≠ po → base[p]? = some o → (∀ rs ow, o ≠ .row T_ar2_int 2 rs ow) → (l'.set po (AObj.row T_sl_ar2_int 1 [[v']] (Own.own 0 true true)))[p]? = some o := fun {p o} hp ho hno => by
    refine e6 p _ hp ?_ hno
    rw [List.getElem?_append_left (List.getElem?_eq_some_iff.1 ho).1]; exact ho
  refine hK _ _ (by simpa [encPair] using e5) (keep (hnp hn (by decide)) hn ?_) (keep (hnp hf (by decide)) hf ?_) (keep hqp hq ?_)
  · intro rs ow hh; cases hh
  · intro rs ow hh; cases hh
  · intro rs ow hh; simp [lbox] at hh

/-- the pairs that are gathered -/
def needsG (p : LProg) : List (Int × Int) := p.rules.flatMap fun r => (pairsL r.body).map fun q => ((rankL (namesL p) r.head.pred : Int), (rankL (namesL p) q.2 : Int))
def needsL (p : LProg) : List (Int × Int) := uniq ((needsG p).mergeSort fun x y => !(ltOf cmpP) y x)

theorem needs_len {p : LProg} (h : FewOk p) (i : Nat) (f : LRule → LLit × Str → Int × Int) : ((p.rules.take i).flatMap fun r => (pairsL r.body).map (f r)).length ≤ 1000001000 := by
  refine Nat.le_trans ?_ (take_flat_length h i)
  generalize p.rules.take i = rs
  induction rs with
  | nil => simp
  | cons a rs ih => simp only [List.flatMap_cons, List.length_append, List.length_map, List.length_cons]; omega

set_option maxHeartbeats 4000000 in
theorem needs_pc (hS : SortC Try.prog slices_Sort_string_id) (hS2 : SortPC Try.prog slices_SortFunc_sl_ar2_int_ar2_int_id) (p : LProg) (hf : FewOk p) : PC Try.prog strata_Needs_id [.agg (encProg p)] (aPairs (needsL p)) := by
  refine PC.of strata_Needs_ok (by simp [strata_Needs]) ?_
  have hns := sortU_sorted (namesG p)
  have hnl : (namesL p).length < 4611686018427387904 := by
    have h1 := sortU_length (namesG p)
    have h2 := take_flat_length hf p.rules.length
    rw [List.take_length] at h2
    simp only [namesL, namesG, List.length_cons] at h1 ⊢
    omega
  simp [strata_Needs, strata_Needs_18, strata_Needs_17, strata_Needs_0, chunk]
  refine (names_pc hS p hf).use (by simp) ?_
  simp [strata_Needs_16, strata_Needs_15, strata_Needs_12, strata_Needs_1, aStrs]
  let fr := fun (r : LRule) (q : LLit × Str) => ((rankL (namesL p) r.head.pred : Int), (rankL (namesL p) q.2 : Int))
  refine dwp_loop' (fun n vs H => ∃ (i : Nat) (base : List AObj), vs = [.ptr 1 0 0, .ptr 2 0 0, .fs 4 (p.rules.map encRule), .int .i64 p.rules.length, .int .i64 i] ∧ i + n = p.rules.length ∧ H = AHeap.of base ∧
    base[1]? = some (.row T_sl_string 1 [[aStrs (namesL p)]] (.own 0 true true)) ∧ GAcc 2 T_sl_ar2_int T_ar2_int 2 base (((p.rules.take i).flatMap fun r => (pairsL r.body).map (fr r)).map encPair)) p.rules.length ?_ ?_
  · exact kept_of (vs := [.ptr 1 0 0, .ptr 2 0 0, .fs 4 (p.rules.map encRule), .int .i64 p.rules.length, .int .i64 (0 : Nat)]) (by simp) ⟨0, _, rfl, by simp, rfl, by simp [aStrs], .nilslice, by simp, .inl ⟨rfl, rfl⟩⟩
  · rintro K1 Q1 n vs H1 hK1 hQ1 ⟨i, base, rfl, hi, rfl, hnm, hg⟩
    rcases Nat.lt_or_ge i p.rules.length with hlt | hlt
    · have hw1 := wrap_nat1 (n := i) (by have := hf.rules; omega)
      have hmem : p.rules[i] ∈ p.rules := List.getElem_mem hlt
      have hl1 := needs_len hf i fr
      have hnm' : (base ++ [AObj.row T_api_Rule 4 [encRule p.rules[i]] (.own 0 true true)])[1]? = some (.row T_sl_string 1 [[aStrs (namesL p)]] (.own 0 true true)) := by
        rw [List.getElem?_append_left (List.getElem?_eq_some_iff.1 hnm).1]; exact hnm
      simp [strata_Needs_11, strata_Needs_10, strata_Needs_2, strata_Needs_9, strata_Needs_7, strata_Needs_6, strata_Needs_3, strata_Needs_4, hlt, hnm']
      refine (search_pc (namesL p) p.rules[i].head.pred hns hnl).use (by simp [aStrs]) ?_
      simp [strata_Needs_5, chunk]
      have hpf : ∀ (G : List AObj) {o : AObj} {q : Nat}, base[q]? = some o → (base ++ G)[q]? = some o := fun G o q h => by
        rw [List.getElem?_append_left (List.getElem?_eq_some_iff.1 h).1]; exact h
      refine each_call hS (hf.path _ hmem) (by have := hf.body _ hmem; omega) (x := p.rules[i]) (f := strata_Needs_f1_id) (caps := [.ptr 1 0 0, .ptr 2 0 0, .ptr (base.length + 1) 0 0]) (done0 := [])
        (Inv := fun done bs => GAcc 2 T_sl_ar2_int T_ar2_int 2 bs (((p.rules.take i).flatMap (fun r => (pairsL r.body).map (fr r)) ++ done.map (fr p.rules[i])).map encPair) ∧ bs[1]? = some (.row T_sl_string 1 [[aStrs (namesL p)]] (.own 0 true true)) ∧
          bs[base.length + 1]? = some (.row T_int 1 [[.int .i64 (rankL (namesL p) p.rules[i].head.pred)]] (.own 0 true true))) ?_ ?_ ?_ ?_
      · intro done bs o ⟨h1, h2, h3⟩
        refine ⟨h1.mono _, ?_, ?_⟩
        · rw [List.getElem?_append_left (List.getElem?_eq_some_iff.1 h2).1]; exact h2
        · rw [List.getElem?_append_left (List.getElem?_eq_some_iff.1 h3).1]; exact h3
      · intro l s done bs q K _ _ hdl ⟨h1, h2, h3⟩ hq hk
        have g1 := pairsL_length (hf.path _ hmem)
        have g2 := hf.body _ hmem
        refine needs_f1 (ns := namesL p) hns hnl h2 h3 h1 (by simp only [List.length_append, List.length_map, List.length_nil] at hl1 hdl ⊢; omega) hq fun v base' k1 k2 k3 k4 => hk v base' ⟨?_, k2, k3⟩ k4
        simpa [fr] using k1
      · refine ⟨by simpa using hg.mono _, hpf _ hnm, by simp⟩
      · intro v base' ⟨h1, h2, _⟩
        simp [strata_Needs_8, hw1]
        refine hK1 (n - 1) _ _ (by omega) ⟨i + 1, base', rfl, by omega, rfl, h2, ?_⟩
        rw [List.take_succ_eq_append_getElem hlt, List.flatMap_append]
        simpa using h1
    · have e : i = p.rules.length := by omega
      subst e
      simp [strata_Needs_11, strata_Needs_10, strata_Needs_2]
      refine hQ1 (.exit 0) _ _ ?_
      rw [List.take_length] at hg
      obtain ⟨v, h1, h2⟩ := hg
      simp [strata_Needs_14, strata_Needs_13, h1]
      have hgl : (needsG p).length ≤ 1000001000 := by
        have := needs_len hf p.rules.length fr
        rw [List.take_length] at this
        exact this
      have e0 : (p.rules.flatMap fun r => (pairsL r.body).map (fr r)) = needsG p := rfl
      rw [e0] at h2
      rcases Classical.em (needsG p = []) with hz | hz
      · rw [hz] at h2
        rcases h2 with ⟨rfl, _⟩ | ⟨b, d, s, _, _, _, _, hne⟩
        · refine (sort_pairs (by kernel_rfl) hS2 swoP totP cmpP_pc (H := AHeap.of base) (v := .nilslice) (ss := []) (by simp) (by simp) (.inl rfl)).mono ?_
          rintro r H' ⟨rfl, h | ⟨_, _, _, _, h, _⟩⟩
          · obtain ⟨_, rfl⟩ := h
            simp [h1]
            refine acalls slices_Compact_sl_ar2_int_ar2_int_ok (by simp [slices_Compact_sl_ar2_int_ar2_int]) ?_
            simp [slices_Compact_sl_ar2_int_ar2_int, slices_Compact_sl_ar2_int_ar2_int_36, slices_Compact_sl_ar2_int_ar2_int_35, slices_Compact_sl_ar2_int_ar2_int_2, slices_Compact_sl_ar2_int_ar2_int_1, slices_Compact_sl_ar2_int_ar2_int_0]
            have e : needsL p = [] := by rw [needsL, hz]; simp [uniq_nil]
            simp [aPairs, e]
          · cases h
        · simp at hne
      · generalize hms : ((needsG p).mergeSort fun x y => !(ltOf cmpP) y x) = ms
        have hml : ms.length = (needsG p).length := by rw [← hms]; simp
        obtain ⟨b, d, l', rfl, k2, k3, k4⟩ := h2.put (new := ms.map encPair) (by simpa using hz) (by simp [hml]) (by rintro e he; obtain ⟨q, _, rfl⟩ := List.mem_map.1 he; rfl)
        refine (sort_pairs (by kernel_rfl) hS2 swoP totP cmpP_pc (H := AHeap.of base) (ss := needsG p) h2.acc.elems (by omega) (.inr ⟨b, 0, _, _, _, rfl, by rw [hms]; exact k2⟩)).mono ?_
        rintro r H' ⟨rfl, h | ⟨b', i', l1, c', h, hp⟩⟩
        · exact absurd h.1 hz
        · simp only [AV.slice.injEq, true_and] at h
          obtain ⟨rfl, rfl, rfl, rfl⟩ := h
          rw [hms, k2] at hp
          have hp := Option.some.inj hp
          subst hp
          simp [k4 _ _ _ h1 (by decide)]
          have := compact_pair k3 (by omega)
          refine this.mono ?_
          rintro v' H' ⟨tail, c, rfl, rfl⟩
          obtain ⟨hb2, _⟩ := List.getElem?_eq_some_iff.1 k3
          have e : needsL p = uniq ms := by rw [needsL, hms]
          rw [e, aPairs]
          refine Frz.slice (T := T_ar2_int) (d := d) (h := true) (s := true) (rs := (uniq ms).map encPair ++ tail) (by simp [hb2]) (by simp) ?_
          simp
          exact Frzss.self (nrss_pair _)
end Go.Am.A
