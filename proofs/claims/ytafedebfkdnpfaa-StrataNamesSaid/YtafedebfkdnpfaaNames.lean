/- What functions of the program compute, under the conditions that each statement names. -/
import Derived.Test.YtafedebfkdnpfaaEach
namespace Go.Am.A
open Go Go.Proofs Go.Am

/-- Names$1: one name more -/
theorem names_f1 {p : Nat} {base : List AObj} {ss : List Str} {l : LLit} {s : Str} {q : Nat} (h : GAcc p T_sl_string T_string 1 base (ss.map encStr)) (hn : ss.length < 4611686018427) (hq : base[q]? = some (lbox l)) {K : AV → AHeap → Prop}
    (hK : ∀ v base', GAcc p T_sl_string T_string 1 base' ((ss ++ [s]).map encStr) → base'[q]? = some (lbox l) → K v (AHeap.of base')) :
    ACalls Try.prog strata_Names_f1_id ([.agg (encLit l), .str s] ++ [.ptr p 0 0]) K (AHeap.of base) := by
  refine acalls strata_Names_f1_ok (by simp [strata_Names_f1]) ?_
  obtain ⟨v, v', l', h1, h2, e1, e2, e3, e4, e5, e6⟩ := (h.mono [lbox l]).app1 (T' := T_string) (bytes := 16) (by decide) (encStr s) (.own 0 true true) (by simp [room]; omega)
  simp [lbox, encStr] at e1 h1
  obtain ⟨e3, e2v⟩ := List.getElem?_eq_some_iff.1 e2
  simp [strata_Names_f1, strata_Names_f1_1, strata_Names_f1_0, h1, chunk, e1, e2v, e3, e4, h2]
  refine hK _ _ (by simpa [encStr] using e5) ?_
  have hqp : q ≠ p := by
    rintro rfl
    obtain ⟨v0, k1, _⟩ := h
    rw [hq] at k1
    simp [lbox] at k1
  refine e6 q (lbox l) hqp ?_ ?_
  · rw [List.getElem?_append_left (List.getElem?_eq_some_iff.1 hq).1]; exact hq
  · intro rs ow hh
    simp [lbox] at hh

/-- the names that are gathered -/
def namesG (p : LProg) : List Str := p.query.pred :: p.rules.flatMap fun r => r.head.pred :: (pairsL r.body).map (·.2)
def namesL (p : LProg) : List Str := sortU (namesG p)
/-- of a size that is looked at -/
structure FewOk (p : LProg) : Prop where
  rules : p.rules.length ≤ 1000
  body : ∀ r ∈ p.rules, r.body.length ≤ 1000
  path : ∀ r ∈ p.rules, ∀ l ∈ r.body, l.path.length ≤ 1000

theorem pairsL_length {ls : List LLit} (h : ∀ l ∈ ls, l.path.length ≤ 1000) : (pairsL ls).length ≤ ls.length * 1000 := by
  induction ls with
  | nil => simp [pairsL]
  | cons a ls ih =>
    have h1 := usesL_length a (h a List.mem_cons_self)
    have h2 := ih fun l hl => h l (List.mem_cons_of_mem _ hl)
    simp [pairsL] at h2 ⊢
    omega
theorem flat_length {rs : List LRule} (hb : ∀ r ∈ rs, r.body.length ≤ 1000) (hp : ∀ r ∈ rs, ∀ l ∈ r.body, l.path.length ≤ 1000) : (rs.flatMap fun r => r.head.pred :: (pairsL r.body).map (·.2)).length ≤ rs.length * 1000001 := by
  induction rs with
  | nil => simp
  | cons a rs ih =>
    have h1 := pairsL_length (hp a List.mem_cons_self)
    have h3 := hb a List.mem_cons_self
    have h2 := ih (fun l hl => hb l (List.mem_cons_of_mem _ hl)) fun l hl => hp l (List.mem_cons_of_mem _ hl)
    simp only [List.flatMap_cons, List.length_append, List.length_cons, List.length_map]
    omega
theorem take_flat_length {p : LProg} (h : FewOk p) (i : Nat) : ((p.rules.take i).flatMap fun r => r.head.pred :: (pairsL r.body).map (·.2)).length ≤ 1000001000 := by
  refine Nat.le_trans (flat_length (fun r hr => h.body r (List.mem_of_mem_take hr)) fun r hr => h.path r (List.mem_of_mem_take hr)) ?_
  have h1 := h.rules
  have : (p.rules.take i).length ≤ 1000 := by simp; omega
  omega

set_option maxHeartbeats 2000000 in
theorem names_pc (hS : SortC Try.prog slices_Sort_string_id) (p : LProg) (hf : FewOk p) : PC Try.prog strata_Names_id [.agg (encProg p)] (aStrs (namesL p)) := by
  refine PC.of strata_Names_ok (by simp [strata_Names]) ?_
  simp [strata_Names, strata_Names_16, strata_Names_15, strata_Names_0, strata_Names_14, strata_Names_12, strata_Names_1, chunk]
  refine dwp_loop' (fun n vs H => ∃ (i : Nat) (base : List AObj), vs = [.ptr 2 0 0, .fs 4 (p.rules.map encRule), .int .i64 p.rules.length, .int .i64 i] ∧ i + n = p.rules.length ∧ H = AHeap.of base ∧
    GAcc 2 T_sl_string T_string 1 base ((p.query.pred :: (p.rules.take i).flatMap fun r => r.head.pred :: (pairsL r.body).map (·.2)).map encStr)) p.rules.length ?_ ?_
  · exact kept_of (vs := [.ptr 2 0 0, .fs 4 (p.rules.map encRule), .int .i64 p.rules.length, .int .i64 (0 : Nat)]) (by simp) ⟨0, _, rfl, by simp, rfl, .slice 1 1 0 1 1, by simp, .inr ⟨1, 0, true, by simp, by simp, by simp, by simp [encStr], by simp⟩⟩
  · rintro K1 Q1 n vs H1 hK1 hQ1 ⟨i, base, rfl, hi, rfl, hg⟩
    rcases Nat.lt_or_ge i p.rules.length with hlt | hlt
    · have hw1 := wrap_nat1 (n := i) (by have := hf.rules; omega)
      have hmem : p.rules[i] ∈ p.rules := List.getElem_mem hlt
      have hl1 := take_flat_length hf i
      obtain ⟨v, v', l', h1, h2, e1, e2, e3, e4, e5, e6⟩ := (hg.mono [.row T_api_Rule 4 [encRule p.rules[i]] (.own 0 true true)]).app1 (T' := T_string) (bytes := 16) (by decide) (encStr p.rules[i].head.pred) (.own 0 true true) (by simp [room] at hl1 ⊢; omega)
      simp [encStr] at e1 h1
      obtain ⟨e3, e2v⟩ := List.getElem?_eq_some_iff.1 e2
      have hrb : (l'.set 2 (.row T_sl_string 1 [[v']] (.own 0 true true)))[base.length]? = some (.row T_api_Rule 4 [encRule p.rules[i]] (.own 0 true true)) := by
        refine e6 base.length _ ?_ (by simp) ?_
        · rintro h; obtain ⟨v0, k1, _⟩ := hg; rw [← h] at k1; simp at k1
        · intro rs ow hh; simp at hh
      simp [strata_Names_11, strata_Names_10, strata_Names_2, strata_Names_9, strata_Names_7, strata_Names_6, strata_Names_3, strata_Names_4, strata_Names_5, hlt, h1, chunk, e1, e2v, e3, e4, h2, hrb]
      refine each_call hS (hf.path _ hmem) (by have := hf.body _ hmem; omega) (x := p.rules[i]) (f := strata_Names_f1_id) (caps := [.ptr 2 0 0]) (done0 := [])
        (Inv := fun done base => GAcc 2 T_sl_string T_string 1 base ((p.query.pred :: ((p.rules.take i).flatMap (fun r => r.head.pred :: (pairsL r.body).map (·.2)) ++ p.rules[i].head.pred :: done.map (·.2))).map encStr)) ?_ ?_ ?_ ?_
      · intro done base o h; exact h.mono _
      · intro l s done base q K _ _ hdl hinv hq hk
        have h1 := pairsL_length (hf.path _ hmem)
        have h2 := hf.body _ hmem
        refine names_f1 hinv (by simp at hl1 hdl ⊢; omega) hq fun v base' k1 k2 => hk v base' ?_ k2
        simpa using k1
      · simpa [encStr] using e5
      · intro v base' hinv
        simp [strata_Names_8, hw1]
        refine hK1 (n - 1) _ _ (by omega) ⟨i + 1, base', rfl, by omega, rfl, ?_⟩
        rw [List.take_succ_eq_append_getElem hlt, List.flatMap_append]
        simpa using hinv
    · have e : i = p.rules.length := by omega
      subst e
      simp [strata_Names_11, strata_Names_10, strata_Names_2]
      refine hQ1 (.exit 0) _ _ ?_
      rw [List.take_length] at hg
      obtain ⟨v, h1, h2⟩ := hg
      simp [strata_Names_13, h1]
      refine sorted_acc hS (ss := namesG p) h2.acc ?_ fun v' H' h3 h4 => ?_
      · have := take_flat_length hf p.rules.length
        rw [List.take_length] at this
        simp only [namesG, List.length_cons]; omega
      · simpa [namesL] using h4
end Go.Am.A
