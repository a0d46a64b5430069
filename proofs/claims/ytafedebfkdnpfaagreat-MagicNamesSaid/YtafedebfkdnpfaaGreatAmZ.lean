/- The abstract machine, part Z: what is gathered by append. -/
import Derived.Test.YtafedebfkdnpfaaGreatAmY
namespace Go.Am
open Go

/-- a slice of one's own, all of its row, behind the first k blocks -/
def Acc (k : Nat) (l : List AObj) (T : TypeId) (sz : Nat) (v : AV) (es : List (List AV)) : Prop :=
  (v = .nilslice ∧ es = []) ∨ ∃ b d s, k ≤ b ∧ d ≤ b ∧ v = .slice sz b 0 es.length es.length ∧ l[b]? = some (.row T sz es (.own d true s)) ∧ es ≠ []

theorem Acc.nil (k : Nat) (l : List AObj) (T : TypeId) (sz : Nat) : Acc k l T sz .nilslice [] := .inl ⟨rfl, rfl⟩
theorem Acc.mono {k : Nat} {l : List AObj} {T : TypeId} {sz : Nat} {v : AV} {es : List (List AV)} (h : Acc k l T sz v es) (m : List AObj) : Acc k (l ++ m) T sz v es := by
  rcases h with h | ⟨b, d, s, h1, h0, h2, h3, h4⟩
  · exact .inl h
  · refine .inr ⟨b, d, s, h1, h0, h2, ?_, h4⟩
    rw [List.getElem?_append_left (List.getElem?_eq_some_iff.1 h3).1]; exact h3
theorem Acc.mono1 {k : Nat} {a : AObj} {l : List AObj} {T : TypeId} {sz : Nat} {v : AV} {es : List (List AV)} (h : Acc k (a :: l) T sz v es) (m : List AObj) : Acc k (a :: (l ++ m)) T sz v es := h.mono m
theorem Acc.mono2 {k : Nat} {a b : AObj} {l : List AObj} {T : TypeId} {sz : Nat} {v : AV} {es : List (List AV)} (h : Acc k (a :: b :: l) T sz v es) (m : List AObj) : Acc k (a :: b :: (l ++ m)) T sz v es := h.mono m
theorem Acc.one {k : Nat} {l : List AObj} {T : TypeId} {sz : Nat} {v : AV} {es : List (List AV)} (h : Acc k l T sz v es) : v.one = true := by
  rcases h with ⟨rfl, _⟩ | ⟨b, d, s, _, _, rfl, _⟩ <;> simp
theorem Acc.len {k : Nat} {l : List AObj} {T : TypeId} {sz : Nat} {v : AV} {es : List (List AV)} (h : Acc k l T sz v es) : vlen v = some (.int .i64 es.length) := by
  rcases h with ⟨rfl, rfl⟩ | ⟨b, d, s, _, _, rfl, _⟩ <;> simp
theorem Acc.frz {k : Nat} {l : List AObj} {T : TypeId} {sz : Nat} {v : AV} {es : List (List AV)} (h : Acc k l T sz v es) (hn : AV.nrss es = true) : Frz (AHeap.of l) v (.fs sz es) := by
  rcases h with ⟨rfl, rfl⟩ | ⟨b, d, s, _, _, rfl, h3, _⟩
  · simp
  · exact Frz.row (of_get_some h3) hn
theorem Acc.elems {k : Nat} {l : List AObj} {T : TypeId} {sz : Nat} {v : AV} {es : List (List AV)} (h : Acc k l T sz v es) : (AHeap.of l).elems sz v = some es := by
  rcases h with ⟨rfl, rfl⟩ | ⟨b, d, s, _, _, rfl, h3, _⟩
  · simp
  · simp only [elems_slice, of_get_some h3, oelems_row]
    by_cases h0 : es = []
    · simp [h0]
    · have : ¬ es.length = 0 := fun h => h0 (List.eq_nil_of_length_eq_zero h)
      simp [this]

theorem set_app {α : Type} {live G : List α} {b : Nat} (h : live.length ≤ b) (x : α) : (live ++ G).set b x = live ++ G.set (b - live.length) x := by
  rw [List.set_append, if_neg (by omega)]

/-- more is appended -/
theorem Acc.app {live G : List AObj} {T : TypeId} {sz bytes : Nat} {v : AV} {es new : List (List AV)} (h : Acc live.length (live ++ G) T sz v es) (hne : new ≠ []) (hroom : (es.length + new.length) * bytes ≤ room) :
    ∃ v' G', xappend T sz bytes (AHeap.of (live ++ G)) new v = some (v', AHeap.of (live ++ G')) ∧ Acc live.length (live ++ G') T sz v' (es ++ new) := by
  have hn : ¬ new.length = 0 := by intro h0; exact hne (List.eq_nil_of_length_eq_zero h0)
  rcases h with ⟨rfl, rfl⟩ | ⟨b, d, s, h1, h0, rfl, h3, _⟩
  · simp only [List.length_nil, Nat.zero_add] at hroom
    refine ⟨.slice sz (live ++ G).length 0 new.length new.length, G ++ [.row T sz new (.own 0 true true)], ?_, .inr ⟨(live ++ G).length, 0, true, by simp, by omega, by simp, ?_, by simpa using hne⟩⟩
    · rw [xappend_nil, if_neg hn, if_pos hroom, of_new, of_size, List.append_assoc]
    · rw [← List.append_assoc]; simp
  · obtain ⟨hb, hbv⟩ := List.getElem?_eq_some_iff.1 h3
    have hc : ¬ (es.length + new.length ≤ es.length) := by omega
    refine ⟨.slice sz (live ++ G).length 0 (es.length + new.length) (es.length + new.length), G.set (b - live.length) (.row T sz es (.own d false false)) ++ [.row T sz (es ++ new) (.own ((live ++ G).length - (b - d)) true false)], ?_, .inr ⟨(live ++ G).length, (live ++ G).length - (b - d), false, by simp, by omega, by simp, ?_, by simp [hne]⟩⟩
    · rw [xappend_slice, if_neg hn, if_neg hc, if_pos hroom, of_get_some h3, ogrow_row _ _ _ _ _ _ _ _ _ _ rfl, grow_of, of_set _ _ _ hb, of_new, of_size, set_app h1, List.append_assoc]
    · rw [← List.append_assoc, ← set_app h1]; simp

/-- one element more, which was laid in a row of its own -/
theorem Acc.app1 {live G : List AObj} {T T' : TypeId} {sz bytes : Nat} {v : AV} {es : List (List AV)} (h : Acc live.length (live ++ G) T sz v es) (e : List AV) (o : Own) (hroom : (es.length + 1) * bytes ≤ room) :
    ∃ v' G', xappend T sz bytes (AHeap.of (live ++ (G ++ [.row T' sz [e] o]))) [e] v = some (v', AHeap.of (live ++ G')) ∧ Acc live.length (live ++ G') T sz v' (es ++ [e]) :=
  Acc.app (by rw [← List.append_assoc]; exact h.mono _) (by simp) (by simpa using hroom)

/-! ### in a variable that is shared -/
/-- a slice of one's own, all of its row, of another group than p's -/
def AccN (p : Nat) (l : List AObj) (T : TypeId) (sz : Nat) (v : AV) (es : List (List AV)) : Prop :=
  (v = .nilslice ∧ es = []) ∨ ∃ b d s, b - d ≠ p ∧ d ≤ b ∧ v = .slice sz b 0 es.length es.length ∧ l[b]? = some (.row T sz es (.own d true s)) ∧ es ≠ []
theorem AccN.acc {p : Nat} {l : List AObj} {T : TypeId} {sz : Nat} {v : AV} {es : List (List AV)} (h : AccN p l T sz v es) : Acc 0 l T sz v es := by
  rcases h with h | ⟨b, d, s, _, h0, h2⟩
  · exact .inl h
  · exact .inr ⟨b, d, s, Nat.zero_le _, h0, h2⟩
theorem AccN.mono {p : Nat} {l : List AObj} {T : TypeId} {sz : Nat} {v : AV} {es : List (List AV)} (h : AccN p l T sz v es) (m : List AObj) : AccN p (l ++ m) T sz v es := by
  rcases h with h | ⟨b, d, s, h1, h0, h2, h3, h4⟩
  · exact .inl h
  · refine .inr ⟨b, d, s, h1, h0, h2, ?_, h4⟩
    rw [List.getElem?_append_left (List.getElem?_eq_some_iff.1 h3).1]; exact h3
theorem AccN.appq {p : Nat} {l : List AObj} {T : TypeId} {sz bytes : Nat} {v : AV} {es new : List (List AV)} (h : AccN p l T sz v es) (hp : p < l.length) (hne : new ≠ []) (hroom : (es.length + new.length) * bytes ≤ room) :
    ∃ v' l', xappend T sz bytes (AHeap.of l) new v = some (v', AHeap.of l') ∧ AccN p l' T sz v' (es ++ new) ∧ ∀ (q : Nat) (o : AObj), l[q]? = some o → (∀ rs ow, o ≠ .row T sz rs ow) → l'[q]? = some o := by
  have hn : ¬ new.length = 0 := by intro h0; exact hne (List.eq_nil_of_length_eq_zero h0)
  rcases h with ⟨rfl, rfl⟩ | ⟨b, d, s, h1, h0, rfl, h3, _⟩
  · simp only [List.length_nil, Nat.zero_add] at hroom
    refine ⟨.slice sz l.length 0 new.length new.length, l ++ [.row T sz new (.own 0 true true)], ?_, .inr ⟨l.length, 0, true, by omega, by omega, by simp, by simp, by simpa using hne⟩, ?_⟩
    · rw [xappend_nil, if_neg hn, if_pos hroom, of_new, of_size]
    · intro q o hq _
      rw [List.getElem?_append_left (List.getElem?_eq_some_iff.1 hq).1]; exact hq
  · obtain ⟨hb, hbv⟩ := List.getElem?_eq_some_iff.1 h3
    have hc : ¬ (es.length + new.length ≤ es.length) := by omega
    refine ⟨.slice sz l.length 0 (es.length + new.length) (es.length + new.length), l.set b (.row T sz es (.own d false false)) ++ [.row T sz (es ++ new) (.own (l.length - (b - d)) true false)], ?_, .inr ⟨l.length, l.length - (b - d), false, by omega, by omega, by simp, ?_, by simp [hne]⟩, ?_⟩
    · rw [xappend_slice, if_neg hn, if_neg hc, if_pos hroom, of_get_some h3, ogrow_row _ _ _ _ _ _ _ _ _ _ rfl, grow_of, of_set _ _ _ hb, of_new, of_size]
    · rw [List.getElem?_append_right (by simp)]; simp
    · intro q o hq hno
      have hqb : b ≠ q := by
        rintro rfl
        rw [h3] at hq
        cases hq
        exact hno _ _ rfl
      rw [List.getElem?_append_left (by simpa using (List.getElem?_eq_some_iff.1 hq).1), List.getElem?_set_ne hqb]
      exact hq

theorem AccN.setq {k : Nat} {l : List AObj} {T Tb : TypeId} {sz p z : Nat} {v : AV} {es rs : List (List AV)} {ow : Own} (h : AccN k l T sz v es) (hp : l[p]? = some (.row Tb z rs ow)) (hT : Tb ≠ T) (o : AObj) : AccN k (l.set p o) T sz v es := by
  rcases h with h | ⟨b, d, s, h1, h0, h2, h3, h4⟩
  · exact .inl h
  · refine .inr ⟨b, d, s, h1, h0, h2, ?_, h4⟩
    have : p ≠ b := by
      rintro rfl
      rw [hp] at h3
      cases h3
      exact hT rfl
    rw [List.getElem?_set_ne this]; exact h3

/-- other elements, as many -/
theorem AccN.put {p : Nat} {l : List AObj} {T : TypeId} {sz : Nat} {v : AV} {es new : List (List AV)} (h : AccN p l T sz v es) (hne : es ≠ []) (hl : new.length = es.length) (hsz : ∀ e ∈ new, e.length = sz) :
    ∃ b d l', v = .slice sz b 0 new.length new.length ∧ (AHeap.of l).put b 0 new = some (AHeap.of l') ∧ l'[b]? = some (.row T sz new (.own d true true)) ∧
      ∀ (Tb : TypeId) (z : Nat) (rs : List (List AV)), l[p]? = some (.row Tb z rs (.own 0 true true)) → Tb ≠ T → l'[p]? = some (.row Tb z rs (.own 0 true true)) := by
  rcases h with ⟨rfl, rfl⟩ | ⟨b, d, s, h1, h0, rfl, h3, _⟩
  · exact absurd rfl hne
  · obtain ⟨hb, _⟩ := List.getElem?_eq_some_iff.1 h3
    have hdrop : List.take 0 es ++ new ++ List.drop (0 + new.length) es = new := by
      rw [Nat.zero_add, hl, List.drop_length]; simp
    have hpb : ∀ {Tb : TypeId} {z : Nat} {rs : List (List AV)}, l[p]? = some (.row Tb z rs (.own 0 true true)) → Tb ≠ T → b ≠ p := by
      rintro Tb z rs hp hT rfl
      rw [h3] at hp
      cases hp
      exact hT rfl
    have hput : ∀ l', oput (AHeap.of l) b 0 new (.row T sz es (.own d true s)) = some (AHeap.of l') → (AHeap.of l).put b 0 new = some (AHeap.of l') := fun l' e => by
      rw [put_oput, of_get_some h3]; exact e
    cases s
    · refine ⟨b, d, _, by rw [hl], hput _ (by rw [oput_row', if_pos ⟨by omega, hsz⟩, of_kill, of_set _ _ _ (by simpa using hb), hdrop]), by rw [List.getElem?_set_self (by simpa using hb)], fun Tb z rs hp hT => ?_⟩
      rw [List.getElem?_set_ne (hpb hp hT), List.getElem?_mapIdx, hp]
      simp [AObj.inGroup, Ne.symm h1]
    · refine ⟨b, d, _, by rw [hl], hput _ (by rw [oput_row, if_pos ⟨by omega, hsz⟩, of_set _ _ _ hb, hdrop]), by rw [List.getElem?_set_self hb], fun Tb z rs hp hT => ?_⟩
      rw [List.getElem?_set_ne (hpb hp hT)]
      exact hp

/-- a shared variable that holds what is gathered -/
def GAcc (p : Nat) (Tb T : TypeId) (sz : Nat) (l : List AObj) (es : List (List AV)) : Prop :=
  ∃ v, l[p]? = some (.row Tb 1 [[v]] (.own 0 true true)) ∧ AccN p l T sz v es

theorem GAcc.mono {p : Nat} {Tb T : TypeId} {sz : Nat} {l : List AObj} {es : List (List AV)} (h : GAcc p Tb T sz l es) (m : List AObj) : GAcc p Tb T sz (l ++ m) es := by
  obtain ⟨v, h1, h2⟩ := h
  exact ⟨v, by rw [List.getElem?_append_left (List.getElem?_eq_some_iff.1 h1).1]; exact h1, h2.mono m⟩

theorem GAcc.app1 {p : Nat} {Tb T T' : TypeId} {sz bytes : Nat} {l : List AObj} {es : List (List AV)} (h : GAcc p Tb T sz l es) (hT : Tb ≠ T) (e : List AV) (o : Own) (hroom : (es.length + 1) * bytes ≤ room) :
    ∃ v v' l', l[p]? = some (.row Tb 1 [[v]] (.own 0 true true)) ∧ v.one = true ∧ xappend T sz bytes (AHeap.of (l ++ [.row T' sz [e] o])) [e] v = some (v', AHeap.of l') ∧ l'[p]? = some (.row Tb 1 [[v]] (.own 0 true true)) ∧ p < l'.length ∧ v'.one = true ∧
      GAcc p Tb T sz (l'.set p (.row Tb 1 [[v']] (.own 0 true true))) (es ++ [e]) ∧ ∀ (q : Nat) (ob : AObj), q ≠ p → l[q]? = some ob → (∀ rs ow, ob ≠ .row T sz rs ow) → (l'.set p (.row Tb 1 [[v']] (.own 0 true true)))[q]? = some ob := by
  obtain ⟨v, h1, h2⟩ := h
  have hpl0 := (List.getElem?_eq_some_iff.1 h1).1
  obtain ⟨v', l', e1, e2, e3⟩ := (h2.mono [.row T' sz [e] o]).appq (new := [e]) (bytes := bytes) (by simp; omega) (by simp) (by simpa using hroom)
  have hp : l'[p]? = some (.row Tb 1 [[v]] (.own 0 true true)) := by
    refine e3 p _ ?_ ?_
    · rw [List.getElem?_append_left hpl0]; exact h1
    · intro rs ow hh; cases hh; exact hT rfl
  obtain ⟨hpl, _⟩ := List.getElem?_eq_some_iff.1 hp
  refine ⟨v, v', l', h1, h2.acc.one, e1, hp, hpl, e2.acc.one, ⟨v', by rw [List.getElem?_set_self hpl], e2.setq hp hT _⟩, ?_⟩
  intro q ob hq hqo hno
  rw [List.getElem?_set_ne (Ne.symm hq)]
  refine e3 q _ ?_ hno
  rw [List.getElem?_append_left (List.getElem?_eq_some_iff.1 hqo).1]; exact hqo
end Go.Am
