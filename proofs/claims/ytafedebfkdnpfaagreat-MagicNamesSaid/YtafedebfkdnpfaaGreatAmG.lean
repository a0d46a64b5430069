/- The abstract machine, part G: append. -/
import Derived.Test.YtafedebfkdnpfaaGreatAmF
namespace Go.Am
open Go Go.RowKit

section
variable {P : Program} {o : Oper}

theorem wrap_nat {n : Nat} (h : n ≤ 140737488355328) : IntKind.i64.wrap (n : Int) = n := by
  simp [IntKind.wrap, IntKind.signed, IntKind.bits]
  omega

/-- the first half: how many, and what -/
theorem run_append_roomA {w : World} {t u e e2 ty : TypeId} {i : TypeInfo} (ht : P.underlying t = some (.slice e)) (hu : P.underlying u = some (.slice e2)) (hi : P.info? e = some i)
    (base : Option Addr) (l C : Nat) (A : Option Addr) (n C' : Nat) (news : List Value) (hf : (Builtin.firstCells i.size n (.slice A n C')).run P w = .ok news.toArray w) (hroom : l + n ≤ C) :
    (Builtin.append_ #[t, u] ty #[.slice base l C, .slice A n C']).run P w =
      (((match base with | some a => storeCells (a.add (l * i.size)) news | none => pure ()) : Sem Unit).run P w).andThen fun _ w' => .ok (.slice base (l + n) C) w' := by
  cases base <;> simp [Builtin.append_, run_underlying ht, run_underlying hu, sizeOf, typeInfo, hi, Builtin.lenOf, hroom, hf]

theorem run_append_growA {w : World} {t u e e2 ty : TypeId} {i : TypeInfo} {z : Value} (ht : P.underlying t = some (.slice e)) (hu : P.underlying u = some (.slice e2)) (hi : P.info? e = some i) (hz : i.zero = some z)
    (base : Option Addr) (l C : Nat) (A : Option Addr) (n C' : Nat) (news olds : List Value) (hf : (Builtin.firstCells i.size n (.slice A n C')).run P w.drew = .ok news.toArray w.drew)
    (ho : (Builtin.firstCells i.size l (.slice base l C)).run P w.drew = .ok olds.toArray w.drew) (hg : C < l + n) (h63 : l + n ≤ 140737488355328) (hb : (l + n) * i.bytes ≤ 140737488355328) :
    (Builtin.append_ #[t, u] ty #[.slice base l C, .slice A n C']).run P w =
      .ok (.slice (some ⟨w.heap.size, 0, none⟩) (l + n) (grownCap w (l + n) C e)) (w.drew.alloc (.cells (olds.toArray ++ news.toArray ++ Builtin.zeroCells z.cells (grownCap w (l + n) C e - (l + n))) e)) := by
  have hn : ¬ (l + n ≤ C) := by omega
  have h63' : ¬ (9223372036854775807 < ((l : Int) + (n : Int))) := by omega
  have hfit := growslice_fits hg hb
  have h48' : ¬ (281474976710656 < Builtin.nextslicecap (l + n) C * i.bytes) := by omega
  simp [Builtin.append_, run_underlying ht, run_underlying hu, sizeOf, typeInfo, zeroValue, hi, hz, Builtin.lenOf, hn, h63', h48', Question.forced, hf, ho, newRow, grownCap]
  congr 2
  apply Array.ext'
  simp [List.append_assoc]

theorem run_append_roomZ {w : World} {t u e ty : TypeId} {i : TypeInfo} {z : Value} {k kk : IntKind} (ht : P.underlying t = some (.slice e)) (hu : P.underlying u = some (.int k)) (hi : P.info? e = some i) (hz : i.zero = some z)
    (base : Option Addr) (l C : Nat) (n : Nat) (hn : n ≤ 140737488355328) (hnb : n * i.bytes ≤ 140737488355328) (hroom : l + n ≤ C) :
    (Builtin.append_ #[t, u] ty #[.slice base l C, .int kk n]).run P w =
      (((match base with | some a => storeCells (a.add (l * i.size)) (if n * i.size = 0 then [] else (Builtin.zeroCells z.cells n).toList) | none => pure ()) : Sem Unit).run P w).andThen fun _ w' => .ok (.slice base (l + n) C) w' := by
  have hw := wrap_nat hn
  have h1 : ¬ ((n : Int) < 0) := by omega
  have h2 : ¬ (281474976710656 < (n : Int) * (i.bytes : Int)) := by
    have : ((n : Int) * (i.bytes : Int)) = ((n * i.bytes : Nat) : Int) := by simp
    rw [this]; omega
  by_cases h0 : n * i.size = 0
  · have h0' : n = 0 ∨ i.size = 0 := Nat.mul_eq_zero.1 h0
    cases base <;> simp [Builtin.append_, run_underlying ht, run_underlying hu, sizeOf, typeInfo, hi, asInt, asIntOf, hw, h1, h2, hroom, h0]
  · have h0' : ¬ (n = 0 ∨ i.size = 0) := fun h => h0 (Nat.mul_eq_zero.2 h)
    cases base <;> simp [Builtin.append_, run_underlying ht, run_underlying hu, sizeOf, typeInfo, hi, hz, zeroValue, asInt, asIntOf, hw, h1, h2, hroom, h0]

theorem run_append_growZ {w : World} {t u e ty : TypeId} {i : TypeInfo} {z : Value} {k kk : IntKind} (ht : P.underlying t = some (.slice e)) (hu : P.underlying u = some (.int k)) (hi : P.info? e = some i) (hz : i.zero = some z)
    (base : Option Addr) (l C : Nat) (n : Nat) (hn : n ≤ 140737488355328) (hnb : n * i.bytes ≤ 140737488355328) (olds : List Value)
    (ho : (Builtin.firstCells i.size l (.slice base l C)).run P w.drew = .ok olds.toArray w.drew) (hg : C < l + n) (h63 : l + n ≤ 140737488355328) (hb : (l + n) * i.bytes ≤ 140737488355328) :
    (Builtin.append_ #[t, u] ty #[.slice base l C, .int kk n]).run P w =
      .ok (.slice (some ⟨w.heap.size, 0, none⟩) (l + n) (grownCap w (l + n) C e)) (w.drew.alloc (.cells (olds.toArray ++ (if n * i.size = 0 then [] else (Builtin.zeroCells z.cells n).toList).toArray ++ Builtin.zeroCells z.cells (grownCap w (l + n) C e - (l + n))) e)) := by
  have hw := wrap_nat hn
  have h2 : ¬ (281474976710656 < (n : Int) * (i.bytes : Int)) := by
    have : ((n : Int) * (i.bytes : Int)) = ((n * i.bytes : Nat) : Int) := by simp
    rw [this]; omega
  have h1 : ¬ ((n : Int) < 0) := by omega
  have hn : ¬ (l + n ≤ C) := by omega
  have h63' : ¬ (9223372036854775807 < ((l : Int) + (n : Int))) := by omega
  have hfit := growslice_fits hg hb
  have h48' : ¬ (281474976710656 < Builtin.nextslicecap (l + n) C * i.bytes) := by omega
  by_cases h0 : n * i.size = 0
  · have h0' : n = 0 ∨ i.size = 0 := Nat.mul_eq_zero.1 h0
    simp [Builtin.append_, run_underlying ht, run_underlying hu, sizeOf, typeInfo, zeroValue, hi, hz, asInt, asIntOf, hw, h1, h2, hn, h63', h48', h0, Question.forced, ho, newRow, grownCap]
  · have h0' : ¬ (n = 0 ∨ i.size = 0) := fun h => h0 (Nat.mul_eq_zero.2 h)
    simp [Builtin.append_, run_underlying ht, run_underlying hu, sizeOf, typeInfo, zeroValue, hi, hz, asInt, asIntOf, hw, h1, h2, hn, h63', h48', h0, Question.forced, ho, newRow, grownCap]

/-- cells, and more behind them -/
theorem Cells.more {I : Inj} {vs : List Value} {es : List (List AV)} {sz : Nat} (hl : ∀ e ∈ es, e.length = sz) (h : VRs I es.flatten vs) (h1 : ∀ v ∈ vs, v.oneCell' = true) (rest : Array Value) : Cells I (vs.toArray ++ rest) 0 sz es := by
  intro i e he j c hc
  obtain ⟨v, g1, g2, g3⟩ := VRs.flat hl h h1 i e he j c hc
  refine ⟨v, ?_, g2, g3⟩
  have hlt := lt_of_getElem? g1
  rw [Array.getElem?_append_left hlt]; exact g1

theorem flatten_append' (a b : List (List AV)) : (a ++ b).flatten = a.flatten ++ b.flatten := by simp

theorem xappend_ok {I : Inj} {H : AHeap} {w : World} (hs : Sim I H w) {T sz bytes : Nat} {new : List (List AV)} {dv v' : AV} {H' : AHeap} (h : xappend T sz bytes H new dv = some (v', H')) (hsz : 0 < sz)
    (hel : ∀ e ∈ new, e.length = sz) {vs : List Value} (hvs : VRs I new.flatten vs) (hone : ∀ u ∈ vs, u.oneCell' = true) {z : Value} (hzs : z.cells.size = sz) {d : Value} (hd : VR I dv d)
    (R : Value → Result Value)
    (hroom : ∀ (base : Option Addr) (l C : Nat), l + new.length ≤ C → R (.slice base l C) = (((match base with | some a => storeCells (a.add (l * sz)) vs | none => pure ()) : Sem Unit).run P w).andThen fun _ w' => .ok (.slice base (l + new.length) C) w')
    (hgrow : ∀ (base : Option Addr) (l C : Nat) (olds : List Value), (Builtin.firstCells sz l (.slice base l C)).run P w.drew = .ok olds.toArray w.drew → C < l + new.length → l + new.length ≤ 140737488355328 → (l + new.length) * bytes ≤ 140737488355328 →
      R (.slice base l C) = .ok (.slice (some ⟨w.heap.size, 0, none⟩) (l + new.length) (grownCap w (l + new.length) C T)) (w.drew.alloc (.cells (olds.toArray ++ vs.toArray ++ Builtin.zeroCells z.cells (grownCap w (l + new.length) C T - (l + new.length))) T)))
    (hbig : sz ≤ bytes) :
    ∃ r w' I', R d = .ok r w' ∧ I.le I' ∧ Sim I' H' w' ∧ VR I' v' r := by
  have hvl : vs.length = new.length * sz := by rw [hvs.length, flat_length hel]
  have hdr : Sim I H w.drew := hs.drawn _ (Nat.le_succ _)
  -- a new row of its own, behind a draw
  have fresh : ∀ (old : List (List AV)) (olds : List Value) (base : Option Addr) (l C : Nat), (∀ e ∈ old, e.length = sz) → VRs I old.flatten olds → (∀ u ∈ olds, u.oneCell' = true) → old.length = l → d = .slice base l C →
      (Builtin.firstCells sz l (.slice base l C)).run P w.drew = .ok olds.toArray w.drew → C < l + new.length → l + new.length ≤ 140737488355328 → (l + new.length) * bytes ≤ 140737488355328 →
      ∃ r w' I', R d = .ok r w' ∧ I.le I' ∧ Sim I' (H.new (.row T sz (old ++ new) (.own 0 true true))) w' ∧ VR I' (.slice sz H.size 0 (l + new.length) (l + new.length)) r := by
    intro old olds base l C h1 h2 h3 h4 h5 h6 h7 h8 h9
    have hR := hgrow base l C olds h6 h7 h8 h9
    have hge := grownCap_ge w (l + new.length) C T
    have hol : olds.length = old.length * sz := by rw [h2.length, flat_length h1]
    have hall : ∀ e ∈ old ++ new, e.length = sz := fun e he => (List.mem_append.1 he).elim (h1 e) (hel e)
    have hfl : VRs I (old ++ new).flatten (olds ++ vs) := by rw [flatten_append']; exact h2.append hvs
    have hcs : Cells I (olds.toArray ++ vs.toArray ++ Builtin.zeroCells z.cells (grownCap w (l + new.length) C T - (l + new.length))) 0 sz (old ++ new) := by
      have := Cells.more hall hfl (fun u hu => (List.mem_append.1 hu).elim (h3 u) (hone u)) (Builtin.zeroCells z.cells (grownCap w (l + new.length) C T - (l + new.length)))
      simpa using this
    have hcsz : (olds.toArray ++ vs.toArray ++ Builtin.zeroCells z.cells (grownCap w (l + new.length) C T - (l + new.length))).size = grownCap w (l + new.length) C T * sz := by
      simp only [Array.size_append, List.size_toArray, size_zeroCells, hzs, hol, hvl, h4, ← Nat.add_mul]
      congr 1; omega
    have hsim := hdr.new_row (T := T) hall hcs (by rw [hcsz]; exact Nat.mul_le_mul_right _ (by simp; omega))
    refine ⟨_, _, _, by rw [h5]; exact hR, Inj.le_ext .., hsim, ?_⟩
    exact VR_newslice hs.size (Nat.le_refl _) hge (.inr (by rw [hcsz]; exact Nat.le_refl _))
  unfold xappend at h
  split at h
  · simp only [VR] at hd
    split at h
    · rename_i h0
      cases h
      refine ⟨.slice none 0 0, w, I, ?_, Inj.le.refl I, hs, by simp [VR]⟩
      have := hroom none 0 0 (by omega)
      rw [hd, this, h0]; rfl
    · split at h
      · rename_i h0 hr
        cases h
        have hr' : new.length * bytes ≤ 140737488355328 := hr
        have h2 : new.length * 1 ≤ new.length * bytes := Nat.mul_le_mul_left _ (by omega)
        have := fresh [] [] none 0 0 (by simp) (by simp [VRs]) (by simp) rfl hd (by simp [Builtin.firstCells]) (by omega) (by omega) (by simpa using hr')
        simpa using this
      · cases h
  · rename_i z' b i l c
    have hd0 := hd
    simp only [VR] at hd
    obtain ⟨hb, hz, A, C, e1, hlc, hcC, hA, hcap⟩ := hd
    split at h
    · cases h
    · rename_i hzz
      have hzz : z' = sz := by simpa using hzz
      subst hzz
      split at h
      · rename_i h0
        cases h
        have hvs0 : vs = [] := List.eq_nil_of_length_eq_zero (by rw [hvl, h0]; simp)
        have := hroom (some A) l C (by omega)
        refine ⟨.slice (some A) (l + new.length) C, w, I, by rw [e1, this, hvs0]; rfl, Inj.le.refl I, hs, ?_⟩
        rw [h0, Nat.add_zero, ← e1]; exact hd0
      · rename_i h0
        split at h
        · rename_i hlc'
          simp only [Option.map_eq_some_iff] at h
          obtain ⟨H1, hput, heq⟩ := h
          cases heq
          obtain ⟨cs, T', k1, k2, k3, k4⟩ := hs.put hput hvs hone
          have hA' : A = ⟨I.B b, i * I.esz b, none⟩ := by
            rcases hA with hA | hA
            · omega
            · rw [hA, k2, Nat.zero_add]
          have hst := run_storeCells_at P (I.B b) ((i + l) * I.esz b) T' vs 0 cs w k1 (by omega) hone
          refine ⟨.slice (some A) (l + new.length) C, _, I, ?_, Inj.le.refl I, k4, ?_⟩
          · rw [e1, hroom (some A) l C (by omega), hA', hz]
            simp only [addr_add, ← Nat.add_mul]
            rw [hst]
            simp only [Nat.add_zero, Result.andThen_ok]
          · simp only [VR]
            exact ⟨hb, hz, A, C, rfl, by omega, hcC, hA, hcap⟩
        · rename_i hlc'
          split at h
          · rename_i hr
            have hr' : (l + new.length) * bytes ≤ 140737488355328 := hr
            split at h
            · rename_i T1 z1 es1 hg
              split at h
              · rename_i hc
                obtain ⟨rfl, hile⟩ := hc
                cases h
                obtain ⟨r1, r2, cs, T', fr, r3, r4, r5⟩ := hs.row b _ _ _ _ hg
                simp only [OwnOk] at r5
                have hCc : C = c := by
                  rcases hcap with h' | h'
                  · exact h'.symm
                  · rw [r5.2] at h'
                    have : (i + C) * I.esz b = 0 := by omega
                    rcases Nat.mul_eq_zero.1 this with h'' | h''
                    · omega
                    · omega
                obtain ⟨olds, g1, g2, g3⟩ := r4.seg r2 i l
                have hlen : ((es1.drop i).take l).length = l := by simp; omega
                have hel1 : ∀ e ∈ (es1.drop i).take l, e.length = z1 := fun e he => r2 e (List.mem_of_mem_drop (List.mem_of_mem_take he))
                have hol : olds.length = l * z1 := by rw [g1.length, flat_length hel1, hlen]
                have hfc : (Builtin.firstCells z1 l (.slice (some A) l C)).run P w.drew = .ok olds.toArray w.drew := by
                  refine run_firstCells hol ?_
                  by_cases hl0 : l = 0
                  · exact .inl hl0
                  · right
                    refine ⟨A, rfl, fun k u hk => ?_⟩
                    have hA' : A = ⟨I.B b, I.O b + i * I.esz b, none⟩ := by
                      rcases hA with hA | hA
                      · omega
                      · exact hA
                    rw [hA', addr_add, World.cell?_drew, cell_of r3, r1]
                    exact g2 k u hk
                have hsmall : l + new.length ≤ 140737488355328 := by
                  have h2 : (l + new.length) * 1 ≤ (l + new.length) * bytes := Nat.mul_le_mul_left _ (by omega)
                  omega
                exact fresh _ olds (some A) l C hel1 g1 g3 hlen e1 hfc (by omega) hsmall hr'
              · cases h
            · rename_i T1 z1 es1 d1 h1 s1 hg
              split at h
              · rename_i hc
                obtain ⟨rfl, rfl, rfl, hle⟩ := hc
                have hsmall : l + new.length ≤ 140737488355328 := by
                  have h2 : (l + new.length) * 1 ≤ (l + new.length) * bytes := Nat.mul_le_mul_left _ (by omega)
                  omega
                -- both ways
                have both : ∀ (H1 : AHeap) (es : List (List AV)) (s : Bool), Sim I H1 w → H1.get b = .row T1 z1 es (.own d1 true s) → es.length = l → H1.size = H.size →
                    ∃ r w' I', R d = .ok r w' ∧ I.le I' ∧ Sim I' (H1.grow b T1 z1 es new d1) w' ∧ VR I' (.slice z1 H.size 0 (l + new.length) (l + new.length)) r := by
                  intro H1 es s hs1 hg1 hesl hsize
                  obtain ⟨r1, r2, cs, T', fr, r3, r4, r5⟩ := hs1.row b _ _ _ _ hg1
                  simp only [OwnOk] at r5
                  obtain ⟨a1, a2, rfl, rfl, a5, a6, a7⟩ := r5
                  have hA' : l + new.length ≤ C ∨ 0 < l → A = ⟨I.B b, 0, none⟩ := by
                    intro hh
                    rcases hA with hA | hA
                    · omega
                    · rw [hA, a1, Nat.zero_mul]
                  obtain ⟨olds, g1, g2, g3⟩ := r4.seg r2 0 l
                  have hdt : (es.drop 0).take l = es := by simp [← hesl]
                  rw [hdt] at g1
                  have hol : olds.length = l * z1 := by rw [g1.length, flat_length r2, hesl]
                  have hall : ∀ e ∈ es ++ new, e.length = z1 := fun e he => (List.mem_append.1 he).elim (r2 e) (hel e)
                  have hfl : VRs I (es ++ new).flatten (olds ++ vs) := by rw [flatten_append']; exact g1.append hvs
                  have hone2 : ∀ u ∈ olds ++ vs, u.oneCell' = true := fun u hu => (List.mem_append.1 hu).elim (g3 u) (hone u)
                  by_cases hroomC : l + new.length ≤ C
                  · -- it found room
                    have hA1 := hA' (.inl hroomC)
                    have hcapC : C * z1 ≤ cs.size := by
                      rcases hcap with h' | h'
                      · omega
                      · rw [a1, ← hz, a6] at h'; simpa using h'
                    have hfit : l * z1 + vs.length ≤ cs.size := by
                      rw [hvl, ← Nat.add_mul]
                      exact Nat.le_trans (Nat.mul_le_mul_right _ hroomC) hcapC
                    have hst := run_storeCells_at P (I.B b) (l * z1) T' vs 0 cs w r3 (by omega) hone
                    have hcs' : Cells I (cs.toList.take (l * z1) ++ vs ++ cs.toList.drop (l * z1 + vs.length)).toArray 0 z1 (es ++ new) := by
                      refine Cells.of_flat hall fun k cc hk => ?_
                      obtain ⟨v, m1, m2⟩ := hfl.get hk
                      refine ⟨v, ?_, m2, hone2 v (List.mem_of_getElem? m1)⟩
                      rw [Nat.zero_add, seg_put hfit]
                      by_cases hk1 : k < l * z1
                      · rw [if_neg (by omega)]
                        rw [List.getElem?_append_left (by omega)] at m1
                        have := g2 k v m1
                        rw [a1] at this
                        simpa using this
                      · rw [List.getElem?_append_right (by omega)] at m1
                        have : k - olds.length < vs.length := (List.getElem?_eq_some_iff.1 m1).1
                        rw [if_pos (by omega), ← hol]; exact m1
                    have hsim := hs1.grow_room hg1 (new := new) (cs := cs) (cs' := (cs.toList.take (l * z1) ++ vs ++ cs.toList.drop (l * z1 + vs.length)).toArray) hel r3 (fun k hk => by
                        rw [seg_put hfit, if_neg (by rw [hesl] at hk; omega)]) (by simp; omega) hcs' (by
                        rw [List.length_append, hesl]
                        exact Nat.le_trans (Nat.mul_le_mul_right _ hroomC) hcapC) (wset_row r3)
                    refine ⟨.slice (some A) (l + new.length) C, _, _, ?_, Inj.le_ext .., hsim, ?_⟩
                    · rw [e1, hroom (some A) l C hroomC, hA1]
                      simp only [addr_add, Nat.zero_add]
                      rw [hst]
                      simp only [Nat.add_zero, Result.andThen_ok]
                    · rw [hA1, ← hsize]
                      exact VR_newslice hs1.size (Nat.le_refl _) hroomC (.inr hcapC)
                  · -- it moved
                    have hfc : (Builtin.firstCells z1 l (.slice (some A) l C)).run P w.drew = .ok olds.toArray w.drew := by
                      refine run_firstCells hol ?_
                      by_cases hl0 : l = 0
                      · exact .inl hl0
                      · right
                        refine ⟨A, rfl, fun k u hk => ?_⟩
                        rw [hA' (.inr (by omega)), addr_add, World.cell?_drew, cell_of r3]
                        have := g2 k u hk
                        rw [a1] at this
                        simpa using this
                    have hR := hgrow (some A) l C olds hfc (by omega) hsmall hr'
                    have hge := grownCap_ge w (l + new.length) C T'
                    have hcsz : (olds.toArray ++ vs.toArray ++ Builtin.zeroCells z.cells (grownCap w (l + new.length) C T' - (l + new.length))).size = grownCap w (l + new.length) C T' * z1 := by
                      simp only [Array.size_append, List.size_toArray, size_zeroCells, hzs, hol, hvl, ← Nat.add_mul]
                      congr 1; omega
                    have hcs' : Cells I (olds.toArray ++ vs.toArray ++ Builtin.zeroCells z.cells (grownCap w (l + new.length) C T' - (l + new.length))) 0 z1 (es ++ new) := by
                      have := Cells.more hall hfl hone2 (Builtin.zeroCells z.cells (grownCap w (l + new.length) C T' - (l + new.length)))
                      simpa using this
                    have hsim := (hs1.drawn (w.drawn + 1) (Nat.le_succ _)).grow_moved hg1 (new := new) hel hcs' (by
                      rw [hcsz, List.length_append, hesl]; exact Nat.mul_le_mul_right _ hge)
                    refine ⟨_, _, _, by rw [e1]; exact hR, Inj.le_ext .., hsim, ?_⟩
                    rw [← hsize]
                    exact VR_newslice hs1.size (Nat.le_refl _) hge (.inr (by rw [hcsz]; exact Nat.le_refl _))
                split at h
                · rename_i hh
                  cases h
                  obtain ⟨hh1, hh2⟩ := hh
                  subst hh1
                  exact both H es1 s1 hs hg hh2.symm rfl
                · cases h
                  exact both _ (es1.take l) true (hs.take hg l) (by simp [AHeap.take, AHeap.get_set]) (by simp; omega) rfl
              · cases h
            · cases h
          · cases h
  · cases h
end
end Go.Am
