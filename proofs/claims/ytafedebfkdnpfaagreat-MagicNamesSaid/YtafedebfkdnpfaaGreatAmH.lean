/- The abstract machine, part H: the other operations that write. -/
import Derived.Test.YtafedebfkdnpfaaGreatAmG
namespace Go.Am
open Go Go.RowKit

section
variable {P : Program} {o : Oper}

theorem ef_append {c : Call} {t u e e2 : TypeId} {i : TypeInfo} {z : Value} {s q : Operand} {x y : XA} (ho : o.op = .call c) (hc : c.callee = .builtin .append) (hargs : c.args = #[s, q]) (hts : c.argTypes = #[t, u])
    (hx : opA s = some x) (hy : opA q = some y) (ht : P.underlying t = some (.slice e)) (hu : P.underlying u = some (.slice e2)) (hi : P.info? e = some i) (hz : i.zero = some z) (hzs : z.cells.size = i.size)
    (hsz : 0 < i.size) (hb : i.size ≤ i.bytes) : EfOk P o (.append e i.size i.bytes x y) := by
  intro I H w N fr a v H' hs ha h
  simp only [xef] at h
  split at h
  · rename_i dv sv hdv hsv
    split at h
    · rename_i new hnew
      have ed := ev_ok ha hx hdv
      have es := ev_ok ha hy hsv
      obtain ⟨hel, A, C, vs, e1, hvs, hvl, hone, hcell⟩ := hs.elems hnew es
      have hex : (execOp a.eval o).run P w = ((Builtin.append_ #[t, u] o.type #[a.eval s, a.eval q]).run P w).andThen (fun r w' => .ok (.value r) w') := by
        simp [execOp, ho, resolve, hc, hargs, hts, invoke, builtin]
      have hf : (Builtin.firstCells i.size new.length (.slice A new.length C)).run P w = .ok vs.toArray w := run_firstCells hvl hcell
      have hfd : (Builtin.firstCells i.size new.length (.slice A new.length C)).run P w.drew = .ok vs.toArray w.drew := run_firstCells hvl hcell
      obtain ⟨r, w', I', h1, h2, h3, h4⟩ := xappend_ok (P := P) hs h hsz hel hvs hone hzs ed (fun d => (Builtin.append_ #[t, u] o.type #[d, a.eval q]).run P w)
        (fun base l C' hroom => by
          show (Builtin.append_ #[t, u] o.type #[.slice base l C', a.eval q]).run P w = _
          rw [e1]; exact run_append_roomA ht hu hi base l C' A _ C vs hf hroom)
        (fun base l C' olds hold hg h63 hbb => by
          show (Builtin.append_ #[t, u] o.type #[.slice base l C', a.eval q]).run P w = _
          rw [e1]; exact run_append_growA ht hu hi hz base l C' A _ C vs olds hfd hold hg h63 hbb) hb
      exact ⟨_, _, I', r, by rw [hex, h1]; rfl, .inl rfl, h2, h3, h4⟩
    · cases h
  · cases h
theorem zeros_list {I : Inj} {z : Value} {zc : AV} (hzc : cvd 4 z = some zc) {sz : Nat} (hzs : z.cells.size = sz) (n : Nat) : VRs I (List.replicate n zc.cells).flatten (if n * sz = 0 then [] else (Builtin.zeroCells z.cells n).toList) := by
  have hzr : VRs I zc.cells z.cells.toList := (cvd_ok (I := I) 4 hzc).cells
  have hl : sz = zc.cells.length := by have := hzr.length; simp at this; omega
  split
  · rename_i h0
    have hfl := flat_length (es := List.replicate n zc.cells) (sz := sz) (fun e he => by rw [(List.mem_replicate.1 he).2]; exact hl.symm)
    have : (List.replicate n zc.cells).flatten = [] := List.eq_nil_of_length_eq_zero (by rw [hfl]; simpa using h0)
    rw [this]; simp [VRs]
  · have := zero_flat (I := I) hzr hl n
    simp only [hzs] at this
    unfold Builtin.zeroCells
    simp only [hzs]
    exact this

theorem ef_appendZ {c : Call} {t u e : TypeId} {k : IntKind} {i : TypeInfo} {z : Value} {zc : AV} {s q : Operand} {x y : XA} (ho : o.op = .call c) (hc : c.callee = .builtin .append) (hargs : c.args = #[s, q]) (hts : c.argTypes = #[t, u])
    (hx : opA s = some x) (hy : opA q = some y) (ht : P.underlying t = some (.slice e)) (hu : P.underlying u = some (.int k)) (hi : P.info? e = some i) (hz : i.zero = some z) (hzc : cvd 4 z = some zc) (hzs : z.cells.size = i.size)
    (hsz : 0 < i.size) (hb : i.size ≤ i.bytes) : EfOk P o (.appendZ e i.size i.bytes zc.cells x y) := by
  intro I H w N fr a v H' hs ha h
  simp only [xef] at h
  split at h
  · rename_i dv kk m hdv hsv
    split at h
    · rename_i hm
      obtain ⟨hm0, hm1, hm2, hm3⟩ := hm
      have ed := ev_ok ha hx hdv
      have es := ev_ok ha hy hsv
      simp only [VR] at es
      have hmn : (m.toNat : Int) = m := Int.toNat_of_nonneg hm0
      have hzl : ∀ e ∈ List.replicate m.toNat zc.cells, e.length = i.size := fun e he => by
        have hzr : VRs I zc.cells z.cells.toList := (cvd_ok (I := I) 4 hzc).cells
        rw [(List.mem_replicate.1 he).2]
        have := hzr.length; simp at this; omega
      have hvs := zeros_list (I := I) hzc hzs m.toNat
      have hone : ∀ u ∈ (if m.toNat * i.size = 0 then [] else (Builtin.zeroCells z.cells m.toNat).toList), u.oneCell' = true := one_all hvs (fun c hc => by
        obtain ⟨l, hl, hcl⟩ := List.mem_flatten.1 hc
        rw [(List.mem_replicate.1 hl).2] at hcl
        exact List.all_eq_true.1 hm3 c hcl)
      have hex : (execOp a.eval o).run P w = ((Builtin.append_ #[t, u] o.type #[a.eval s, a.eval q]).run P w).andThen (fun r w' => .ok (.value r) w') := by
        simp [execOp, ho, resolve, hc, hargs, hts, invoke, builtin]
      have hlen : (List.replicate m.toNat zc.cells).length = m.toNat := by simp
      have hn1 : m.toNat ≤ 140737488355328 := by omega
      have hn2 : m.toNat * i.bytes ≤ 140737488355328 := hm2
      obtain ⟨r, w', I', h1, h2, h3, h4⟩ := xappend_ok (P := P) hs h hsz hzl hvs hone hzs ed (fun d => (Builtin.append_ #[t, u] o.type #[d, a.eval q]).run P w)
        (fun base l C' hroom => by
          show (Builtin.append_ #[t, u] o.type #[.slice base l C', a.eval q]).run P w = _
          rw [hlen] at hroom ⊢
          rw [es, ← hmn]; exact run_append_roomZ ht hu hi hz base l C' _ hn1 hn2 hroom)
        (fun base l C' olds hold hg h63 hbb => by
          show (Builtin.append_ #[t, u] o.type #[.slice base l C', a.eval q]).run P w = _
          rw [hlen] at hg h63 hbb ⊢
          rw [es, ← hmn]; exact run_append_growZ ht hu hi hz base l C' _ hn1 hn2 olds hold hg h63 hbb) hb
      exact ⟨_, _, I', r, by rw [hex, h1]; rfl, .inl rfl, h2, h3, h4⟩
    · cases h
  · cases h

theorem Sim.putCells {I : Inj} {H : AHeap} {w : World} (hs : Sim I H w) {b i j : Nat} {l : List AV} {H' : AHeap} (h : H.putCells b i j l = some H') {vs : List Value} (hv : VRs I l vs) (hone : ∀ v ∈ vs, v.oneCell' = true) :
    ∃ w', (storeCells ⟨I.B b, I.O b + i * I.esz b + j, none⟩ vs).run P w = .ok () w' ∧ Sim I H' w' := by
  unfold AHeap.putCells at h
  split at h
  · rename_i T sz es ow hb
    split at h
    · rename_i e he
      split at h
      · rename_i hle
        obtain ⟨r1, r2, cs0, T0, fr0, r3, r4, _⟩ := hs.row b _ _ _ _ hb
        have hel := r2 e (List.mem_of_getElem? he)
        obtain ⟨es1, g1, g2, g3⟩ := Am.seg (I := I) (fun k => cs0[k]?) e (I.O b + i * sz) (fun k c hk => r4 i e he k c hk)
        have hvl := hv.length
        have hgl := g1.length
        -- the whole element's cells
        have hnew : VRs I [e.take j ++ l ++ e.drop (j + l.length)].flatten (es1.take j ++ vs ++ es1.drop (j + vs.length)) := by
          simp only [List.flatten_cons, List.flatten_nil, List.append_nil]
          have ht : VRs I (e.take j) (es1.take j) := VRs.of_get (by simp [hgl]) fun k c hk => by
            rw [List.getElem?_take] at hk ⊢
            split at hk
            · rename_i h1; rw [if_pos h1]; exact g1.get hk
            · cases hk
          have hd : VRs I (e.drop (j + l.length)) (es1.drop (j + vs.length)) := VRs.of_get (by simp [hgl, hvl]) fun k c hk => by
            rw [List.getElem?_drop] at hk ⊢
            rw [hvl]; exact g1.get hk
          exact (ht.append hv).append hd
        obtain ⟨cs, T', k1, k2, k3, k4⟩ := hs.put h hnew (fun u hu => by
          rcases List.mem_append.1 hu with hu | hu
          · rcases List.mem_append.1 hu with hu | hu
            · exact g3 u (List.mem_of_mem_take hu)
            · exact hone u hu
          · exact g3 u (List.mem_of_mem_drop hu))
        rw [k1] at r3
        cases r3
        subst r1
        have hlen : (es1.take j ++ vs ++ es1.drop (j + vs.length)).length = I.esz b := by simp; omega
        have hst := run_storeCells_at P (I.B b) (i * I.esz b + j) T0 vs 0 cs0 w k1 (by omega) hone
        refine ⟨_, ?_, k4⟩
        rw [k2, Nat.zero_add, hst]
        congr 2
        simp only [Nat.add_zero]
        apply Array.ext_getElem?
        intro k
        rw [seg_put (by omega), seg_put k3]
        rw [hlen] at k3 ⊢
        rw [k2] at g2
        by_cases h1 : i * I.esz b ≤ k ∧ k < i * I.esz b + I.esz b
        · rw [if_pos h1]
          by_cases h2 : i * I.esz b + j ≤ k ∧ k < i * I.esz b + j + vs.length
          · rw [if_pos h2, List.append_assoc, List.getElem?_append_right (by simp; omega), List.getElem?_append_left (by simp; omega)]
            congr 1; simp; omega
          · rw [if_neg h2]
            by_cases h3 : k < i * I.esz b + j
            · rw [List.append_assoc, List.getElem?_append_left (by simp; omega), List.getElem?_take, if_pos (by omega)]
              have hk : k - i * I.esz b < es1.length := by omega
              rw [List.getElem?_eq_getElem hk]
              have := g2 (k - i * I.esz b) _ (List.getElem?_eq_getElem hk)
              rw [← this]; congr 1; omega
            · rw [List.getElem?_append_right (by simp; omega), List.getElem?_drop]
              have e1 : j + vs.length + (k - i * I.esz b - (es1.take j ++ vs).length) = k - i * I.esz b := by simp; omega
              rw [e1]
              have hk : k - i * I.esz b < es1.length := by omega
              rw [List.getElem?_eq_getElem hk]
              have := g2 (k - i * I.esz b) _ (List.getElem?_eq_getElem hk)
              rw [← this]; congr 1; omega
        · rw [if_neg h1, if_neg (by omega)]
      · cases h
    · cases h
  · cases h

theorem ef_store {t : TypeId} {s q : Operand} {x y : XA} {n : Nat} (ho : o.op = .store t s q) (hx : opA s = some x) (hy : opA q = some y) (hn : szOf P t = some n) : EfOk P o (.store n x y) := by
  intro I H w N fr a v H' hs ha h
  simp only [xef] at h
  split at h
  · rename_i b i j u hp hu
    split at h
    · rename_i hc
      simp only [Option.map_eq_some_iff, Prod.mk.injEq] at h
      obtain ⟨H1, hput, rfl, rfl⟩ := h
      have ep := ev_ok ha hx hp
      have eu := (ev_ok ha hy hu).cells
      simp only [VR] at ep
      obtain ⟨w', h1, h2⟩ := hs.putCells (P := P) hput eu (one_all eu (by simpa using hc.2))
      have hsize : (a.eval q).cells.size = n := by have := eu.length; simp at this; omega
      refine ⟨.skip, w', I, undef, ?_, .inr ⟨rfl, rfl⟩, Inj.le.refl I, h2, VR_und I⟩
      simp [execOp, ho, ep.2, Instr.storeAt, Instr.sureAddr, storeVar, run_sizeOf w hn, hsize, h1]
    · cases h
  · cases h


theorem ef_mkslice {t e : TypeId} {i : TypeInfo} {z : Value} {zc : AV} {s q : Operand} {x y : XA} (ho : o.op = .makeSlice t s q) (hx : opA s = some x) (hy : opA q = some y) (ht : P.underlying t = some (.slice e)) (hi : P.info? e = some i)
    (hz : i.zero = some z) (hzc : cvd 4 z = some zc) (hzs : z.cells.size = i.size) : EfOk P o (.mkslice e i.size i.bytes zc.cells x y) := by
  intro I H w N fr a v H' hs ha h
  simp only [xef] at h
  split at h
  · rename_i k1 m k2 n hm hn
    split at h
    · rename_i hc
      obtain ⟨c1, c2, c3, c4, c5⟩ := hc
      simp only [Option.some.injEq, Prod.mk.injEq] at h
      obtain ⟨rfl, rfl⟩ := h
      have em := ev_ok ha hx hm
      have en := ev_ok ha hy hn
      simp only [VR] at em en
      have hzr : VRs I zc.cells z.cells.toList := (cvd_ok (I := I) 4 hzc).cells
      have hzl : i.size = zc.cells.length := by have := hzr.length; simp at this; omega
      have hzv : (P.info? e).bind (·.zero) = some z := by rw [hi]; exact hz
      have hmn : (m.toNat : Int) = m := Int.toNat_of_nonneg c1
      have hnn : (n.toNat : Int) = n := Int.toNat_of_nonneg (by omega)
      have hel : ∀ e ∈ List.replicate n.toNat zc.cells, e.length = i.size := fun e he => by rw [(List.mem_replicate.1 he).2]; exact hzl.symm
      have w1 : IntKind.i64.wrap m = m := by rw [← hmn]; exact wrap_nat (by omega)
      have w2 : IntKind.i64.wrap n = n := by rw [← hnn]; exact wrap_nat (by omega)
      have hfl : VRs I (List.replicate n.toNat zc.cells).flatten ((Array.range (n.toNat * i.size)).map ((if n.toNat * i.size = 0 then #[] else z.cells)[· % (if n.toNat * i.size = 0 then #[] else z.cells).size]!)).toList := by
        by_cases h0 : n.toNat * i.size = 0
        · rw [if_pos h0]
          have hfl := flat_length hel
          have : (List.replicate n.toNat zc.cells).flatten = [] := List.eq_nil_of_length_eq_zero (by rw [hfl]; simpa using h0)
          rw [this, h0]; simp [VRs]
        · rw [if_neg h0]; exact zero_flat hzr hzl _
      have hone := one_all hfl (fun c hc => by
        obtain ⟨l, hl, hcl⟩ := List.mem_flatten.1 hc
        rw [(List.mem_replicate.1 hl).2] at hcl
        exact List.all_eq_true.1 c5 c hcl)
      have hcells := VRs.flat hel hfl hone
      simp only [Array.toArray_toList] at hcells
      have hsim := hs.new_row (T := e) hel hcells (by simp)
      refine ⟨.value (.slice (some ⟨w.heap.size, 0, none⟩) m.toNat n.toNat), _, _, _, ?_, .inl rfl, Inj.le_ext .., hsim, VR_newslice hs.size (by omega) (Nat.le_refl _) (.inl rfl)⟩
      have hroom : n.toNat * i.bytes ≤ 140737488355328 := c3
      have t1 : ¬ (n < 0) := by omega
      have t2 : ¬ (281474976710656 < (i.bytes : Int) * n) := by
        have : (i.bytes : Int) * n = ((n.toNat * i.bytes : Nat) : Int) := by rw [← hnn]; simp [Int.mul_comm]
        rw [this]; omega
      have t3 : ¬ (m < 0) := by omega
      have t4 : ¬ (n < m) := by omega
      by_cases h0 : n.toNat * i.size = 0
      · simp [execOp, ho, em, en, Instr.makeSlice, run_underlying ht, run_typeInfo w hi, asInt, asIntOf, w1, w2, t1, t2, t3, t4, sizeOf, h0, newRow]
      · simp [execOp, ho, em, en, Instr.makeSlice, run_underlying ht, run_typeInfo w hi, asInt, asIntOf, w1, w2, t1, t2, t3, t4, sizeOf, h0, newRow, run_zeroValue w hzv]
    · cases h
  · cases h

theorem ef_clear {c : Call} {t e : TypeId} {i : TypeInfo} {z : Value} {zc : AV} {s : Operand} {x : XA} (ho : o.op = .call c) (hc : c.callee = .builtin .clear) (hargs : c.args = #[s]) (hts : c.argTypes = #[t])
    (hx : opA s = some x) (ht : P.underlying t = some (.slice e)) (hi : P.info? e = some i) (hz : i.zero = some z) (hzc : cvd 4 z = some zc) (hzs : z.cells.size = i.size) : EfOk P o (.clear i.size zc.cells x) := by
  intro I H w N fr a v H' hs ha h
  simp only [xef] at h
  have hzr : VRs I zc.cells z.cells.toList := (cvd_ok (I := I) 4 hzc).cells
  have hzl : i.size = zc.cells.length := by have := hzr.length; simp at this; omega
  have hzv : (P.info? e).bind (·.zero) = some z := by rw [hi]; exact hz
  split at h
  · rename_i hp
    cases h
    have ep := ev_ok ha hx hp
    simp only [VR] at ep
    exact ⟨.value undef, w, I, undef, by simp [execOp, ho, resolve, hc, hargs, hts, invoke, builtin, ep, Builtin.clear_, run_underlying ht, undef], .inl rfl, Inj.le.refl I, hs, VR_und I⟩
  · rename_i z' b i' l c' hp
    have ep := ev_ok ha hx hp
    simp only [VR] at ep
    obtain ⟨hb, hz', A, C, e1, hl, hC, hA, _⟩ := ep
    split at h
    · cases h
    · rename_i hzz
      have hzz : z' = i.size ∧ zc.cells.all AV.one = true := by simpa using hzz
      split at h
      · rename_i h0
        cases h
        exact ⟨.value undef, w, I, undef, by simp [execOp, ho, resolve, hc, hargs, hts, invoke, builtin, e1, h0, Builtin.clear_, run_underlying ht, undef], .inl rfl, Inj.le.refl I, hs, VR_und I⟩
      · rename_i h0
        simp only [Option.map_eq_some_iff, Prod.mk.injEq] at h
        obtain ⟨H1, hput, rfl, rfl⟩ := h
        have hfl := zero_flat (I := I) hzr hzl l
        have hone := one_all hfl (fun c hc => by
          obtain ⟨l, hl, hcl⟩ := List.mem_flatten.1 hc
          rw [(List.mem_replicate.1 hl).2] at hcl
          exact List.all_eq_true.1 hzz.2 c hcl)
        obtain ⟨cs, T', k1, k2, k3, k4⟩ := hs.put hput hfl hone
        have hA' : A = ⟨I.B b, i' * I.esz b, none⟩ := by
          rcases hA with hA | hA
          · omega
          · rw [hA, k2, Nat.zero_add]
        have hst := run_storeCells_at P (I.B b) (i' * I.esz b) T' _ 0 cs w k1 (by simpa using k3) hone
        refine ⟨.value undef, _, I, undef, ?_, .inl rfl, Inj.le.refl I, k4, VR_und I⟩
        have hzc' : (Builtin.zeroCells z.cells l).toList = ((Array.range (l * i.size)).map (z.cells[· % z.cells.size]!)).toList := by
          unfold Builtin.zeroCells; rw [hzs]
        rw [hA'] at e1
        cases l with
        | zero => exact absurd rfl h0
        | succ l =>
          simp only [Nat.add_zero] at hst
          simp [execOp, ho, resolve, hc, hargs, hts, invoke, builtin, e1, Builtin.clear_, run_underlying ht, run_zeroValue w hzv]
          simp only [hzc', hst, Result.andThen_ok, undef]
          simp
  · cases h

theorem VR.fs_take {I : Inj} {z : Nat} {es : List (List AV)} {v : Value} (h : VR I (.fs z es) v) (k : Nat) : ∃ A C, v = .slice A es.length C ∧ (k ≤ es.length → VR I (.fs z (es.take k)) (.slice A k C)) := by
  simp only [VR] at h
  obtain ⟨vs, hvs, hone, hA⟩ := h
  obtain ⟨f1, f2⟩ := hvs.flat
  have part : VRss I z (es.take k) (vs.take (k * z)) := by
    refine VRss.of_flat ?_ fun e he => f2 e (List.mem_of_mem_take he)
    rw [← take_flat f2]
    exact f1.take _
  rcases hA with ⟨rfl, rfl⟩ | ⟨A, C, rfl, hC, hA⟩
  · refine ⟨none, 0, rfl, fun hk => ?_⟩
    have : k = 0 := by simpa using hk
    subst this
    simp only [VR]
    exact ⟨_, part, fun u hu => hone u (List.mem_of_mem_take hu), .inl ⟨rfl, by trivial⟩⟩
  · refine ⟨some A, C, rfl, fun hk => ?_⟩
    simp only [VR]
    refine ⟨_, part, fun u hu => hone u (List.mem_of_mem_take hu), .inr ⟨A, C, by rw [List.length_take, Nat.min_eq_left hk], by rw [List.length_take]; omega, ?_⟩⟩
    rcases hA with rfl | ⟨B, O, rfl, hseg⟩
    · left; simp
    · exact .inr ⟨B, O, rfl, hseg.take _⟩

theorem ef_copy {c : Call} {t u e : TypeId} {sz : Nat} {s q : Operand} {x y : XA} (ho : o.op = .call c) (hc : c.callee = .builtin .copy) (hargs : c.args = #[s, q]) (hts : c.argTypes = #[t, u])
    (hx : opA s = some x) (hy : opA q = some y) (ht : P.underlying t = some (.slice e)) (hsz : szOf P e = some sz) : EfOk P o (.copy sz x y) := by
  intro I H w N fr a v H' hs ha h
  have hex : (execOp a.eval o).run P w = ((Builtin.copy_ #[t, u] o.type #[a.eval s, a.eval q]).run P w).andThen (fun r w' => .ok (.value r) w') := by
    simp [execOp, ho, resolve, hc, hargs, hts, invoke, builtin]
  simp only [xef] at h
  split at h
  · rename_i hp hq
    cases h
    have ep := ev_ok ha hx hp
    have eq := ev_ok ha hy hq
    simp only [VR] at ep eq
    exact ⟨.value (.int .i64 0), w, I, _, by rw [hex]; simp [ep, eq, Builtin.copy_, run_underlying ht, Builtin.lenOf, Builtin.firstCells, run_sizeOf w hsz, goInt], .inl rfl, Inj.le.refl I, hs, by simp [VR]⟩
  · rename_i hp hq
    cases h
    have ep := ev_ok ha hx hp
    have eq := ev_ok ha hy hq
    simp only [VR] at ep eq
    obtain ⟨_, _, A, C, e1, _⟩ := eq
    exact ⟨.value (.int .i64 0), w, I, _, by rw [hex]; simp [ep, e1, Builtin.copy_, run_underlying ht, Builtin.lenOf, Builtin.firstCells, run_sizeOf w hsz, goInt, loadCells, loadCellsFrom], .inl rfl, Inj.le.refl I, hs, by simp [VR]⟩
  · rename_i hp hq
    cases h
    have ep := ev_ok ha hx hp
    have eq := ev_ok ha hy hq
    simp only [VR] at ep eq
    obtain ⟨_, _, A, C, e1, _⟩ := ep
    exact ⟨.value (.int .i64 0), w, I, _, by rw [hex]; simp [eq, e1, Builtin.copy_, run_underlying ht, Builtin.lenOf, Builtin.firstCells, run_sizeOf w hsz, goInt, storeCells], .inl rfl, Inj.le.refl I, hs, by simp [VR]⟩
  · rename_i z b i l c1 z' b' i' m c' hp hq
    have ep := ev_ok ha hx hp
    have eq := ev_ok ha hy hq
    split at h
    · cases h
    · rename_i hzz
      have hzz : z = sz := by simpa using hzz
      split at h
      · rename_i new hnew
        simp only [VR] at ep eq
        obtain ⟨hb, hz, A, C, e1, hlc, hcC, hA, hcap⟩ := ep
        obtain ⟨hb', hz', A', C', e2, hlc', hcC', hA', hcap'⟩ := eq
        have hmin1 : Nat.min m l ≤ m := Nat.min_le_left m l
        have hmin2 : Nat.min m l ≤ l := Nat.min_le_right m l
        have hvr : VR I (.slice z' b' i' (Nat.min m l) c') (.slice (some A') (Nat.min m l) C') := by
          simp only [VR]; exact ⟨hb', hz', A', C', rfl, by omega, hcC', hA', hcap'⟩
        obtain ⟨hel, A2, C2, vs, e3, hvs, hvl, hone, hcell⟩ := hs.elems hnew hvr
        simp only [Value.slice.injEq] at e3
        obtain ⟨rfl, e4, rfl⟩ := e3
        have hf : (Builtin.firstCells sz (Nat.min m l) (.slice (some A') m C')).run P w = .ok vs.toArray w := by
          have := run_firstCells (P := P) (C := C') hvl hcell
          rw [← e4] at this
          exact this
        split at h
        · rename_i h0
          cases h
          have hvs0 : vs = [] := List.eq_nil_of_length_eq_zero (by rw [hvl, h0]; simp)
          subst hvs0
          have hm0 : Nat.min m l = 0 := by omega
          refine ⟨.value (.int .i64 0), w, I, _, ?_, .inl rfl, Inj.le.refl I, hs, by simp [VR]⟩
          rw [hex]
          rw [hm0] at hf
          simp [e1, e2, Builtin.copy_, run_underlying ht, Builtin.lenOf, hm0, hf, run_sizeOf w hsz, goInt, storeCells]
        · rename_i h0
          simp only [Option.map_eq_some_iff, Prod.mk.injEq] at h
          obtain ⟨H1, hput, rfl, rfl⟩ := h
          obtain ⟨cs, T', k1, k2, k3, k4⟩ := hs.put hput hvs hone
          have hA1 : A = ⟨I.B b, i * I.esz b, none⟩ := by
            rcases hA with hA | hA
            · omega
            · rw [hA, k2, Nat.zero_add]
          have hst := run_storeCells_at P (I.B b) (i * I.esz b) T' vs 0 cs w k1 (by simpa using k3) hone
          simp only [Nat.add_zero] at hst
          refine ⟨.value (.int .i64 (Nat.min m l : Nat)), _, I, _, ?_, .inl rfl, Inj.le.refl I, k4, by simp [VR]⟩
          rw [hex]
          rw [hA1] at e1
          simp [e1, e2, Builtin.copy_, run_underlying ht, Builtin.lenOf, hf, run_sizeOf w hsz, goInt, hst]
      · cases h
  · rename_i z' es hp hq
    cases h
    have ep := ev_ok ha hx hp
    obtain ⟨Ao, C', e1, _⟩ := VR.fs_take (ev_ok ha hy hq) 0
    simp only [VR] at ep
    exact ⟨.value (.int .i64 0), w, I, _, by rw [hex]; cases Ao <;> simp [ep, e1, Builtin.copy_, run_underlying ht, Builtin.lenOf, Builtin.firstCells, run_sizeOf w hsz, goInt, loadCells, loadCellsFrom], .inl rfl, Inj.le.refl I, hs, by simp [VR]⟩
  · rename_i z b i l c1 z' es hp hq
    have ep := ev_ok ha hx hp
    split at h
    · cases h
    · rename_i hzz
      have hzz : z = sz := by simpa using hzz
      split at h
      · rename_i new hnew
        obtain ⟨Ao, C', e2, hvr⟩ := VR.fs_take (ev_ok ha hy hq) (Nat.min es.length l)
        have hvr := hvr (Nat.min_le_left _ _)
        simp only [VR] at ep
        obtain ⟨hb, hz, A, C, e1, hlc, hcC, hA, hcap⟩ := ep
        have hmin1 : Nat.min es.length l ≤ es.length := Nat.min_le_left _ l
        have hmin2 : Nat.min es.length l ≤ l := Nat.min_le_right _ l
        obtain ⟨hel, A2, C2, vs, e3, hvs, hvl, hone, hcell⟩ := hs.elems hnew hvr
        simp only [Value.slice.injEq] at e3
        obtain ⟨rfl, e4, rfl⟩ := e3
        have hf : (Builtin.firstCells sz (Nat.min es.length l) (.slice Ao es.length C')).run P w = .ok vs.toArray w := by
          have := run_firstCells (P := P) (C := C') hvl hcell
          rw [← e4] at this
          rcases Ao with _ | A'
          · simpa [Builtin.firstCells] using this
          · exact this
        split at h
        · rename_i h0
          cases h
          have hvs0 : vs = [] := List.eq_nil_of_length_eq_zero (by rw [hvl, h0]; simp)
          subst hvs0
          have hm0 : Nat.min es.length l = 0 := by omega
          refine ⟨.value (.int .i64 0), w, I, _, ?_, .inl rfl, Inj.le.refl I, hs, by simp [VR]⟩
          rw [hex]
          rw [hm0] at hf
          simp [e1, e2, Builtin.copy_, run_underlying ht, Builtin.lenOf, hm0, hf, run_sizeOf w hsz, goInt, storeCells]
        · rename_i h0
          simp only [Option.map_eq_some_iff, Prod.mk.injEq] at h
          obtain ⟨H1, hput, rfl, rfl⟩ := h
          obtain ⟨cs, T', k1, k2, k3, k4⟩ := hs.put hput hvs hone
          have hA1 : A = ⟨I.B b, i * I.esz b, none⟩ := by
            rcases hA with hA | hA
            · omega
            · rw [hA, k2, Nat.zero_add]
          have hst := run_storeCells_at P (I.B b) (i * I.esz b) T' vs 0 cs w k1 (by simpa using k3) hone
          simp only [Nat.add_zero] at hst
          refine ⟨.value (.int .i64 (Nat.min es.length l : Nat)), _, I, _, ?_, .inl rfl, Inj.le.refl I, k4, by simp [VR]⟩
          rw [hex]
          rw [hA1] at e1
          simp [e1, e2, Builtin.copy_, run_underlying ht, Builtin.lenOf, hf, run_sizeOf w hsz, goInt, hst]
      · cases h
  · cases h

theorem ef_mkmap {t : TypeId} (ho : o.op = .makeMap t none) : EfOk P o .mkmap := by
  intro I H w N fr a v H' hs ha h
  simp only [xef, Option.some.injEq, Prod.mk.injEq] at h
  obtain ⟨rfl, rfl⟩ := h
  refine ⟨.value (.map (some w.heap.size)), _, _, _, ?_, .inl rfl, Inj.le_ext .., hs.new_map, by simp [VR, Inj.ext, hs.size]⟩
  simp [execOp, ho, Instr.makeMap]

theorem run_setMap {w : World} {r : Nat} {xs ys : Array MapEntry} {c c' : Nat} (h : w.heap[r]? = some (.map xs c)) :
    ∃ w', (setObj r (.map ys c')).run P w = .ok () w' ∧ WSet w w' r (.map ys c') := by
  have hlt := lt_of_getElem? h
  refine ⟨{ w with heap := w.heap.setIfInBounds r (.map ys c') }, by simp [setObj, Sem.run, h], ⟨?_, fun k hk => ?_, by simp, rfl, rfl, rfl, rfl⟩⟩
  · simp [hlt]
  · simp [Array.getElem?_setIfInBounds_ne (Ne.symm hk)]

theorem mset_midx {k x : AV} : ∀ {es es' : List (AV × AV)} {i : Nat}, mset k x es = some es' → ∃ q, midx k es i = some q ∧ (match q with | none => es' = es ++ [(k, x)] | some j => i ≤ j ∧ j - i < es.length ∧ es' = es.set (j - i) (k, x))
  | [], es', i, h => by simp only [mset, Option.some.injEq] at h; subst h; exact ⟨none, rfl, rfl⟩
  | (k', v') :: es, es', i, h => by
    simp only [mset] at h
    split at h
    · rename_i hq
      cases h
      exact ⟨some i, by simp [midx, hq], Nat.le_refl _, by simp, by simp⟩
    · rename_i hq
      simp only [Option.map_eq_some_iff] at h
      obtain ⟨r, hr, rfl⟩ := h
      obtain ⟨q, e1, e2⟩ := mset_midx (i := i + 1) hr
      refine ⟨q, by simp [midx, hq, e1], ?_⟩
      cases q with
      | none => simp only at e2; simp [e2]
      | some j =>
        obtain ⟨g1, g2, g3⟩ := e2
        have : j - i = (j - (i + 1)) + 1 := by omega
        exact ⟨by omega, by simp; omega, by rw [this]; simp [g3]⟩
    · cases h

/-- an entry is set, the model's way -/
theorem entries_set {I : Inj} {es : List (AV × AV)} {xs : Array MapEntry} (h2 : xs.size = es.length) (h3 : ∀ (i : Nat) x, xs[i]? = some x → x.born = i)
    (h4 : ∀ (i : Nat) k v, es[i]? = some (k, v) → ∃ x, xs[i]? = some x ∧ VR I k x.key ∧ VR I v x.val) {j : Nat} {k v : AV} {kv vv : Value} (hk : VR I k kv) (hv : VR I v vv) (hj : j < es.length) :
    (xs.modify j fun e => { e with key := kv, val := vv }).size = (es.set j (k, v)).length ∧
      (∀ (i : Nat) x, (xs.modify j fun e => { e with key := kv, val := vv })[i]? = some x → x.born = i) ∧
      ∀ (i : Nat) k' v', (es.set j (k, v))[i]? = some (k', v') → ∃ x, (xs.modify j fun e => { e with key := kv, val := vv })[i]? = some x ∧ VR I k' x.key ∧ VR I v' x.val := by
  refine ⟨by simp [h2], fun i x hx => ?_, fun i k' v' hi => ?_⟩
  · rw [Array.getElem?_modify] at hx
    split at hx
    · simp only [Option.map_eq_some_iff] at hx
      obtain ⟨y, hy, rfl⟩ := hx
      exact h3 i y hy
    · exact h3 i x hx
  · rw [Array.getElem?_modify]
    by_cases hij : j = i
    · subst hij
      rw [List.getElem?_set_self hj] at hi
      cases hi
      have : ∃ p, es[j]? = some p := ⟨_, List.getElem?_eq_getElem hj⟩
      obtain ⟨⟨p1, p2⟩, hp⟩ := this
      obtain ⟨x, hx, _⟩ := h4 j p1 p2 hp
      exact ⟨{ x with key := kv, val := vv }, by simp [hx], hk, hv⟩
    · rw [List.getElem?_set_ne hij] at hi
      rw [if_neg hij]
      exact h4 i k' v' hi

theorem entries_push {I : Inj} {es : List (AV × AV)} {xs : Array MapEntry} (h2 : xs.size = es.length) (h3 : ∀ (i : Nat) x, xs[i]? = some x → x.born = i)
    (h4 : ∀ (i : Nat) k v, es[i]? = some (k, v) → ∃ x, xs[i]? = some x ∧ VR I k x.key ∧ VR I v x.val) {k v : AV} {kv vv : Value} (hk : VR I k kv) (hv : VR I v vv) :
    (xs.push { key := kv, val := vv, born := xs.size }).size = (es ++ [(k, v)]).length ∧
      (∀ (i : Nat) x, (xs.push { key := kv, val := vv, born := xs.size })[i]? = some x → x.born = i) ∧
      ∀ (i : Nat) k' v', (es ++ [(k, v)])[i]? = some (k', v') → ∃ x, (xs.push { key := kv, val := vv, born := xs.size })[i]? = some x ∧ VR I k' x.key ∧ VR I v' x.val := by
  refine ⟨by simp [h2], fun i x hx => ?_, fun i k' v' hi => ?_⟩
  · rw [Array.getElem?_push] at hx
    split at hx
    · rename_i e; cases hx; exact e.symm
    · exact h3 i x hx
  · rw [Array.getElem?_push]
    by_cases hij : i = xs.size
    · subst hij
      rw [h2, List.getElem?_append_right (Nat.le_refl _)] at hi
      simp at hi
      obtain ⟨rfl, rfl⟩ := hi
      exact ⟨_, if_pos rfl, hk, hv⟩
    · rw [if_neg hij]
      have hlt : i < es.length := by
        have := (List.getElem?_eq_some_iff.1 hi).1
        simp at this; omega
      rw [List.getElem?_append_left hlt] at hi
      exact h4 i k' v' hi

theorem ef_mapset {t kt et : TypeId} {m s q : Operand} {xm x y : XA} {d : TypeDesc} {c : CK} (ho : o.op = .mapUpdate t m s q ∨ o.op = .insert t m s q) (hm : opA m = some xm) (hx : opA s = some x) (hy : opA q = some y) (ht : P.underlying t = some (.map kt et))
    (hd : P.underlying kt = some d) (hc : descCK d = some c) : EfOk P o (.mapset c xm x y) := by
  intro I H w N fr a v H' hs ha h
  simp only [xef] at h
  split at h
  · rename_i b kv vv hmv hkv hvv
    split at h
    · rename_i hfit
      split at h
      · rename_i es hb
        simp only [Option.map_eq_some_iff, Prod.mk.injEq] at h
        obtain ⟨es', hms, rfl, rfl⟩ := h
        have em := ev_ok ha hm hmv
        have ek := ev_ok ha hx hkv
        have ev' := ev_ok ha hy hvv
        simp only [VR] at em
        have hk := ckFits_desc hc hfit.1
        have chk := fun b => keyFits_of (P := P) hd hk ek b 9999 w
        obtain ⟨r, hr, hr2⟩ := mset_midx (i := 0) hms
        obtain ⟨xs, k1, k2, k3, k4, q', k5, k6⟩ := hs.find hb hd hk ek hr
        have base : (execOp a.eval o).run P w = ((Instr.mapUpdate t (a.eval m) (a.eval s) (a.eval q)).run P w).andThen (fun _ w' => .ok .skip w') := by
          rcases ho with ho | ho <;> simp [execOp, ho]
        cases r with
        | none =>
          cases q' with
          | some q' => exact k6.elim
          | none =>
            simp only at hr2
            subst hr2
            obtain ⟨p1, p2, p3⟩ := entries_push k2 k3 k4 ek ev'
            obtain ⟨w', h1, h2⟩ := run_setMap (P := P) (ys := xs.push { key := a.eval s, val := a.eval q, born := xs.size }) (c' := xs.size + 1) k1
            refine ⟨.skip, w', I, undef, ?_, .inr ⟨rfl, rfl⟩, Inj.le.refl I, hs.set_map hb (by simpa using h2) p1 p2 p3, VR_und I⟩
            rw [base]
            simp [em.2, Instr.mapUpdate, run_underlying ht, run_getMap k1, chk, k5, h1]
        | some j =>
          cases q' with
          | none => exact k6.elim
          | some q' =>
            obtain ⟨j', u⟩ := q'
            obtain ⟨rfl, a1, x1, m1, m2, m3, m4, m5, m6⟩ := k6
            obtain ⟨_, hjl, hes⟩ := hr2
            simp only [Nat.sub_zero] at hjl hes
            subst hes
            obtain ⟨p1, p2, p3⟩ := entries_set k2 k3 k4 ek ev' hjl
            obtain ⟨w', h1, h2⟩ := run_setMap (P := P) (ys := xs.modify j' fun e => { e with key := a.eval s, val := a.eval q }) (c' := xs.size) k1
            refine ⟨.skip, w', I, undef, ?_, .inr ⟨rfl, rfl⟩, Inj.le.refl I, hs.set_map hb (by simpa using h2) p1 p2 p3, VR_und I⟩
            rw [base]
            have hsb := sameBits_ok m3 ek m6 10000
            simp [em.2, Instr.mapUpdate, run_underlying ht, run_getMap k1, chk, k5, m2, Instr.keyThatStays, hsb, h1]
      · cases h
    · cases h
  · cases h

theorem ef_mapentry {t kt et : TypeId} {m s : Operand} {xm x : XA} {d : TypeDesc} {c : CK} {z : Value} {zc : AV} (ho : o.op = .mapEntry t m s) (hm : opA m = some xm) (hx : opA s = some x) (ht : P.underlying t = some (.map kt et))
    (hd : P.underlying kt = some d) (hc : descCK d = some c) (hz : (P.info? et).bind (·.zero) = some z) (hzc : cvd 4 z = some zc) : EfOk P o (.mapentry c zc xm x) := by
  intro I H w N fr a v H' hs ha h
  simp only [xef] at h
  have hzr : VR I zc z := cvd_ok 4 hzc
  split at h
  · rename_i b kv hmv hkv
    split at h
    · rename_i hfit
      split at h
      · rename_i es hb
        have em := ev_ok ha hm hmv
        have ek := ev_ok ha hx hkv
        simp only [VR] at em
        have hk := ckFits_desc hc hfit
        have chk := fun b => keyFits_of (P := P) hd hk ek b 9999 w
        split at h
        · rename_i j hr
          split at h
          · rename_i k0 v0 hes
            cases h
            obtain ⟨xs, k1, k2, k3, k4, q', k5, k6⟩ := hs.find hb hd hk ek hr
            cases q' with
            | none => exact k6.elim
            | some q' =>
              obtain ⟨j', u⟩ := q'
              obtain ⟨rfl, a1, x1, m1, m2, m3, m4, m5, m6⟩ := k6
              rw [hes] at m1
              cases m1
              have hjl : j' < es.length := (List.getElem?_eq_some_iff.1 hes).1
              obtain ⟨p1, p2, p3⟩ := entries_set k2 k3 k4 (j := j') ek m5 hjl
              have hmod : (xs.modify j' fun e => { e with key := a.eval s }) = (xs.modify j' fun e => { e with key := a.eval s, val := u }) := by
                apply Array.ext_getElem?
                intro i
                rw [Array.getElem?_modify, Array.getElem?_modify]
                split
                · rename_i hji
                  subst hji
                  rw [m2]; simp [m4]
                · rfl
              obtain ⟨w', h1, h2⟩ := run_setMap (P := P) (ys := xs.modify j' fun e => { e with key := a.eval s }) (c' := xs.size) k1
              have hsb := sameBits_ok m3 ek m6 10000
              refine ⟨.value (.tuple #[u, .int .i64 j']), w', I, _, ?_, .inl rfl, Inj.le.refl I, hs.set_map hb (by rw [hmod] at h2; simpa using h2) p1 p2 p3, ?_⟩
              · have hb1 := k3 j' x1 m2
                simp [execOp, ho, em.2, Instr.mapEntry, run_underlying ht, run_getMap k1, chk, k5, m2, Instr.keyThatStays, hsb, h1, hb1, goInt]
              · simp only [VR]
                exact ⟨_, rfl, VRs.cons m5 (VRs.cons (by simp [VR]) VRs.nil)⟩
          · cases h
        · rename_i hr
          cases h
          obtain ⟨xs, k1, k2, k3, k4, q', k5, k6⟩ := hs.find hb hd hk ek hr
          cases q' with
          | some q' => exact k6.elim
          | none =>
            obtain ⟨p1, p2, p3⟩ := entries_push k2 k3 k4 ek hzr
            obtain ⟨w', h1, h2⟩ := run_setMap (P := P) (ys := xs.push { key := a.eval s, val := z, born := xs.size }) (c' := xs.size + 1) k1
            refine ⟨.value (.tuple #[z, .int .i64 xs.size]), w', I, _, ?_, .inl rfl, Inj.le.refl I, hs.set_map hb (by simpa using h2) p1 p2 p3, ?_⟩
            · simp [execOp, ho, em.2, Instr.mapEntry, run_underlying ht, run_getMap k1, chk, k5, run_zeroValue w hz, h1, goInt]
            · simp only [VR]
              exact ⟨_, rfl, VRs.cons hzr (VRs.cons (by simp [VR, k2]) VRs.nil)⟩
        · cases h
      · cases h
    · cases h
  · cases h

theorem ef_entrystore {t : TypeId} {m s q : Operand} {xm x y : XA} (ho : o.op = .entryStore t m s q) (hm : opA m = some xm) (hx : opA s = some x) (hy : opA q = some y) : EfOk P o (.entrystore xm x y) := by
  intro I H w N fr a v H' hs ha h
  simp only [xef] at h
  split at h
  · rename_i b kk n vv hmv hnv hvv
    split at h
    · rename_i hc
      split at h
      · rename_i es hb
        split at h
        · rename_i k0 v0 hes
          cases h
          have em := ev_ok ha hm hmv
          have en := ev_ok ha hx hnv
          have ev' := ev_ok ha hy hvv
          simp only [VR] at em en
          obtain ⟨_, xs, k1, k2, k3, k4⟩ := hs.map b _ hb
          obtain ⟨x1, hx1, hk1, hv1⟩ := k4 _ _ _ hes
          have hjl : n.toNat < es.length := (List.getElem?_eq_some_iff.1 hes).1
          obtain ⟨p1, p2, p3⟩ := entries_set k2 k3 k4 (j := n.toNat) hk1 ev' hjl
          have hmod : (xs.modify n.toNat fun e => { e with val := a.eval q }) = (xs.modify n.toNat fun e => { e with key := x1.key, val := a.eval q }) := by
            apply Array.ext_getElem?
            intro i
            rw [Array.getElem?_modify, Array.getElem?_modify]
            split
            · rename_i hji
              subst hji
              rw [hx1]; simp
            · rfl
          obtain ⟨w', h1, h2⟩ := run_setMap (P := P) (ys := xs.modify n.toNat fun e => { e with val := a.eval q }) (c' := xs.size) k1
          have hnn : (n.toNat : Int) = n := Int.toNat_of_nonneg hc.1
          have hfind : xs.findIdx? (fun e => ((e.born : Int) == n)) = some n.toNat := by
            rw [Array.findIdx?_eq_some_iff_getElem]
            refine ⟨by omega, ?_, fun j hj => ?_⟩
            · have := k3 n.toNat _ (Array.getElem?_eq_getElem (by omega))
              rw [this]; simp [hnn]
            · have := k3 j _ (Array.getElem?_eq_getElem (by omega))
              rw [this]; simp; omega
          refine ⟨.skip, w', I, undef, ?_, .inr ⟨rfl, rfl⟩, Inj.le.refl I, hs.set_map hb (by rw [hmod] at h2; simpa using h2) p1 p2 p3, VR_und I⟩
          simp [execOp, ho, em.2, en, Instr.entryStore, run_getMap k1, asInt, asIntOf, hfind, h1]
        · cases h
      · cases h
    · cases h
  · cases h
end
end Go.Am
