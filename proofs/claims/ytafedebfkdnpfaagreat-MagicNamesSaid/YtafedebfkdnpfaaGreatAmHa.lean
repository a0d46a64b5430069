/- The abstract machine, part Ha: strings.Builder's own operations: unsafe pointers, a string's bytes appended, a row's bytes as a string. -/
import Derived.Test.YtafedebfkdnpfaaGreatAmH
import Derived.Lib.Builder
import Derived.Lib.AppendStr
import Derived.Lib.UnsafeStr
import Derived.Laws.Externs
namespace Go.Am
open Go Go.RowKit

/-- less is known -/
theorem Sim.less {I : Inj} {H H' : AHeap} {w : World} (h : Sim I H w) (hn : H'.size = H.size) (hg : ∀ x o, H'.get x = o → o ≠ .dead → H.get x = o) : Sim I H' w := by
  have hr : ∀ {x T sz es o}, H'.get x = .row T sz es o → H.get x = .row T sz es o := fun e => hg _ _ e (by simp)
  have hm : ∀ {x es}, H'.get x = .map es → H.get x = .map es := fun e => hg _ _ e (by simp)
  refine ⟨h.size.trans hn.symm, h.below, h.bs, fun b hb => ?_, fun b T sz es o e => h.row b T sz es o (hr e), fun b es e => h.map b es (hm e),
    fun x y e1 e2 hx hy => h.mapinj x y e1 e2 (hm hx) (hm hy), fun x y _ _ _ _ _ _ _ _ _ _ _ hx hy => h.head x y _ _ _ _ _ _ _ _ _ _ _ (hr hx) (hr hy),
    fun x y _ _ _ _ _ _ _ _ _ _ hx hy => h.one x y _ _ _ _ _ _ _ _ _ _ (hr hx) (hr hy), fun x y _ _ _ _ _ _ _ _ _ _ _ hx hy => h.sole x y _ _ _ _ _ _ _ _ _ _ _ (hr hx) (hr hy),
    h.fz.step ⟨rfl, rfl⟩ (fun _ _ => rfl) fun x _ _ _ _ _ _ hx => h.fz.own x _ _ _ _ _ _ (hr hx)⟩
  cases e : H'.get b with
  | dead => rfl
  | row T sz es o => have := hr e; rw [h.out b (by omega)] at this; cases this
  | map es => have := hm e; rw [h.out b (by omega)] at this; cases this

/-- a block that nobody stands for is turned -/
theorem Sim.turn {I : Inj} {H : AHeap} {w w' : World} {B : Nat} {o : Obj} (h : Sim I H w) (hw : WSet w w' B o) (hB : I.base ≤ B) (hr : ∀ x T sz es ow, H.get x = .row T sz es ow → I.B x ≠ B) (hm : ∀ x es, H.get x = .map es → I.B x ≠ B) (hz : I.fz B = none) : Sim I H w' := by
  refine ⟨h.size, hw.below h.below hB, by rw [hw.size]; exact h.bs, h.out, fun b T sz es ow e => ?_, fun b es e => ?_, h.mapinj, h.head, h.one, h.sole, h.fz.step ⟨rfl, rfl⟩ (fun C hC => hw.other C ?_) h.fz.own⟩
  · obtain ⟨h1, h2, cs, T', fr, h3, h4, h5⟩ := h.row b T sz es ow e
    exact ⟨h1, h2, cs, T', fr, by rw [hw.other _ (hr b T sz es ow e)]; exact h3, h4, h5⟩
  · obtain ⟨h1, xs, h2, h3⟩ := h.map b es e
    exact ⟨h1, xs, by rw [hw.other _ (hm b es e)]; exact h2, h3⟩
  · rintro rfl
    rw [hz] at hC; cases hC

section
variable {P : Program} {o : Oper}

theorem shape_own {I : Inj} {H : AHeap} {w : World} (hs : Sim I H w) {b T sz es d h s} (hb : H.get b = .row T sz es (.own d h s)) :
    ∃ cs, w.heap[I.B b]? = some (.cells cs T (0, 0)) ∧ w.shape? (I.B b) = some (T, cs.size) ∧ es.length * sz ≤ cs.size ∧ I.O b = 0 := by
  obtain ⟨r1, r2, cs, T2, fr, r3, r4, r5⟩ := hs.row b _ _ _ _ hb
  simp only [OwnOk] at r5
  obtain ⟨a1, a2, rfl, rfl, a5, a6, a7⟩ := r5
  exact ⟨cs, r3, by simp [World.shape?, r3], a7, a1⟩

theorem rd_upp {s d t : TypeId} {op : Operand} {x : XA} {j : TypeInfo} (ho : o.op = .convert s d op) (hx : opA op = some x) (hs : P.underlying s = some (.pointer t)) (hd : P.underlying d = some .unsafePointer) (ht : P.info? t = some j) (hj : j.size ≠ 0) : RdOk P o (.upp x) := by
  intro I H w N fr a v hsim ha h
  simp only [xrd, Option.bind_eq_some_iff] at h
  obtain ⟨u, hu, h⟩ := h
  have e := ev_ok ha hx hu
  unfold xupp at h
  split at h
  · rename_i b
    split at h
    · rename_i T sz es dd hh ss hb
      split at h
      · rename_i hc
        cases h
        obtain ⟨cs, h1, h2, h3, h4⟩ := shape_own hsim hb
        have e' := e
        simp only [VR, h4] at e
        obtain ⟨e1, e2⟩ := e
        have : 0 + 0 * I.esz b + 0 = 0 := by omega
        rw [this] at e2
        refine ⟨a.eval op, ?_, e'⟩
        have hrun := Lib.run_to_unsafe (P := P) w ⟨I.B b, 0, none⟩ hs hd ht hj h2 (by show 0 < cs.size; omega)
        simp [execOp, ho, e2, hrun]
      · cases h
    · cases h
  · cases h

theorem liesAt_self {u : TypeId} (hc : P.cellsOf u ≠ 0) {count : Nat} (h : 0 < count) : liesAt P P.depth u count 0 u 1 = true := by
  obtain ⟨k, hk⟩ : ∃ k, P.depth = k + 2 := ⟨2 * (P.types.size + Made.depth), rfl⟩
  have h1 : (0 + 1 ≤ count) := h
  rw [hk, liesAt, hk]
  simp [rowAt, hc, sameLayout]
  left; left
  omega

theorem rd_upf {s d u : TypeId} {op : Operand} {x : XA} {j : TypeInfo} (ho : o.op = .convert s d op) (hx : opA op = some x) (hs : P.underlying s = some .unsafePointer) (hd : P.underlying d = some (.pointer u)) (hu : P.info? u = some j) (hj : P.cellsOf u ≠ 0) : RdOk P o (.upf u (P.cellsOf u) x) := by
  intro I H w N fr a v hsim ha h
  simp only [xrd, Option.bind_eq_some_iff] at h
  obtain ⟨uv, huv, h⟩ := h
  have e := ev_ok ha hx huv
  unfold xupf at h
  split at h
  · rename_i b
    split at h
    · rename_i T sz es dd hh ss hb
      split at h
      · rename_i hc
        cases h
        obtain ⟨rfl, rfl, hpos⟩ := hc
        obtain ⟨cs, h1, h2, h3, h4⟩ := shape_own hsim hb
        have e' := e
        simp only [VR, h4] at e
        obtain ⟨e1, e2⟩ := e
        have : 0 + 0 * I.esz b + 0 = 0 := by omega
        rw [this] at e2
        refine ⟨a.eval op, ?_, e'⟩
        have hcnt : 0 < cs.size / P.cellsOf T := by
          have h5 : P.cellsOf T ≤ cs.size := Nat.le_trans (by rw [← Nat.one_mul (P.cellsOf T)]; exact Nat.mul_le_mul (by omega) (by omega)) h3
          exact Nat.div_pos h5 (by omega)
        have hrun := Lib.run_from_unsafe (P := P) w ⟨I.B b, 0, none⟩ hs hd hu h2 (liesAt_self hj hcnt)
        simp [execOp, ho, e2, hrun]
      · cases h
    · cases h
  · cases h

theorem rd_usd {c : Call} {s : Operand} {x : XA} (ho : o.op = .call c) (hc : c.callee = .builtin .unsafeSliceData) (hargs : c.args = #[s]) (hx : opA s = some x) : RdOk P o (.usd x) := by
  intro I H w N fr a v hsim ha h
  simp only [xrd, Option.bind_eq_some_iff] at h
  obtain ⟨u, hu, h⟩ := h
  have e := ev_ok ha hx hu
  have hex : (execOp a.eval o).run P w = ((Builtin.unsafeSliceData_ c.argTypes o.type #[a.eval s]).run P w).andThen (fun r w' => .ok (.value r) w') := by
    simp [execOp, ho, resolve, hc, hargs, invoke, builtin]
  unfold xusd at h
  split at h
  · cases h
    simp only [VR] at e
    rw [e] at hex
    exact ⟨.pointer none, by rw [hex, Lib.run_unsafeSliceData_nil]; rfl, by simp [VR]⟩
  · rename_i sz b i l cc
    split at h
    · cases h
    · rename_i hne
      cases h
      simp only [VR] at e
      obtain ⟨e1, e2, A, C, e3, e4, e5, e6, e7⟩ := e
      have hC : C ≠ 0 := by omega
      rcases e6 with h0 | rfl
      · exact absurd h0 hC
      · rw [e3] at hex
        refine ⟨.pointer (some _), by rw [hex, Lib.run_unsafeSliceData_row w _ _ _ _ _ hC]; rfl, ?_⟩
        simp [VR, e1]
  · cases h

theorem byteCells_len (l : List UInt8) : (byteCells l).length = l.length := by simp [byteCells]
theorem VRs_bytes (I : Inj) (l : List UInt8) : VRs I (byteCells l).flatten (Lib.strCells ⟨l.toArray⟩) := by
  have : ∀ l : List UInt8, VRs I (byteCells l).flatten (l.map fun b => Value.int .u8 b.toNat) := by
    intro l
    induction l with
    | nil => simp [byteCells, VRs]
    | cons a l ih =>
      simp only [byteCells, List.map_cons, List.flatten_cons, List.cons_append, List.nil_append, VRs]
      exact ⟨_, _, rfl, by simp [VR], ih⟩
  exact this l

theorem run_append_roomS {w : World} {t u e ty : TypeId} {i : TypeInfo} (ht : P.underlying t = some (.slice e)) (hu : P.underlying u = some .string) (hi : P.info? e = some i) (hs1 : i.size = 1)
    (base : Option Addr) (l C : Nat) (s : ByteArray) (hroom : l + s.size ≤ C) :
    (Builtin.append_ #[t, u] ty #[.slice base l C, .string s]).run P w =
      (((match base with | some a => storeCells (a.add (l * 1)) (Lib.strCells s) | none => pure ()) : Sem Unit).run P w).andThen fun _ w' => .ok (.slice base (l + s.size) C) w' := by
  have hf := Lib.run_firstCells_string (P := P) w 1 s
  cases base <;> simp [Builtin.append_, run_underlying ht, run_underlying hu, sizeOf, typeInfo, hi, hs1, Builtin.lenOf, hroom, hf]

theorem run_append_growS {w : World} {t u e ty : TypeId} {i : TypeInfo} {z : Value} (ht : P.underlying t = some (.slice e)) (hu : P.underlying u = some .string) (hi : P.info? e = some i) (hz : i.zero = some z)
    (base : Option Addr) (l C : Nat) (s : ByteArray) (olds : List Value)
    (ho : (Builtin.firstCells i.size l (.slice base l C)).run P w.drew = .ok olds.toArray w.drew) (hg : C < l + s.size) (h63 : l + s.size ≤ 140737488355328) (hb : (l + s.size) * i.bytes ≤ 140737488355328) :
    (Builtin.append_ #[t, u] ty #[.slice base l C, .string s]).run P w =
      .ok (.slice (some ⟨w.heap.size, 0, none⟩) (l + s.size) (grownCap w (l + s.size) C e)) (w.drew.alloc (.cells (olds.toArray ++ (Lib.strCells s).toArray ++ Builtin.zeroCells z.cells (grownCap w (l + s.size) C e - (l + s.size))) e)) := by
  have hn : ¬ (l + s.size ≤ C) := by omega
  have h63' : ¬ (9223372036854775807 < ((l : Int) + (s.size : Int))) := by omega
  have hfit := growslice_fits hg hb
  have h48' : ¬ (281474976710656 < Builtin.nextslicecap (l + s.size) C * i.bytes) := by omega
  have hf := Lib.run_firstCells_string (P := P) w.drew i.size s
  simp [Builtin.append_, run_underlying ht, run_underlying hu, sizeOf, typeInfo, zeroValue, hi, hz, Builtin.lenOf, hn, h63', h48', Question.forced, hf, ho, newRow, grownCap]
  congr 2
  apply Array.ext'
  simp [List.append_assoc]

theorem ef_appendS {c : Call} {t u e : TypeId} {i : TypeInfo} {z : Value} {s q : Operand} {x y : XA} (ho : o.op = .call c) (hc : c.callee = .builtin .append) (hargs : c.args = #[s, q]) (hts : c.argTypes = #[t, u])
    (hx : opA s = some x) (hy : opA q = some y) (ht : P.underlying t = some (.slice e)) (hu : P.underlying u = some .string) (hi : P.info? e = some i) (hz : i.zero = some z) (hzs : z.cells.size = i.size)
    (hsz : i.size = 1) (hb : i.size ≤ i.bytes) : EfOk P o (.appendS e i.bytes x y) := by
  intro I H w N fr a v H' hs ha h
  simp only [xef] at h
  split at h
  · rename_i dv l hdv hsv
    have ed := ev_ok ha hx hdv
    have es := ev_ok ha hy hsv
    simp only [VR] at es
    have hex : (execOp a.eval o).run P w = ((Builtin.append_ #[t, u] o.type #[a.eval s, a.eval q]).run P w).andThen (fun r w' => .ok (.value r) w') := by
      simp [execOp, ho, resolve, hc, hargs, hts, invoke, builtin]
    have hsl : (⟨l.toArray⟩ : ByteArray).size = (byteCells l).length := by rw [byteCells_len]; simp [ByteArray.size]
    obtain ⟨r, w', I', h1, h2, h3, h4⟩ := xappend_ok (P := P) hs h (by omega) (by intro e he; simp only [byteCells, List.mem_map] at he; obtain ⟨b, _, rfl⟩ := he; rfl) (VRs_bytes I l) (Lib.strCells_oneCell _) (hzs.trans hsz) ed (fun d => (Builtin.append_ #[t, u] o.type #[d, a.eval q]).run P w)
      (fun base l' C' hroom => by
        show (Builtin.append_ #[t, u] o.type #[.slice base l' C', a.eval q]).run P w = _
        rw [es, run_append_roomS ht hu hi hsz base l' C' _ (by rw [hsl]; exact hroom), hsl]; cases base <;> rfl)
      (fun base l' C' olds hold hg h63 hbb => by
        show (Builtin.append_ #[t, u] o.type #[.slice base l' C', a.eval q]).run P w = _
        rw [← hsl] at hg h63 hbb ⊢
        rw [es, run_append_growS ht hu hi hz base l' C' _ olds (by rw [hsz]; exact hold) hg h63 hbb]) (by omega)
    exact ⟨_, _, I', r, by rw [hex, h1]; rfl, .inl rfl, h2, h3, h4⟩
  · cases h

theorem bytesOf_ok {I : Inj} : ∀ {es : List (List AV)} {l : List UInt8} {vs : List Value}, bytesOf es = some l → VRs I es.flatten vs → vs = l.map fun c => Value.int .u8 c.toNat
  | [], l, vs, h, hv => by
    simp only [bytesOf, Option.some.injEq] at h
    subst h
    simpa [VRs] using hv
  | e :: r, l, vs, h, hv => by
    unfold bytesOf at h
    split at h
    · rename_i heq; cases heq
    · rename_i n r' heq
      obtain ⟨rfl, rfl⟩ := List.cons.inj heq
      split at h
      · rename_i hn
        simp only [Option.map_eq_some_iff] at h
        obtain ⟨l', h1, rfl⟩ := h
        simp only [List.flatten_cons, List.cons_append, List.nil_append, VRs, VR] at hv
        obtain ⟨u, vs', rfl, rfl, hv'⟩ := hv
        rw [bytesOf_ok h1 hv']
        have : ((UInt8.ofNat n.toNat).toNat : Int) = n := by
          rw [UInt8.toNat_ofNat']
          omega
        simp only [List.map_cons, this]
      · cases h
    · cases h

theorem wset_freeze {w : World} {g : Nat} {cs : Array Value} {T : TypeId} (hg : w.heap[g]? = some (.cells cs T (0, 0))) {n : Nat} (hn : n ≠ 0) : WSet w (w.freeze ⟨g, 0, none⟩ n) g (.cells cs T (0, n)) := by
  have hlt := lt_of_getElem? hg
  unfold World.freeze
  rw [if_neg hn]
  refine ⟨?_, fun k hk => ?_, by simp, rfl, rfl, rfl, rfl⟩
  · simp only [Array.getElem?_modify, hg]
    simp
  · simp only [Array.getElem?_modify]
    rw [if_neg (Ne.symm hk)]

theorem ef_ustr {c : Call} {pt it T : TypeId} {s q : Operand} {x y : XA} (ho : o.op = .call c) (hc : c.callee = .builtin .unsafeString) (hargs : c.args = #[s, q]) (hts : c.argTypes = #[pt, it])
    (hx : opA s = some x) (hy : opA q = some y) (hp : P.underlying pt = some (.pointer T)) (hcl : P.cellsOf T = 1) : EfOk P o (.ustr T x y) := by
  intro I H w N fr a v H' hs ha h
  simp only [xef] at h
  split at h
  · rename_i pv m hpv hm
    have ep := ev_ok ha hx hpv
    have em := ev_ok ha hy hm
    simp only [VR] at em
    have hex : (execOp a.eval o).run P w = ((Builtin.unsafeString_ #[pt, it] o.type #[a.eval s, a.eval q]).run P w).andThen (fun r w' => .ok (.value r) w') := by
      simp [execOp, ho, resolve, hc, hargs, hts, invoke, builtin]
    rw [em] at hex
    split at h
    · rename_i hz
      subst hz
      have hp0 : ∃ p, a.eval s = .pointer p ∧ v = .str [] ∧ H' = H := by
        unfold xustr0 at h
        split at h
        · cases h
          simp only [VR] at ep
          exact ⟨_, ep, rfl, rfl⟩
        · cases h
          simp only [VR] at ep
          exact ⟨_, ep.2, rfl, rfl⟩
        · cases h
      obtain ⟨p, h1, rfl, rfl⟩ := hp0
      rw [h1] at hex
      exact ⟨_, w, I, .string .empty, by rw [hex, Lib.run_unsafeString_none]; rfl, .inl rfl, Inj.le.refl I, hs, by simp [VR]; rfl⟩
    · split at h
      · rename_i hz hmm
        unfold xustr at h
        split at h
        · rename_i b
          split at h
          · rename_i T' es d hh ss hb
            split at h
            · rename_i hc2
              obtain ⟨rfl, hle⟩ := hc2
              simp only [Option.map_eq_some_iff] at h
              obtain ⟨l, hl, h⟩ := h
              cases h
              obtain ⟨k, rfl⟩ : ∃ k : Nat, m = k := ⟨m.toNat, by omega⟩
              simp only [Int.toNat_natCast] at hle hl
              obtain ⟨cs, g1, g2, g3, g4⟩ := shape_own hs hb
              simp only [VR, g4] at ep
              obtain ⟨e1, e2⟩ := ep
              have e0 : 0 + 0 * I.esz b + 0 = 0 := by omega
              rw [e0] at e2
              rw [e2] at hex
              obtain ⟨r1, r2, cs2, T2, fr2, r3, r4, r5⟩ := hs.row b _ _ _ _ hb
              rw [g1] at r3
              cases r3
              simp only [OwnOk] at r5
              obtain ⟨a1, a2, a3, a4, a5, a6, a7⟩ := r5
              have hlen : l.length = k := by
                have : ∀ {es : List (List AV)} {l}, bytesOf es = some l → l.length = es.length := by
                  intro es
                  induction es with
                  | nil => intro l h; simp only [bytesOf, Option.some.injEq] at h; subst h; rfl
                  | cons e r ih =>
                    intro l h
                    unfold bytesOf at h
                    split at h
                    · rename_i heq; cases heq
                    · rename_i n r' heq
                      obtain ⟨rfl, rfl⟩ := List.cons.inj heq
                      split at h
                      · simp only [Option.map_eq_some_iff] at h
                        obtain ⟨l', h1, rfl⟩ := h
                        simp [ih h1]
                      · cases h
                    · cases h
                rw [this hl]; simp; omega
              have hbyte : ∀ j x, l[j]? = some x → w.cell? ((⟨I.B b, 0, none⟩ : Addr).add j) = some (.int .u8 x.toNat) := by
                intro j x hj
                have hjl : j < k := by rw [← hlen]; exact (List.getElem?_eq_some_iff.1 hj).1
                have hje : j < es.length := by omega
                have hone := r2 _ (List.getElem_mem hje)
                obtain ⟨c0, hc0⟩ : ∃ c0, es[j] = [c0] := by
                  match es[j], hone with
                  | [c0], _ => exact ⟨c0, rfl⟩
                obtain ⟨u, hu1, hu2, _⟩ := r4 j es[j] (List.getElem?_eq_getElem hje) 0 c0 (by rw [hc0]; rfl)
                have hcell : c0 = .int .u8 x.toNat := by
                  have key : ∀ {es : List (List AV)} {l : List UInt8} {j : Nat} {x : UInt8} {c0 : AV}, bytesOf es = some l → l[j]? = some x → es[j]? = some [c0] → c0 = .int .u8 x.toNat := by
                    intro es
                    induction es with
                    | nil => intro l j x c0 h1 h2 h3; simp at h3
                    | cons e r ih =>
                      intro l j x c0 h1 h2 h3
                      unfold bytesOf at h1
                      split at h1
                      · rename_i heq; cases heq
                      · rename_i n r' heq
                        obtain ⟨rfl, rfl⟩ := List.cons.inj heq
                        split at h1
                        · rename_i hn
                          simp only [Option.map_eq_some_iff] at h1
                          obtain ⟨l', h1, rfl⟩ := h1
                          cases j with
                          | zero =>
                            simp only [List.getElem?_cons_zero, Option.some.injEq, List.cons.injEq, and_true] at h2 h3
                            subst h2 h3
                            have : ((UInt8.ofNat n.toNat).toNat : Int) = n := by
                              rw [UInt8.toNat_ofNat']
                              omega
                            rw [this]
                          | succ j => exact ih h1 (by simpa using h2) (by simpa using h3)
                        · cases h1
                      · cases h1
                  refine key hl hj ?_
                  rw [List.getElem?_take_of_lt hjl, List.getElem?_eq_getElem hje, hc0]
                subst hcell
                simp only [VR] at hu2
                subst hu2
                rw [addr_add]
                rw [g4] at hu1
                simp only [Nat.zero_add, Nat.mul_one, Nat.add_zero] at hu1
                simp [World.cell?, g1, hu1]
              have hl0 : l ≠ [] := by rintro rfl; simp at hlen; omega
              have hks : k ≤ cs.size := by omega
              have hrun := Lib.run_unsafeString_row (P := P) w pt it o.type _ hp hcl (I.B b) cs.size g2 l hl0 (by omega) (by omega) hbyte
              rw [hlen] at hrun
              have hws := wset_freeze g1 (n := k) (by omega)
              refine ⟨_, _, I, .string ⟨l.toArray⟩, by rw [hex, hrun]; rfl, .inl rfl, Inj.le.refl I, ?_, by simp [VR]⟩
              have hg : ∀ x o', ((H.kill (b - d) b).set b .dead).get x = o' → o' ≠ .dead → x ≠ b ∧ H.get x = o' ∧ o'.inGroup (b - d) x = false := by
                intro x o' e hne
                rw [AHeap.get_set] at e
                split at e
                · exact absurd e.symm hne
                · rename_i hxb
                  rw [AHeap.get_kill] at e
                  split at e
                  · exact absurd e.symm hne
                  · rename_i hng
                    refine ⟨hxb, e, ?_⟩
                    rw [← e]
                    simpa [hxb] using hng
              have hs1 : Sim I ((H.kill (b - d) b).set b .dead) w := hs.less rfl fun x o' e hne => (hg x o' e hne).2.1
              refine hs1.turn hws a2 ?_ ?_ (hs.fz.own b _ _ _ _ _ _ hb)
              · intro x T1 sz1 es1 ow e heq
                obtain ⟨h1, h2, h3⟩ := hg x _ e (by simp)
                obtain ⟨_, _, cs3, T3, fr3, q3, _, q5⟩ := hs.row x _ _ _ _ h2
                cases ow with
                | ro => simp only [OwnOk] at q5; omega
                | own d1 h1' s1 =>
                  simp only [OwnOk] at q5
                  obtain ⟨_, _, _, _, q6, _⟩ := q5
                  rw [heq, a5] at q6
                  simp [AObj.inGroup] at h3
                  omega
              · intro x es1 e heq
                obtain ⟨h1, h2, h3⟩ := hg x _ e (by simp)
                obtain ⟨_, xs, q2, _⟩ := hs.map x _ h2
                rw [heq, g1] at q2
                cases q2
            · cases h
          · cases h
        · cases h
      · cases h
  · cases h

theorem find_noesc {fn : Func} (h1 : fn.name = "internal/abi.NoEscape") : Extern.find fn = some Extern.AbiNoEscape.same := by
  have e1 : Extern.allGenericRows.lookup "internal/abi.NoEscape" = none := by kernel_rfl
  have e2 : Extern.allTypedRows.lookup "internal/abi.NoEscape" = none := by kernel_rfl
  have e3 : Extern.allRows.lookup "internal/abi.NoEscape" = some Extern.AbiNoEscape.same := by kernel_rfl
  unfold Extern.find
  simp only [h1, e1, e2, e3]
  rfl
theorem findNext_noesc {fn : Func} (h1 : fn.name = "internal/abi.NoEscape") (h2 : fn.origin = "") : Extern.findNext fn = none := by
  have e1 : Extern.allNextRows.lookup "internal/abi.NoEscape" = none := by kernel_rfl
  have e2 : Extern.allNextRows.lookup "" = none := by kernel_rfl
  unfold Extern.findNext
  simp only [h1, h2, e1, e2]
  rfl
/-- is it internal/abi.NoEscape? -/
def noesc (P : Program) (f : FuncId) : Bool :=
  match P.funcs[f]? with
  | some fn => fn.name == "internal/abi.NoEscape" && fn.origin == "" && fn.body.isNone
  | none => false
theorem run_noesc {f : FuncId} (h : noesc P f = true) (v : Value) (w : World) : (callFunc f #[v]).run P w = .ok (.value v) w := by
  unfold noesc at h
  split at h
  · rename_i fn hf
    simp only [Bool.and_eq_true, beq_iff_eq] at h
    obtain ⟨⟨h1, h2⟩, h3⟩ := h
    rw [run_callFunc_extern hf (by rw [h1]; decide) h3 (findNext_noesc h1 h2) (find_noesc h1), Lib.run_noEscape]
    rfl
  · cases h

theorem rd_noesc {c : Call} {f : FuncId} {s : Operand} {x : XA} (ho : o.op = .call c) (hc : c.callee = .value (.func f)) (hargs : c.args = #[s]) (hx : opA s = some x) (hn : noesc P f = true) : RdOk P o (.mov x) := by
  intro I H w N fr a v hsim ha h
  refine ⟨a.eval s, ?_, ev_ok ha hx h⟩
  have := run_noesc hn (a.eval s) w
  simp [execOp, ho, resolve, hc, hargs, Act.eval, Deferred.ofValue, invoke] at this ⊢
  exact this

theorem rd_pne {t t' te : TypeId} {s u : Operand} {x y : XA} {j : TypeInfo} (ho : o.op = .binOp .neq t s u t') (hx : opA s = some x) (hy : opA u = some y) (ht : P.underlying t = some (.pointer te)) (hj : P.info? te = some j) : RdOk P o (.pne x y) := by
  intro I H w N fr a v hs ha h
  simp only [xrd, Option.bind_eq_some_iff] at h
  obtain ⟨p, hp, q, hq, h⟩ := h
  have ep := ev_ok ha hx hp
  have eq := ev_ok ha hy hq
  unfold xpne at h
  split at h
  · split at h
    · rename_i hc
      obtain ⟨rfl, rfl, rfl⟩ := hc
      cases h
      simp only [VR] at ep eq
      refine ⟨.bool false, ?_, by simp [VR]⟩
      simp [execOp, ho, ep.2, eq.2, eqGuard, Lib.run_neq_ptr_same (P := P) w _ ht hj]
    · cases h
  · cases h
end
end Go.Am
