/- The abstract machine, part Za: the library's sort of pairs with a function, from its contract. -/
import Derived.Test.YtafedebfkdnpfaaGreatAmZ
import Derived.Shelf.SlSortCmp.InsertionK
namespace Go.Am
open Go Go.RowKit Go.Sort Go.Proofs

section
variable {P : Program}

/-- a pair in memory -/
def encV (p : Int × Int) : List Value := [.int .i64 p.1, .int .i64 p.2]

/-- what the shelf tells of slices.SortFunc of pairs, with a function without captures -/
def SortPC (P : Program) (f : FuncId) : Prop :=
  (∀ (cf : Int × Int → Int × Int → Int), SWO (ltOf cf) → (∀ x y, (ltOf cf) x y = false → (ltOf cf) y x = false → x = y) → ∀ (g : FuncId) (blk off cap : Nat) (d : Array (Int × Int)) (w : World),
    (∀ args w, (callFunc g args).run P w = .ok (.enter g args) w) → CmpLays P g #[] encV 2 cf blk off d.size w → HoldsK encV 2 w blk off d → blk < w.heap.size → d.size < 4611686018427387904 →
    Calls P f #[.slice (some ⟨blk, off, none⟩) d.size cap, .func (.func g) #[] #[]] w fun e w' =>
      e = .returned (.tuple #[]) ∧ ∃ n os, w' = sortWorldK encV 2 w blk off n (d.toList.mergeSort fun x y => !(ltOf cf) y x).toArray os) ∧
  (∀ (p : Option Addr) (cap : Nat) (fv : Value) (w : World), Calls P f #[.slice p 0 cap, fv] w fun e w' => e = .returned (.tuple #[]) ∧ w' = w)

/-- a function of plain values, in any world: it draws, and lays blocks -/
theorem PC.world {f : FuncId} {args : List AV} {v : AV} (h : PC P f args v) (w : World) (cargs : Array Value) (hv : VRs (Inj.start w fun _ => none) args cargs.toList) :
    Calls P f cargs w fun e w' => ∃ u J, e = .returned u ∧ VR J v u ∧ ∃ q os, w' = grow (w.drewN q) os := by
  refine (h.call.2 _ w cargs (Sim.empty w) hv).mono fun e w' ⟨v', u, H', I', h1, h2, h3, h4, h5⟩ => ?_
  have hb := h4.below
  rw [h3.base, h3.w0] at hb
  have hb : BelowD w.heap.size w w' := hb
  let J : Inj := { I' with fz := snapW w' }
  have h6 : VR J v u := by
    refine Frz_VR h4 ?_ ?_ h2 h5
    · intro B cs e
      obtain ⟨cs', T, fr, e1, e2⟩ := h4.fz.held B cs e
      exact ⟨cs', by simp [J, snapW, e1], e2⟩
    · intro b T sz rs d hd s e
      obtain ⟨r1, r2, cs, T', fr, r3, r4, r5⟩ := h4.row b _ _ _ _ e
      exact ⟨cs, T', fr, r3, by simp [J, snapW, r3]⟩
  refine ⟨u, J, h1, h6, w'.drawn - w.drawn, w'.heap.extract w.heap.size w'.heap.size, ?_⟩
  have hheap : w'.heap = w.heap ++ w'.heap.extract w.heap.size w'.heap.size := by
    apply Array.ext_getElem?
    intro k
    rcases Nat.lt_or_ge k w.heap.size with hk | hk
    · rw [Array.getElem?_append_left hk]
      exact hb.block k hk
    · rw [Array.getElem?_append_right hk, Array.getElem?_extract]
      rcases Nat.lt_or_ge k w'.heap.size with hk2 | hk2
      · rw [if_pos (by omega)]
        congr 1; omega
      · rw [if_neg (by omega), Array.getElem?_eq_none hk2]
  have hdr : w'.drawn = w.drawn + (w'.drawn - w.drawn) := by have := hb.drawn; omega
  have e1 := hb.os
  have e2 := hb.tape
  have e3 := hb.output
  generalize w'.heap.extract w.heap.size w'.heap.size = os at hheap
  generalize w'.drawn - w.drawn = q at hdr
  cases w; cases w'
  simp only at hheap hdr e1 e2 e3
  subst hheap hdr e1 e2 e3
  rfl

theorem flatK_flat (ms : List (Int × Int)) : flatK encV 2 ms.toArray = (ms.flatMap encV).toArray := by
  have hlen : ∀ l : List (Int × Int), (l.flatMap encV).length = l.length * 2 := by
    intro l
    induction l with
    | nil => rfl
    | cons a l ih => simp only [List.flatMap_cons, List.length_append, ih, encV, List.length_cons, List.length_nil]; omega
  have key : ∀ (l : List (Int × Int)) (t : Nat), t < l.length * 2 → (l.flatMap encV)[t]! = (encV l[t / 2]!)[t % 2]! := by
    intro l
    induction l with
    | nil => intro t h; simp at h
    | cons a l ih =>
      intro t h
      match t, h with
      | 0, _ => rfl
      | 1, _ => rfl
      | t + 2, h =>
        have e1 : (t + 2) / 2 = t / 2 + 1 := by omega
        have e2 : (t + 2) % 2 = t % 2 := by omega
        have := ih t (by simp only [List.length_cons] at h; omega)
        rw [e1, e2]
        simpa [encV] using this
  refine Sort.ext_get! (by rw [size_flatK]; simp [hlen]) fun t ht => ?_
  rw [size_flatK] at ht
  rw [get_flatK _ _ _ _ ht]
  simp only [List.size_toArray] at ht
  have := key ms t ht
  simpa using this.symm

theorem VRs_pairs (I : Inj) (ms : List (Int × Int)) : VRs I (ms.map encPair).flatten (ms.flatMap encV) := by
  induction ms with
  | nil => simp [VRs]
  | cons a l ih =>
    simp only [List.map_cons, List.flatten_cons, List.flatMap_cons, encPair, encV, List.cons_append, List.nil_append, VRs]
    exact ⟨_, _, rfl, by simp [VR], _, _, rfl, by simp [VR], ih⟩
theorem flatMap_len (l : List (Int × Int)) : (l.flatMap encV).length = l.length * 2 := by
  induction l with
  | nil => rfl
  | cons a l ih => simp only [List.flatMap_cons, List.length_append, ih, encV, List.length_cons, List.length_nil]; omega
theorem VRs_det {I : Inj} : ∀ {ms : List (Int × Int)} {vs : List Value}, VRs I (ms.map encPair).flatten vs → vs = ms.flatMap encV
  | [], vs, h => by simpa [VRs] using h
  | a :: l, vs, h => by
    simp only [List.map_cons, List.flatten_cons, encPair, List.cons_append, List.nil_append, VRs, VR] at h
    obtain ⟨_, _, rfl, rfl, _, _, rfl, rfl, h⟩ := h
    rw [VRs_det h]; rfl

theorem sort_pairs {f g : FuncId} {cf : Int × Int → Int × Int → Int} (hc : callable P f = true) (hf : SortPC P f) (hO : SWO (ltOf cf)) (hT : ∀ x y, (ltOf cf) x y = false → (ltOf cf) y x = false → x = y)
    (hg : ∀ x y, PC P g [.agg (encPair x), .agg (encPair y)] (.int .i64 (cf x y))) {H : AHeap} {v : AV} {ss : List (Int × Int)} (hel : H.elems 2 v = some (ss.map encPair)) (hlen : ss.length < 4611686018427387904)
    (hown : ss = [] ∨ ∃ b i l c H', v = .slice 2 b i l c ∧ H.put b i ((ss.mergeSort fun x y => !(ltOf cf) y x).map encPair) = some H') :
    ACalls P f [v, .func g []] (fun r H' => r = .tuple [] ∧ (ss = [] ∧ H' = H ∨ ∃ b i l c, v = .slice 2 b i l c ∧ H.put b i ((ss.mergeSort fun x y => !(ltOf cf) y x).map encPair) = some H')) H := by
  refine ⟨hc, fun I w cargs hs hv => ?_⟩
  simp only [VRs] at hv
  obtain ⟨u, r, hcl, hvu, uf, r2, hcl2, hvf, rfl⟩ := hv
  simp only [VR, VRs] at hvf
  obtain ⟨cs0, rfl, hcs0⟩ := hvf
  have hcs0 : cs0 = #[] := by cases cs0; simp_all
  subst hcs0
  subst hcl2
  have hca : cargs = #[u, .func (.func g) #[] #[]] := by
    cases cargs; simp_all
  subst hca
  obtain ⟨he1, A, C, vs, rfl, hvs, hvl, hone, hcell⟩ := hs.elems hel hvu
  have hn : (ss.map encPair).length = ss.length := by simp
  rw [hn] at hcell hvl ⊢
  by_cases hss : ss = []
  · subst hss
    refine (hf.2 A C _ w).mono fun e w' ⟨h1, h2⟩ => ?_
    subst h1 h2
    exact ⟨.tuple [], _, H, I, rfl, ⟨rfl, .inl ⟨rfl, rfl⟩⟩, Inj.le.refl I, hs, by simp [VR, VRs]⟩
  · obtain ⟨b, i, l, c, H', rfl, hput⟩ := hown.resolve_left hss
    have hpos : 0 < ss.length := List.length_pos_iff.2 hss
    simp only [VR] at hvu
    obtain ⟨hbn, hesz, A', C', hA, hlc, hcC, hAt, _⟩ := hvu
    simp only [Value.slice.injEq] at hA
    obtain ⟨rfl, hl, rfl⟩ := hA
    rw [hn] at hl
    generalize hms : (ss.mergeSort fun x y => !(ltOf cf) y x) = ms at *
    have hml : ms.length = ss.length := by rw [← hms]; simp
    have hA2 : A' = ⟨I.B b, I.O b + i * 2, none⟩ := by
      rcases hAt with h0 | h0
      · omega
      · rw [h0, ← hesz]
    subst hA2
    have hvs' := VRs_det hvs
    subst hvs'
    obtain ⟨cs, T, hheap, hO', hfit, hsim⟩ := hs.put hput (VRs_pairs I ms) (by
      intro v hv
      obtain ⟨p, _, hp⟩ := List.mem_flatMap.1 hv
      simp only [encV, List.mem_cons, List.not_mem_nil, or_false] at hp
      rcases hp with rfl | rfl <;> simp [Value.oneCell'])
    have hlt : I.B b < w.heap.size := (Array.getElem?_eq_some_iff.1 hheap).1
    have hH : HoldsK encV 2 w (I.B b) (I.O b + i * 2) ss.toArray := by
      intro j hj
      rw [flatK_flat] at hj ⊢
      have hj' : j < (ss.flatMap encV).length := by simpa using hj
      refine ⟨?_, ?_⟩
      · obtain ⟨a, ha, hcl⟩ := hcell.resolve_left (by omega)
        cases ha
        have h3 := hcl j _ (List.getElem?_eq_getElem hj')
        rw [addr_add] at h3
        rw [h3, getElem!_pos _ _ (by simpa using hj')]
        simp
      · simp [World.frozen?, hheap]
    refine (hf.1 cf hO hT g (I.B b) (I.O b + i * 2) C ss.toArray w (run_callFunc (hg (0, 0) (0, 0)).call.1) ?_ hH hlt (by simpa using hlen)).mono fun e w' ⟨h1, n, os, h2⟩ => ?_
    · intro m os dk _ x y
      refine (PC.world (hg x y) _ _ ?_).mono fun e w' ⟨u, J, h1, h2, q, os', h3⟩ => ?_
      · refine ⟨_, _, rfl, ?_, _, _, rfl, ?_, rfl⟩
        · simp only [VR]
          exact ⟨_, rfl, by simp [VRs, VR, encPair, encV]⟩
        · simp only [VR]
          exact ⟨_, rfl, by simp [VRs, VR, encPair, encV]⟩
      · simp only [VR] at h2
        subst h2
        exact ⟨h1, q, os', h3⟩
    · subst h1 h2
      rw [hms]
      refine ⟨.tuple [], _, H', I, rfl, ⟨rfl, .inr ⟨b, i, l, c, rfl, hput⟩⟩, Inj.le.refl I, ?_, by simp [VR, VRs]⟩
      have hw : putRowK encV 2 (Sort.ahead w n) (I.B b) (I.O b + i * 2) ms.toArray =
          { w.setRow (I.B b) (cs.toList.take (i * I.esz b) ++ ms.flatMap encV ++ cs.toList.drop (i * I.esz b + (ms.flatMap encV).length)).toArray with drawn := w.drawn + n } := by
        unfold putRowK
        rw [flatK_flat, ← hesz]
        rw [← hesz] at hfit
        generalize ms.flatMap encV = fl at *
        have hcells : putCells id (I.O b + i * 2) fl.toArray cs = (cs.toList.take (i * 2) ++ fl ++ cs.toList.drop (i * 2 + fl.length)).toArray := by
          apply Array.ext_getElem?
          intro k
          rw [seg_put hfit, putCells, Array.getElem?_mapIdx, hO', Nat.zero_add]
          have hsz : fl.toArray.size = fl.length := by simp
          rw [hsz]
          by_cases hk : i * 2 ≤ k ∧ k < i * 2 + fl.length
          · rw [if_pos hk]
            have hkc : k < cs.size := by omega
            have hkm : k - i * 2 < fl.length := by omega
            rw [Array.getElem?_eq_getElem hkc]
            simp [hk, hkm]
          · rw [if_neg hk]
            cases hc : cs[k]? with
            | none => rfl
            | some x => simp only [Option.map_some, if_neg hk]
        have e1 : putRow id (Sort.ahead w n) (I.B b) (I.O b + i * 2) fl.toArray = mapBlock (Sort.ahead w n) (I.B b) fun _ => (cs.toList.take (i * 2) ++ fl ++ cs.toList.drop (i * 2 + fl.length)).toArray := by
          unfold putRow
          refine mapBlock_congr _ _ _ _ fun c e fr hcc => ?_
          have hcc' : w.heap[I.B b]? = some (.cells c e fr) := hcc
          rw [hheap] at hcc'
          cases hcc'
          exact hcells
        rw [e1]
        unfold mapBlock World.setRow Sort.ahead
        congr 1
      unfold sortWorldK
      rw [hw]
      have := (hsim.drawn (w.drawn + n) (Nat.le_add_right _ _)).grow_any os.toList
      simpa using this
end

/-- a row's argument is a program -/
theorem prog_arg {P : Program} {m : Nat} {t tt ts tl tr : TypeId} {v : List AV} (e : Go.Am.shape P m t = some (csProg tt ts tl tr)) (hfs : (match P.underlying t with | some (.struct _) => true | _ => false) = true) (h : ArgFits P m [t] v) : ∃ p, v = [.agg (encProg p)] ∧ WProg p := by
  obtain ⟨a, r, rfl, ⟨S, hS, hu⟩, hr⟩ := h
  have hr : r = [] := hr
  subst hr
  rw [e] at hS
  cases hS
  split at hfs
  · rename_i fs hf
    rw [hf] at hu
    obtain ⟨l, rfl, hl⟩ := hu
    obtain ⟨p, rfl, hp⟩ := prog_of hl
    exact ⟨p, rfl, hp⟩
  · cases hfs

/-- is it a struct? -/
def stB (P : Program) (t : TypeId) : Bool := match P.underlying t with | some (.struct _) => true | _ => false
theorem st_arg {P : Program} {m : Nat} {t : TypeId} {S : List CS} {a : AV} (e : Go.Am.shape P m t = some S) (hd : stB P t = true) (h : ArgFit P m t a) : ∃ l, a = .agg l ∧ FitL S l := by
  obtain ⟨S', hS, hu⟩ := h
  rw [e] at hS
  cases hS
  unfold stB at hd
  split at hd
  · rename_i fs hf
    rw [hf] at hu
    exact hu
  · cases hd
theorem plain_arg {P : Program} {m : Nat} {t : TypeId} {S : List CS} {a : AV} (e : Go.Am.shape P m t = some S) (hd : stB P t = false) (h : ArgFit P m t a) : FitL S [a] := by
  obtain ⟨S', hS, hu⟩ := h
  rw [e] at hS
  cases hS
  unfold stB at hd
  split at hd
  · cases hd
  · rename_i hf
    split at hu
    · rename_i fs hfs; exact absurd hfs (hf fs)
    · exact hu
theorem str_arg {P : Program} {m : Nat} {t : TypeId} {a : AV} (e : Go.Am.shape P m t = some [.str]) (hd : stB P t = false) (h : ArgFit P m t a) : ∃ s, a = .str s ∧ s.length ≤ reachBytes := by
  have := plain_arg e hd h
  simp only [FitL, FitC] at this
  obtain ⟨v, r, h1, ⟨s, rfl, h2⟩, rfl⟩ := this
  cases h1
  exact ⟨s, rfl, h2⟩
theorem bool_arg {P : Program} {m : Nat} {t : TypeId} {a : AV} (e : Go.Am.shape P m t = some [.bool]) (hd : stB P t = false) (h : ArgFit P m t a) : ∃ b, a = .bool b := by
  have := plain_arg e hd h
  simp only [FitL, FitC] at this
  obtain ⟨v, r, h1, ⟨s, rfl⟩, rfl⟩ := this
  cases h1
  exact ⟨s, rfl⟩
theorem int_arg {P : Program} {m : Nat} {t : TypeId} {k : IntKind} {a : AV} (e : Go.Am.shape P m t = some [.int k]) (hd : stB P t = false) (h : ArgFit P m t a) : ∃ n, a = .int k n ∧ (Lit.int k n).wf = true := by
  have := plain_arg e hd h
  simp only [FitL, FitC] at this
  obtain ⟨v, r, h1, ⟨s, rfl, h2⟩, rfl⟩ := this
  cases h1
  exact ⟨s, rfl, h2⟩
theorem strs2_arg {P : Program} {m : Nat} {t : TypeId} {a : AV} (e : Go.Am.shape P m t = some [.str, .str]) (hd : stB P t = true) (h : ArgFit P m t a) : ∃ s u, a = .agg [.str s, .str u] ∧ s.length ≤ reachBytes ∧ u.length ≤ reachBytes := by
  obtain ⟨l, rfl, hl⟩ := st_arg e hd h
  simp only [FitL, FitC] at hl
  obtain ⟨_, _, rfl, ⟨s, rfl, h1⟩, _, _, rfl, ⟨u, rfl, h2⟩, rfl⟩ := hl
  exact ⟨s, u, rfl, h1, h2⟩
theorem atom_arg {P : Program} {m : Nat} {t tt : TypeId} {a : AV} (e : Go.Am.shape P m t = some (csAtom tt)) (hd : stB P t = true) (h : ArgFit P m t a) : ∃ x, a = .agg (encAtom x) ∧ WAtom x := by
  obtain ⟨l, rfl, hl⟩ := st_arg e hd h
  obtain ⟨x, rfl, hx⟩ := atom_of hl
  exact ⟨x, rfl, hx⟩
theorem args_nil {P : Program} {m : Nat} {l : List AV} (h : ArgFits P m [] l) : l = [] := h
theorem args_cons {P : Program} {m : Nat} {t : TypeId} {ts : List TypeId} {l : List AV} (h : ArgFits P m (t :: ts) l) : ∃ a r, l = a :: r ∧ ArgFit P m t a ∧ ArgFits P m ts r := h
end Go.Am
