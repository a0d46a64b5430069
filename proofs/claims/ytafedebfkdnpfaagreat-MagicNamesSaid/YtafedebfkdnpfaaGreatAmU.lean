/- The abstract machine, part U: the library's sort, from its contract. -/
import Derived.Test.YtafedebfkdnpfaaGreatAmT
import Derived.Sort.Row
import Derived.Sort.Grow
import Derived.Sort.EncStr
namespace Go.Am
open Go Go.RowKit Go.Sort Go.Proofs

section
variable {P : Program}

theorem Sim.grow_any {I : Inj} {H : AHeap} : ∀ (os : List Obj) {w : World}, Sim I H w → Sim I H (grow w os.toArray)
  | [], w, h => by simpa [grow] using h
  | o :: os, w, h => by
    have := Sim.grow_any os (h.alloc_only o)
    rw [alloc_eq_grow, grow_grow] at this
    simpa using this

/-- what the shelf tells of slices.Sort of strings -/
def SortC (P : Program) (f : FuncId) : Prop :=
  (∀ (blk off cap : Nat) (ss : List (List UInt8)) (w : World), Holds encStr w blk off ss.toArray → blk < w.heap.size → ss.length < 4611686018427387904 →
    Calls P f #[.slice (some ⟨blk, off, none⟩) ss.length cap] w fun e w' =>
      e = .returned (.tuple #[]) ∧ ∃ n os, w' = grow (putRow encStr (Sort.ahead w n) blk off (ss.mergeSort fun x y => decide (x ≤ y)).toArray) os) ∧
  (∀ (p : Option Addr) (cap : Nat) (w : World), Calls P f #[.slice p 0 cap] w fun e w' => e = .returned (.tuple #[]) ∧ w' = w)

def strs (ss : List (List UInt8)) : List (List AV) := ss.map fun s => [.str s]

theorem sort_strings {f : FuncId} (hc : callable P f = true) (hf : SortC P f) {H : AHeap} {v : AV} {ss : List (List UInt8)} (hel : H.elems 1 v = some (strs ss)) (hlen : ss.length < 4611686018427387904)
    (hown : ss = [] ∨ ∃ b i l c H', v = .slice 1 b i l c ∧ H.put b i (strs (ss.mergeSort fun x y => decide (x ≤ y))) = some H') :
    ACalls P f [v] (fun r H' => r = .tuple [] ∧ (ss = [] ∧ H' = H ∨ ∃ b i l c, v = .slice 1 b i l c ∧ H.put b i (strs (ss.mergeSort fun x y => decide (x ≤ y))) = some H')) H := by
  refine ⟨hc, fun I w cargs hs hv => ?_⟩
  simp only [VRs] at hv
  obtain ⟨u, r, hcl, hvu, rfl⟩ := hv
  have hca : cargs = #[u] := by
    cases cargs; simp_all
  subst hca
  obtain ⟨he1, A, C, vs, rfl, hvs, hvl, hone, hcell⟩ := hs.elems hel hvu
  have hn : (strs ss).length = ss.length := by simp [strs]
  rw [hn] at hcell hvl ⊢
  by_cases hss : ss = []
  · subst hss
    refine (hf.2 A C w).mono fun e w' ⟨h1, h2⟩ => ?_
    subst h1 h2
    exact ⟨.tuple [], _, H, I, rfl, ⟨rfl, .inl ⟨rfl, rfl⟩⟩, Inj.le.refl I, hs, by simp [VR, VRs]⟩
  · obtain ⟨b, i, l, c, H', rfl, hput⟩ := hown.resolve_left hss
    have hpos : 0 < ss.length := List.length_pos_iff.2 hss
    simp only [VR] at hvu
    obtain ⟨hbn, hesz, A', C', hA, hlc, hcC, hAt, _⟩ := hvu
    simp only [Value.slice.injEq] at hA
    obtain ⟨rfl, hl, rfl⟩ := hA
    rw [hn] at hl
    have hA2 : A' = ⟨I.B b, I.O b + i, none⟩ := by
      rcases hAt with h0 | h0
      · omega
      · rw [h0, ← hesz, Nat.mul_one]
    subst hA2
    have hflat : ∀ (l : List (List UInt8)), (strs l).flatten = l.map AV.str := by
      intro l
      induction l with
      | nil => rfl
      | cons a l ih => simp only [strs, List.map_cons, List.flatten_cons] at *; rw [ih]; rfl
    have hmk : ∀ (l : List (List UInt8)), VRs I (l.map AV.str) (l.map encStr) := by
      intro l
      induction l with
      | nil => simp [VRs]
      | cons a l ih => simp only [List.map_cons, VRs]; exact ⟨_, _, rfl, by simp [VR], ih⟩
    obtain ⟨cs, T, hheap, hO, hfit, hsim⟩ := hs.put hput (vs := (ss.mergeSort fun x y => decide (x ≤ y)).map encStr) (by rw [hflat]; exact hmk _) (by simp [Value.oneCell'])
    have hlt : I.B b < w.heap.size := (Array.getElem?_eq_some_iff.1 hheap).1
    rw [hflat] at hvs
    have hH : Holds encStr w (I.B b) (I.O b + i) ss.toArray := by
      intro j hj
      have hj' : j < ss.length := by simpa using hj
      refine ⟨?_, ?_⟩
      · obtain ⟨a, ha, hcl⟩ := hcell.resolve_left (by omega)
        cases ha
        obtain ⟨u, h1, h2⟩ := hvs.get (i := j) (a := .str ss[j]) (by simp [hj'])
        have h3 := hcl j u h1
        rw [addr_add] at h3
        simp only [VR] at h2
        subst h2
        simp only [h3, Option.some.injEq]
        simp [hj']
      · simp [World.frozen?, hheap]
    refine (hf.1 (I.B b) (I.O b + i) C ss w hH hlt hlen).mono fun e w' ⟨h1, n, os, h2⟩ => ?_
    subst h1 h2
    refine ⟨.tuple [], _, H', I, rfl, ⟨rfl, .inr ⟨b, i, l, c, rfl, hput⟩⟩, Inj.le.refl I, ?_, by simp [VR, VRs]⟩
    have hw : putRow encStr (Sort.ahead w n) (I.B b) (I.O b + i) (ss.mergeSort fun x y => decide (x ≤ y)).toArray =
        { w.setRow (I.B b) (cs.toList.take (i * I.esz b) ++ (ss.mergeSort fun x y => decide (x ≤ y)).map encStr ++ cs.toList.drop (i * I.esz b + ((ss.mergeSort fun x y => decide (x ≤ y)).map encStr).length)).toArray with drawn := w.drawn + n } := by
      generalize hms : (ss.mergeSort fun x y => decide (x ≤ y)) = ms
      rw [hms] at hfit
      rw [← hesz, Nat.mul_one]
      rw [← hesz, Nat.mul_one] at hfit
      have hcells : putCells encStr (I.O b + i) ms.toArray cs = (cs.toList.take i ++ ms.map encStr ++ cs.toList.drop (i + (ms.map encStr).length)).toArray := by
        apply Array.ext_getElem?
        intro k
        rw [seg_put hfit, putCells, Array.getElem?_mapIdx, hO, Nat.zero_add]
        have hsz : ms.toArray.size = ms.length := by simp
        rw [hsz, List.length_map]
        by_cases hk : i ≤ k ∧ k < i + ms.length
        · rw [if_pos hk]
          rw [List.length_map] at hfit
          have hkc : k < cs.size := by omega
          have hkm : k - i < ms.length := by omega
          rw [Array.getElem?_eq_getElem hkc]
          simp [hk, hkm]
        · rw [if_neg hk]
          cases hc : cs[k]? with
          | none => rfl
          | some x => simp only [Option.map_some, if_neg hk]
      have e1 : putRow encStr (Sort.ahead w n) (I.B b) (I.O b + i) ms.toArray = mapBlock (Sort.ahead w n) (I.B b) fun _ => (cs.toList.take i ++ ms.map encStr ++ cs.toList.drop (i + (ms.map encStr).length)).toArray := by
        unfold putRow
        refine mapBlock_congr _ _ _ _ fun c e fr hcc => ?_
        have hcc' : w.heap[I.B b]? = some (.cells c e fr) := hcc
        rw [hheap] at hcc'
        cases hcc'
        exact hcells
      rw [e1]
      unfold mapBlock World.setRow Sort.ahead
      congr 1
    rw [hw]
    have := (hsim.drawn (w.drawn + n) (Nat.le_add_right _ _)).grow_any os.toList
    simpa using this
end
end Go.Am
