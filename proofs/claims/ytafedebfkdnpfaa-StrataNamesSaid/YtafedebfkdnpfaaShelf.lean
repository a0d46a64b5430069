/-
  DERIVED: THE SHELF's CONTRACTS AT THIS DUMP, IN PLAIN WORDS (tools/lay-plain.mjs out of 'TryShelf.lean', which tools/lay-shelf.mjs wrote): THE SAME DECLARATIONS UNDER THE SAME NAMES: 'import', 'namespace', 'open', 'def', 'theorem' AND NOTHING ELSE: no command of the shelf's: FOR A HAND-IN. Each laying: the table of numbers ('.._ren') and one theorem, a field a fact of the dump's own or the kernel's comparison; each contract: ONE APPLICATION.
-/
import Derived.Shelf.Sort.Plain
import Derived.Shelf.Slices.In.SortNone
import Derived.Shelf.SlSortCmp.NoneTotal
import Derived.Test.YtafedebfkdnpfaaProg
namespace Go.Proofs
open Go.Shelf
def Try.lays190_ren : Go.Shelf.Ren := ⟨fun | 190 => 57 | 125 => 62 | 258 => 77 | 128 => 87 | 129 => 88 | 302 => 93 | 303 => 94 | 304 => 95 | 305 => 96 | 306 => 97 | 307 => 98 | 308 => 59 | 309 => 99 | 310 => 100 | 333 => 107 | 329 => 102 | 330 => 103 | 334 => 108 | 335 => 109 | 336 => 78 | 344 => 111 | n => n, fun | 31 => 34 | 9 => 9 | 3 => 3 | 46 => 106 | 0 => 0 | 51 => 129 | 53 => 131 | 4 => 4 | 183 => 123 | 182 => 122 | 131 => 72 | 5 => 5 | 218 => 140 | 222 => 144 | 228 => 150 | 229 => 151 | n => n, fun | n => n⟩
theorem Try.lays190 : Go.Proofs.Lays.n190 Try.prog Try.lays190_ren := {
  mixed := by kernel_rfl
  f125 := Try.func62.trans (congrArg some (by kernel_rfl))
  f128 := Try.func87.trans (congrArg some (by kernel_rfl))
  f129 := Try.func88.trans (congrArg some (by kernel_rfl))
  f190 := Try.func57.trans (congrArg some (by kernel_rfl))
  f258 := Try.func77.trans (congrArg some (by kernel_rfl))
  f302 := Try.func93.trans (congrArg some (by kernel_rfl))
  f303 := Try.func94.trans (congrArg some (by kernel_rfl))
  f304 := Try.func95.trans (congrArg some (by kernel_rfl))
  f305 := Try.func96.trans (congrArg some (by kernel_rfl))
  f306 := Try.func97.trans (congrArg some (by kernel_rfl))
  f307 := Try.func98.trans (congrArg some (by kernel_rfl))
  f308 := Try.func59.trans (congrArg some (by kernel_rfl))
  f309 := Try.func99.trans (congrArg some (by kernel_rfl))
  f310 := Try.func100.trans (congrArg some (by kernel_rfl))
  f329 := Try.func102.trans (congrArg some (by kernel_rfl))
  f330 := Try.func103.trans (congrArg some (by kernel_rfl))
  f333 := Try.func107.trans (congrArg some (by kernel_rfl))
  f334 := Try.func108.trans (congrArg some (by kernel_rfl))
  f335 := Try.func109.trans (congrArg some (by kernel_rfl))
  f336 := Try.func78.trans (congrArg some (by kernel_rfl))
  f344 := Try.func111.trans (congrArg some (by kernel_rfl))
  t0 := Try.underlying0
  a0 := Try.isAgg0
  z0 := Try.sizeOf0
  v0 := Try.zeroValue0
  t3 := Try.underlying3
  a3 := Try.isAgg3
  z3 := Try.sizeOf3
  v3 := Try.zeroValue3
  t4 := Try.underlying4
  a4 := Try.isAgg4
  z4 := Try.sizeOf4
  v4 := Try.zeroValue4
  t5 := Try.underlying5
  a5 := Try.isAgg5
  z5 := Try.sizeOf5
  v5 := Try.zeroValue5
  t9 := Try.underlying9
  a9 := Try.isAgg9
  z9 := Try.sizeOf9
  v9 := Try.zeroValue9
  t31 := Try.underlying34
  a31 := Try.isAgg34
  z31 := Try.sizeOf34
  v31 := Try.zeroValue34
  t46 := Try.underlying106
  a46 := Try.isAgg106
  z46 := Try.sizeOf106
  v46 := Try.zeroValue106
  t51 := Try.underlying129
  a51 := Try.isAgg129
  z51 := Try.sizeOf129
  v51 := Try.zeroValue129
  t53 := Try.underlying131
  a53 := Try.isAgg131
  z53 := Try.sizeOf131
  v53 := Try.zeroValue131
  t131 := Try.underlying72
  a131 := Try.isAgg72
  z131 := Try.sizeOf72
  v131 := Try.zeroValue72
  t182 := Try.underlying122
  a182 := Try.isAgg122
  z182 := Try.sizeOf122
  v182 := Try.zeroValue122
  t183 := Try.underlying123
  a183 := Try.isAgg123
  z183 := Try.sizeOf123
  v183 := Try.zeroValue123
  t218 := Try.underlying140
  a218 := Try.isAgg140
  z218 := Try.sizeOf140
  v218 := Try.zeroValue140
  t222 := Try.underlying144
  a222 := Try.isAgg144
  z222 := Try.sizeOf144
  v222 := Try.zeroValue144
  t228 := Try.underlying150
  a228 := Try.isAgg150
  z228 := Try.sizeOf150
  v228 := Try.zeroValue150
  t229 := Try.underlying151
  a229 := Try.isAgg151
  z229 := Try.sizeOf151
  v229 := Try.zeroValue151 }
open Go.Sort Go.RowKit in
theorem Try.slices_Sort_string (blk off cap : Nat) (ss : List (List UInt8)) (w : World) (hH : Holds encStr w blk off ss.toArray) (hblk : blk < w.heap.size) (hsz : ss.length < 4611686018427387904) :
    Calls Try.prog 57 #[.slice (some ⟨blk, off, none⟩) ss.length cap] w fun e w' =>
      e = .returned (.tuple #[]) ∧ ∃ n os, w' = grow (putRow encStr (Sort.ahead w n) blk off (ss.mergeSort fun x y => decide (x ≤ y)).toArray) os := Any.slices_Sort_string Try.lays190 blk off cap ss w hH hblk hsz
open Go.RowKit Go.Sort in
/-- .. and plain. (LAID: no walk: one application.) -/
theorem Try.slices_Sort_string_none (p : Option Addr) (cap : Nat) (w : World) :
    Calls Try.prog 57 #[.slice p 0 cap] w fun e w' => e = .returned (.tuple #[]) ∧ w' = w := Any.slices_Sort_string_none Try.lays190 p cap w
def Try.laysSlF06_f33_ren : Go.Shelf.Ren := ⟨fun | 6 => 33 | 15 => 62 | 14 => 61 | 28 => 87 | 29 => 88 | 20 => 79 | 21 => 80 | 22 => 81 | 23 => 82 | 24 => 83 | 25 => 84 | 26 => 85 | 27 => 86 | 46 => 101 | 47 => 102 | 48 => 103 | 49 => 104 | 50 => 105 | 57 => 110 | n => n, fun | 22 => 38 | 24 => 40 | 25 => 76 | 3 => 3 | 39 => 106 | 0 => 0 | 53 => 129 | 55 => 131 | 4 => 4 | 46 => 123 | 45 => 122 | 50 => 72 | 5 => 5 | 9 => 9 | 66 => 140 | 70 => 144 | 76 => 150 | 77 => 151 | n => n, fun | n => n⟩
theorem Try.laysSlF06_f33 : Go.Proofs.SlLaysF0.n6 Try.prog Try.laysSlF06_f33_ren := {
  mixed := by kernel_rfl
  f6 := ⟨Try.f33.name, by decide, Try.func33.trans (congrArg some (by kernel_rfl))⟩
  f14 := ⟨Try.f61.name, by decide, Try.func61.trans (congrArg some (by kernel_rfl))⟩
  f15 := Try.func62.trans (congrArg some (by kernel_rfl))
  f20 := ⟨Try.f79.name, by decide, Try.func79.trans (congrArg some (by kernel_rfl))⟩
  f21 := ⟨Try.f80.name, by decide, Try.func80.trans (congrArg some (by kernel_rfl))⟩
  f22 := ⟨Try.f81.name, by decide, Try.func81.trans (congrArg some (by kernel_rfl))⟩
  f23 := ⟨Try.f82.name, by decide, Try.func82.trans (congrArg some (by kernel_rfl))⟩
  f24 := ⟨Try.f83.name, by decide, Try.func83.trans (congrArg some (by kernel_rfl))⟩
  f25 := ⟨Try.f84.name, by decide, Try.func84.trans (congrArg some (by kernel_rfl))⟩
  f26 := ⟨Try.f85.name, by decide, Try.func85.trans (congrArg some (by kernel_rfl))⟩
  f27 := ⟨Try.f86.name, by decide, Try.func86.trans (congrArg some (by kernel_rfl))⟩
  f28 := Try.func87.trans (congrArg some (by kernel_rfl))
  f29 := Try.func88.trans (congrArg some (by kernel_rfl))
  f46 := ⟨Try.f101.name, by decide, Try.func101.trans (congrArg some (by kernel_rfl))⟩
  f47 := Try.func102.trans (congrArg some (by kernel_rfl))
  f48 := Try.func103.trans (congrArg some (by kernel_rfl))
  f49 := ⟨Try.f104.name, by decide, Try.func104.trans (congrArg some (by kernel_rfl))⟩
  f50 := ⟨Try.f105.name, by decide, Try.func105.trans (congrArg some (by kernel_rfl))⟩
  f57 := ⟨Try.f110.name, by decide, Try.func110.trans (congrArg some (by kernel_rfl))⟩
  t0 := Try.underlying0
  a0 := Try.isAgg0
  z0 := Try.sizeOf0
  v0 := Try.zeroValue0
  t3 := Try.underlying3
  a3 := Try.isAgg3
  z3 := Try.sizeOf3
  v3 := Try.zeroValue3
  t4 := Try.underlying4
  a4 := Try.isAgg4
  z4 := Try.sizeOf4
  v4 := Try.zeroValue4
  t5 := Try.underlying5
  a5 := Try.isAgg5
  z5 := Try.sizeOf5
  v5 := Try.zeroValue5
  t9 := Try.underlying9
  a9 := Try.isAgg9
  z9 := Try.sizeOf9
  v9 := Try.zeroValue9
  t22 := Try.underlying38
  a22 := Try.isAgg38
  z22 := Try.sizeOf38
  v22 := Try.zeroValue38
  t25 := Try.underlying76
  a25 := Try.isAgg76
  z25 := Try.sizeOf76
  v25 := Try.zeroValue76
  t39 := Try.underlying106
  a39 := Try.isAgg106
  z39 := Try.sizeOf106
  v39 := Try.zeroValue106
  t45 := Try.underlying122
  a45 := Try.isAgg122
  z45 := Try.sizeOf122
  v45 := Try.zeroValue122
  t46 := Try.underlying123
  a46 := Try.isAgg123
  z46 := Try.sizeOf123
  v46 := Try.zeroValue123
  t50 := Try.underlying72
  a50 := Try.isAgg72
  z50 := Try.sizeOf72
  v50 := Try.zeroValue72
  t53 := Try.underlying129
  a53 := Try.isAgg129
  z53 := Try.sizeOf129
  v53 := Try.zeroValue129
  t55 := Try.underlying131
  a55 := Try.isAgg131
  z55 := Try.sizeOf131
  v55 := Try.zeroValue131
  t66 := Try.underlying140
  a66 := Try.isAgg140
  z66 := Try.sizeOf140
  v66 := Try.zeroValue140
  t70 := Try.underlying144
  a70 := Try.isAgg144
  z70 := Try.sizeOf144
  v70 := Try.zeroValue144
  t76 := Try.underlying150
  a76 := Try.isAgg150
  z76 := Try.sizeOf150
  v76 := Try.zeroValue150
  t77 := Try.underlying151
  a77 := Try.isAgg151
  z77 := Try.sizeOf151
  v77 := Try.zeroValue151 }
open Go.RowKit Go.Lib Go.Sort in
/-- **slices.SortFunc AT NO ELEMENT, A nil SLICE TOO: nothing turns.** (LAID AT THE INSTANCE 'slices.SortFunc[[][2]int,[2]int]': no walk: one application.) -/
theorem Try.slices_SortFunc_none {α : Type} [Inhabited α] (p : Option Addr) (cap : Nat) (fv : Value) (w : World) :
    Calls Try.prog 33 #[.slice p 0 cap, fv] w fun e w' => e = .returned (.tuple #[]) ∧ w' = w := AnyF.slices_SortFunc_none Try.laysSlF06_f33 p cap fv w
open Go.RowKit Go.Lib Go.Sort in
/-- .. at structs. (LAID AT THE INSTANCE 'slices.SortFunc[[][2]int,[2]int]': no walk: one application.) -/
theorem Try.slices_SortFunc_total {α : Type} [Inhabited α] (k : Nat) (aE : ∀ w, (isAgg 40).run Try.prog w = .ok true w) (zE : ∀ w, (Go.sizeOf 40).run Try.prog w = .ok k w) (enc : α → List Value) (hk : ∀ x, (enc x).length = k) (h1 : ∀ x, ∀ v ∈ enc x, v.oneCell' = true) (cf : α → α → Int) (hO : SWO (ltOf cf)) (g : Nat) (cb : Array Value) (blk off cap : Nat) (d : Array α) (w : World) (eg : ∀ args w, (callFunc g args).run Try.prog w = .ok (.enter g args) w) (hcmp : CmpLays Try.prog g cb enc k cf blk off d.size w) (hH : HoldsK enc k w blk off d) (hblk : blk < w.heap.size) (hsz : d.size < 4611686018427387904) (hT : ∀ x y, (ltOf cf) x y = false → (ltOf cf) y x = false → x = y) :
    Calls Try.prog 33 #[.slice (some ⟨blk, off, none⟩) d.size cap, .func (.func g) #[] cb] w fun e w' =>
      e = .returned (.tuple #[]) ∧ ∃ n os, w' = sortWorldK enc k w blk off n (d.toList.mergeSort fun x y => !(ltOf cf) y x).toArray os := AnyQ.slices_SortFunc_total Try.laysSlF06_f33 k aE zE enc hk h1 cf hO g cb blk off cap d w eg hcmp hH hblk hsz hT
end Go.Proofs
