/- StrataNames holds: all that a rule has, or uses, is named, once, in order; and just what some rule's literal uses is needed by its head's predicate. No conditions. -/
import Derived.Test.YtafedebfkdnpfaaLawD
import Derived.Test.YtafedebfkdnpfaaAw
import Derived.Test.YtafedebfkdnpfaaShelf
import Derived.Test.YtafedebfkdnpfaaRows
import Derived.WalkKit
import Derived.ProofKit
namespace Go.Proofs.Ytafedebfkdnpfaa
open Go.ChangeShapes Go.WideShapes Go.ChangeAt Go.RowKit Go.Am
theorem own : ownKnob Try.prog.godebug = none := by kernel_rfl
theorem laidOut : laidOutB Try.prog = true := by kernel_rfl
theorem sortC : SortC Try.prog 57 := ⟨fun blk off cap ss w h1 h2 h3 => Try.slices_Sort_string blk off cap ss w h1 h2 h3, Try.slices_Sort_string_none⟩
theorem agg40 (w : World) : (isAgg 40).run Try.prog w = .ok true w := by kernel_rfl
theorem size40 (w : World) : (Go.sizeOf 40).run Try.prog w = .ok 2 w := by kernel_rfl
theorem sortPC : SortPC Try.prog 33 :=
  ⟨fun cf hO hT g blk off cap d w eg hcmp hH hb hsz => Try.slices_SortFunc_total 2 agg40 size40 encV (fun _ => rfl) (fun x v hv => by
      simp only [encV, List.mem_cons, List.not_mem_nil, or_false] at hv
      rcases hv with rfl | rfl <;> rfl) cf hO g #[] blk off cap d w eg hcmp hH hb hsz hT,
    fun p cap fv w => Try.slices_SortFunc_none (α := Int × Int) p cap fv w⟩
theorem strataNames_walk (av : List AV) (h : ArgFits Try.prog 12 Try.f4.params.toList av) : ACalls Try.prog 4 av (fun v _ => v = .bool true) AHeap.empty := by
  have ep : Try.f4.params.toList = [27] := by kernel_rfl
  rw [ep] at h
  obtain ⟨p, rfl, _⟩ := prog_arg (tt := 47) (ts := 79) (tl := 50) (tr := 43) (by kernel_rfl) (by kernel_rfl) h
  exact Go.Am.A.law_names sortC sortPC Go.Am.A.awake13 p
set_option maxRecDepth 100000 in
theorem lifted (os : Os) (started : os.Started) (H : Type) (enc : TypeId × Value → H) :
    ReturnsInHanded {} Try.checked os 4 .any (Rows.strataNamesSpec.pre6 enc Try.prog Try.f4 Rows.strataNamesRow.domain false) (Rows.strataNamesSpec.post enc Try.prog Try.f4 false true false false) := by
  refine returnsInHanded_of_change (C := Try.checked) own started (by kernel_rfl) Try.func4
    (ChangeSpec.witness6 (enc := enc) (C := Try.checked) false ⟨#[], #[.agg #[.slice none 0 0, .string ⟨#[]⟩, .slice none 0 0]], []⟩ 8 (by kernel_rfl) (by kernel_rfl) (by kernel_rfl) (by kernel_rfl)) ?_
  intro W base args ds gs before hval hW _ _
  exact calls_true 12 laidOut (by decide +kernel) (by decide +kernel) (tb := 4) (by kernel_rfl) (by kernel_rfl) rfl (fun ds h => by match ds, h with | [d], _ => rfl) hval hW strataNames_walk
theorem over : Rows.strataNamesRow.holds Try.pinned (OpenSpec.ofChange Rows.strataNamesSpec) :=
  OpenClaim.holds_of_wide 4 Try.f4 rfl rfl rfl rfl rfl rfl rfl ⟨rfl, rfl, rfl, rfl, rfl⟩ rfl rfl rfl rfl rfl (by kernel_rfl) Try.func4 (by kernel_rfl)
    (of_decide_eq_true (by kernel_rfl)) (by unfold Func.isWrapper; first | (rw [if_pos (by decide +kernel)]; kernel_rfl) | (rw [if_neg (by decide +kernel)]; exact ⟨rfl, rfl⟩))
    (fun os started H enc _ => lifted os started H enc)
theorem strataNames : Rows.StrataNamesSaid := over
end Go.Proofs.Ytafedebfkdnpfaa
