/- MagicNames holds: the predicates of what is asked and found, and what is given, are as the document says; of unlike demands they are unlike. No conditions. -/
import Derived.Test.YtafedebfkdnpfaaGreatMagLaw
import Derived.Test.YtafedebfkdnpfaaGreatAwm
import Derived.Test.YtafedebfkdnpfaaGreatRows
import Derived.WalkKit
import Derived.ProofKit
namespace Go.Proofs.YtafedebfkdnpfaaGreat
open Go.ChangeShapes Go.WideShapes Go.ChangeAt Go.RowKit Go.Am
theorem own : ownKnob Tryz.prog.godebug = none := by kernel_rfl
theorem laidOut : laidOutB Tryz.prog = true := by kernel_rfl
theorem magicNames_walk (av : List AV) (h : ArgFits Tryz.prog 12 Tryz.f3.params.toList av) : ACalls Tryz.prog 3 av (fun v _ => v = .bool true) AHeap.empty := by
  have ep : Tryz.f3.params.toList = [9, 23, 23, 26] := by kernel_rfl
  rw [ep] at h
  obtain ⟨a1, r, rfl, h1, h⟩ := args_cons h
  obtain ⟨a2, r, rfl, h2, h⟩ := args_cons h
  obtain ⟨a3, r, rfl, h3, h⟩ := args_cons h
  obtain ⟨a4, r, rfl, h4, h⟩ := args_cons h
  have h := args_nil h
  subst h
  obtain ⟨pre, rfl, b1⟩ := str_arg (by kernel_rfl) (by kernel_rfl) h1
  obtain ⟨dp, dt, rfl, b2, b3⟩ := strs2_arg (by kernel_rfl) (by kernel_rfl) h2
  obtain ⟨ep', et, rfl, b4, b5⟩ := strs2_arg (by kernel_rfl) (by kernel_rfl) h3
  obtain ⟨a, rfl, b6⟩ := atom_arg (tt := 35) (by kernel_rfl) (by kernel_rfl) h4
  exact Go.Am.Z.law_mnames Go.Am.Z.awake17 pre dp dt ep' et a b1 b2 b3 b4 b5 b6.2.1
set_option maxRecDepth 100000 in
theorem lifted (os : Os) (started : os.Started) (H : Type) (enc : TypeId × Value → H) :
    ReturnsInHanded {} Tryz.checked os 3 .any (Rows.magicNamesSpec.pre6 enc Tryz.prog Tryz.f3 Rows.magicNamesRow.domain false) (Rows.magicNamesSpec.post enc Tryz.prog Tryz.f3 false true false false) := by
  refine returnsInHanded_of_change_sized (C := Tryz.checked) own started (by kernel_rfl) Tryz.func3
    (ChangeSpec.witness6 (enc := enc) (C := Tryz.checked) false ⟨#[], #[.string ⟨#[]⟩, .agg #[.string ⟨#[]⟩, .string ⟨#[]⟩], .agg #[.string ⟨#[]⟩, .string ⟨#[]⟩], .agg #[.string ⟨#[]⟩, .slice none 0 0]], []⟩ 8 (by kernel_rfl) (by kernel_rfl) (by kernel_rfl) (by kernel_rfl)) ?_
  intro W base args ds gs before hval hW _ hz _
  exact calls_true 12 laidOut (by decide +kernel) (by decide +kernel) (tb := 4) (by kernel_rfl) (by kernel_rfl) rfl (fun ds h => by match ds, h with | [d1, d2, d3, d4], _ => rfl) hval hW hz magicNames_walk
theorem over : Rows.magicNamesRow.holds Tryz.pinned (OpenSpec.ofChange Rows.magicNamesSpec) :=
  OpenClaim.holds_of_wide 3 Tryz.f3 rfl rfl rfl rfl rfl rfl rfl ⟨rfl, rfl, rfl, rfl, rfl⟩ rfl rfl rfl rfl rfl (by kernel_rfl) Tryz.func3 (by kernel_rfl)
    (of_decide_eq_true (by kernel_rfl)) (by unfold Func.isWrapper; first | (rw [if_pos (by decide +kernel)]; kernel_rfl) | (rw [if_neg (by decide +kernel)]; exact ⟨rfl, rfl⟩))
    (fun os started H enc _ => lifted os started H enc)
theorem magicNames : Rows.MagicNamesSaid := over
end Go.Proofs.YtafedebfkdnpfaaGreat
