/- What functions of the program compute, under the conditions that each statement names. -/
import Derived.Test.YtafedebfkdnpfaaGreatAmZa
import Derived.Test.YtafedebfkdnpfaaGreatTx
namespace Go.Am.Z
open Go Go.Proofs Go.Am
set_option maxRecDepth 100000 in
theorem awake17 (H : AHeap) : ACalls Tryz.prog law17_awake_id [] (fun u H' => H' = H ∧ u = .bool true) H := tells_ok T_ok (n := 100000) (by kernel_rfl) H
end Go.Am.Z
