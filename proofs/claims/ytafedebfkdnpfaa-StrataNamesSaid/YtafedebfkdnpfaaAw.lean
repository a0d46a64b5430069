/- What functions of the program compute, under the conditions that each statement names. -/
import Derived.Test.YtafedebfkdnpfaaAmZa
import Derived.Test.YtafedebfkdnpfaaTx
namespace Go.Am.A
open Go Go.Proofs Go.Am
set_option maxRecDepth 100000 in
theorem awake13 (H : AHeap) : ACalls Try.prog law13_awake_id [] (fun u H' => H' = H ∧ u = .bool true) H := tells_ok T_ok (n := 100000) (by kernel_rfl) H
end Go.Am.A
