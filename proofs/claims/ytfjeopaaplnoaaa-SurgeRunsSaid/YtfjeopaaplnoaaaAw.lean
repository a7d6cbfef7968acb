/-
  THE EXAMPLES: 'awake' says true.
-/
import Derived.Test.YtfjeopaaplnoaaaTb
namespace Go.Proofs.Ytfjeopaaplnoaaa
open Go Go.RowKit Av
set_option maxRecDepth 100000
theorem c15 : DCall Try.prog 15 [] (bool true) := DCall.of_run hm 3000 (by kernel_rfl)
end Go.Proofs.Ytfjeopaaplnoaaa
