/- What a crash leaves as it was. -/
import Derived.Test.YtggepeepjaoibaaCrash
import Derived.Test.YtggepeepjaoibaaSame0
namespace Go.Proofs.Ytggepeepjaoibaa
open Go.RowKit
set_option linter.unusedVariables false
theorem crash_like (D : DiskG) (f : List UInt8) : Like D (crash D f) := ⟨rfl, rfl, tornUpto_len D f _⟩
end Go.Proofs.Ytggepeepjaoibaa
