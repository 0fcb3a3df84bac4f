import Derived.Test.YtnjjbiialpmhbaaWInv
import Derived.Test.YtnjjbiialpmhbaaWFootNe
namespace Go.Proofs.YtnjjbiialpmhbaaW.PrintWords
open Go.RowKit
end Go.Proofs.YtnjjbiialpmhbaaW.PrintWords
namespace Go.Proofs.YtnjjbiialpmhbaaW.PrintLast
section
variable {ops : Array Oper} {a : Act} {o og : Oper} {g : Nat} {t : Tmp} {u : Bool}
end
end Go.Proofs.YtnjjbiialpmhbaaW.PrintLast
