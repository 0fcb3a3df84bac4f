import Derived.Test.YtnjjbiialpmhbaaWLast
import Derived.Test.YtnjjbiialpmhbaaWWords
/-! ### 50. A region's order in a table, made once a region: each step asks the table (numbers alone), not the operations -/
namespace Go.Proofs.YtnjjbiialpmhbaaW.PrintLast
open Go.Proofs.YtnjjbiialpmhbaaW.PrintWords (Aside0)
section
variable {md : Region.Mode} {ops : Array Oper} {T : Bool × List (List Nat × List Nat)} {l l' li lj lk : Array Bool} {ds : List Nat} {i j k : Nat}
end
end Go.Proofs.YtnjjbiialpmhbaaW.PrintLast
