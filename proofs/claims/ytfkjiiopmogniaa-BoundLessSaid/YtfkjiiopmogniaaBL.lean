/- The Bound of a certificate that holds is at most the cost of every plan that may be and serves just its orders: the law answers true for every input, and changes nothing. No condition beyond the row's own. -/
import Derived.Test.YtfkjiiopmogniaaWf
namespace Go.Proofs.Ytfkjiiopmogniaa
theorem boundLess_holds : Rows.BoundLessSaid := L12.boundLess_proved
end Go.Proofs.Ytfkjiiopmogniaa
#print axioms Go.Proofs.Ytfkjiiopmogniaa.boundLess_holds
