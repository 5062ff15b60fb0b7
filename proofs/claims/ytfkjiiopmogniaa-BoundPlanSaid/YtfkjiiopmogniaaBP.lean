/- What is made, of the orders that a plan serves, is at most what the plan costs, holds, and no certificate of the same orders that holds has a greater Bound: the law answers true for every input, and changes nothing. No condition beyond the row's own. -/
import Derived.Test.YtfkjiiopmogniaaWf
namespace Go.Proofs.Ytfkjiiopmogniaa
theorem boundPlan_holds : Rows.BoundPlanSaid := L12.boundPlan_proved
end Go.Proofs.Ytfkjiiopmogniaa
#print axioms Go.Proofs.Ytfkjiiopmogniaa.boundPlan_holds
