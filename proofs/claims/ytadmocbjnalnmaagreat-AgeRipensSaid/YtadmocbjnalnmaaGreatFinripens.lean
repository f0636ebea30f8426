/- AgeRipensSaid is proved: for every argument that the statement lets in, the law returns true and leaves what came in unchanged; no conditions. -/
import Derived.Test.YtadmocbjnalnmaaGreatAgeSaid7
namespace Go.Proofs.YtadmocbjnalnmaaGreat
theorem ripens : Rows.AgeRipensSaid := Go.Age.said7
end Go.Proofs.YtadmocbjnalnmaaGreat
