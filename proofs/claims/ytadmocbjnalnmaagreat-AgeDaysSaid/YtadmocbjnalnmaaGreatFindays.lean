/- AgeDaysSaid is proved: for every argument that the statement lets in, the law returns true and leaves what came in unchanged; no conditions. -/
import Derived.Test.YtadmocbjnalnmaaGreatAgeSaid5
namespace Go.Proofs.YtadmocbjnalnmaaGreat
theorem days : Rows.AgeDaysSaid := Go.Age.said5
end Go.Proofs.YtadmocbjnalnmaaGreat
