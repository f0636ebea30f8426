/- AgeReadsSaid is proved: for every argument that the statement lets in, the law returns true and leaves what came in unchanged; no conditions. -/
import Derived.Test.YtadmocbjnalnmaaGreatAgeSaid
namespace Go.Proofs.YtadmocbjnalnmaaGreat
theorem reads : Rows.AgeReadsSaid := Go.Age.said
end Go.Proofs.YtadmocbjnalnmaaGreat
