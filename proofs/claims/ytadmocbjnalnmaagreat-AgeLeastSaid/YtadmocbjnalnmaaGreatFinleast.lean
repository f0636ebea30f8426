/- AgeLeastSaid is proved: for every argument that the statement lets in, the law returns true and leaves what came in unchanged; no conditions. -/
import Derived.Test.YtadmocbjnalnmaaGreatAgeSaid4
namespace Go.Proofs.YtadmocbjnalnmaaGreat
theorem least : Rows.AgeLeastSaid := Go.Age.said4
end Go.Proofs.YtadmocbjnalnmaaGreat
