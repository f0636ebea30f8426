/- AgeOldSaid is proved: for every argument that the statement lets in, the law returns true and leaves what came in unchanged; no conditions. -/
import Derived.Test.YtadmocbjnalnmaaGreatAgeSaid8
namespace Go.Proofs.YtadmocbjnalnmaaGreat
theorem old : Rows.AgeOldSaid := Go.Age.said8
end Go.Proofs.YtadmocbjnalnmaaGreat
