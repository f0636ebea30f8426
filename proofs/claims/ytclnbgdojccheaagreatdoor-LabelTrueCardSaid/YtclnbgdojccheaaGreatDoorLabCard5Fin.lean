/- LabelTrueCardSaid is proved: for every argument that the statement lets in, the law returns true and leaves what came in unchanged; no conditions. -/
import Derived.Test.YtclnbgdojccheaaGreatDoorLabCard5M31
namespace Go.Proofs.YtclnbgdojccheaaGreatDoor
theorem trues : Rows.LabelTrueCardSaid := Go.Age.card5
end Go.Proofs.YtclnbgdojccheaaGreatDoor
