/- LabelMakesCardSaid is proved: for every argument that the statement lets in, the law returns true and leaves what came in unchanged; no conditions. -/
import Derived.Test.YtclnbgdojccheaaGreatDoorLabCard4M30
namespace Go.Proofs.YtclnbgdojccheaaGreatDoor
theorem makes : Rows.LabelMakesCardSaid := Go.Age.card4
end Go.Proofs.YtclnbgdojccheaaGreatDoor
