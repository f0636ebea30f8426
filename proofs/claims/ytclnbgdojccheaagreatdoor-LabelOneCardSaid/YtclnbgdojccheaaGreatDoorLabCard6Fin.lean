/- LabelOneCardSaid is proved: for every argument that the statement lets in, the law returns true and leaves what came in unchanged; no conditions. -/
import Derived.Test.YtclnbgdojccheaaGreatDoorLabCard6M27
namespace Go.Proofs.YtclnbgdojccheaaGreatDoor
theorem one : Rows.LabelOneCardSaid := Go.Age.card6
end Go.Proofs.YtclnbgdojccheaaGreatDoor
