/- LabelFindsCardSaid is proved: for every argument that the statement lets in, the law returns true and leaves what came in unchanged; no conditions. -/
import Derived.Test.YtclnbgdojccheaaGreatDoorLabCard3M33
namespace Go.Proofs.YtclnbgdojccheaaGreatDoor
theorem finds : Rows.LabelFindsCardSaid := Go.Age.card3
end Go.Proofs.YtclnbgdojccheaaGreatDoor
