/- LabelTextsCardSaid is proved: for every argument that the statement lets in, the law returns true and leaves what came in unchanged; no conditions. -/
import Derived.Test.YtclnbgdojccheaaGreatDoorLabTxLabCard8M08
namespace Go.Proofs.YtclnbgdojccheaaGreatDoor
theorem texts : Rows.LabelTextsCardSaid := Go.Age.card8
end Go.Proofs.YtclnbgdojccheaaGreatDoor
