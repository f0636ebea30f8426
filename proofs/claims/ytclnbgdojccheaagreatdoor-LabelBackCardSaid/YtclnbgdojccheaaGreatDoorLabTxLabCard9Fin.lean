/- LabelBackCardSaid is proved: for every argument that the statement lets in, the law returns true and leaves what came in unchanged; no conditions. -/
import Derived.Test.YtclnbgdojccheaaGreatDoorLabTxLabCard9M05
namespace Go.Proofs.YtclnbgdojccheaaGreatDoor
theorem backs : Rows.LabelBackCardSaid := Go.Age.card9
end Go.Proofs.YtclnbgdojccheaaGreatDoor
