/- LabelSumsCardSaid is proved: for every argument that the statement lets in, the law returns true and leaves what came in unchanged; no conditions. -/
import Derived.Test.YtclnbgdojccheaaGreatDoorLabCard7M27
namespace Go.Proofs.YtclnbgdojccheaaGreatDoor
theorem sums : Rows.LabelSumsCardSaid := Go.Age.card7
end Go.Proofs.YtclnbgdojccheaaGreatDoor
