/- BookDigestsCardSaid is proved: for every argument that the statement lets in, the law returns true and leaves what came in unchanged; no conditions. -/
import Derived.Test.YtclndflapjmfnaaGreatDoorBkCard3M24
namespace Go.Proofs.YtclndflapjmfnaaGreatDoor
theorem digests : Rows.BookDigestsCardSaid := Go.Age.card3
end Go.Proofs.YtclndflapjmfnaaGreatDoor
