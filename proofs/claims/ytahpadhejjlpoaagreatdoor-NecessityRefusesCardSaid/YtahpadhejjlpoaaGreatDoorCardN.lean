/- The package's variables that a card of layer 54 lists. -/
import Derived.Test.YtahpadhejjlpoaaGreatDoorFrame
import Derived.Test.YtahpadhejjlpoaaGreatDoorTie
import Derived.LaidMore
import Derived.Lay
import Derived.Stop.Joined
import Derived.Lib.SmallJoins
namespace Go.Proofs.YtahpadhejjlpoaaGreatDoor
open Go.ChangeShapes Go.WideShapes Go.ChangeAt Go.RowKit Go.Joins

def laidR : List (String × DataW Unit) := [("bedrock/crc.nibbles", Rows.laid_bedrock_crc_nibbles), ("unicode/utf8.acceptRanges", Rows.laid_unicode_utf8_acceptRanges), ("unicode/utf8.first", Rows.laid_unicode_utf8_first)]
end Go.Proofs.YtahpadhejjlpoaaGreatDoor
