/- ParseMay: its card. No condition. -/
import Derived.Test.YtedmnakfknbabaaGreatDoorPLPB
namespace Go.Proofs.YtedmnakfknbabaaGreatDoor
theorem parseMay_holds : Rows.ParseMayCardSaid := xX
end Go.Proofs.YtedmnakfknbabaaGreatDoor
