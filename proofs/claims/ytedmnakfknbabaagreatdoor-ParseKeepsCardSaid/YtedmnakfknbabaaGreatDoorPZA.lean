/- ParseKeeps: its card. No condition. -/
import Derived.Test.YtedmnakfknbabaaGreatDoorPLPA
namespace Go.Proofs.YtedmnakfknbabaaGreatDoor
theorem parseKeeps_holds : Rows.ParseKeepsCardSaid := uo
end Go.Proofs.YtedmnakfknbabaaGreatDoor
