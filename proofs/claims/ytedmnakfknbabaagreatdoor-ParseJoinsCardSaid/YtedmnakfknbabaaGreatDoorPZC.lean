/- ParseJoins: its card. No condition. -/
import Derived.Test.YtedmnakfknbabaaGreatDoorPLPC
namespace Go.Proofs.YtedmnakfknbabaaGreatDoor
theorem parseJoins_holds : Rows.ParseJoinsCardSaid := uq
end Go.Proofs.YtedmnakfknbabaaGreatDoor
