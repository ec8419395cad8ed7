/- ClaimFree answers true at every claim and every name, and leaves both as they were; condition: what comes in is of bulk at most 1048576. -/
import Derived.Test.YtjilaaoaebglbaaGreatDoorA49
namespace Go.Proofs.YtjilaaoaebglbaaGreatDoor
theorem claimFree_holds : Rows.ClaimFreeUptoCardSaid := Go.Am.free_card
#print axioms claimFree_holds
end Go.Proofs.YtjilaaoaebglbaaGreatDoor
