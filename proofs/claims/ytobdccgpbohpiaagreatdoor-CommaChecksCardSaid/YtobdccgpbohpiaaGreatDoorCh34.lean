/- Ch: a part of the proof. -/
import Derived.Deep.RegionWith
import Derived.Test.YtobdccgpbohpiaaGreatDoorCh22
import Derived.Test.YtobdccgpbohpiaaGreatDoorCh32
import Derived.Test.YtobdccgpbohpiaaGreatDoorCh33
set_option linter.unusedVariables false
set_option linter.unusedSimpArgs false
namespace Go.Proofs.YtobdccgpbohpiaaGreatDoor
open Go.RowKit Go.Lib Go.Sort F Go.Proofs.YtobdccgpbohpiaaGreatDoorW.PrintWords Go.Proofs.YtobdccgpbohpiaaGreatDoorW.PrintLast Go.Proofs.YtobdccgpbohpiaaGreatDoorW.PrintMore
theorem q_cells {W : World} {g : Nat} {a b c : Value} {e : Nat} (h : W.heap[g]? = some (.cells #[a, b, c] e (0, 0))) : W.cell? ⟨g, 0, none⟩ = some a ∧ W.cell? ⟨g, 1, none⟩ = some b ∧ W.cell? ⟨g, 2, none⟩ = some c := by simp [World.cell?, h]
end Go.Proofs.YtobdccgpbohpiaaGreatDoor
