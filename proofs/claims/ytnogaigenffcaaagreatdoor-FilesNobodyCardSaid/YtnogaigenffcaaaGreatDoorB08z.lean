/- slices.Sort at nil. -/
import Derived.Test.YtnogaigenffcaaaGreatDoorB08
namespace Go.Proofs.YtnogaigenffcaaaGreatDoor
open Go.SL Go.RowKit
theorem s_SortNil : CallsS P k_Sort [.slice none 0 0] [] (fun v L => v = .tuple #[] ∧ L = []) :=
  CallsS.of_same fun w => Tryz.slices_Sort_int_none none 0 w
end Go.Proofs.YtnogaigenffcaaaGreatDoor
