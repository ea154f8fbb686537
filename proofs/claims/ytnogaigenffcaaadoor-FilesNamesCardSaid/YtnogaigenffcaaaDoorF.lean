/- Closed facts of the program's types and functions. Written by wip/tools/gen.py. -/
import Derived.Test.YtnogaigenffcaaaDoorProg
import Derived.Test.YtnogaigenffcaaaDoorSl5
set_option maxRecDepth 100000
namespace Go.Proofs.YtnogaigenffcaaaDoor
open Go.SL
noncomputable abbrev P : Program := Go.Proofs.Tryd.prog
abbrev k_CutPrefix : Nat := 9
abbrev k_Trim : Nat := 17
abbrev k_Itoa : Nat := 12
abbrev k_Atoi : Nat := 10
theorem ca_10 : callable P 10 = true := by kernel_rfl
theorem ca_11 : callable P 11 = true := by kernel_rfl
theorem ca_12 : callable P 12 = true := by kernel_rfl
theorem ca_13 : callable P 13 = true := by kernel_rfl
theorem ca_17 : callable P 17 = true := by kernel_rfl
theorem ca_4 : callable P 4 = true := by kernel_rfl
theorem ca_5 : callable P 5 = true := by kernel_rfl
theorem ca_6 : callable P 6 = true := by kernel_rfl
theorem ca_7 : callable P 7 = true := by kernel_rfl
theorem ca_8 : callable P 8 = true := by kernel_rfl
theorem ca_9 : callable P 9 = true := by kernel_rfl
theorem ifc_31 : isIface P 31 = true := by kernel_rfl
theorem sl_38 : slTy P 38 = some (5, 1, 1) := by kernel_rfl
theorem un_3 : P.underlying 3 = some (.int .i64) := by kernel_rfl
theorem un_38 : P.underlying 38 = some (.slice 5) := by kernel_rfl
theorem un_4 : P.underlying 4 = some (.bool) := by kernel_rfl
theorem un_5 : P.underlying 5 = some (.int .u8) := by kernel_rfl
theorem un_9 : P.underlying 9 = some (.string) := by kernel_rfl
theorem zo_5 : zeroOf P 5 = some [.int .u8 0] := by kernel_rfl
end Go.Proofs.YtnogaigenffcaaaDoor
