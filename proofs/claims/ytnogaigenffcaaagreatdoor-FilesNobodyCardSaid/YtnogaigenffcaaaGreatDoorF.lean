/- Closed facts of the program's types and functions. Written by wip/tools/gen.py. -/
import Derived.Test.YtnogaigenffcaaaGreatDoorProg
import Derived.Test.YtnogaigenffcaaaGreatDoorSl5
set_option maxRecDepth 100000
namespace Go.Proofs.YtnogaigenffcaaaGreatDoor
open Go.SL
noncomputable abbrev P : Program := Go.Proofs.Tryz.prog
abbrev k_Sort : Nat := 16
abbrev k_CutPrefix : Nat := 27
abbrev k_Atoi : Nat := 28
abbrev k_Itoa : Nat := 30
abbrev k_Trim : Nat := 44
theorem ca_13 : callable P 13 = true := by kernel_rfl
theorem ca_14 : callable P 14 = true := by kernel_rfl
theorem ca_15 : callable P 15 = true := by kernel_rfl
theorem ca_16 : callable P 16 = true := by kernel_rfl
theorem ca_24 : callable P 24 = true := by kernel_rfl
theorem ca_27 : callable P 27 = true := by kernel_rfl
theorem ca_28 : callable P 28 = true := by kernel_rfl
theorem ca_29 : callable P 29 = true := by kernel_rfl
theorem ca_30 : callable P 30 = true := by kernel_rfl
theorem ca_37 : callable P 37 = true := by kernel_rfl
theorem ca_44 : callable P 44 = true := by kernel_rfl
theorem ca_5 : callable P 5 = true := by kernel_rfl
theorem ca_6 : callable P 6 = true := by kernel_rfl
theorem ca_7 : callable P 7 = true := by kernel_rfl
theorem ca_8 : callable P 8 = true := by kernel_rfl
theorem ca_9 : callable P 9 = true := by kernel_rfl
theorem ifc_62 : isIface P 62 = true := by kernel_rfl
theorem ptr_29 : isPtr P 29 = true := by kernel_rfl
theorem sl_35 : slTy P 35 = some (5, 1, 1) := by kernel_rfl
theorem un_23 : P.underlying 23 = some (.slice 3) := by kernel_rfl
theorem un_28 : P.underlying 28 = some (.slice 9) := by kernel_rfl
theorem un_3 : P.underlying 3 = some (.int .i64) := by kernel_rfl
theorem un_35 : P.underlying 35 = some (.slice 5) := by kernel_rfl
theorem un_5 : P.underlying 5 = some (.int .u8) := by kernel_rfl
theorem un_9 : P.underlying 9 = some (.string) := by kernel_rfl
theorem zo_5 : zeroOf P 5 = some [.int .u8 0] := by kernel_rfl
end Go.Proofs.YtnogaigenffcaaaGreatDoor
