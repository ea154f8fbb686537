/- Closed facts of the program's types and functions. Written by wip/tools/gen.py. -/
import Derived.Test.YtpaipfceibcbkaaDoorProg
import Derived.Test.YtpaipfceibcbkaaDoorSl7
set_option maxRecDepth 100000
namespace Go.Proofs.YtpaipfceibcbkaaDoor
open Go.SL
noncomputable abbrev P : Program := Go.Proofs.Tryd.prog
abbrev k_ValidRune : Nat := 70
abbrev k_IndexByte : Nat := 69
abbrev k_Split : Nat := 55
abbrev g_MaxLen : Nat := 0
theorem ag_102 : aggSize P 102 = some 64 := by kernel_rfl
theorem ag_23 : aggSize P 23 = some 14 := by kernel_rfl
theorem ag_27 : aggSize P 27 = some 7 := by kernel_rfl
theorem ag_37 : aggSize P 37 = some 6 := by kernel_rfl
theorem ag_43 : aggSize P 43 = some 15 := by kernel_rfl
theorem ag_91 : aggSize P 91 = some 8 := by kernel_rfl
theorem ag_94 : aggSize P 94 = some 10 := by kernel_rfl
theorem arr_102 : arrTy P 102 = some (64, 90, 1) := by kernel_rfl
theorem arr_91 : arrTy P 91 = some (8, 90, 1) := by kernel_rfl
theorem ca_10 : callable P 10 = true := by kernel_rfl
theorem ca_11 : callable P 11 = true := by kernel_rfl
theorem ca_12 : callable P 12 = true := by kernel_rfl
theorem ca_13 : callable P 13 = true := by kernel_rfl
theorem ca_14 : callable P 14 = true := by kernel_rfl
theorem ca_15 : callable P 15 = true := by kernel_rfl
theorem ca_16 : callable P 16 = true := by kernel_rfl
theorem ca_17 : callable P 17 = true := by kernel_rfl
theorem ca_18 : callable P 18 = true := by kernel_rfl
theorem ca_19 : callable P 19 = true := by kernel_rfl
theorem ca_20 : callable P 20 = true := by kernel_rfl
theorem ca_21 : callable P 21 = true := by kernel_rfl
theorem ca_22 : callable P 22 = true := by kernel_rfl
theorem ca_23 : callable P 23 = true := by kernel_rfl
theorem ca_24 : callable P 24 = true := by kernel_rfl
theorem ca_25 : callable P 25 = true := by kernel_rfl
theorem ca_26 : callable P 26 = true := by kernel_rfl
theorem ca_27 : callable P 27 = true := by kernel_rfl
theorem ca_28 : callable P 28 = true := by kernel_rfl
theorem ca_29 : callable P 29 = true := by kernel_rfl
theorem ca_30 : callable P 30 = true := by kernel_rfl
theorem ca_31 : callable P 31 = true := by kernel_rfl
theorem ca_32 : callable P 32 = true := by kernel_rfl
theorem ca_33 : callable P 33 = true := by kernel_rfl
theorem ca_34 : callable P 34 = true := by kernel_rfl
theorem ca_35 : callable P 35 = true := by kernel_rfl
theorem ca_36 : callable P 36 = true := by kernel_rfl
theorem ca_37 : callable P 37 = true := by kernel_rfl
theorem ca_38 : callable P 38 = true := by kernel_rfl
theorem ca_39 : callable P 39 = true := by kernel_rfl
theorem ca_4 : callable P 4 = true := by kernel_rfl
theorem ca_40 : callable P 40 = true := by kernel_rfl
theorem ca_41 : callable P 41 = true := by kernel_rfl
theorem ca_42 : callable P 42 = true := by kernel_rfl
theorem ca_43 : callable P 43 = true := by kernel_rfl
theorem ca_44 : callable P 44 = true := by kernel_rfl
theorem ca_45 : callable P 45 = true := by kernel_rfl
theorem ca_46 : callable P 46 = true := by kernel_rfl
theorem ca_47 : callable P 47 = true := by kernel_rfl
theorem ca_48 : callable P 48 = true := by kernel_rfl
theorem ca_49 : callable P 49 = true := by kernel_rfl
theorem ca_5 : callable P 5 = true := by kernel_rfl
theorem ca_50 : callable P 50 = true := by kernel_rfl
theorem ca_51 : callable P 51 = true := by kernel_rfl
theorem ca_52 : callable P 52 = true := by kernel_rfl
theorem ca_53 : callable P 53 = true := by kernel_rfl
theorem ca_54 : callable P 54 = true := by kernel_rfl
theorem ca_55 : callable P 55 = true := by kernel_rfl
theorem ca_56 : callable P 56 = true := by kernel_rfl
theorem ca_57 : callable P 57 = true := by kernel_rfl
theorem ca_58 : callable P 58 = true := by kernel_rfl
theorem ca_59 : callable P 59 = true := by kernel_rfl
theorem ca_6 : callable P 6 = true := by kernel_rfl
theorem ca_60 : callable P 60 = true := by kernel_rfl
theorem ca_61 : callable P 61 = true := by kernel_rfl
theorem ca_62 : callable P 62 = true := by kernel_rfl
theorem ca_63 : callable P 63 = true := by kernel_rfl
theorem ca_64 : callable P 64 = true := by kernel_rfl
theorem ca_67 : callable P 67 = true := by kernel_rfl
theorem ca_68 : callable P 68 = true := by kernel_rfl
theorem ca_69 : callable P 69 = true := by kernel_rfl
theorem ca_7 : callable P 7 = true := by kernel_rfl
theorem ca_70 : callable P 70 = true := by kernel_rfl
theorem ca_71 : callable P 71 = true := by kernel_rfl
theorem ca_72 : callable P 72 = true := by kernel_rfl
theorem ca_73 : callable P 73 = true := by kernel_rfl
theorem ca_78 : callable P 78 = true := by kernel_rfl
theorem ca_8 : callable P 8 = true := by kernel_rfl
theorem ca_9 : callable P 9 = true := by kernel_rfl
theorem co_5 : P.cellsOf 5 = 1 := by kernel_rfl
theorem fo_23_0 : fieldOff P 23 0 = some 0 := by kernel_rfl
theorem fo_23_1 : fieldOff P 23 1 = some 1 := by kernel_rfl
theorem fo_23_10 : fieldOff P 23 10 = some 10 := by kernel_rfl
theorem fo_23_11 : fieldOff P 23 11 = some 11 := by kernel_rfl
theorem fo_23_12 : fieldOff P 23 12 = some 12 := by kernel_rfl
theorem fo_23_13 : fieldOff P 23 13 = some 13 := by kernel_rfl
theorem fo_23_2 : fieldOff P 23 2 = some 2 := by kernel_rfl
theorem fo_23_3 : fieldOff P 23 3 = some 3 := by kernel_rfl
theorem fo_23_4 : fieldOff P 23 4 = some 4 := by kernel_rfl
theorem fo_23_5 : fieldOff P 23 5 = some 5 := by kernel_rfl
theorem fo_23_6 : fieldOff P 23 6 = some 6 := by kernel_rfl
theorem fo_23_7 : fieldOff P 23 7 = some 7 := by kernel_rfl
theorem fo_23_8 : fieldOff P 23 8 = some 8 := by kernel_rfl
theorem fo_23_9 : fieldOff P 23 9 = some 9 := by kernel_rfl
theorem fo_27_0 : fieldOff P 27 0 = some 0 := by kernel_rfl
theorem fo_27_1 : fieldOff P 27 1 = some 1 := by kernel_rfl
theorem fo_27_2 : fieldOff P 27 2 = some 2 := by kernel_rfl
theorem fo_27_3 : fieldOff P 27 3 = some 3 := by kernel_rfl
theorem fo_27_4 : fieldOff P 27 4 = some 4 := by kernel_rfl
theorem fo_27_5 : fieldOff P 27 5 = some 5 := by kernel_rfl
theorem fo_27_6 : fieldOff P 27 6 = some 6 := by kernel_rfl
theorem fo_29_5 : fieldOff P 29 5 = some 5 := by kernel_rfl
theorem fo_29_6 : fieldOff P 29 6 = some 6 := by kernel_rfl
theorem fo_37_0 : fieldOff P 37 0 = some 0 := by kernel_rfl
theorem fo_37_1 : fieldOff P 37 1 = some 1 := by kernel_rfl
theorem fo_37_2 : fieldOff P 37 2 = some 2 := by kernel_rfl
theorem fo_37_3 : fieldOff P 37 3 = some 3 := by kernel_rfl
theorem fo_37_4 : fieldOff P 37 4 = some 4 := by kernel_rfl
theorem fo_37_5 : fieldOff P 37 5 = some 5 := by kernel_rfl
theorem fo_43_1 : fieldOff P 43 1 = some 1 := by kernel_rfl
theorem fo_62_0 : fieldOff P 62 0 = some 0 := by kernel_rfl
theorem fo_62_1 : fieldOff P 62 1 = some 1 := by kernel_rfl
theorem fo_70_0 : fieldOff P 70 0 = some 0 := by kernel_rfl
theorem fo_70_1 : fieldOff P 70 1 = some 1 := by kernel_rfl
theorem fo_94_0 : fieldOff P 94 0 = some 0 := by kernel_rfl
theorem fo_94_1 : fieldOff P 94 1 = some 8 := by kernel_rfl
theorem fo_94_2 : fieldOff P 94 2 = some 9 := by kernel_rfl
theorem fsc_37_1 : fieldSc P 37 1 = some 1 := by kernel_rfl
theorem fsc_37_2 : fieldSc P 37 2 = some 2 := by kernel_rfl
theorem inf_70 : (P.info? 70).isSome = true := by kernel_rfl
theorem inf_9 : (P.info? 9).isSome = true := by kernel_rfl
theorem lay_102 : layOf P 102 = some [(0, 1), (1, 1), (2, 1), (3, 1), (4, 1), (5, 1), (6, 1), (7, 1), (8, 1), (9, 1), (10, 1), (11, 1), (12, 1), (13, 1), (14, 1), (15, 1), (16, 1), (17, 1), (18, 1), (19, 1), (20, 1), (21, 1), (22, 1), (23, 1), (24, 1), (25, 1), (26, 1), (27, 1), (28, 1), (29, 1), (30, 1), (31, 1), (32, 1), (33, 1), (34, 1), (35, 1), (36, 1), (37, 1), (38, 1), (39, 1), (40, 1), (41, 1), (42, 1), (43, 1), (44, 1), (45, 1), (46, 1), (47, 1), (48, 1), (49, 1), (50, 1), (51, 1), (52, 1), (53, 1), (54, 1), (55, 1), (56, 1), (57, 1), (58, 1), (59, 1), (60, 1), (61, 1), (62, 1), (63, 1)] := by kernel_rfl
theorem lay_23 : layOf P 23 = some [(0, 1), (1, 1), (2, 1), (3, 1), (4, 1), (5, 1), (6, 1), (7, 1), (8, 1), (9, 1), (10, 1), (11, 1), (12, 1), (13, 1)] := by kernel_rfl
theorem lay_27 : layOf P 27 = some [(0, 1), (1, 1), (2, 1), (3, 1), (4, 1), (5, 1), (6, 1)] := by kernel_rfl
theorem lay_29 : layOf P 29 = some [(0, 1), (1, 1), (2, 1), (3, 1), (4, 1), (5, 1), (6, 7)] := by kernel_rfl
theorem lay_37 : layOf P 37 = some [(0, 1), (1, 1), (2, 1), (3, 1), (4, 1), (5, 1)] := by kernel_rfl
theorem lay_43 : layOf P 43 = some [(0, 1), (1, 14)] := by kernel_rfl
theorem lay_91 : layOf P 91 = some [(0, 1), (1, 1), (2, 1), (3, 1), (4, 1), (5, 1), (6, 1), (7, 1)] := by kernel_rfl
theorem lay_94 : layOf P 94 = some [(0, 8), (8, 1), (9, 1)] := by kernel_rfl
theorem mx_ : P.follows .mixedOrders = true := by kernel_rfl
theorem ni_60 : notInt P 60 = true := by kernel_rfl
theorem ni_76 : notInt P 76 = true := by kernel_rfl
theorem ni_9 : notInt P 9 = true := by kernel_rfl
theorem ptr_64 : isPtr P 64 = true := by kernel_rfl
theorem ptr_68 : isPtr P 68 = true := by kernel_rfl
theorem ptr_80 : isPtr P 80 = true := by kernel_rfl
theorem sc_3 : isScalar P 3 = true := by kernel_rfl
theorem sc_4 : isScalar P 4 = true := by kernel_rfl
theorem sc_60 : isScalar P 60 = true := by kernel_rfl
theorem sc_68 : isScalar P 68 = true := by kernel_rfl
theorem sc_9 : isScalar P 9 = true := by kernel_rfl
theorem sc_90 : isScalar P 90 = true := by kernel_rfl
theorem sl_44 : slTy P 44 = some (43, 15, 168) := by kernel_rfl
theorem sl_60 : slTy P 60 = some (5, 1, 1) := by kernel_rfl
theorem sl_76 : slTy P 76 = some (9, 1, 16) := by kernel_rfl
theorem un_106 : P.underlying 106 = some (.int .u64) := by kernel_rfl
theorem un_3 : P.underlying 3 = some (.int .i64) := by kernel_rfl
theorem un_4 : P.underlying 4 = some (.bool) := by kernel_rfl
theorem un_44 : P.underlying 44 = some (.slice 43) := by kernel_rfl
theorem un_5 : P.underlying 5 = some (.int .u8) := by kernel_rfl
theorem un_60 : P.underlying 60 = some (.slice 5) := by kernel_rfl
theorem un_68 : P.underlying 68 = some (.pointer 70) := by kernel_rfl
theorem un_76 : P.underlying 76 = some (.slice 9) := by kernel_rfl
theorem un_84 : P.underlying 84 = some (.pointer 5) := by kernel_rfl
theorem un_87 : P.underlying 87 = some (.int .u64) := by kernel_rfl
theorem un_9 : P.underlying 9 = some (.string) := by kernel_rfl
theorem un_90 : P.underlying 90 = some (.int .u32) := by kernel_rfl
theorem un_96 : P.underlying 96 = some (.unsafePointer) := by kernel_rfl
theorem zo_102 : zeroOf P 102 = some [.int .u32 0, .int .u32 0, .int .u32 0, .int .u32 0, .int .u32 0, .int .u32 0, .int .u32 0, .int .u32 0, .int .u32 0, .int .u32 0, .int .u32 0, .int .u32 0, .int .u32 0, .int .u32 0, .int .u32 0, .int .u32 0, .int .u32 0, .int .u32 0, .int .u32 0, .int .u32 0, .int .u32 0, .int .u32 0, .int .u32 0, .int .u32 0, .int .u32 0, .int .u32 0, .int .u32 0, .int .u32 0, .int .u32 0, .int .u32 0, .int .u32 0, .int .u32 0, .int .u32 0, .int .u32 0, .int .u32 0, .int .u32 0, .int .u32 0, .int .u32 0, .int .u32 0, .int .u32 0, .int .u32 0, .int .u32 0, .int .u32 0, .int .u32 0, .int .u32 0, .int .u32 0, .int .u32 0, .int .u32 0, .int .u32 0, .int .u32 0, .int .u32 0, .int .u32 0, .int .u32 0, .int .u32 0, .int .u32 0, .int .u32 0, .int .u32 0, .int .u32 0, .int .u32 0, .int .u32 0, .int .u32 0, .int .u32 0, .int .u32 0, .int .u32 0] := by kernel_rfl
theorem zo_23 : zeroOf P 23 = some [.int .i64 0, .string ⟨#[]⟩, .int .i64 0, .int .i64 0, .int .i64 0, .int .i64 0, .string ⟨#[]⟩, .int .i64 0, .int .i64 0, .int .i64 0, .string ⟨#[]⟩, .string ⟨#[]⟩, .string ⟨#[]⟩, .string ⟨#[]⟩] := by kernel_rfl
theorem zo_27 : zeroOf P 27 = some [.int .i64 0, .int .i64 0, .int .i64 0, .string ⟨#[]⟩, .string ⟨#[]⟩, .string ⟨#[]⟩, .string ⟨#[]⟩] := by kernel_rfl
theorem zo_29 : zeroOf P 29 = some [.int .u8 0, .bool false, .int .i64 0, .int .i64 0, .int .i64 0, .string ⟨#[]⟩, .int .i64 0, .int .i64 0, .int .i64 0, .string ⟨#[]⟩, .string ⟨#[]⟩, .string ⟨#[]⟩, .string ⟨#[]⟩] := by kernel_rfl
theorem zo_37 : zeroOf P 37 = some [.int .i64 0, .int .i64 0, .int .i64 0, .int .i64 0, .int .i64 0, .int .i64 0] := by kernel_rfl
theorem zo_43 : zeroOf P 43 = some [.int .i64 0, .int .i64 0, .string ⟨#[]⟩, .int .i64 0, .int .i64 0, .int .i64 0, .int .i64 0, .string ⟨#[]⟩, .int .i64 0, .int .i64 0, .int .i64 0, .string ⟨#[]⟩, .string ⟨#[]⟩, .string ⟨#[]⟩, .string ⟨#[]⟩] := by kernel_rfl
theorem zo_5 : zeroOf P 5 = some [.int .u8 0] := by kernel_rfl
theorem zo_62 : zeroOf P 62 = some [.slice none 0 0, .bool false] := by kernel_rfl
theorem zo_70 : zeroOf P 70 = some [.pointer none, .slice none 0 0] := by kernel_rfl
theorem zo_9 : zeroOf P 9 = some [.string ⟨#[]⟩] := by kernel_rfl
theorem zo_91 : zeroOf P 91 = some [.int .u32 0, .int .u32 0, .int .u32 0, .int .u32 0, .int .u32 0, .int .u32 0, .int .u32 0, .int .u32 0] := by kernel_rfl
theorem zo_94 : zeroOf P 94 = some [.int .u32 0, .int .u32 0, .int .u32 0, .int .u32 0, .int .u32 0, .int .u32 0, .int .u32 0, .int .u32 0, .string ⟨#[]⟩, .int .i64 0] := by kernel_rfl
end Go.Proofs.YtpaipfceibcbkaaDoor
