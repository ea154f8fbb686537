/- Walks: what functions of the program answer, over the logic of footprints. Written by wip/tools/gen.py out of a spec of this session's. -/
import Derived.Test.YtpaipfceibcbkaaDoorWB0
set_option linter.unusedVariables false
set_option linter.unusedSimpArgs false
set_option maxRecDepth 100000
namespace Go.Proofs.YtpaipfceibcbkaaDoor
open Go.SL Go.Proofs.YtpaipfceibcbkaaDoor


theorem s_copyCheck (b : Nat) (p : Option Addr) (v0 : Value) (hp : p = none ∨ p = some ⟨b, 0, none⟩) : CallsS P 54 [.pointer (some ⟨b, 0, none⟩)] [[(b, .cells [.pointer p, v0].toArray 70 (0, 0))]] (fun v L => v = .tuple #[] ∧ L = [[(b, .cells [.pointer (some ⟨b, 0, none⟩), v0].toArray 70 (0, 0))]]) := by
  rcases hp with rfl | rfl
  · exact s_copyCheck0 b v0
  · exact s_copyCheck1 b v0

theorem s_WriteByte0 (b : Nat) (p : Option Addr) (v0 : Value) (l : List UInt8) (c : Int) (bf : Foot) (hy0 : p = none ∨ p = some ⟨b, 0, none⟩) (hy1 : OwnSl 5 1 v0 l.length (bytesV l) bf) (hy2 : l.length ≤ 1000000) : CallsS P 43 [.pointer (some ⟨b, 0, none⟩), .int .u8 c] [[(b, .cells [.pointer p, v0].toArray 70 (0, 0))], bf] (fun v L => v = .nilIface ∧ ∃ v1 bf1, L = [[(b, .cells [.pointer (some ⟨b, 0, none⟩), v1].toArray 70 (0, 0))], bf1] ∧ OwnSl 5 1 v1 (l.length + 1) (bytesV l ++ [.int .u8 c]) bf1) := by
  refine CallsS.intro Tryd.func43 rfl rfl rfl rfl ?_
  refine WP.seq ?_
  refine WP.region ?_
  refine WO.assign rfl rfl ?_
  refine WO.nil ?_
  refine thnN ?_
  refine WP.seq ?_
  refine WP.region ?_
  refine WO.move rfl rfl ?_
  refine WO.call (s_copyCheck b p v0 ?_) rfl ca_54 rfl rfl ?_
  · assumption
  rintro _ _ ⟨rfl, rfl⟩
  refine WO.nil ?_
  refine thnN ?_
  refine WP.seq ?_
  refine WP.region ?_
  refine WO.move rfl rfl ?_
  refine WO.move rfl rfl ?_
  refine WO.nilCheck rfl rfl ?_
  refine WO.fieldAddr rfl fo_70_1 rfl ?_
  refine WO.load rfl sc_60 (by first | exact in0 | exact in1 | exact in2 | exact in3 | exact in4 | exact in5 | exact in6) rfl rfl ?_
  refine WO.move rfl rfl ?_
  refine WO.buildSlice (cs := [_]) rfl sl_60 zo_5 rfl rfl rfl (fun l0 => ?_)
  refine WO.appendL 2 rfl sl_60 ni_60 rfl hy1 rfl (RdSl.lit in0 rfl) (by simp [Value.oneCell']) (by omega) rfl (fun vk Fk ok => ?_)
  obtain ⟨Ak, ck, rfl⟩ := ok.slice
  refine WO.drop 1 rfl ?_
  refine WO.nilCheck rfl rfl ?_
  refine WO.fieldAddr rfl fo_70_1 rfl ?_
  first | refine WO.store 0 rfl rfl rfl sc_60 rfl rfl _ rfl ?_ | refine WO.store 1 rfl rfl rfl sc_60 rfl rfl _ rfl ?_ | refine WO.store 2 rfl rfl rfl sc_60 rfl rfl _ rfl ?_ | refine WO.store 3 rfl rfl rfl sc_60 rfl rfl _ rfl ?_
  refine WO.nil ?_
  refine thnN ?_
  refine WP.seq ?_
  refine WP.region ?_
  refine WO.assign rfl rfl ?_
  refine WO.nil ?_
  refine thnN ?_
  refine WP.ret ?_
  refine ⟨_, _, (Res.one rfl), (Imp.refl _), ?_⟩
  exact ⟨rfl, _, _, rfl, ok⟩

theorem s_String0 (b : Nat) (p : Option Addr) : CallsS P 44 [.pointer (some ⟨b, 0, none⟩)] [[(b, .cells [.pointer p, .slice none 0 0].toArray 70 (0, 0))]] (fun v L => v = str [] ∧ L = []) := by
  refine CallsS.intro Tryd.func44 rfl rfl rfl rfl ?_
  refine WP.seq ?_
  refine WP.region ?_
  refine WO.assign rfl rfl ?_
  refine WO.nil ?_
  refine thnN ?_
  refine WP.seq ?_
  refine WP.regionD [] [0, 0, 0, 0, 0, 0, 0, 0, 0, 0, 0, 0] [(0, 0, [1, 2, 3, 4, 10, 11]), (1, 0, [2, 3, 4, 10, 11]), (2, 0, [3, 4, 10, 11]), (3, 1, [4, 10, 11]), (4, 0, [10, 11]), (5, 0, [6, 7, 8, 9, 10, 11]), (6, 0, [7, 8, 9, 10, 11]), (7, 0, [8, 9, 10, 11]), (8, 1, [9, 10, 11]), (9, 0, [10, 11]), (10, 0, [11]), (11, 0, [])] mx_ (by kernel_rfl) (by simp) ?_
  apply WL.pure
  · rfl
  · rfl
  · skip
    refine WO.move rfl rfl ?_
    exact WO.nil ⟨rfl, rfl⟩
  apply WL.pure
  · rfl
  · rfl
  · skip
    refine WO.nilCheck rfl rfl ?_
    exact WO.nil ⟨rfl, rfl⟩
  apply WL.pure
  · rfl
  · rfl
  · skip
    refine WO.fieldAddr rfl fo_70_1 rfl ?_
    exact WO.nil ⟨rfl, rfl⟩
  apply WL.read
  · rfl
  · rfl
  · skip
    refine WO.load rfl sc_60 (by first | exact in0 | exact in1 | exact in2 | exact in3 | exact in4 | exact in5 | exact in6) rfl rfl ?_
    exact WO.nil ⟨rfl, rfl⟩
  apply WL.pure
  · rfl
  · rfl
  · skip
    refine WO.sliceDataNil rfl rfl ?_
    exact WO.nil ⟨rfl, rfl⟩
  apply WL.pure
  · rfl
  · rfl
  · skip
    refine WO.move rfl rfl ?_
    exact WO.nil ⟨rfl, rfl⟩
  apply WL.pure
  · rfl
  · rfl
  · skip
    refine WO.nilCheck rfl rfl ?_
    exact WO.nil ⟨rfl, rfl⟩
  apply WL.pure
  · rfl
  · rfl
  · skip
    refine WO.fieldAddr rfl fo_70_1 rfl ?_
    exact WO.nil ⟨rfl, rfl⟩
  apply WL.read
  · rfl
  · rfl
  · skip
    refine WO.load rfl sc_60 (by first | exact in0 | exact in1 | exact in2 | exact in3 | exact in4 | exact in5 | exact in6) rfl rfl ?_
    exact WO.nil ⟨rfl, rfl⟩
  apply WL.pure
  · rfl
  · rfl
  · skip
    refine WO.lenL rfl un_60 rfl ?_
    exact WO.nil ⟨rfl, rfl⟩
  apply WL.pure
  · rfl
  · rfl
  · skip
    refine WO.unsafeStrNil rfl rfl rfl ?_
    exact WO.nil ⟨rfl, rfl⟩
  apply WL.pure
  · rfl
  · rfl
  · skip
    refine WO.assign rfl rfl ?_
    exact WO.nil ⟨rfl, rfl⟩
  refine WL.nil ?_
  refine thnN ?_
  refine WP.ret ?_
  refine ⟨_, _, (Res.one rfl), (Imp.nil _), ?_⟩
  exact ⟨rfl, rfl⟩

theorem s_String1 (b g c : Nat) (p : Option Addr) (l : List UInt8) (sp : List Value) (hy0 : l ≠ []) (hy1 : l.length ≤ c) (hy2 : l.length ≤ 1000000) : CallsS P 44 [.pointer (some ⟨b, 0, none⟩)] [[(b, .cells [.pointer p, .slice (some ⟨g, 0, none⟩) l.length c].toArray 70 (0, 0))], [(g, .cells (bytesV l ++ sp).toArray 5 (0, 0))]] (fun v L => v = str l ∧ L = []) := by
  have hl0 : 0 < l.length := List.length_pos_iff.2 hy0
  refine CallsS.intro Tryd.func44 rfl rfl rfl rfl ?_
  refine WP.seq ?_
  refine WP.region ?_
  refine WO.assign rfl rfl ?_
  refine WO.nil ?_
  refine thnN ?_
  refine WP.seq ?_
  refine WP.regionD [] [0, 0, 0, 0, 0, 0, 0, 0, 0, 0, 2, 0] [(0, 0, [1, 2, 3, 4, 10, 11]), (1, 0, [2, 3, 4, 10, 11]), (2, 0, [3, 4, 10, 11]), (3, 1, [4, 10, 11]), (4, 0, [10, 11]), (5, 0, [6, 7, 8, 9, 10, 11]), (6, 0, [7, 8, 9, 10, 11]), (7, 0, [8, 9, 10, 11]), (8, 1, [9, 10, 11]), (9, 0, [10, 11]), (10, 3, []), (11, 0, [])] mx_ (by kernel_rfl) (by simp) ?_
  apply WL.pure
  · rfl
  · rfl
  · skip
    refine WO.move rfl rfl ?_
    exact WO.nil ⟨rfl, rfl⟩
  apply WL.pure
  · rfl
  · rfl
  · skip
    refine WO.nilCheck rfl rfl ?_
    exact WO.nil ⟨rfl, rfl⟩
  apply WL.pure
  · rfl
  · rfl
  · skip
    refine WO.fieldAddr rfl fo_70_1 rfl ?_
    exact WO.nil ⟨rfl, rfl⟩
  apply WL.read
  · rfl
  · rfl
  · skip
    refine WO.load rfl sc_60 (by first | exact in0 | exact in1 | exact in2 | exact in3 | exact in4 | exact in5 | exact in6) rfl rfl ?_
    exact WO.nil ⟨rfl, rfl⟩
  apply WL.pure
  · rfl
  · rfl
  · skip
    refine WO.sliceDataRow rfl (by omega) rfl ?_
    exact WO.nil ⟨rfl, rfl⟩
  apply WL.pure
  · rfl
  · rfl
  · skip
    refine WO.move rfl rfl ?_
    exact WO.nil ⟨rfl, rfl⟩
  apply WL.pure
  · rfl
  · rfl
  · skip
    refine WO.nilCheck rfl rfl ?_
    exact WO.nil ⟨rfl, rfl⟩
  apply WL.pure
  · rfl
  · rfl
  · skip
    refine WO.fieldAddr rfl fo_70_1 rfl ?_
    exact WO.nil ⟨rfl, rfl⟩
  apply WL.read
  · rfl
  · rfl
  · skip
    refine WO.load rfl sc_60 (by first | exact in0 | exact in1 | exact in2 | exact in3 | exact in4 | exact in5 | exact in6) rfl rfl ?_
    exact WO.nil ⟨rfl, rfl⟩
  apply WL.pure
  · rfl
  · rfl
  · skip
    refine WO.lenL rfl un_60 rfl ?_
    exact WO.nil ⟨rfl, rfl⟩
  refine WL.eff rfl rfl ?_
  refine WO.unsafeStr 1 rfl rfl rfl un_84 co_5 hy0 (by omega) rfl ?_
  refine WO.nil (capN ?_)
  apply WL.pure
  · rfl
  · rfl
  · skip
    refine WO.assign rfl rfl ?_
    exact WO.nil ⟨rfl, rfl⟩
  refine WL.nil ?_
  refine thnN ?_
  refine WP.ret ?_
  refine ⟨_, _, (Res.one rfl), (Imp.nil _), ?_⟩
  exact ⟨rfl, rfl⟩

end Go.Proofs.YtpaipfceibcbkaaDoor
