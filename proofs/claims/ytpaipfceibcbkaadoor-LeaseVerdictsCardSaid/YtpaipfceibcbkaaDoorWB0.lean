/- Walks: what functions of the program answer, over the logic of footprints. Written by wip/tools/gen.py out of a spec of this session's. -/
import Derived.Test.YtpaipfceibcbkaaDoorF
import Derived.Test.YtpaipfceibcbkaaDoorM06
set_option linter.unusedVariables false
set_option linter.unusedSimpArgs false
set_option maxRecDepth 100000
namespace Go.Proofs.YtpaipfceibcbkaaDoor
open Go.SL Go.Proofs.YtpaipfceibcbkaaDoor

theorem lies_B : liesAt P P.depth 70 ([undef, undef].length / P.cellsOf 70) 0 70 1 = true := by kernel_rfl
theorem some_B : ((P.info? 70).any fun i => i.size != 0) = true := by kernel_rfl

theorem s_copyCheck0 (b : Nat) (v0 : Value) : CallsS P 54 [.pointer (some ⟨b, 0, none⟩)] [[(b, .cells [.pointer none, v0].toArray 70 (0, 0))]] (fun v L => v = .tuple #[] ∧ L = [[(b, .cells [.pointer (some ⟨b, 0, none⟩), v0].toArray 70 (0, 0))]]) := by
  refine CallsS.intro Tryd.func54 rfl rfl rfl rfl ?_
  refine WP.seq ?_
  refine WP.region ?_
  refine WO.move rfl rfl ?_
  refine WO.nilCheck rfl rfl ?_
  refine WO.fieldAddr rfl fo_70_0 rfl ?_
  refine WO.load rfl sc_68 (by first | exact in0 | exact in1 | exact in2 | exact in3 | exact in4 | exact in5 | exact in6) rfl rfl ?_
  refine WO.eqlP rfl rfl ptr_68 rfl ?_
  refine WO.nil ?_
  refine thnN ?_
  refine WP.condT rfl ?_
  refine WP.region ?_
  refine WO.move rfl rfl ?_
  refine WO.move rfl rfl ?_
  refine WO.toUnsafe rfl in0 un_68 un_96 some_B (by simp) rfl ?_
  refine WO.same Tryd.func65 (by kernel_rfl) (by kernel_rfl) (by kernel_rfl) (by kernel_rfl) rfl rfl ?_
  refine WO.fromUnsafe rfl in0 un_96 un_68 inf_70 lies_B rfl ?_
  refine WO.nilCheck rfl rfl ?_
  refine WO.fieldAddr rfl fo_70_0 rfl ?_
  first | refine WO.store 0 rfl rfl rfl sc_68 rfl rfl _ rfl ?_ | refine WO.store 1 rfl rfl rfl sc_68 rfl rfl _ rfl ?_ | refine WO.store 2 rfl rfl rfl sc_68 rfl rfl _ rfl ?_ | refine WO.store 3 rfl rfl rfl sc_68 rfl rfl _ rfl ?_
  refine WO.nil ?_
  refine ⟨_, _, Res.empty, (Imp.refl _), ?_⟩
  exact ⟨rfl, rfl⟩

theorem s_copyCheck1 (b : Nat) (v0 : Value) : CallsS P 54 [.pointer (some ⟨b, 0, none⟩)] [[(b, .cells [.pointer (some ⟨b, 0, none⟩), v0].toArray 70 (0, 0))]] (fun v L => v = .tuple #[] ∧ L = [[(b, .cells [.pointer (some ⟨b, 0, none⟩), v0].toArray 70 (0, 0))]]) := by
  refine CallsS.intro Tryd.func54 rfl rfl rfl rfl ?_
  refine WP.seq ?_
  refine WP.region ?_
  refine WO.move rfl rfl ?_
  refine WO.nilCheck rfl rfl ?_
  refine WO.fieldAddr rfl fo_70_0 rfl ?_
  refine WO.load rfl sc_68 (by first | exact in0 | exact in1 | exact in2 | exact in3 | exact in4 | exact in5 | exact in6) rfl rfl ?_
  refine WO.eqlP rfl rfl ptr_68 rfl ?_
  refine WO.nil ?_
  refine thnN ?_
  refine WP.condF rfl ?_
  refine WP.seq ?_
  refine WP.region ?_
  refine WO.move rfl rfl ?_
  refine WO.nilCheck rfl rfl ?_
  refine WO.fieldAddr rfl fo_70_0 rfl ?_
  refine WO.load rfl sc_68 (by first | exact in0 | exact in1 | exact in2 | exact in3 | exact in4 | exact in5 | exact in6) rfl rfl ?_
  refine WO.move rfl rfl ?_
  refine WO.neqSame rfl rfl un_68 inf_70 rfl ?_
  refine WO.nil ?_
  refine thnN ?_
  refine WP.condF rfl ?_
  refine WP.skip ?_
  refine ⟨_, _, Res.empty, (Imp.refl _), ?_⟩
  exact ⟨rfl, rfl⟩

end Go.Proofs.YtpaipfceibcbkaaDoor
