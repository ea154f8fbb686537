/- Walks: what functions of the program answer, over the logic of footprints. Written by wip/tools/gen.py out of a spec of this session's. -/
import Derived.Test.YtpaipfceibcbkaaDoorW1
set_option linter.unusedVariables false
set_option linter.unusedSimpArgs false
set_option maxRecDepth 100000
namespace Go.Proofs.YtpaipfceibcbkaaDoor
open Go.SL Go.Proofs.YtpaipfceibcbkaaDoor
open Go.Law03

theorem s_POK (b : Nat) (v0 : Value) : CallsS P 53 [.pointer (some ⟨b, 0, none⟩)] [[(b, .cells [v0, .bool false].toArray 62 (0, 0))]] (fun v L => v = .bool true ∧ L = [[(b, .cells [v0, .bool false].toArray 62 (0, 0))]]) := by
  refine CallsS.intro Tryd.func53 rfl rfl rfl rfl ?_
  refine WP.seq ?_
  refine WP.region ?_
  refine WO.assign rfl rfl ?_
  refine WO.nil ?_
  refine thnN ?_
  refine WP.seq ?_
  refine WP.region ?_
  refine WO.move rfl rfl ?_
  refine WO.neqP rfl rfl ptr_64 rfl ?_
  refine WO.move rfl rfl ?_
  refine WO.split 5 rfl (fun h1 => ?_) (fun h2 => ?_)
  · try simp only [decide_eq_true_eq, decide_eq_false_iff_not, beq_iff_eq, beq_eq_false_iff_ne, bne_iff_ne, bne_eq_false_iff_eq, Bool.not_eq_true', Bool.not_eq_false', Int.not_lt, Int.not_le, ne_eq] at h1
    refine WO.want 5 rfl rfl ?_
    refine WO.move rfl rfl ?_
    refine WO.want 5 rfl rfl ?_
    refine WO.nilCheck rfl rfl ?_
    refine WO.want 5 rfl rfl ?_
    refine WO.fieldAddr rfl fo_62_1 rfl ?_
    refine WO.want 5 rfl rfl ?_
    refine WO.load rfl sc_4 (by first | exact in0 | exact in1 | exact in2 | exact in3 | exact in4 | exact in5 | exact in6) rfl rfl ?_
    refine WO.want 5 rfl rfl ?_
    refine WO.not rfl rfl ?_
    refine WO.pickT rfl rfl rfl ?_
    refine WO.assign rfl rfl ?_
    refine WO.nil ?_
    refine thnN ?_
    refine WP.ret ?_
    refine ⟨_, _, (Res.one rfl), (Imp.refl _), ?_⟩
    first | exact ⟨rfl, rfl⟩ | (exfalso; simp_all; done)
  · try simp only [decide_eq_true_eq, decide_eq_false_iff_not, beq_iff_eq, beq_eq_false_iff_ne, bne_iff_ne, bne_eq_false_iff_eq, Bool.not_eq_true', Bool.not_eq_false', Int.not_lt, Int.not_le, ne_eq] at h2
    refine WO.pass 5 rfl rfl rfl rfl ?_
    refine WO.pass 5 rfl rfl rfl rfl ?_
    refine WO.pass 5 rfl rfl rfl rfl ?_
    refine WO.pass 5 rfl rfl rfl rfl ?_
    refine WO.pass 5 rfl rfl rfl rfl ?_
    refine WO.pickF rfl rfl rfl ?_
    refine WO.assign rfl rfl ?_
    refine WO.nil ?_
    refine thnN ?_
    refine WP.ret ?_
    refine ⟨_, _, (Res.one rfl), (Imp.refl _), ?_⟩
    first | exact ⟨rfl, rfl⟩ | (exfalso; simp_all; done)

theorem s_PString0 (b : Nat) (v0 : Value) (l : List Int) (bf : Foot) (hy0 : OwnSl 5 1 v0 (l).length (ints .u8 (l)) bf) : CallsS P 35 [.pointer (some ⟨b, 0, none⟩)] [[(b, .cells [v0, .bool false].toArray 62 (0, 0))], bf] (fun v L => v = str (toBytes l) ∧ L = []) := by
  refine CallsS.intro Tryd.func35 rfl rfl rfl rfl ?_
  refine WP.seq ?_
  refine WP.region ?_
  refine WO.assign rfl rfl ?_
  refine WO.nil ?_
  refine thnN ?_
  refine WP.seq ?_
  refine WP.seq ?_
  refine WP.region ?_
  refine WO.move rfl rfl ?_
  refine WO.call (s_POK b v0) rfl ca_53 rfl rfl ?_
  rintro _ _ ⟨rfl, rfl⟩
  refine WO.not rfl rfl ?_
  refine WO.nil ?_
  refine thnN ?_
  refine WP.condF rfl ?_
  refine WP.skip ?_
  refine thnN ?_
  refine WP.seq ?_
  refine WP.region ?_
  refine WO.move rfl rfl ?_
  refine WO.nilCheck rfl rfl ?_
  refine WO.fieldAddr rfl fo_62_0 rfl ?_
  refine WO.load rfl sc_60 (by first | exact in0 | exact in1 | exact in2 | exact in3 | exact in4 | exact in5 | exact in6 | exact hy0.rd.mono (fun p hp => by simp [hp])) rfl rfl ?_
  refine WO.convBS rfl (by first | assumption | exact hy0.rd.mono (fun p hp => by simp [hp])) un_9 un_60 un_5 rfl ?_
  refine WO.assign rfl rfl ?_
  refine WO.nil ?_
  refine thnN ?_
  refine WP.ret ?_
  refine ⟨_, [], (Res.one rfl), (Imp.nil _), ?_⟩
  exact ⟨rfl, rfl⟩

end Go.Proofs.YtpaipfceibcbkaaDoor
