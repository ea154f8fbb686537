/- Walks: what functions of the program answer, over the logic of footprints. Written by wip/tools/gen.py out of a spec of this session's. -/
import Derived.Test.YtpaipfceibcbkaaDoorB05
set_option linter.unusedVariables false
set_option linter.unusedSimpArgs false
set_option maxRecDepth 100000
namespace Go.Proofs.YtpaipfceibcbkaaDoor
open Go.SL Go.Proofs.YtpaipfceibcbkaaDoor
open Go.Law05

theorem s_sign_among (r a b but : Int) : CallsS P 60 [.int .i32 (r), .int .i32 (a), .int .i32 (b), .int .i32 (but)] [] (fun v L => v = .bool (amongF r a b but) ∧ L = []) := by
  refine CallsS.intro Tryd.func60 rfl rfl rfl rfl ?_
  refine WP.seq ?_
  refine WP.region ?_
  refine WO.assign rfl rfl ?_
  refine WO.nil ?_
  refine thnN ?_
  refine WP.seq ?_
  refine WP.region ?_
  refine WO.move rfl rfl ?_
  refine WO.move rfl rfl ?_
  refine WO.geqI rfl rfl rfl ?_
  refine WO.move rfl rfl ?_
  refine WO.split 12 rfl (fun h1 => ?_) (fun h2 => ?_)
  · try simp only [decide_eq_true_eq, decide_eq_false_iff_not, beq_iff_eq, beq_eq_false_iff_ne, bne_iff_ne, bne_eq_false_iff_eq, Bool.not_eq_true', Bool.not_eq_false', Int.not_lt, Int.not_le, ne_eq] at h1
    refine WO.want 12 rfl rfl ?_
    refine WO.move rfl rfl ?_
    refine WO.want 12 rfl rfl ?_
    refine WO.move rfl rfl ?_
    refine WO.want 12 rfl rfl ?_
    refine WO.leqI rfl rfl rfl ?_
    refine WO.pickT rfl rfl rfl ?_
    refine WO.move rfl rfl ?_
    refine WO.split 17 rfl (fun h3 => ?_) (fun h4 => ?_)
    · try simp only [decide_eq_true_eq, decide_eq_false_iff_not, beq_iff_eq, beq_eq_false_iff_ne, bne_iff_ne, bne_eq_false_iff_eq, Bool.not_eq_true', Bool.not_eq_false', Int.not_lt, Int.not_le, ne_eq] at h3
      refine WO.want 17 rfl rfl ?_
      refine WO.move rfl rfl ?_
      refine WO.want 17 rfl rfl ?_
      refine WO.move rfl rfl ?_
      refine WO.want 17 rfl rfl ?_
      refine WO.neqI rfl rfl rfl ?_
      refine WO.pickT rfl rfl rfl ?_
      refine WO.assign rfl rfl ?_
      refine WO.nil ?_
      refine thnN ?_
      refine WP.ret ?_
      refine ⟨_, [], (Res.one rfl), (Imp.nil _), ?_⟩
      refine ⟨congrArg Value.bool ?_, rfl⟩
      first | (simp_all [amongF]; done) | (simp_all [amongF]; omega)
    · try simp only [decide_eq_true_eq, decide_eq_false_iff_not, beq_iff_eq, beq_eq_false_iff_ne, bne_iff_ne, bne_eq_false_iff_eq, Bool.not_eq_true', Bool.not_eq_false', Int.not_lt, Int.not_le, ne_eq] at h4
      refine WO.pass 17 rfl rfl rfl rfl ?_
      refine WO.pass 17 rfl rfl rfl rfl ?_
      refine WO.pass 17 rfl rfl rfl rfl ?_
      refine WO.pickF rfl rfl rfl ?_
      refine WO.assign rfl rfl ?_
      refine WO.nil ?_
      refine thnN ?_
      refine WP.ret ?_
      refine ⟨_, [], (Res.one rfl), (Imp.nil _), ?_⟩
      refine ⟨congrArg Value.bool ?_, rfl⟩
      first | (simp_all [amongF]; done) | (simp_all [amongF]; omega)
  · try simp only [decide_eq_true_eq, decide_eq_false_iff_not, beq_iff_eq, beq_eq_false_iff_ne, bne_iff_ne, bne_eq_false_iff_eq, Bool.not_eq_true', Bool.not_eq_false', Int.not_lt, Int.not_le, ne_eq] at h2
    refine WO.pass 12 rfl rfl rfl rfl ?_
    refine WO.pass 12 rfl rfl rfl rfl ?_
    refine WO.pass 12 rfl rfl rfl rfl ?_
    refine WO.pickF rfl rfl rfl ?_
    refine WO.move rfl rfl ?_
    refine WO.pass 17 rfl rfl rfl rfl ?_
    refine WO.pass 17 rfl rfl rfl rfl ?_
    refine WO.pass 17 rfl rfl rfl rfl ?_
    refine WO.pickF rfl rfl rfl ?_
    refine WO.assign rfl rfl ?_
    refine WO.nil ?_
    refine thnN ?_
    refine WP.ret ?_
    refine ⟨_, [], (Res.one rfl), (Imp.nil _), ?_⟩
    refine ⟨congrArg Value.bool ?_, rfl⟩
    first | (simp_all [amongF]; done) | (simp_all [amongF]; omega)

theorem s_sign_control (r : Int) : CallsS P 58 [.int .i32 (r)] [] (fun v L => v = .bool (controlF r) ∧ L = []) := by
  refine CallsS.intro Tryd.func58 rfl rfl rfl rfl ?_
  refine WP.seq ?_
  refine WP.region ?_
  refine WO.assign rfl rfl ?_
  refine WO.nil ?_
  refine thnN ?_
  refine WP.seq ?_
  refine WP.region ?_
  refine WO.move rfl rfl ?_
  refine WO.lssI rfl rfl rfl ?_
  refine WO.move rfl rfl ?_
  refine WO.split 5 rfl (fun h1 => ?_) (fun h2 => ?_)
  · try simp only [decide_eq_true_eq, decide_eq_false_iff_not, beq_iff_eq, beq_eq_false_iff_ne, bne_iff_ne, bne_eq_false_iff_eq, Bool.not_eq_true', Bool.not_eq_false', Int.not_lt, Int.not_le, ne_eq] at h1
    refine WO.pass 5 rfl rfl rfl rfl ?_
    refine WO.pass 5 rfl rfl rfl rfl ?_
    refine WO.pickT rfl rfl rfl ?_
    refine WO.move rfl rfl ?_
    refine WO.pass 9 rfl rfl rfl rfl ?_
    refine WO.pass 9 rfl rfl rfl rfl ?_
    refine WO.pickT rfl rfl rfl ?_
    refine WO.move rfl rfl ?_
    refine WO.pass 13 rfl rfl rfl rfl ?_
    refine WO.pass 13 rfl rfl rfl rfl ?_
    refine WO.pass 13 rfl rfl rfl rfl ?_
    refine WO.pickT rfl rfl rfl ?_
    refine WO.assign rfl rfl ?_
    refine WO.nil ?_
    refine thnN ?_
    refine WP.ret ?_
    refine ⟨_, [], (Res.one rfl), (Imp.nil _), ?_⟩
    refine ⟨congrArg Value.bool ?_, rfl⟩
    first | (simp_all [controlF]; done) | (simp_all [controlF]; omega)
  · try simp only [decide_eq_true_eq, decide_eq_false_iff_not, beq_iff_eq, beq_eq_false_iff_ne, bne_iff_ne, bne_eq_false_iff_eq, Bool.not_eq_true', Bool.not_eq_false', Int.not_lt, Int.not_le, ne_eq] at h2
    refine WO.want 5 rfl rfl ?_
    refine WO.move rfl rfl ?_
    refine WO.want 5 rfl rfl ?_
    refine WO.callP (s_sign_among _ _ _ _) rfl ca_60 rfl ?_
    refine WO.pickF rfl rfl rfl ?_
    refine WO.move rfl rfl ?_
    refine WO.split 9 rfl (fun h3 => ?_) (fun h4 => ?_)
    · try simp only [decide_eq_true_eq, decide_eq_false_iff_not, beq_iff_eq, beq_eq_false_iff_ne, bne_iff_ne, bne_eq_false_iff_eq, Bool.not_eq_true', Bool.not_eq_false', Int.not_lt, Int.not_le, ne_eq] at h3
      refine WO.pass 9 rfl rfl rfl rfl ?_
      refine WO.pass 9 rfl rfl rfl rfl ?_
      refine WO.pickT rfl rfl rfl ?_
      refine WO.move rfl rfl ?_
      refine WO.pass 13 rfl rfl rfl rfl ?_
      refine WO.pass 13 rfl rfl rfl rfl ?_
      refine WO.pass 13 rfl rfl rfl rfl ?_
      refine WO.pickT rfl rfl rfl ?_
      refine WO.assign rfl rfl ?_
      refine WO.nil ?_
      refine thnN ?_
      refine WP.ret ?_
      refine ⟨_, [], (Res.one rfl), (Imp.nil _), ?_⟩
      refine ⟨congrArg Value.bool ?_, rfl⟩
      first | (simp_all [controlF]; done) | (simp_all [controlF]; omega)
    · try simp only [decide_eq_true_eq, decide_eq_false_iff_not, beq_iff_eq, beq_eq_false_iff_ne, bne_iff_ne, bne_eq_false_iff_eq, Bool.not_eq_true', Bool.not_eq_false', Int.not_lt, Int.not_le, ne_eq] at h4
      refine WO.want 9 rfl rfl ?_
      refine WO.move rfl rfl ?_
      refine WO.want 9 rfl rfl ?_
      refine WO.eqlI rfl rfl rfl ?_
      refine WO.pickF rfl rfl rfl ?_
      refine WO.move rfl rfl ?_
      refine WO.split 13 rfl (fun h5 => ?_) (fun h6 => ?_)
      · try simp only [decide_eq_true_eq, decide_eq_false_iff_not, beq_iff_eq, beq_eq_false_iff_ne, bne_iff_ne, bne_eq_false_iff_eq, Bool.not_eq_true', Bool.not_eq_false', Int.not_lt, Int.not_le, ne_eq] at h5
        refine WO.pass 13 rfl rfl rfl rfl ?_
        refine WO.pass 13 rfl rfl rfl rfl ?_
        refine WO.pass 13 rfl rfl rfl rfl ?_
        refine WO.pickT rfl rfl rfl ?_
        refine WO.assign rfl rfl ?_
        refine WO.nil ?_
        refine thnN ?_
        refine WP.ret ?_
        refine ⟨_, [], (Res.one rfl), (Imp.nil _), ?_⟩
        refine ⟨congrArg Value.bool ?_, rfl⟩
        first | (simp_all [controlF]; done) | (simp_all [controlF]; omega)
      · try simp only [decide_eq_true_eq, decide_eq_false_iff_not, beq_iff_eq, beq_eq_false_iff_ne, bne_iff_ne, bne_eq_false_iff_eq, Bool.not_eq_true', Bool.not_eq_false', Int.not_lt, Int.not_le, ne_eq] at h6
        refine WO.want 13 rfl rfl ?_
        refine WO.move rfl rfl ?_
        refine WO.want 13 rfl rfl ?_
        refine WO.callP (s_ValidRune _) rfl ca_70 rfl ?_
        refine WO.want 13 rfl rfl ?_
        refine WO.not rfl rfl ?_
        refine WO.pickF rfl rfl rfl ?_
        refine WO.assign rfl rfl ?_
        refine WO.nil ?_
        refine thnN ?_
        refine WP.ret ?_
        refine ⟨_, [], (Res.one rfl), (Imp.nil _), ?_⟩
        refine ⟨congrArg Value.bool ?_, rfl⟩
        first | (simp_all [controlF]; done) | (simp_all [controlF]; omega)

theorem s_sign_blank (r : Int) : CallsS P 59 [.int .i32 (r)] [] (fun v L => v = .bool (blankF r) ∧ L = []) := by
  refine CallsS.intro Tryd.func59 rfl rfl rfl rfl ?_
  refine WP.seq ?_
  refine WP.region ?_
  refine WO.assign rfl rfl ?_
  refine WO.nil ?_
  refine thnN ?_
  refine WP.seq ?_
  refine WP.region ?_
  refine WO.move rfl rfl ?_
  refine WO.eqlI rfl rfl rfl ?_
  refine WO.move rfl rfl ?_
  refine WO.split 5 rfl (fun h1 => ?_) (fun h2 => ?_)
  · try simp only [decide_eq_true_eq, decide_eq_false_iff_not, beq_iff_eq, beq_eq_false_iff_ne, bne_iff_ne, bne_eq_false_iff_eq, Bool.not_eq_true', Bool.not_eq_false', Int.not_lt, Int.not_le, ne_eq] at h1
    refine WO.pass 5 rfl rfl rfl rfl ?_
    refine WO.pass 5 rfl rfl rfl rfl ?_
    refine WO.pickT rfl rfl rfl ?_
    refine WO.move rfl rfl ?_
    refine WO.pass 9 rfl rfl rfl rfl ?_
    refine WO.pass 9 rfl rfl rfl rfl ?_
    refine WO.pickT rfl rfl rfl ?_
    refine WO.move rfl rfl ?_
    refine WO.pass 13 rfl rfl rfl rfl ?_
    refine WO.pass 13 rfl rfl rfl rfl ?_
    refine WO.pickT rfl rfl rfl ?_
    refine WO.assign rfl rfl ?_
    refine WO.nil ?_
    refine thnN ?_
    refine WP.ret ?_
    refine ⟨_, [], (Res.one rfl), (Imp.nil _), ?_⟩
    refine ⟨congrArg Value.bool ?_, rfl⟩
    first | (simp_all [blankF]; done) | (simp_all [blankF]; omega)
  · try simp only [decide_eq_true_eq, decide_eq_false_iff_not, beq_iff_eq, beq_eq_false_iff_ne, bne_iff_ne, bne_eq_false_iff_eq, Bool.not_eq_true', Bool.not_eq_false', Int.not_lt, Int.not_le, ne_eq] at h2
    refine WO.want 5 rfl rfl ?_
    refine WO.move rfl rfl ?_
    refine WO.want 5 rfl rfl ?_
    refine WO.eqlI rfl rfl rfl ?_
    refine WO.pickF rfl rfl rfl ?_
    refine WO.move rfl rfl ?_
    refine WO.split 9 rfl (fun h3 => ?_) (fun h4 => ?_)
    · try simp only [decide_eq_true_eq, decide_eq_false_iff_not, beq_iff_eq, beq_eq_false_iff_ne, bne_iff_ne, bne_eq_false_iff_eq, Bool.not_eq_true', Bool.not_eq_false', Int.not_lt, Int.not_le, ne_eq] at h3
      refine WO.pass 9 rfl rfl rfl rfl ?_
      refine WO.pass 9 rfl rfl rfl rfl ?_
      refine WO.pickT rfl rfl rfl ?_
      refine WO.move rfl rfl ?_
      refine WO.pass 13 rfl rfl rfl rfl ?_
      refine WO.pass 13 rfl rfl rfl rfl ?_
      refine WO.pickT rfl rfl rfl ?_
      refine WO.assign rfl rfl ?_
      refine WO.nil ?_
      refine thnN ?_
      refine WP.ret ?_
      refine ⟨_, [], (Res.one rfl), (Imp.nil _), ?_⟩
      refine ⟨congrArg Value.bool ?_, rfl⟩
      first | (simp_all [blankF]; done) | (simp_all [blankF]; omega)
    · try simp only [decide_eq_true_eq, decide_eq_false_iff_not, beq_iff_eq, beq_eq_false_iff_ne, bne_iff_ne, bne_eq_false_iff_eq, Bool.not_eq_true', Bool.not_eq_false', Int.not_lt, Int.not_le, ne_eq] at h4
      refine WO.want 9 rfl rfl ?_
      refine WO.move rfl rfl ?_
      refine WO.want 9 rfl rfl ?_
      refine WO.callP (s_sign_among _ _ _ _) rfl ca_60 rfl ?_
      refine WO.pickF rfl rfl rfl ?_
      refine WO.move rfl rfl ?_
      refine WO.split 13 rfl (fun h5 => ?_) (fun h6 => ?_)
      · try simp only [decide_eq_true_eq, decide_eq_false_iff_not, beq_iff_eq, beq_eq_false_iff_ne, bne_iff_ne, bne_eq_false_iff_eq, Bool.not_eq_true', Bool.not_eq_false', Int.not_lt, Int.not_le, ne_eq] at h5
        refine WO.pass 13 rfl rfl rfl rfl ?_
        refine WO.pass 13 rfl rfl rfl rfl ?_
        refine WO.pickT rfl rfl rfl ?_
        refine WO.assign rfl rfl ?_
        refine WO.nil ?_
        refine thnN ?_
        refine WP.ret ?_
        refine ⟨_, [], (Res.one rfl), (Imp.nil _), ?_⟩
        refine ⟨congrArg Value.bool ?_, rfl⟩
        first | (simp_all [blankF]; done) | (simp_all [blankF]; omega)
      · try simp only [decide_eq_true_eq, decide_eq_false_iff_not, beq_iff_eq, beq_eq_false_iff_ne, bne_iff_ne, bne_eq_false_iff_eq, Bool.not_eq_true', Bool.not_eq_false', Int.not_lt, Int.not_le, ne_eq] at h6
        refine WO.want 13 rfl rfl ?_
        refine WO.move rfl rfl ?_
        refine WO.want 13 rfl rfl ?_
        refine WO.eqlI rfl rfl rfl ?_
        refine WO.pickF rfl rfl rfl ?_
        refine WO.assign rfl rfl ?_
        refine WO.nil ?_
        refine thnN ?_
        refine WP.ret ?_
        refine ⟨_, [], (Res.one rfl), (Imp.nil _), ?_⟩
        refine ⟨congrArg Value.bool ?_, rfl⟩
        first | (simp_all [blankF]; done) | (simp_all [blankF]; omega)

theorem s_sign_letter (r : Int) : CallsS P 61 [.int .i32 (r)] [] (fun v L => v = .bool (letterF r) ∧ L = []) := by
  refine CallsS.intro Tryd.func61 rfl rfl rfl rfl ?_
  refine WP.seq ?_
  refine WP.region ?_
  refine WO.assign rfl rfl ?_
  refine WO.nil ?_
  refine thnN ?_
  refine WP.seq ?_
  refine WP.region ?_
  refine WO.move rfl rfl ?_
  refine WO.callP (s_sign_among _ _ _ _) rfl ca_60 rfl ?_
  refine WO.move rfl rfl ?_
  refine WO.split 5 rfl (fun h1 => ?_) (fun h2 => ?_)
  · try simp only [decide_eq_true_eq, decide_eq_false_iff_not, beq_iff_eq, beq_eq_false_iff_ne, bne_iff_ne, bne_eq_false_iff_eq, Bool.not_eq_true', Bool.not_eq_false', Int.not_lt, Int.not_le, ne_eq] at h1
    refine WO.pass 5 rfl rfl rfl rfl ?_
    refine WO.pass 5 rfl rfl rfl rfl ?_
    refine WO.pickT rfl rfl rfl ?_
    refine WO.move rfl rfl ?_
    refine WO.pass 9 rfl rfl rfl rfl ?_
    refine WO.pass 9 rfl rfl rfl rfl ?_
    refine WO.pass 9 rfl rfl rfl rfl ?_
    refine WO.passU 12 rfl rfl rfl ?_
    refine WO.passU 12 rfl rfl rfl ?_
    refine WO.pass 9 rfl rfl rfl rfl ?_
    refine WO.pickT rfl rfl rfl ?_
    refine WO.move rfl rfl ?_
    refine WO.pass 17 rfl rfl rfl rfl ?_
    refine WO.pass 17 rfl rfl rfl rfl ?_
    refine WO.pickT rfl rfl rfl ?_
    refine WO.assign rfl rfl ?_
    refine WO.nil ?_
    refine thnN ?_
    refine WP.ret ?_
    refine ⟨_, [], (Res.one rfl), (Imp.nil _), ?_⟩
    refine ⟨congrArg Value.bool ?_, rfl⟩
    first | (simp_all [letterF]; done) | (simp_all [letterF]; omega)
  · try simp only [decide_eq_true_eq, decide_eq_false_iff_not, beq_iff_eq, beq_eq_false_iff_ne, bne_iff_ne, bne_eq_false_iff_eq, Bool.not_eq_true', Bool.not_eq_false', Int.not_lt, Int.not_le, ne_eq] at h2
    refine WO.want 5 rfl rfl ?_
    refine WO.move rfl rfl ?_
    refine WO.want 5 rfl rfl ?_
    refine WO.callP (s_sign_among _ _ _ _) rfl ca_60 rfl ?_
    refine WO.pickF rfl rfl rfl ?_
    refine WO.move rfl rfl ?_
    refine WO.split 9 rfl (fun h3 => ?_) (fun h4 => ?_)
    · try simp only [decide_eq_true_eq, decide_eq_false_iff_not, beq_iff_eq, beq_eq_false_iff_ne, bne_iff_ne, bne_eq_false_iff_eq, Bool.not_eq_true', Bool.not_eq_false', Int.not_lt, Int.not_le, ne_eq] at h3
      refine WO.pass 9 rfl rfl rfl rfl ?_
      refine WO.pass 9 rfl rfl rfl rfl ?_
      refine WO.pass 9 rfl rfl rfl rfl ?_
      refine WO.passU 12 rfl rfl rfl ?_
      refine WO.passU 12 rfl rfl rfl ?_
      refine WO.pass 9 rfl rfl rfl rfl ?_
      refine WO.pickT rfl rfl rfl ?_
      refine WO.move rfl rfl ?_
      refine WO.pass 17 rfl rfl rfl rfl ?_
      refine WO.pass 17 rfl rfl rfl rfl ?_
      refine WO.pickT rfl rfl rfl ?_
      refine WO.assign rfl rfl ?_
      refine WO.nil ?_
      refine thnN ?_
      refine WP.ret ?_
      refine ⟨_, [], (Res.one rfl), (Imp.nil _), ?_⟩
      refine ⟨congrArg Value.bool ?_, rfl⟩
      first | (simp_all [letterF]; done) | (simp_all [letterF]; omega)
    · try simp only [decide_eq_true_eq, decide_eq_false_iff_not, beq_iff_eq, beq_eq_false_iff_ne, bne_iff_ne, bne_eq_false_iff_eq, Bool.not_eq_true', Bool.not_eq_false', Int.not_lt, Int.not_le, ne_eq] at h4
      refine WO.want 9 rfl rfl ?_
      refine WO.move rfl rfl ?_
      refine WO.want 9 rfl rfl ?_
      refine WO.callP (s_sign_among _ _ _ _) rfl ca_60 rfl ?_
      refine WO.want 9 rfl rfl ?_
      refine WO.move rfl rfl ?_
      refine WO.split 12 rfl (fun h5 => ?_) (fun h6 => ?_)
      · try simp only [decide_eq_true_eq, decide_eq_false_iff_not, beq_iff_eq, beq_eq_false_iff_ne, bne_iff_ne, bne_eq_false_iff_eq, Bool.not_eq_true', Bool.not_eq_false', Int.not_lt, Int.not_le, ne_eq] at h5
        refine WO.want 12 rfl rfl ?_
        refine WO.move rfl rfl ?_
        refine WO.want 12 rfl rfl ?_
        refine WO.neqI rfl rfl rfl ?_
        refine WO.want 9 rfl rfl ?_
        refine WO.pickT rfl rfl rfl ?_
        refine WO.pickF rfl rfl rfl ?_
        refine WO.move rfl rfl ?_
        refine WO.split 17 rfl (fun h7 => ?_) (fun h8 => ?_)
        · try simp only [decide_eq_true_eq, decide_eq_false_iff_not, beq_iff_eq, beq_eq_false_iff_ne, bne_iff_ne, bne_eq_false_iff_eq, Bool.not_eq_true', Bool.not_eq_false', Int.not_lt, Int.not_le, ne_eq] at h7
          refine WO.pass 17 rfl rfl rfl rfl ?_
          refine WO.pass 17 rfl rfl rfl rfl ?_
          refine WO.pickT rfl rfl rfl ?_
          refine WO.assign rfl rfl ?_
          refine WO.nil ?_
          refine thnN ?_
          refine WP.ret ?_
          refine ⟨_, [], (Res.one rfl), (Imp.nil _), ?_⟩
          refine ⟨congrArg Value.bool ?_, rfl⟩
          first | (simp_all [letterF]; done) | (simp_all [letterF]; omega)
        · try simp only [decide_eq_true_eq, decide_eq_false_iff_not, beq_iff_eq, beq_eq_false_iff_ne, bne_iff_ne, bne_eq_false_iff_eq, Bool.not_eq_true', Bool.not_eq_false', Int.not_lt, Int.not_le, ne_eq] at h8
          refine WO.want 17 rfl rfl ?_
          refine WO.move rfl rfl ?_
          refine WO.want 17 rfl rfl ?_
          refine WO.callP (s_sign_among _ _ _ _) rfl ca_60 rfl ?_
          refine WO.pickF rfl rfl rfl ?_
          refine WO.assign rfl rfl ?_
          refine WO.nil ?_
          refine thnN ?_
          refine WP.ret ?_
          refine ⟨_, [], (Res.one rfl), (Imp.nil _), ?_⟩
          refine ⟨congrArg Value.bool ?_, rfl⟩
          first | (simp_all [letterF]; done) | (simp_all [letterF]; omega)
      · try simp only [decide_eq_true_eq, decide_eq_false_iff_not, beq_iff_eq, beq_eq_false_iff_ne, bne_iff_ne, bne_eq_false_iff_eq, Bool.not_eq_true', Bool.not_eq_false', Int.not_lt, Int.not_le, ne_eq] at h6
        refine WO.pass 12 rfl rfl rfl rfl ?_
        refine WO.pass 12 rfl rfl rfl rfl ?_
        refine WO.want 9 rfl rfl ?_
        refine WO.pickF rfl rfl rfl ?_
        refine WO.pickF rfl rfl rfl ?_
        refine WO.move rfl rfl ?_
        refine WO.want 17 rfl rfl ?_
        refine WO.move rfl rfl ?_
        refine WO.want 17 rfl rfl ?_
        refine WO.callP (s_sign_among _ _ _ _) rfl ca_60 rfl ?_
        refine WO.pickF rfl rfl rfl ?_
        refine WO.assign rfl rfl ?_
        refine WO.nil ?_
        refine thnN ?_
        refine WP.ret ?_
        refine ⟨_, [], (Res.one rfl), (Imp.nil _), ?_⟩
        refine ⟨congrArg Value.bool ?_, rfl⟩
        first | (simp_all [letterF]; done) | (simp_all [letterF]; omega)

theorem s_sign_Sort (r : Int) : CallsS P 47 [.int .i32 (r)] [] (fun v L => v = .int .i64 (sortF r) ∧ L = []) := by
  refine CallsS.intro Tryd.func47 rfl rfl rfl rfl ?_
  refine WP.seq ?_
  refine WP.region ?_
  refine WO.assign rfl rfl ?_
  refine WO.nil ?_
  refine thnN ?_
  refine WP.seq ?_
  refine WP.block ?_
  refine WP.seq ?_
  refine WP.region ?_
  refine WO.move rfl rfl ?_
  refine WO.callP (s_sign_control _) rfl ca_58 rfl ?_
  refine WO.assign rfl rfl ?_
  refine WO.nil ?_
  refine thnN ?_
  refine WP.condL 3 rfl (fun h1 => ?_) (fun h2 => ?_)
  · try simp only [decide_eq_true_eq, decide_eq_false_iff_not, beq_iff_eq, beq_eq_false_iff_ne, bne_iff_ne, bne_eq_false_iff_eq, Bool.not_eq_true', Bool.not_eq_false', Int.not_lt, Int.not_le, ne_eq] at h1
    refine WP.seq ?_
    refine WP.region ?_
    refine WO.assign rfl rfl ?_
    refine WO.nil ?_
    refine thnN ?_
    refine WP.ret ?_
    refine blkR ?_
    refine thnR ?_
    refine ⟨_, [], (Res.one rfl), (Imp.nil _), ?_⟩
    refine ⟨congrArg (Value.int .i64) ?_, rfl⟩
    simp_all [sortF]
  · try simp only [decide_eq_true_eq, decide_eq_false_iff_not, beq_iff_eq, beq_eq_false_iff_ne, bne_iff_ne, bne_eq_false_iff_eq, Bool.not_eq_true', Bool.not_eq_false', Int.not_lt, Int.not_le, ne_eq] at h2
    refine WP.seq ?_
    refine WP.region ?_
    refine WO.move rfl rfl ?_
    refine WO.callP (s_sign_blank _) rfl ca_59 rfl ?_
    refine WO.assign rfl rfl ?_
    refine WO.nil ?_
    refine thnN ?_
    refine WP.condL 6 rfl (fun h3 => ?_) (fun h4 => ?_)
    · try simp only [decide_eq_true_eq, decide_eq_false_iff_not, beq_iff_eq, beq_eq_false_iff_ne, bne_iff_ne, bne_eq_false_iff_eq, Bool.not_eq_true', Bool.not_eq_false', Int.not_lt, Int.not_le, ne_eq] at h3
      refine WP.seq ?_
      refine WP.region ?_
      refine WO.assign rfl rfl ?_
      refine WO.nil ?_
      refine thnN ?_
      refine WP.ret ?_
      refine blkR ?_
      refine thnR ?_
      refine ⟨_, [], (Res.one rfl), (Imp.nil _), ?_⟩
      refine ⟨congrArg (Value.int .i64) ?_, rfl⟩
      simp_all [sortF]
    · try simp only [decide_eq_true_eq, decide_eq_false_iff_not, beq_iff_eq, beq_eq_false_iff_ne, bne_iff_ne, bne_eq_false_iff_eq, Bool.not_eq_true', Bool.not_eq_false', Int.not_lt, Int.not_le, ne_eq] at h4
      refine WP.seq ?_
      refine WP.region ?_
      refine WO.move rfl rfl ?_
      refine WO.callP (s_sign_among _ _ _ _) rfl ca_60 rfl ?_
      refine WO.assign rfl rfl ?_
      refine WO.nil ?_
      refine thnN ?_
      refine WP.condL 9 rfl (fun h5 => ?_) (fun h6 => ?_)
      · try simp only [decide_eq_true_eq, decide_eq_false_iff_not, beq_iff_eq, beq_eq_false_iff_ne, bne_iff_ne, bne_eq_false_iff_eq, Bool.not_eq_true', Bool.not_eq_false', Int.not_lt, Int.not_le, ne_eq] at h5
        refine WP.seq ?_
        refine WP.region ?_
        refine WO.assign rfl rfl ?_
        refine WO.nil ?_
        refine thnN ?_
        refine WP.ret ?_
        refine blkR ?_
        refine thnR ?_
        refine ⟨_, [], (Res.one rfl), (Imp.nil _), ?_⟩
        refine ⟨congrArg (Value.int .i64) ?_, rfl⟩
        simp_all [sortF]
      · try simp only [decide_eq_true_eq, decide_eq_false_iff_not, beq_iff_eq, beq_eq_false_iff_ne, bne_iff_ne, bne_eq_false_iff_eq, Bool.not_eq_true', Bool.not_eq_false', Int.not_lt, Int.not_le, ne_eq] at h6
        refine WP.seq ?_
        refine WP.region ?_
        refine WO.move rfl rfl ?_
        refine WO.callP (s_sign_letter _) rfl ca_61 rfl ?_
        refine WO.assign rfl rfl ?_
        refine WO.nil ?_
        refine thnN ?_
        refine WP.condL 12 rfl (fun h7 => ?_) (fun h8 => ?_)
        · try simp only [decide_eq_true_eq, decide_eq_false_iff_not, beq_iff_eq, beq_eq_false_iff_ne, bne_iff_ne, bne_eq_false_iff_eq, Bool.not_eq_true', Bool.not_eq_false', Int.not_lt, Int.not_le, ne_eq] at h7
          refine WP.seq ?_
          refine WP.region ?_
          refine WO.assign rfl rfl ?_
          refine WO.nil ?_
          refine thnN ?_
          refine WP.ret ?_
          refine blkR ?_
          refine thnR ?_
          refine ⟨_, [], (Res.one rfl), (Imp.nil _), ?_⟩
          refine ⟨congrArg (Value.int .i64) ?_, rfl⟩
          simp_all [sortF]
        · try simp only [decide_eq_true_eq, decide_eq_false_iff_not, beq_iff_eq, beq_eq_false_iff_ne, bne_iff_ne, bne_eq_false_iff_eq, Bool.not_eq_true', Bool.not_eq_false', Int.not_lt, Int.not_le, ne_eq] at h8
          refine WP.skip ?_
          refine blkN ?_
          refine thnN ?_
          refine WP.seq ?_
          refine WP.region ?_
          refine WO.assign rfl rfl ?_
          refine WO.nil ?_
          refine thnN ?_
          refine WP.ret ?_
          refine ⟨_, [], (Res.one rfl), (Imp.nil _), ?_⟩
          refine ⟨congrArg (Value.int .i64) ?_, rfl⟩
          simp_all [sortF]

theorem s_sign_Right (s : List UInt8) (m : Int) : CallsS P 68 [str s, .int .i64 m] [] (fun v L => v = .bool (rightF s m) ∧ L = []) := by
  refine CallsS.intro Tryd.func68 rfl rfl rfl rfl ?_
  refine WP.seq ?_
  refine WP.region ?_
  refine WO.assign rfl rfl ?_
  refine WO.nil ?_
  refine thnN ?_
  refine WP.seq ?_
  refine WP.seq ?_
  refine WP.region ?_
  refine WO.move rfl rfl ?_
  refine WO.eqlS rfl rfl rfl ?_
  refine WO.move rfl rfl ?_
  refine WO.split 9 rfl (fun h1 => ?_) (fun h2 => ?_)
  · try simp only [decide_eq_true_eq, decide_eq_false_iff_not, beq_iff_eq, beq_eq_false_iff_ne, bne_iff_ne, bne_eq_false_iff_eq, Bool.not_eq_true', Bool.not_eq_false', Int.not_lt, Int.not_le, ne_eq] at h1
    refine WO.pass 9 rfl rfl rfl rfl ?_
    refine WO.pass 9 rfl rfl rfl rfl ?_
    refine WO.pass 9 rfl rfl rfl rfl ?_
    refine WO.pass 9 rfl rfl rfl rfl ?_
    refine WO.pickT rfl rfl rfl ?_
    refine WO.nil ?_
    refine thnN ?_
    refine WP.condT rfl ?_
    refine WP.seq ?_
    refine WP.region ?_
    refine WO.assign rfl rfl ?_
    refine WO.nil ?_
    refine thnN ?_
    refine WP.ret ?_
    refine thnR ?_
    refine ⟨_, [], (Res.one rfl), (Imp.nil _), ?_⟩
    refine ⟨congrArg Value.bool ?_, rfl⟩
    first | (refine (rightF_short ?_).symm; first | (left; assumption) | (right; assumption)) | (rw [rightF_long (by assumption) (by assumption), hI, allR_end (by assumption)]; done) | (rw [rightF_long (by assumption) (by assumption), hI, allR_false (by assumption) (by simp_all)]; done)
  · try simp only [decide_eq_true_eq, decide_eq_false_iff_not, beq_iff_eq, beq_eq_false_iff_ne, bne_iff_ne, bne_eq_false_iff_eq, Bool.not_eq_true', Bool.not_eq_false', Int.not_lt, Int.not_le, ne_eq] at h2
    refine WO.want 9 rfl rfl ?_
    refine WO.move rfl rfl ?_
    refine WO.want 9 rfl rfl ?_
    refine WO.lenS rfl un_9 rfl ?_
    refine WO.want 9 rfl rfl ?_
    refine WO.move rfl rfl ?_
    refine WO.want 9 rfl rfl ?_
    refine WO.gtrI rfl rfl rfl ?_
    refine WO.pickF rfl rfl rfl ?_
    refine WO.nil ?_
    refine thnN ?_
    refine WP.condL 14 rfl (fun h3 => ?_) (fun h4 => ?_)
    · try simp only [decide_eq_true_eq, decide_eq_false_iff_not, beq_iff_eq, beq_eq_false_iff_ne, bne_iff_ne, bne_eq_false_iff_eq, Bool.not_eq_true', Bool.not_eq_false', Int.not_lt, Int.not_le, ne_eq] at h3
      refine WP.seq ?_
      refine WP.region ?_
      refine WO.assign rfl rfl ?_
      refine WO.nil ?_
      refine thnN ?_
      refine WP.ret ?_
      refine thnR ?_
      refine ⟨_, [], (Res.one rfl), (Imp.nil _), ?_⟩
      refine ⟨congrArg Value.bool ?_, rfl⟩
      first | (refine (rightF_short ?_).symm; first | (left; assumption) | (right; assumption)) | (rw [rightF_long (by assumption) (by assumption), hI, allR_end (by assumption)]; done) | (rw [rightF_long (by assumption) (by assumption), hI, allR_false (by assumption) (by simp_all)]; done)
    · try simp only [decide_eq_true_eq, decide_eq_false_iff_not, beq_iff_eq, beq_eq_false_iff_ne, bne_iff_ne, bne_eq_false_iff_eq, Bool.not_eq_true', Bool.not_eq_false', Int.not_lt, Int.not_le, ne_eq] at h4
      refine WP.skip ?_
      refine thnN ?_
      refine WP.seq ?_
      refine WP.seq ?_
      refine WP.region ?_
      refine WO.move rfl rfl ?_
      refine WO.rangeS rfl un_9 rfl (fun it0 => ?_)
      refine WO.nil ?_
      refine thnN ?_
      refine WP.block ?_
      refine WP.loop1 (fun (q : Nat) => [(0, str s), (16, .pointer (some ⟨it0, 0, none⟩))]) (fun (q : Nat) => [[(it0, .stringIter ⟨⟨s⟩⟩ q)]]) (fun (q : Nat) => allR (fun r => sortF r != 0) s 0 = allR (fun r => sortF r != 0) s q) (fun (q : Nat) => s.length - q) ⟨0, ⟨rfl, rfl, trivial⟩, rfl, ?_⟩ ?_
      · rfl
      · intro q hI
        have hd := dec_pos s q
        refine WP.seq ?_
        refine WP.region ?_
        refine WO.nextS 0 rfl rfl rfl (fun h5 => ?_) (fun h6 => ?_)
        · skip
          refine WO.extract rfl rfl rfl ?_
          refine WO.nil ?_
          refine thnN ?_
          refine WP.seq ?_
          refine WP.condT rfl ?_
          refine WP.skip ?_
          refine thnN ?_
          refine WP.block ?_
          refine WP.seq ?_
          refine WP.region ?_
          refine WO.extract rfl rfl rfl ?_
          refine WO.assign rfl rfl ?_
          refine WO.nil ?_
          refine thnN ?_
          refine WP.seq ?_
          refine WP.region ?_
          refine WO.move rfl rfl ?_
          refine WO.callP (s_sign_Sort _) rfl ca_47 rfl ?_
          refine WO.eqlI rfl rfl rfl ?_
          refine WO.nil ?_
          refine thnN ?_
          refine WP.condL 22 rfl (fun h7 => ?_) (fun h8 => ?_)
          · try simp only [decide_eq_true_eq, decide_eq_false_iff_not, beq_iff_eq, beq_eq_false_iff_ne, bne_iff_ne, bne_eq_false_iff_eq, Bool.not_eq_true', Bool.not_eq_false', Int.not_lt, Int.not_le, ne_eq] at h7
            refine WP.seq ?_
            refine WP.region ?_
            refine WO.assign rfl rfl ?_
            refine WO.nil ?_
            refine thnN ?_
            refine WP.ret ?_
            refine blkR ?_
            refine thnR ?_
            refine blkR ?_
            refine thnR ?_
            refine ⟨_, [], (Res.one rfl), (Imp.nil _), ?_⟩
            refine ⟨congrArg Value.bool ?_, rfl⟩
            first | (refine (rightF_short ?_).symm; first | (left; assumption) | (right; assumption)) | (rw [rightF_long (by assumption) (by assumption), hI, allR_end (by assumption)]; done) | (rw [rightF_long (by assumption) (by assumption), hI, allR_false (by assumption) (by simp_all)]; done)
          · try simp only [decide_eq_true_eq, decide_eq_false_iff_not, beq_iff_eq, beq_eq_false_iff_ne, bne_iff_ne, bne_eq_false_iff_eq, Bool.not_eq_true', Bool.not_eq_false', Int.not_lt, Int.not_le, ne_eq] at h8
            refine WP.skip ?_
            refine blkN ?_
            refine thnN ?_
            refine ⟨q + (dec s q).2, ⟨rfl, rfl, trivial⟩, rfl, ?_, ?_⟩
            · rw [hI, ← allR_true (by assumption) (by simp_all [keyP])]
            · omega
        · skip
          refine WO.extract rfl rfl rfl ?_
          refine WO.nil ?_
          refine thnN ?_
          refine WP.seq ?_
          refine WP.condF rfl ?_
          refine WP.exit ?_
          refine thnE ?_
          refine thnE ?_
          refine blkHit ?_
          refine thnN ?_
          refine WP.seq ?_
          refine WP.region ?_
          refine WO.assign rfl rfl ?_
          refine WO.nil ?_
          refine thnN ?_
          refine WP.ret ?_
          refine ⟨_, [], (Res.one rfl), (Imp.nil _), ?_⟩
          refine ⟨congrArg Value.bool ?_, rfl⟩
          first | (refine (rightF_short ?_).symm; first | (left; assumption) | (right; assumption)) | (rw [rightF_long (by assumption) (by assumption), hI, allR_end (by assumption)]; done) | (rw [rightF_long (by assumption) (by assumption), hI, allR_false (by assumption) (by simp_all)]; done)

theorem s_canon_Key (s : List UInt8) : CallsS P 32 [str s] [] (fun v L => v = .bool (keyF s) ∧ L = []) := by
  refine CallsS.intro Tryd.func32 rfl rfl rfl rfl ?_
  refine WP.seq ?_
  refine WP.region ?_
  refine WO.assign rfl rfl ?_
  refine WO.nil ?_
  refine thnN ?_
  refine WP.seq ?_
  refine WP.seq ?_
  refine WP.region ?_
  refine WO.move rfl rfl ?_
  refine WO.eqlS rfl rfl rfl ?_
  refine WO.move rfl rfl ?_
  refine WO.split 8 rfl (fun h1 => ?_) (fun h2 => ?_)
  · try simp only [decide_eq_true_eq, decide_eq_false_iff_not, beq_iff_eq, beq_eq_false_iff_ne, bne_iff_ne, bne_eq_false_iff_eq, Bool.not_eq_true', Bool.not_eq_false', Int.not_lt, Int.not_le, ne_eq] at h1
    refine WO.pass 8 rfl rfl rfl rfl ?_
    refine WO.pass 8 rfl rfl rfl rfl ?_
    refine WO.pass 8 rfl rfl rfl rfl ?_
    refine WO.pickT rfl rfl rfl ?_
    refine WO.nil ?_
    refine thnN ?_
    refine WP.condT rfl ?_
    refine WP.seq ?_
    refine WP.region ?_
    refine WO.assign rfl rfl ?_
    refine WO.nil ?_
    refine thnN ?_
    refine WP.ret ?_
    refine thnR ?_
    refine ⟨_, [], (Res.one rfl), (Imp.nil _), ?_⟩
    refine ⟨congrArg Value.bool ?_, rfl⟩
    first | (refine (keyF_short ?_).symm; first | (left; assumption) | (right; omega)) | (rw [keyF_long (by assumption) (by omega), hI, allR_end (by assumption)]; done) | (rw [keyF_long (by assumption) (by omega), hI, allR_false (by assumption) (by simp_all [keyP])]; done)
  · try simp only [decide_eq_true_eq, decide_eq_false_iff_not, beq_iff_eq, beq_eq_false_iff_ne, bne_iff_ne, bne_eq_false_iff_eq, Bool.not_eq_true', Bool.not_eq_false', Int.not_lt, Int.not_le, ne_eq] at h2
    refine WO.want 8 rfl rfl ?_
    refine WO.move rfl rfl ?_
    refine WO.want 8 rfl rfl ?_
    refine WO.lenS rfl un_9 rfl ?_
    refine WO.want 8 rfl rfl ?_
    refine WO.gtrI rfl rfl rfl ?_
    refine WO.pickF rfl rfl rfl ?_
    refine WO.nil ?_
    refine thnN ?_
    refine WP.condL 12 rfl (fun h3 => ?_) (fun h4 => ?_)
    · try simp only [decide_eq_true_eq, decide_eq_false_iff_not, beq_iff_eq, beq_eq_false_iff_ne, bne_iff_ne, bne_eq_false_iff_eq, Bool.not_eq_true', Bool.not_eq_false', Int.not_lt, Int.not_le, ne_eq] at h3
      refine WP.seq ?_
      refine WP.region ?_
      refine WO.assign rfl rfl ?_
      refine WO.nil ?_
      refine thnN ?_
      refine WP.ret ?_
      refine thnR ?_
      refine ⟨_, [], (Res.one rfl), (Imp.nil _), ?_⟩
      refine ⟨congrArg Value.bool ?_, rfl⟩
      first | (refine (keyF_short ?_).symm; first | (left; assumption) | (right; omega)) | (rw [keyF_long (by assumption) (by omega), hI, allR_end (by assumption)]; done) | (rw [keyF_long (by assumption) (by omega), hI, allR_false (by assumption) (by simp_all [keyP])]; done)
    · try simp only [decide_eq_true_eq, decide_eq_false_iff_not, beq_iff_eq, beq_eq_false_iff_ne, bne_iff_ne, bne_eq_false_iff_eq, Bool.not_eq_true', Bool.not_eq_false', Int.not_lt, Int.not_le, ne_eq] at h4
      refine WP.skip ?_
      refine thnN ?_
      refine WP.seq ?_
      refine WP.seq ?_
      refine WP.region ?_
      refine WO.move rfl rfl ?_
      refine WO.rangeS rfl un_9 rfl (fun it0 => ?_)
      refine WO.nil ?_
      refine thnN ?_
      refine WP.block ?_
      refine WP.loop1 (fun (q : Nat) => [(0, str s), (14, .pointer (some ⟨it0, 0, none⟩))]) (fun (q : Nat) => [[(it0, .stringIter ⟨⟨s⟩⟩ q)]]) (fun (q : Nat) => allR keyP s 0 = allR keyP s q) (fun (q : Nat) => s.length - q) ⟨0, ⟨rfl, rfl, trivial⟩, rfl, ?_⟩ ?_
      · rfl
      · intro q hI
        have hd := dec_pos s q
        refine WP.seq ?_
        refine WP.region ?_
        refine WO.nextS 0 rfl rfl rfl (fun h5 => ?_) (fun h6 => ?_)
        · skip
          refine WO.extract rfl rfl rfl ?_
          refine WO.nil ?_
          refine thnN ?_
          refine WP.seq ?_
          refine WP.condT rfl ?_
          refine WP.skip ?_
          refine thnN ?_
          refine WP.block ?_
          refine WP.seq ?_
          refine WP.region ?_
          refine WO.extract rfl rfl rfl ?_
          refine WO.assign rfl rfl ?_
          refine WO.nil ?_
          refine thnN ?_
          refine WP.seq ?_
          refine WP.region ?_
          refine WO.move rfl rfl ?_
          refine WO.callP (s_sign_Sort _) rfl ca_47 rfl ?_
          refine WO.assign rfl rfl ?_
          refine WO.nil ?_
          refine thnN ?_
          refine WP.block ?_
          refine WP.seq ?_
          refine WP.region ?_
          refine WO.move rfl rfl ?_
          refine WO.eqlI rfl rfl rfl ?_
          refine WO.move rfl rfl ?_
          refine WO.split 23 rfl (fun h7 => ?_) (fun h8 => ?_)
          · try simp only [decide_eq_true_eq, decide_eq_false_iff_not, beq_iff_eq, beq_eq_false_iff_ne, bne_iff_ne, bne_eq_false_iff_eq, Bool.not_eq_true', Bool.not_eq_false', Int.not_lt, Int.not_le, ne_eq] at h7
            refine WO.pass 23 rfl rfl rfl rfl ?_
            refine WO.pass 23 rfl rfl rfl rfl ?_
            refine WO.pickT rfl rfl rfl ?_
            refine WO.assign rfl rfl ?_
            refine WO.nil ?_
            refine thnN ?_
            refine WP.condT rfl ?_
            refine WP.skip ?_
            refine blkN ?_
            refine blkN ?_
            refine thnN ?_
            refine ⟨q + (dec s q).2, ⟨rfl, rfl, trivial⟩, rfl, ?_, ?_⟩
            · rw [hI, ← allR_true (by assumption) (by simp_all [keyP])]
            · omega
          · try simp only [decide_eq_true_eq, decide_eq_false_iff_not, beq_iff_eq, beq_eq_false_iff_ne, bne_iff_ne, bne_eq_false_iff_eq, Bool.not_eq_true', Bool.not_eq_false', Int.not_lt, Int.not_le, ne_eq] at h8
            refine WO.want 23 rfl rfl ?_
            refine WO.move rfl rfl ?_
            refine WO.want 23 rfl rfl ?_
            refine WO.eqlI rfl rfl rfl ?_
            refine WO.pickF rfl rfl rfl ?_
            refine WO.assign rfl rfl ?_
            refine WO.nil ?_
            refine thnN ?_
            refine WP.condL 20 rfl (fun h9 => ?_) (fun h10 => ?_)
            · try simp only [decide_eq_true_eq, decide_eq_false_iff_not, beq_iff_eq, beq_eq_false_iff_ne, bne_iff_ne, bne_eq_false_iff_eq, Bool.not_eq_true', Bool.not_eq_false', Int.not_lt, Int.not_le, ne_eq] at h9
              refine WP.skip ?_
              refine blkN ?_
              refine blkN ?_
              refine thnN ?_
              refine ⟨q + (dec s q).2, ⟨rfl, rfl, trivial⟩, rfl, ?_, ?_⟩
              · rw [hI, ← allR_true (by assumption) (by simp_all [keyP])]
              · omega
            · try simp only [decide_eq_true_eq, decide_eq_false_iff_not, beq_iff_eq, beq_eq_false_iff_ne, bne_iff_ne, bne_eq_false_iff_eq, Bool.not_eq_true', Bool.not_eq_false', Int.not_lt, Int.not_le, ne_eq] at h10
              refine WP.seq ?_
              refine WP.region ?_
              refine WO.move rfl rfl ?_
              refine WO.eqlI rfl rfl rfl ?_
              refine WO.move rfl rfl ?_
              refine WO.split 30 rfl (fun h11 => ?_) (fun h12 => ?_)
              · try simp only [decide_eq_true_eq, decide_eq_false_iff_not, beq_iff_eq, beq_eq_false_iff_ne, bne_iff_ne, bne_eq_false_iff_eq, Bool.not_eq_true', Bool.not_eq_false', Int.not_lt, Int.not_le, ne_eq] at h11
                refine WO.pass 30 rfl rfl rfl rfl ?_
                refine WO.pass 30 rfl rfl rfl rfl ?_
                refine WO.pickT rfl rfl rfl ?_
                refine WO.move rfl rfl ?_
                refine WO.pass 34 rfl rfl rfl rfl ?_
                refine WO.pass 34 rfl rfl rfl rfl ?_
                refine WO.pickT rfl rfl rfl ?_
                refine WO.assign rfl rfl ?_
                refine WO.nil ?_
                refine thnN ?_
                refine WP.condT rfl ?_
                refine WP.skip ?_
                refine blkN ?_
                refine blkN ?_
                refine thnN ?_
                refine ⟨q + (dec s q).2, ⟨rfl, rfl, trivial⟩, rfl, ?_, ?_⟩
                · rw [hI, ← allR_true (by assumption) (by simp_all [keyP])]
                · omega
              · try simp only [decide_eq_true_eq, decide_eq_false_iff_not, beq_iff_eq, beq_eq_false_iff_ne, bne_iff_ne, bne_eq_false_iff_eq, Bool.not_eq_true', Bool.not_eq_false', Int.not_lt, Int.not_le, ne_eq] at h12
                refine WO.want 30 rfl rfl ?_
                refine WO.move rfl rfl ?_
                refine WO.want 30 rfl rfl ?_
                refine WO.eqlI rfl rfl rfl ?_
                refine WO.pickF rfl rfl rfl ?_
                refine WO.move rfl rfl ?_
                refine WO.split 34 rfl (fun h13 => ?_) (fun h14 => ?_)
                · try simp only [decide_eq_true_eq, decide_eq_false_iff_not, beq_iff_eq, beq_eq_false_iff_ne, bne_iff_ne, bne_eq_false_iff_eq, Bool.not_eq_true', Bool.not_eq_false', Int.not_lt, Int.not_le, ne_eq] at h13
                  refine WO.pass 34 rfl rfl rfl rfl ?_
                  refine WO.pass 34 rfl rfl rfl rfl ?_
                  refine WO.pickT rfl rfl rfl ?_
                  refine WO.assign rfl rfl ?_
                  refine WO.nil ?_
                  refine thnN ?_
                  refine WP.condT rfl ?_
                  refine WP.skip ?_
                  refine blkN ?_
                  refine blkN ?_
                  refine thnN ?_
                  refine ⟨q + (dec s q).2, ⟨rfl, rfl, trivial⟩, rfl, ?_, ?_⟩
                  · rw [hI, ← allR_true (by assumption) (by simp_all [keyP])]
                  · omega
                · try simp only [decide_eq_true_eq, decide_eq_false_iff_not, beq_iff_eq, beq_eq_false_iff_ne, bne_iff_ne, bne_eq_false_iff_eq, Bool.not_eq_true', Bool.not_eq_false', Int.not_lt, Int.not_le, ne_eq] at h14
                  refine WO.want 34 rfl rfl ?_
                  refine WO.move rfl rfl ?_
                  refine WO.want 34 rfl rfl ?_
                  refine WO.eqlI rfl rfl rfl ?_
                  refine WO.pickF rfl rfl rfl ?_
                  refine WO.assign rfl rfl ?_
                  refine WO.nil ?_
                  refine thnN ?_
                  refine WP.condL 27 rfl (fun h15 => ?_) (fun h16 => ?_)
                  · try simp only [decide_eq_true_eq, decide_eq_false_iff_not, beq_iff_eq, beq_eq_false_iff_ne, bne_iff_ne, bne_eq_false_iff_eq, Bool.not_eq_true', Bool.not_eq_false', Int.not_lt, Int.not_le, ne_eq] at h15
                    refine WP.skip ?_
                    refine blkN ?_
                    refine blkN ?_
                    refine thnN ?_
                    refine ⟨q + (dec s q).2, ⟨rfl, rfl, trivial⟩, rfl, ?_, ?_⟩
                    · rw [hI, ← allR_true (by assumption) (by simp_all [keyP])]
                    · omega
                  · try simp only [decide_eq_true_eq, decide_eq_false_iff_not, beq_iff_eq, beq_eq_false_iff_ne, bne_iff_ne, bne_eq_false_iff_eq, Bool.not_eq_true', Bool.not_eq_false', Int.not_lt, Int.not_le, ne_eq] at h16
                    refine WP.seq ?_
                    refine WP.region ?_
                    refine WO.assign rfl rfl ?_
                    refine WO.nil ?_
                    refine thnN ?_
                    refine WP.ret ?_
                    refine blkR ?_
                    refine blkR ?_
                    refine thnR ?_
                    refine blkR ?_
                    refine thnR ?_
                    refine ⟨_, [], (Res.one rfl), (Imp.nil _), ?_⟩
                    refine ⟨congrArg Value.bool ?_, rfl⟩
                    first | (refine (keyF_short ?_).symm; first | (left; assumption) | (right; omega)) | (rw [keyF_long (by assumption) (by omega), hI, allR_end (by assumption)]; done) | (rw [keyF_long (by assumption) (by omega), hI, allR_false (by assumption) (by simp_all [keyP])]; done)
        · skip
          refine WO.extract rfl rfl rfl ?_
          refine WO.nil ?_
          refine thnN ?_
          refine WP.seq ?_
          refine WP.condF rfl ?_
          refine WP.exit ?_
          refine thnE ?_
          refine thnE ?_
          refine blkHit ?_
          refine thnN ?_
          refine WP.seq ?_
          refine WP.region ?_
          refine WO.assign rfl rfl ?_
          refine WO.nil ?_
          refine thnN ?_
          refine WP.ret ?_
          refine ⟨_, [], (Res.one rfl), (Imp.nil _), ?_⟩
          refine ⟨congrArg Value.bool ?_, rfl⟩
          first | (refine (keyF_short ?_).symm; first | (left; assumption) | (right; omega)) | (rw [keyF_long (by assumption) (by omega), hI, allR_end (by assumption)]; done) | (rw [keyF_long (by assumption) (by omega), hI, allR_false (by assumption) (by simp_all [keyP])]; done)

theorem s_canon_letter (c : UInt8) : CallsS P 42 [.int .u8 (c.toNat : Int)] [] (fun v L => v = .tuple #[.int .u8 ((upB c).toNat : Int), .bool (isUp c)] ∧ L = []) := by
  have hc := c.toNat_lt
  refine CallsS.intro Tryd.func42 rfl rfl rfl rfl ?_
  refine WP.seq ?_
  refine WP.region ?_
  refine WO.assign rfl rfl ?_
  refine WO.assign rfl rfl ?_
  refine WO.nil ?_
  refine thnN ?_
  refine WP.seq ?_
  refine WP.seq ?_
  refine WP.region ?_
  refine WO.move rfl rfl ?_
  refine WO.geqI rfl rfl rfl ?_
  refine WO.move rfl rfl ?_
  refine WO.split 6 rfl (fun h1 => ?_) (fun h2 => ?_)
  · try simp only [decide_eq_true_eq, decide_eq_false_iff_not, beq_iff_eq, beq_eq_false_iff_ne, bne_iff_ne, bne_eq_false_iff_eq, Bool.not_eq_true', Bool.not_eq_false', Int.not_lt, Int.not_le, ne_eq] at h1
    refine WO.want 6 rfl rfl ?_
    refine WO.move rfl rfl ?_
    refine WO.want 6 rfl rfl ?_
    refine WO.leqI rfl rfl rfl ?_
    refine WO.pickT rfl rfl rfl ?_
    refine WO.nil ?_
    refine thnN ?_
    refine WP.condL 9 rfl (fun h3 => ?_) (fun h4 => ?_)
    · try simp only [decide_eq_true_eq, decide_eq_false_iff_not, beq_iff_eq, beq_eq_false_iff_ne, bne_iff_ne, bne_eq_false_iff_eq, Bool.not_eq_true', Bool.not_eq_false', Int.not_lt, Int.not_le, ne_eq] at h3
      refine WP.region ?_
      refine WO.move rfl rfl ?_
      refine WO.sub' rfl rfl (by first | exact wrap_u8 (by omega) (by omega) | rfl) rfl ?_
      refine WO.assign rfl rfl ?_
      refine WO.nil ?_
      refine thnN ?_
      refine WP.seq ?_
      refine WP.region ?_
      refine WO.move rfl rfl ?_
      refine WO.move rfl rfl ?_
      refine WO.geqI rfl rfl rfl ?_
      refine WO.move rfl rfl ?_
      refine WO.split 15 rfl (fun h5 => ?_) (fun h6 => ?_)
      · try simp only [decide_eq_true_eq, decide_eq_false_iff_not, beq_iff_eq, beq_eq_false_iff_ne, bne_iff_ne, bne_eq_false_iff_eq, Bool.not_eq_true', Bool.not_eq_false', Int.not_lt, Int.not_le, ne_eq] at h5
        refine WO.want 15 rfl rfl ?_
        refine WO.move rfl rfl ?_
        refine WO.want 15 rfl rfl ?_
        refine WO.leqI rfl rfl rfl ?_
        refine WO.pickT rfl rfl rfl ?_
        refine WO.assign rfl rfl ?_
        refine WO.assign rfl rfl ?_
        refine WO.nil ?_
        refine thnN ?_
        refine WP.ret ?_
        refine ⟨_, [], (Res.two rfl rfl), (Imp.nil _), ?_⟩
        refine ⟨?_, rfl⟩
        rcases letter3 c with ⟨a1, a2, e1, e2⟩ | ⟨a1, a2, e1, e2⟩ | ⟨a1, e1, e2⟩ <;> rw [e1, e2] <;> first | rfl | (exfalso; omega) | (simp; omega)
      · try simp only [decide_eq_true_eq, decide_eq_false_iff_not, beq_iff_eq, beq_eq_false_iff_ne, bne_iff_ne, bne_eq_false_iff_eq, Bool.not_eq_true', Bool.not_eq_false', Int.not_lt, Int.not_le, ne_eq] at h6
        refine WO.pass 15 rfl rfl rfl rfl ?_
        refine WO.pass 15 rfl rfl rfl rfl ?_
        refine WO.pickF rfl rfl rfl ?_
        refine WO.assign rfl rfl ?_
        refine WO.assign rfl rfl ?_
        refine WO.nil ?_
        refine thnN ?_
        refine WP.ret ?_
        refine ⟨_, [], (Res.two rfl rfl), (Imp.nil _), ?_⟩
        refine ⟨?_, rfl⟩
        rcases letter3 c with ⟨a1, a2, e1, e2⟩ | ⟨a1, a2, e1, e2⟩ | ⟨a1, e1, e2⟩ <;> rw [e1, e2] <;> first | rfl | (exfalso; omega) | (simp; omega)
    · try simp only [decide_eq_true_eq, decide_eq_false_iff_not, beq_iff_eq, beq_eq_false_iff_ne, bne_iff_ne, bne_eq_false_iff_eq, Bool.not_eq_true', Bool.not_eq_false', Int.not_lt, Int.not_le, ne_eq] at h4
      refine WP.skip ?_
      refine thnN ?_
      refine WP.seq ?_
      refine WP.region ?_
      refine WO.move rfl rfl ?_
      refine WO.move rfl rfl ?_
      refine WO.geqI rfl rfl rfl ?_
      refine WO.move rfl rfl ?_
      refine WO.split 15 rfl (fun h7 => ?_) (fun h8 => ?_)
      · try simp only [decide_eq_true_eq, decide_eq_false_iff_not, beq_iff_eq, beq_eq_false_iff_ne, bne_iff_ne, bne_eq_false_iff_eq, Bool.not_eq_true', Bool.not_eq_false', Int.not_lt, Int.not_le, ne_eq] at h7
        refine WO.want 15 rfl rfl ?_
        refine WO.move rfl rfl ?_
        refine WO.want 15 rfl rfl ?_
        refine WO.leqI rfl rfl rfl ?_
        refine WO.pickT rfl rfl rfl ?_
        refine WO.assign rfl rfl ?_
        refine WO.assign rfl rfl ?_
        refine WO.nil ?_
        refine thnN ?_
        refine WP.ret ?_
        refine ⟨_, [], (Res.two rfl rfl), (Imp.nil _), ?_⟩
        refine ⟨?_, rfl⟩
        rcases letter3 c with ⟨a1, a2, e1, e2⟩ | ⟨a1, a2, e1, e2⟩ | ⟨a1, e1, e2⟩ <;> rw [e1, e2] <;> first | rfl | (exfalso; omega) | (simp; omega)
      · try simp only [decide_eq_true_eq, decide_eq_false_iff_not, beq_iff_eq, beq_eq_false_iff_ne, bne_iff_ne, bne_eq_false_iff_eq, Bool.not_eq_true', Bool.not_eq_false', Int.not_lt, Int.not_le, ne_eq] at h8
        refine WO.pass 15 rfl rfl rfl rfl ?_
        refine WO.pass 15 rfl rfl rfl rfl ?_
        refine WO.pickF rfl rfl rfl ?_
        refine WO.assign rfl rfl ?_
        refine WO.assign rfl rfl ?_
        refine WO.nil ?_
        refine thnN ?_
        refine WP.ret ?_
        refine ⟨_, [], (Res.two rfl rfl), (Imp.nil _), ?_⟩
        refine ⟨?_, rfl⟩
        rcases letter3 c with ⟨a1, a2, e1, e2⟩ | ⟨a1, a2, e1, e2⟩ | ⟨a1, e1, e2⟩ <;> rw [e1, e2] <;> first | rfl | (exfalso; omega) | (simp; omega)
  · try simp only [decide_eq_true_eq, decide_eq_false_iff_not, beq_iff_eq, beq_eq_false_iff_ne, bne_iff_ne, bne_eq_false_iff_eq, Bool.not_eq_true', Bool.not_eq_false', Int.not_lt, Int.not_le, ne_eq] at h2
    refine WO.pass 6 rfl rfl rfl rfl ?_
    refine WO.pass 6 rfl rfl rfl rfl ?_
    refine WO.pickF rfl rfl rfl ?_
    refine WO.nil ?_
    refine thnN ?_
    refine WP.condF rfl ?_
    refine WP.skip ?_
    refine thnN ?_
    refine WP.seq ?_
    refine WP.region ?_
    refine WO.move rfl rfl ?_
    refine WO.move rfl rfl ?_
    refine WO.geqI rfl rfl rfl ?_
    refine WO.move rfl rfl ?_
    refine WO.split 15 rfl (fun h9 => ?_) (fun h10 => ?_)
    · try simp only [decide_eq_true_eq, decide_eq_false_iff_not, beq_iff_eq, beq_eq_false_iff_ne, bne_iff_ne, bne_eq_false_iff_eq, Bool.not_eq_true', Bool.not_eq_false', Int.not_lt, Int.not_le, ne_eq] at h9
      refine WO.want 15 rfl rfl ?_
      refine WO.move rfl rfl ?_
      refine WO.want 15 rfl rfl ?_
      refine WO.leqI rfl rfl rfl ?_
      refine WO.pickT rfl rfl rfl ?_
      refine WO.assign rfl rfl ?_
      refine WO.assign rfl rfl ?_
      refine WO.nil ?_
      refine thnN ?_
      refine WP.ret ?_
      refine ⟨_, [], (Res.two rfl rfl), (Imp.nil _), ?_⟩
      refine ⟨?_, rfl⟩
      rcases letter3 c with ⟨a1, a2, e1, e2⟩ | ⟨a1, a2, e1, e2⟩ | ⟨a1, e1, e2⟩ <;> rw [e1, e2] <;> first | rfl | (exfalso; omega) | (simp; omega)
    · try simp only [decide_eq_true_eq, decide_eq_false_iff_not, beq_iff_eq, beq_eq_false_iff_ne, bne_iff_ne, bne_eq_false_iff_eq, Bool.not_eq_true', Bool.not_eq_false', Int.not_lt, Int.not_le, ne_eq] at h10
      refine WO.pass 15 rfl rfl rfl rfl ?_
      refine WO.pass 15 rfl rfl rfl rfl ?_
      refine WO.pickF rfl rfl rfl ?_
      refine WO.assign rfl rfl ?_
      refine WO.assign rfl rfl ?_
      refine WO.nil ?_
      refine thnN ?_
      refine WP.ret ?_
      refine ⟨_, [], (Res.two rfl rfl), (Imp.nil _), ?_⟩
      refine ⟨?_, rfl⟩
      rcases letter3 c with ⟨a1, a2, e1, e2⟩ | ⟨a1, a2, e1, e2⟩ | ⟨a1, e1, e2⟩ <;> rw [e1, e2] <;> first | rfl | (exfalso; omega) | (simp; omega)

theorem s_canon_digit (c : UInt8) : CallsS P 67 [.int .u8 (c.toNat : Int)] [] (fun v L => v = .int .i64 (digitF c) ∧ L = []) := by
  refine CallsS.intro Tryd.func67 rfl rfl rfl rfl ?_
  refine WP.seq ?_
  refine WP.region ?_
  refine WO.assign rfl rfl ?_
  refine WO.nil ?_
  refine thnN ?_
  refine WP.seq ?_
  refine WP.seq ?_
  refine WP.region ?_
  refine WO.move rfl rfl ?_
  refine WO.callP (s_canon_letter _) rfl ca_42 rfl ?_
  refine WO.move rfl rfl ?_
  refine WO.extract rfl rfl rfl ?_
  refine WO.extract rfl rfl rfl ?_
  refine WO.assign rfl rfl ?_
  refine WO.assign rfl rfl ?_
  refine WO.nil ?_
  refine thnN ?_
  refine WP.seq ?_
  refine WP.region ?_
  refine WO.move rfl rfl ?_
  refine WO.nil ?_
  refine thnN ?_
  refine WP.condL 10 rfl (fun h1 => ?_) (fun h2 => ?_)
  · try simp only [decide_eq_true_eq, decide_eq_false_iff_not, beq_iff_eq, beq_eq_false_iff_ne, bne_iff_ne, bne_eq_false_iff_eq, Bool.not_eq_true', Bool.not_eq_false', Int.not_lt, Int.not_le, ne_eq] at h1
    refine WP.region ?_
    refine WO.move rfl rfl ?_
    refine WO.assign rfl rfl ?_
    refine WO.nil ?_
    refine thnN ?_
    refine WP.seq ?_
    refine WP.region ?_
    refine WO.move rfl rfl ?_
    refine WO.callP (s_IndexByte _ _) rfl ca_69 rfl ?_
    refine WO.assign rfl rfl ?_
    refine WO.nil ?_
    refine thnN ?_
    refine WP.ret ?_
    refine ⟨_, [], (Res.one rfl), (Imp.nil _), ?_⟩
    refine ⟨congrArg (Value.int .i64) ?_, rfl⟩
    simp_all [digitF, great]
  · try simp only [decide_eq_true_eq, decide_eq_false_iff_not, beq_iff_eq, beq_eq_false_iff_ne, bne_iff_ne, bne_eq_false_iff_eq, Bool.not_eq_true', Bool.not_eq_false', Int.not_lt, Int.not_le, ne_eq] at h2
    refine WP.skip ?_
    refine thnN ?_
    refine WP.seq ?_
    refine WP.region ?_
    refine WO.move rfl rfl ?_
    refine WO.callP (s_IndexByte _ _) rfl ca_69 rfl ?_
    refine WO.assign rfl rfl ?_
    refine WO.nil ?_
    refine thnN ?_
    refine WP.ret ?_
    refine ⟨_, [], (Res.one rfl), (Imp.nil _), ?_⟩
    refine ⟨congrArg (Value.int .i64) ?_, rfl⟩
    simp_all [digitF, great]

theorem s_canon_plain (c : UInt8) : CallsS P 57 [.int .u8 (c.toNat : Int)] [] (fun v L => v = .bool (plainF c) ∧ L = []) := by
  have hc := c.toNat_lt
  refine CallsS.intro Tryd.func57 rfl rfl rfl rfl ?_
  refine WP.seq ?_
  refine WP.region ?_
  refine WO.assign rfl rfl ?_
  refine WO.nil ?_
  refine thnN ?_
  refine WP.seq ?_
  refine WP.region ?_
  refine WO.move rfl rfl ?_
  refine WO.callP (s_canon_letter _) rfl ca_42 rfl ?_
  refine WO.move rfl rfl ?_
  refine WO.extract rfl rfl rfl ?_
  refine WO.extract rfl rfl rfl ?_
  refine WO.assign rfl rfl ?_
  refine WO.assign rfl rfl ?_
  refine WO.nil ?_
  refine thnN ?_
  refine WP.seq ?_
  refine WP.region ?_
  refine WO.move rfl rfl ?_
  refine WO.move rfl rfl ?_
  refine WO.split 11 rfl (fun h1 => ?_) (fun h2 => ?_)
  · try simp only [decide_eq_true_eq, decide_eq_false_iff_not, beq_iff_eq, beq_eq_false_iff_ne, bne_iff_ne, bne_eq_false_iff_eq, Bool.not_eq_true', Bool.not_eq_false', Int.not_lt, Int.not_le, ne_eq] at h1
    refine WO.pass 11 rfl rfl rfl rfl ?_
    refine WO.pass 11 rfl rfl rfl rfl ?_
    refine WO.pass 11 rfl rfl rfl rfl ?_
    refine WO.passU 14 rfl rfl rfl ?_
    refine WO.passU 14 rfl rfl rfl ?_
    refine WO.pass 11 rfl rfl rfl rfl ?_
    refine WO.pickT rfl rfl rfl ?_
    refine WO.move rfl rfl ?_
    refine WO.pass 19 rfl rfl rfl rfl ?_
    refine WO.pass 19 rfl rfl rfl rfl ?_
    refine WO.pass 19 rfl rfl rfl rfl ?_
    refine WO.pickT rfl rfl rfl ?_
    refine WO.assign rfl rfl ?_
    refine WO.nil ?_
    refine thnN ?_
    refine WP.ret ?_
    refine ⟨_, [], (Res.one rfl), (Imp.nil _), ?_⟩
    refine ⟨congrArg Value.bool ?_, rfl⟩
    first | (simp_all [plainF]; done) | (simp_all [plainF]; omega)
  · try simp only [decide_eq_true_eq, decide_eq_false_iff_not, beq_iff_eq, beq_eq_false_iff_ne, bne_iff_ne, bne_eq_false_iff_eq, Bool.not_eq_true', Bool.not_eq_false', Int.not_lt, Int.not_le, ne_eq] at h2
    refine WO.want 11 rfl rfl ?_
    refine WO.move rfl rfl ?_
    refine WO.want 11 rfl rfl ?_
    refine WO.geqI rfl rfl rfl ?_
    refine WO.want 11 rfl rfl ?_
    refine WO.move rfl rfl ?_
    refine WO.split 14 rfl (fun h3 => ?_) (fun h4 => ?_)
    · try simp only [decide_eq_true_eq, decide_eq_false_iff_not, beq_iff_eq, beq_eq_false_iff_ne, bne_iff_ne, bne_eq_false_iff_eq, Bool.not_eq_true', Bool.not_eq_false', Int.not_lt, Int.not_le, ne_eq] at h3
      refine WO.want 14 rfl rfl ?_
      refine WO.move rfl rfl ?_
      refine WO.want 14 rfl rfl ?_
      refine WO.leqI rfl rfl rfl ?_
      refine WO.want 11 rfl rfl ?_
      refine WO.pickT rfl rfl rfl ?_
      refine WO.pickF rfl rfl rfl ?_
      refine WO.move rfl rfl ?_
      refine WO.split 19 rfl (fun h5 => ?_) (fun h6 => ?_)
      · try simp only [decide_eq_true_eq, decide_eq_false_iff_not, beq_iff_eq, beq_eq_false_iff_ne, bne_iff_ne, bne_eq_false_iff_eq, Bool.not_eq_true', Bool.not_eq_false', Int.not_lt, Int.not_le, ne_eq] at h5
        refine WO.pass 19 rfl rfl rfl rfl ?_
        refine WO.pass 19 rfl rfl rfl rfl ?_
        refine WO.pass 19 rfl rfl rfl rfl ?_
        refine WO.pickT rfl rfl rfl ?_
        refine WO.assign rfl rfl ?_
        refine WO.nil ?_
        refine thnN ?_
        refine WP.ret ?_
        refine ⟨_, [], (Res.one rfl), (Imp.nil _), ?_⟩
        refine ⟨congrArg Value.bool ?_, rfl⟩
        first | (simp_all [plainF]; done) | (simp_all [plainF]; omega)
      · try simp only [decide_eq_true_eq, decide_eq_false_iff_not, beq_iff_eq, beq_eq_false_iff_ne, bne_iff_ne, bne_eq_false_iff_eq, Bool.not_eq_true', Bool.not_eq_false', Int.not_lt, Int.not_le, ne_eq] at h6
        refine WO.want 19 rfl rfl ?_
        refine WO.move rfl rfl ?_
        refine WO.want 19 rfl rfl ?_
        refine WO.callP (s_IndexByte _ _) rfl ca_69 rfl ?_
        refine WO.want 19 rfl rfl ?_
        refine WO.geqI rfl rfl rfl ?_
        refine WO.pickF rfl rfl rfl ?_
        refine WO.assign rfl rfl ?_
        refine WO.nil ?_
        refine thnN ?_
        refine WP.ret ?_
        refine ⟨_, [], (Res.one rfl), (Imp.nil _), ?_⟩
        refine ⟨congrArg Value.bool ?_, rfl⟩
        first | (simp_all [plainF]; done) | (simp_all [plainF]; omega)
    · try simp only [decide_eq_true_eq, decide_eq_false_iff_not, beq_iff_eq, beq_eq_false_iff_ne, bne_iff_ne, bne_eq_false_iff_eq, Bool.not_eq_true', Bool.not_eq_false', Int.not_lt, Int.not_le, ne_eq] at h4
      refine WO.pass 14 rfl rfl rfl rfl ?_
      refine WO.pass 14 rfl rfl rfl rfl ?_
      refine WO.want 11 rfl rfl ?_
      refine WO.pickF rfl rfl rfl ?_
      refine WO.pickF rfl rfl rfl ?_
      refine WO.move rfl rfl ?_
      refine WO.want 19 rfl rfl ?_
      refine WO.move rfl rfl ?_
      refine WO.want 19 rfl rfl ?_
      refine WO.callP (s_IndexByte _ _) rfl ca_69 rfl ?_
      refine WO.want 19 rfl rfl ?_
      refine WO.geqI rfl rfl rfl ?_
      refine WO.pickF rfl rfl rfl ?_
      refine WO.assign rfl rfl ?_
      refine WO.nil ?_
      refine thnN ?_
      refine WP.ret ?_
      refine ⟨_, [], (Res.one rfl), (Imp.nil _), ?_⟩
      refine ⟨congrArg Value.bool ?_, rfl⟩
      first | (simp_all [plainF]; done) | (simp_all [plainF]; omega)

theorem s_canon_Method (s : List UInt8) : CallsS P 30 [str s] [] (fun v L => v = .tuple #[str ((methodF s).getD []), .bool (methodF s).isSome] ∧ L = []) := by
  refine CallsS.intro Tryd.func30 rfl rfl rfl rfl ?_
  refine WP.seq ?_
  refine WP.region ?_
  refine WO.assign rfl rfl ?_
  refine WO.assign rfl rfl ?_
  refine WO.nil ?_
  refine thnN ?_
  refine WP.seq ?_
  refine WP.seq ?_
  refine WP.region ?_
  refine WO.move rfl rfl ?_
  refine WO.eqlS rfl rfl rfl ?_
  refine WO.move rfl rfl ?_
  refine WO.split 10 rfl (fun h1 => ?_) (fun h2 => ?_)
  · try simp only [decide_eq_true_eq, decide_eq_false_iff_not, beq_iff_eq, beq_eq_false_iff_ne, bne_iff_ne, bne_eq_false_iff_eq, Bool.not_eq_true', Bool.not_eq_false', Int.not_lt, Int.not_le, ne_eq] at h1
    refine WO.pass 10 rfl rfl rfl rfl ?_
    refine WO.pass 10 rfl rfl rfl rfl ?_
    refine WO.pass 10 rfl rfl rfl rfl ?_
    refine WO.pickT rfl rfl rfl ?_
    refine WO.nil ?_
    refine thnN ?_
    refine WP.condT rfl ?_
    refine WP.seq ?_
    refine WP.region ?_
    refine WO.assign rfl rfl ?_
    refine WO.assign rfl rfl ?_
    refine WO.nil ?_
    refine thnN ?_
    refine WP.ret ?_
    refine thnR ?_
    refine ⟨_, [], (Res.two rfl rfl), (Imp.nil _), ?_⟩
    refine ⟨?_, rfl⟩
    first | (rw [methodF_none (by first | (left; assumption) | (right; left; omega) | (right; right; exact all_not (k := k) (by omega) (by assumption)))]; rfl) | (rw [List.take_of_length_le (by omega)] at *; rw [methodF_some (by assumption) (by omega) (by assumption)]; rfl)
  · try simp only [decide_eq_true_eq, decide_eq_false_iff_not, beq_iff_eq, beq_eq_false_iff_ne, bne_iff_ne, bne_eq_false_iff_eq, Bool.not_eq_true', Bool.not_eq_false', Int.not_lt, Int.not_le, ne_eq] at h2
    refine WO.want 10 rfl rfl ?_
    refine WO.move rfl rfl ?_
    refine WO.want 10 rfl rfl ?_
    refine WO.lenS rfl un_9 rfl ?_
    refine WO.want 10 rfl rfl ?_
    refine WO.gtrI rfl rfl rfl ?_
    refine WO.pickF rfl rfl rfl ?_
    refine WO.nil ?_
    refine thnN ?_
    refine WP.condL 14 rfl (fun h3 => ?_) (fun h4 => ?_)
    · try simp only [decide_eq_true_eq, decide_eq_false_iff_not, beq_iff_eq, beq_eq_false_iff_ne, bne_iff_ne, bne_eq_false_iff_eq, Bool.not_eq_true', Bool.not_eq_false', Int.not_lt, Int.not_le, ne_eq] at h3
      refine WP.seq ?_
      refine WP.region ?_
      refine WO.assign rfl rfl ?_
      refine WO.assign rfl rfl ?_
      refine WO.nil ?_
      refine thnN ?_
      refine WP.ret ?_
      refine thnR ?_
      refine ⟨_, [], (Res.two rfl rfl), (Imp.nil _), ?_⟩
      refine ⟨?_, rfl⟩
      first | (rw [methodF_none (by first | (left; assumption) | (right; left; omega) | (right; right; exact all_not (k := k) (by omega) (by assumption)))]; rfl) | (rw [List.take_of_length_le (by omega)] at *; rw [methodF_some (by assumption) (by omega) (by assumption)]; rfl)
    · try simp only [decide_eq_true_eq, decide_eq_false_iff_not, beq_iff_eq, beq_eq_false_iff_ne, bne_iff_ne, bne_eq_false_iff_eq, Bool.not_eq_true', Bool.not_eq_false', Int.not_lt, Int.not_le, ne_eq] at h4
      refine WP.skip ?_
      refine thnN ?_
      refine WP.seq ?_
      refine WP.region ?_
      refine WO.alloc zo_70 rfl (fun b0 => ?_)
      refine WO.nil ?_
      refine thnN ?_
      refine WP.seq ?_
      refine WP.seq ?_
      refine WP.region ?_
      refine WO.move rfl rfl ?_
      refine WO.lenS rfl un_9 rfl ?_
      refine WO.move rfl rfl ?_
      refine WO.nil ?_
      refine thnN ?_
      refine WP.block ?_
      refine WP.loop2 (fun (k : Nat) (F : Foot) => [(0, str s), (4, .pointer (some ⟨b0, 0, none⟩)), (16, .int .i64 s.length), (17, .int .i64 k)]) (fun (k : Nat) (F : Foot) => [F]) (fun (k : Nat) (F : Foot) => BldF 70 b0 ((s.take k).map upB) F ∧ k ≤ s.length ∧ (s.take k).all isUp = true) (fun (k : Nat) (F : Foot) => s.length - k) ⟨0, _, ⟨rfl, rfl, rfl, rfl, trivial⟩, rfl, ?_⟩ ?_
      · exact ⟨⟨none, _, [], rfl, .inl rfl, OwnSl.nil _ _, fun _ => ⟨rfl, rfl⟩⟩, Nat.zero_le _, rfl⟩
      · intro k F hI
        obtain ⟨hF, hk, hu⟩ := hI
        refine WP.seq ?_
        refine WP.region ?_
        refine WO.lssI rfl rfl rfl ?_
        refine WO.nil ?_
        refine thnN ?_
        refine WP.seq ?_
        refine WP.condL 18 rfl (fun h5 => ?_) (fun h6 => ?_)
        · try simp only [decide_eq_true_eq, decide_eq_false_iff_not, beq_iff_eq, beq_eq_false_iff_ne, bne_iff_ne, bne_eq_false_iff_eq, Bool.not_eq_true', Bool.not_eq_false', Int.not_lt, Int.not_le, ne_eq] at h5
          refine WP.skip ?_
          refine thnN ?_
          refine WP.seq ?_
          refine WP.block ?_
          refine WP.seq ?_
          refine WP.region ?_
          refine WO.move rfl rfl ?_
          refine WO.assign rfl rfl ?_
          refine WO.nil ?_
          refine thnN ?_
          refine WP.seq ?_
          refine WP.region ?_
          refine WO.move rfl rfl ?_
          refine WO.move rfl rfl ?_
          refine WO.indexS rfl rfl un_9 (by omega) rfl rfl ?_
          refine WO.callP (s_canon_letter _) rfl ca_42 rfl ?_
          refine WO.move rfl rfl ?_
          refine WO.extract rfl rfl rfl ?_
          refine WO.extract rfl rfl rfl ?_
          refine WO.assign rfl rfl ?_
          refine WO.assign rfl rfl ?_
          refine WO.nil ?_
          refine thnN ?_
          refine WP.seq ?_
          refine WP.seq ?_
          refine WP.region ?_
          refine WO.move rfl rfl ?_
          refine WO.not rfl rfl ?_
          refine WO.nil ?_
          refine thnN ?_
          refine WP.condL 28 rfl (fun h7 => ?_) (fun h8 => ?_)
          · try simp only [decide_eq_true_eq, decide_eq_false_iff_not, beq_iff_eq, beq_eq_false_iff_ne, bne_iff_ne, bne_eq_false_iff_eq, Bool.not_eq_true', Bool.not_eq_false', Int.not_lt, Int.not_le, ne_eq] at h7
            refine WP.seq ?_
            refine WP.region ?_
            refine WO.assign rfl rfl ?_
            refine WO.assign rfl rfl ?_
            refine WO.nil ?_
            refine thnN ?_
            refine WP.ret ?_
            refine thnR ?_
            refine blkR ?_
            refine thnR ?_
            refine thnR ?_
            refine blkR ?_
            refine thnR ?_
            refine ⟨_, [], (Res.two rfl rfl), (Imp.nil _), ?_⟩
            refine ⟨?_, rfl⟩
            first | (rw [methodF_none (by first | (left; assumption) | (right; left; omega) | (right; right; exact all_not (k := k) (by omega) (by assumption)))]; rfl) | (rw [List.take_of_length_le (by omega)] at *; rw [methodF_some (by assumption) (by omega) (by assumption)]; rfl)
          · try simp only [decide_eq_true_eq, decide_eq_false_iff_not, beq_iff_eq, beq_eq_false_iff_ne, bne_iff_ne, bne_eq_false_iff_eq, Bool.not_eq_true', Bool.not_eq_false', Int.not_lt, Int.not_le, ne_eq] at h8
            refine WP.skip ?_
            refine thnN ?_
            refine WP.region ?_
            refine WO.move rfl rfl ?_
            refine WO.call (s_WriteByte b0 ((s.take k).map upB) _ F ?_ ?_) rfl ca_43 rfl rfl ?_
            · first | assumption | (simp; omega)
            · first | assumption | (simp; omega)
            rintro _ _ ⟨rfl, F1, rfl, hF1⟩
            refine WO.nil ?_
            refine blkN ?_
            refine thnN ?_
            refine WP.region ?_
            refine WO.add rfl rfl (by first | exact wrap_i64 (by omega) (by omega) | rfl) rfl ?_
            refine WO.move rfl rfl ?_
            refine WO.nil ?_
            refine thnN ?_
            refine ⟨k + 1, F1, ⟨rfl, rfl, rfl, rfl, trivial⟩, rfl, ?_, ?_⟩
            · exact ⟨by rw [← up_snoc (by omega)]; exact hF1, by omega, all_snoc (by omega) hu (by assumption)⟩
            · omega
        · try simp only [decide_eq_true_eq, decide_eq_false_iff_not, beq_iff_eq, beq_eq_false_iff_ne, bne_iff_ne, bne_eq_false_iff_eq, Bool.not_eq_true', Bool.not_eq_false', Int.not_lt, Int.not_le, ne_eq] at h6
          refine WP.exit ?_
          refine thnE ?_
          refine thnE ?_
          refine blkHit ?_
          refine thnN ?_
          refine WP.seq ?_
          refine WP.region ?_
          refine WO.call (s_BString b0 ((s.take k).map upB) F ?_ ?_) rfl ca_44 rfl rfl ?_
          · first | assumption | (simp; omega)
          · first | assumption | (simp; omega)
          rintro _ _ ⟨rfl, rfl⟩
          refine WO.assign rfl rfl ?_
          refine WO.assign rfl rfl ?_
          refine WO.nil ?_
          refine thnN ?_
          refine WP.ret ?_
          refine ⟨_, [], (Res.two rfl rfl), (Imp.nil _), ?_⟩
          refine ⟨?_, rfl⟩
          first | (rw [methodF_none (by first | (left; assumption) | (right; left; omega) | (right; right; exact all_not (k := k) (by omega) (by assumption)))]; rfl) | (rw [List.take_of_length_le (by omega)] at *; rw [methodF_some (by assumption) (by omega) (by assumption)]; rfl)

theorem s_canon_write (s : List UInt8) (hy0 : s.length ≤ 100000) : CallsS P 46 [str s] [] (fun v L => v = str (writeF s) ∧ L = []) := by
  refine CallsS.intro Tryd.func46 rfl rfl rfl rfl ?_
  refine WP.seq ?_
  refine WP.region ?_
  refine WO.assign rfl rfl ?_
  refine WO.nil ?_
  refine thnN ?_
  refine WP.seq ?_
  refine WP.region ?_
  refine WO.alloc zo_70 rfl (fun b0 => ?_)
  refine WO.nil ?_
  refine thnN ?_
  refine WP.seq ?_
  refine WP.seq ?_
  refine WP.region ?_
  refine WO.move rfl rfl ?_
  refine WO.lenS rfl un_9 rfl ?_
  refine WO.move rfl rfl ?_
  refine WO.nil ?_
  refine thnN ?_
  refine WP.block ?_
  refine WP.loop2 (fun (k : Nat) (F : Foot) => [(0, str s), (3, .pointer (some ⟨b0, 0, none⟩)), (6, .int .i64 s.length), (7, .int .i64 k)]) (fun (k : Nat) (F : Foot) => [F]) (fun (k : Nat) (F : Foot) => BldF 70 b0 (writeF (s.take k)) F ∧ k ≤ s.length) (fun (k : Nat) (F : Foot) => s.length - k) ⟨0, _, ⟨rfl, rfl, rfl, rfl, trivial⟩, rfl, ?_⟩ ?_
  · exact ⟨⟨none, _, [], rfl, .inl rfl, OwnSl.nil _ _, fun _ => ⟨rfl, rfl⟩⟩, Nat.zero_le _⟩
  · intro k F hI
    obtain ⟨hF, hk⟩ := hI
    have hl := writeF_len (s.take k)
    have hl2 := List.length_take_le k s
    refine WP.seq ?_
    refine WP.region ?_
    refine WO.lssI rfl rfl rfl ?_
    refine WO.nil ?_
    refine thnN ?_
    refine WP.seq ?_
    refine WP.condL 8 rfl (fun h1 => ?_) (fun h2 => ?_)
    · try simp only [decide_eq_true_eq, decide_eq_false_iff_not, beq_iff_eq, beq_eq_false_iff_ne, bne_iff_ne, bne_eq_false_iff_eq, Bool.not_eq_true', Bool.not_eq_false', Int.not_lt, Int.not_le, ne_eq] at h1
      refine WP.skip ?_
      refine thnN ?_
      refine WP.seq ?_
      refine WP.block ?_
      refine WP.seq ?_
      refine WP.region ?_
      refine WO.move rfl rfl ?_
      refine WO.assign rfl rfl ?_
      refine WO.nil ?_
      refine thnN ?_
      refine WP.seq ?_
      refine WP.seq ?_
      refine WP.region ?_
      refine WO.move rfl rfl ?_
      refine WO.move rfl rfl ?_
      refine WO.indexS rfl rfl un_9 (by omega) rfl rfl ?_
      refine WO.callP (s_canon_plain _) rfl ca_57 rfl ?_
      refine WO.nil ?_
      refine thnN ?_
      refine WP.condL 13 rfl (fun h3 => ?_) (fun h4 => ?_)
      · try simp only [decide_eq_true_eq, decide_eq_false_iff_not, beq_iff_eq, beq_eq_false_iff_ne, bne_iff_ne, bne_eq_false_iff_eq, Bool.not_eq_true', Bool.not_eq_false', Int.not_lt, Int.not_le, ne_eq] at h3
        refine WP.seq ?_
        refine WP.region ?_
        refine WO.move rfl rfl ?_
        refine WO.move rfl rfl ?_
        refine WO.indexS rfl rfl un_9 (by omega) rfl rfl ?_
        refine WO.call (s_WriteByte b0 (writeF (s.take k)) _ F ?_ ?_) rfl ca_43 rfl rfl ?_
        · first | assumption | omega
        · first | assumption | omega
        rintro _ _ ⟨rfl, F1, rfl, hF1⟩
        refine WO.nil ?_
        refine thnN ?_
        refine WP.exit ?_
        refine thnE ?_
        refine blkHit ?_
        refine thnN ?_
        refine WP.region ?_
        refine WO.add rfl rfl (by first | exact wrap_i64 (by omega) (by omega) | rfl) rfl ?_
        refine WO.move rfl rfl ?_
        refine WO.nil ?_
        refine thnN ?_
        refine ⟨k + 1, F1, ⟨rfl, rfl, rfl, rfl, trivial⟩, rfl, ?_, ?_⟩
        · exact ⟨by rw [write_snoc (by omega), if_pos (by assumption)]; exact hF1, by omega⟩
        · omega
      · try simp only [decide_eq_true_eq, decide_eq_false_iff_not, beq_iff_eq, beq_eq_false_iff_ne, bne_iff_ne, bne_eq_false_iff_eq, Bool.not_eq_true', Bool.not_eq_false', Int.not_lt, Int.not_le, ne_eq] at h4
        refine WP.skip ?_
        refine thnN ?_
        refine WP.seq ?_
        refine WP.region ?_
        refine WO.call (s_WriteByte b0 (writeF (s.take k)) 37 F ?_ ?_) rfl ca_43 rfl rfl ?_
        · first | assumption | omega
        · first | assumption | omega
        rintro _ _ ⟨rfl, F2, rfl, hF2⟩
        refine WO.nil ?_
        refine thnN ?_
        refine WP.seq ?_
        refine WP.region ?_
        refine WO.move rfl rfl ?_
        refine WO.move rfl rfl ?_
        refine WO.indexS rfl rfl un_9 (by omega) rfl rfl ?_
        refine WO.shr rfl rfl (by omega) (by first | rfl) rfl ?_
        refine WO.indexS (c := ((hexB ((s.getD ((k : Int).toNat) 0).toNat / 16)).toNat : Int)) (a := great) rfl rfl un_9 ⟨(hex_hi _).2.1, (hex_hi _).2.2⟩ (by unfold bt; rw [(hex_hi _).1]) rfl ?_
        refine WO.call (s_WriteByte b0 (writeF (s.take k) ++ [37]) (hexB ((s.getD ((k : Int).toNat) 0).toNat / 16)) F2 ?_ ?_) rfl ca_43 rfl rfl ?_
        · first | assumption | (simp only [List.length_append, List.length_cons, List.length_nil]; omega)
        · first | assumption | (simp only [List.length_append, List.length_cons, List.length_nil]; omega)
        rintro _ _ ⟨rfl, F3, rfl, hF3⟩
        refine WO.nil ?_
        refine thnN ?_
        refine WP.region ?_
        refine WO.move rfl rfl ?_
        refine WO.move rfl rfl ?_
        refine WO.indexS rfl rfl un_9 (by omega) rfl rfl ?_
        refine WO.and rfl rfl (by first | rfl) rfl ?_
        refine WO.indexS (c := ((hexB ((s.getD ((k : Int).toNat) 0).toNat % 16)).toNat : Int)) (a := great) rfl rfl un_9 ⟨(hex_lo _).2.1, (hex_lo _).2.2⟩ (by unfold bt; rw [(hex_lo _).1]) rfl ?_
        refine WO.call (s_WriteByte b0 (writeF (s.take k) ++ [37] ++ [hexB ((s.getD ((k : Int).toNat) 0).toNat / 16)]) (hexB ((s.getD ((k : Int).toNat) 0).toNat % 16)) F3 ?_ ?_) rfl ca_43 rfl rfl ?_
        · first | assumption | (simp only [List.length_append, List.length_cons, List.length_nil]; omega)
        · first | assumption | (simp only [List.length_append, List.length_cons, List.length_nil]; omega)
        rintro _ _ ⟨rfl, F4, rfl, hF4⟩
        refine WO.nil ?_
        refine blkN ?_
        refine thnN ?_
        refine WP.region ?_
        refine WO.add rfl rfl (by first | exact wrap_i64 (by omega) (by omega) | rfl) rfl ?_
        refine WO.move rfl rfl ?_
        refine WO.nil ?_
        refine thnN ?_
        refine ⟨k + 1, F4, ⟨rfl, rfl, rfl, rfl, trivial⟩, rfl, ?_, ?_⟩
        · exact ⟨by rw [write_snoc (by omega), if_neg (by simp_all)]; simpa using hF4, by omega⟩
        · omega
    · try simp only [decide_eq_true_eq, decide_eq_false_iff_not, beq_iff_eq, beq_eq_false_iff_ne, bne_iff_ne, bne_eq_false_iff_eq, Bool.not_eq_true', Bool.not_eq_false', Int.not_lt, Int.not_le, ne_eq] at h2
      refine WP.exit ?_
      refine thnE ?_
      refine thnE ?_
      refine blkHit ?_
      refine thnN ?_
      refine WP.seq ?_
      refine WP.region ?_
      refine WO.call (s_BString b0 (writeF (s.take k)) F ?_ ?_) rfl ca_44 rfl rfl ?_
      · first | assumption | omega
      · first | assumption | omega
      rintro _ _ ⟨rfl, rfl⟩
      refine WO.assign rfl rfl ?_
      refine WO.nil ?_
      refine thnN ?_
      refine WP.ret ?_
      refine ⟨_, [], (Res.one rfl), (Imp.nil _), ?_⟩
      refine ⟨congrArg str ?_, rfl⟩
      rw [List.take_of_length_le (by omega)]

theorem s_canon_read (s : List UInt8) (hy0 : s.length ≤ 100000) : CallsS P 56 [str s] [] (fun v L => v = .tuple #[str ((readB s).getD []), .bool (okR (readB s))] ∧ L = []) := by
  have hdr1 := digitF_range
  refine CallsS.intro Tryd.func56 rfl rfl rfl rfl ?_
  refine WP.seq ?_
  refine WP.region ?_
  refine WO.assign rfl rfl ?_
  refine WO.assign rfl rfl ?_
  refine WO.nil ?_
  refine thnN ?_
  refine WP.seq ?_
  refine WP.region ?_
  refine WO.alloc zo_70 rfl (fun b0 => ?_)
  refine WO.nil ?_
  refine thnN ?_
  refine WP.seq ?_
  refine WP.seq ?_
  refine WP.region ?_
  refine WO.assign rfl rfl ?_
  refine WO.nil ?_
  refine thnN ?_
  refine WP.block ?_
  refine WP.loop3 (fun (k : Nat) (o : List UInt8) (F : Foot) => [(0, str s), (4, .pointer (some ⟨b0, 0, none⟩)), (5, .int .i64 k)]) (fun (k : Nat) (o : List UInt8) (F : Foot) => [F]) (fun (k : Nat) (o : List UInt8) (F : Foot) => BldF 70 b0 (o) F ∧ o.length ≤ k ∧ o.length ≤ s.length ∧ readB s = (readB (s.drop k)).map (o ++ ·)) (fun (k : Nat) (o : List UInt8) (F : Foot) => s.length - k) ⟨0, [], _, ⟨rfl, rfl, rfl, trivial⟩, rfl, ?_⟩ ?_
  · exact ⟨⟨none, _, [], rfl, .inl rfl, OwnSl.nil _ _, fun _ => ⟨rfl, rfl⟩⟩, Nat.zero_le _, Nat.zero_le _, by simp⟩
  · intro k o F hI
    obtain ⟨hF, ho, ho2, hr⟩ := hI
    have hd1 := digitF_range (s.getD (k + 1) 0)
    have hd2 := digitF_range (s.getD (k + 2) 0)
    refine WP.seq ?_
    refine WP.seq ?_
    refine WP.region ?_
    refine WO.move rfl rfl ?_
    refine WO.move rfl rfl ?_
    refine WO.lenS rfl un_9 rfl ?_
    refine WO.lssI rfl rfl rfl ?_
    refine WO.nil ?_
    refine thnN ?_
    refine WP.condL 10 rfl (fun h1 => ?_) (fun h2 => ?_)
    · try simp only [decide_eq_true_eq, decide_eq_false_iff_not, beq_iff_eq, beq_eq_false_iff_ne, bne_iff_ne, bne_eq_false_iff_eq, Bool.not_eq_true', Bool.not_eq_false', Int.not_lt, Int.not_le, ne_eq] at h1
      refine WP.skip ?_
      refine thnN ?_
      refine WP.seq ?_
      refine WP.block ?_
      refine WP.seq ?_
      refine WP.seq ?_
      refine WP.region ?_
      refine WO.move rfl rfl ?_
      refine WO.move rfl rfl ?_
      refine WO.indexS rfl rfl un_9 (by omega) rfl rfl ?_
      refine WO.neqI rfl rfl rfl ?_
      refine WO.nil ?_
      refine thnN ?_
      refine WP.condL 16 rfl (fun h3 => ?_) (fun h4 => ?_)
      · try simp only [decide_eq_true_eq, decide_eq_false_iff_not, beq_iff_eq, beq_eq_false_iff_ne, bne_iff_ne, bne_eq_false_iff_eq, Bool.not_eq_true', Bool.not_eq_false', Int.not_lt, Int.not_le, ne_eq] at h3
        refine WP.seq ?_
        refine WP.region ?_
        refine WO.move rfl rfl ?_
        refine WO.move rfl rfl ?_
        refine WO.indexS rfl rfl un_9 (by omega) rfl rfl ?_
        refine WO.call (s_WriteByte b0 o _ F ?_ ?_) rfl ca_43 rfl rfl ?_
        · first | assumption | omega
        · first | assumption | omega
        rintro _ _ ⟨rfl, F1, rfl, hF1⟩
        refine WO.nil ?_
        refine thnN ?_
        refine WP.exit ?_
        refine thnE ?_
        refine blkHit ?_
        refine thnN ?_
        refine WP.region ?_
        refine WO.move rfl rfl ?_
        refine WO.add rfl rfl (by first | exact wrap_i64 (by omega) (by omega) | rfl) rfl ?_
        refine WO.assign rfl rfl ?_
        refine WO.nil ?_
        refine thnN ?_
        refine ⟨k + 1, o ++ [s.getD ((k : Int).toNat) 0], F1, ⟨rfl, rfl, rfl, trivial⟩, rfl, ?_, ?_⟩
        · exact ⟨hF1, by simp; omega, by simp; omega, read_step (by omega) hr (by intro hh; simp_all [bt])⟩
        · omega
      · try simp only [decide_eq_true_eq, decide_eq_false_iff_not, beq_iff_eq, beq_eq_false_iff_ne, bne_iff_ne, bne_eq_false_iff_eq, Bool.not_eq_true', Bool.not_eq_false', Int.not_lt, Int.not_le, ne_eq] at h4
        refine WP.skip ?_
        refine thnN ?_
        refine WP.seq ?_
        refine WP.seq ?_
        refine WP.region ?_
        refine WO.move rfl rfl ?_
        refine WO.add rfl rfl (by first | exact wrap_i64 (by omega) (by omega) | rfl) rfl ?_
        refine WO.move rfl rfl ?_
        refine WO.lenS rfl un_9 rfl ?_
        refine WO.geqI rfl rfl rfl ?_
        refine WO.move rfl rfl ?_
        refine WO.split 26 rfl (fun h5 => ?_) (fun h6 => ?_)
        · try simp only [decide_eq_true_eq, decide_eq_false_iff_not, beq_iff_eq, beq_eq_false_iff_ne, bne_iff_ne, bne_eq_false_iff_eq, Bool.not_eq_true', Bool.not_eq_false', Int.not_lt, Int.not_le, ne_eq] at h5
          refine WO.pass 26 rfl rfl rfl rfl ?_
          refine WO.pass 26 rfl rfl rfl rfl ?_
          refine WO.pass 26 rfl rfl rfl rfl ?_
          refine WO.pass 26 rfl rfl rfl rfl ?_
          refine WO.pass 26 rfl rfl rfl rfl ?_
          refine WO.pass 26 rfl rfl rfl rfl ?_
          refine WO.pickT rfl rfl rfl ?_
          refine WO.move rfl rfl ?_
          refine WO.pass 34 rfl rfl rfl rfl ?_
          refine WO.pass 34 rfl rfl rfl rfl ?_
          refine WO.pass 34 rfl rfl rfl rfl ?_
          refine WO.pass 34 rfl rfl rfl rfl ?_
          refine WO.pass 34 rfl rfl rfl rfl ?_
          refine WO.pass 34 rfl rfl rfl rfl ?_
          refine WO.pickT rfl rfl rfl ?_
          refine WO.nil ?_
          refine thnN ?_
          refine WP.condT rfl ?_
          refine WP.seq ?_
          refine WP.region ?_
          refine WO.assign rfl rfl ?_
          refine WO.assign rfl rfl ?_
          refine WO.nil ?_
          refine thnN ?_
          refine WP.ret ?_
          refine thnR ?_
          refine blkR ?_
          refine thnR ?_
          refine thnR ?_
          refine blkR ?_
          refine thnR ?_
          refine ⟨_, [], (Res.two rfl rfl), (Imp.nil _), ?_⟩
          refine ⟨?_, rfl⟩
          first | (rw [read_bad (by omega) hr (by simp_all [bt, ← UInt8.toNat_inj]; omega) (by omega)]; rfl) | (rw [read_end (by omega) hr]; simp_all [okR, okP]; done)
        · try simp only [decide_eq_true_eq, decide_eq_false_iff_not, beq_iff_eq, beq_eq_false_iff_ne, bne_iff_ne, bne_eq_false_iff_eq, Bool.not_eq_true', Bool.not_eq_false', Int.not_lt, Int.not_le, ne_eq] at h6
          refine WO.want 26 rfl rfl ?_
          refine WO.move rfl rfl ?_
          refine WO.want 26 rfl rfl ?_
          refine WO.move rfl rfl ?_
          refine WO.want 26 rfl rfl ?_
          refine WO.add rfl rfl (by first | exact wrap_i64 (by omega) (by omega) | rfl) rfl ?_
          refine WO.want 26 rfl rfl ?_
          refine WO.indexS (c := ((s.getD (k + 1) 0).toNat : Int)) rfl rfl un_9 (by omega) (by unfold bt; rw [show ((k : Int) + 1).toNat = k + 1 by omega]) rfl ?_
          refine WO.want 26 rfl rfl ?_
          refine WO.callP (s_canon_digit _) rfl ca_67 rfl ?_
          refine WO.want 26 rfl rfl ?_
          refine WO.lssI rfl rfl rfl ?_
          refine WO.pickF rfl rfl rfl ?_
          refine WO.move rfl rfl ?_
          refine WO.split 34 rfl (fun h7 => ?_) (fun h8 => ?_)
          · try simp only [decide_eq_true_eq, decide_eq_false_iff_not, beq_iff_eq, beq_eq_false_iff_ne, bne_iff_ne, bne_eq_false_iff_eq, Bool.not_eq_true', Bool.not_eq_false', Int.not_lt, Int.not_le, ne_eq] at h7
            refine WO.pass 34 rfl rfl rfl rfl ?_
            refine WO.pass 34 rfl rfl rfl rfl ?_
            refine WO.pass 34 rfl rfl rfl rfl ?_
            refine WO.pass 34 rfl rfl rfl rfl ?_
            refine WO.pass 34 rfl rfl rfl rfl ?_
            refine WO.pass 34 rfl rfl rfl rfl ?_
            refine WO.pickT rfl rfl rfl ?_
            refine WO.nil ?_
            refine thnN ?_
            refine WP.condT rfl ?_
            refine WP.seq ?_
            refine WP.region ?_
            refine WO.assign rfl rfl ?_
            refine WO.assign rfl rfl ?_
            refine WO.nil ?_
            refine thnN ?_
            refine WP.ret ?_
            refine thnR ?_
            refine blkR ?_
            refine thnR ?_
            refine thnR ?_
            refine blkR ?_
            refine thnR ?_
            refine ⟨_, [], (Res.two rfl rfl), (Imp.nil _), ?_⟩
            refine ⟨?_, rfl⟩
            first | (rw [read_bad (by omega) hr (by simp_all [bt, ← UInt8.toNat_inj]; omega) (by omega)]; rfl) | (rw [read_end (by omega) hr]; simp_all [okR, okP]; done)
          · try simp only [decide_eq_true_eq, decide_eq_false_iff_not, beq_iff_eq, beq_eq_false_iff_ne, bne_iff_ne, bne_eq_false_iff_eq, Bool.not_eq_true', Bool.not_eq_false', Int.not_lt, Int.not_le, ne_eq] at h8
            refine WO.want 34 rfl rfl ?_
            refine WO.move rfl rfl ?_
            refine WO.want 34 rfl rfl ?_
            refine WO.move rfl rfl ?_
            refine WO.want 34 rfl rfl ?_
            refine WO.add rfl rfl (by first | exact wrap_i64 (by omega) (by omega) | rfl) rfl ?_
            refine WO.want 34 rfl rfl ?_
            refine WO.indexS (c := ((s.getD (k + 2) 0).toNat : Int)) rfl rfl un_9 (by omega) (by unfold bt; rw [show ((k : Int) + 2).toNat = k + 2 by omega]) rfl ?_
            refine WO.want 34 rfl rfl ?_
            refine WO.callP (s_canon_digit _) rfl ca_67 rfl ?_
            refine WO.want 34 rfl rfl ?_
            refine WO.lssI rfl rfl rfl ?_
            refine WO.pickF rfl rfl rfl ?_
            refine WO.nil ?_
            refine thnN ?_
            refine WP.condL 41 rfl (fun h9 => ?_) (fun h10 => ?_)
            · try simp only [decide_eq_true_eq, decide_eq_false_iff_not, beq_iff_eq, beq_eq_false_iff_ne, bne_iff_ne, bne_eq_false_iff_eq, Bool.not_eq_true', Bool.not_eq_false', Int.not_lt, Int.not_le, ne_eq] at h9
              refine WP.seq ?_
              refine WP.region ?_
              refine WO.assign rfl rfl ?_
              refine WO.assign rfl rfl ?_
              refine WO.nil ?_
              refine thnN ?_
              refine WP.ret ?_
              refine thnR ?_
              refine blkR ?_
              refine thnR ?_
              refine thnR ?_
              refine blkR ?_
              refine thnR ?_
              refine ⟨_, [], (Res.two rfl rfl), (Imp.nil _), ?_⟩
              refine ⟨?_, rfl⟩
              first | (rw [read_bad (by omega) hr (by simp_all [bt, ← UInt8.toNat_inj]; omega) (by omega)]; rfl) | (rw [read_end (by omega) hr]; simp_all [okR, okP]; done)
            · try simp only [decide_eq_true_eq, decide_eq_false_iff_not, beq_iff_eq, beq_eq_false_iff_ne, bne_iff_ne, bne_eq_false_iff_eq, Bool.not_eq_true', Bool.not_eq_false', Int.not_lt, Int.not_le, ne_eq] at h10
              refine WP.skip ?_
              refine thnN ?_
              refine WP.seq ?_
              refine WP.regionD [] [0, 0, 0, 0, 0, 0, 0, 0, 0, 0, 0, 0, 0, 2] [(0, 0, [3, 4, 5, 10, 11, 12, 13]), (1, 0, [2, 3, 4, 5, 10, 11, 12, 13]), (2, 0, [3, 4, 5, 10, 11, 12, 13]), (3, 0, [4, 5, 10, 11, 12, 13]), (4, 0, [5, 10, 11, 12, 13]), (5, 0, [11, 12, 13]), (6, 0, [9, 10, 11, 12, 13]), (7, 0, [8, 9, 10, 11, 12, 13]), (8, 0, [9, 10, 11, 12, 13]), (9, 0, [10, 11, 12, 13]), (10, 0, [11, 12, 13]), (11, 0, [12, 13]), (12, 0, [13]), (13, 3, [])] mx_ (by kernel_rfl) (by simp) ?_
              apply WL.pure
              · rfl
              · rfl
              · skip
                refine WO.move rfl rfl ?_
                exact WO.nil ⟨rfl, rfl⟩
              apply WL.pure
              · rfl
              · rfl
              · skip
                refine WO.move rfl rfl ?_
                exact WO.nil ⟨rfl, rfl⟩
              apply WL.pure
              · rfl
              · rfl
              · skip
                refine WO.add rfl rfl (by first | exact wrap_i64 (by omega) (by omega) | rfl) rfl ?_
                exact WO.nil ⟨rfl, rfl⟩
              apply WL.pure
              · rfl
              · rfl
              · skip
                refine WO.indexS (c := ((s.getD (k + 1) 0).toNat : Int)) rfl rfl un_9 (by omega) (by unfold bt; rw [show ((k : Int) + 1).toNat = k + 1 by omega]) rfl ?_
                exact WO.nil ⟨rfl, rfl⟩
              apply WL.pure
              · rfl
              · rfl
              · skip
                refine WO.callP (s_canon_digit _) rfl ca_67 rfl ?_
                exact WO.nil ⟨rfl, rfl⟩
              apply WL.pure
              · rfl
              · rfl
              · skip
                refine WO.shl rfl rfl (by omega) (by first | rfl) rfl ?_
                exact WO.nil ⟨rfl, rfl⟩
              apply WL.pure
              · rfl
              · rfl
              · skip
                refine WO.move rfl rfl ?_
                exact WO.nil ⟨rfl, rfl⟩
              apply WL.pure
              · rfl
              · rfl
              · skip
                refine WO.move rfl rfl ?_
                exact WO.nil ⟨rfl, rfl⟩
              apply WL.pure
              · rfl
              · rfl
              · skip
                refine WO.add rfl rfl (by first | exact wrap_i64 (by omega) (by omega) | rfl) rfl ?_
                exact WO.nil ⟨rfl, rfl⟩
              apply WL.pure
              · rfl
              · rfl
              · skip
                refine WO.indexS (c := ((s.getD (k + 2) 0).toNat : Int)) rfl rfl un_9 (by omega) (by unfold bt; rw [show ((k : Int) + 2).toNat = k + 2 by omega]) rfl ?_
                exact WO.nil ⟨rfl, rfl⟩
              apply WL.pure
              · rfl
              · rfl
              · skip
                refine WO.callP (s_canon_digit _) rfl ca_67 rfl ?_
                exact WO.nil ⟨rfl, rfl⟩
              apply WL.pure
              · rfl
              · rfl
              · skip
                refine WO.or rfl rfl (by first | rfl) rfl ?_
                exact WO.nil ⟨rfl, rfl⟩
              apply WL.pure
              · rfl
              · rfl
              · skip
                refine WO.conv rfl un_5 un_3 (shl_or (by omega) (by omega)) rfl ?_
                exact WO.nil ⟨rfl, rfl⟩
              refine WL.eff rfl rfl ?_
              refine WO.call (s_WriteByte b0 o (UInt8.ofNat (digitF (s.getD (k + 1) 0) * 16 + digitF (s.getD (k + 2) 0)).toNat) F ?_ ?_) rfl ca_43 rfl rfl ?_
              · first | assumption | omega
              · first | assumption | omega
              rintro _ _ ⟨rfl, F2, rfl, hF2⟩
              refine WO.nil (capN ?_)
              refine WL.nil ?_
              refine thnN ?_
              refine WP.region ?_
              refine WO.move rfl rfl ?_
              refine WO.add rfl rfl (by first | exact wrap_i64 (by omega) (by omega) | rfl) rfl ?_
              refine WO.assign rfl rfl ?_
              refine WO.nil ?_
              refine blkN ?_
              refine thnN ?_
              refine WP.region ?_
              refine WO.move rfl rfl ?_
              refine WO.add rfl rfl (by first | exact wrap_i64 (by omega) (by omega) | rfl) rfl ?_
              refine WO.assign rfl rfl ?_
              refine WO.nil ?_
              refine thnN ?_
              refine ⟨k + 3, o ++ [UInt8.ofNat (digitF (s.getD (k + 1) 0) * 16 + digitF (s.getD (k + 2) 0)).toNat], F2, ⟨rfl, rfl, rfl, trivial⟩, rfl, ?_, ?_⟩
              · exact ⟨hF2, by simp; omega, by simp; omega, read_pct (by omega) hr (by simp_all [bt, ← UInt8.toNat_inj]; omega) (by omega) (by omega)⟩
              · omega
    · try simp only [decide_eq_true_eq, decide_eq_false_iff_not, beq_iff_eq, beq_eq_false_iff_ne, bne_iff_ne, bne_eq_false_iff_eq, Bool.not_eq_true', Bool.not_eq_false', Int.not_lt, Int.not_le, ne_eq] at h2
      refine WP.exit ?_
      refine thnE ?_
      refine thnE ?_
      refine blkHit ?_
      refine thnN ?_
      refine WP.seq ?_
      refine WP.region ?_
      refine WO.call (s_BString b0 o F ?_ ?_) rfl ca_44 rfl rfl ?_
      · first | assumption | omega
      · first | assumption | omega
      rintro _ _ ⟨rfl, rfl⟩
      refine WO.assign rfl rfl ?_
      refine WO.nil ?_
      refine thnN ?_
      refine WP.seq ?_
      refine WP.region ?_
      refine WO.move rfl rfl ?_
      refine WO.move rfl rfl ?_
      refine WO.eqlS rfl rfl rfl ?_
      refine WO.move rfl rfl ?_
      refine WO.split 62 rfl (fun h11 => ?_) (fun h12 => ?_)
      · try simp only [decide_eq_true_eq, decide_eq_false_iff_not, beq_iff_eq, beq_eq_false_iff_ne, bne_iff_ne, bne_eq_false_iff_eq, Bool.not_eq_true', Bool.not_eq_false', Int.not_lt, Int.not_le, ne_eq] at h11
        refine WO.pass 62 rfl rfl rfl rfl ?_
        refine WO.pass 62 rfl rfl rfl rfl ?_
        refine WO.pickT rfl rfl rfl ?_
        refine WO.assign rfl rfl ?_
        refine WO.assign rfl rfl ?_
        refine WO.nil ?_
        refine thnN ?_
        refine WP.ret ?_
        refine ⟨_, [], (Res.two rfl rfl), (Imp.nil _), ?_⟩
        refine ⟨?_, rfl⟩
        first | (rw [read_bad (by omega) hr (by simp_all [bt, ← UInt8.toNat_inj]; omega) (by omega)]; rfl) | (rw [read_end (by omega) hr]; simp_all [okR, okP]; done)
      · try simp only [decide_eq_true_eq, decide_eq_false_iff_not, beq_iff_eq, beq_eq_false_iff_ne, bne_iff_ne, bne_eq_false_iff_eq, Bool.not_eq_true', Bool.not_eq_false', Int.not_lt, Int.not_le, ne_eq] at h12
        refine WO.want 62 rfl rfl ?_
        refine WO.move rfl rfl ?_
        refine WO.want 62 rfl rfl ?_
        refine WO.callP (s_sign_Right _ _) rfl ca_68 rfl ?_
        refine WO.pickF rfl rfl rfl ?_
        refine WO.assign rfl rfl ?_
        refine WO.assign rfl rfl ?_
        refine WO.nil ?_
        refine thnN ?_
        refine WP.ret ?_
        refine ⟨_, [], (Res.two rfl rfl), (Imp.nil _), ?_⟩
        refine ⟨?_, rfl⟩
        first | (rw [read_bad (by omega) hr (by simp_all [bt, ← UInt8.toNat_inj]; omega) (by omega)]; rfl) | (rw [read_end (by omega) hr]; simp_all [okR, okP]; done)

end Go.Proofs.YtpaipfceibcbkaaDoor
