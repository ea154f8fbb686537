/- Walks: what functions of the program answer, over the logic of footprints. Written by wip/tools/gen.py out of a spec of this session's. -/
import Derived.Test.YtpaipfceibcbkaaDoorW0
import Derived.Test.YtpaipfceibcbkaaDoorW5p
import Derived.Test.YtpaipfceibcbkaaDoorW3b
set_option linter.unusedVariables false
set_option linter.unusedSimpArgs false
set_option maxRecDepth 100000
namespace Go.Proofs.YtpaipfceibcbkaaDoor
open Go.SL Go.Proofs.YtpaipfceibcbkaaDoor
open Go.Law21 Go.Law05

theorem s_entry_named (e : Ent) : CallsS P 37 [entV e] [] (fun v L => v = .bool (namedF e) ∧ L = []) := by
  refine CallsS.intro Tryd.func37 rfl rfl rfl rfl ?_
  refine WP.seq ?_
  refine WP.region ?_
  refine WO.box rfl rfl rfl (fun b0 => ?_)
  refine WO.assign rfl rfl ?_
  refine WO.nil ?_
  refine thnN ?_
  refine WP.seq ?_
  refine WP.region ?_
  refine WO.fieldAddr rfl fo_23_0 rfl ?_
  refine WO.load rfl sc_3 (by first | exact in0 | exact in1 | exact in2 | exact in3 | exact in4 | exact in5 | exact in6) rfl rfl ?_
  refine WO.geqI rfl rfl rfl ?_
  refine WO.move rfl rfl ?_
  refine WO.split 6 rfl (fun h1 => ?_) (fun h2 => ?_)
  · try simp only [decide_eq_true_eq, decide_eq_false_iff_not, beq_iff_eq, beq_eq_false_iff_ne, bne_iff_ne, bne_eq_false_iff_eq, Bool.not_eq_true', Bool.not_eq_false', Int.not_lt, Int.not_le, ne_eq] at h1
    refine WO.want 6 rfl rfl ?_
    refine WO.fieldAddr rfl fo_23_0 rfl ?_
    refine WO.want 6 rfl rfl ?_
    refine WO.load rfl sc_3 (by first | exact in0 | exact in1 | exact in2 | exact in3 | exact in4 | exact in5 | exact in6) rfl rfl ?_
    refine WO.want 6 rfl rfl ?_
    refine WO.lssI rfl rfl rfl ?_
    refine WO.pickT rfl rfl rfl ?_
    refine WO.move rfl rfl ?_
    refine WO.split 11 rfl (fun h3 => ?_) (fun h4 => ?_)
    · try simp only [decide_eq_true_eq, decide_eq_false_iff_not, beq_iff_eq, beq_eq_false_iff_ne, bne_iff_ne, bne_eq_false_iff_eq, Bool.not_eq_true', Bool.not_eq_false', Int.not_lt, Int.not_le, ne_eq] at h3
      refine WO.want 11 rfl rfl ?_
      refine WO.fieldAddr rfl fo_23_1 rfl ?_
      refine WO.want 11 rfl rfl ?_
      refine WO.load rfl sc_9 (by first | exact in0 | exact in1 | exact in2 | exact in3 | exact in4 | exact in5 | exact in6) rfl rfl ?_
      refine WO.want 11 rfl rfl ?_
      refine WO.callP (s_canon_Key e.key) rfl ca_32 rfl ?_
      refine WO.pickT rfl rfl rfl ?_
      refine WO.assign rfl rfl ?_
      refine WO.nil ?_
      refine thnN ?_
      refine WP.ret ?_
      refine ⟨_, [], (Res.one rfl), (Imp.nil _), ?_⟩
      refine ⟨congrArg Value.bool ?_, rfl⟩
      first | (simp_all [namedF]; done) | (simp_all [namedF]; omega)
    · try simp only [decide_eq_true_eq, decide_eq_false_iff_not, beq_iff_eq, beq_eq_false_iff_ne, bne_iff_ne, bne_eq_false_iff_eq, Bool.not_eq_true', Bool.not_eq_false', Int.not_lt, Int.not_le, ne_eq] at h4
      refine WO.pass 11 rfl rfl rfl rfl ?_
      refine WO.pass 11 rfl rfl rfl rfl ?_
      refine WO.pass 11 rfl rfl rfl rfl ?_
      refine WO.pickF rfl rfl rfl ?_
      refine WO.assign rfl rfl ?_
      refine WO.nil ?_
      refine thnN ?_
      refine WP.ret ?_
      refine ⟨_, [], (Res.one rfl), (Imp.nil _), ?_⟩
      refine ⟨congrArg Value.bool ?_, rfl⟩
      first | (simp_all [namedF]; done) | (simp_all [namedF]; omega)
  · try simp only [decide_eq_true_eq, decide_eq_false_iff_not, beq_iff_eq, beq_eq_false_iff_ne, bne_iff_ne, bne_eq_false_iff_eq, Bool.not_eq_true', Bool.not_eq_false', Int.not_lt, Int.not_le, ne_eq] at h2
    refine WO.pass 6 rfl rfl rfl rfl ?_
    refine WO.pass 6 rfl rfl rfl rfl ?_
    refine WO.pass 6 rfl rfl rfl rfl ?_
    refine WO.pickF rfl rfl rfl ?_
    refine WO.move rfl rfl ?_
    refine WO.pass 11 rfl rfl rfl rfl ?_
    refine WO.pass 11 rfl rfl rfl rfl ?_
    refine WO.pass 11 rfl rfl rfl rfl ?_
    refine WO.pickF rfl rfl rfl ?_
    refine WO.assign rfl rfl ?_
    refine WO.nil ?_
    refine thnN ?_
    refine WP.ret ?_
    refine ⟨_, [], (Res.one rfl), (Imp.nil _), ?_⟩
    refine ⟨congrArg Value.bool ?_, rfl⟩
    first | (simp_all [namedF]; done) | (simp_all [namedF]; omega)

theorem s_entry_number (n : Int) : CallsS P 38 [.int .i64 (n)] [] (fun v L => v = .bool (decide (1 ≤ n) && decide (n ≤ 1073741824)) ∧ L = []) := by
  refine CallsS.intro Tryd.func38 rfl rfl rfl rfl ?_
  refine WP.seq ?_
  refine WP.region ?_
  refine WO.assign rfl rfl ?_
  refine WO.nil ?_
  refine thnN ?_
  refine WP.seq ?_
  refine WP.region ?_
  refine WO.move rfl rfl ?_
  refine WO.geqI rfl rfl rfl ?_
  refine WO.move rfl rfl ?_
  refine WO.split 5 rfl (fun h1 => ?_) (fun h2 => ?_)
  · try simp only [decide_eq_true_eq, decide_eq_false_iff_not, beq_iff_eq, beq_eq_false_iff_ne, bne_iff_ne, bne_eq_false_iff_eq, Bool.not_eq_true', Bool.not_eq_false', Int.not_lt, Int.not_le, ne_eq] at h1
    refine WO.want 5 rfl rfl ?_
    refine WO.move rfl rfl ?_
    refine WO.want 5 rfl rfl ?_
    refine WO.leqI rfl rfl rfl ?_
    refine WO.pickT rfl rfl rfl ?_
    refine WO.assign rfl rfl ?_
    refine WO.nil ?_
    refine thnN ?_
    refine WP.ret ?_
    refine ⟨_, [], (Res.one rfl), (Imp.nil _), ?_⟩
    refine ⟨congrArg Value.bool ?_, rfl⟩
    first | (simp_all []; done) | (simp_all []; omega)
  · try simp only [decide_eq_true_eq, decide_eq_false_iff_not, beq_iff_eq, beq_eq_false_iff_ne, bne_iff_ne, bne_eq_false_iff_eq, Bool.not_eq_true', Bool.not_eq_false', Int.not_lt, Int.not_le, ne_eq] at h2
    refine WO.pass 5 rfl rfl rfl rfl ?_
    refine WO.pass 5 rfl rfl rfl rfl ?_
    refine WO.pickF rfl rfl rfl ?_
    refine WO.assign rfl rfl ?_
    refine WO.nil ?_
    refine thnN ?_
    refine WP.ret ?_
    refine ⟨_, [], (Res.one rfl), (Imp.nil _), ?_⟩
    refine ⟨congrArg Value.bool ?_, rfl⟩
    first | (simp_all []; done) | (simp_all []; omega)

theorem s_entry_time (n : Int) : CallsS P 39 [.int .i64 (n)] [] (fun v L => v = .bool (decide (0 ≤ n) && decide (n ≤ 1099511627776)) ∧ L = []) := by
  refine CallsS.intro Tryd.func39 rfl rfl rfl rfl ?_
  refine WP.seq ?_
  refine WP.region ?_
  refine WO.assign rfl rfl ?_
  refine WO.nil ?_
  refine thnN ?_
  refine WP.seq ?_
  refine WP.region ?_
  refine WO.move rfl rfl ?_
  refine WO.geqI rfl rfl rfl ?_
  refine WO.move rfl rfl ?_
  refine WO.split 5 rfl (fun h1 => ?_) (fun h2 => ?_)
  · try simp only [decide_eq_true_eq, decide_eq_false_iff_not, beq_iff_eq, beq_eq_false_iff_ne, bne_iff_ne, bne_eq_false_iff_eq, Bool.not_eq_true', Bool.not_eq_false', Int.not_lt, Int.not_le, ne_eq] at h1
    refine WO.want 5 rfl rfl ?_
    refine WO.move rfl rfl ?_
    refine WO.want 5 rfl rfl ?_
    refine WO.leqI rfl rfl rfl ?_
    refine WO.pickT rfl rfl rfl ?_
    refine WO.assign rfl rfl ?_
    refine WO.nil ?_
    refine thnN ?_
    refine WP.ret ?_
    refine ⟨_, [], (Res.one rfl), (Imp.nil _), ?_⟩
    refine ⟨congrArg Value.bool ?_, rfl⟩
    first | (simp_all []; done) | (simp_all []; omega)
  · try simp only [decide_eq_true_eq, decide_eq_false_iff_not, beq_iff_eq, beq_eq_false_iff_ne, bne_iff_ne, bne_eq_false_iff_eq, Bool.not_eq_true', Bool.not_eq_false', Int.not_lt, Int.not_le, ne_eq] at h2
    refine WO.pass 5 rfl rfl rfl rfl ?_
    refine WO.pass 5 rfl rfl rfl rfl ?_
    refine WO.pickF rfl rfl rfl ?_
    refine WO.assign rfl rfl ?_
    refine WO.nil ?_
    refine thnN ?_
    refine WP.ret ?_
    refine ⟨_, [], (Res.one rfl), (Imp.nil _), ?_⟩
    refine ⟨congrArg Value.bool ?_, rfl⟩
    first | (simp_all []; done) | (simp_all []; omega)

theorem s_entry_asked {G : Foot} (hG : GlobOK G) (e : Ent) : CallsS P 40 [entV e] [G] (fun v L => (v = .bool (askedF e)) ∧ L = [G]) := by
  refine CallsS.intro Tryd.func40 rfl rfl rfl rfl ?_
  refine WP.seq ?_
  refine WP.region ?_
  refine WO.box rfl rfl rfl (fun b0 => ?_)
  refine WO.assign rfl rfl ?_
  refine WO.nil ?_
  refine thnN ?_
  refine WP.seq ?_
  refine WP.region ?_
  refine WO.fieldAddr rfl fo_23_11 rfl ?_
  refine WO.load rfl sc_9 (by first | exact in0 | exact in1 | exact in2 | exact in3 | exact in4 | exact in5 | exact in6) rfl rfl ?_
  refine WO.callP (s_canon_Method _) rfl ca_30 rfl ?_
  refine WO.move rfl rfl ?_
  refine WO.extract rfl rfl rfl ?_
  refine WO.extract rfl rfl rfl ?_
  refine WO.assign rfl rfl ?_
  refine WO.assign rfl rfl ?_
  refine WO.nil ?_
  refine thnN ?_
  refine WP.seq ?_
  refine WP.region ?_
  refine WO.fieldAddr rfl fo_23_12 rfl ?_
  refine WO.load rfl sc_9 (by first | exact in0 | exact in1 | exact in2 | exact in3 | exact in4 | exact in5 | exact in6) rfl rfl ?_
  first | refine WO.callR 0 rfl (s_canon_Path hG _) rfl ca_31 rfl ?_ | refine WO.callR 1 rfl (s_canon_Path hG _) rfl ca_31 rfl ?_ | refine WO.callR 2 rfl (s_canon_Path hG _) rfl ca_31 rfl ?_ | refine WO.callR 3 rfl (s_canon_Path hG _) rfl ca_31 rfl ?_ | refine WO.callR 4 rfl (s_canon_Path hG _) rfl ca_31 rfl ?_ | refine WO.callR 5 rfl (s_canon_Path hG _) rfl ca_31 rfl ?_ | refine WO.callR 6 rfl (s_canon_Path hG _) rfl ca_31 rfl ?_ | refine WO.callR 7 rfl (s_canon_Path hG _) rfl ca_31 rfl ?_
  rintro _ rfl
  refine WO.move rfl rfl ?_
  refine WO.extract rfl rfl rfl ?_
  refine WO.extract rfl rfl rfl ?_
  refine WO.assign rfl rfl ?_
  refine WO.assign rfl rfl ?_
  refine WO.nil ?_
  refine thnN ?_
  refine WP.seq ?_
  refine WP.region ?_
  refine WO.move rfl rfl ?_
  refine WO.neqS rfl rfl rfl ?_
  refine WO.move rfl rfl ?_
  refine WO.split 21 rfl (fun h1 => ?_) (fun h2 => ?_)
  · try simp only [decide_eq_true_eq, decide_eq_false_iff_not, beq_iff_eq, beq_eq_false_iff_ne, bne_iff_ne, bne_eq_false_iff_eq, Bool.not_eq_true', Bool.not_eq_false', Int.not_lt, Int.not_le, ne_eq] at h1
    refine WO.want 21 rfl rfl ?_
    refine WO.move rfl rfl ?_
    refine WO.want 21 rfl rfl ?_
    refine WO.fieldAddr rfl fo_23_11 rfl ?_
    refine WO.want 21 rfl rfl ?_
    refine WO.load rfl sc_9 (by first | exact in0 | exact in1 | exact in2 | exact in3 | exact in4 | exact in5 | exact in6) rfl rfl ?_
    refine WO.want 21 rfl rfl ?_
    refine WO.eqlS rfl rfl rfl ?_
    refine WO.pickT rfl rfl rfl ?_
    refine WO.move rfl rfl ?_
    refine WO.split 27 rfl (fun h3 => ?_) (fun h4 => ?_)
    · try simp only [decide_eq_true_eq, decide_eq_false_iff_not, beq_iff_eq, beq_eq_false_iff_ne, bne_iff_ne, bne_eq_false_iff_eq, Bool.not_eq_true', Bool.not_eq_false', Int.not_lt, Int.not_le, ne_eq] at h3
      refine WO.want 27 rfl rfl ?_
      refine WO.move rfl rfl ?_
      refine WO.want 27 rfl rfl ?_
      refine WO.neqS rfl rfl rfl ?_
      refine WO.pickT rfl rfl rfl ?_
      refine WO.move rfl rfl ?_
      refine WO.split 31 rfl (fun h5 => ?_) (fun h6 => ?_)
      · try simp only [decide_eq_true_eq, decide_eq_false_iff_not, beq_iff_eq, beq_eq_false_iff_ne, bne_iff_ne, bne_eq_false_iff_eq, Bool.not_eq_true', Bool.not_eq_false', Int.not_lt, Int.not_le, ne_eq] at h5
        refine WO.want 31 rfl rfl ?_
        refine WO.move rfl rfl ?_
        refine WO.want 31 rfl rfl ?_
        refine WO.fieldAddr rfl fo_23_12 rfl ?_
        refine WO.want 31 rfl rfl ?_
        refine WO.load rfl sc_9 (by first | exact in0 | exact in1 | exact in2 | exact in3 | exact in4 | exact in5 | exact in6) rfl rfl ?_
        refine WO.want 31 rfl rfl ?_
        refine WO.eqlS rfl rfl rfl ?_
        refine WO.pickT rfl rfl rfl ?_
        refine WO.move rfl rfl ?_
        refine WO.split 37 rfl (fun h7 => ?_) (fun h8 => ?_)
        · try simp only [decide_eq_true_eq, decide_eq_false_iff_not, beq_iff_eq, beq_eq_false_iff_ne, bne_iff_ne, bne_eq_false_iff_eq, Bool.not_eq_true', Bool.not_eq_false', Int.not_lt, Int.not_le, ne_eq] at h7
          refine WO.want 37 rfl rfl ?_
          refine WO.fieldAddr rfl fo_23_13 rfl ?_
          refine WO.want 37 rfl rfl ?_
          refine WO.load rfl sc_9 (by first | exact in0 | exact in1 | exact in2 | exact in3 | exact in4 | exact in5 | exact in6) rfl rfl ?_
          refine WO.want 37 rfl rfl ?_
          refine WO.lenS rfl un_9 rfl ?_
          refine WO.want 37 rfl rfl ?_
          refine WO.leqI rfl rfl rfl ?_
          refine WO.pickT rfl rfl rfl ?_
          refine WO.assign rfl rfl ?_
          refine WO.nil ?_
          refine thnN ?_
          refine WP.ret ?_
          refine ⟨_, [G], (Res.one rfl), (by first | exact Imp.refl _ | exact Imp.pick 0 rfl | exact Imp.pick 1 rfl | exact Imp.pick 2 rfl | exact Imp.pick 3 rfl | exact Imp.pick 4 rfl | exact Imp.pick 5 rfl | exact Imp.pick 6 rfl), ?_⟩
          refine ⟨congrArg Value.bool ?_, rfl⟩
          unfold askedF
          first | (simp_all; done) | (simp_all; omega)
        · try simp only [decide_eq_true_eq, decide_eq_false_iff_not, beq_iff_eq, beq_eq_false_iff_ne, bne_iff_ne, bne_eq_false_iff_eq, Bool.not_eq_true', Bool.not_eq_false', Int.not_lt, Int.not_le, ne_eq] at h8
          refine WO.pass 37 rfl rfl rfl rfl ?_
          refine WO.pass 37 rfl rfl rfl rfl ?_
          refine WO.pass 37 rfl rfl rfl rfl ?_
          refine WO.pass 37 rfl rfl rfl rfl ?_
          refine WO.pickF rfl rfl rfl ?_
          refine WO.assign rfl rfl ?_
          refine WO.nil ?_
          refine thnN ?_
          refine WP.ret ?_
          refine ⟨_, [G], (Res.one rfl), (by first | exact Imp.refl _ | exact Imp.pick 0 rfl | exact Imp.pick 1 rfl | exact Imp.pick 2 rfl | exact Imp.pick 3 rfl | exact Imp.pick 4 rfl | exact Imp.pick 5 rfl | exact Imp.pick 6 rfl), ?_⟩
          refine ⟨congrArg Value.bool ?_, rfl⟩
          unfold askedF
          first | (simp_all; done) | (simp_all; omega)
      · try simp only [decide_eq_true_eq, decide_eq_false_iff_not, beq_iff_eq, beq_eq_false_iff_ne, bne_iff_ne, bne_eq_false_iff_eq, Bool.not_eq_true', Bool.not_eq_false', Int.not_lt, Int.not_le, ne_eq] at h6
        refine WO.pass 31 rfl rfl rfl rfl ?_
        refine WO.pass 31 rfl rfl rfl rfl ?_
        refine WO.pass 31 rfl rfl rfl rfl ?_
        refine WO.pass 31 rfl rfl rfl rfl ?_
        refine WO.pickF rfl rfl rfl ?_
        refine WO.move rfl rfl ?_
        refine WO.pass 37 rfl rfl rfl rfl ?_
        refine WO.pass 37 rfl rfl rfl rfl ?_
        refine WO.pass 37 rfl rfl rfl rfl ?_
        refine WO.pass 37 rfl rfl rfl rfl ?_
        refine WO.pickF rfl rfl rfl ?_
        refine WO.assign rfl rfl ?_
        refine WO.nil ?_
        refine thnN ?_
        refine WP.ret ?_
        refine ⟨_, [G], (Res.one rfl), (by first | exact Imp.refl _ | exact Imp.pick 0 rfl | exact Imp.pick 1 rfl | exact Imp.pick 2 rfl | exact Imp.pick 3 rfl | exact Imp.pick 4 rfl | exact Imp.pick 5 rfl | exact Imp.pick 6 rfl), ?_⟩
        refine ⟨congrArg Value.bool ?_, rfl⟩
        unfold askedF
        first | (simp_all; done) | (simp_all; omega)
    · try simp only [decide_eq_true_eq, decide_eq_false_iff_not, beq_iff_eq, beq_eq_false_iff_ne, bne_iff_ne, bne_eq_false_iff_eq, Bool.not_eq_true', Bool.not_eq_false', Int.not_lt, Int.not_le, ne_eq] at h4
      refine WO.pass 27 rfl rfl rfl rfl ?_
      refine WO.pass 27 rfl rfl rfl rfl ?_
      refine WO.pickF rfl rfl rfl ?_
      refine WO.move rfl rfl ?_
      refine WO.pass 31 rfl rfl rfl rfl ?_
      refine WO.pass 31 rfl rfl rfl rfl ?_
      refine WO.pass 31 rfl rfl rfl rfl ?_
      refine WO.pass 31 rfl rfl rfl rfl ?_
      refine WO.pickF rfl rfl rfl ?_
      refine WO.move rfl rfl ?_
      refine WO.pass 37 rfl rfl rfl rfl ?_
      refine WO.pass 37 rfl rfl rfl rfl ?_
      refine WO.pass 37 rfl rfl rfl rfl ?_
      refine WO.pass 37 rfl rfl rfl rfl ?_
      refine WO.pickF rfl rfl rfl ?_
      refine WO.assign rfl rfl ?_
      refine WO.nil ?_
      refine thnN ?_
      refine WP.ret ?_
      refine ⟨_, [G], (Res.one rfl), (by first | exact Imp.refl _ | exact Imp.pick 0 rfl | exact Imp.pick 1 rfl | exact Imp.pick 2 rfl | exact Imp.pick 3 rfl | exact Imp.pick 4 rfl | exact Imp.pick 5 rfl | exact Imp.pick 6 rfl), ?_⟩
      refine ⟨congrArg Value.bool ?_, rfl⟩
      unfold askedF
      first | (simp_all; done) | (simp_all; omega)
  · try simp only [decide_eq_true_eq, decide_eq_false_iff_not, beq_iff_eq, beq_eq_false_iff_ne, bne_iff_ne, bne_eq_false_iff_eq, Bool.not_eq_true', Bool.not_eq_false', Int.not_lt, Int.not_le, ne_eq] at h2
    refine WO.pass 21 rfl rfl rfl rfl ?_
    refine WO.pass 21 rfl rfl rfl rfl ?_
    refine WO.pass 21 rfl rfl rfl rfl ?_
    refine WO.pass 21 rfl rfl rfl rfl ?_
    refine WO.pickF rfl rfl rfl ?_
    refine WO.move rfl rfl ?_
    refine WO.pass 27 rfl rfl rfl rfl ?_
    refine WO.pass 27 rfl rfl rfl rfl ?_
    refine WO.pickF rfl rfl rfl ?_
    refine WO.move rfl rfl ?_
    refine WO.pass 31 rfl rfl rfl rfl ?_
    refine WO.pass 31 rfl rfl rfl rfl ?_
    refine WO.pass 31 rfl rfl rfl rfl ?_
    refine WO.pass 31 rfl rfl rfl rfl ?_
    refine WO.pickF rfl rfl rfl ?_
    refine WO.move rfl rfl ?_
    refine WO.pass 37 rfl rfl rfl rfl ?_
    refine WO.pass 37 rfl rfl rfl rfl ?_
    refine WO.pass 37 rfl rfl rfl rfl ?_
    refine WO.pass 37 rfl rfl rfl rfl ?_
    refine WO.pickF rfl rfl rfl ?_
    refine WO.assign rfl rfl ?_
    refine WO.nil ?_
    refine thnN ?_
    refine WP.ret ?_
    refine ⟨_, [G], (Res.one rfl), (by first | exact Imp.refl _ | exact Imp.pick 0 rfl | exact Imp.pick 1 rfl | exact Imp.pick 2 rfl | exact Imp.pick 3 rfl | exact Imp.pick 4 rfl | exact Imp.pick 5 rfl | exact Imp.pick 6 rfl), ?_⟩
    refine ⟨congrArg Value.bool ?_, rfl⟩
    unfold askedF
    first | (simp_all; done) | (simp_all; omega)

theorem s_entry_answered (e : Ent) : CallsS P 41 [entV e] [] (fun v L => v = .bool (answeredF e) ∧ L = []) := by
  refine CallsS.intro Tryd.func41 rfl rfl rfl rfl ?_
  refine WP.seq ?_
  refine WP.region ?_
  refine WO.box rfl rfl rfl (fun b0 => ?_)
  refine WO.assign rfl rfl ?_
  refine WO.nil ?_
  refine thnN ?_
  refine WP.seq ?_
  refine WP.seq ?_
  refine WP.region ?_
  refine WO.fieldAddr rfl fo_23_9 rfl ?_
  refine WO.load rfl sc_3 (by first | exact in0 | exact in1 | exact in2 | exact in3 | exact in4 | exact in5 | exact in6) rfl rfl ?_
  refine WO.nil ?_
  refine thnN ?_
  refine WP.block ?_
  refine WP.seq ?_
  refine WP.seq ?_
  refine WP.region ?_
  refine WO.eqlI rfl rfl rfl ?_
  refine WO.assign rfl rfl ?_
  refine WO.nil ?_
  refine thnN ?_
  refine WP.condL 5 rfl (fun h1 => ?_) (fun h2 => ?_)
  · try simp only [decide_eq_true_eq, decide_eq_false_iff_not, beq_iff_eq, beq_eq_false_iff_ne, bne_iff_ne, bne_eq_false_iff_eq, Bool.not_eq_true', Bool.not_eq_false', Int.not_lt, Int.not_le, ne_eq] at h1
    refine WP.skip ?_
    refine thnN ?_
    refine WP.condT rfl ?_
    refine WP.seq ?_
    refine WP.region ?_
    refine WO.fieldAddr rfl fo_23_10 rfl ?_
    refine WO.load rfl sc_9 (by first | exact in0 | exact in1 | exact in2 | exact in3 | exact in4 | exact in5 | exact in6) rfl rfl ?_
    refine WO.lenS rfl un_9 rfl ?_
    refine WO.leqI rfl rfl rfl ?_
    refine WO.assign rfl rfl ?_
    refine WO.nil ?_
    refine thnN ?_
    refine WP.ret ?_
    refine blkR ?_
    refine thnR ?_
    refine ⟨_, [], (Res.one rfl), (Imp.nil _), ?_⟩
    refine ⟨congrArg Value.bool ?_, rfl⟩
    first | (simp_all [answeredF]; done) | (simp_all [answeredF]; omega)
  · try simp only [decide_eq_true_eq, decide_eq_false_iff_not, beq_iff_eq, beq_eq_false_iff_ne, bne_iff_ne, bne_eq_false_iff_eq, Bool.not_eq_true', Bool.not_eq_false', Int.not_lt, Int.not_le, ne_eq] at h2
    refine WP.seq ?_
    refine WP.region ?_
    refine WO.eqlI rfl rfl rfl ?_
    refine WO.assign rfl rfl ?_
    refine WO.nil ?_
    refine thnN ?_
    refine WP.condL 5 rfl (fun h3 => ?_) (fun h4 => ?_)
    · try simp only [decide_eq_true_eq, decide_eq_false_iff_not, beq_iff_eq, beq_eq_false_iff_ne, bne_iff_ne, bne_eq_false_iff_eq, Bool.not_eq_true', Bool.not_eq_false', Int.not_lt, Int.not_le, ne_eq] at h3
      refine WP.skip ?_
      refine thnN ?_
      refine WP.condT rfl ?_
      refine WP.seq ?_
      refine WP.region ?_
      refine WO.fieldAddr rfl fo_23_10 rfl ?_
      refine WO.load rfl sc_9 (by first | exact in0 | exact in1 | exact in2 | exact in3 | exact in4 | exact in5 | exact in6) rfl rfl ?_
      refine WO.lenS rfl un_9 rfl ?_
      refine WO.leqI rfl rfl rfl ?_
      refine WO.assign rfl rfl ?_
      refine WO.nil ?_
      refine thnN ?_
      refine WP.ret ?_
      refine blkR ?_
      refine thnR ?_
      refine ⟨_, [], (Res.one rfl), (Imp.nil _), ?_⟩
      refine ⟨congrArg Value.bool ?_, rfl⟩
      first | (simp_all [answeredF]; done) | (simp_all [answeredF]; omega)
    · try simp only [decide_eq_true_eq, decide_eq_false_iff_not, beq_iff_eq, beq_eq_false_iff_ne, bne_iff_ne, bne_eq_false_iff_eq, Bool.not_eq_true', Bool.not_eq_false', Int.not_lt, Int.not_le, ne_eq] at h4
      refine WP.region ?_
      refine WO.eqlI rfl rfl rfl ?_
      refine WO.assign rfl rfl ?_
      refine WO.nil ?_
      refine thnN ?_
      refine WP.condL 5 rfl (fun h5 => ?_) (fun h6 => ?_)
      · try simp only [decide_eq_true_eq, decide_eq_false_iff_not, beq_iff_eq, beq_eq_false_iff_ne, bne_iff_ne, bne_eq_false_iff_eq, Bool.not_eq_true', Bool.not_eq_false', Int.not_lt, Int.not_le, ne_eq] at h5
        refine WP.seq ?_
        refine WP.region ?_
        refine WO.fieldAddr rfl fo_23_10 rfl ?_
        refine WO.load rfl sc_9 (by first | exact in0 | exact in1 | exact in2 | exact in3 | exact in4 | exact in5 | exact in6) rfl rfl ?_
        refine WO.lenS rfl un_9 rfl ?_
        refine WO.leqI rfl rfl rfl ?_
        refine WO.assign rfl rfl ?_
        refine WO.nil ?_
        refine thnN ?_
        refine WP.ret ?_
        refine blkR ?_
        refine thnR ?_
        refine ⟨_, [], (Res.one rfl), (Imp.nil _), ?_⟩
        refine ⟨congrArg Value.bool ?_, rfl⟩
        first | (simp_all [answeredF]; done) | (simp_all [answeredF]; omega)
      · try simp only [decide_eq_true_eq, decide_eq_false_iff_not, beq_iff_eq, beq_eq_false_iff_ne, bne_iff_ne, bne_eq_false_iff_eq, Bool.not_eq_true', Bool.not_eq_false', Int.not_lt, Int.not_le, ne_eq] at h6
        refine WP.skip ?_
        refine blkN ?_
        refine thnN ?_
        refine WP.seq ?_
        refine WP.region ?_
        refine WO.assign rfl rfl ?_
        refine WO.nil ?_
        refine thnN ?_
        refine WP.ret ?_
        refine ⟨_, [], (Res.one rfl), (Imp.nil _), ?_⟩
        refine ⟨congrArg Value.bool ?_, rfl⟩
        first | (simp_all [answeredF]; done) | (simp_all [answeredF]; omega)

theorem s_entry_May {G : Foot} (hG : GlobOK G) (e : Ent) (hy0 : sizedE e) : CallsS P 27 [entV e] [G] (fun v L => (v = .bool (mayF e)) ∧ L = [G]) := by
  obtain ⟨hs1, hs2, hs3⟩ := hy0
  refine CallsS.intro Tryd.func27 rfl rfl rfl rfl ?_
  refine WP.seq ?_
  refine WP.region ?_
  refine WO.box rfl rfl rfl (fun b0 => ?_)
  refine WO.assign rfl rfl ?_
  refine WO.nil ?_
  refine thnN ?_
  refine WP.seq ?_
  refine WP.seq ?_
  refine WP.region ?_
  first | refine WO.loadAll rfl ag_23 (by first | exact in0 | exact in1 | exact in2 | exact in3 | exact in4 | exact in5 | exact in6) rfl rfl ?_ | refine WO.loadAgg rfl ag_23 (by first | exact in0 | exact in1 | exact in2 | exact in3 | exact in4 | exact in5 | exact in6) rfl rfl rfl ?_
  refine WO.callP (s_entry_named e) rfl ca_37 rfl ?_
  refine WO.not rfl rfl ?_
  refine WO.move rfl rfl ?_
  refine WO.split 8 rfl (fun h1 => ?_) (fun h2 => ?_)
  · try simp only [decide_eq_true_eq, decide_eq_false_iff_not, beq_iff_eq, beq_eq_false_iff_ne, bne_iff_ne, bne_eq_false_iff_eq, Bool.not_eq_true', Bool.not_eq_false', Int.not_lt, Int.not_le, ne_eq] at h1
    refine WO.pass 8 rfl rfl rfl rfl ?_
    refine WO.pass 8 rfl rfl rfl rfl ?_
    refine WO.pass 8 rfl rfl rfl rfl ?_
    refine WO.pass 8 rfl rfl rfl rfl ?_
    refine WO.pickT rfl rfl rfl ?_
    refine WO.move rfl rfl ?_
    refine WO.pass 14 rfl rfl rfl rfl ?_
    refine WO.pass 14 rfl rfl rfl rfl ?_
    refine WO.pass 14 rfl rfl rfl rfl ?_
    refine WO.pass 14 rfl rfl rfl rfl ?_
    refine WO.pickT rfl rfl rfl ?_
    refine WO.move rfl rfl ?_
    refine WO.pass 20 rfl rfl rfl rfl ?_
    refine WO.pass 20 rfl rfl rfl rfl ?_
    refine WO.pass 20 rfl rfl rfl rfl ?_
    refine WO.pickT rfl rfl rfl ?_
    refine WO.move rfl rfl ?_
    refine WO.pass 25 rfl rfl rfl rfl ?_
    refine WO.pass 25 rfl rfl rfl rfl ?_
    refine WO.pass 25 rfl rfl rfl rfl ?_
    refine WO.pickT rfl rfl rfl ?_
    refine WO.move rfl rfl ?_
    refine WO.pass 30 rfl rfl rfl rfl ?_
    refine WO.pass 30 rfl rfl rfl rfl ?_
    refine WO.pass 30 rfl rfl rfl rfl ?_
    refine WO.pass 30 rfl rfl rfl rfl ?_
    refine WO.pickT rfl rfl rfl ?_
    refine WO.move rfl rfl ?_
    refine WO.pass 36 rfl rfl rfl rfl ?_
    refine WO.pass 36 rfl rfl rfl rfl ?_
    refine WO.pass 36 rfl rfl rfl rfl ?_
    refine WO.pass 36 rfl rfl rfl rfl ?_
    refine WO.pickT rfl rfl rfl ?_
    refine WO.move rfl rfl ?_
    refine WO.pass 42 rfl rfl rfl rfl ?_
    refine WO.pass 42 rfl rfl rfl rfl ?_
    refine WO.pass 42 rfl rfl rfl rfl ?_
    refine WO.pass 42 rfl rfl rfl rfl ?_
    refine WO.pickT rfl rfl rfl ?_
    refine WO.nil ?_
    refine thnN ?_
    refine WP.condT rfl ?_
    refine WP.seq ?_
    refine WP.region ?_
    refine WO.assign rfl rfl ?_
    refine WO.nil ?_
    refine thnN ?_
    refine WP.ret ?_
    refine thnR ?_
    refine ⟨_, [G], (Res.one rfl), (by first | exact Imp.refl _ | exact Imp.pick 0 rfl | exact Imp.pick 1 rfl | exact Imp.pick 2 rfl | exact Imp.pick 3 rfl | exact Imp.pick 4 rfl | exact Imp.pick 5 rfl | exact Imp.pick 6 rfl), ?_⟩
    refine ⟨congrArg Value.bool ?_, rfl⟩
    first | (simp_all [mayF, headF, noAnswerF, noRequestF]; done) | (simp_all [mayF, headF, noAnswerF, noRequestF]; omega)
  · try simp only [decide_eq_true_eq, decide_eq_false_iff_not, beq_iff_eq, beq_eq_false_iff_ne, bne_iff_ne, bne_eq_false_iff_eq, Bool.not_eq_true', Bool.not_eq_false', Int.not_lt, Int.not_le, ne_eq] at h2
    refine WO.want 8 rfl rfl ?_
    refine WO.fieldAddr rfl fo_23_3 rfl ?_
    refine WO.want 8 rfl rfl ?_
    refine WO.load rfl sc_3 (by first | exact in0 | exact in1 | exact in2 | exact in3 | exact in4 | exact in5 | exact in6) rfl rfl ?_
    refine WO.want 8 rfl rfl ?_
    refine WO.callP (s_entry_number _) rfl ca_38 rfl ?_
    refine WO.want 8 rfl rfl ?_
    refine WO.not rfl rfl ?_
    refine WO.pickF rfl rfl rfl ?_
    refine WO.move rfl rfl ?_
    refine WO.split 14 rfl (fun h3 => ?_) (fun h4 => ?_)
    · try simp only [decide_eq_true_eq, decide_eq_false_iff_not, beq_iff_eq, beq_eq_false_iff_ne, bne_iff_ne, bne_eq_false_iff_eq, Bool.not_eq_true', Bool.not_eq_false', Int.not_lt, Int.not_le, ne_eq] at h3
      refine WO.pass 14 rfl rfl rfl rfl ?_
      refine WO.pass 14 rfl rfl rfl rfl ?_
      refine WO.pass 14 rfl rfl rfl rfl ?_
      refine WO.pass 14 rfl rfl rfl rfl ?_
      refine WO.pickT rfl rfl rfl ?_
      refine WO.move rfl rfl ?_
      refine WO.pass 20 rfl rfl rfl rfl ?_
      refine WO.pass 20 rfl rfl rfl rfl ?_
      refine WO.pass 20 rfl rfl rfl rfl ?_
      refine WO.pickT rfl rfl rfl ?_
      refine WO.move rfl rfl ?_
      refine WO.pass 25 rfl rfl rfl rfl ?_
      refine WO.pass 25 rfl rfl rfl rfl ?_
      refine WO.pass 25 rfl rfl rfl rfl ?_
      refine WO.pickT rfl rfl rfl ?_
      refine WO.move rfl rfl ?_
      refine WO.pass 30 rfl rfl rfl rfl ?_
      refine WO.pass 30 rfl rfl rfl rfl ?_
      refine WO.pass 30 rfl rfl rfl rfl ?_
      refine WO.pass 30 rfl rfl rfl rfl ?_
      refine WO.pickT rfl rfl rfl ?_
      refine WO.move rfl rfl ?_
      refine WO.pass 36 rfl rfl rfl rfl ?_
      refine WO.pass 36 rfl rfl rfl rfl ?_
      refine WO.pass 36 rfl rfl rfl rfl ?_
      refine WO.pass 36 rfl rfl rfl rfl ?_
      refine WO.pickT rfl rfl rfl ?_
      refine WO.move rfl rfl ?_
      refine WO.pass 42 rfl rfl rfl rfl ?_
      refine WO.pass 42 rfl rfl rfl rfl ?_
      refine WO.pass 42 rfl rfl rfl rfl ?_
      refine WO.pass 42 rfl rfl rfl rfl ?_
      refine WO.pickT rfl rfl rfl ?_
      refine WO.nil ?_
      refine thnN ?_
      refine WP.condT rfl ?_
      refine WP.seq ?_
      refine WP.region ?_
      refine WO.assign rfl rfl ?_
      refine WO.nil ?_
      refine thnN ?_
      refine WP.ret ?_
      refine thnR ?_
      refine ⟨_, [G], (Res.one rfl), (by first | exact Imp.refl _ | exact Imp.pick 0 rfl | exact Imp.pick 1 rfl | exact Imp.pick 2 rfl | exact Imp.pick 3 rfl | exact Imp.pick 4 rfl | exact Imp.pick 5 rfl | exact Imp.pick 6 rfl), ?_⟩
      refine ⟨congrArg Value.bool ?_, rfl⟩
      first | (simp_all [mayF, headF, noAnswerF, noRequestF]; done) | (simp_all [mayF, headF, noAnswerF, noRequestF]; omega)
    · try simp only [decide_eq_true_eq, decide_eq_false_iff_not, beq_iff_eq, beq_eq_false_iff_ne, bne_iff_ne, bne_eq_false_iff_eq, Bool.not_eq_true', Bool.not_eq_false', Int.not_lt, Int.not_le, ne_eq] at h4
      refine WO.want 14 rfl rfl ?_
      refine WO.fieldAddr rfl fo_23_4 rfl ?_
      refine WO.want 14 rfl rfl ?_
      refine WO.load rfl sc_3 (by first | exact in0 | exact in1 | exact in2 | exact in3 | exact in4 | exact in5 | exact in6) rfl rfl ?_
      refine WO.want 14 rfl rfl ?_
      refine WO.callP (s_entry_number _) rfl ca_38 rfl ?_
      refine WO.want 14 rfl rfl ?_
      refine WO.not rfl rfl ?_
      refine WO.pickF rfl rfl rfl ?_
      refine WO.move rfl rfl ?_
      refine WO.split 20 rfl (fun h5 => ?_) (fun h6 => ?_)
      · try simp only [decide_eq_true_eq, decide_eq_false_iff_not, beq_iff_eq, beq_eq_false_iff_ne, bne_iff_ne, bne_eq_false_iff_eq, Bool.not_eq_true', Bool.not_eq_false', Int.not_lt, Int.not_le, ne_eq] at h5
        refine WO.pass 20 rfl rfl rfl rfl ?_
        refine WO.pass 20 rfl rfl rfl rfl ?_
        refine WO.pass 20 rfl rfl rfl rfl ?_
        refine WO.pickT rfl rfl rfl ?_
        refine WO.move rfl rfl ?_
        refine WO.pass 25 rfl rfl rfl rfl ?_
        refine WO.pass 25 rfl rfl rfl rfl ?_
        refine WO.pass 25 rfl rfl rfl rfl ?_
        refine WO.pickT rfl rfl rfl ?_
        refine WO.move rfl rfl ?_
        refine WO.pass 30 rfl rfl rfl rfl ?_
        refine WO.pass 30 rfl rfl rfl rfl ?_
        refine WO.pass 30 rfl rfl rfl rfl ?_
        refine WO.pass 30 rfl rfl rfl rfl ?_
        refine WO.pickT rfl rfl rfl ?_
        refine WO.move rfl rfl ?_
        refine WO.pass 36 rfl rfl rfl rfl ?_
        refine WO.pass 36 rfl rfl rfl rfl ?_
        refine WO.pass 36 rfl rfl rfl rfl ?_
        refine WO.pass 36 rfl rfl rfl rfl ?_
        refine WO.pickT rfl rfl rfl ?_
        refine WO.move rfl rfl ?_
        refine WO.pass 42 rfl rfl rfl rfl ?_
        refine WO.pass 42 rfl rfl rfl rfl ?_
        refine WO.pass 42 rfl rfl rfl rfl ?_
        refine WO.pass 42 rfl rfl rfl rfl ?_
        refine WO.pickT rfl rfl rfl ?_
        refine WO.nil ?_
        refine thnN ?_
        refine WP.condT rfl ?_
        refine WP.seq ?_
        refine WP.region ?_
        refine WO.assign rfl rfl ?_
        refine WO.nil ?_
        refine thnN ?_
        refine WP.ret ?_
        refine thnR ?_
        refine ⟨_, [G], (Res.one rfl), (by first | exact Imp.refl _ | exact Imp.pick 0 rfl | exact Imp.pick 1 rfl | exact Imp.pick 2 rfl | exact Imp.pick 3 rfl | exact Imp.pick 4 rfl | exact Imp.pick 5 rfl | exact Imp.pick 6 rfl), ?_⟩
        refine ⟨congrArg Value.bool ?_, rfl⟩
        first | (simp_all [mayF, headF, noAnswerF, noRequestF]; done) | (simp_all [mayF, headF, noAnswerF, noRequestF]; omega)
      · try simp only [decide_eq_true_eq, decide_eq_false_iff_not, beq_iff_eq, beq_eq_false_iff_ne, bne_iff_ne, bne_eq_false_iff_eq, Bool.not_eq_true', Bool.not_eq_false', Int.not_lt, Int.not_le, ne_eq] at h6
        refine WO.want 20 rfl rfl ?_
        refine WO.fieldAddr rfl fo_23_5 rfl ?_
        refine WO.want 20 rfl rfl ?_
        refine WO.load rfl sc_3 (by first | exact in0 | exact in1 | exact in2 | exact in3 | exact in4 | exact in5 | exact in6) rfl rfl ?_
        refine WO.want 20 rfl rfl ?_
        refine WO.lssI rfl rfl rfl ?_
        refine WO.pickF rfl rfl rfl ?_
        refine WO.move rfl rfl ?_
        refine WO.split 25 rfl (fun h7 => ?_) (fun h8 => ?_)
        · try simp only [decide_eq_true_eq, decide_eq_false_iff_not, beq_iff_eq, beq_eq_false_iff_ne, bne_iff_ne, bne_eq_false_iff_eq, Bool.not_eq_true', Bool.not_eq_false', Int.not_lt, Int.not_le, ne_eq] at h7
          refine WO.pass 25 rfl rfl rfl rfl ?_
          refine WO.pass 25 rfl rfl rfl rfl ?_
          refine WO.pass 25 rfl rfl rfl rfl ?_
          refine WO.pickT rfl rfl rfl ?_
          refine WO.move rfl rfl ?_
          refine WO.pass 30 rfl rfl rfl rfl ?_
          refine WO.pass 30 rfl rfl rfl rfl ?_
          refine WO.pass 30 rfl rfl rfl rfl ?_
          refine WO.pass 30 rfl rfl rfl rfl ?_
          refine WO.pickT rfl rfl rfl ?_
          refine WO.move rfl rfl ?_
          refine WO.pass 36 rfl rfl rfl rfl ?_
          refine WO.pass 36 rfl rfl rfl rfl ?_
          refine WO.pass 36 rfl rfl rfl rfl ?_
          refine WO.pass 36 rfl rfl rfl rfl ?_
          refine WO.pickT rfl rfl rfl ?_
          refine WO.move rfl rfl ?_
          refine WO.pass 42 rfl rfl rfl rfl ?_
          refine WO.pass 42 rfl rfl rfl rfl ?_
          refine WO.pass 42 rfl rfl rfl rfl ?_
          refine WO.pass 42 rfl rfl rfl rfl ?_
          refine WO.pickT rfl rfl rfl ?_
          refine WO.nil ?_
          refine thnN ?_
          refine WP.condT rfl ?_
          refine WP.seq ?_
          refine WP.region ?_
          refine WO.assign rfl rfl ?_
          refine WO.nil ?_
          refine thnN ?_
          refine WP.ret ?_
          refine thnR ?_
          refine ⟨_, [G], (Res.one rfl), (by first | exact Imp.refl _ | exact Imp.pick 0 rfl | exact Imp.pick 1 rfl | exact Imp.pick 2 rfl | exact Imp.pick 3 rfl | exact Imp.pick 4 rfl | exact Imp.pick 5 rfl | exact Imp.pick 6 rfl), ?_⟩
          refine ⟨congrArg Value.bool ?_, rfl⟩
          first | (simp_all [mayF, headF, noAnswerF, noRequestF]; done) | (simp_all [mayF, headF, noAnswerF, noRequestF]; omega)
        · try simp only [decide_eq_true_eq, decide_eq_false_iff_not, beq_iff_eq, beq_eq_false_iff_ne, bne_iff_ne, bne_eq_false_iff_eq, Bool.not_eq_true', Bool.not_eq_false', Int.not_lt, Int.not_le, ne_eq] at h8
          refine WO.want 25 rfl rfl ?_
          refine WO.fieldAddr rfl fo_23_5 rfl ?_
          refine WO.want 25 rfl rfl ?_
          refine WO.load rfl sc_3 (by first | exact in0 | exact in1 | exact in2 | exact in3 | exact in4 | exact in5 | exact in6) rfl rfl ?_
          refine WO.want 25 rfl rfl ?_
          refine WO.gtrI rfl rfl rfl ?_
          refine WO.pickF rfl rfl rfl ?_
          refine WO.move rfl rfl ?_
          refine WO.split 30 rfl (fun h9 => ?_) (fun h10 => ?_)
          · try simp only [decide_eq_true_eq, decide_eq_false_iff_not, beq_iff_eq, beq_eq_false_iff_ne, bne_iff_ne, bne_eq_false_iff_eq, Bool.not_eq_true', Bool.not_eq_false', Int.not_lt, Int.not_le, ne_eq] at h9
            refine WO.pass 30 rfl rfl rfl rfl ?_
            refine WO.pass 30 rfl rfl rfl rfl ?_
            refine WO.pass 30 rfl rfl rfl rfl ?_
            refine WO.pass 30 rfl rfl rfl rfl ?_
            refine WO.pickT rfl rfl rfl ?_
            refine WO.move rfl rfl ?_
            refine WO.pass 36 rfl rfl rfl rfl ?_
            refine WO.pass 36 rfl rfl rfl rfl ?_
            refine WO.pass 36 rfl rfl rfl rfl ?_
            refine WO.pass 36 rfl rfl rfl rfl ?_
            refine WO.pickT rfl rfl rfl ?_
            refine WO.move rfl rfl ?_
            refine WO.pass 42 rfl rfl rfl rfl ?_
            refine WO.pass 42 rfl rfl rfl rfl ?_
            refine WO.pass 42 rfl rfl rfl rfl ?_
            refine WO.pass 42 rfl rfl rfl rfl ?_
            refine WO.pickT rfl rfl rfl ?_
            refine WO.nil ?_
            refine thnN ?_
            refine WP.condT rfl ?_
            refine WP.seq ?_
            refine WP.region ?_
            refine WO.assign rfl rfl ?_
            refine WO.nil ?_
            refine thnN ?_
            refine WP.ret ?_
            refine thnR ?_
            refine ⟨_, [G], (Res.one rfl), (by first | exact Imp.refl _ | exact Imp.pick 0 rfl | exact Imp.pick 1 rfl | exact Imp.pick 2 rfl | exact Imp.pick 3 rfl | exact Imp.pick 4 rfl | exact Imp.pick 5 rfl | exact Imp.pick 6 rfl), ?_⟩
            refine ⟨congrArg Value.bool ?_, rfl⟩
            first | (simp_all [mayF, headF, noAnswerF, noRequestF]; done) | (simp_all [mayF, headF, noAnswerF, noRequestF]; omega)
          · try simp only [decide_eq_true_eq, decide_eq_false_iff_not, beq_iff_eq, beq_eq_false_iff_ne, bne_iff_ne, bne_eq_false_iff_eq, Bool.not_eq_true', Bool.not_eq_false', Int.not_lt, Int.not_le, ne_eq] at h10
            refine WO.want 30 rfl rfl ?_
            refine WO.fieldAddr rfl fo_23_6 rfl ?_
            refine WO.want 30 rfl rfl ?_
            refine WO.load rfl sc_9 (by first | exact in0 | exact in1 | exact in2 | exact in3 | exact in4 | exact in5 | exact in6) rfl rfl ?_
            refine WO.want 30 rfl rfl ?_
            refine WO.lenS rfl un_9 rfl ?_
            refine WO.want 30 rfl rfl ?_
            refine WO.neqI rfl rfl rfl ?_
            refine WO.pickF rfl rfl rfl ?_
            refine WO.move rfl rfl ?_
            refine WO.split 36 rfl (fun h11 => ?_) (fun h12 => ?_)
            · try simp only [decide_eq_true_eq, decide_eq_false_iff_not, beq_iff_eq, beq_eq_false_iff_ne, bne_iff_ne, bne_eq_false_iff_eq, Bool.not_eq_true', Bool.not_eq_false', Int.not_lt, Int.not_le, ne_eq] at h11
              refine WO.pass 36 rfl rfl rfl rfl ?_
              refine WO.pass 36 rfl rfl rfl rfl ?_
              refine WO.pass 36 rfl rfl rfl rfl ?_
              refine WO.pass 36 rfl rfl rfl rfl ?_
              refine WO.pickT rfl rfl rfl ?_
              refine WO.move rfl rfl ?_
              refine WO.pass 42 rfl rfl rfl rfl ?_
              refine WO.pass 42 rfl rfl rfl rfl ?_
              refine WO.pass 42 rfl rfl rfl rfl ?_
              refine WO.pass 42 rfl rfl rfl rfl ?_
              refine WO.pickT rfl rfl rfl ?_
              refine WO.nil ?_
              refine thnN ?_
              refine WP.condT rfl ?_
              refine WP.seq ?_
              refine WP.region ?_
              refine WO.assign rfl rfl ?_
              refine WO.nil ?_
              refine thnN ?_
              refine WP.ret ?_
              refine thnR ?_
              refine ⟨_, [G], (Res.one rfl), (by first | exact Imp.refl _ | exact Imp.pick 0 rfl | exact Imp.pick 1 rfl | exact Imp.pick 2 rfl | exact Imp.pick 3 rfl | exact Imp.pick 4 rfl | exact Imp.pick 5 rfl | exact Imp.pick 6 rfl), ?_⟩
              refine ⟨congrArg Value.bool ?_, rfl⟩
              first | (simp_all [mayF, headF, noAnswerF, noRequestF]; done) | (simp_all [mayF, headF, noAnswerF, noRequestF]; omega)
            · try simp only [decide_eq_true_eq, decide_eq_false_iff_not, beq_iff_eq, beq_eq_false_iff_ne, bne_iff_ne, bne_eq_false_iff_eq, Bool.not_eq_true', Bool.not_eq_false', Int.not_lt, Int.not_le, ne_eq] at h12
              refine WO.want 36 rfl rfl ?_
              refine WO.fieldAddr rfl fo_23_7 rfl ?_
              refine WO.want 36 rfl rfl ?_
              refine WO.load rfl sc_3 (by first | exact in0 | exact in1 | exact in2 | exact in3 | exact in4 | exact in5 | exact in6) rfl rfl ?_
              refine WO.want 36 rfl rfl ?_
              refine WO.callP (s_entry_time _) rfl ca_39 rfl ?_
              refine WO.want 36 rfl rfl ?_
              refine WO.not rfl rfl ?_
              refine WO.pickF rfl rfl rfl ?_
              refine WO.move rfl rfl ?_
              refine WO.split 42 rfl (fun h13 => ?_) (fun h14 => ?_)
              · try simp only [decide_eq_true_eq, decide_eq_false_iff_not, beq_iff_eq, beq_eq_false_iff_ne, bne_iff_ne, bne_eq_false_iff_eq, Bool.not_eq_true', Bool.not_eq_false', Int.not_lt, Int.not_le, ne_eq] at h13
                refine WO.pass 42 rfl rfl rfl rfl ?_
                refine WO.pass 42 rfl rfl rfl rfl ?_
                refine WO.pass 42 rfl rfl rfl rfl ?_
                refine WO.pass 42 rfl rfl rfl rfl ?_
                refine WO.pickT rfl rfl rfl ?_
                refine WO.nil ?_
                refine thnN ?_
                refine WP.condT rfl ?_
                refine WP.seq ?_
                refine WP.region ?_
                refine WO.assign rfl rfl ?_
                refine WO.nil ?_
                refine thnN ?_
                refine WP.ret ?_
                refine thnR ?_
                refine ⟨_, [G], (Res.one rfl), (by first | exact Imp.refl _ | exact Imp.pick 0 rfl | exact Imp.pick 1 rfl | exact Imp.pick 2 rfl | exact Imp.pick 3 rfl | exact Imp.pick 4 rfl | exact Imp.pick 5 rfl | exact Imp.pick 6 rfl), ?_⟩
                refine ⟨congrArg Value.bool ?_, rfl⟩
                first | (simp_all [mayF, headF, noAnswerF, noRequestF]; done) | (simp_all [mayF, headF, noAnswerF, noRequestF]; omega)
              · try simp only [decide_eq_true_eq, decide_eq_false_iff_not, beq_iff_eq, beq_eq_false_iff_ne, bne_iff_ne, bne_eq_false_iff_eq, Bool.not_eq_true', Bool.not_eq_false', Int.not_lt, Int.not_le, ne_eq] at h14
                refine WO.want 42 rfl rfl ?_
                refine WO.fieldAddr rfl fo_23_8 rfl ?_
                refine WO.want 42 rfl rfl ?_
                refine WO.load rfl sc_3 (by first | exact in0 | exact in1 | exact in2 | exact in3 | exact in4 | exact in5 | exact in6) rfl rfl ?_
                refine WO.want 42 rfl rfl ?_
                refine WO.callP (s_entry_time _) rfl ca_39 rfl ?_
                refine WO.want 42 rfl rfl ?_
                refine WO.not rfl rfl ?_
                refine WO.pickF rfl rfl rfl ?_
                refine WO.nil ?_
                refine thnN ?_
                refine WP.condL 47 rfl (fun h15 => ?_) (fun h16 => ?_)
                · try simp only [decide_eq_true_eq, decide_eq_false_iff_not, beq_iff_eq, beq_eq_false_iff_ne, bne_iff_ne, bne_eq_false_iff_eq, Bool.not_eq_true', Bool.not_eq_false', Int.not_lt, Int.not_le, ne_eq] at h15
                  refine WP.seq ?_
                  refine WP.region ?_
                  refine WO.assign rfl rfl ?_
                  refine WO.nil ?_
                  refine thnN ?_
                  refine WP.ret ?_
                  refine thnR ?_
                  refine ⟨_, [G], (Res.one rfl), (by first | exact Imp.refl _ | exact Imp.pick 0 rfl | exact Imp.pick 1 rfl | exact Imp.pick 2 rfl | exact Imp.pick 3 rfl | exact Imp.pick 4 rfl | exact Imp.pick 5 rfl | exact Imp.pick 6 rfl), ?_⟩
                  refine ⟨congrArg Value.bool ?_, rfl⟩
                  first | (simp_all [mayF, headF, noAnswerF, noRequestF]; done) | (simp_all [mayF, headF, noAnswerF, noRequestF]; omega)
                · try simp only [decide_eq_true_eq, decide_eq_false_iff_not, beq_iff_eq, beq_eq_false_iff_ne, bne_iff_ne, bne_eq_false_iff_eq, Bool.not_eq_true', Bool.not_eq_false', Int.not_lt, Int.not_le, ne_eq] at h16
                  refine WP.skip ?_
                  refine thnN ?_
                  refine WP.seq ?_
                  refine WP.region ?_
                  refine WO.fieldAddr rfl fo_23_9 rfl ?_
                  refine WO.load rfl sc_3 (by first | exact in0 | exact in1 | exact in2 | exact in3 | exact in4 | exact in5 | exact in6) rfl rfl ?_
                  refine WO.eqlI rfl rfl rfl ?_
                  refine WO.move rfl rfl ?_
                  refine WO.split 51 rfl (fun h17 => ?_) (fun h18 => ?_)
                  · try simp only [decide_eq_true_eq, decide_eq_false_iff_not, beq_iff_eq, beq_eq_false_iff_ne, bne_iff_ne, bne_eq_false_iff_eq, Bool.not_eq_true', Bool.not_eq_false', Int.not_lt, Int.not_le, ne_eq] at h17
                    refine WO.want 51 rfl rfl ?_
                    refine WO.fieldAddr rfl fo_23_10 rfl ?_
                    refine WO.want 51 rfl rfl ?_
                    refine WO.load rfl sc_9 (by first | exact in0 | exact in1 | exact in2 | exact in3 | exact in4 | exact in5 | exact in6) rfl rfl ?_
                    refine WO.want 51 rfl rfl ?_
                    refine WO.eqlS rfl rfl rfl ?_
                    refine WO.pickT rfl rfl rfl ?_
                    refine WO.assign rfl rfl ?_
                    refine WO.nil ?_
                    refine thnN ?_
                    refine WP.seq ?_
                    refine WP.region ?_
                    refine WO.fieldAddr rfl fo_23_7 rfl ?_
                    refine WO.load rfl sc_3 (by first | exact in0 | exact in1 | exact in2 | exact in3 | exact in4 | exact in5 | exact in6) rfl rfl ?_
                    refine WO.eqlI rfl rfl rfl ?_
                    refine WO.move rfl rfl ?_
                    refine WO.split 59 rfl (fun h19 => ?_) (fun h20 => ?_)
                    · try simp only [decide_eq_true_eq, decide_eq_false_iff_not, beq_iff_eq, beq_eq_false_iff_ne, bne_iff_ne, bne_eq_false_iff_eq, Bool.not_eq_true', Bool.not_eq_false', Int.not_lt, Int.not_le, ne_eq] at h19
                      refine WO.want 59 rfl rfl ?_
                      refine WO.fieldAddr rfl fo_23_11 rfl ?_
                      refine WO.want 59 rfl rfl ?_
                      refine WO.load rfl sc_9 (by first | exact in0 | exact in1 | exact in2 | exact in3 | exact in4 | exact in5 | exact in6) rfl rfl ?_
                      refine WO.want 59 rfl rfl ?_
                      refine WO.fieldAddr rfl fo_23_12 rfl ?_
                      refine WO.want 59 rfl rfl ?_
                      refine WO.load rfl sc_9 (by first | exact in0 | exact in1 | exact in2 | exact in3 | exact in4 | exact in5 | exact in6) rfl rfl ?_
                      refine WO.want 59 rfl rfl ?_
                      refine WO.addS rfl rfl (by first | omega | (simp only [len_toBytes, List.length_append, List.length_cons, List.length_nil, List.length_drop, List.length_take]; omega)) rfl ?_
                      refine WO.want 59 rfl rfl ?_
                      refine WO.fieldAddr rfl fo_23_13 rfl ?_
                      refine WO.want 59 rfl rfl ?_
                      refine WO.load rfl sc_9 (by first | exact in0 | exact in1 | exact in2 | exact in3 | exact in4 | exact in5 | exact in6) rfl rfl ?_
                      refine WO.want 59 rfl rfl ?_
                      refine WO.addS rfl rfl (by first | omega | (simp only [len_toBytes, List.length_append, List.length_cons, List.length_nil, List.length_drop, List.length_take]; omega)) rfl ?_
                      refine WO.want 59 rfl rfl ?_
                      refine WO.eqlS rfl rfl rfl ?_
                      refine WO.pickT rfl rfl rfl ?_
                      refine WO.assign rfl rfl ?_
                      refine WO.nil ?_
                      refine thnN ?_
                      refine WP.seq ?_
                      refine WP.seq ?_
                      refine WP.region ?_
                      refine WO.fieldAddr rfl fo_23_2 rfl ?_
                      refine WO.load rfl sc_3 (by first | exact in0 | exact in1 | exact in2 | exact in3 | exact in4 | exact in5 | exact in6) rfl rfl ?_
                      refine WO.nil ?_
                      refine thnN ?_
                      refine WP.block ?_
                      refine WP.seq ?_
                      refine WP.region ?_
                      refine WO.eqlI rfl rfl rfl ?_
                      refine WO.assign rfl rfl ?_
                      refine WO.nil ?_
                      refine thnN ?_
                      refine WP.condL 72 rfl (fun h21 => ?_) (fun h22 => ?_)
                      · try simp only [decide_eq_true_eq, decide_eq_false_iff_not, beq_iff_eq, beq_eq_false_iff_ne, bne_iff_ne, bne_eq_false_iff_eq, Bool.not_eq_true', Bool.not_eq_false', Int.not_lt, Int.not_le, ne_eq] at h21
                        refine WP.seq ?_
                        refine WP.region ?_
                        refine WO.move rfl rfl ?_
                        refine WO.move rfl rfl ?_
                        refine WO.split 75 rfl (fun h23 => ?_) (fun h24 => ?_)
                        · try simp only [decide_eq_true_eq, decide_eq_false_iff_not, beq_iff_eq, beq_eq_false_iff_ne, bne_iff_ne, bne_eq_false_iff_eq, Bool.not_eq_true', Bool.not_eq_false', Int.not_lt, Int.not_le, ne_eq] at h23
                          refine WO.want 75 rfl rfl ?_
                          first | refine WO.loadAll rfl ag_23 (by first | exact in0 | exact in1 | exact in2 | exact in3 | exact in4 | exact in5 | exact in6) rfl rfl ?_ | refine WO.loadAgg rfl ag_23 (by first | exact in0 | exact in1 | exact in2 | exact in3 | exact in4 | exact in5 | exact in6) rfl rfl rfl ?_
                          refine WO.want 75 rfl rfl ?_
                          first | refine WO.callR 0 rfl (s_entry_asked hG e) rfl ca_40 rfl ?_ | refine WO.callR 1 rfl (s_entry_asked hG e) rfl ca_40 rfl ?_ | refine WO.callR 2 rfl (s_entry_asked hG e) rfl ca_40 rfl ?_ | refine WO.callR 3 rfl (s_entry_asked hG e) rfl ca_40 rfl ?_ | refine WO.callR 4 rfl (s_entry_asked hG e) rfl ca_40 rfl ?_ | refine WO.callR 5 rfl (s_entry_asked hG e) rfl ca_40 rfl ?_ | refine WO.callR 6 rfl (s_entry_asked hG e) rfl ca_40 rfl ?_ | refine WO.callR 7 rfl (s_entry_asked hG e) rfl ca_40 rfl ?_
                          rintro _ rfl
                          refine WO.pickT rfl rfl rfl ?_
                          refine WO.assign rfl rfl ?_
                          refine WO.nil ?_
                          refine thnN ?_
                          refine WP.ret ?_
                          refine blkR ?_
                          refine thnR ?_
                          refine ⟨_, [G], (Res.one rfl), (by first | exact Imp.refl _ | exact Imp.pick 0 rfl | exact Imp.pick 1 rfl | exact Imp.pick 2 rfl | exact Imp.pick 3 rfl | exact Imp.pick 4 rfl | exact Imp.pick 5 rfl | exact Imp.pick 6 rfl), ?_⟩
                          refine ⟨congrArg Value.bool ?_, rfl⟩
                          first | (simp_all [mayF, headF, noAnswerF, noRequestF]; done) | (simp_all [mayF, headF, noAnswerF, noRequestF]; omega)
                        · try simp only [decide_eq_true_eq, decide_eq_false_iff_not, beq_iff_eq, beq_eq_false_iff_ne, bne_iff_ne, bne_eq_false_iff_eq, Bool.not_eq_true', Bool.not_eq_false', Int.not_lt, Int.not_le, ne_eq] at h24
                          refine WO.pass 75 rfl rfl rfl rfl ?_
                          refine WO.pass 75 rfl rfl rfl rfl ?_
                          refine WO.pickF rfl rfl rfl ?_
                          refine WO.assign rfl rfl ?_
                          refine WO.nil ?_
                          refine thnN ?_
                          refine WP.ret ?_
                          refine blkR ?_
                          refine thnR ?_
                          refine ⟨_, [G], (Res.one rfl), (by first | exact Imp.refl _ | exact Imp.pick 0 rfl | exact Imp.pick 1 rfl | exact Imp.pick 2 rfl | exact Imp.pick 3 rfl | exact Imp.pick 4 rfl | exact Imp.pick 5 rfl | exact Imp.pick 6 rfl), ?_⟩
                          refine ⟨congrArg Value.bool ?_, rfl⟩
                          first | (simp_all [mayF, headF, noAnswerF, noRequestF]; done) | (simp_all [mayF, headF, noAnswerF, noRequestF]; omega)
                      · try simp only [decide_eq_true_eq, decide_eq_false_iff_not, beq_iff_eq, beq_eq_false_iff_ne, bne_iff_ne, bne_eq_false_iff_eq, Bool.not_eq_true', Bool.not_eq_false', Int.not_lt, Int.not_le, ne_eq] at h22
                        refine WP.seq ?_
                        refine WP.region ?_
                        refine WO.eqlI rfl rfl rfl ?_
                        refine WO.assign rfl rfl ?_
                        refine WO.nil ?_
                        refine thnN ?_
                        refine WP.condL 79 rfl (fun h25 => ?_) (fun h26 => ?_)
                        · try simp only [decide_eq_true_eq, decide_eq_false_iff_not, beq_iff_eq, beq_eq_false_iff_ne, bne_iff_ne, bne_eq_false_iff_eq, Bool.not_eq_true', Bool.not_eq_false', Int.not_lt, Int.not_le, ne_eq] at h25
                          refine WP.seq ?_
                          refine WP.region ?_
                          refine WO.move rfl rfl ?_
                          refine WO.move rfl rfl ?_
                          refine WO.split 82 rfl (fun h27 => ?_) (fun h28 => ?_)
                          · try simp only [decide_eq_true_eq, decide_eq_false_iff_not, beq_iff_eq, beq_eq_false_iff_ne, bne_iff_ne, bne_eq_false_iff_eq, Bool.not_eq_true', Bool.not_eq_false', Int.not_lt, Int.not_le, ne_eq] at h27
                            refine WO.want 82 rfl rfl ?_
                            first | refine WO.loadAll rfl ag_23 (by first | exact in0 | exact in1 | exact in2 | exact in3 | exact in4 | exact in5 | exact in6) rfl rfl ?_ | refine WO.loadAgg rfl ag_23 (by first | exact in0 | exact in1 | exact in2 | exact in3 | exact in4 | exact in5 | exact in6) rfl rfl rfl ?_
                            refine WO.want 82 rfl rfl ?_
                            refine WO.callP (s_entry_answered e) rfl ca_41 rfl ?_
                            refine WO.pickT rfl rfl rfl ?_
                            refine WO.assign rfl rfl ?_
                            refine WO.nil ?_
                            refine thnN ?_
                            refine WP.ret ?_
                            refine blkR ?_
                            refine thnR ?_
                            refine ⟨_, [G], (Res.one rfl), (by first | exact Imp.refl _ | exact Imp.pick 0 rfl | exact Imp.pick 1 rfl | exact Imp.pick 2 rfl | exact Imp.pick 3 rfl | exact Imp.pick 4 rfl | exact Imp.pick 5 rfl | exact Imp.pick 6 rfl), ?_⟩
                            refine ⟨congrArg Value.bool ?_, rfl⟩
                            first | (simp_all [mayF, headF, noAnswerF, noRequestF]; done) | (simp_all [mayF, headF, noAnswerF, noRequestF]; omega)
                          · try simp only [decide_eq_true_eq, decide_eq_false_iff_not, beq_iff_eq, beq_eq_false_iff_ne, bne_iff_ne, bne_eq_false_iff_eq, Bool.not_eq_true', Bool.not_eq_false', Int.not_lt, Int.not_le, ne_eq] at h28
                            refine WO.pass 82 rfl rfl rfl rfl ?_
                            refine WO.pass 82 rfl rfl rfl rfl ?_
                            refine WO.pickF rfl rfl rfl ?_
                            refine WO.assign rfl rfl ?_
                            refine WO.nil ?_
                            refine thnN ?_
                            refine WP.ret ?_
                            refine blkR ?_
                            refine thnR ?_
                            refine ⟨_, [G], (Res.one rfl), (by first | exact Imp.refl _ | exact Imp.pick 0 rfl | exact Imp.pick 1 rfl | exact Imp.pick 2 rfl | exact Imp.pick 3 rfl | exact Imp.pick 4 rfl | exact Imp.pick 5 rfl | exact Imp.pick 6 rfl), ?_⟩
                            refine ⟨congrArg Value.bool ?_, rfl⟩
                            first | (simp_all [mayF, headF, noAnswerF, noRequestF]; done) | (simp_all [mayF, headF, noAnswerF, noRequestF]; omega)
                        · try simp only [decide_eq_true_eq, decide_eq_false_iff_not, beq_iff_eq, beq_eq_false_iff_ne, bne_iff_ne, bne_eq_false_iff_eq, Bool.not_eq_true', Bool.not_eq_false', Int.not_lt, Int.not_le, ne_eq] at h26
                          refine WP.seq ?_
                          refine WP.region ?_
                          refine WO.eqlI rfl rfl rfl ?_
                          refine WO.assign rfl rfl ?_
                          refine WO.nil ?_
                          refine thnN ?_
                          refine WP.condL 86 rfl (fun h29 => ?_) (fun h30 => ?_)
                          · try simp only [decide_eq_true_eq, decide_eq_false_iff_not, beq_iff_eq, beq_eq_false_iff_ne, bne_iff_ne, bne_eq_false_iff_eq, Bool.not_eq_true', Bool.not_eq_false', Int.not_lt, Int.not_le, ne_eq] at h29
                            refine WP.seq ?_
                            refine WP.region ?_
                            refine WO.move rfl rfl ?_
                            refine WO.move rfl rfl ?_
                            refine WO.split 89 rfl (fun h31 => ?_) (fun h32 => ?_)
                            · try simp only [decide_eq_true_eq, decide_eq_false_iff_not, beq_iff_eq, beq_eq_false_iff_ne, bne_iff_ne, bne_eq_false_iff_eq, Bool.not_eq_true', Bool.not_eq_false', Int.not_lt, Int.not_le, ne_eq] at h31
                              refine WO.want 89 rfl rfl ?_
                              refine WO.move rfl rfl ?_
                              refine WO.pickT rfl rfl rfl ?_
                              refine WO.assign rfl rfl ?_
                              refine WO.nil ?_
                              refine thnN ?_
                              refine WP.ret ?_
                              refine blkR ?_
                              refine thnR ?_
                              refine ⟨_, [G], (Res.one rfl), (by first | exact Imp.refl _ | exact Imp.pick 0 rfl | exact Imp.pick 1 rfl | exact Imp.pick 2 rfl | exact Imp.pick 3 rfl | exact Imp.pick 4 rfl | exact Imp.pick 5 rfl | exact Imp.pick 6 rfl), ?_⟩
                              refine ⟨congrArg Value.bool ?_, rfl⟩
                              first | (simp_all [mayF, headF, noAnswerF, noRequestF]; done) | (simp_all [mayF, headF, noAnswerF, noRequestF]; omega)
                            · try simp only [decide_eq_true_eq, decide_eq_false_iff_not, beq_iff_eq, beq_eq_false_iff_ne, bne_iff_ne, bne_eq_false_iff_eq, Bool.not_eq_true', Bool.not_eq_false', Int.not_lt, Int.not_le, ne_eq] at h32
                              refine WO.pass 89 rfl rfl rfl rfl ?_
                              refine WO.pickF rfl rfl rfl ?_
                              refine WO.assign rfl rfl ?_
                              refine WO.nil ?_
                              refine thnN ?_
                              refine WP.ret ?_
                              refine blkR ?_
                              refine thnR ?_
                              refine ⟨_, [G], (Res.one rfl), (by first | exact Imp.refl _ | exact Imp.pick 0 rfl | exact Imp.pick 1 rfl | exact Imp.pick 2 rfl | exact Imp.pick 3 rfl | exact Imp.pick 4 rfl | exact Imp.pick 5 rfl | exact Imp.pick 6 rfl), ?_⟩
                              refine ⟨congrArg Value.bool ?_, rfl⟩
                              first | (simp_all [mayF, headF, noAnswerF, noRequestF]; done) | (simp_all [mayF, headF, noAnswerF, noRequestF]; omega)
                          · try simp only [decide_eq_true_eq, decide_eq_false_iff_not, beq_iff_eq, beq_eq_false_iff_ne, bne_iff_ne, bne_eq_false_iff_eq, Bool.not_eq_true', Bool.not_eq_false', Int.not_lt, Int.not_le, ne_eq] at h30
                            refine WP.skip ?_
                            refine blkN ?_
                            refine thnN ?_
                            refine WP.seq ?_
                            refine WP.region ?_
                            refine WO.assign rfl rfl ?_
                            refine WO.nil ?_
                            refine thnN ?_
                            refine WP.ret ?_
                            refine ⟨_, [G], (Res.one rfl), (by first | exact Imp.refl _ | exact Imp.pick 0 rfl | exact Imp.pick 1 rfl | exact Imp.pick 2 rfl | exact Imp.pick 3 rfl | exact Imp.pick 4 rfl | exact Imp.pick 5 rfl | exact Imp.pick 6 rfl), ?_⟩
                            refine ⟨congrArg Value.bool ?_, rfl⟩
                            first | (simp_all [mayF, headF, noAnswerF, noRequestF]; done) | (simp_all [mayF, headF, noAnswerF, noRequestF]; omega)
                    · try simp only [decide_eq_true_eq, decide_eq_false_iff_not, beq_iff_eq, beq_eq_false_iff_ne, bne_iff_ne, bne_eq_false_iff_eq, Bool.not_eq_true', Bool.not_eq_false', Int.not_lt, Int.not_le, ne_eq] at h20
                      refine WO.pass 59 rfl rfl rfl rfl ?_
                      refine WO.pass 59 rfl rfl rfl rfl ?_
                      refine WO.pass 59 rfl rfl rfl rfl ?_
                      refine WO.pass 59 rfl rfl rfl rfl ?_
                      refine WO.pass 59 rfl rfl rfl rfl ?_
                      refine WO.pass 59 rfl rfl rfl rfl ?_
                      refine WO.pass 59 rfl rfl rfl rfl ?_
                      refine WO.pass 59 rfl rfl rfl rfl ?_
                      refine WO.pass 59 rfl rfl rfl rfl ?_
                      refine WO.pickF rfl rfl rfl ?_
                      refine WO.assign rfl rfl ?_
                      refine WO.nil ?_
                      refine thnN ?_
                      refine WP.seq ?_
                      refine WP.seq ?_
                      refine WP.region ?_
                      refine WO.fieldAddr rfl fo_23_2 rfl ?_
                      refine WO.load rfl sc_3 (by first | exact in0 | exact in1 | exact in2 | exact in3 | exact in4 | exact in5 | exact in6) rfl rfl ?_
                      refine WO.nil ?_
                      refine thnN ?_
                      refine WP.block ?_
                      refine WP.seq ?_
                      refine WP.region ?_
                      refine WO.eqlI rfl rfl rfl ?_
                      refine WO.assign rfl rfl ?_
                      refine WO.nil ?_
                      refine thnN ?_
                      refine WP.condL 72 rfl (fun h33 => ?_) (fun h34 => ?_)
                      · try simp only [decide_eq_true_eq, decide_eq_false_iff_not, beq_iff_eq, beq_eq_false_iff_ne, bne_iff_ne, bne_eq_false_iff_eq, Bool.not_eq_true', Bool.not_eq_false', Int.not_lt, Int.not_le, ne_eq] at h33
                        refine WP.seq ?_
                        refine WP.region ?_
                        refine WO.move rfl rfl ?_
                        refine WO.move rfl rfl ?_
                        refine WO.split 75 rfl (fun h35 => ?_) (fun h36 => ?_)
                        · try simp only [decide_eq_true_eq, decide_eq_false_iff_not, beq_iff_eq, beq_eq_false_iff_ne, bne_iff_ne, bne_eq_false_iff_eq, Bool.not_eq_true', Bool.not_eq_false', Int.not_lt, Int.not_le, ne_eq] at h35
                          refine WO.want 75 rfl rfl ?_
                          first | refine WO.loadAll rfl ag_23 (by first | exact in0 | exact in1 | exact in2 | exact in3 | exact in4 | exact in5 | exact in6) rfl rfl ?_ | refine WO.loadAgg rfl ag_23 (by first | exact in0 | exact in1 | exact in2 | exact in3 | exact in4 | exact in5 | exact in6) rfl rfl rfl ?_
                          refine WO.want 75 rfl rfl ?_
                          first | refine WO.callR 0 rfl (s_entry_asked hG e) rfl ca_40 rfl ?_ | refine WO.callR 1 rfl (s_entry_asked hG e) rfl ca_40 rfl ?_ | refine WO.callR 2 rfl (s_entry_asked hG e) rfl ca_40 rfl ?_ | refine WO.callR 3 rfl (s_entry_asked hG e) rfl ca_40 rfl ?_ | refine WO.callR 4 rfl (s_entry_asked hG e) rfl ca_40 rfl ?_ | refine WO.callR 5 rfl (s_entry_asked hG e) rfl ca_40 rfl ?_ | refine WO.callR 6 rfl (s_entry_asked hG e) rfl ca_40 rfl ?_ | refine WO.callR 7 rfl (s_entry_asked hG e) rfl ca_40 rfl ?_
                          rintro _ rfl
                          refine WO.pickT rfl rfl rfl ?_
                          refine WO.assign rfl rfl ?_
                          refine WO.nil ?_
                          refine thnN ?_
                          refine WP.ret ?_
                          refine blkR ?_
                          refine thnR ?_
                          refine ⟨_, [G], (Res.one rfl), (by first | exact Imp.refl _ | exact Imp.pick 0 rfl | exact Imp.pick 1 rfl | exact Imp.pick 2 rfl | exact Imp.pick 3 rfl | exact Imp.pick 4 rfl | exact Imp.pick 5 rfl | exact Imp.pick 6 rfl), ?_⟩
                          refine ⟨congrArg Value.bool ?_, rfl⟩
                          first | (simp_all [mayF, headF, noAnswerF, noRequestF]; done) | (simp_all [mayF, headF, noAnswerF, noRequestF]; omega)
                        · try simp only [decide_eq_true_eq, decide_eq_false_iff_not, beq_iff_eq, beq_eq_false_iff_ne, bne_iff_ne, bne_eq_false_iff_eq, Bool.not_eq_true', Bool.not_eq_false', Int.not_lt, Int.not_le, ne_eq] at h36
                          refine WO.pass 75 rfl rfl rfl rfl ?_
                          refine WO.pass 75 rfl rfl rfl rfl ?_
                          refine WO.pickF rfl rfl rfl ?_
                          refine WO.assign rfl rfl ?_
                          refine WO.nil ?_
                          refine thnN ?_
                          refine WP.ret ?_
                          refine blkR ?_
                          refine thnR ?_
                          refine ⟨_, [G], (Res.one rfl), (by first | exact Imp.refl _ | exact Imp.pick 0 rfl | exact Imp.pick 1 rfl | exact Imp.pick 2 rfl | exact Imp.pick 3 rfl | exact Imp.pick 4 rfl | exact Imp.pick 5 rfl | exact Imp.pick 6 rfl), ?_⟩
                          refine ⟨congrArg Value.bool ?_, rfl⟩
                          first | (simp_all [mayF, headF, noAnswerF, noRequestF]; done) | (simp_all [mayF, headF, noAnswerF, noRequestF]; omega)
                      · try simp only [decide_eq_true_eq, decide_eq_false_iff_not, beq_iff_eq, beq_eq_false_iff_ne, bne_iff_ne, bne_eq_false_iff_eq, Bool.not_eq_true', Bool.not_eq_false', Int.not_lt, Int.not_le, ne_eq] at h34
                        refine WP.seq ?_
                        refine WP.region ?_
                        refine WO.eqlI rfl rfl rfl ?_
                        refine WO.assign rfl rfl ?_
                        refine WO.nil ?_
                        refine thnN ?_
                        refine WP.condL 79 rfl (fun h37 => ?_) (fun h38 => ?_)
                        · try simp only [decide_eq_true_eq, decide_eq_false_iff_not, beq_iff_eq, beq_eq_false_iff_ne, bne_iff_ne, bne_eq_false_iff_eq, Bool.not_eq_true', Bool.not_eq_false', Int.not_lt, Int.not_le, ne_eq] at h37
                          refine WP.seq ?_
                          refine WP.region ?_
                          refine WO.move rfl rfl ?_
                          refine WO.move rfl rfl ?_
                          refine WO.pass 82 rfl rfl rfl rfl ?_
                          refine WO.pass 82 rfl rfl rfl rfl ?_
                          refine WO.pickF rfl rfl rfl ?_
                          refine WO.assign rfl rfl ?_
                          refine WO.nil ?_
                          refine thnN ?_
                          refine WP.ret ?_
                          refine blkR ?_
                          refine thnR ?_
                          refine ⟨_, [G], (Res.one rfl), (by first | exact Imp.refl _ | exact Imp.pick 0 rfl | exact Imp.pick 1 rfl | exact Imp.pick 2 rfl | exact Imp.pick 3 rfl | exact Imp.pick 4 rfl | exact Imp.pick 5 rfl | exact Imp.pick 6 rfl), ?_⟩
                          refine ⟨congrArg Value.bool ?_, rfl⟩
                          first | (simp_all [mayF, headF, noAnswerF, noRequestF]; done) | (simp_all [mayF, headF, noAnswerF, noRequestF]; omega)
                        · try simp only [decide_eq_true_eq, decide_eq_false_iff_not, beq_iff_eq, beq_eq_false_iff_ne, bne_iff_ne, bne_eq_false_iff_eq, Bool.not_eq_true', Bool.not_eq_false', Int.not_lt, Int.not_le, ne_eq] at h38
                          refine WP.seq ?_
                          refine WP.region ?_
                          refine WO.eqlI rfl rfl rfl ?_
                          refine WO.assign rfl rfl ?_
                          refine WO.nil ?_
                          refine thnN ?_
                          refine WP.condL 86 rfl (fun h39 => ?_) (fun h40 => ?_)
                          · try simp only [decide_eq_true_eq, decide_eq_false_iff_not, beq_iff_eq, beq_eq_false_iff_ne, bne_iff_ne, bne_eq_false_iff_eq, Bool.not_eq_true', Bool.not_eq_false', Int.not_lt, Int.not_le, ne_eq] at h39
                            refine WP.seq ?_
                            refine WP.region ?_
                            refine WO.move rfl rfl ?_
                            refine WO.move rfl rfl ?_
                            refine WO.pass 89 rfl rfl rfl rfl ?_
                            refine WO.pickF rfl rfl rfl ?_
                            refine WO.assign rfl rfl ?_
                            refine WO.nil ?_
                            refine thnN ?_
                            refine WP.ret ?_
                            refine blkR ?_
                            refine thnR ?_
                            refine ⟨_, [G], (Res.one rfl), (by first | exact Imp.refl _ | exact Imp.pick 0 rfl | exact Imp.pick 1 rfl | exact Imp.pick 2 rfl | exact Imp.pick 3 rfl | exact Imp.pick 4 rfl | exact Imp.pick 5 rfl | exact Imp.pick 6 rfl), ?_⟩
                            refine ⟨congrArg Value.bool ?_, rfl⟩
                            first | (simp_all [mayF, headF, noAnswerF, noRequestF]; done) | (simp_all [mayF, headF, noAnswerF, noRequestF]; omega)
                          · try simp only [decide_eq_true_eq, decide_eq_false_iff_not, beq_iff_eq, beq_eq_false_iff_ne, bne_iff_ne, bne_eq_false_iff_eq, Bool.not_eq_true', Bool.not_eq_false', Int.not_lt, Int.not_le, ne_eq] at h40
                            refine WP.skip ?_
                            refine blkN ?_
                            refine thnN ?_
                            refine WP.seq ?_
                            refine WP.region ?_
                            refine WO.assign rfl rfl ?_
                            refine WO.nil ?_
                            refine thnN ?_
                            refine WP.ret ?_
                            refine ⟨_, [G], (Res.one rfl), (by first | exact Imp.refl _ | exact Imp.pick 0 rfl | exact Imp.pick 1 rfl | exact Imp.pick 2 rfl | exact Imp.pick 3 rfl | exact Imp.pick 4 rfl | exact Imp.pick 5 rfl | exact Imp.pick 6 rfl), ?_⟩
                            refine ⟨congrArg Value.bool ?_, rfl⟩
                            first | (simp_all [mayF, headF, noAnswerF, noRequestF]; done) | (simp_all [mayF, headF, noAnswerF, noRequestF]; omega)
                  · try simp only [decide_eq_true_eq, decide_eq_false_iff_not, beq_iff_eq, beq_eq_false_iff_ne, bne_iff_ne, bne_eq_false_iff_eq, Bool.not_eq_true', Bool.not_eq_false', Int.not_lt, Int.not_le, ne_eq] at h18
                    refine WO.pass 51 rfl rfl rfl rfl ?_
                    refine WO.pass 51 rfl rfl rfl rfl ?_
                    refine WO.pass 51 rfl rfl rfl rfl ?_
                    refine WO.pickF rfl rfl rfl ?_
                    refine WO.assign rfl rfl ?_
                    refine WO.nil ?_
                    refine thnN ?_
                    refine WP.seq ?_
                    refine WP.region ?_
                    refine WO.fieldAddr rfl fo_23_7 rfl ?_
                    refine WO.load rfl sc_3 (by first | exact in0 | exact in1 | exact in2 | exact in3 | exact in4 | exact in5 | exact in6) rfl rfl ?_
                    refine WO.eqlI rfl rfl rfl ?_
                    refine WO.move rfl rfl ?_
                    refine WO.split 59 rfl (fun h41 => ?_) (fun h42 => ?_)
                    · try simp only [decide_eq_true_eq, decide_eq_false_iff_not, beq_iff_eq, beq_eq_false_iff_ne, bne_iff_ne, bne_eq_false_iff_eq, Bool.not_eq_true', Bool.not_eq_false', Int.not_lt, Int.not_le, ne_eq] at h41
                      refine WO.want 59 rfl rfl ?_
                      refine WO.fieldAddr rfl fo_23_11 rfl ?_
                      refine WO.want 59 rfl rfl ?_
                      refine WO.load rfl sc_9 (by first | exact in0 | exact in1 | exact in2 | exact in3 | exact in4 | exact in5 | exact in6) rfl rfl ?_
                      refine WO.want 59 rfl rfl ?_
                      refine WO.fieldAddr rfl fo_23_12 rfl ?_
                      refine WO.want 59 rfl rfl ?_
                      refine WO.load rfl sc_9 (by first | exact in0 | exact in1 | exact in2 | exact in3 | exact in4 | exact in5 | exact in6) rfl rfl ?_
                      refine WO.want 59 rfl rfl ?_
                      refine WO.addS rfl rfl (by first | omega | (simp only [len_toBytes, List.length_append, List.length_cons, List.length_nil, List.length_drop, List.length_take]; omega)) rfl ?_
                      refine WO.want 59 rfl rfl ?_
                      refine WO.fieldAddr rfl fo_23_13 rfl ?_
                      refine WO.want 59 rfl rfl ?_
                      refine WO.load rfl sc_9 (by first | exact in0 | exact in1 | exact in2 | exact in3 | exact in4 | exact in5 | exact in6) rfl rfl ?_
                      refine WO.want 59 rfl rfl ?_
                      refine WO.addS rfl rfl (by first | omega | (simp only [len_toBytes, List.length_append, List.length_cons, List.length_nil, List.length_drop, List.length_take]; omega)) rfl ?_
                      refine WO.want 59 rfl rfl ?_
                      refine WO.eqlS rfl rfl rfl ?_
                      refine WO.pickT rfl rfl rfl ?_
                      refine WO.assign rfl rfl ?_
                      refine WO.nil ?_
                      refine thnN ?_
                      refine WP.seq ?_
                      refine WP.seq ?_
                      refine WP.region ?_
                      refine WO.fieldAddr rfl fo_23_2 rfl ?_
                      refine WO.load rfl sc_3 (by first | exact in0 | exact in1 | exact in2 | exact in3 | exact in4 | exact in5 | exact in6) rfl rfl ?_
                      refine WO.nil ?_
                      refine thnN ?_
                      refine WP.block ?_
                      refine WP.seq ?_
                      refine WP.region ?_
                      refine WO.eqlI rfl rfl rfl ?_
                      refine WO.assign rfl rfl ?_
                      refine WO.nil ?_
                      refine thnN ?_
                      refine WP.condL 72 rfl (fun h43 => ?_) (fun h44 => ?_)
                      · try simp only [decide_eq_true_eq, decide_eq_false_iff_not, beq_iff_eq, beq_eq_false_iff_ne, bne_iff_ne, bne_eq_false_iff_eq, Bool.not_eq_true', Bool.not_eq_false', Int.not_lt, Int.not_le, ne_eq] at h43
                        refine WP.seq ?_
                        refine WP.region ?_
                        refine WO.move rfl rfl ?_
                        refine WO.move rfl rfl ?_
                        refine WO.pass 75 rfl rfl rfl rfl ?_
                        refine WO.pass 75 rfl rfl rfl rfl ?_
                        refine WO.pickF rfl rfl rfl ?_
                        refine WO.assign rfl rfl ?_
                        refine WO.nil ?_
                        refine thnN ?_
                        refine WP.ret ?_
                        refine blkR ?_
                        refine thnR ?_
                        refine ⟨_, [G], (Res.one rfl), (by first | exact Imp.refl _ | exact Imp.pick 0 rfl | exact Imp.pick 1 rfl | exact Imp.pick 2 rfl | exact Imp.pick 3 rfl | exact Imp.pick 4 rfl | exact Imp.pick 5 rfl | exact Imp.pick 6 rfl), ?_⟩
                        refine ⟨congrArg Value.bool ?_, rfl⟩
                        first | (simp_all [mayF, headF, noAnswerF, noRequestF]; done) | (simp_all [mayF, headF, noAnswerF, noRequestF]; omega)
                      · try simp only [decide_eq_true_eq, decide_eq_false_iff_not, beq_iff_eq, beq_eq_false_iff_ne, bne_iff_ne, bne_eq_false_iff_eq, Bool.not_eq_true', Bool.not_eq_false', Int.not_lt, Int.not_le, ne_eq] at h44
                        refine WP.seq ?_
                        refine WP.region ?_
                        refine WO.eqlI rfl rfl rfl ?_
                        refine WO.assign rfl rfl ?_
                        refine WO.nil ?_
                        refine thnN ?_
                        refine WP.condL 79 rfl (fun h45 => ?_) (fun h46 => ?_)
                        · try simp only [decide_eq_true_eq, decide_eq_false_iff_not, beq_iff_eq, beq_eq_false_iff_ne, bne_iff_ne, bne_eq_false_iff_eq, Bool.not_eq_true', Bool.not_eq_false', Int.not_lt, Int.not_le, ne_eq] at h45
                          refine WP.seq ?_
                          refine WP.region ?_
                          refine WO.move rfl rfl ?_
                          refine WO.move rfl rfl ?_
                          refine WO.split 82 rfl (fun h47 => ?_) (fun h48 => ?_)
                          · try simp only [decide_eq_true_eq, decide_eq_false_iff_not, beq_iff_eq, beq_eq_false_iff_ne, bne_iff_ne, bne_eq_false_iff_eq, Bool.not_eq_true', Bool.not_eq_false', Int.not_lt, Int.not_le, ne_eq] at h47
                            refine WO.want 82 rfl rfl ?_
                            first | refine WO.loadAll rfl ag_23 (by first | exact in0 | exact in1 | exact in2 | exact in3 | exact in4 | exact in5 | exact in6) rfl rfl ?_ | refine WO.loadAgg rfl ag_23 (by first | exact in0 | exact in1 | exact in2 | exact in3 | exact in4 | exact in5 | exact in6) rfl rfl rfl ?_
                            refine WO.want 82 rfl rfl ?_
                            refine WO.callP (s_entry_answered e) rfl ca_41 rfl ?_
                            refine WO.pickT rfl rfl rfl ?_
                            refine WO.assign rfl rfl ?_
                            refine WO.nil ?_
                            refine thnN ?_
                            refine WP.ret ?_
                            refine blkR ?_
                            refine thnR ?_
                            refine ⟨_, [G], (Res.one rfl), (by first | exact Imp.refl _ | exact Imp.pick 0 rfl | exact Imp.pick 1 rfl | exact Imp.pick 2 rfl | exact Imp.pick 3 rfl | exact Imp.pick 4 rfl | exact Imp.pick 5 rfl | exact Imp.pick 6 rfl), ?_⟩
                            refine ⟨congrArg Value.bool ?_, rfl⟩
                            first | (simp_all [mayF, headF, noAnswerF, noRequestF]; done) | (simp_all [mayF, headF, noAnswerF, noRequestF]; omega)
                          · try simp only [decide_eq_true_eq, decide_eq_false_iff_not, beq_iff_eq, beq_eq_false_iff_ne, bne_iff_ne, bne_eq_false_iff_eq, Bool.not_eq_true', Bool.not_eq_false', Int.not_lt, Int.not_le, ne_eq] at h48
                            refine WO.pass 82 rfl rfl rfl rfl ?_
                            refine WO.pass 82 rfl rfl rfl rfl ?_
                            refine WO.pickF rfl rfl rfl ?_
                            refine WO.assign rfl rfl ?_
                            refine WO.nil ?_
                            refine thnN ?_
                            refine WP.ret ?_
                            refine blkR ?_
                            refine thnR ?_
                            refine ⟨_, [G], (Res.one rfl), (by first | exact Imp.refl _ | exact Imp.pick 0 rfl | exact Imp.pick 1 rfl | exact Imp.pick 2 rfl | exact Imp.pick 3 rfl | exact Imp.pick 4 rfl | exact Imp.pick 5 rfl | exact Imp.pick 6 rfl), ?_⟩
                            refine ⟨congrArg Value.bool ?_, rfl⟩
                            first | (simp_all [mayF, headF, noAnswerF, noRequestF]; done) | (simp_all [mayF, headF, noAnswerF, noRequestF]; omega)
                        · try simp only [decide_eq_true_eq, decide_eq_false_iff_not, beq_iff_eq, beq_eq_false_iff_ne, bne_iff_ne, bne_eq_false_iff_eq, Bool.not_eq_true', Bool.not_eq_false', Int.not_lt, Int.not_le, ne_eq] at h46
                          refine WP.seq ?_
                          refine WP.region ?_
                          refine WO.eqlI rfl rfl rfl ?_
                          refine WO.assign rfl rfl ?_
                          refine WO.nil ?_
                          refine thnN ?_
                          refine WP.condL 86 rfl (fun h49 => ?_) (fun h50 => ?_)
                          · try simp only [decide_eq_true_eq, decide_eq_false_iff_not, beq_iff_eq, beq_eq_false_iff_ne, bne_iff_ne, bne_eq_false_iff_eq, Bool.not_eq_true', Bool.not_eq_false', Int.not_lt, Int.not_le, ne_eq] at h49
                            refine WP.seq ?_
                            refine WP.region ?_
                            refine WO.move rfl rfl ?_
                            refine WO.move rfl rfl ?_
                            refine WO.split 89 rfl (fun h51 => ?_) (fun h52 => ?_)
                            · try simp only [decide_eq_true_eq, decide_eq_false_iff_not, beq_iff_eq, beq_eq_false_iff_ne, bne_iff_ne, bne_eq_false_iff_eq, Bool.not_eq_true', Bool.not_eq_false', Int.not_lt, Int.not_le, ne_eq] at h51
                              refine WO.want 89 rfl rfl ?_
                              refine WO.move rfl rfl ?_
                              refine WO.pickT rfl rfl rfl ?_
                              refine WO.assign rfl rfl ?_
                              refine WO.nil ?_
                              refine thnN ?_
                              refine WP.ret ?_
                              refine blkR ?_
                              refine thnR ?_
                              refine ⟨_, [G], (Res.one rfl), (by first | exact Imp.refl _ | exact Imp.pick 0 rfl | exact Imp.pick 1 rfl | exact Imp.pick 2 rfl | exact Imp.pick 3 rfl | exact Imp.pick 4 rfl | exact Imp.pick 5 rfl | exact Imp.pick 6 rfl), ?_⟩
                              refine ⟨congrArg Value.bool ?_, rfl⟩
                              first | (simp_all [mayF, headF, noAnswerF, noRequestF]; done) | (simp_all [mayF, headF, noAnswerF, noRequestF]; omega)
                            · try simp only [decide_eq_true_eq, decide_eq_false_iff_not, beq_iff_eq, beq_eq_false_iff_ne, bne_iff_ne, bne_eq_false_iff_eq, Bool.not_eq_true', Bool.not_eq_false', Int.not_lt, Int.not_le, ne_eq] at h52
                              refine WO.pass 89 rfl rfl rfl rfl ?_
                              refine WO.pickF rfl rfl rfl ?_
                              refine WO.assign rfl rfl ?_
                              refine WO.nil ?_
                              refine thnN ?_
                              refine WP.ret ?_
                              refine blkR ?_
                              refine thnR ?_
                              refine ⟨_, [G], (Res.one rfl), (by first | exact Imp.refl _ | exact Imp.pick 0 rfl | exact Imp.pick 1 rfl | exact Imp.pick 2 rfl | exact Imp.pick 3 rfl | exact Imp.pick 4 rfl | exact Imp.pick 5 rfl | exact Imp.pick 6 rfl), ?_⟩
                              refine ⟨congrArg Value.bool ?_, rfl⟩
                              first | (simp_all [mayF, headF, noAnswerF, noRequestF]; done) | (simp_all [mayF, headF, noAnswerF, noRequestF]; omega)
                          · try simp only [decide_eq_true_eq, decide_eq_false_iff_not, beq_iff_eq, beq_eq_false_iff_ne, bne_iff_ne, bne_eq_false_iff_eq, Bool.not_eq_true', Bool.not_eq_false', Int.not_lt, Int.not_le, ne_eq] at h50
                            refine WP.skip ?_
                            refine blkN ?_
                            refine thnN ?_
                            refine WP.seq ?_
                            refine WP.region ?_
                            refine WO.assign rfl rfl ?_
                            refine WO.nil ?_
                            refine thnN ?_
                            refine WP.ret ?_
                            refine ⟨_, [G], (Res.one rfl), (by first | exact Imp.refl _ | exact Imp.pick 0 rfl | exact Imp.pick 1 rfl | exact Imp.pick 2 rfl | exact Imp.pick 3 rfl | exact Imp.pick 4 rfl | exact Imp.pick 5 rfl | exact Imp.pick 6 rfl), ?_⟩
                            refine ⟨congrArg Value.bool ?_, rfl⟩
                            first | (simp_all [mayF, headF, noAnswerF, noRequestF]; done) | (simp_all [mayF, headF, noAnswerF, noRequestF]; omega)
                    · try simp only [decide_eq_true_eq, decide_eq_false_iff_not, beq_iff_eq, beq_eq_false_iff_ne, bne_iff_ne, bne_eq_false_iff_eq, Bool.not_eq_true', Bool.not_eq_false', Int.not_lt, Int.not_le, ne_eq] at h42
                      refine WO.pass 59 rfl rfl rfl rfl ?_
                      refine WO.pass 59 rfl rfl rfl rfl ?_
                      refine WO.pass 59 rfl rfl rfl rfl ?_
                      refine WO.pass 59 rfl rfl rfl rfl ?_
                      refine WO.pass 59 rfl rfl rfl rfl ?_
                      refine WO.pass 59 rfl rfl rfl rfl ?_
                      refine WO.pass 59 rfl rfl rfl rfl ?_
                      refine WO.pass 59 rfl rfl rfl rfl ?_
                      refine WO.pass 59 rfl rfl rfl rfl ?_
                      refine WO.pickF rfl rfl rfl ?_
                      refine WO.assign rfl rfl ?_
                      refine WO.nil ?_
                      refine thnN ?_
                      refine WP.seq ?_
                      refine WP.seq ?_
                      refine WP.region ?_
                      refine WO.fieldAddr rfl fo_23_2 rfl ?_
                      refine WO.load rfl sc_3 (by first | exact in0 | exact in1 | exact in2 | exact in3 | exact in4 | exact in5 | exact in6) rfl rfl ?_
                      refine WO.nil ?_
                      refine thnN ?_
                      refine WP.block ?_
                      refine WP.seq ?_
                      refine WP.region ?_
                      refine WO.eqlI rfl rfl rfl ?_
                      refine WO.assign rfl rfl ?_
                      refine WO.nil ?_
                      refine thnN ?_
                      refine WP.condL 72 rfl (fun h53 => ?_) (fun h54 => ?_)
                      · try simp only [decide_eq_true_eq, decide_eq_false_iff_not, beq_iff_eq, beq_eq_false_iff_ne, bne_iff_ne, bne_eq_false_iff_eq, Bool.not_eq_true', Bool.not_eq_false', Int.not_lt, Int.not_le, ne_eq] at h53
                        refine WP.seq ?_
                        refine WP.region ?_
                        refine WO.move rfl rfl ?_
                        refine WO.move rfl rfl ?_
                        refine WO.pass 75 rfl rfl rfl rfl ?_
                        refine WO.pass 75 rfl rfl rfl rfl ?_
                        refine WO.pickF rfl rfl rfl ?_
                        refine WO.assign rfl rfl ?_
                        refine WO.nil ?_
                        refine thnN ?_
                        refine WP.ret ?_
                        refine blkR ?_
                        refine thnR ?_
                        refine ⟨_, [G], (Res.one rfl), (by first | exact Imp.refl _ | exact Imp.pick 0 rfl | exact Imp.pick 1 rfl | exact Imp.pick 2 rfl | exact Imp.pick 3 rfl | exact Imp.pick 4 rfl | exact Imp.pick 5 rfl | exact Imp.pick 6 rfl), ?_⟩
                        refine ⟨congrArg Value.bool ?_, rfl⟩
                        first | (simp_all [mayF, headF, noAnswerF, noRequestF]; done) | (simp_all [mayF, headF, noAnswerF, noRequestF]; omega)
                      · try simp only [decide_eq_true_eq, decide_eq_false_iff_not, beq_iff_eq, beq_eq_false_iff_ne, bne_iff_ne, bne_eq_false_iff_eq, Bool.not_eq_true', Bool.not_eq_false', Int.not_lt, Int.not_le, ne_eq] at h54
                        refine WP.seq ?_
                        refine WP.region ?_
                        refine WO.eqlI rfl rfl rfl ?_
                        refine WO.assign rfl rfl ?_
                        refine WO.nil ?_
                        refine thnN ?_
                        refine WP.condL 79 rfl (fun h55 => ?_) (fun h56 => ?_)
                        · try simp only [decide_eq_true_eq, decide_eq_false_iff_not, beq_iff_eq, beq_eq_false_iff_ne, bne_iff_ne, bne_eq_false_iff_eq, Bool.not_eq_true', Bool.not_eq_false', Int.not_lt, Int.not_le, ne_eq] at h55
                          refine WP.seq ?_
                          refine WP.region ?_
                          refine WO.move rfl rfl ?_
                          refine WO.move rfl rfl ?_
                          refine WO.pass 82 rfl rfl rfl rfl ?_
                          refine WO.pass 82 rfl rfl rfl rfl ?_
                          refine WO.pickF rfl rfl rfl ?_
                          refine WO.assign rfl rfl ?_
                          refine WO.nil ?_
                          refine thnN ?_
                          refine WP.ret ?_
                          refine blkR ?_
                          refine thnR ?_
                          refine ⟨_, [G], (Res.one rfl), (by first | exact Imp.refl _ | exact Imp.pick 0 rfl | exact Imp.pick 1 rfl | exact Imp.pick 2 rfl | exact Imp.pick 3 rfl | exact Imp.pick 4 rfl | exact Imp.pick 5 rfl | exact Imp.pick 6 rfl), ?_⟩
                          refine ⟨congrArg Value.bool ?_, rfl⟩
                          first | (simp_all [mayF, headF, noAnswerF, noRequestF]; done) | (simp_all [mayF, headF, noAnswerF, noRequestF]; omega)
                        · try simp only [decide_eq_true_eq, decide_eq_false_iff_not, beq_iff_eq, beq_eq_false_iff_ne, bne_iff_ne, bne_eq_false_iff_eq, Bool.not_eq_true', Bool.not_eq_false', Int.not_lt, Int.not_le, ne_eq] at h56
                          refine WP.seq ?_
                          refine WP.region ?_
                          refine WO.eqlI rfl rfl rfl ?_
                          refine WO.assign rfl rfl ?_
                          refine WO.nil ?_
                          refine thnN ?_
                          refine WP.condL 86 rfl (fun h57 => ?_) (fun h58 => ?_)
                          · try simp only [decide_eq_true_eq, decide_eq_false_iff_not, beq_iff_eq, beq_eq_false_iff_ne, bne_iff_ne, bne_eq_false_iff_eq, Bool.not_eq_true', Bool.not_eq_false', Int.not_lt, Int.not_le, ne_eq] at h57
                            refine WP.seq ?_
                            refine WP.region ?_
                            refine WO.move rfl rfl ?_
                            refine WO.move rfl rfl ?_
                            refine WO.pass 89 rfl rfl rfl rfl ?_
                            refine WO.pickF rfl rfl rfl ?_
                            refine WO.assign rfl rfl ?_
                            refine WO.nil ?_
                            refine thnN ?_
                            refine WP.ret ?_
                            refine blkR ?_
                            refine thnR ?_
                            refine ⟨_, [G], (Res.one rfl), (by first | exact Imp.refl _ | exact Imp.pick 0 rfl | exact Imp.pick 1 rfl | exact Imp.pick 2 rfl | exact Imp.pick 3 rfl | exact Imp.pick 4 rfl | exact Imp.pick 5 rfl | exact Imp.pick 6 rfl), ?_⟩
                            refine ⟨congrArg Value.bool ?_, rfl⟩
                            first | (simp_all [mayF, headF, noAnswerF, noRequestF]; done) | (simp_all [mayF, headF, noAnswerF, noRequestF]; omega)
                          · try simp only [decide_eq_true_eq, decide_eq_false_iff_not, beq_iff_eq, beq_eq_false_iff_ne, bne_iff_ne, bne_eq_false_iff_eq, Bool.not_eq_true', Bool.not_eq_false', Int.not_lt, Int.not_le, ne_eq] at h58
                            refine WP.skip ?_
                            refine blkN ?_
                            refine thnN ?_
                            refine WP.seq ?_
                            refine WP.region ?_
                            refine WO.assign rfl rfl ?_
                            refine WO.nil ?_
                            refine thnN ?_
                            refine WP.ret ?_
                            refine ⟨_, [G], (Res.one rfl), (by first | exact Imp.refl _ | exact Imp.pick 0 rfl | exact Imp.pick 1 rfl | exact Imp.pick 2 rfl | exact Imp.pick 3 rfl | exact Imp.pick 4 rfl | exact Imp.pick 5 rfl | exact Imp.pick 6 rfl), ?_⟩
                            refine ⟨congrArg Value.bool ?_, rfl⟩
                            first | (simp_all [mayF, headF, noAnswerF, noRequestF]; done) | (simp_all [mayF, headF, noAnswerF, noRequestF]; omega)

theorem s_lease_may {G : Foot} (hG : GlobOK G) (e : Ent) (hy0 : sizedE e) : CallsS P 23 [entV e] [G] (fun v L => (v = .bool (lmayF e)) ∧ L = [G]) := by
  refine CallsS.intro Tryd.func23 rfl rfl rfl rfl ?_
  refine WP.seq ?_
  refine WP.region ?_
  refine WO.box rfl rfl rfl (fun b0 => ?_)
  refine WO.assign rfl rfl ?_
  refine WO.nil ?_
  refine thnN ?_
  refine WP.seq ?_
  refine WP.region ?_
  refine WO.fieldAddr rfl fo_23_2 rfl ?_
  refine WO.load rfl sc_3 (by first | exact in0 | exact in1 | exact in2 | exact in3 | exact in4 | exact in5 | exact in6) rfl rfl ?_
  refine WO.eqlI rfl rfl rfl ?_
  refine WO.move rfl rfl ?_
  refine WO.split 6 rfl (fun h1 => ?_) (fun h2 => ?_)
  · try simp only [decide_eq_true_eq, decide_eq_false_iff_not, beq_iff_eq, beq_eq_false_iff_ne, bne_iff_ne, bne_eq_false_iff_eq, Bool.not_eq_true', Bool.not_eq_false', Int.not_lt, Int.not_le, ne_eq] at h1
    refine WO.want 6 rfl rfl ?_
    first | refine WO.loadAll rfl ag_23 (by first | exact in0 | exact in1 | exact in2 | exact in3 | exact in4 | exact in5 | exact in6) rfl rfl ?_ | refine WO.loadAgg rfl ag_23 (by first | exact in0 | exact in1 | exact in2 | exact in3 | exact in4 | exact in5 | exact in6) rfl rfl rfl ?_
    refine WO.want 6 rfl rfl ?_
    first | refine WO.callR 0 rfl (s_entry_May hG e ?_) rfl ca_27 rfl ?_ | refine WO.callR 1 rfl (s_entry_May hG e ?_) rfl ca_27 rfl ?_ | refine WO.callR 2 rfl (s_entry_May hG e ?_) rfl ca_27 rfl ?_ | refine WO.callR 3 rfl (s_entry_May hG e ?_) rfl ca_27 rfl ?_ | refine WO.callR 4 rfl (s_entry_May hG e ?_) rfl ca_27 rfl ?_ | refine WO.callR 5 rfl (s_entry_May hG e ?_) rfl ca_27 rfl ?_ | refine WO.callR 6 rfl (s_entry_May hG e ?_) rfl ca_27 rfl ?_ | refine WO.callR 7 rfl (s_entry_May hG e ?_) rfl ca_27 rfl ?_
    · first | assumption | omega | decide
    rintro _ rfl
    refine WO.pickT rfl rfl rfl ?_
    refine WO.assign rfl rfl ?_
    refine WO.nil ?_
    refine thnN ?_
    refine WP.ret ?_
    refine ⟨_, [G], (Res.one rfl), (by first | exact Imp.refl _ | exact Imp.pick 0 rfl | exact Imp.pick 1 rfl | exact Imp.pick 2 rfl | exact Imp.pick 3 rfl | exact Imp.pick 4 rfl | exact Imp.pick 5 rfl | exact Imp.pick 6 rfl), ?_⟩
    refine ⟨congrArg Value.bool ?_, rfl⟩
    first | (simp_all [lmayF]; done) | (simp_all [lmayF]; omega)
  · try simp only [decide_eq_true_eq, decide_eq_false_iff_not, beq_iff_eq, beq_eq_false_iff_ne, bne_iff_ne, bne_eq_false_iff_eq, Bool.not_eq_true', Bool.not_eq_false', Int.not_lt, Int.not_le, ne_eq] at h2
    refine WO.pass 6 rfl rfl rfl rfl ?_
    refine WO.pass 6 rfl rfl rfl rfl ?_
    refine WO.pickF rfl rfl rfl ?_
    refine WO.assign rfl rfl ?_
    refine WO.nil ?_
    refine thnN ?_
    refine WP.ret ?_
    refine ⟨_, [G], (Res.one rfl), (by first | exact Imp.refl _ | exact Imp.pick 0 rfl | exact Imp.pick 1 rfl | exact Imp.pick 2 rfl | exact Imp.pick 3 rfl | exact Imp.pick 4 rfl | exact Imp.pick 5 rfl | exact Imp.pick 6 rfl), ?_⟩
    refine ⟨congrArg Value.bool ?_, rfl⟩
    first | (simp_all [lmayF]; done) | (simp_all [lmayF]; omega)

theorem s_lease_owned {G : Foot} (hG : GlobOK G) (e : Ent) (k : Int) (hy0 : sizedE e) : CallsS P 25 [entV e, .int .i64 (k)] [G] (fun v L => (v = .int .i64 (ownedF e k)) ∧ L = [G]) := by
  refine CallsS.intro Tryd.func25 rfl rfl rfl rfl ?_
  refine WP.seq ?_
  refine WP.region ?_
  refine WO.box rfl rfl rfl (fun b0 => ?_)
  refine WO.assign rfl rfl ?_
  refine WO.nil ?_
  refine thnN ?_
  refine WP.seq ?_
  refine WP.block ?_
  refine WP.seq ?_
  refine WP.region ?_
  first | refine WO.loadAll rfl ag_23 (by first | exact in0 | exact in1 | exact in2 | exact in3 | exact in4 | exact in5 | exact in6) rfl rfl ?_ | refine WO.loadAgg rfl ag_23 (by first | exact in0 | exact in1 | exact in2 | exact in3 | exact in4 | exact in5 | exact in6) rfl rfl rfl ?_
  first | refine WO.callR 0 rfl (s_lease_may hG e ?_) rfl ca_23 rfl ?_ | refine WO.callR 1 rfl (s_lease_may hG e ?_) rfl ca_23 rfl ?_ | refine WO.callR 2 rfl (s_lease_may hG e ?_) rfl ca_23 rfl ?_ | refine WO.callR 3 rfl (s_lease_may hG e ?_) rfl ca_23 rfl ?_ | refine WO.callR 4 rfl (s_lease_may hG e ?_) rfl ca_23 rfl ?_ | refine WO.callR 5 rfl (s_lease_may hG e ?_) rfl ca_23 rfl ?_ | refine WO.callR 6 rfl (s_lease_may hG e ?_) rfl ca_23 rfl ?_ | refine WO.callR 7 rfl (s_lease_may hG e ?_) rfl ca_23 rfl ?_
  · assumption
  rintro _ rfl
  refine WO.not rfl rfl ?_
  refine WO.assign rfl rfl ?_
  refine WO.nil ?_
  refine thnN ?_
  refine WP.condL 5 rfl (fun h1 => ?_) (fun h2 => ?_)
  · try simp only [decide_eq_true_eq, decide_eq_false_iff_not, beq_iff_eq, beq_eq_false_iff_ne, bne_iff_ne, bne_eq_false_iff_eq, Bool.not_eq_true', Bool.not_eq_false', Int.not_lt, Int.not_le, ne_eq] at h1
    refine WP.seq ?_
    refine WP.region ?_
    refine WO.assign rfl rfl ?_
    refine WO.nil ?_
    refine thnN ?_
    refine WP.ret ?_
    refine blkR ?_
    refine thnR ?_
    refine ⟨_, [G], (Res.one rfl), (by first | exact Imp.refl _ | exact Imp.pick 0 rfl | exact Imp.pick 1 rfl | exact Imp.pick 2 rfl | exact Imp.pick 3 rfl | exact Imp.pick 4 rfl | exact Imp.pick 5 rfl | exact Imp.pick 6 rfl), ?_⟩
    refine ⟨congrArg (Value.int .i64) ?_, rfl⟩
    simp_all [ownedF]
  · try simp only [decide_eq_true_eq, decide_eq_false_iff_not, beq_iff_eq, beq_eq_false_iff_ne, bne_iff_ne, bne_eq_false_iff_eq, Bool.not_eq_true', Bool.not_eq_false', Int.not_lt, Int.not_le, ne_eq] at h2
    refine WP.seq ?_
    refine WP.region ?_
    refine WO.fieldAddr rfl fo_23_4 rfl ?_
    refine WO.load rfl sc_3 (by first | exact in0 | exact in1 | exact in2 | exact in3 | exact in4 | exact in5 | exact in6) rfl rfl ?_
    refine WO.move rfl rfl ?_
    refine WO.neqI rfl rfl rfl ?_
    refine WO.assign rfl rfl ?_
    refine WO.nil ?_
    refine thnN ?_
    refine WP.condL 9 rfl (fun h3 => ?_) (fun h4 => ?_)
    · try simp only [decide_eq_true_eq, decide_eq_false_iff_not, beq_iff_eq, beq_eq_false_iff_ne, bne_iff_ne, bne_eq_false_iff_eq, Bool.not_eq_true', Bool.not_eq_false', Int.not_lt, Int.not_le, ne_eq] at h3
      refine WP.seq ?_
      refine WP.region ?_
      refine WO.assign rfl rfl ?_
      refine WO.nil ?_
      refine thnN ?_
      refine WP.ret ?_
      refine blkR ?_
      refine thnR ?_
      refine ⟨_, [G], (Res.one rfl), (by first | exact Imp.refl _ | exact Imp.pick 0 rfl | exact Imp.pick 1 rfl | exact Imp.pick 2 rfl | exact Imp.pick 3 rfl | exact Imp.pick 4 rfl | exact Imp.pick 5 rfl | exact Imp.pick 6 rfl), ?_⟩
      refine ⟨congrArg (Value.int .i64) ?_, rfl⟩
      simp_all [ownedF]
    · try simp only [decide_eq_true_eq, decide_eq_false_iff_not, beq_iff_eq, beq_eq_false_iff_ne, bne_iff_ne, bne_eq_false_iff_eq, Bool.not_eq_true', Bool.not_eq_false', Int.not_lt, Int.not_le, ne_eq] at h4
      refine WP.skip ?_
      refine blkN ?_
      refine thnN ?_
      refine WP.seq ?_
      refine WP.region ?_
      refine WO.assign rfl rfl ?_
      refine WO.nil ?_
      refine thnN ?_
      refine WP.ret ?_
      refine ⟨_, [G], (Res.one rfl), (by first | exact Imp.refl _ | exact Imp.pick 0 rfl | exact Imp.pick 1 rfl | exact Imp.pick 2 rfl | exact Imp.pick 3 rfl | exact Imp.pick 4 rfl | exact Imp.pick 5 rfl | exact Imp.pick 6 rfl), ?_⟩
      refine ⟨congrArg (Value.int .i64) ?_, rfl⟩
      simp_all [ownedF]

theorem s_lease_over (e : Ent) (k : Int) : CallsS P 26 [entV e, .int .i64 (k)] [] (fun v L => v = entV (overF e k) ∧ L = []) := by
  refine CallsS.intro Tryd.func26 rfl rfl rfl rfl ?_
  refine WP.seq ?_
  refine WP.region ?_
  refine WO.box rfl rfl rfl (fun b0 => ?_)
  refine WO.alloc zo_23 rfl (fun b1 => ?_)
  refine WO.nil ?_
  refine thnN ?_
  refine WP.seq ?_
  refine WP.region ?_
  refine WO.move rfl rfl ?_
  refine WO.fieldAddr rfl fo_23_2 rfl ?_
  first | refine WO.store 0 rfl rfl rfl sc_3 rfl rfl _ rfl ?_ | refine WO.store 1 rfl rfl rfl sc_3 rfl rfl _ rfl ?_ | refine WO.store 2 rfl rfl rfl sc_3 rfl rfl _ rfl ?_ | refine WO.store 3 rfl rfl rfl sc_3 rfl rfl _ rfl ?_
  refine WO.fieldAddr rfl fo_23_7 rfl ?_
  first | refine WO.store 0 rfl rfl rfl sc_3 rfl rfl _ rfl ?_ | refine WO.store 1 rfl rfl rfl sc_3 rfl rfl _ rfl ?_ | refine WO.store 2 rfl rfl rfl sc_3 rfl rfl _ rfl ?_ | refine WO.store 3 rfl rfl rfl sc_3 rfl rfl _ rfl ?_
  refine WO.fieldAddr rfl fo_23_11 rfl ?_
  first | refine WO.store 0 rfl rfl rfl sc_9 rfl rfl _ rfl ?_ | refine WO.store 1 rfl rfl rfl sc_9 rfl rfl _ rfl ?_ | refine WO.store 2 rfl rfl rfl sc_9 rfl rfl _ rfl ?_ | refine WO.store 3 rfl rfl rfl sc_9 rfl rfl _ rfl ?_
  refine WO.fieldAddr rfl fo_23_12 rfl ?_
  first | refine WO.store 0 rfl rfl rfl sc_9 rfl rfl _ rfl ?_ | refine WO.store 1 rfl rfl rfl sc_9 rfl rfl _ rfl ?_ | refine WO.store 2 rfl rfl rfl sc_9 rfl rfl _ rfl ?_ | refine WO.store 3 rfl rfl rfl sc_9 rfl rfl _ rfl ?_
  refine WO.fieldAddr rfl fo_23_13 rfl ?_
  first | refine WO.store 0 rfl rfl rfl sc_9 rfl rfl _ rfl ?_ | refine WO.store 1 rfl rfl rfl sc_9 rfl rfl _ rfl ?_ | refine WO.store 2 rfl rfl rfl sc_9 rfl rfl _ rfl ?_ | refine WO.store 3 rfl rfl rfl sc_9 rfl rfl _ rfl ?_
  refine WO.nil ?_
  refine thnN ?_
  refine WP.seq ?_
  refine WP.region ?_
  first | refine WO.loadAll rfl ag_23 (by first | exact in0 | exact in1 | exact in2 | exact in3 | exact in4 | exact in5 | exact in6) rfl rfl ?_ | refine WO.loadAgg rfl ag_23 (by first | exact in0 | exact in1 | exact in2 | exact in3 | exact in4 | exact in5 | exact in6) rfl rfl rfl ?_
  first | refine WO.storeAll 0 rfl rfl rfl rfl ag_23 rfl (by rfl) ?_ | refine WO.storeAll 1 rfl rfl rfl rfl ag_23 rfl (by rfl) ?_ | refine WO.storeAll 2 rfl rfl rfl rfl ag_23 rfl (by rfl) ?_ | refine WO.storeAll 3 rfl rfl rfl rfl ag_23 rfl (by rfl) ?_ | refine WO.storeAll 4 rfl rfl rfl rfl ag_23 rfl (by rfl) ?_ | refine WO.storeAll 5 rfl rfl rfl rfl ag_23 rfl (by rfl) ?_ | refine WO.storeAgg 0 rfl rfl rfl rfl ag_23 rfl (by simp [ints, Value.oneCell']) (Nat.le_of_ble_eq_true rfl) _ rfl ?_ | refine WO.storeAgg 1 rfl rfl rfl rfl ag_23 rfl (by simp [ints, Value.oneCell']) (Nat.le_of_ble_eq_true rfl) _ rfl ?_ | refine WO.storeAgg 2 rfl rfl rfl rfl ag_23 rfl (by simp [ints, Value.oneCell']) (Nat.le_of_ble_eq_true rfl) _ rfl ?_
  refine WO.nil ?_
  refine thnN ?_
  refine WP.ret ?_
  refine ⟨_, [], Res.cell1 rfl ag_23 (by first | exact in0 | exact in1 | exact in2 | exact in3 | exact in4 | exact in5 | exact in6) rfl rfl, (Imp.nil _), ?_⟩
  exact ⟨rfl, rfl⟩

theorem s_lease_Take {G : Foot} (hG : GlobOK G) (e : Ent) (now : Int) (c : Conf) (hy0 : sizedE e) (hy1 : i64 e.token) : CallsS P 14 [entV e, .int .i64 (now), confV c] [G] (fun v L => (v = .tuple #[entV (takeF e now c).1, .int .i64 (takeF e now c).2]) ∧ L = [G]) := by
  refine CallsS.intro Tryd.func14 rfl rfl rfl rfl ?_
  refine WP.seq ?_
  refine WP.region ?_
  refine WO.box rfl rfl rfl (fun b0 => ?_)
  refine WO.box rfl rfl rfl (fun b1 => ?_)
  refine WO.alloc zo_23 rfl (fun b2 => ?_)
  refine WO.assign rfl rfl ?_
  refine WO.nil ?_
  refine thnN ?_
  refine WP.seq ?_
  refine WP.block ?_
  refine WP.seq ?_
  refine WP.region ?_
  first | refine WO.loadAll rfl ag_23 (by first | exact in0 | exact in1 | exact in2 | exact in3 | exact in4 | exact in5 | exact in6) rfl rfl ?_ | refine WO.loadAgg rfl ag_23 (by first | exact in0 | exact in1 | exact in2 | exact in3 | exact in4 | exact in5 | exact in6) rfl rfl rfl ?_
  first | refine WO.callR 0 rfl (s_lease_may hG e ?_) rfl ca_23 rfl ?_ | refine WO.callR 1 rfl (s_lease_may hG e ?_) rfl ca_23 rfl ?_ | refine WO.callR 2 rfl (s_lease_may hG e ?_) rfl ca_23 rfl ?_ | refine WO.callR 3 rfl (s_lease_may hG e ?_) rfl ca_23 rfl ?_ | refine WO.callR 4 rfl (s_lease_may hG e ?_) rfl ca_23 rfl ?_ | refine WO.callR 5 rfl (s_lease_may hG e ?_) rfl ca_23 rfl ?_ | refine WO.callR 6 rfl (s_lease_may hG e ?_) rfl ca_23 rfl ?_ | refine WO.callR 7 rfl (s_lease_may hG e ?_) rfl ca_23 rfl ?_
  · assumption
  rintro _ rfl
  refine WO.not rfl rfl ?_
  refine WO.assign rfl rfl ?_
  refine WO.nil ?_
  refine thnN ?_
  refine WP.condL 10 rfl (fun h1 => ?_) (fun h2 => ?_)
  · try simp only [decide_eq_true_eq, decide_eq_false_iff_not, beq_iff_eq, beq_eq_false_iff_ne, bne_iff_ne, bne_eq_false_iff_eq, Bool.not_eq_true', Bool.not_eq_false', Int.not_lt, Int.not_le, ne_eq] at h1
    refine WP.seq ?_
    refine WP.region ?_
    refine WO.buildQ (cs := [_, _, _, _, _, _, _, _, _, _, _, _, _, _]) rfl lay_23 zo_23 rfl rfl ?_
    first | refine WO.storeAll 0 rfl rfl rfl rfl ag_23 rfl (by rfl) ?_ | refine WO.storeAll 1 rfl rfl rfl rfl ag_23 rfl (by rfl) ?_ | refine WO.storeAll 2 rfl rfl rfl rfl ag_23 rfl (by rfl) ?_ | refine WO.storeAll 3 rfl rfl rfl rfl ag_23 rfl (by rfl) ?_ | refine WO.storeAll 4 rfl rfl rfl rfl ag_23 rfl (by rfl) ?_ | refine WO.storeAll 5 rfl rfl rfl rfl ag_23 rfl (by rfl) ?_ | refine WO.storeAgg 0 rfl rfl rfl rfl ag_23 rfl (by simp [ints, Value.oneCell']) (Nat.le_of_ble_eq_true rfl) _ rfl ?_ | refine WO.storeAgg 1 rfl rfl rfl rfl ag_23 rfl (by simp [ints, Value.oneCell']) (Nat.le_of_ble_eq_true rfl) _ rfl ?_ | refine WO.storeAgg 2 rfl rfl rfl rfl ag_23 rfl (by simp [ints, Value.oneCell']) (Nat.le_of_ble_eq_true rfl) _ rfl ?_
    refine WO.assign rfl rfl ?_
    refine WO.nil ?_
    refine thnN ?_
    refine WP.ret ?_
    refine blkR ?_
    refine thnR ?_
    refine ⟨_, [G], Res.cell2 rfl rfl ag_23 (by first | exact in0 | exact in1 | exact in2 | exact in3 | exact in4 | exact in5 | exact in6) rfl rfl, (by first | exact Imp.refl _ | exact Imp.pick 0 rfl | exact Imp.pick 1 rfl | exact Imp.pick 2 rfl | exact Imp.pick 3 rfl | exact Imp.pick 4 rfl | exact Imp.pick 5 rfl | exact Imp.pick 6 rfl), ?_⟩
    refine ⟨?_, rfl⟩
    rw [take_1 (by assumption)]; rfl
  · try simp only [decide_eq_true_eq, decide_eq_false_iff_not, beq_iff_eq, beq_eq_false_iff_ne, bne_iff_ne, bne_eq_false_iff_eq, Bool.not_eq_true', Bool.not_eq_false', Int.not_lt, Int.not_le, ne_eq] at h2
    refine WP.seq ?_
    refine WP.region ?_
    first | refine WO.loadAll rfl ag_23 (by first | exact in0 | exact in1 | exact in2 | exact in3 | exact in4 | exact in5 | exact in6) rfl rfl ?_ | refine WO.loadAgg rfl ag_23 (by first | exact in0 | exact in1 | exact in2 | exact in3 | exact in4 | exact in5 | exact in6) rfl rfl rfl ?_
    refine WO.move rfl rfl ?_
    refine WO.callP (s_lease_Held e now) rfl ca_8 rfl ?_
    refine WO.assign rfl rfl ?_
    refine WO.nil ?_
    refine thnN ?_
    refine WP.condL 15 rfl (fun h3 => ?_) (fun h4 => ?_)
    · try simp only [decide_eq_true_eq, decide_eq_false_iff_not, beq_iff_eq, beq_eq_false_iff_ne, bne_iff_ne, bne_eq_false_iff_eq, Bool.not_eq_true', Bool.not_eq_false', Int.not_lt, Int.not_le, ne_eq] at h3
      refine WP.seq ?_
      refine WP.region ?_
      refine WO.buildQ (cs := [_, _, _, _, _, _, _, _, _, _, _, _, _, _]) rfl lay_23 zo_23 rfl rfl ?_
      first | refine WO.storeAll 0 rfl rfl rfl rfl ag_23 rfl (by rfl) ?_ | refine WO.storeAll 1 rfl rfl rfl rfl ag_23 rfl (by rfl) ?_ | refine WO.storeAll 2 rfl rfl rfl rfl ag_23 rfl (by rfl) ?_ | refine WO.storeAll 3 rfl rfl rfl rfl ag_23 rfl (by rfl) ?_ | refine WO.storeAll 4 rfl rfl rfl rfl ag_23 rfl (by rfl) ?_ | refine WO.storeAll 5 rfl rfl rfl rfl ag_23 rfl (by rfl) ?_ | refine WO.storeAgg 0 rfl rfl rfl rfl ag_23 rfl (by simp [ints, Value.oneCell']) (Nat.le_of_ble_eq_true rfl) _ rfl ?_ | refine WO.storeAgg 1 rfl rfl rfl rfl ag_23 rfl (by simp [ints, Value.oneCell']) (Nat.le_of_ble_eq_true rfl) _ rfl ?_ | refine WO.storeAgg 2 rfl rfl rfl rfl ag_23 rfl (by simp [ints, Value.oneCell']) (Nat.le_of_ble_eq_true rfl) _ rfl ?_
      refine WO.assign rfl rfl ?_
      refine WO.nil ?_
      refine thnN ?_
      refine WP.ret ?_
      refine blkR ?_
      refine thnR ?_
      refine ⟨_, [G], Res.cell2 rfl rfl ag_23 (by first | exact in0 | exact in1 | exact in2 | exact in3 | exact in4 | exact in5 | exact in6) rfl rfl, (by first | exact Imp.refl _ | exact Imp.pick 0 rfl | exact Imp.pick 1 rfl | exact Imp.pick 2 rfl | exact Imp.pick 3 rfl | exact Imp.pick 4 rfl | exact Imp.pick 5 rfl | exact Imp.pick 6 rfl), ?_⟩
      refine ⟨?_, rfl⟩
      rw [take_8 (by assumption) (by assumption)]; rfl
    · try simp only [decide_eq_true_eq, decide_eq_false_iff_not, beq_iff_eq, beq_eq_false_iff_ne, bne_iff_ne, bne_eq_false_iff_eq, Bool.not_eq_true', Bool.not_eq_false', Int.not_lt, Int.not_le, ne_eq] at h4
      refine WP.skip ?_
      refine blkN ?_
      refine thnN ?_
      refine WP.seq ?_
      refine WP.region ?_
      refine WO.fieldAddr rfl fo_23_4 rfl ?_
      refine WO.load rfl sc_3 (by first | exact in0 | exact in1 | exact in2 | exact in3 | exact in4 | exact in5 | exact in6) rfl rfl ?_
      refine WO.callP (s_num_Next e.token ?_) rfl ca_24 rfl ?_
      · first | assumption | omega | decide
      refine WO.move rfl rfl ?_
      refine WO.extract rfl rfl rfl ?_
      refine WO.extract rfl rfl rfl ?_
      refine WO.assign rfl rfl ?_
      refine WO.assign rfl rfl ?_
      refine WO.nil ?_
      refine thnN ?_
      refine WP.seq ?_
      refine WP.seq ?_
      refine WP.region ?_
      refine WO.move rfl rfl ?_
      refine WO.neqI rfl rfl rfl ?_
      refine WO.nil ?_
      refine thnN ?_
      refine WP.condL 27 rfl (fun h5 => ?_) (fun h6 => ?_)
      · try simp only [decide_eq_true_eq, decide_eq_false_iff_not, beq_iff_eq, beq_eq_false_iff_ne, bne_iff_ne, bne_eq_false_iff_eq, Bool.not_eq_true', Bool.not_eq_false', Int.not_lt, Int.not_le, ne_eq] at h5
        refine WP.seq ?_
        refine WP.region ?_
        refine WO.buildQ (cs := [_, _, _, _, _, _, _, _, _, _, _, _, _, _]) rfl lay_23 zo_23 rfl rfl ?_
        refine WO.move rfl rfl ?_
        first | refine WO.storeAll 0 rfl rfl rfl rfl ag_23 rfl (by rfl) ?_ | refine WO.storeAll 1 rfl rfl rfl rfl ag_23 rfl (by rfl) ?_ | refine WO.storeAll 2 rfl rfl rfl rfl ag_23 rfl (by rfl) ?_ | refine WO.storeAll 3 rfl rfl rfl rfl ag_23 rfl (by rfl) ?_ | refine WO.storeAll 4 rfl rfl rfl rfl ag_23 rfl (by rfl) ?_ | refine WO.storeAll 5 rfl rfl rfl rfl ag_23 rfl (by rfl) ?_ | refine WO.storeAgg 0 rfl rfl rfl rfl ag_23 rfl (by simp [ints, Value.oneCell']) (Nat.le_of_ble_eq_true rfl) _ rfl ?_ | refine WO.storeAgg 1 rfl rfl rfl rfl ag_23 rfl (by simp [ints, Value.oneCell']) (Nat.le_of_ble_eq_true rfl) _ rfl ?_ | refine WO.storeAgg 2 rfl rfl rfl rfl ag_23 rfl (by simp [ints, Value.oneCell']) (Nat.le_of_ble_eq_true rfl) _ rfl ?_
        refine WO.assign rfl rfl ?_
        refine WO.nil ?_
        refine thnN ?_
        refine WP.ret ?_
        refine thnR ?_
        refine ⟨_, [G], Res.cell2 rfl rfl ag_23 (by first | exact in0 | exact in1 | exact in2 | exact in3 | exact in4 | exact in5 | exact in6) rfl rfl, (by first | exact Imp.refl _ | exact Imp.pick 0 rfl | exact Imp.pick 1 rfl | exact Imp.pick 2 rfl | exact Imp.pick 3 rfl | exact Imp.pick 4 rfl | exact Imp.pick 5 rfl | exact Imp.pick 6 rfl), ?_⟩
        refine ⟨?_, rfl⟩
        rw [take_n (by assumption) (by simp_all) (by assumption)]; rfl
      · try simp only [decide_eq_true_eq, decide_eq_false_iff_not, beq_iff_eq, beq_eq_false_iff_ne, bne_iff_ne, bne_eq_false_iff_eq, Bool.not_eq_true', Bool.not_eq_false', Int.not_lt, Int.not_le, ne_eq] at h6
        refine WP.skip ?_
        refine thnN ?_
        refine WP.seq ?_
        refine WP.region ?_
        refine WO.move rfl rfl ?_
        refine WO.move rfl rfl ?_
        first | refine WO.loadAll rfl ag_37 (by first | exact in0 | exact in1 | exact in2 | exact in3 | exact in4 | exact in5 | exact in6) rfl rfl ?_ | refine WO.loadAgg rfl ag_37 (by first | exact in0 | exact in1 | exact in2 | exact in3 | exact in4 | exact in5 | exact in6) rfl rfl rfl ?_
        refine WO.callP (s_num_Config c) rfl ca_20 rfl ?_
        refine WO.field (cs := _) rfl fsc_37_1 rfl rfl ?_
        refine WO.callP (s_num_Plus now (confF c).lease) rfl ca_22 rfl ?_
        refine WO.fieldAddr rfl fo_23_4 rfl ?_
        first | refine WO.store 0 rfl rfl rfl sc_3 rfl rfl _ rfl ?_ | refine WO.store 1 rfl rfl rfl sc_3 rfl rfl _ rfl ?_ | refine WO.store 2 rfl rfl rfl sc_3 rfl rfl _ rfl ?_ | refine WO.store 3 rfl rfl rfl sc_3 rfl rfl _ rfl ?_
        refine WO.fieldAddr rfl fo_23_7 rfl ?_
        first | refine WO.store 0 rfl rfl rfl sc_3 rfl rfl _ rfl ?_ | refine WO.store 1 rfl rfl rfl sc_3 rfl rfl _ rfl ?_ | refine WO.store 2 rfl rfl rfl sc_3 rfl rfl _ rfl ?_ | refine WO.store 3 rfl rfl rfl sc_3 rfl rfl _ rfl ?_
        refine WO.nil ?_
        refine thnN ?_
        refine WP.seq ?_
        refine WP.region ?_
        first | refine WO.loadAll rfl ag_23 (by first | exact in0 | exact in1 | exact in2 | exact in3 | exact in4 | exact in5 | exact in6) rfl rfl ?_ | refine WO.loadAgg rfl ag_23 (by first | exact in0 | exact in1 | exact in2 | exact in3 | exact in4 | exact in5 | exact in6) rfl rfl rfl ?_
        first | refine WO.storeAll 0 rfl rfl rfl rfl ag_23 rfl (by rfl) ?_ | refine WO.storeAll 1 rfl rfl rfl rfl ag_23 rfl (by rfl) ?_ | refine WO.storeAll 2 rfl rfl rfl rfl ag_23 rfl (by rfl) ?_ | refine WO.storeAll 3 rfl rfl rfl rfl ag_23 rfl (by rfl) ?_ | refine WO.storeAll 4 rfl rfl rfl rfl ag_23 rfl (by rfl) ?_ | refine WO.storeAll 5 rfl rfl rfl rfl ag_23 rfl (by rfl) ?_ | refine WO.storeAgg 0 rfl rfl rfl rfl ag_23 rfl (by simp [ints, Value.oneCell']) (Nat.le_of_ble_eq_true rfl) _ rfl ?_ | refine WO.storeAgg 1 rfl rfl rfl rfl ag_23 rfl (by simp [ints, Value.oneCell']) (Nat.le_of_ble_eq_true rfl) _ rfl ?_ | refine WO.storeAgg 2 rfl rfl rfl rfl ag_23 rfl (by simp [ints, Value.oneCell']) (Nat.le_of_ble_eq_true rfl) _ rfl ?_
        refine WO.assign rfl rfl ?_
        refine WO.nil ?_
        refine thnN ?_
        refine WP.ret ?_
        refine ⟨_, [G], Res.cell2 rfl rfl ag_23 (by first | exact in0 | exact in1 | exact in2 | exact in3 | exact in4 | exact in5 | exact in6) rfl rfl, (by first | exact Imp.refl _ | exact Imp.pick 0 rfl | exact Imp.pick 1 rfl | exact Imp.pick 2 rfl | exact Imp.pick 3 rfl | exact Imp.pick 4 rfl | exact Imp.pick 5 rfl | exact Imp.pick 6 rfl), ?_⟩
        refine ⟨?_, rfl⟩
        rw [take_0 (by assumption) (by simp_all) (by simp_all)]; rfl

theorem s_lease_Finish {G : Foot} (hG : GlobOK G) (e : Ent) (token status : Int) (text : List UInt8) (now : Int) (c : Conf) (hy0 : sizedE e) : CallsS P 15 [entV e, .int .i64 (token), .int .i64 (status), str text, .int .i64 (now), confV c] [G] (fun v L => (v = .tuple #[entV (finishF e token status text now c).1, .int .i64 (finishF e token status text now c).2]) ∧ L = [G]) := by
  refine CallsS.intro Tryd.func15 rfl rfl rfl rfl ?_
  refine WP.seq ?_
  refine WP.region ?_
  refine WO.box rfl rfl rfl (fun b0 => ?_)
  refine WO.box rfl rfl rfl (fun b1 => ?_)
  refine WO.alloc zo_23 rfl (fun b2 => ?_)
  refine WO.assign rfl rfl ?_
  refine WO.nil ?_
  refine thnN ?_
  refine WP.seq ?_
  refine WP.seq ?_
  refine WP.region ?_
  first | refine WO.loadAll rfl ag_23 (by first | exact in0 | exact in1 | exact in2 | exact in3 | exact in4 | exact in5 | exact in6) rfl rfl ?_ | refine WO.loadAgg rfl ag_23 (by first | exact in0 | exact in1 | exact in2 | exact in3 | exact in4 | exact in5 | exact in6) rfl rfl rfl ?_
  refine WO.move rfl rfl ?_
  first | refine WO.callR 0 rfl (s_lease_owned hG e token ?_) rfl ca_25 rfl ?_ | refine WO.callR 1 rfl (s_lease_owned hG e token ?_) rfl ca_25 rfl ?_ | refine WO.callR 2 rfl (s_lease_owned hG e token ?_) rfl ca_25 rfl ?_ | refine WO.callR 3 rfl (s_lease_owned hG e token ?_) rfl ca_25 rfl ?_ | refine WO.callR 4 rfl (s_lease_owned hG e token ?_) rfl ca_25 rfl ?_ | refine WO.callR 5 rfl (s_lease_owned hG e token ?_) rfl ca_25 rfl ?_ | refine WO.callR 6 rfl (s_lease_owned hG e token ?_) rfl ca_25 rfl ?_ | refine WO.callR 7 rfl (s_lease_owned hG e token ?_) rfl ca_25 rfl ?_
  · assumption
  rintro _ rfl
  refine WO.assign rfl rfl ?_
  refine WO.nil ?_
  refine thnN ?_
  refine WP.seq ?_
  refine WP.region ?_
  refine WO.move rfl rfl ?_
  refine WO.neqI rfl rfl rfl ?_
  refine WO.nil ?_
  refine thnN ?_
  refine WP.condL 19 rfl (fun h1 => ?_) (fun h2 => ?_)
  · try simp only [decide_eq_true_eq, decide_eq_false_iff_not, beq_iff_eq, beq_eq_false_iff_ne, bne_iff_ne, bne_eq_false_iff_eq, Bool.not_eq_true', Bool.not_eq_false', Int.not_lt, Int.not_le, ne_eq] at h1
    refine WP.seq ?_
    refine WP.region ?_
    refine WO.buildQ (cs := [_, _, _, _, _, _, _, _, _, _, _, _, _, _]) rfl lay_23 zo_23 rfl rfl ?_
    refine WO.move rfl rfl ?_
    first | refine WO.storeAll 0 rfl rfl rfl rfl ag_23 rfl (by rfl) ?_ | refine WO.storeAll 1 rfl rfl rfl rfl ag_23 rfl (by rfl) ?_ | refine WO.storeAll 2 rfl rfl rfl rfl ag_23 rfl (by rfl) ?_ | refine WO.storeAll 3 rfl rfl rfl rfl ag_23 rfl (by rfl) ?_ | refine WO.storeAll 4 rfl rfl rfl rfl ag_23 rfl (by rfl) ?_ | refine WO.storeAll 5 rfl rfl rfl rfl ag_23 rfl (by rfl) ?_ | refine WO.storeAgg 0 rfl rfl rfl rfl ag_23 rfl (by simp [ints, Value.oneCell']) (Nat.le_of_ble_eq_true rfl) _ rfl ?_ | refine WO.storeAgg 1 rfl rfl rfl rfl ag_23 rfl (by simp [ints, Value.oneCell']) (Nat.le_of_ble_eq_true rfl) _ rfl ?_ | refine WO.storeAgg 2 rfl rfl rfl rfl ag_23 rfl (by simp [ints, Value.oneCell']) (Nat.le_of_ble_eq_true rfl) _ rfl ?_
    refine WO.assign rfl rfl ?_
    refine WO.nil ?_
    refine thnN ?_
    refine WP.ret ?_
    refine thnR ?_
    refine ⟨_, [G], Res.cell2 rfl rfl ag_23 (by first | exact in0 | exact in1 | exact in2 | exact in3 | exact in4 | exact in5 | exact in6) rfl rfl, (by first | exact Imp.refl _ | exact Imp.pick 0 rfl | exact Imp.pick 1 rfl | exact Imp.pick 2 rfl | exact Imp.pick 3 rfl | exact Imp.pick 4 rfl | exact Imp.pick 5 rfl | exact Imp.pick 6 rfl), ?_⟩
    refine ⟨?_, rfl⟩
    rw [finish_o (by assumption)]; rfl
  · try simp only [decide_eq_true_eq, decide_eq_false_iff_not, beq_iff_eq, beq_eq_false_iff_ne, bne_iff_ne, bne_eq_false_iff_eq, Bool.not_eq_true', Bool.not_eq_false', Int.not_lt, Int.not_le, ne_eq] at h2
    refine WP.skip ?_
    refine thnN ?_
    refine WP.seq ?_
    refine WP.region ?_
    first | refine WO.loadAll rfl ag_23 (by first | exact in0 | exact in1 | exact in2 | exact in3 | exact in4 | exact in5 | exact in6) rfl rfl ?_ | refine WO.loadAgg rfl ag_23 (by first | exact in0 | exact in1 | exact in2 | exact in3 | exact in4 | exact in5 | exact in6) rfl rfl rfl ?_
    refine WO.callP (s_lease_over e 2) rfl ca_26 rfl ?_
    first | refine WO.storeAll 0 rfl rfl rfl rfl ag_23 rfl (by rfl) ?_ | refine WO.storeAll 1 rfl rfl rfl rfl ag_23 rfl (by rfl) ?_ | refine WO.storeAll 2 rfl rfl rfl rfl ag_23 rfl (by rfl) ?_ | refine WO.storeAll 3 rfl rfl rfl rfl ag_23 rfl (by rfl) ?_ | refine WO.storeAll 4 rfl rfl rfl rfl ag_23 rfl (by rfl) ?_ | refine WO.storeAll 5 rfl rfl rfl rfl ag_23 rfl (by rfl) ?_ | refine WO.storeAgg 0 rfl rfl rfl rfl ag_23 rfl (by simp [ints, Value.oneCell']) (Nat.le_of_ble_eq_true rfl) _ rfl ?_ | refine WO.storeAgg 1 rfl rfl rfl rfl ag_23 rfl (by simp [ints, Value.oneCell']) (Nat.le_of_ble_eq_true rfl) _ rfl ?_ | refine WO.storeAgg 2 rfl rfl rfl rfl ag_23 rfl (by simp [ints, Value.oneCell']) (Nat.le_of_ble_eq_true rfl) _ rfl ?_
    refine WO.nil ?_
    refine thnN ?_
    refine WP.seq ?_
    refine WP.region ?_
    refine WO.move rfl rfl ?_
    refine WO.move rfl rfl ?_
    refine WO.move rfl rfl ?_
    first | refine WO.loadAll rfl ag_37 (by first | exact in0 | exact in1 | exact in2 | exact in3 | exact in4 | exact in5 | exact in6) rfl rfl ?_ | refine WO.loadAgg rfl ag_37 (by first | exact in0 | exact in1 | exact in2 | exact in3 | exact in4 | exact in5 | exact in6) rfl rfl rfl ?_
    refine WO.callP (s_num_Config c) rfl ca_20 rfl ?_
    refine WO.field (cs := _) rfl fsc_37_2 rfl rfl ?_
    refine WO.callP (s_num_Plus now (confF c).ttl) rfl ca_22 rfl ?_
    refine WO.fieldAddr rfl fo_23_9 rfl ?_
    first | refine WO.store 0 rfl rfl rfl sc_3 rfl rfl _ rfl ?_ | refine WO.store 1 rfl rfl rfl sc_3 rfl rfl _ rfl ?_ | refine WO.store 2 rfl rfl rfl sc_3 rfl rfl _ rfl ?_ | refine WO.store 3 rfl rfl rfl sc_3 rfl rfl _ rfl ?_
    refine WO.fieldAddr rfl fo_23_10 rfl ?_
    first | refine WO.store 0 rfl rfl rfl sc_9 rfl rfl _ rfl ?_ | refine WO.store 1 rfl rfl rfl sc_9 rfl rfl _ rfl ?_ | refine WO.store 2 rfl rfl rfl sc_9 rfl rfl _ rfl ?_ | refine WO.store 3 rfl rfl rfl sc_9 rfl rfl _ rfl ?_
    refine WO.fieldAddr rfl fo_23_8 rfl ?_
    first | refine WO.store 0 rfl rfl rfl sc_3 rfl rfl _ rfl ?_ | refine WO.store 1 rfl rfl rfl sc_3 rfl rfl _ rfl ?_ | refine WO.store 2 rfl rfl rfl sc_3 rfl rfl _ rfl ?_ | refine WO.store 3 rfl rfl rfl sc_3 rfl rfl _ rfl ?_
    refine WO.nil ?_
    refine thnN ?_
    refine WP.seq ?_
    refine WP.seq ?_
    refine WP.region ?_
    first | refine WO.loadAll rfl ag_23 (by first | exact in0 | exact in1 | exact in2 | exact in3 | exact in4 | exact in5 | exact in6) rfl rfl ?_ | refine WO.loadAgg rfl ag_23 (by first | exact in0 | exact in1 | exact in2 | exact in3 | exact in4 | exact in5 | exact in6) rfl rfl rfl ?_
    first | refine WO.callR 0 rfl (s_entry_May hG (doneF e status text now c) ?_) rfl ca_27 rfl ?_ | refine WO.callR 1 rfl (s_entry_May hG (doneF e status text now c) ?_) rfl ca_27 rfl ?_ | refine WO.callR 2 rfl (s_entry_May hG (doneF e status text now c) ?_) rfl ca_27 rfl ?_ | refine WO.callR 3 rfl (s_entry_May hG (doneF e status text now c) ?_) rfl ca_27 rfl ?_ | refine WO.callR 4 rfl (s_entry_May hG (doneF e status text now c) ?_) rfl ca_27 rfl ?_ | refine WO.callR 5 rfl (s_entry_May hG (doneF e status text now c) ?_) rfl ca_27 rfl ?_ | refine WO.callR 6 rfl (s_entry_May hG (doneF e status text now c) ?_) rfl ca_27 rfl ?_ | refine WO.callR 7 rfl (s_entry_May hG (doneF e status text now c) ?_) rfl ca_27 rfl ?_
    · exact ⟨Nat.zero_le _, Nat.zero_le _, Nat.zero_le _⟩
    rintro _ rfl
    refine WO.not rfl rfl ?_
    refine WO.nil ?_
    refine thnN ?_
    refine WP.condL 36 rfl (fun h3 => ?_) (fun h4 => ?_)
    · try simp only [decide_eq_true_eq, decide_eq_false_iff_not, beq_iff_eq, beq_eq_false_iff_ne, bne_iff_ne, bne_eq_false_iff_eq, Bool.not_eq_true', Bool.not_eq_false', Int.not_lt, Int.not_le, ne_eq] at h3
      refine WP.seq ?_
      refine WP.region ?_
      refine WO.buildQ (cs := [_, _, _, _, _, _, _, _, _, _, _, _, _, _]) rfl lay_23 zo_23 rfl rfl ?_
      first | refine WO.storeAll 0 rfl rfl rfl rfl ag_23 rfl (by rfl) ?_ | refine WO.storeAll 1 rfl rfl rfl rfl ag_23 rfl (by rfl) ?_ | refine WO.storeAll 2 rfl rfl rfl rfl ag_23 rfl (by rfl) ?_ | refine WO.storeAll 3 rfl rfl rfl rfl ag_23 rfl (by rfl) ?_ | refine WO.storeAll 4 rfl rfl rfl rfl ag_23 rfl (by rfl) ?_ | refine WO.storeAll 5 rfl rfl rfl rfl ag_23 rfl (by rfl) ?_ | refine WO.storeAgg 0 rfl rfl rfl rfl ag_23 rfl (by simp [ints, Value.oneCell']) (Nat.le_of_ble_eq_true rfl) _ rfl ?_ | refine WO.storeAgg 1 rfl rfl rfl rfl ag_23 rfl (by simp [ints, Value.oneCell']) (Nat.le_of_ble_eq_true rfl) _ rfl ?_ | refine WO.storeAgg 2 rfl rfl rfl rfl ag_23 rfl (by simp [ints, Value.oneCell']) (Nat.le_of_ble_eq_true rfl) _ rfl ?_
      refine WO.assign rfl rfl ?_
      refine WO.nil ?_
      refine thnN ?_
      refine WP.ret ?_
      refine thnR ?_
      refine ⟨_, [G], Res.cell2 rfl rfl ag_23 (by first | exact in0 | exact in1 | exact in2 | exact in3 | exact in4 | exact in5 | exact in6) rfl rfl, (by first | exact Imp.refl _ | exact Imp.pick 0 rfl | exact Imp.pick 1 rfl | exact Imp.pick 2 rfl | exact Imp.pick 3 rfl | exact Imp.pick 4 rfl | exact Imp.pick 5 rfl | exact Imp.pick 6 rfl), ?_⟩
      refine ⟨?_, rfl⟩
      rw [finish_1 (by simp_all) (by assumption)]; rfl
    · try simp only [decide_eq_true_eq, decide_eq_false_iff_not, beq_iff_eq, beq_eq_false_iff_ne, bne_iff_ne, bne_eq_false_iff_eq, Bool.not_eq_true', Bool.not_eq_false', Int.not_lt, Int.not_le, ne_eq] at h4
      refine WP.skip ?_
      refine thnN ?_
      refine WP.seq ?_
      refine WP.region ?_
      first | refine WO.loadAll rfl ag_23 (by first | exact in0 | exact in1 | exact in2 | exact in3 | exact in4 | exact in5 | exact in6) rfl rfl ?_ | refine WO.loadAgg rfl ag_23 (by first | exact in0 | exact in1 | exact in2 | exact in3 | exact in4 | exact in5 | exact in6) rfl rfl rfl ?_
      first | refine WO.storeAll 0 rfl rfl rfl rfl ag_23 rfl (by rfl) ?_ | refine WO.storeAll 1 rfl rfl rfl rfl ag_23 rfl (by rfl) ?_ | refine WO.storeAll 2 rfl rfl rfl rfl ag_23 rfl (by rfl) ?_ | refine WO.storeAll 3 rfl rfl rfl rfl ag_23 rfl (by rfl) ?_ | refine WO.storeAll 4 rfl rfl rfl rfl ag_23 rfl (by rfl) ?_ | refine WO.storeAll 5 rfl rfl rfl rfl ag_23 rfl (by rfl) ?_ | refine WO.storeAgg 0 rfl rfl rfl rfl ag_23 rfl (by simp [ints, Value.oneCell']) (Nat.le_of_ble_eq_true rfl) _ rfl ?_ | refine WO.storeAgg 1 rfl rfl rfl rfl ag_23 rfl (by simp [ints, Value.oneCell']) (Nat.le_of_ble_eq_true rfl) _ rfl ?_ | refine WO.storeAgg 2 rfl rfl rfl rfl ag_23 rfl (by simp [ints, Value.oneCell']) (Nat.le_of_ble_eq_true rfl) _ rfl ?_
      refine WO.assign rfl rfl ?_
      refine WO.nil ?_
      refine thnN ?_
      refine WP.ret ?_
      refine ⟨_, [G], Res.cell2 rfl rfl ag_23 (by first | exact in0 | exact in1 | exact in2 | exact in3 | exact in4 | exact in5 | exact in6) rfl rfl, (by first | exact Imp.refl _ | exact Imp.pick 0 rfl | exact Imp.pick 1 rfl | exact Imp.pick 2 rfl | exact Imp.pick 3 rfl | exact Imp.pick 4 rfl | exact Imp.pick 5 rfl | exact Imp.pick 6 rfl), ?_⟩
      refine ⟨?_, rfl⟩
      rw [finish_0 (by simp_all) (by assumption)]; rfl

theorem s_canon_Request {G : Foot} (hG : GlobOK G) (r : Req) : CallsS P 19 [reqV r] [G] (fun v L => (v = .tuple #[reqV ((reqF r).getD Req.zero), .bool (reqF r).isSome]) ∧ L = [G]) := by
  refine CallsS.intro Tryd.func19 rfl rfl rfl rfl ?_
  refine WP.seq ?_
  refine WP.region ?_
  refine WO.box rfl rfl rfl (fun b0 => ?_)
  refine WO.alloc zo_27 rfl (fun b1 => ?_)
  refine WO.assign rfl rfl ?_
  refine WO.nil ?_
  refine thnN ?_
  refine WP.seq ?_
  refine WP.region ?_
  refine WO.fieldAddr rfl fo_27_4 rfl ?_
  refine WO.load rfl sc_9 (by first | exact in0 | exact in1 | exact in2 | exact in3 | exact in4 | exact in5 | exact in6) rfl rfl ?_
  refine WO.callP (s_canon_Method _) rfl ca_30 rfl ?_
  refine WO.move rfl rfl ?_
  refine WO.extract rfl rfl rfl ?_
  refine WO.extract rfl rfl rfl ?_
  refine WO.assign rfl rfl ?_
  refine WO.assign rfl rfl ?_
  refine WO.nil ?_
  refine thnN ?_
  refine WP.seq ?_
  refine WP.region ?_
  refine WO.fieldAddr rfl fo_27_5 rfl ?_
  refine WO.load rfl sc_9 (by first | exact in0 | exact in1 | exact in2 | exact in3 | exact in4 | exact in5 | exact in6) rfl rfl ?_
  first | refine WO.callR 0 rfl (s_canon_Path hG _) rfl ca_31 rfl ?_ | refine WO.callR 1 rfl (s_canon_Path hG _) rfl ca_31 rfl ?_ | refine WO.callR 2 rfl (s_canon_Path hG _) rfl ca_31 rfl ?_ | refine WO.callR 3 rfl (s_canon_Path hG _) rfl ca_31 rfl ?_ | refine WO.callR 4 rfl (s_canon_Path hG _) rfl ca_31 rfl ?_ | refine WO.callR 5 rfl (s_canon_Path hG _) rfl ca_31 rfl ?_ | refine WO.callR 6 rfl (s_canon_Path hG _) rfl ca_31 rfl ?_ | refine WO.callR 7 rfl (s_canon_Path hG _) rfl ca_31 rfl ?_
  rintro _ rfl
  refine WO.move rfl rfl ?_
  refine WO.extract rfl rfl rfl ?_
  refine WO.extract rfl rfl rfl ?_
  refine WO.assign rfl rfl ?_
  refine WO.assign rfl rfl ?_
  refine WO.nil ?_
  refine thnN ?_
  refine WP.seq ?_
  refine WP.region ?_
  refine WO.fieldAddr rfl fo_27_2 rfl ?_
  refine WO.load rfl sc_3 (by first | exact in0 | exact in1 | exact in2 | exact in3 | exact in4 | exact in5 | exact in6) rfl rfl ?_
  refine WO.geqI rfl rfl rfl ?_
  refine WO.move rfl rfl ?_
  refine WO.split 24 rfl (fun h1 => ?_) (fun h2 => ?_)
  · try simp only [decide_eq_true_eq, decide_eq_false_iff_not, beq_iff_eq, beq_eq_false_iff_ne, bne_iff_ne, bne_eq_false_iff_eq, Bool.not_eq_true', Bool.not_eq_false', Int.not_lt, Int.not_le, ne_eq] at h1
    refine WO.want 24 rfl rfl ?_
    refine WO.fieldAddr rfl fo_27_2 rfl ?_
    refine WO.want 24 rfl rfl ?_
    refine WO.load rfl sc_3 (by first | exact in0 | exact in1 | exact in2 | exact in3 | exact in4 | exact in5 | exact in6) rfl rfl ?_
    refine WO.want 24 rfl rfl ?_
    refine WO.lssI rfl rfl rfl ?_
    refine WO.pickT rfl rfl rfl ?_
    refine WO.move rfl rfl ?_
    refine WO.split 29 rfl (fun h3 => ?_) (fun h4 => ?_)
    · try simp only [decide_eq_true_eq, decide_eq_false_iff_not, beq_iff_eq, beq_eq_false_iff_ne, bne_iff_ne, bne_eq_false_iff_eq, Bool.not_eq_true', Bool.not_eq_false', Int.not_lt, Int.not_le, ne_eq] at h3
      refine WO.want 29 rfl rfl ?_
      refine WO.fieldAddr rfl fo_27_0 rfl ?_
      refine WO.want 29 rfl rfl ?_
      refine WO.load rfl sc_3 (by first | exact in0 | exact in1 | exact in2 | exact in3 | exact in4 | exact in5 | exact in6) rfl rfl ?_
      refine WO.want 29 rfl rfl ?_
      refine WO.geqI rfl rfl rfl ?_
      refine WO.pickT rfl rfl rfl ?_
      refine WO.move rfl rfl ?_
      refine WO.split 34 rfl (fun h5 => ?_) (fun h6 => ?_)
      · try simp only [decide_eq_true_eq, decide_eq_false_iff_not, beq_iff_eq, beq_eq_false_iff_ne, bne_iff_ne, bne_eq_false_iff_eq, Bool.not_eq_true', Bool.not_eq_false', Int.not_lt, Int.not_le, ne_eq] at h5
        refine WO.want 34 rfl rfl ?_
        refine WO.fieldAddr rfl fo_27_0 rfl ?_
        refine WO.want 34 rfl rfl ?_
        refine WO.load rfl sc_3 (by first | exact in0 | exact in1 | exact in2 | exact in3 | exact in4 | exact in5 | exact in6) rfl rfl ?_
        refine WO.want 34 rfl rfl ?_
        refine WO.lssI rfl rfl rfl ?_
        refine WO.pickT rfl rfl rfl ?_
        refine WO.move rfl rfl ?_
        refine WO.split 39 rfl (fun h7 => ?_) (fun h8 => ?_)
        · try simp only [decide_eq_true_eq, decide_eq_false_iff_not, beq_iff_eq, beq_eq_false_iff_ne, bne_iff_ne, bne_eq_false_iff_eq, Bool.not_eq_true', Bool.not_eq_false', Int.not_lt, Int.not_le, ne_eq] at h7
          refine WO.want 39 rfl rfl ?_
          refine WO.fieldAddr rfl fo_27_1 rfl ?_
          refine WO.want 39 rfl rfl ?_
          refine WO.load rfl sc_3 (by first | exact in0 | exact in1 | exact in2 | exact in3 | exact in4 | exact in5 | exact in6) rfl rfl ?_
          refine WO.want 39 rfl rfl ?_
          refine WO.geqI rfl rfl rfl ?_
          refine WO.pickT rfl rfl rfl ?_
          refine WO.move rfl rfl ?_
          refine WO.split 44 rfl (fun h9 => ?_) (fun h10 => ?_)
          · try simp only [decide_eq_true_eq, decide_eq_false_iff_not, beq_iff_eq, beq_eq_false_iff_ne, bne_iff_ne, bne_eq_false_iff_eq, Bool.not_eq_true', Bool.not_eq_false', Int.not_lt, Int.not_le, ne_eq] at h9
            refine WO.want 44 rfl rfl ?_
            refine WO.fieldAddr rfl fo_27_1 rfl ?_
            refine WO.want 44 rfl rfl ?_
            refine WO.load rfl sc_3 (by first | exact in0 | exact in1 | exact in2 | exact in3 | exact in4 | exact in5 | exact in6) rfl rfl ?_
            refine WO.want 44 rfl rfl ?_
            refine WO.leqI rfl rfl rfl ?_
            refine WO.pickT rfl rfl rfl ?_
            refine WO.assign rfl rfl ?_
            refine WO.nil ?_
            refine thnN ?_
            refine WP.seq ?_
            refine WP.seq ?_
            refine WP.region ?_
            refine WO.move rfl rfl ?_
            refine WO.not rfl rfl ?_
            refine WO.move rfl rfl ?_
            refine WO.split 51 rfl (fun h11 => ?_) (fun h12 => ?_)
            · try simp only [decide_eq_true_eq, decide_eq_false_iff_not, beq_iff_eq, beq_eq_false_iff_ne, bne_iff_ne, bne_eq_false_iff_eq, Bool.not_eq_true', Bool.not_eq_false', Int.not_lt, Int.not_le, ne_eq] at h11
              refine WO.pass 51 rfl rfl rfl rfl ?_
              refine WO.pass 51 rfl rfl rfl rfl ?_
              refine WO.pickT rfl rfl rfl ?_
              refine WO.move rfl rfl ?_
              refine WO.pass 55 rfl rfl rfl rfl ?_
              refine WO.pass 55 rfl rfl rfl rfl ?_
              refine WO.pickT rfl rfl rfl ?_
              refine WO.move rfl rfl ?_
              refine WO.pass 59 rfl rfl rfl rfl ?_
              refine WO.pass 59 rfl rfl rfl rfl ?_
              refine WO.pass 59 rfl rfl rfl rfl ?_
              refine WO.pass 59 rfl rfl rfl rfl ?_
              refine WO.pickT rfl rfl rfl ?_
              refine WO.move rfl rfl ?_
              refine WO.pass 65 rfl rfl rfl rfl ?_
              refine WO.pass 65 rfl rfl rfl rfl ?_
              refine WO.pass 65 rfl rfl rfl rfl ?_
              refine WO.pass 65 rfl rfl rfl rfl ?_
              refine WO.pickT rfl rfl rfl ?_
              refine WO.nil ?_
              refine thnN ?_
              refine WP.condT rfl ?_
              refine WP.seq ?_
              refine WP.region ?_
              refine WO.buildQ (cs := [_, _, _, _, _, _, _]) rfl lay_27 zo_27 rfl rfl ?_
              first | refine WO.storeAll 0 rfl rfl rfl rfl ag_27 rfl (by rfl) ?_ | refine WO.storeAll 1 rfl rfl rfl rfl ag_27 rfl (by rfl) ?_ | refine WO.storeAll 2 rfl rfl rfl rfl ag_27 rfl (by rfl) ?_ | refine WO.storeAll 3 rfl rfl rfl rfl ag_27 rfl (by rfl) ?_ | refine WO.storeAll 4 rfl rfl rfl rfl ag_27 rfl (by rfl) ?_ | refine WO.storeAll 5 rfl rfl rfl rfl ag_27 rfl (by rfl) ?_ | refine WO.storeAgg 0 rfl rfl rfl rfl ag_27 rfl (by simp [ints, Value.oneCell']) (Nat.le_of_ble_eq_true rfl) _ rfl ?_ | refine WO.storeAgg 1 rfl rfl rfl rfl ag_27 rfl (by simp [ints, Value.oneCell']) (Nat.le_of_ble_eq_true rfl) _ rfl ?_ | refine WO.storeAgg 2 rfl rfl rfl rfl ag_27 rfl (by simp [ints, Value.oneCell']) (Nat.le_of_ble_eq_true rfl) _ rfl ?_
              refine WO.assign rfl rfl ?_
              refine WO.nil ?_
              refine thnN ?_
              refine WP.ret ?_
              refine thnR ?_
              refine ⟨_, [G], Res.cell2 rfl rfl ag_27 (by first | exact in0 | exact in1 | exact in2 | exact in3 | exact in4 | exact in5 | exact in6) rfl rfl, (by first | exact Imp.refl _ | exact Imp.pick 0 rfl | exact Imp.pick 1 rfl | exact Imp.pick 2 rfl | exact Imp.pick 3 rfl | exact Imp.pick 4 rfl | exact Imp.pick 5 rfl | exact Imp.pick 6 rfl), ?_⟩
              refine ⟨?_, rfl⟩
              first
              | (refine (fun (e : reqF r = none) => ?_) ?_
                 · rw [e]; rfl
                 · unfold reqF
                   rw [if_neg]
                   rintro ⟨g1, g2, ⟨g3, g4, g5, g6, g7, g8⟩, g9, g10⟩
                   first | omega | (simp_all; done))
              | (refine (fun (e : reqF r = some { r with method := (methodF r.method).getD [], path := (pathF r.path).getD [] }) => ?_) ?_
                 · rw [e]; rfl
                 · unfold reqF
                   rw [if_pos]
                   exact ⟨by assumption, by assumption, ⟨by omega, by omega, by omega, by omega, by omega, by omega⟩, by assumption, by omega⟩)
            · try simp only [decide_eq_true_eq, decide_eq_false_iff_not, beq_iff_eq, beq_eq_false_iff_ne, bne_iff_ne, bne_eq_false_iff_eq, Bool.not_eq_true', Bool.not_eq_false', Int.not_lt, Int.not_le, ne_eq] at h12
              refine WO.want 51 rfl rfl ?_
              refine WO.move rfl rfl ?_
              refine WO.want 51 rfl rfl ?_
              refine WO.not rfl rfl ?_
              refine WO.pickF rfl rfl rfl ?_
              refine WO.move rfl rfl ?_
              refine WO.split 55 rfl (fun h13 => ?_) (fun h14 => ?_)
              · try simp only [decide_eq_true_eq, decide_eq_false_iff_not, beq_iff_eq, beq_eq_false_iff_ne, bne_iff_ne, bne_eq_false_iff_eq, Bool.not_eq_true', Bool.not_eq_false', Int.not_lt, Int.not_le, ne_eq] at h13
                refine WO.pass 55 rfl rfl rfl rfl ?_
                refine WO.pass 55 rfl rfl rfl rfl ?_
                refine WO.pickT rfl rfl rfl ?_
                refine WO.move rfl rfl ?_
                refine WO.pass 59 rfl rfl rfl rfl ?_
                refine WO.pass 59 rfl rfl rfl rfl ?_
                refine WO.pass 59 rfl rfl rfl rfl ?_
                refine WO.pass 59 rfl rfl rfl rfl ?_
                refine WO.pickT rfl rfl rfl ?_
                refine WO.move rfl rfl ?_
                refine WO.pass 65 rfl rfl rfl rfl ?_
                refine WO.pass 65 rfl rfl rfl rfl ?_
                refine WO.pass 65 rfl rfl rfl rfl ?_
                refine WO.pass 65 rfl rfl rfl rfl ?_
                refine WO.pickT rfl rfl rfl ?_
                refine WO.nil ?_
                refine thnN ?_
                refine WP.condT rfl ?_
                refine WP.seq ?_
                refine WP.region ?_
                refine WO.buildQ (cs := [_, _, _, _, _, _, _]) rfl lay_27 zo_27 rfl rfl ?_
                first | refine WO.storeAll 0 rfl rfl rfl rfl ag_27 rfl (by rfl) ?_ | refine WO.storeAll 1 rfl rfl rfl rfl ag_27 rfl (by rfl) ?_ | refine WO.storeAll 2 rfl rfl rfl rfl ag_27 rfl (by rfl) ?_ | refine WO.storeAll 3 rfl rfl rfl rfl ag_27 rfl (by rfl) ?_ | refine WO.storeAll 4 rfl rfl rfl rfl ag_27 rfl (by rfl) ?_ | refine WO.storeAll 5 rfl rfl rfl rfl ag_27 rfl (by rfl) ?_ | refine WO.storeAgg 0 rfl rfl rfl rfl ag_27 rfl (by simp [ints, Value.oneCell']) (Nat.le_of_ble_eq_true rfl) _ rfl ?_ | refine WO.storeAgg 1 rfl rfl rfl rfl ag_27 rfl (by simp [ints, Value.oneCell']) (Nat.le_of_ble_eq_true rfl) _ rfl ?_ | refine WO.storeAgg 2 rfl rfl rfl rfl ag_27 rfl (by simp [ints, Value.oneCell']) (Nat.le_of_ble_eq_true rfl) _ rfl ?_
                refine WO.assign rfl rfl ?_
                refine WO.nil ?_
                refine thnN ?_
                refine WP.ret ?_
                refine thnR ?_
                refine ⟨_, [G], Res.cell2 rfl rfl ag_27 (by first | exact in0 | exact in1 | exact in2 | exact in3 | exact in4 | exact in5 | exact in6) rfl rfl, (by first | exact Imp.refl _ | exact Imp.pick 0 rfl | exact Imp.pick 1 rfl | exact Imp.pick 2 rfl | exact Imp.pick 3 rfl | exact Imp.pick 4 rfl | exact Imp.pick 5 rfl | exact Imp.pick 6 rfl), ?_⟩
                refine ⟨?_, rfl⟩
                first
                | (refine (fun (e : reqF r = none) => ?_) ?_
                   · rw [e]; rfl
                   · unfold reqF
                     rw [if_neg]
                     rintro ⟨g1, g2, ⟨g3, g4, g5, g6, g7, g8⟩, g9, g10⟩
                     first | omega | (simp_all; done))
                | (refine (fun (e : reqF r = some { r with method := (methodF r.method).getD [], path := (pathF r.path).getD [] }) => ?_) ?_
                   · rw [e]; rfl
                   · unfold reqF
                     rw [if_pos]
                     exact ⟨by assumption, by assumption, ⟨by omega, by omega, by omega, by omega, by omega, by omega⟩, by assumption, by omega⟩)
              · try simp only [decide_eq_true_eq, decide_eq_false_iff_not, beq_iff_eq, beq_eq_false_iff_ne, bne_iff_ne, bne_eq_false_iff_eq, Bool.not_eq_true', Bool.not_eq_false', Int.not_lt, Int.not_le, ne_eq] at h14
                refine WO.want 55 rfl rfl ?_
                refine WO.move rfl rfl ?_
                refine WO.want 55 rfl rfl ?_
                refine WO.not rfl rfl ?_
                refine WO.pickF rfl rfl rfl ?_
                refine WO.move rfl rfl ?_
                refine WO.split 59 rfl (fun h15 => ?_) (fun h16 => ?_)
                · try simp only [decide_eq_true_eq, decide_eq_false_iff_not, beq_iff_eq, beq_eq_false_iff_ne, bne_iff_ne, bne_eq_false_iff_eq, Bool.not_eq_true', Bool.not_eq_false', Int.not_lt, Int.not_le, ne_eq] at h15
                  refine WO.pass 59 rfl rfl rfl rfl ?_
                  refine WO.pass 59 rfl rfl rfl rfl ?_
                  refine WO.pass 59 rfl rfl rfl rfl ?_
                  refine WO.pass 59 rfl rfl rfl rfl ?_
                  refine WO.pickT rfl rfl rfl ?_
                  refine WO.move rfl rfl ?_
                  refine WO.pass 65 rfl rfl rfl rfl ?_
                  refine WO.pass 65 rfl rfl rfl rfl ?_
                  refine WO.pass 65 rfl rfl rfl rfl ?_
                  refine WO.pass 65 rfl rfl rfl rfl ?_
                  refine WO.pickT rfl rfl rfl ?_
                  refine WO.nil ?_
                  refine thnN ?_
                  refine WP.condT rfl ?_
                  refine WP.seq ?_
                  refine WP.region ?_
                  refine WO.buildQ (cs := [_, _, _, _, _, _, _]) rfl lay_27 zo_27 rfl rfl ?_
                  first | refine WO.storeAll 0 rfl rfl rfl rfl ag_27 rfl (by rfl) ?_ | refine WO.storeAll 1 rfl rfl rfl rfl ag_27 rfl (by rfl) ?_ | refine WO.storeAll 2 rfl rfl rfl rfl ag_27 rfl (by rfl) ?_ | refine WO.storeAll 3 rfl rfl rfl rfl ag_27 rfl (by rfl) ?_ | refine WO.storeAll 4 rfl rfl rfl rfl ag_27 rfl (by rfl) ?_ | refine WO.storeAll 5 rfl rfl rfl rfl ag_27 rfl (by rfl) ?_ | refine WO.storeAgg 0 rfl rfl rfl rfl ag_27 rfl (by simp [ints, Value.oneCell']) (Nat.le_of_ble_eq_true rfl) _ rfl ?_ | refine WO.storeAgg 1 rfl rfl rfl rfl ag_27 rfl (by simp [ints, Value.oneCell']) (Nat.le_of_ble_eq_true rfl) _ rfl ?_ | refine WO.storeAgg 2 rfl rfl rfl rfl ag_27 rfl (by simp [ints, Value.oneCell']) (Nat.le_of_ble_eq_true rfl) _ rfl ?_
                  refine WO.assign rfl rfl ?_
                  refine WO.nil ?_
                  refine thnN ?_
                  refine WP.ret ?_
                  refine thnR ?_
                  refine ⟨_, [G], Res.cell2 rfl rfl ag_27 (by first | exact in0 | exact in1 | exact in2 | exact in3 | exact in4 | exact in5 | exact in6) rfl rfl, (by first | exact Imp.refl _ | exact Imp.pick 0 rfl | exact Imp.pick 1 rfl | exact Imp.pick 2 rfl | exact Imp.pick 3 rfl | exact Imp.pick 4 rfl | exact Imp.pick 5 rfl | exact Imp.pick 6 rfl), ?_⟩
                  refine ⟨?_, rfl⟩
                  first
                  | (refine (fun (e : reqF r = none) => ?_) ?_
                     · rw [e]; rfl
                     · unfold reqF
                       rw [if_neg]
                       rintro ⟨g1, g2, ⟨g3, g4, g5, g6, g7, g8⟩, g9, g10⟩
                       first | omega | (simp_all; done))
                  | (refine (fun (e : reqF r = some { r with method := (methodF r.method).getD [], path := (pathF r.path).getD [] }) => ?_) ?_
                     · rw [e]; rfl
                     · unfold reqF
                       rw [if_pos]
                       exact ⟨by assumption, by assumption, ⟨by omega, by omega, by omega, by omega, by omega, by omega⟩, by assumption, by omega⟩)
                · try simp only [decide_eq_true_eq, decide_eq_false_iff_not, beq_iff_eq, beq_eq_false_iff_ne, bne_iff_ne, bne_eq_false_iff_eq, Bool.not_eq_true', Bool.not_eq_false', Int.not_lt, Int.not_le, ne_eq] at h16
                  refine WO.want 59 rfl rfl ?_
                  refine WO.fieldAddr rfl fo_27_3 rfl ?_
                  refine WO.want 59 rfl rfl ?_
                  refine WO.load rfl sc_9 (by first | exact in0 | exact in1 | exact in2 | exact in3 | exact in4 | exact in5 | exact in6) rfl rfl ?_
                  refine WO.want 59 rfl rfl ?_
                  refine WO.callP (s_canon_Key _) rfl ca_32 rfl ?_
                  refine WO.want 59 rfl rfl ?_
                  refine WO.not rfl rfl ?_
                  refine WO.pickF rfl rfl rfl ?_
                  refine WO.move rfl rfl ?_
                  refine WO.split 65 rfl (fun h17 => ?_) (fun h18 => ?_)
                  · try simp only [decide_eq_true_eq, decide_eq_false_iff_not, beq_iff_eq, beq_eq_false_iff_ne, bne_iff_ne, bne_eq_false_iff_eq, Bool.not_eq_true', Bool.not_eq_false', Int.not_lt, Int.not_le, ne_eq] at h17
                    refine WO.pass 65 rfl rfl rfl rfl ?_
                    refine WO.pass 65 rfl rfl rfl rfl ?_
                    refine WO.pass 65 rfl rfl rfl rfl ?_
                    refine WO.pass 65 rfl rfl rfl rfl ?_
                    refine WO.pickT rfl rfl rfl ?_
                    refine WO.nil ?_
                    refine thnN ?_
                    refine WP.condT rfl ?_
                    refine WP.seq ?_
                    refine WP.region ?_
                    refine WO.buildQ (cs := [_, _, _, _, _, _, _]) rfl lay_27 zo_27 rfl rfl ?_
                    first | refine WO.storeAll 0 rfl rfl rfl rfl ag_27 rfl (by rfl) ?_ | refine WO.storeAll 1 rfl rfl rfl rfl ag_27 rfl (by rfl) ?_ | refine WO.storeAll 2 rfl rfl rfl rfl ag_27 rfl (by rfl) ?_ | refine WO.storeAll 3 rfl rfl rfl rfl ag_27 rfl (by rfl) ?_ | refine WO.storeAll 4 rfl rfl rfl rfl ag_27 rfl (by rfl) ?_ | refine WO.storeAll 5 rfl rfl rfl rfl ag_27 rfl (by rfl) ?_ | refine WO.storeAgg 0 rfl rfl rfl rfl ag_27 rfl (by simp [ints, Value.oneCell']) (Nat.le_of_ble_eq_true rfl) _ rfl ?_ | refine WO.storeAgg 1 rfl rfl rfl rfl ag_27 rfl (by simp [ints, Value.oneCell']) (Nat.le_of_ble_eq_true rfl) _ rfl ?_ | refine WO.storeAgg 2 rfl rfl rfl rfl ag_27 rfl (by simp [ints, Value.oneCell']) (Nat.le_of_ble_eq_true rfl) _ rfl ?_
                    refine WO.assign rfl rfl ?_
                    refine WO.nil ?_
                    refine thnN ?_
                    refine WP.ret ?_
                    refine thnR ?_
                    refine ⟨_, [G], Res.cell2 rfl rfl ag_27 (by first | exact in0 | exact in1 | exact in2 | exact in3 | exact in4 | exact in5 | exact in6) rfl rfl, (by first | exact Imp.refl _ | exact Imp.pick 0 rfl | exact Imp.pick 1 rfl | exact Imp.pick 2 rfl | exact Imp.pick 3 rfl | exact Imp.pick 4 rfl | exact Imp.pick 5 rfl | exact Imp.pick 6 rfl), ?_⟩
                    refine ⟨?_, rfl⟩
                    first
                    | (refine (fun (e : reqF r = none) => ?_) ?_
                       · rw [e]; rfl
                       · unfold reqF
                         rw [if_neg]
                         rintro ⟨g1, g2, ⟨g3, g4, g5, g6, g7, g8⟩, g9, g10⟩
                         first | omega | (simp_all; done))
                    | (refine (fun (e : reqF r = some { r with method := (methodF r.method).getD [], path := (pathF r.path).getD [] }) => ?_) ?_
                       · rw [e]; rfl
                       · unfold reqF
                         rw [if_pos]
                         exact ⟨by assumption, by assumption, ⟨by omega, by omega, by omega, by omega, by omega, by omega⟩, by assumption, by omega⟩)
                  · try simp only [decide_eq_true_eq, decide_eq_false_iff_not, beq_iff_eq, beq_eq_false_iff_ne, bne_iff_ne, bne_eq_false_iff_eq, Bool.not_eq_true', Bool.not_eq_false', Int.not_lt, Int.not_le, ne_eq] at h18
                    refine WO.want 65 rfl rfl ?_
                    refine WO.fieldAddr rfl fo_27_6 rfl ?_
                    refine WO.want 65 rfl rfl ?_
                    refine WO.load rfl sc_9 (by first | exact in0 | exact in1 | exact in2 | exact in3 | exact in4 | exact in5 | exact in6) rfl rfl ?_
                    refine WO.want 65 rfl rfl ?_
                    refine WO.lenS rfl un_9 rfl ?_
                    refine WO.want 65 rfl rfl ?_
                    refine WO.gtrI rfl rfl rfl ?_
                    refine WO.pickF rfl rfl rfl ?_
                    refine WO.nil ?_
                    refine thnN ?_
                    refine WP.condL 70 rfl (fun h19 => ?_) (fun h20 => ?_)
                    · try simp only [decide_eq_true_eq, decide_eq_false_iff_not, beq_iff_eq, beq_eq_false_iff_ne, bne_iff_ne, bne_eq_false_iff_eq, Bool.not_eq_true', Bool.not_eq_false', Int.not_lt, Int.not_le, ne_eq] at h19
                      refine WP.seq ?_
                      refine WP.region ?_
                      refine WO.buildQ (cs := [_, _, _, _, _, _, _]) rfl lay_27 zo_27 rfl rfl ?_
                      first | refine WO.storeAll 0 rfl rfl rfl rfl ag_27 rfl (by rfl) ?_ | refine WO.storeAll 1 rfl rfl rfl rfl ag_27 rfl (by rfl) ?_ | refine WO.storeAll 2 rfl rfl rfl rfl ag_27 rfl (by rfl) ?_ | refine WO.storeAll 3 rfl rfl rfl rfl ag_27 rfl (by rfl) ?_ | refine WO.storeAll 4 rfl rfl rfl rfl ag_27 rfl (by rfl) ?_ | refine WO.storeAll 5 rfl rfl rfl rfl ag_27 rfl (by rfl) ?_ | refine WO.storeAgg 0 rfl rfl rfl rfl ag_27 rfl (by simp [ints, Value.oneCell']) (Nat.le_of_ble_eq_true rfl) _ rfl ?_ | refine WO.storeAgg 1 rfl rfl rfl rfl ag_27 rfl (by simp [ints, Value.oneCell']) (Nat.le_of_ble_eq_true rfl) _ rfl ?_ | refine WO.storeAgg 2 rfl rfl rfl rfl ag_27 rfl (by simp [ints, Value.oneCell']) (Nat.le_of_ble_eq_true rfl) _ rfl ?_
                      refine WO.assign rfl rfl ?_
                      refine WO.nil ?_
                      refine thnN ?_
                      refine WP.ret ?_
                      refine thnR ?_
                      refine ⟨_, [G], Res.cell2 rfl rfl ag_27 (by first | exact in0 | exact in1 | exact in2 | exact in3 | exact in4 | exact in5 | exact in6) rfl rfl, (by first | exact Imp.refl _ | exact Imp.pick 0 rfl | exact Imp.pick 1 rfl | exact Imp.pick 2 rfl | exact Imp.pick 3 rfl | exact Imp.pick 4 rfl | exact Imp.pick 5 rfl | exact Imp.pick 6 rfl), ?_⟩
                      refine ⟨?_, rfl⟩
                      first
                      | (refine (fun (e : reqF r = none) => ?_) ?_
                         · rw [e]; rfl
                         · unfold reqF
                           rw [if_neg]
                           rintro ⟨g1, g2, ⟨g3, g4, g5, g6, g7, g8⟩, g9, g10⟩
                           first | omega | (simp_all; done))
                      | (refine (fun (e : reqF r = some { r with method := (methodF r.method).getD [], path := (pathF r.path).getD [] }) => ?_) ?_
                         · rw [e]; rfl
                         · unfold reqF
                           rw [if_pos]
                           exact ⟨by assumption, by assumption, ⟨by omega, by omega, by omega, by omega, by omega, by omega⟩, by assumption, by omega⟩)
                    · try simp only [decide_eq_true_eq, decide_eq_false_iff_not, beq_iff_eq, beq_eq_false_iff_ne, bne_iff_ne, bne_eq_false_iff_eq, Bool.not_eq_true', Bool.not_eq_false', Int.not_lt, Int.not_le, ne_eq] at h20
                      refine WP.skip ?_
                      refine thnN ?_
                      refine WP.seq ?_
                      refine WP.region ?_
                      refine WO.move rfl rfl ?_
                      refine WO.move rfl rfl ?_
                      refine WO.fieldAddr rfl fo_27_4 rfl ?_
                      first | refine WO.store 0 rfl rfl rfl sc_9 rfl rfl _ rfl ?_ | refine WO.store 1 rfl rfl rfl sc_9 rfl rfl _ rfl ?_ | refine WO.store 2 rfl rfl rfl sc_9 rfl rfl _ rfl ?_ | refine WO.store 3 rfl rfl rfl sc_9 rfl rfl _ rfl ?_
                      refine WO.fieldAddr rfl fo_27_5 rfl ?_
                      first | refine WO.store 0 rfl rfl rfl sc_9 rfl rfl _ rfl ?_ | refine WO.store 1 rfl rfl rfl sc_9 rfl rfl _ rfl ?_ | refine WO.store 2 rfl rfl rfl sc_9 rfl rfl _ rfl ?_ | refine WO.store 3 rfl rfl rfl sc_9 rfl rfl _ rfl ?_
                      refine WO.nil ?_
                      refine thnN ?_
                      refine WP.seq ?_
                      refine WP.region ?_
                      first | refine WO.loadAll rfl ag_27 (by first | exact in0 | exact in1 | exact in2 | exact in3 | exact in4 | exact in5 | exact in6) rfl rfl ?_ | refine WO.loadAgg rfl ag_27 (by first | exact in0 | exact in1 | exact in2 | exact in3 | exact in4 | exact in5 | exact in6) rfl rfl rfl ?_
                      first | refine WO.storeAll 0 rfl rfl rfl rfl ag_27 rfl (by rfl) ?_ | refine WO.storeAll 1 rfl rfl rfl rfl ag_27 rfl (by rfl) ?_ | refine WO.storeAll 2 rfl rfl rfl rfl ag_27 rfl (by rfl) ?_ | refine WO.storeAll 3 rfl rfl rfl rfl ag_27 rfl (by rfl) ?_ | refine WO.storeAll 4 rfl rfl rfl rfl ag_27 rfl (by rfl) ?_ | refine WO.storeAll 5 rfl rfl rfl rfl ag_27 rfl (by rfl) ?_ | refine WO.storeAgg 0 rfl rfl rfl rfl ag_27 rfl (by simp [ints, Value.oneCell']) (Nat.le_of_ble_eq_true rfl) _ rfl ?_ | refine WO.storeAgg 1 rfl rfl rfl rfl ag_27 rfl (by simp [ints, Value.oneCell']) (Nat.le_of_ble_eq_true rfl) _ rfl ?_ | refine WO.storeAgg 2 rfl rfl rfl rfl ag_27 rfl (by simp [ints, Value.oneCell']) (Nat.le_of_ble_eq_true rfl) _ rfl ?_
                      refine WO.assign rfl rfl ?_
                      refine WO.nil ?_
                      refine thnN ?_
                      refine WP.ret ?_
                      refine ⟨_, [G], Res.cell2 rfl rfl ag_27 (by first | exact in0 | exact in1 | exact in2 | exact in3 | exact in4 | exact in5 | exact in6) rfl rfl, (by first | exact Imp.refl _ | exact Imp.pick 0 rfl | exact Imp.pick 1 rfl | exact Imp.pick 2 rfl | exact Imp.pick 3 rfl | exact Imp.pick 4 rfl | exact Imp.pick 5 rfl | exact Imp.pick 6 rfl), ?_⟩
                      refine ⟨?_, rfl⟩
                      first
                      | (refine (fun (e : reqF r = none) => ?_) ?_
                         · rw [e]; rfl
                         · unfold reqF
                           rw [if_neg]
                           rintro ⟨g1, g2, ⟨g3, g4, g5, g6, g7, g8⟩, g9, g10⟩
                           first | omega | (simp_all; done))
                      | (refine (fun (e : reqF r = some { r with method := (methodF r.method).getD [], path := (pathF r.path).getD [] }) => ?_) ?_
                         · rw [e]; rfl
                         · unfold reqF
                           rw [if_pos]
                           exact ⟨by assumption, by assumption, ⟨by omega, by omega, by omega, by omega, by omega, by omega⟩, by assumption, by omega⟩)
          · try simp only [decide_eq_true_eq, decide_eq_false_iff_not, beq_iff_eq, beq_eq_false_iff_ne, bne_iff_ne, bne_eq_false_iff_eq, Bool.not_eq_true', Bool.not_eq_false', Int.not_lt, Int.not_le, ne_eq] at h10
            refine WO.pass 44 rfl rfl rfl rfl ?_
            refine WO.pass 44 rfl rfl rfl rfl ?_
            refine WO.pass 44 rfl rfl rfl rfl ?_
            refine WO.pickF rfl rfl rfl ?_
            refine WO.assign rfl rfl ?_
            refine WO.nil ?_
            refine thnN ?_
            refine WP.seq ?_
            refine WP.seq ?_
            refine WP.region ?_
            refine WO.move rfl rfl ?_
            refine WO.not rfl rfl ?_
            refine WO.move rfl rfl ?_
            refine WO.split 51 rfl (fun h21 => ?_) (fun h22 => ?_)
            · try simp only [decide_eq_true_eq, decide_eq_false_iff_not, beq_iff_eq, beq_eq_false_iff_ne, bne_iff_ne, bne_eq_false_iff_eq, Bool.not_eq_true', Bool.not_eq_false', Int.not_lt, Int.not_le, ne_eq] at h21
              refine WO.pass 51 rfl rfl rfl rfl ?_
              refine WO.pass 51 rfl rfl rfl rfl ?_
              refine WO.pickT rfl rfl rfl ?_
              refine WO.move rfl rfl ?_
              refine WO.pass 55 rfl rfl rfl rfl ?_
              refine WO.pass 55 rfl rfl rfl rfl ?_
              refine WO.pickT rfl rfl rfl ?_
              refine WO.move rfl rfl ?_
              refine WO.pass 59 rfl rfl rfl rfl ?_
              refine WO.pass 59 rfl rfl rfl rfl ?_
              refine WO.pass 59 rfl rfl rfl rfl ?_
              refine WO.pass 59 rfl rfl rfl rfl ?_
              refine WO.pickT rfl rfl rfl ?_
              refine WO.move rfl rfl ?_
              refine WO.pass 65 rfl rfl rfl rfl ?_
              refine WO.pass 65 rfl rfl rfl rfl ?_
              refine WO.pass 65 rfl rfl rfl rfl ?_
              refine WO.pass 65 rfl rfl rfl rfl ?_
              refine WO.pickT rfl rfl rfl ?_
              refine WO.nil ?_
              refine thnN ?_
              refine WP.condT rfl ?_
              refine WP.seq ?_
              refine WP.region ?_
              refine WO.buildQ (cs := [_, _, _, _, _, _, _]) rfl lay_27 zo_27 rfl rfl ?_
              first | refine WO.storeAll 0 rfl rfl rfl rfl ag_27 rfl (by rfl) ?_ | refine WO.storeAll 1 rfl rfl rfl rfl ag_27 rfl (by rfl) ?_ | refine WO.storeAll 2 rfl rfl rfl rfl ag_27 rfl (by rfl) ?_ | refine WO.storeAll 3 rfl rfl rfl rfl ag_27 rfl (by rfl) ?_ | refine WO.storeAll 4 rfl rfl rfl rfl ag_27 rfl (by rfl) ?_ | refine WO.storeAll 5 rfl rfl rfl rfl ag_27 rfl (by rfl) ?_ | refine WO.storeAgg 0 rfl rfl rfl rfl ag_27 rfl (by simp [ints, Value.oneCell']) (Nat.le_of_ble_eq_true rfl) _ rfl ?_ | refine WO.storeAgg 1 rfl rfl rfl rfl ag_27 rfl (by simp [ints, Value.oneCell']) (Nat.le_of_ble_eq_true rfl) _ rfl ?_ | refine WO.storeAgg 2 rfl rfl rfl rfl ag_27 rfl (by simp [ints, Value.oneCell']) (Nat.le_of_ble_eq_true rfl) _ rfl ?_
              refine WO.assign rfl rfl ?_
              refine WO.nil ?_
              refine thnN ?_
              refine WP.ret ?_
              refine thnR ?_
              refine ⟨_, [G], Res.cell2 rfl rfl ag_27 (by first | exact in0 | exact in1 | exact in2 | exact in3 | exact in4 | exact in5 | exact in6) rfl rfl, (by first | exact Imp.refl _ | exact Imp.pick 0 rfl | exact Imp.pick 1 rfl | exact Imp.pick 2 rfl | exact Imp.pick 3 rfl | exact Imp.pick 4 rfl | exact Imp.pick 5 rfl | exact Imp.pick 6 rfl), ?_⟩
              refine ⟨?_, rfl⟩
              first
              | (refine (fun (e : reqF r = none) => ?_) ?_
                 · rw [e]; rfl
                 · unfold reqF
                   rw [if_neg]
                   rintro ⟨g1, g2, ⟨g3, g4, g5, g6, g7, g8⟩, g9, g10⟩
                   first | omega | (simp_all; done))
              | (refine (fun (e : reqF r = some { r with method := (methodF r.method).getD [], path := (pathF r.path).getD [] }) => ?_) ?_
                 · rw [e]; rfl
                 · unfold reqF
                   rw [if_pos]
                   exact ⟨by assumption, by assumption, ⟨by omega, by omega, by omega, by omega, by omega, by omega⟩, by assumption, by omega⟩)
            · try simp only [decide_eq_true_eq, decide_eq_false_iff_not, beq_iff_eq, beq_eq_false_iff_ne, bne_iff_ne, bne_eq_false_iff_eq, Bool.not_eq_true', Bool.not_eq_false', Int.not_lt, Int.not_le, ne_eq] at h22
              refine WO.want 51 rfl rfl ?_
              refine WO.move rfl rfl ?_
              refine WO.want 51 rfl rfl ?_
              refine WO.not rfl rfl ?_
              refine WO.pickF rfl rfl rfl ?_
              refine WO.move rfl rfl ?_
              refine WO.split 55 rfl (fun h23 => ?_) (fun h24 => ?_)
              · try simp only [decide_eq_true_eq, decide_eq_false_iff_not, beq_iff_eq, beq_eq_false_iff_ne, bne_iff_ne, bne_eq_false_iff_eq, Bool.not_eq_true', Bool.not_eq_false', Int.not_lt, Int.not_le, ne_eq] at h23
                refine WO.pass 55 rfl rfl rfl rfl ?_
                refine WO.pass 55 rfl rfl rfl rfl ?_
                refine WO.pickT rfl rfl rfl ?_
                refine WO.move rfl rfl ?_
                refine WO.pass 59 rfl rfl rfl rfl ?_
                refine WO.pass 59 rfl rfl rfl rfl ?_
                refine WO.pass 59 rfl rfl rfl rfl ?_
                refine WO.pass 59 rfl rfl rfl rfl ?_
                refine WO.pickT rfl rfl rfl ?_
                refine WO.move rfl rfl ?_
                refine WO.pass 65 rfl rfl rfl rfl ?_
                refine WO.pass 65 rfl rfl rfl rfl ?_
                refine WO.pass 65 rfl rfl rfl rfl ?_
                refine WO.pass 65 rfl rfl rfl rfl ?_
                refine WO.pickT rfl rfl rfl ?_
                refine WO.nil ?_
                refine thnN ?_
                refine WP.condT rfl ?_
                refine WP.seq ?_
                refine WP.region ?_
                refine WO.buildQ (cs := [_, _, _, _, _, _, _]) rfl lay_27 zo_27 rfl rfl ?_
                first | refine WO.storeAll 0 rfl rfl rfl rfl ag_27 rfl (by rfl) ?_ | refine WO.storeAll 1 rfl rfl rfl rfl ag_27 rfl (by rfl) ?_ | refine WO.storeAll 2 rfl rfl rfl rfl ag_27 rfl (by rfl) ?_ | refine WO.storeAll 3 rfl rfl rfl rfl ag_27 rfl (by rfl) ?_ | refine WO.storeAll 4 rfl rfl rfl rfl ag_27 rfl (by rfl) ?_ | refine WO.storeAll 5 rfl rfl rfl rfl ag_27 rfl (by rfl) ?_ | refine WO.storeAgg 0 rfl rfl rfl rfl ag_27 rfl (by simp [ints, Value.oneCell']) (Nat.le_of_ble_eq_true rfl) _ rfl ?_ | refine WO.storeAgg 1 rfl rfl rfl rfl ag_27 rfl (by simp [ints, Value.oneCell']) (Nat.le_of_ble_eq_true rfl) _ rfl ?_ | refine WO.storeAgg 2 rfl rfl rfl rfl ag_27 rfl (by simp [ints, Value.oneCell']) (Nat.le_of_ble_eq_true rfl) _ rfl ?_
                refine WO.assign rfl rfl ?_
                refine WO.nil ?_
                refine thnN ?_
                refine WP.ret ?_
                refine thnR ?_
                refine ⟨_, [G], Res.cell2 rfl rfl ag_27 (by first | exact in0 | exact in1 | exact in2 | exact in3 | exact in4 | exact in5 | exact in6) rfl rfl, (by first | exact Imp.refl _ | exact Imp.pick 0 rfl | exact Imp.pick 1 rfl | exact Imp.pick 2 rfl | exact Imp.pick 3 rfl | exact Imp.pick 4 rfl | exact Imp.pick 5 rfl | exact Imp.pick 6 rfl), ?_⟩
                refine ⟨?_, rfl⟩
                first
                | (refine (fun (e : reqF r = none) => ?_) ?_
                   · rw [e]; rfl
                   · unfold reqF
                     rw [if_neg]
                     rintro ⟨g1, g2, ⟨g3, g4, g5, g6, g7, g8⟩, g9, g10⟩
                     first | omega | (simp_all; done))
                | (refine (fun (e : reqF r = some { r with method := (methodF r.method).getD [], path := (pathF r.path).getD [] }) => ?_) ?_
                   · rw [e]; rfl
                   · unfold reqF
                     rw [if_pos]
                     exact ⟨by assumption, by assumption, ⟨by omega, by omega, by omega, by omega, by omega, by omega⟩, by assumption, by omega⟩)
              · try simp only [decide_eq_true_eq, decide_eq_false_iff_not, beq_iff_eq, beq_eq_false_iff_ne, bne_iff_ne, bne_eq_false_iff_eq, Bool.not_eq_true', Bool.not_eq_false', Int.not_lt, Int.not_le, ne_eq] at h24
                refine WO.want 55 rfl rfl ?_
                refine WO.move rfl rfl ?_
                refine WO.want 55 rfl rfl ?_
                refine WO.not rfl rfl ?_
                refine WO.pickF rfl rfl rfl ?_
                refine WO.move rfl rfl ?_
                refine WO.pass 59 rfl rfl rfl rfl ?_
                refine WO.pass 59 rfl rfl rfl rfl ?_
                refine WO.pass 59 rfl rfl rfl rfl ?_
                refine WO.pass 59 rfl rfl rfl rfl ?_
                refine WO.pickT rfl rfl rfl ?_
                refine WO.move rfl rfl ?_
                refine WO.pass 65 rfl rfl rfl rfl ?_
                refine WO.pass 65 rfl rfl rfl rfl ?_
                refine WO.pass 65 rfl rfl rfl rfl ?_
                refine WO.pass 65 rfl rfl rfl rfl ?_
                refine WO.pickT rfl rfl rfl ?_
                refine WO.nil ?_
                refine thnN ?_
                refine WP.condT rfl ?_
                refine WP.seq ?_
                refine WP.region ?_
                refine WO.buildQ (cs := [_, _, _, _, _, _, _]) rfl lay_27 zo_27 rfl rfl ?_
                first | refine WO.storeAll 0 rfl rfl rfl rfl ag_27 rfl (by rfl) ?_ | refine WO.storeAll 1 rfl rfl rfl rfl ag_27 rfl (by rfl) ?_ | refine WO.storeAll 2 rfl rfl rfl rfl ag_27 rfl (by rfl) ?_ | refine WO.storeAll 3 rfl rfl rfl rfl ag_27 rfl (by rfl) ?_ | refine WO.storeAll 4 rfl rfl rfl rfl ag_27 rfl (by rfl) ?_ | refine WO.storeAll 5 rfl rfl rfl rfl ag_27 rfl (by rfl) ?_ | refine WO.storeAgg 0 rfl rfl rfl rfl ag_27 rfl (by simp [ints, Value.oneCell']) (Nat.le_of_ble_eq_true rfl) _ rfl ?_ | refine WO.storeAgg 1 rfl rfl rfl rfl ag_27 rfl (by simp [ints, Value.oneCell']) (Nat.le_of_ble_eq_true rfl) _ rfl ?_ | refine WO.storeAgg 2 rfl rfl rfl rfl ag_27 rfl (by simp [ints, Value.oneCell']) (Nat.le_of_ble_eq_true rfl) _ rfl ?_
                refine WO.assign rfl rfl ?_
                refine WO.nil ?_
                refine thnN ?_
                refine WP.ret ?_
                refine thnR ?_
                refine ⟨_, [G], Res.cell2 rfl rfl ag_27 (by first | exact in0 | exact in1 | exact in2 | exact in3 | exact in4 | exact in5 | exact in6) rfl rfl, (by first | exact Imp.refl _ | exact Imp.pick 0 rfl | exact Imp.pick 1 rfl | exact Imp.pick 2 rfl | exact Imp.pick 3 rfl | exact Imp.pick 4 rfl | exact Imp.pick 5 rfl | exact Imp.pick 6 rfl), ?_⟩
                refine ⟨?_, rfl⟩
                first
                | (refine (fun (e : reqF r = none) => ?_) ?_
                   · rw [e]; rfl
                   · unfold reqF
                     rw [if_neg]
                     rintro ⟨g1, g2, ⟨g3, g4, g5, g6, g7, g8⟩, g9, g10⟩
                     first | omega | (simp_all; done))
                | (refine (fun (e : reqF r = some { r with method := (methodF r.method).getD [], path := (pathF r.path).getD [] }) => ?_) ?_
                   · rw [e]; rfl
                   · unfold reqF
                     rw [if_pos]
                     exact ⟨by assumption, by assumption, ⟨by omega, by omega, by omega, by omega, by omega, by omega⟩, by assumption, by omega⟩)
        · try simp only [decide_eq_true_eq, decide_eq_false_iff_not, beq_iff_eq, beq_eq_false_iff_ne, bne_iff_ne, bne_eq_false_iff_eq, Bool.not_eq_true', Bool.not_eq_false', Int.not_lt, Int.not_le, ne_eq] at h8
          refine WO.pass 39 rfl rfl rfl rfl ?_
          refine WO.pass 39 rfl rfl rfl rfl ?_
          refine WO.pass 39 rfl rfl rfl rfl ?_
          refine WO.pickF rfl rfl rfl ?_
          refine WO.move rfl rfl ?_
          refine WO.pass 44 rfl rfl rfl rfl ?_
          refine WO.pass 44 rfl rfl rfl rfl ?_
          refine WO.pass 44 rfl rfl rfl rfl ?_
          refine WO.pickF rfl rfl rfl ?_
          refine WO.assign rfl rfl ?_
          refine WO.nil ?_
          refine thnN ?_
          refine WP.seq ?_
          refine WP.seq ?_
          refine WP.region ?_
          refine WO.move rfl rfl ?_
          refine WO.not rfl rfl ?_
          refine WO.move rfl rfl ?_
          refine WO.split 51 rfl (fun h25 => ?_) (fun h26 => ?_)
          · try simp only [decide_eq_true_eq, decide_eq_false_iff_not, beq_iff_eq, beq_eq_false_iff_ne, bne_iff_ne, bne_eq_false_iff_eq, Bool.not_eq_true', Bool.not_eq_false', Int.not_lt, Int.not_le, ne_eq] at h25
            refine WO.pass 51 rfl rfl rfl rfl ?_
            refine WO.pass 51 rfl rfl rfl rfl ?_
            refine WO.pickT rfl rfl rfl ?_
            refine WO.move rfl rfl ?_
            refine WO.pass 55 rfl rfl rfl rfl ?_
            refine WO.pass 55 rfl rfl rfl rfl ?_
            refine WO.pickT rfl rfl rfl ?_
            refine WO.move rfl rfl ?_
            refine WO.pass 59 rfl rfl rfl rfl ?_
            refine WO.pass 59 rfl rfl rfl rfl ?_
            refine WO.pass 59 rfl rfl rfl rfl ?_
            refine WO.pass 59 rfl rfl rfl rfl ?_
            refine WO.pickT rfl rfl rfl ?_
            refine WO.move rfl rfl ?_
            refine WO.pass 65 rfl rfl rfl rfl ?_
            refine WO.pass 65 rfl rfl rfl rfl ?_
            refine WO.pass 65 rfl rfl rfl rfl ?_
            refine WO.pass 65 rfl rfl rfl rfl ?_
            refine WO.pickT rfl rfl rfl ?_
            refine WO.nil ?_
            refine thnN ?_
            refine WP.condT rfl ?_
            refine WP.seq ?_
            refine WP.region ?_
            refine WO.buildQ (cs := [_, _, _, _, _, _, _]) rfl lay_27 zo_27 rfl rfl ?_
            first | refine WO.storeAll 0 rfl rfl rfl rfl ag_27 rfl (by rfl) ?_ | refine WO.storeAll 1 rfl rfl rfl rfl ag_27 rfl (by rfl) ?_ | refine WO.storeAll 2 rfl rfl rfl rfl ag_27 rfl (by rfl) ?_ | refine WO.storeAll 3 rfl rfl rfl rfl ag_27 rfl (by rfl) ?_ | refine WO.storeAll 4 rfl rfl rfl rfl ag_27 rfl (by rfl) ?_ | refine WO.storeAll 5 rfl rfl rfl rfl ag_27 rfl (by rfl) ?_ | refine WO.storeAgg 0 rfl rfl rfl rfl ag_27 rfl (by simp [ints, Value.oneCell']) (Nat.le_of_ble_eq_true rfl) _ rfl ?_ | refine WO.storeAgg 1 rfl rfl rfl rfl ag_27 rfl (by simp [ints, Value.oneCell']) (Nat.le_of_ble_eq_true rfl) _ rfl ?_ | refine WO.storeAgg 2 rfl rfl rfl rfl ag_27 rfl (by simp [ints, Value.oneCell']) (Nat.le_of_ble_eq_true rfl) _ rfl ?_
            refine WO.assign rfl rfl ?_
            refine WO.nil ?_
            refine thnN ?_
            refine WP.ret ?_
            refine thnR ?_
            refine ⟨_, [G], Res.cell2 rfl rfl ag_27 (by first | exact in0 | exact in1 | exact in2 | exact in3 | exact in4 | exact in5 | exact in6) rfl rfl, (by first | exact Imp.refl _ | exact Imp.pick 0 rfl | exact Imp.pick 1 rfl | exact Imp.pick 2 rfl | exact Imp.pick 3 rfl | exact Imp.pick 4 rfl | exact Imp.pick 5 rfl | exact Imp.pick 6 rfl), ?_⟩
            refine ⟨?_, rfl⟩
            first
            | (refine (fun (e : reqF r = none) => ?_) ?_
               · rw [e]; rfl
               · unfold reqF
                 rw [if_neg]
                 rintro ⟨g1, g2, ⟨g3, g4, g5, g6, g7, g8⟩, g9, g10⟩
                 first | omega | (simp_all; done))
            | (refine (fun (e : reqF r = some { r with method := (methodF r.method).getD [], path := (pathF r.path).getD [] }) => ?_) ?_
               · rw [e]; rfl
               · unfold reqF
                 rw [if_pos]
                 exact ⟨by assumption, by assumption, ⟨by omega, by omega, by omega, by omega, by omega, by omega⟩, by assumption, by omega⟩)
          · try simp only [decide_eq_true_eq, decide_eq_false_iff_not, beq_iff_eq, beq_eq_false_iff_ne, bne_iff_ne, bne_eq_false_iff_eq, Bool.not_eq_true', Bool.not_eq_false', Int.not_lt, Int.not_le, ne_eq] at h26
            refine WO.want 51 rfl rfl ?_
            refine WO.move rfl rfl ?_
            refine WO.want 51 rfl rfl ?_
            refine WO.not rfl rfl ?_
            refine WO.pickF rfl rfl rfl ?_
            refine WO.move rfl rfl ?_
            refine WO.split 55 rfl (fun h27 => ?_) (fun h28 => ?_)
            · try simp only [decide_eq_true_eq, decide_eq_false_iff_not, beq_iff_eq, beq_eq_false_iff_ne, bne_iff_ne, bne_eq_false_iff_eq, Bool.not_eq_true', Bool.not_eq_false', Int.not_lt, Int.not_le, ne_eq] at h27
              refine WO.pass 55 rfl rfl rfl rfl ?_
              refine WO.pass 55 rfl rfl rfl rfl ?_
              refine WO.pickT rfl rfl rfl ?_
              refine WO.move rfl rfl ?_
              refine WO.pass 59 rfl rfl rfl rfl ?_
              refine WO.pass 59 rfl rfl rfl rfl ?_
              refine WO.pass 59 rfl rfl rfl rfl ?_
              refine WO.pass 59 rfl rfl rfl rfl ?_
              refine WO.pickT rfl rfl rfl ?_
              refine WO.move rfl rfl ?_
              refine WO.pass 65 rfl rfl rfl rfl ?_
              refine WO.pass 65 rfl rfl rfl rfl ?_
              refine WO.pass 65 rfl rfl rfl rfl ?_
              refine WO.pass 65 rfl rfl rfl rfl ?_
              refine WO.pickT rfl rfl rfl ?_
              refine WO.nil ?_
              refine thnN ?_
              refine WP.condT rfl ?_
              refine WP.seq ?_
              refine WP.region ?_
              refine WO.buildQ (cs := [_, _, _, _, _, _, _]) rfl lay_27 zo_27 rfl rfl ?_
              first | refine WO.storeAll 0 rfl rfl rfl rfl ag_27 rfl (by rfl) ?_ | refine WO.storeAll 1 rfl rfl rfl rfl ag_27 rfl (by rfl) ?_ | refine WO.storeAll 2 rfl rfl rfl rfl ag_27 rfl (by rfl) ?_ | refine WO.storeAll 3 rfl rfl rfl rfl ag_27 rfl (by rfl) ?_ | refine WO.storeAll 4 rfl rfl rfl rfl ag_27 rfl (by rfl) ?_ | refine WO.storeAll 5 rfl rfl rfl rfl ag_27 rfl (by rfl) ?_ | refine WO.storeAgg 0 rfl rfl rfl rfl ag_27 rfl (by simp [ints, Value.oneCell']) (Nat.le_of_ble_eq_true rfl) _ rfl ?_ | refine WO.storeAgg 1 rfl rfl rfl rfl ag_27 rfl (by simp [ints, Value.oneCell']) (Nat.le_of_ble_eq_true rfl) _ rfl ?_ | refine WO.storeAgg 2 rfl rfl rfl rfl ag_27 rfl (by simp [ints, Value.oneCell']) (Nat.le_of_ble_eq_true rfl) _ rfl ?_
              refine WO.assign rfl rfl ?_
              refine WO.nil ?_
              refine thnN ?_
              refine WP.ret ?_
              refine thnR ?_
              refine ⟨_, [G], Res.cell2 rfl rfl ag_27 (by first | exact in0 | exact in1 | exact in2 | exact in3 | exact in4 | exact in5 | exact in6) rfl rfl, (by first | exact Imp.refl _ | exact Imp.pick 0 rfl | exact Imp.pick 1 rfl | exact Imp.pick 2 rfl | exact Imp.pick 3 rfl | exact Imp.pick 4 rfl | exact Imp.pick 5 rfl | exact Imp.pick 6 rfl), ?_⟩
              refine ⟨?_, rfl⟩
              first
              | (refine (fun (e : reqF r = none) => ?_) ?_
                 · rw [e]; rfl
                 · unfold reqF
                   rw [if_neg]
                   rintro ⟨g1, g2, ⟨g3, g4, g5, g6, g7, g8⟩, g9, g10⟩
                   first | omega | (simp_all; done))
              | (refine (fun (e : reqF r = some { r with method := (methodF r.method).getD [], path := (pathF r.path).getD [] }) => ?_) ?_
                 · rw [e]; rfl
                 · unfold reqF
                   rw [if_pos]
                   exact ⟨by assumption, by assumption, ⟨by omega, by omega, by omega, by omega, by omega, by omega⟩, by assumption, by omega⟩)
            · try simp only [decide_eq_true_eq, decide_eq_false_iff_not, beq_iff_eq, beq_eq_false_iff_ne, bne_iff_ne, bne_eq_false_iff_eq, Bool.not_eq_true', Bool.not_eq_false', Int.not_lt, Int.not_le, ne_eq] at h28
              refine WO.want 55 rfl rfl ?_
              refine WO.move rfl rfl ?_
              refine WO.want 55 rfl rfl ?_
              refine WO.not rfl rfl ?_
              refine WO.pickF rfl rfl rfl ?_
              refine WO.move rfl rfl ?_
              refine WO.pass 59 rfl rfl rfl rfl ?_
              refine WO.pass 59 rfl rfl rfl rfl ?_
              refine WO.pass 59 rfl rfl rfl rfl ?_
              refine WO.pass 59 rfl rfl rfl rfl ?_
              refine WO.pickT rfl rfl rfl ?_
              refine WO.move rfl rfl ?_
              refine WO.pass 65 rfl rfl rfl rfl ?_
              refine WO.pass 65 rfl rfl rfl rfl ?_
              refine WO.pass 65 rfl rfl rfl rfl ?_
              refine WO.pass 65 rfl rfl rfl rfl ?_
              refine WO.pickT rfl rfl rfl ?_
              refine WO.nil ?_
              refine thnN ?_
              refine WP.condT rfl ?_
              refine WP.seq ?_
              refine WP.region ?_
              refine WO.buildQ (cs := [_, _, _, _, _, _, _]) rfl lay_27 zo_27 rfl rfl ?_
              first | refine WO.storeAll 0 rfl rfl rfl rfl ag_27 rfl (by rfl) ?_ | refine WO.storeAll 1 rfl rfl rfl rfl ag_27 rfl (by rfl) ?_ | refine WO.storeAll 2 rfl rfl rfl rfl ag_27 rfl (by rfl) ?_ | refine WO.storeAll 3 rfl rfl rfl rfl ag_27 rfl (by rfl) ?_ | refine WO.storeAll 4 rfl rfl rfl rfl ag_27 rfl (by rfl) ?_ | refine WO.storeAll 5 rfl rfl rfl rfl ag_27 rfl (by rfl) ?_ | refine WO.storeAgg 0 rfl rfl rfl rfl ag_27 rfl (by simp [ints, Value.oneCell']) (Nat.le_of_ble_eq_true rfl) _ rfl ?_ | refine WO.storeAgg 1 rfl rfl rfl rfl ag_27 rfl (by simp [ints, Value.oneCell']) (Nat.le_of_ble_eq_true rfl) _ rfl ?_ | refine WO.storeAgg 2 rfl rfl rfl rfl ag_27 rfl (by simp [ints, Value.oneCell']) (Nat.le_of_ble_eq_true rfl) _ rfl ?_
              refine WO.assign rfl rfl ?_
              refine WO.nil ?_
              refine thnN ?_
              refine WP.ret ?_
              refine thnR ?_
              refine ⟨_, [G], Res.cell2 rfl rfl ag_27 (by first | exact in0 | exact in1 | exact in2 | exact in3 | exact in4 | exact in5 | exact in6) rfl rfl, (by first | exact Imp.refl _ | exact Imp.pick 0 rfl | exact Imp.pick 1 rfl | exact Imp.pick 2 rfl | exact Imp.pick 3 rfl | exact Imp.pick 4 rfl | exact Imp.pick 5 rfl | exact Imp.pick 6 rfl), ?_⟩
              refine ⟨?_, rfl⟩
              first
              | (refine (fun (e : reqF r = none) => ?_) ?_
                 · rw [e]; rfl
                 · unfold reqF
                   rw [if_neg]
                   rintro ⟨g1, g2, ⟨g3, g4, g5, g6, g7, g8⟩, g9, g10⟩
                   first | omega | (simp_all; done))
              | (refine (fun (e : reqF r = some { r with method := (methodF r.method).getD [], path := (pathF r.path).getD [] }) => ?_) ?_
                 · rw [e]; rfl
                 · unfold reqF
                   rw [if_pos]
                   exact ⟨by assumption, by assumption, ⟨by omega, by omega, by omega, by omega, by omega, by omega⟩, by assumption, by omega⟩)
      · try simp only [decide_eq_true_eq, decide_eq_false_iff_not, beq_iff_eq, beq_eq_false_iff_ne, bne_iff_ne, bne_eq_false_iff_eq, Bool.not_eq_true', Bool.not_eq_false', Int.not_lt, Int.not_le, ne_eq] at h6
        refine WO.pass 34 rfl rfl rfl rfl ?_
        refine WO.pass 34 rfl rfl rfl rfl ?_
        refine WO.pass 34 rfl rfl rfl rfl ?_
        refine WO.pickF rfl rfl rfl ?_
        refine WO.move rfl rfl ?_
        refine WO.pass 39 rfl rfl rfl rfl ?_
        refine WO.pass 39 rfl rfl rfl rfl ?_
        refine WO.pass 39 rfl rfl rfl rfl ?_
        refine WO.pickF rfl rfl rfl ?_
        refine WO.move rfl rfl ?_
        refine WO.pass 44 rfl rfl rfl rfl ?_
        refine WO.pass 44 rfl rfl rfl rfl ?_
        refine WO.pass 44 rfl rfl rfl rfl ?_
        refine WO.pickF rfl rfl rfl ?_
        refine WO.assign rfl rfl ?_
        refine WO.nil ?_
        refine thnN ?_
        refine WP.seq ?_
        refine WP.seq ?_
        refine WP.region ?_
        refine WO.move rfl rfl ?_
        refine WO.not rfl rfl ?_
        refine WO.move rfl rfl ?_
        refine WO.split 51 rfl (fun h29 => ?_) (fun h30 => ?_)
        · try simp only [decide_eq_true_eq, decide_eq_false_iff_not, beq_iff_eq, beq_eq_false_iff_ne, bne_iff_ne, bne_eq_false_iff_eq, Bool.not_eq_true', Bool.not_eq_false', Int.not_lt, Int.not_le, ne_eq] at h29
          refine WO.pass 51 rfl rfl rfl rfl ?_
          refine WO.pass 51 rfl rfl rfl rfl ?_
          refine WO.pickT rfl rfl rfl ?_
          refine WO.move rfl rfl ?_
          refine WO.pass 55 rfl rfl rfl rfl ?_
          refine WO.pass 55 rfl rfl rfl rfl ?_
          refine WO.pickT rfl rfl rfl ?_
          refine WO.move rfl rfl ?_
          refine WO.pass 59 rfl rfl rfl rfl ?_
          refine WO.pass 59 rfl rfl rfl rfl ?_
          refine WO.pass 59 rfl rfl rfl rfl ?_
          refine WO.pass 59 rfl rfl rfl rfl ?_
          refine WO.pickT rfl rfl rfl ?_
          refine WO.move rfl rfl ?_
          refine WO.pass 65 rfl rfl rfl rfl ?_
          refine WO.pass 65 rfl rfl rfl rfl ?_
          refine WO.pass 65 rfl rfl rfl rfl ?_
          refine WO.pass 65 rfl rfl rfl rfl ?_
          refine WO.pickT rfl rfl rfl ?_
          refine WO.nil ?_
          refine thnN ?_
          refine WP.condT rfl ?_
          refine WP.seq ?_
          refine WP.region ?_
          refine WO.buildQ (cs := [_, _, _, _, _, _, _]) rfl lay_27 zo_27 rfl rfl ?_
          first | refine WO.storeAll 0 rfl rfl rfl rfl ag_27 rfl (by rfl) ?_ | refine WO.storeAll 1 rfl rfl rfl rfl ag_27 rfl (by rfl) ?_ | refine WO.storeAll 2 rfl rfl rfl rfl ag_27 rfl (by rfl) ?_ | refine WO.storeAll 3 rfl rfl rfl rfl ag_27 rfl (by rfl) ?_ | refine WO.storeAll 4 rfl rfl rfl rfl ag_27 rfl (by rfl) ?_ | refine WO.storeAll 5 rfl rfl rfl rfl ag_27 rfl (by rfl) ?_ | refine WO.storeAgg 0 rfl rfl rfl rfl ag_27 rfl (by simp [ints, Value.oneCell']) (Nat.le_of_ble_eq_true rfl) _ rfl ?_ | refine WO.storeAgg 1 rfl rfl rfl rfl ag_27 rfl (by simp [ints, Value.oneCell']) (Nat.le_of_ble_eq_true rfl) _ rfl ?_ | refine WO.storeAgg 2 rfl rfl rfl rfl ag_27 rfl (by simp [ints, Value.oneCell']) (Nat.le_of_ble_eq_true rfl) _ rfl ?_
          refine WO.assign rfl rfl ?_
          refine WO.nil ?_
          refine thnN ?_
          refine WP.ret ?_
          refine thnR ?_
          refine ⟨_, [G], Res.cell2 rfl rfl ag_27 (by first | exact in0 | exact in1 | exact in2 | exact in3 | exact in4 | exact in5 | exact in6) rfl rfl, (by first | exact Imp.refl _ | exact Imp.pick 0 rfl | exact Imp.pick 1 rfl | exact Imp.pick 2 rfl | exact Imp.pick 3 rfl | exact Imp.pick 4 rfl | exact Imp.pick 5 rfl | exact Imp.pick 6 rfl), ?_⟩
          refine ⟨?_, rfl⟩
          first
          | (refine (fun (e : reqF r = none) => ?_) ?_
             · rw [e]; rfl
             · unfold reqF
               rw [if_neg]
               rintro ⟨g1, g2, ⟨g3, g4, g5, g6, g7, g8⟩, g9, g10⟩
               first | omega | (simp_all; done))
          | (refine (fun (e : reqF r = some { r with method := (methodF r.method).getD [], path := (pathF r.path).getD [] }) => ?_) ?_
             · rw [e]; rfl
             · unfold reqF
               rw [if_pos]
               exact ⟨by assumption, by assumption, ⟨by omega, by omega, by omega, by omega, by omega, by omega⟩, by assumption, by omega⟩)
        · try simp only [decide_eq_true_eq, decide_eq_false_iff_not, beq_iff_eq, beq_eq_false_iff_ne, bne_iff_ne, bne_eq_false_iff_eq, Bool.not_eq_true', Bool.not_eq_false', Int.not_lt, Int.not_le, ne_eq] at h30
          refine WO.want 51 rfl rfl ?_
          refine WO.move rfl rfl ?_
          refine WO.want 51 rfl rfl ?_
          refine WO.not rfl rfl ?_
          refine WO.pickF rfl rfl rfl ?_
          refine WO.move rfl rfl ?_
          refine WO.split 55 rfl (fun h31 => ?_) (fun h32 => ?_)
          · try simp only [decide_eq_true_eq, decide_eq_false_iff_not, beq_iff_eq, beq_eq_false_iff_ne, bne_iff_ne, bne_eq_false_iff_eq, Bool.not_eq_true', Bool.not_eq_false', Int.not_lt, Int.not_le, ne_eq] at h31
            refine WO.pass 55 rfl rfl rfl rfl ?_
            refine WO.pass 55 rfl rfl rfl rfl ?_
            refine WO.pickT rfl rfl rfl ?_
            refine WO.move rfl rfl ?_
            refine WO.pass 59 rfl rfl rfl rfl ?_
            refine WO.pass 59 rfl rfl rfl rfl ?_
            refine WO.pass 59 rfl rfl rfl rfl ?_
            refine WO.pass 59 rfl rfl rfl rfl ?_
            refine WO.pickT rfl rfl rfl ?_
            refine WO.move rfl rfl ?_
            refine WO.pass 65 rfl rfl rfl rfl ?_
            refine WO.pass 65 rfl rfl rfl rfl ?_
            refine WO.pass 65 rfl rfl rfl rfl ?_
            refine WO.pass 65 rfl rfl rfl rfl ?_
            refine WO.pickT rfl rfl rfl ?_
            refine WO.nil ?_
            refine thnN ?_
            refine WP.condT rfl ?_
            refine WP.seq ?_
            refine WP.region ?_
            refine WO.buildQ (cs := [_, _, _, _, _, _, _]) rfl lay_27 zo_27 rfl rfl ?_
            first | refine WO.storeAll 0 rfl rfl rfl rfl ag_27 rfl (by rfl) ?_ | refine WO.storeAll 1 rfl rfl rfl rfl ag_27 rfl (by rfl) ?_ | refine WO.storeAll 2 rfl rfl rfl rfl ag_27 rfl (by rfl) ?_ | refine WO.storeAll 3 rfl rfl rfl rfl ag_27 rfl (by rfl) ?_ | refine WO.storeAll 4 rfl rfl rfl rfl ag_27 rfl (by rfl) ?_ | refine WO.storeAll 5 rfl rfl rfl rfl ag_27 rfl (by rfl) ?_ | refine WO.storeAgg 0 rfl rfl rfl rfl ag_27 rfl (by simp [ints, Value.oneCell']) (Nat.le_of_ble_eq_true rfl) _ rfl ?_ | refine WO.storeAgg 1 rfl rfl rfl rfl ag_27 rfl (by simp [ints, Value.oneCell']) (Nat.le_of_ble_eq_true rfl) _ rfl ?_ | refine WO.storeAgg 2 rfl rfl rfl rfl ag_27 rfl (by simp [ints, Value.oneCell']) (Nat.le_of_ble_eq_true rfl) _ rfl ?_
            refine WO.assign rfl rfl ?_
            refine WO.nil ?_
            refine thnN ?_
            refine WP.ret ?_
            refine thnR ?_
            refine ⟨_, [G], Res.cell2 rfl rfl ag_27 (by first | exact in0 | exact in1 | exact in2 | exact in3 | exact in4 | exact in5 | exact in6) rfl rfl, (by first | exact Imp.refl _ | exact Imp.pick 0 rfl | exact Imp.pick 1 rfl | exact Imp.pick 2 rfl | exact Imp.pick 3 rfl | exact Imp.pick 4 rfl | exact Imp.pick 5 rfl | exact Imp.pick 6 rfl), ?_⟩
            refine ⟨?_, rfl⟩
            first
            | (refine (fun (e : reqF r = none) => ?_) ?_
               · rw [e]; rfl
               · unfold reqF
                 rw [if_neg]
                 rintro ⟨g1, g2, ⟨g3, g4, g5, g6, g7, g8⟩, g9, g10⟩
                 first | omega | (simp_all; done))
            | (refine (fun (e : reqF r = some { r with method := (methodF r.method).getD [], path := (pathF r.path).getD [] }) => ?_) ?_
               · rw [e]; rfl
               · unfold reqF
                 rw [if_pos]
                 exact ⟨by assumption, by assumption, ⟨by omega, by omega, by omega, by omega, by omega, by omega⟩, by assumption, by omega⟩)
          · try simp only [decide_eq_true_eq, decide_eq_false_iff_not, beq_iff_eq, beq_eq_false_iff_ne, bne_iff_ne, bne_eq_false_iff_eq, Bool.not_eq_true', Bool.not_eq_false', Int.not_lt, Int.not_le, ne_eq] at h32
            refine WO.want 55 rfl rfl ?_
            refine WO.move rfl rfl ?_
            refine WO.want 55 rfl rfl ?_
            refine WO.not rfl rfl ?_
            refine WO.pickF rfl rfl rfl ?_
            refine WO.move rfl rfl ?_
            refine WO.pass 59 rfl rfl rfl rfl ?_
            refine WO.pass 59 rfl rfl rfl rfl ?_
            refine WO.pass 59 rfl rfl rfl rfl ?_
            refine WO.pass 59 rfl rfl rfl rfl ?_
            refine WO.pickT rfl rfl rfl ?_
            refine WO.move rfl rfl ?_
            refine WO.pass 65 rfl rfl rfl rfl ?_
            refine WO.pass 65 rfl rfl rfl rfl ?_
            refine WO.pass 65 rfl rfl rfl rfl ?_
            refine WO.pass 65 rfl rfl rfl rfl ?_
            refine WO.pickT rfl rfl rfl ?_
            refine WO.nil ?_
            refine thnN ?_
            refine WP.condT rfl ?_
            refine WP.seq ?_
            refine WP.region ?_
            refine WO.buildQ (cs := [_, _, _, _, _, _, _]) rfl lay_27 zo_27 rfl rfl ?_
            first | refine WO.storeAll 0 rfl rfl rfl rfl ag_27 rfl (by rfl) ?_ | refine WO.storeAll 1 rfl rfl rfl rfl ag_27 rfl (by rfl) ?_ | refine WO.storeAll 2 rfl rfl rfl rfl ag_27 rfl (by rfl) ?_ | refine WO.storeAll 3 rfl rfl rfl rfl ag_27 rfl (by rfl) ?_ | refine WO.storeAll 4 rfl rfl rfl rfl ag_27 rfl (by rfl) ?_ | refine WO.storeAll 5 rfl rfl rfl rfl ag_27 rfl (by rfl) ?_ | refine WO.storeAgg 0 rfl rfl rfl rfl ag_27 rfl (by simp [ints, Value.oneCell']) (Nat.le_of_ble_eq_true rfl) _ rfl ?_ | refine WO.storeAgg 1 rfl rfl rfl rfl ag_27 rfl (by simp [ints, Value.oneCell']) (Nat.le_of_ble_eq_true rfl) _ rfl ?_ | refine WO.storeAgg 2 rfl rfl rfl rfl ag_27 rfl (by simp [ints, Value.oneCell']) (Nat.le_of_ble_eq_true rfl) _ rfl ?_
            refine WO.assign rfl rfl ?_
            refine WO.nil ?_
            refine thnN ?_
            refine WP.ret ?_
            refine thnR ?_
            refine ⟨_, [G], Res.cell2 rfl rfl ag_27 (by first | exact in0 | exact in1 | exact in2 | exact in3 | exact in4 | exact in5 | exact in6) rfl rfl, (by first | exact Imp.refl _ | exact Imp.pick 0 rfl | exact Imp.pick 1 rfl | exact Imp.pick 2 rfl | exact Imp.pick 3 rfl | exact Imp.pick 4 rfl | exact Imp.pick 5 rfl | exact Imp.pick 6 rfl), ?_⟩
            refine ⟨?_, rfl⟩
            first
            | (refine (fun (e : reqF r = none) => ?_) ?_
               · rw [e]; rfl
               · unfold reqF
                 rw [if_neg]
                 rintro ⟨g1, g2, ⟨g3, g4, g5, g6, g7, g8⟩, g9, g10⟩
                 first | omega | (simp_all; done))
            | (refine (fun (e : reqF r = some { r with method := (methodF r.method).getD [], path := (pathF r.path).getD [] }) => ?_) ?_
               · rw [e]; rfl
               · unfold reqF
                 rw [if_pos]
                 exact ⟨by assumption, by assumption, ⟨by omega, by omega, by omega, by omega, by omega, by omega⟩, by assumption, by omega⟩)
    · try simp only [decide_eq_true_eq, decide_eq_false_iff_not, beq_iff_eq, beq_eq_false_iff_ne, bne_iff_ne, bne_eq_false_iff_eq, Bool.not_eq_true', Bool.not_eq_false', Int.not_lt, Int.not_le, ne_eq] at h4
      refine WO.pass 29 rfl rfl rfl rfl ?_
      refine WO.pass 29 rfl rfl rfl rfl ?_
      refine WO.pass 29 rfl rfl rfl rfl ?_
      refine WO.pickF rfl rfl rfl ?_
      refine WO.move rfl rfl ?_
      refine WO.pass 34 rfl rfl rfl rfl ?_
      refine WO.pass 34 rfl rfl rfl rfl ?_
      refine WO.pass 34 rfl rfl rfl rfl ?_
      refine WO.pickF rfl rfl rfl ?_
      refine WO.move rfl rfl ?_
      refine WO.pass 39 rfl rfl rfl rfl ?_
      refine WO.pass 39 rfl rfl rfl rfl ?_
      refine WO.pass 39 rfl rfl rfl rfl ?_
      refine WO.pickF rfl rfl rfl ?_
      refine WO.move rfl rfl ?_
      refine WO.pass 44 rfl rfl rfl rfl ?_
      refine WO.pass 44 rfl rfl rfl rfl ?_
      refine WO.pass 44 rfl rfl rfl rfl ?_
      refine WO.pickF rfl rfl rfl ?_
      refine WO.assign rfl rfl ?_
      refine WO.nil ?_
      refine thnN ?_
      refine WP.seq ?_
      refine WP.seq ?_
      refine WP.region ?_
      refine WO.move rfl rfl ?_
      refine WO.not rfl rfl ?_
      refine WO.move rfl rfl ?_
      refine WO.split 51 rfl (fun h33 => ?_) (fun h34 => ?_)
      · try simp only [decide_eq_true_eq, decide_eq_false_iff_not, beq_iff_eq, beq_eq_false_iff_ne, bne_iff_ne, bne_eq_false_iff_eq, Bool.not_eq_true', Bool.not_eq_false', Int.not_lt, Int.not_le, ne_eq] at h33
        refine WO.pass 51 rfl rfl rfl rfl ?_
        refine WO.pass 51 rfl rfl rfl rfl ?_
        refine WO.pickT rfl rfl rfl ?_
        refine WO.move rfl rfl ?_
        refine WO.pass 55 rfl rfl rfl rfl ?_
        refine WO.pass 55 rfl rfl rfl rfl ?_
        refine WO.pickT rfl rfl rfl ?_
        refine WO.move rfl rfl ?_
        refine WO.pass 59 rfl rfl rfl rfl ?_
        refine WO.pass 59 rfl rfl rfl rfl ?_
        refine WO.pass 59 rfl rfl rfl rfl ?_
        refine WO.pass 59 rfl rfl rfl rfl ?_
        refine WO.pickT rfl rfl rfl ?_
        refine WO.move rfl rfl ?_
        refine WO.pass 65 rfl rfl rfl rfl ?_
        refine WO.pass 65 rfl rfl rfl rfl ?_
        refine WO.pass 65 rfl rfl rfl rfl ?_
        refine WO.pass 65 rfl rfl rfl rfl ?_
        refine WO.pickT rfl rfl rfl ?_
        refine WO.nil ?_
        refine thnN ?_
        refine WP.condT rfl ?_
        refine WP.seq ?_
        refine WP.region ?_
        refine WO.buildQ (cs := [_, _, _, _, _, _, _]) rfl lay_27 zo_27 rfl rfl ?_
        first | refine WO.storeAll 0 rfl rfl rfl rfl ag_27 rfl (by rfl) ?_ | refine WO.storeAll 1 rfl rfl rfl rfl ag_27 rfl (by rfl) ?_ | refine WO.storeAll 2 rfl rfl rfl rfl ag_27 rfl (by rfl) ?_ | refine WO.storeAll 3 rfl rfl rfl rfl ag_27 rfl (by rfl) ?_ | refine WO.storeAll 4 rfl rfl rfl rfl ag_27 rfl (by rfl) ?_ | refine WO.storeAll 5 rfl rfl rfl rfl ag_27 rfl (by rfl) ?_ | refine WO.storeAgg 0 rfl rfl rfl rfl ag_27 rfl (by simp [ints, Value.oneCell']) (Nat.le_of_ble_eq_true rfl) _ rfl ?_ | refine WO.storeAgg 1 rfl rfl rfl rfl ag_27 rfl (by simp [ints, Value.oneCell']) (Nat.le_of_ble_eq_true rfl) _ rfl ?_ | refine WO.storeAgg 2 rfl rfl rfl rfl ag_27 rfl (by simp [ints, Value.oneCell']) (Nat.le_of_ble_eq_true rfl) _ rfl ?_
        refine WO.assign rfl rfl ?_
        refine WO.nil ?_
        refine thnN ?_
        refine WP.ret ?_
        refine thnR ?_
        refine ⟨_, [G], Res.cell2 rfl rfl ag_27 (by first | exact in0 | exact in1 | exact in2 | exact in3 | exact in4 | exact in5 | exact in6) rfl rfl, (by first | exact Imp.refl _ | exact Imp.pick 0 rfl | exact Imp.pick 1 rfl | exact Imp.pick 2 rfl | exact Imp.pick 3 rfl | exact Imp.pick 4 rfl | exact Imp.pick 5 rfl | exact Imp.pick 6 rfl), ?_⟩
        refine ⟨?_, rfl⟩
        first
        | (refine (fun (e : reqF r = none) => ?_) ?_
           · rw [e]; rfl
           · unfold reqF
             rw [if_neg]
             rintro ⟨g1, g2, ⟨g3, g4, g5, g6, g7, g8⟩, g9, g10⟩
             first | omega | (simp_all; done))
        | (refine (fun (e : reqF r = some { r with method := (methodF r.method).getD [], path := (pathF r.path).getD [] }) => ?_) ?_
           · rw [e]; rfl
           · unfold reqF
             rw [if_pos]
             exact ⟨by assumption, by assumption, ⟨by omega, by omega, by omega, by omega, by omega, by omega⟩, by assumption, by omega⟩)
      · try simp only [decide_eq_true_eq, decide_eq_false_iff_not, beq_iff_eq, beq_eq_false_iff_ne, bne_iff_ne, bne_eq_false_iff_eq, Bool.not_eq_true', Bool.not_eq_false', Int.not_lt, Int.not_le, ne_eq] at h34
        refine WO.want 51 rfl rfl ?_
        refine WO.move rfl rfl ?_
        refine WO.want 51 rfl rfl ?_
        refine WO.not rfl rfl ?_
        refine WO.pickF rfl rfl rfl ?_
        refine WO.move rfl rfl ?_
        refine WO.split 55 rfl (fun h35 => ?_) (fun h36 => ?_)
        · try simp only [decide_eq_true_eq, decide_eq_false_iff_not, beq_iff_eq, beq_eq_false_iff_ne, bne_iff_ne, bne_eq_false_iff_eq, Bool.not_eq_true', Bool.not_eq_false', Int.not_lt, Int.not_le, ne_eq] at h35
          refine WO.pass 55 rfl rfl rfl rfl ?_
          refine WO.pass 55 rfl rfl rfl rfl ?_
          refine WO.pickT rfl rfl rfl ?_
          refine WO.move rfl rfl ?_
          refine WO.pass 59 rfl rfl rfl rfl ?_
          refine WO.pass 59 rfl rfl rfl rfl ?_
          refine WO.pass 59 rfl rfl rfl rfl ?_
          refine WO.pass 59 rfl rfl rfl rfl ?_
          refine WO.pickT rfl rfl rfl ?_
          refine WO.move rfl rfl ?_
          refine WO.pass 65 rfl rfl rfl rfl ?_
          refine WO.pass 65 rfl rfl rfl rfl ?_
          refine WO.pass 65 rfl rfl rfl rfl ?_
          refine WO.pass 65 rfl rfl rfl rfl ?_
          refine WO.pickT rfl rfl rfl ?_
          refine WO.nil ?_
          refine thnN ?_
          refine WP.condT rfl ?_
          refine WP.seq ?_
          refine WP.region ?_
          refine WO.buildQ (cs := [_, _, _, _, _, _, _]) rfl lay_27 zo_27 rfl rfl ?_
          first | refine WO.storeAll 0 rfl rfl rfl rfl ag_27 rfl (by rfl) ?_ | refine WO.storeAll 1 rfl rfl rfl rfl ag_27 rfl (by rfl) ?_ | refine WO.storeAll 2 rfl rfl rfl rfl ag_27 rfl (by rfl) ?_ | refine WO.storeAll 3 rfl rfl rfl rfl ag_27 rfl (by rfl) ?_ | refine WO.storeAll 4 rfl rfl rfl rfl ag_27 rfl (by rfl) ?_ | refine WO.storeAll 5 rfl rfl rfl rfl ag_27 rfl (by rfl) ?_ | refine WO.storeAgg 0 rfl rfl rfl rfl ag_27 rfl (by simp [ints, Value.oneCell']) (Nat.le_of_ble_eq_true rfl) _ rfl ?_ | refine WO.storeAgg 1 rfl rfl rfl rfl ag_27 rfl (by simp [ints, Value.oneCell']) (Nat.le_of_ble_eq_true rfl) _ rfl ?_ | refine WO.storeAgg 2 rfl rfl rfl rfl ag_27 rfl (by simp [ints, Value.oneCell']) (Nat.le_of_ble_eq_true rfl) _ rfl ?_
          refine WO.assign rfl rfl ?_
          refine WO.nil ?_
          refine thnN ?_
          refine WP.ret ?_
          refine thnR ?_
          refine ⟨_, [G], Res.cell2 rfl rfl ag_27 (by first | exact in0 | exact in1 | exact in2 | exact in3 | exact in4 | exact in5 | exact in6) rfl rfl, (by first | exact Imp.refl _ | exact Imp.pick 0 rfl | exact Imp.pick 1 rfl | exact Imp.pick 2 rfl | exact Imp.pick 3 rfl | exact Imp.pick 4 rfl | exact Imp.pick 5 rfl | exact Imp.pick 6 rfl), ?_⟩
          refine ⟨?_, rfl⟩
          first
          | (refine (fun (e : reqF r = none) => ?_) ?_
             · rw [e]; rfl
             · unfold reqF
               rw [if_neg]
               rintro ⟨g1, g2, ⟨g3, g4, g5, g6, g7, g8⟩, g9, g10⟩
               first | omega | (simp_all; done))
          | (refine (fun (e : reqF r = some { r with method := (methodF r.method).getD [], path := (pathF r.path).getD [] }) => ?_) ?_
             · rw [e]; rfl
             · unfold reqF
               rw [if_pos]
               exact ⟨by assumption, by assumption, ⟨by omega, by omega, by omega, by omega, by omega, by omega⟩, by assumption, by omega⟩)
        · try simp only [decide_eq_true_eq, decide_eq_false_iff_not, beq_iff_eq, beq_eq_false_iff_ne, bne_iff_ne, bne_eq_false_iff_eq, Bool.not_eq_true', Bool.not_eq_false', Int.not_lt, Int.not_le, ne_eq] at h36
          refine WO.want 55 rfl rfl ?_
          refine WO.move rfl rfl ?_
          refine WO.want 55 rfl rfl ?_
          refine WO.not rfl rfl ?_
          refine WO.pickF rfl rfl rfl ?_
          refine WO.move rfl rfl ?_
          refine WO.pass 59 rfl rfl rfl rfl ?_
          refine WO.pass 59 rfl rfl rfl rfl ?_
          refine WO.pass 59 rfl rfl rfl rfl ?_
          refine WO.pass 59 rfl rfl rfl rfl ?_
          refine WO.pickT rfl rfl rfl ?_
          refine WO.move rfl rfl ?_
          refine WO.pass 65 rfl rfl rfl rfl ?_
          refine WO.pass 65 rfl rfl rfl rfl ?_
          refine WO.pass 65 rfl rfl rfl rfl ?_
          refine WO.pass 65 rfl rfl rfl rfl ?_
          refine WO.pickT rfl rfl rfl ?_
          refine WO.nil ?_
          refine thnN ?_
          refine WP.condT rfl ?_
          refine WP.seq ?_
          refine WP.region ?_
          refine WO.buildQ (cs := [_, _, _, _, _, _, _]) rfl lay_27 zo_27 rfl rfl ?_
          first | refine WO.storeAll 0 rfl rfl rfl rfl ag_27 rfl (by rfl) ?_ | refine WO.storeAll 1 rfl rfl rfl rfl ag_27 rfl (by rfl) ?_ | refine WO.storeAll 2 rfl rfl rfl rfl ag_27 rfl (by rfl) ?_ | refine WO.storeAll 3 rfl rfl rfl rfl ag_27 rfl (by rfl) ?_ | refine WO.storeAll 4 rfl rfl rfl rfl ag_27 rfl (by rfl) ?_ | refine WO.storeAll 5 rfl rfl rfl rfl ag_27 rfl (by rfl) ?_ | refine WO.storeAgg 0 rfl rfl rfl rfl ag_27 rfl (by simp [ints, Value.oneCell']) (Nat.le_of_ble_eq_true rfl) _ rfl ?_ | refine WO.storeAgg 1 rfl rfl rfl rfl ag_27 rfl (by simp [ints, Value.oneCell']) (Nat.le_of_ble_eq_true rfl) _ rfl ?_ | refine WO.storeAgg 2 rfl rfl rfl rfl ag_27 rfl (by simp [ints, Value.oneCell']) (Nat.le_of_ble_eq_true rfl) _ rfl ?_
          refine WO.assign rfl rfl ?_
          refine WO.nil ?_
          refine thnN ?_
          refine WP.ret ?_
          refine thnR ?_
          refine ⟨_, [G], Res.cell2 rfl rfl ag_27 (by first | exact in0 | exact in1 | exact in2 | exact in3 | exact in4 | exact in5 | exact in6) rfl rfl, (by first | exact Imp.refl _ | exact Imp.pick 0 rfl | exact Imp.pick 1 rfl | exact Imp.pick 2 rfl | exact Imp.pick 3 rfl | exact Imp.pick 4 rfl | exact Imp.pick 5 rfl | exact Imp.pick 6 rfl), ?_⟩
          refine ⟨?_, rfl⟩
          first
          | (refine (fun (e : reqF r = none) => ?_) ?_
             · rw [e]; rfl
             · unfold reqF
               rw [if_neg]
               rintro ⟨g1, g2, ⟨g3, g4, g5, g6, g7, g8⟩, g9, g10⟩
               first | omega | (simp_all; done))
          | (refine (fun (e : reqF r = some { r with method := (methodF r.method).getD [], path := (pathF r.path).getD [] }) => ?_) ?_
             · rw [e]; rfl
             · unfold reqF
               rw [if_pos]
               exact ⟨by assumption, by assumption, ⟨by omega, by omega, by omega, by omega, by omega, by omega⟩, by assumption, by omega⟩)
  · try simp only [decide_eq_true_eq, decide_eq_false_iff_not, beq_iff_eq, beq_eq_false_iff_ne, bne_iff_ne, bne_eq_false_iff_eq, Bool.not_eq_true', Bool.not_eq_false', Int.not_lt, Int.not_le, ne_eq] at h2
    refine WO.pass 24 rfl rfl rfl rfl ?_
    refine WO.pass 24 rfl rfl rfl rfl ?_
    refine WO.pass 24 rfl rfl rfl rfl ?_
    refine WO.pickF rfl rfl rfl ?_
    refine WO.move rfl rfl ?_
    refine WO.pass 29 rfl rfl rfl rfl ?_
    refine WO.pass 29 rfl rfl rfl rfl ?_
    refine WO.pass 29 rfl rfl rfl rfl ?_
    refine WO.pickF rfl rfl rfl ?_
    refine WO.move rfl rfl ?_
    refine WO.pass 34 rfl rfl rfl rfl ?_
    refine WO.pass 34 rfl rfl rfl rfl ?_
    refine WO.pass 34 rfl rfl rfl rfl ?_
    refine WO.pickF rfl rfl rfl ?_
    refine WO.move rfl rfl ?_
    refine WO.pass 39 rfl rfl rfl rfl ?_
    refine WO.pass 39 rfl rfl rfl rfl ?_
    refine WO.pass 39 rfl rfl rfl rfl ?_
    refine WO.pickF rfl rfl rfl ?_
    refine WO.move rfl rfl ?_
    refine WO.pass 44 rfl rfl rfl rfl ?_
    refine WO.pass 44 rfl rfl rfl rfl ?_
    refine WO.pass 44 rfl rfl rfl rfl ?_
    refine WO.pickF rfl rfl rfl ?_
    refine WO.assign rfl rfl ?_
    refine WO.nil ?_
    refine thnN ?_
    refine WP.seq ?_
    refine WP.seq ?_
    refine WP.region ?_
    refine WO.move rfl rfl ?_
    refine WO.not rfl rfl ?_
    refine WO.move rfl rfl ?_
    refine WO.split 51 rfl (fun h37 => ?_) (fun h38 => ?_)
    · try simp only [decide_eq_true_eq, decide_eq_false_iff_not, beq_iff_eq, beq_eq_false_iff_ne, bne_iff_ne, bne_eq_false_iff_eq, Bool.not_eq_true', Bool.not_eq_false', Int.not_lt, Int.not_le, ne_eq] at h37
      refine WO.pass 51 rfl rfl rfl rfl ?_
      refine WO.pass 51 rfl rfl rfl rfl ?_
      refine WO.pickT rfl rfl rfl ?_
      refine WO.move rfl rfl ?_
      refine WO.pass 55 rfl rfl rfl rfl ?_
      refine WO.pass 55 rfl rfl rfl rfl ?_
      refine WO.pickT rfl rfl rfl ?_
      refine WO.move rfl rfl ?_
      refine WO.pass 59 rfl rfl rfl rfl ?_
      refine WO.pass 59 rfl rfl rfl rfl ?_
      refine WO.pass 59 rfl rfl rfl rfl ?_
      refine WO.pass 59 rfl rfl rfl rfl ?_
      refine WO.pickT rfl rfl rfl ?_
      refine WO.move rfl rfl ?_
      refine WO.pass 65 rfl rfl rfl rfl ?_
      refine WO.pass 65 rfl rfl rfl rfl ?_
      refine WO.pass 65 rfl rfl rfl rfl ?_
      refine WO.pass 65 rfl rfl rfl rfl ?_
      refine WO.pickT rfl rfl rfl ?_
      refine WO.nil ?_
      refine thnN ?_
      refine WP.condT rfl ?_
      refine WP.seq ?_
      refine WP.region ?_
      refine WO.buildQ (cs := [_, _, _, _, _, _, _]) rfl lay_27 zo_27 rfl rfl ?_
      first | refine WO.storeAll 0 rfl rfl rfl rfl ag_27 rfl (by rfl) ?_ | refine WO.storeAll 1 rfl rfl rfl rfl ag_27 rfl (by rfl) ?_ | refine WO.storeAll 2 rfl rfl rfl rfl ag_27 rfl (by rfl) ?_ | refine WO.storeAll 3 rfl rfl rfl rfl ag_27 rfl (by rfl) ?_ | refine WO.storeAll 4 rfl rfl rfl rfl ag_27 rfl (by rfl) ?_ | refine WO.storeAll 5 rfl rfl rfl rfl ag_27 rfl (by rfl) ?_ | refine WO.storeAgg 0 rfl rfl rfl rfl ag_27 rfl (by simp [ints, Value.oneCell']) (Nat.le_of_ble_eq_true rfl) _ rfl ?_ | refine WO.storeAgg 1 rfl rfl rfl rfl ag_27 rfl (by simp [ints, Value.oneCell']) (Nat.le_of_ble_eq_true rfl) _ rfl ?_ | refine WO.storeAgg 2 rfl rfl rfl rfl ag_27 rfl (by simp [ints, Value.oneCell']) (Nat.le_of_ble_eq_true rfl) _ rfl ?_
      refine WO.assign rfl rfl ?_
      refine WO.nil ?_
      refine thnN ?_
      refine WP.ret ?_
      refine thnR ?_
      refine ⟨_, [G], Res.cell2 rfl rfl ag_27 (by first | exact in0 | exact in1 | exact in2 | exact in3 | exact in4 | exact in5 | exact in6) rfl rfl, (by first | exact Imp.refl _ | exact Imp.pick 0 rfl | exact Imp.pick 1 rfl | exact Imp.pick 2 rfl | exact Imp.pick 3 rfl | exact Imp.pick 4 rfl | exact Imp.pick 5 rfl | exact Imp.pick 6 rfl), ?_⟩
      refine ⟨?_, rfl⟩
      first
      | (refine (fun (e : reqF r = none) => ?_) ?_
         · rw [e]; rfl
         · unfold reqF
           rw [if_neg]
           rintro ⟨g1, g2, ⟨g3, g4, g5, g6, g7, g8⟩, g9, g10⟩
           first | omega | (simp_all; done))
      | (refine (fun (e : reqF r = some { r with method := (methodF r.method).getD [], path := (pathF r.path).getD [] }) => ?_) ?_
         · rw [e]; rfl
         · unfold reqF
           rw [if_pos]
           exact ⟨by assumption, by assumption, ⟨by omega, by omega, by omega, by omega, by omega, by omega⟩, by assumption, by omega⟩)
    · try simp only [decide_eq_true_eq, decide_eq_false_iff_not, beq_iff_eq, beq_eq_false_iff_ne, bne_iff_ne, bne_eq_false_iff_eq, Bool.not_eq_true', Bool.not_eq_false', Int.not_lt, Int.not_le, ne_eq] at h38
      refine WO.want 51 rfl rfl ?_
      refine WO.move rfl rfl ?_
      refine WO.want 51 rfl rfl ?_
      refine WO.not rfl rfl ?_
      refine WO.pickF rfl rfl rfl ?_
      refine WO.move rfl rfl ?_
      refine WO.split 55 rfl (fun h39 => ?_) (fun h40 => ?_)
      · try simp only [decide_eq_true_eq, decide_eq_false_iff_not, beq_iff_eq, beq_eq_false_iff_ne, bne_iff_ne, bne_eq_false_iff_eq, Bool.not_eq_true', Bool.not_eq_false', Int.not_lt, Int.not_le, ne_eq] at h39
        refine WO.pass 55 rfl rfl rfl rfl ?_
        refine WO.pass 55 rfl rfl rfl rfl ?_
        refine WO.pickT rfl rfl rfl ?_
        refine WO.move rfl rfl ?_
        refine WO.pass 59 rfl rfl rfl rfl ?_
        refine WO.pass 59 rfl rfl rfl rfl ?_
        refine WO.pass 59 rfl rfl rfl rfl ?_
        refine WO.pass 59 rfl rfl rfl rfl ?_
        refine WO.pickT rfl rfl rfl ?_
        refine WO.move rfl rfl ?_
        refine WO.pass 65 rfl rfl rfl rfl ?_
        refine WO.pass 65 rfl rfl rfl rfl ?_
        refine WO.pass 65 rfl rfl rfl rfl ?_
        refine WO.pass 65 rfl rfl rfl rfl ?_
        refine WO.pickT rfl rfl rfl ?_
        refine WO.nil ?_
        refine thnN ?_
        refine WP.condT rfl ?_
        refine WP.seq ?_
        refine WP.region ?_
        refine WO.buildQ (cs := [_, _, _, _, _, _, _]) rfl lay_27 zo_27 rfl rfl ?_
        first | refine WO.storeAll 0 rfl rfl rfl rfl ag_27 rfl (by rfl) ?_ | refine WO.storeAll 1 rfl rfl rfl rfl ag_27 rfl (by rfl) ?_ | refine WO.storeAll 2 rfl rfl rfl rfl ag_27 rfl (by rfl) ?_ | refine WO.storeAll 3 rfl rfl rfl rfl ag_27 rfl (by rfl) ?_ | refine WO.storeAll 4 rfl rfl rfl rfl ag_27 rfl (by rfl) ?_ | refine WO.storeAll 5 rfl rfl rfl rfl ag_27 rfl (by rfl) ?_ | refine WO.storeAgg 0 rfl rfl rfl rfl ag_27 rfl (by simp [ints, Value.oneCell']) (Nat.le_of_ble_eq_true rfl) _ rfl ?_ | refine WO.storeAgg 1 rfl rfl rfl rfl ag_27 rfl (by simp [ints, Value.oneCell']) (Nat.le_of_ble_eq_true rfl) _ rfl ?_ | refine WO.storeAgg 2 rfl rfl rfl rfl ag_27 rfl (by simp [ints, Value.oneCell']) (Nat.le_of_ble_eq_true rfl) _ rfl ?_
        refine WO.assign rfl rfl ?_
        refine WO.nil ?_
        refine thnN ?_
        refine WP.ret ?_
        refine thnR ?_
        refine ⟨_, [G], Res.cell2 rfl rfl ag_27 (by first | exact in0 | exact in1 | exact in2 | exact in3 | exact in4 | exact in5 | exact in6) rfl rfl, (by first | exact Imp.refl _ | exact Imp.pick 0 rfl | exact Imp.pick 1 rfl | exact Imp.pick 2 rfl | exact Imp.pick 3 rfl | exact Imp.pick 4 rfl | exact Imp.pick 5 rfl | exact Imp.pick 6 rfl), ?_⟩
        refine ⟨?_, rfl⟩
        first
        | (refine (fun (e : reqF r = none) => ?_) ?_
           · rw [e]; rfl
           · unfold reqF
             rw [if_neg]
             rintro ⟨g1, g2, ⟨g3, g4, g5, g6, g7, g8⟩, g9, g10⟩
             first | omega | (simp_all; done))
        | (refine (fun (e : reqF r = some { r with method := (methodF r.method).getD [], path := (pathF r.path).getD [] }) => ?_) ?_
           · rw [e]; rfl
           · unfold reqF
             rw [if_pos]
             exact ⟨by assumption, by assumption, ⟨by omega, by omega, by omega, by omega, by omega, by omega⟩, by assumption, by omega⟩)
      · try simp only [decide_eq_true_eq, decide_eq_false_iff_not, beq_iff_eq, beq_eq_false_iff_ne, bne_iff_ne, bne_eq_false_iff_eq, Bool.not_eq_true', Bool.not_eq_false', Int.not_lt, Int.not_le, ne_eq] at h40
        refine WO.want 55 rfl rfl ?_
        refine WO.move rfl rfl ?_
        refine WO.want 55 rfl rfl ?_
        refine WO.not rfl rfl ?_
        refine WO.pickF rfl rfl rfl ?_
        refine WO.move rfl rfl ?_
        refine WO.pass 59 rfl rfl rfl rfl ?_
        refine WO.pass 59 rfl rfl rfl rfl ?_
        refine WO.pass 59 rfl rfl rfl rfl ?_
        refine WO.pass 59 rfl rfl rfl rfl ?_
        refine WO.pickT rfl rfl rfl ?_
        refine WO.move rfl rfl ?_
        refine WO.pass 65 rfl rfl rfl rfl ?_
        refine WO.pass 65 rfl rfl rfl rfl ?_
        refine WO.pass 65 rfl rfl rfl rfl ?_
        refine WO.pass 65 rfl rfl rfl rfl ?_
        refine WO.pickT rfl rfl rfl ?_
        refine WO.nil ?_
        refine thnN ?_
        refine WP.condT rfl ?_
        refine WP.seq ?_
        refine WP.region ?_
        refine WO.buildQ (cs := [_, _, _, _, _, _, _]) rfl lay_27 zo_27 rfl rfl ?_
        first | refine WO.storeAll 0 rfl rfl rfl rfl ag_27 rfl (by rfl) ?_ | refine WO.storeAll 1 rfl rfl rfl rfl ag_27 rfl (by rfl) ?_ | refine WO.storeAll 2 rfl rfl rfl rfl ag_27 rfl (by rfl) ?_ | refine WO.storeAll 3 rfl rfl rfl rfl ag_27 rfl (by rfl) ?_ | refine WO.storeAll 4 rfl rfl rfl rfl ag_27 rfl (by rfl) ?_ | refine WO.storeAll 5 rfl rfl rfl rfl ag_27 rfl (by rfl) ?_ | refine WO.storeAgg 0 rfl rfl rfl rfl ag_27 rfl (by simp [ints, Value.oneCell']) (Nat.le_of_ble_eq_true rfl) _ rfl ?_ | refine WO.storeAgg 1 rfl rfl rfl rfl ag_27 rfl (by simp [ints, Value.oneCell']) (Nat.le_of_ble_eq_true rfl) _ rfl ?_ | refine WO.storeAgg 2 rfl rfl rfl rfl ag_27 rfl (by simp [ints, Value.oneCell']) (Nat.le_of_ble_eq_true rfl) _ rfl ?_
        refine WO.assign rfl rfl ?_
        refine WO.nil ?_
        refine thnN ?_
        refine WP.ret ?_
        refine thnR ?_
        refine ⟨_, [G], Res.cell2 rfl rfl ag_27 (by first | exact in0 | exact in1 | exact in2 | exact in3 | exact in4 | exact in5 | exact in6) rfl rfl, (by first | exact Imp.refl _ | exact Imp.pick 0 rfl | exact Imp.pick 1 rfl | exact Imp.pick 2 rfl | exact Imp.pick 3 rfl | exact Imp.pick 4 rfl | exact Imp.pick 5 rfl | exact Imp.pick 6 rfl), ?_⟩
        refine ⟨?_, rfl⟩
        first
        | (refine (fun (e : reqF r = none) => ?_) ?_
           · rw [e]; rfl
           · unfold reqF
             rw [if_neg]
             rintro ⟨g1, g2, ⟨g3, g4, g5, g6, g7, g8⟩, g9, g10⟩
             first | omega | (simp_all; done))
        | (refine (fun (e : reqF r = some { r with method := (methodF r.method).getD [], path := (pathF r.path).getD [] }) => ?_) ?_
           · rw [e]; rfl
           · unfold reqF
             rw [if_pos]
             exact ⟨by assumption, by assumption, ⟨by omega, by omega, by omega, by omega, by omega, by omega⟩, by assumption, by omega⟩)

end Go.Proofs.YtpaipfceibcbkaaDoor
