/- Walks: what functions of the program answer, over the logic of footprints. Written by wip/tools/gen.py out of a spec of this session's. -/
import Derived.Test.YtpaipfceibcbkaaDoorW14b
set_option linter.unusedVariables false
set_option linter.unusedSimpArgs false
set_option maxRecDepth 100000
namespace Go.Proofs.YtpaipfceibcbkaaDoor
open Go.SL Go.Proofs.YtpaipfceibcbkaaDoor
open Go.Law21 Go.Law05

theorem s_Small1 (b : Nat) (k : Int) (e : Ent) : CallsS P 16 [.slice (some ⟨b, 0, none⟩) 1 1, .int .i64 (1)] [[(b, .cells (.int .i64 k :: e.cells).toArray 43 (0, 0))]] (fun v L => (∃ q, v = .bool q) ∧ L = [[(b, .cells (.int .i64 k :: e.cells).toArray 43 (0, 0))]]) := by
  refine CallsS.intro Tryd.func16 rfl rfl rfl rfl ?_
  refine WP.seq ?_
  refine WP.region ?_
  refine WO.assign rfl rfl ?_
  refine WO.nil ?_
  refine thnN ?_
  refine WP.seq ?_
  refine WP.seq ?_
  refine WP.region ?_
  refine WO.move rfl rfl ?_
  refine WO.lenL rfl un_44 rfl ?_
  refine WO.move rfl rfl ?_
  refine WO.gtrI rfl rfl rfl ?_
  refine WO.nil ?_
  refine thnN ?_
  refine WP.condL 11 rfl (fun h1 => ?_) (fun h2 => ?_)
  · try simp only [decide_eq_true_eq, decide_eq_false_iff_not, beq_iff_eq, beq_eq_false_iff_ne, bne_iff_ne, bne_eq_false_iff_eq, Bool.not_eq_true', Bool.not_eq_false', Int.not_lt, Int.not_le, ne_eq] at h1
    refine WP.seq ?_
    refine WP.region ?_
    refine WO.assign rfl rfl ?_
    refine WO.nil ?_
    refine thnN ?_
    refine WP.ret ?_
    refine thnR ?_
    refine ⟨_, [[(b, .cells (.int .i64 k :: e.cells).toArray 43 (0, 0))]], (Res.one rfl), (by first | exact Imp.refl _ | exact Imp.pick 2 rfl), ?_⟩
    exact ⟨⟨_, rfl⟩, rfl⟩
  · try simp only [decide_eq_true_eq, decide_eq_false_iff_not, beq_iff_eq, beq_eq_false_iff_ne, bne_iff_ne, bne_eq_false_iff_eq, Bool.not_eq_true', Bool.not_eq_false', Int.not_lt, Int.not_le, ne_eq] at h2
    refine WP.skip ?_
    refine thnN ?_
    refine WP.seq ?_
    refine WP.seq ?_
    refine WP.region ?_
    refine WO.move rfl rfl ?_
    refine WO.lenL rfl un_44 rfl ?_
    refine WO.move rfl rfl ?_
    refine WO.nil ?_
    refine thnN ?_
    refine WP.block ?_
    refine WP.loop1 (fun (i : Nat) => [(12, .slice (some ⟨b, 0, none⟩) 1 1), (13, .int .i64 (1)), (14, .int .i64 (i))]) (fun (i : Nat) => [[(b, .cells (.int .i64 k :: e.cells).toArray 43 (0, 0))]]) (fun (i : Nat) => i ≤ 1) (fun (i : Nat) => 1 - i) ⟨0, ⟨rfl, rfl, rfl, trivial⟩, rfl, ?_⟩ ?_
    · omega
    · intro i hI
      refine WP.seq ?_
      refine WP.region ?_
      refine WO.lssI rfl rfl rfl ?_
      refine WO.nil ?_
      refine thnN ?_
      refine WP.seq ?_
      refine WP.condL 15 rfl (fun h3 => ?_) (fun h4 => ?_)
      · try simp only [decide_eq_true_eq, decide_eq_false_iff_not, beq_iff_eq, beq_eq_false_iff_ne, bne_iff_ne, bne_eq_false_iff_eq, Bool.not_eq_true', Bool.not_eq_false', Int.not_lt, Int.not_le, ne_eq] at h3
        refine WP.skip ?_
        refine thnN ?_
        refine WP.seq ?_
        refine WP.block ?_
        refine WP.seq ?_
        refine WP.region ?_
        refine WO.indexAddr rfl rfl sl_44 (by first | assumption | exact RdSl.lit in0 rfl) (by omega) (by decide) rfl (fun ib0 io0 ics0 iT0 ifz0 im0 ie0 il0 => ?_)
        obtain rfl : i = 0 := by omega
        refine WO.loadAgg (vs := .int .i64 k :: e.cells) rfl ag_43 im0 (ie0.trans rfl) rfl rfl ?_
        refine WO.alloc zo_43 rfl (fun b0 => ?_)
        first | refine WO.storeAll 0 rfl rfl rfl rfl ag_43 rfl (by rfl) ?_ | refine WO.storeAll 1 rfl rfl rfl rfl ag_43 rfl (by rfl) ?_ | refine WO.storeAll 2 rfl rfl rfl rfl ag_43 rfl (by rfl) ?_ | refine WO.storeAll 3 rfl rfl rfl rfl ag_43 rfl (by rfl) ?_ | refine WO.storeAll 4 rfl rfl rfl rfl ag_43 rfl (by rfl) ?_ | refine WO.storeAll 5 rfl rfl rfl rfl ag_43 rfl (by rfl) ?_ | refine WO.storeAgg 0 rfl rfl rfl rfl ag_43 rfl (by simp [ints, Value.oneCell']) (Nat.le_of_ble_eq_true rfl) _ rfl ?_ | refine WO.storeAgg 1 rfl rfl rfl rfl ag_43 rfl (by simp [ints, Value.oneCell']) (Nat.le_of_ble_eq_true rfl) _ rfl ?_ | refine WO.storeAgg 2 rfl rfl rfl rfl ag_43 rfl (by simp [ints, Value.oneCell']) (Nat.le_of_ble_eq_true rfl) _ rfl ?_
        refine WO.nil ?_
        refine thnN ?_
        refine WP.seq ?_
        refine WP.region ?_
        refine WO.fieldAddr rfl fo_43_1 rfl ?_
        refine WO.loadAgg (vs := e.cells) rfl ag_23 in0 rfl rfl rfl ?_
        refine WO.alloc zo_23 rfl (fun b1 => ?_)
        first | refine WO.storeAll 0 rfl rfl rfl rfl ag_23 rfl (by rfl) ?_ | refine WO.storeAll 1 rfl rfl rfl rfl ag_23 rfl (by rfl) ?_ | refine WO.storeAll 2 rfl rfl rfl rfl ag_23 rfl (by rfl) ?_ | refine WO.storeAll 3 rfl rfl rfl rfl ag_23 rfl (by rfl) ?_ | refine WO.storeAll 4 rfl rfl rfl rfl ag_23 rfl (by rfl) ?_ | refine WO.storeAll 5 rfl rfl rfl rfl ag_23 rfl (by rfl) ?_ | refine WO.storeAgg 0 rfl rfl rfl rfl ag_23 rfl (by simp [ints, Value.oneCell']) (Nat.le_of_ble_eq_true rfl) _ rfl ?_ | refine WO.storeAgg 1 rfl rfl rfl rfl ag_23 rfl (by simp [ints, Value.oneCell']) (Nat.le_of_ble_eq_true rfl) _ rfl ?_ | refine WO.storeAgg 2 rfl rfl rfl rfl ag_23 rfl (by simp [ints, Value.oneCell']) (Nat.le_of_ble_eq_true rfl) _ rfl ?_
        refine WO.nil ?_
        refine thnN ?_
        refine WP.seq ?_
        refine WP.region ?_
        refine WO.fieldAddr rfl fo_23_1 rfl ?_
        refine WO.load rfl sc_9 (by first | exact in0 | exact in1 | exact in2 | exact in3 | exact in4 | exact in5 | exact in6) rfl rfl ?_
        refine WO.lenS rfl un_9 rfl ?_
        refine WO.gtrI rfl rfl rfl ?_
        refine WO.move rfl rfl ?_
        refine WO.split 24 rfl (fun h5 => ?_) (fun h6 => ?_)
        · try simp only [decide_eq_true_eq, decide_eq_false_iff_not, beq_iff_eq, beq_eq_false_iff_ne, bne_iff_ne, bne_eq_false_iff_eq, Bool.not_eq_true', Bool.not_eq_false', Int.not_lt, Int.not_le, ne_eq] at h5
          refine WO.pass 24 rfl rfl rfl rfl ?_
          refine WO.pass 24 rfl rfl rfl rfl ?_
          refine WO.pass 24 rfl rfl rfl rfl ?_
          refine WO.pass 24 rfl rfl rfl rfl ?_
          refine WO.pickT rfl rfl rfl ?_
          refine WO.move rfl rfl ?_
          refine WO.pass 30 rfl rfl rfl rfl ?_
          refine WO.pass 30 rfl rfl rfl rfl ?_
          refine WO.pass 30 rfl rfl rfl rfl ?_
          refine WO.pass 30 rfl rfl rfl rfl ?_
          refine WO.pickT rfl rfl rfl ?_
          refine WO.move rfl rfl ?_
          refine WO.pass 36 rfl rfl rfl rfl ?_
          refine WO.pass 36 rfl rfl rfl rfl ?_
          refine WO.pass 36 rfl rfl rfl rfl ?_
          refine WO.pass 36 rfl rfl rfl rfl ?_
          refine WO.pickT rfl rfl rfl ?_
          refine WO.move rfl rfl ?_
          refine WO.pass 42 rfl rfl rfl rfl ?_
          refine WO.pass 42 rfl rfl rfl rfl ?_
          refine WO.pass 42 rfl rfl rfl rfl ?_
          refine WO.pass 42 rfl rfl rfl rfl ?_
          refine WO.pickT rfl rfl rfl ?_
          refine WO.move rfl rfl ?_
          refine WO.pass 48 rfl rfl rfl rfl ?_
          refine WO.pass 48 rfl rfl rfl rfl ?_
          refine WO.pass 48 rfl rfl rfl rfl ?_
          refine WO.pass 48 rfl rfl rfl rfl ?_
          refine WO.pickT rfl rfl rfl ?_
          refine WO.nil ?_
          refine thnN ?_
          refine WP.condT rfl ?_
          refine WP.seq ?_
          refine WP.region ?_
          refine WO.assign rfl rfl ?_
          refine WO.nil ?_
          refine thnN ?_
          refine WP.ret ?_
          refine blkR ?_
          refine thnR ?_
          refine thnR ?_
          refine blkR ?_
          refine thnR ?_
          refine ⟨_, [[(b, .cells (.int .i64 k :: e.cells).toArray 43 (0, 0))]], (Res.one rfl), (by first | exact Imp.refl _ | exact Imp.pick 2 rfl), ?_⟩
          exact ⟨⟨_, rfl⟩, rfl⟩
        · try simp only [decide_eq_true_eq, decide_eq_false_iff_not, beq_iff_eq, beq_eq_false_iff_ne, bne_iff_ne, bne_eq_false_iff_eq, Bool.not_eq_true', Bool.not_eq_false', Int.not_lt, Int.not_le, ne_eq] at h6
          refine WO.want 24 rfl rfl ?_
          refine WO.fieldAddr rfl fo_23_6 rfl ?_
          refine WO.want 24 rfl rfl ?_
          refine WO.load rfl sc_9 (by first | exact in0 | exact in1 | exact in2 | exact in3 | exact in4 | exact in5 | exact in6) rfl rfl ?_
          refine WO.want 24 rfl rfl ?_
          refine WO.lenS rfl un_9 rfl ?_
          refine WO.want 24 rfl rfl ?_
          refine WO.gtrI rfl rfl rfl ?_
          refine WO.pickF rfl rfl rfl ?_
          refine WO.move rfl rfl ?_
          refine WO.split 30 rfl (fun h7 => ?_) (fun h8 => ?_)
          · try simp only [decide_eq_true_eq, decide_eq_false_iff_not, beq_iff_eq, beq_eq_false_iff_ne, bne_iff_ne, bne_eq_false_iff_eq, Bool.not_eq_true', Bool.not_eq_false', Int.not_lt, Int.not_le, ne_eq] at h7
            refine WO.pass 30 rfl rfl rfl rfl ?_
            refine WO.pass 30 rfl rfl rfl rfl ?_
            refine WO.pass 30 rfl rfl rfl rfl ?_
            refine WO.pass 30 rfl rfl rfl rfl ?_
            refine WO.pickT rfl rfl rfl ?_
            refine WO.move rfl rfl ?_
            refine WO.pass 36 rfl rfl rfl rfl ?_
            refine WO.pass 36 rfl rfl rfl rfl ?_
            refine WO.pass 36 rfl rfl rfl rfl ?_
            refine WO.pass 36 rfl rfl rfl rfl ?_
            refine WO.pickT rfl rfl rfl ?_
            refine WO.move rfl rfl ?_
            refine WO.pass 42 rfl rfl rfl rfl ?_
            refine WO.pass 42 rfl rfl rfl rfl ?_
            refine WO.pass 42 rfl rfl rfl rfl ?_
            refine WO.pass 42 rfl rfl rfl rfl ?_
            refine WO.pickT rfl rfl rfl ?_
            refine WO.move rfl rfl ?_
            refine WO.pass 48 rfl rfl rfl rfl ?_
            refine WO.pass 48 rfl rfl rfl rfl ?_
            refine WO.pass 48 rfl rfl rfl rfl ?_
            refine WO.pass 48 rfl rfl rfl rfl ?_
            refine WO.pickT rfl rfl rfl ?_
            refine WO.nil ?_
            refine thnN ?_
            refine WP.condT rfl ?_
            refine WP.seq ?_
            refine WP.region ?_
            refine WO.assign rfl rfl ?_
            refine WO.nil ?_
            refine thnN ?_
            refine WP.ret ?_
            refine blkR ?_
            refine thnR ?_
            refine thnR ?_
            refine blkR ?_
            refine thnR ?_
            refine ⟨_, [[(b, .cells (.int .i64 k :: e.cells).toArray 43 (0, 0))]], (Res.one rfl), (by first | exact Imp.refl _ | exact Imp.pick 2 rfl), ?_⟩
            exact ⟨⟨_, rfl⟩, rfl⟩
          · try simp only [decide_eq_true_eq, decide_eq_false_iff_not, beq_iff_eq, beq_eq_false_iff_ne, bne_iff_ne, bne_eq_false_iff_eq, Bool.not_eq_true', Bool.not_eq_false', Int.not_lt, Int.not_le, ne_eq] at h8
            refine WO.want 30 rfl rfl ?_
            refine WO.fieldAddr rfl fo_23_10 rfl ?_
            refine WO.want 30 rfl rfl ?_
            refine WO.load rfl sc_9 (by first | exact in0 | exact in1 | exact in2 | exact in3 | exact in4 | exact in5 | exact in6) rfl rfl ?_
            refine WO.want 30 rfl rfl ?_
            refine WO.lenS rfl un_9 rfl ?_
            refine WO.want 30 rfl rfl ?_
            refine WO.gtrI rfl rfl rfl ?_
            refine WO.pickF rfl rfl rfl ?_
            refine WO.move rfl rfl ?_
            refine WO.split 36 rfl (fun h9 => ?_) (fun h10 => ?_)
            · try simp only [decide_eq_true_eq, decide_eq_false_iff_not, beq_iff_eq, beq_eq_false_iff_ne, bne_iff_ne, bne_eq_false_iff_eq, Bool.not_eq_true', Bool.not_eq_false', Int.not_lt, Int.not_le, ne_eq] at h9
              refine WO.pass 36 rfl rfl rfl rfl ?_
              refine WO.pass 36 rfl rfl rfl rfl ?_
              refine WO.pass 36 rfl rfl rfl rfl ?_
              refine WO.pass 36 rfl rfl rfl rfl ?_
              refine WO.pickT rfl rfl rfl ?_
              refine WO.move rfl rfl ?_
              refine WO.pass 42 rfl rfl rfl rfl ?_
              refine WO.pass 42 rfl rfl rfl rfl ?_
              refine WO.pass 42 rfl rfl rfl rfl ?_
              refine WO.pass 42 rfl rfl rfl rfl ?_
              refine WO.pickT rfl rfl rfl ?_
              refine WO.move rfl rfl ?_
              refine WO.pass 48 rfl rfl rfl rfl ?_
              refine WO.pass 48 rfl rfl rfl rfl ?_
              refine WO.pass 48 rfl rfl rfl rfl ?_
              refine WO.pass 48 rfl rfl rfl rfl ?_
              refine WO.pickT rfl rfl rfl ?_
              refine WO.nil ?_
              refine thnN ?_
              refine WP.condT rfl ?_
              refine WP.seq ?_
              refine WP.region ?_
              refine WO.assign rfl rfl ?_
              refine WO.nil ?_
              refine thnN ?_
              refine WP.ret ?_
              refine blkR ?_
              refine thnR ?_
              refine thnR ?_
              refine blkR ?_
              refine thnR ?_
              refine ⟨_, [[(b, .cells (.int .i64 k :: e.cells).toArray 43 (0, 0))]], (Res.one rfl), (by first | exact Imp.refl _ | exact Imp.pick 2 rfl), ?_⟩
              exact ⟨⟨_, rfl⟩, rfl⟩
            · try simp only [decide_eq_true_eq, decide_eq_false_iff_not, beq_iff_eq, beq_eq_false_iff_ne, bne_iff_ne, bne_eq_false_iff_eq, Bool.not_eq_true', Bool.not_eq_false', Int.not_lt, Int.not_le, ne_eq] at h10
              refine WO.want 36 rfl rfl ?_
              refine WO.fieldAddr rfl fo_23_11 rfl ?_
              refine WO.want 36 rfl rfl ?_
              refine WO.load rfl sc_9 (by first | exact in0 | exact in1 | exact in2 | exact in3 | exact in4 | exact in5 | exact in6) rfl rfl ?_
              refine WO.want 36 rfl rfl ?_
              refine WO.lenS rfl un_9 rfl ?_
              refine WO.want 36 rfl rfl ?_
              refine WO.gtrI rfl rfl rfl ?_
              refine WO.pickF rfl rfl rfl ?_
              refine WO.move rfl rfl ?_
              refine WO.split 42 rfl (fun h11 => ?_) (fun h12 => ?_)
              · try simp only [decide_eq_true_eq, decide_eq_false_iff_not, beq_iff_eq, beq_eq_false_iff_ne, bne_iff_ne, bne_eq_false_iff_eq, Bool.not_eq_true', Bool.not_eq_false', Int.not_lt, Int.not_le, ne_eq] at h11
                refine WO.pass 42 rfl rfl rfl rfl ?_
                refine WO.pass 42 rfl rfl rfl rfl ?_
                refine WO.pass 42 rfl rfl rfl rfl ?_
                refine WO.pass 42 rfl rfl rfl rfl ?_
                refine WO.pickT rfl rfl rfl ?_
                refine WO.move rfl rfl ?_
                refine WO.pass 48 rfl rfl rfl rfl ?_
                refine WO.pass 48 rfl rfl rfl rfl ?_
                refine WO.pass 48 rfl rfl rfl rfl ?_
                refine WO.pass 48 rfl rfl rfl rfl ?_
                refine WO.pickT rfl rfl rfl ?_
                refine WO.nil ?_
                refine thnN ?_
                refine WP.condT rfl ?_
                refine WP.seq ?_
                refine WP.region ?_
                refine WO.assign rfl rfl ?_
                refine WO.nil ?_
                refine thnN ?_
                refine WP.ret ?_
                refine blkR ?_
                refine thnR ?_
                refine thnR ?_
                refine blkR ?_
                refine thnR ?_
                refine ⟨_, [[(b, .cells (.int .i64 k :: e.cells).toArray 43 (0, 0))]], (Res.one rfl), (by first | exact Imp.refl _ | exact Imp.pick 2 rfl), ?_⟩
                exact ⟨⟨_, rfl⟩, rfl⟩
              · try simp only [decide_eq_true_eq, decide_eq_false_iff_not, beq_iff_eq, beq_eq_false_iff_ne, bne_iff_ne, bne_eq_false_iff_eq, Bool.not_eq_true', Bool.not_eq_false', Int.not_lt, Int.not_le, ne_eq] at h12
                refine WO.want 42 rfl rfl ?_
                refine WO.fieldAddr rfl fo_23_12 rfl ?_
                refine WO.want 42 rfl rfl ?_
                refine WO.load rfl sc_9 (by first | exact in0 | exact in1 | exact in2 | exact in3 | exact in4 | exact in5 | exact in6) rfl rfl ?_
                refine WO.want 42 rfl rfl ?_
                refine WO.lenS rfl un_9 rfl ?_
                refine WO.want 42 rfl rfl ?_
                refine WO.gtrI rfl rfl rfl ?_
                refine WO.pickF rfl rfl rfl ?_
                refine WO.move rfl rfl ?_
                refine WO.split 48 rfl (fun h13 => ?_) (fun h14 => ?_)
                · try simp only [decide_eq_true_eq, decide_eq_false_iff_not, beq_iff_eq, beq_eq_false_iff_ne, bne_iff_ne, bne_eq_false_iff_eq, Bool.not_eq_true', Bool.not_eq_false', Int.not_lt, Int.not_le, ne_eq] at h13
                  refine WO.pass 48 rfl rfl rfl rfl ?_
                  refine WO.pass 48 rfl rfl rfl rfl ?_
                  refine WO.pass 48 rfl rfl rfl rfl ?_
                  refine WO.pass 48 rfl rfl rfl rfl ?_
                  refine WO.pickT rfl rfl rfl ?_
                  refine WO.nil ?_
                  refine thnN ?_
                  refine WP.condT rfl ?_
                  refine WP.seq ?_
                  refine WP.region ?_
                  refine WO.assign rfl rfl ?_
                  refine WO.nil ?_
                  refine thnN ?_
                  refine WP.ret ?_
                  refine blkR ?_
                  refine thnR ?_
                  refine thnR ?_
                  refine blkR ?_
                  refine thnR ?_
                  refine ⟨_, [[(b, .cells (.int .i64 k :: e.cells).toArray 43 (0, 0))]], (Res.one rfl), (by first | exact Imp.refl _ | exact Imp.pick 2 rfl), ?_⟩
                  exact ⟨⟨_, rfl⟩, rfl⟩
                · try simp only [decide_eq_true_eq, decide_eq_false_iff_not, beq_iff_eq, beq_eq_false_iff_ne, bne_iff_ne, bne_eq_false_iff_eq, Bool.not_eq_true', Bool.not_eq_false', Int.not_lt, Int.not_le, ne_eq] at h14
                  refine WO.want 48 rfl rfl ?_
                  refine WO.fieldAddr rfl fo_23_13 rfl ?_
                  refine WO.want 48 rfl rfl ?_
                  refine WO.load rfl sc_9 (by first | exact in0 | exact in1 | exact in2 | exact in3 | exact in4 | exact in5 | exact in6) rfl rfl ?_
                  refine WO.want 48 rfl rfl ?_
                  refine WO.lenS rfl un_9 rfl ?_
                  refine WO.want 48 rfl rfl ?_
                  refine WO.gtrI rfl rfl rfl ?_
                  refine WO.pickF rfl rfl rfl ?_
                  refine WO.nil ?_
                  refine thnN ?_
                  refine WP.condL 53 rfl (fun h15 => ?_) (fun h16 => ?_)
                  · try simp only [decide_eq_true_eq, decide_eq_false_iff_not, beq_iff_eq, beq_eq_false_iff_ne, bne_iff_ne, bne_eq_false_iff_eq, Bool.not_eq_true', Bool.not_eq_false', Int.not_lt, Int.not_le, ne_eq] at h15
                    refine WP.seq ?_
                    refine WP.region ?_
                    refine WO.assign rfl rfl ?_
                    refine WO.nil ?_
                    refine thnN ?_
                    refine WP.ret ?_
                    refine blkR ?_
                    refine thnR ?_
                    refine thnR ?_
                    refine blkR ?_
                    refine thnR ?_
                    refine ⟨_, [[(b, .cells (.int .i64 k :: e.cells).toArray 43 (0, 0))]], (Res.one rfl), (by first | exact Imp.refl _ | exact Imp.pick 2 rfl), ?_⟩
                    exact ⟨⟨_, rfl⟩, rfl⟩
                  · try simp only [decide_eq_true_eq, decide_eq_false_iff_not, beq_iff_eq, beq_eq_false_iff_ne, bne_iff_ne, bne_eq_false_iff_eq, Bool.not_eq_true', Bool.not_eq_false', Int.not_lt, Int.not_le, ne_eq] at h16
                    refine WP.skip ?_
                    refine blkN ?_
                    refine thnN ?_
                    refine WP.region ?_
                    refine WO.add rfl rfl (by first | exact wrap_i64 (by omega) (by omega) | rfl) rfl ?_
                    refine WO.drop 0 rfl ?_
                    refine WO.drop 0 rfl ?_
                    refine WO.move rfl rfl ?_
                    refine WO.nil ?_
                    refine thnN ?_
                    refine ⟨1, ⟨rfl, rfl, rfl, trivial⟩, rfl, ?_, ?_⟩
                    · omega
                    · omega
      · try simp only [decide_eq_true_eq, decide_eq_false_iff_not, beq_iff_eq, beq_eq_false_iff_ne, bne_iff_ne, bne_eq_false_iff_eq, Bool.not_eq_true', Bool.not_eq_false', Int.not_lt, Int.not_le, ne_eq] at h4
        refine WP.exit ?_
        refine thnE ?_
        refine thnE ?_
        refine blkHit ?_
        refine thnN ?_
        refine WP.seq ?_
        refine WP.region ?_
        refine WO.assign rfl rfl ?_
        refine WO.nil ?_
        refine thnN ?_
        refine WP.ret ?_
        refine ⟨_, [[(b, .cells (.int .i64 k :: e.cells).toArray 43 (0, 0))]], (Res.one rfl), (by first | exact Imp.refl _ | exact Imp.pick 2 rfl), ?_⟩
        exact ⟨⟨_, rfl⟩, rfl⟩

theorem s_w21_Small (e : Ent) (d : Deed) : CallsS P 5 [entV e, deedV d] [] (fun v L => (∃ q, v = .bool q) ∧ L = []) := by
  refine CallsS.intro Tryd.func5 rfl rfl rfl rfl ?_
  refine WP.seq ?_
  refine WP.region ?_
  refine WO.box rfl rfl rfl (fun b0 => ?_)
  refine WO.box rfl rfl rfl (fun b1 => ?_)
  refine WO.assign rfl rfl ?_
  refine WO.nil ?_
  refine thnN ?_
  refine WP.seq ?_
  refine WP.region ?_
  refine WO.fieldAddr rfl fo_29_6 rfl ?_
  first | refine WO.loadAll rfl ag_27 (by first | exact in0 | exact in1 | exact in2 | exact in3 | exact in4 | exact in5 | exact in6) rfl rfl ?_ | refine WO.loadAgg rfl ag_27 (by first | exact in0 | exact in1 | exact in2 | exact in3 | exact in4 | exact in5 | exact in6) rfl rfl rfl ?_
  refine WO.alloc zo_27 rfl (fun b2 => ?_)
  first | refine WO.storeAll 0 rfl rfl rfl rfl ag_27 rfl (by rfl) ?_ | refine WO.storeAll 1 rfl rfl rfl rfl ag_27 rfl (by rfl) ?_ | refine WO.storeAll 2 rfl rfl rfl rfl ag_27 rfl (by rfl) ?_ | refine WO.storeAll 3 rfl rfl rfl rfl ag_27 rfl (by rfl) ?_ | refine WO.storeAll 4 rfl rfl rfl rfl ag_27 rfl (by rfl) ?_ | refine WO.storeAll 5 rfl rfl rfl rfl ag_27 rfl (by rfl) ?_ | refine WO.storeAgg 0 rfl rfl rfl rfl ag_27 rfl (by simp [ints, Value.oneCell']) (Nat.le_of_ble_eq_true rfl) _ rfl ?_ | refine WO.storeAgg 1 rfl rfl rfl rfl ag_27 rfl (by simp [ints, Value.oneCell']) (Nat.le_of_ble_eq_true rfl) _ rfl ?_ | refine WO.storeAgg 2 rfl rfl rfl rfl ag_27 rfl (by simp [ints, Value.oneCell']) (Nat.le_of_ble_eq_true rfl) _ rfl ?_
  refine WO.nil ?_
  refine thnN ?_
  refine WP.seq ?_
  refine WP.region ?_
  first | refine WO.loadAll rfl ag_23 (by first | exact in0 | exact in1 | exact in2 | exact in3 | exact in4 | exact in5 | exact in6) rfl rfl ?_ | refine WO.loadAgg rfl ag_23 (by first | exact in0 | exact in1 | exact in2 | exact in3 | exact in4 | exact in5 | exact in6) rfl rfl rfl ?_
  refine WO.buildQ (cs := [_, _, _, _, _, _, _, _, _, _, _, _, _, _, _]) rfl lay_43 zo_43 rfl rfl ?_
  refine WO.buildSlice (cs := [_, _, _, _, _, _, _, _, _, _, _, _, _, _, _]) rfl sl_44 zo_43 rfl rfl rfl (fun l0 => ?_)
  refine WO.call (s_Small1 _ _ e) rfl ca_16 rfl rfl ?_
  rintro _ _ ⟨⟨q, rfl⟩, rfl⟩
  refine WO.move rfl rfl ?_
  refine WO.split 12 rfl (fun h1 => ?_) (fun h2 => ?_)
  · try simp only [decide_eq_true_eq, decide_eq_false_iff_not, beq_iff_eq, beq_eq_false_iff_ne, bne_iff_ne, bne_eq_false_iff_eq, Bool.not_eq_true', Bool.not_eq_false', Int.not_lt, Int.not_le, ne_eq] at h1
    refine WO.want 12 rfl rfl ?_
    refine WO.fieldAddr rfl fo_29_5 rfl ?_
    refine WO.want 12 rfl rfl ?_
    refine WO.load rfl sc_9 (by first | exact in0 | exact in1 | exact in2 | exact in3 | exact in4 | exact in5 | exact in6) rfl rfl ?_
    refine WO.want 12 rfl rfl ?_
    refine WO.lenS rfl un_9 rfl ?_
    refine WO.want 12 rfl rfl ?_
    refine WO.leqI rfl rfl rfl ?_
    refine WO.pickT rfl rfl rfl ?_
    refine WO.move rfl rfl ?_
    refine WO.split 18 rfl (fun h3 => ?_) (fun h4 => ?_)
    · try simp only [decide_eq_true_eq, decide_eq_false_iff_not, beq_iff_eq, beq_eq_false_iff_ne, bne_iff_ne, bne_eq_false_iff_eq, Bool.not_eq_true', Bool.not_eq_false', Int.not_lt, Int.not_le, ne_eq] at h3
      refine WO.want 18 rfl rfl ?_
      refine WO.fieldAddr rfl fo_27_3 rfl ?_
      refine WO.want 18 rfl rfl ?_
      refine WO.load rfl sc_9 (by first | exact in0 | exact in1 | exact in2 | exact in3 | exact in4 | exact in5 | exact in6) rfl rfl ?_
      refine WO.want 18 rfl rfl ?_
      refine WO.lenS rfl un_9 rfl ?_
      refine WO.want 18 rfl rfl ?_
      refine WO.leqI rfl rfl rfl ?_
      refine WO.pickT rfl rfl rfl ?_
      refine WO.move rfl rfl ?_
      refine WO.split 24 rfl (fun h5 => ?_) (fun h6 => ?_)
      · try simp only [decide_eq_true_eq, decide_eq_false_iff_not, beq_iff_eq, beq_eq_false_iff_ne, bne_iff_ne, bne_eq_false_iff_eq, Bool.not_eq_true', Bool.not_eq_false', Int.not_lt, Int.not_le, ne_eq] at h5
        refine WO.want 24 rfl rfl ?_
        refine WO.fieldAddr rfl fo_27_4 rfl ?_
        refine WO.want 24 rfl rfl ?_
        refine WO.load rfl sc_9 (by first | exact in0 | exact in1 | exact in2 | exact in3 | exact in4 | exact in5 | exact in6) rfl rfl ?_
        refine WO.want 24 rfl rfl ?_
        refine WO.lenS rfl un_9 rfl ?_
        refine WO.want 24 rfl rfl ?_
        refine WO.leqI rfl rfl rfl ?_
        refine WO.pickT rfl rfl rfl ?_
        refine WO.move rfl rfl ?_
        refine WO.split 30 rfl (fun h7 => ?_) (fun h8 => ?_)
        · try simp only [decide_eq_true_eq, decide_eq_false_iff_not, beq_iff_eq, beq_eq_false_iff_ne, bne_iff_ne, bne_eq_false_iff_eq, Bool.not_eq_true', Bool.not_eq_false', Int.not_lt, Int.not_le, ne_eq] at h7
          refine WO.want 30 rfl rfl ?_
          refine WO.fieldAddr rfl fo_27_5 rfl ?_
          refine WO.want 30 rfl rfl ?_
          refine WO.load rfl sc_9 (by first | exact in0 | exact in1 | exact in2 | exact in3 | exact in4 | exact in5 | exact in6) rfl rfl ?_
          refine WO.want 30 rfl rfl ?_
          refine WO.lenS rfl un_9 rfl ?_
          refine WO.want 30 rfl rfl ?_
          refine WO.leqI rfl rfl rfl ?_
          refine WO.pickT rfl rfl rfl ?_
          refine WO.move rfl rfl ?_
          refine WO.split 36 rfl (fun h9 => ?_) (fun h10 => ?_)
          · try simp only [decide_eq_true_eq, decide_eq_false_iff_not, beq_iff_eq, beq_eq_false_iff_ne, bne_iff_ne, bne_eq_false_iff_eq, Bool.not_eq_true', Bool.not_eq_false', Int.not_lt, Int.not_le, ne_eq] at h9
            refine WO.want 36 rfl rfl ?_
            refine WO.fieldAddr rfl fo_27_6 rfl ?_
            refine WO.want 36 rfl rfl ?_
            refine WO.load rfl sc_9 (by first | exact in0 | exact in1 | exact in2 | exact in3 | exact in4 | exact in5 | exact in6) rfl rfl ?_
            refine WO.want 36 rfl rfl ?_
            refine WO.lenS rfl un_9 rfl ?_
            refine WO.want 36 rfl rfl ?_
            refine WO.leqI rfl rfl rfl ?_
            refine WO.pickT rfl rfl rfl ?_
            refine WO.assign rfl rfl ?_
            refine WO.nil ?_
            refine thnN ?_
            refine WP.ret ?_
            refine ⟨_, [], (Res.one rfl), (Imp.nil _), ?_⟩
            exact ⟨⟨_, rfl⟩, rfl⟩
          · try simp only [decide_eq_true_eq, decide_eq_false_iff_not, beq_iff_eq, beq_eq_false_iff_ne, bne_iff_ne, bne_eq_false_iff_eq, Bool.not_eq_true', Bool.not_eq_false', Int.not_lt, Int.not_le, ne_eq] at h10
            refine WO.pass 36 rfl rfl rfl rfl ?_
            refine WO.pass 36 rfl rfl rfl rfl ?_
            refine WO.pass 36 rfl rfl rfl rfl ?_
            refine WO.pass 36 rfl rfl rfl rfl ?_
            refine WO.pickF rfl rfl rfl ?_
            refine WO.assign rfl rfl ?_
            refine WO.nil ?_
            refine thnN ?_
            refine WP.ret ?_
            refine ⟨_, [], (Res.one rfl), (Imp.nil _), ?_⟩
            exact ⟨⟨_, rfl⟩, rfl⟩
        · try simp only [decide_eq_true_eq, decide_eq_false_iff_not, beq_iff_eq, beq_eq_false_iff_ne, bne_iff_ne, bne_eq_false_iff_eq, Bool.not_eq_true', Bool.not_eq_false', Int.not_lt, Int.not_le, ne_eq] at h8
          refine WO.pass 30 rfl rfl rfl rfl ?_
          refine WO.pass 30 rfl rfl rfl rfl ?_
          refine WO.pass 30 rfl rfl rfl rfl ?_
          refine WO.pass 30 rfl rfl rfl rfl ?_
          refine WO.pickF rfl rfl rfl ?_
          refine WO.move rfl rfl ?_
          refine WO.pass 36 rfl rfl rfl rfl ?_
          refine WO.pass 36 rfl rfl rfl rfl ?_
          refine WO.pass 36 rfl rfl rfl rfl ?_
          refine WO.pass 36 rfl rfl rfl rfl ?_
          refine WO.pickF rfl rfl rfl ?_
          refine WO.assign rfl rfl ?_
          refine WO.nil ?_
          refine thnN ?_
          refine WP.ret ?_
          refine ⟨_, [], (Res.one rfl), (Imp.nil _), ?_⟩
          exact ⟨⟨_, rfl⟩, rfl⟩
      · try simp only [decide_eq_true_eq, decide_eq_false_iff_not, beq_iff_eq, beq_eq_false_iff_ne, bne_iff_ne, bne_eq_false_iff_eq, Bool.not_eq_true', Bool.not_eq_false', Int.not_lt, Int.not_le, ne_eq] at h6
        refine WO.pass 24 rfl rfl rfl rfl ?_
        refine WO.pass 24 rfl rfl rfl rfl ?_
        refine WO.pass 24 rfl rfl rfl rfl ?_
        refine WO.pass 24 rfl rfl rfl rfl ?_
        refine WO.pickF rfl rfl rfl ?_
        refine WO.move rfl rfl ?_
        refine WO.pass 30 rfl rfl rfl rfl ?_
        refine WO.pass 30 rfl rfl rfl rfl ?_
        refine WO.pass 30 rfl rfl rfl rfl ?_
        refine WO.pass 30 rfl rfl rfl rfl ?_
        refine WO.pickF rfl rfl rfl ?_
        refine WO.move rfl rfl ?_
        refine WO.pass 36 rfl rfl rfl rfl ?_
        refine WO.pass 36 rfl rfl rfl rfl ?_
        refine WO.pass 36 rfl rfl rfl rfl ?_
        refine WO.pass 36 rfl rfl rfl rfl ?_
        refine WO.pickF rfl rfl rfl ?_
        refine WO.assign rfl rfl ?_
        refine WO.nil ?_
        refine thnN ?_
        refine WP.ret ?_
        refine ⟨_, [], (Res.one rfl), (Imp.nil _), ?_⟩
        exact ⟨⟨_, rfl⟩, rfl⟩
    · try simp only [decide_eq_true_eq, decide_eq_false_iff_not, beq_iff_eq, beq_eq_false_iff_ne, bne_iff_ne, bne_eq_false_iff_eq, Bool.not_eq_true', Bool.not_eq_false', Int.not_lt, Int.not_le, ne_eq] at h4
      refine WO.pass 18 rfl rfl rfl rfl ?_
      refine WO.pass 18 rfl rfl rfl rfl ?_
      refine WO.pass 18 rfl rfl rfl rfl ?_
      refine WO.pass 18 rfl rfl rfl rfl ?_
      refine WO.pickF rfl rfl rfl ?_
      refine WO.move rfl rfl ?_
      refine WO.pass 24 rfl rfl rfl rfl ?_
      refine WO.pass 24 rfl rfl rfl rfl ?_
      refine WO.pass 24 rfl rfl rfl rfl ?_
      refine WO.pass 24 rfl rfl rfl rfl ?_
      refine WO.pickF rfl rfl rfl ?_
      refine WO.move rfl rfl ?_
      refine WO.pass 30 rfl rfl rfl rfl ?_
      refine WO.pass 30 rfl rfl rfl rfl ?_
      refine WO.pass 30 rfl rfl rfl rfl ?_
      refine WO.pass 30 rfl rfl rfl rfl ?_
      refine WO.pickF rfl rfl rfl ?_
      refine WO.move rfl rfl ?_
      refine WO.pass 36 rfl rfl rfl rfl ?_
      refine WO.pass 36 rfl rfl rfl rfl ?_
      refine WO.pass 36 rfl rfl rfl rfl ?_
      refine WO.pass 36 rfl rfl rfl rfl ?_
      refine WO.pickF rfl rfl rfl ?_
      refine WO.assign rfl rfl ?_
      refine WO.nil ?_
      refine thnN ?_
      refine WP.ret ?_
      refine ⟨_, [], (Res.one rfl), (Imp.nil _), ?_⟩
      exact ⟨⟨_, rfl⟩, rfl⟩
  · try simp only [decide_eq_true_eq, decide_eq_false_iff_not, beq_iff_eq, beq_eq_false_iff_ne, bne_iff_ne, bne_eq_false_iff_eq, Bool.not_eq_true', Bool.not_eq_false', Int.not_lt, Int.not_le, ne_eq] at h2
    refine WO.pass 12 rfl rfl rfl rfl ?_
    refine WO.pass 12 rfl rfl rfl rfl ?_
    refine WO.pass 12 rfl rfl rfl rfl ?_
    refine WO.pass 12 rfl rfl rfl rfl ?_
    refine WO.pickF rfl rfl rfl ?_
    refine WO.move rfl rfl ?_
    refine WO.pass 18 rfl rfl rfl rfl ?_
    refine WO.pass 18 rfl rfl rfl rfl ?_
    refine WO.pass 18 rfl rfl rfl rfl ?_
    refine WO.pass 18 rfl rfl rfl rfl ?_
    refine WO.pickF rfl rfl rfl ?_
    refine WO.move rfl rfl ?_
    refine WO.pass 24 rfl rfl rfl rfl ?_
    refine WO.pass 24 rfl rfl rfl rfl ?_
    refine WO.pass 24 rfl rfl rfl rfl ?_
    refine WO.pass 24 rfl rfl rfl rfl ?_
    refine WO.pickF rfl rfl rfl ?_
    refine WO.move rfl rfl ?_
    refine WO.pass 30 rfl rfl rfl rfl ?_
    refine WO.pass 30 rfl rfl rfl rfl ?_
    refine WO.pass 30 rfl rfl rfl rfl ?_
    refine WO.pass 30 rfl rfl rfl rfl ?_
    refine WO.pickF rfl rfl rfl ?_
    refine WO.move rfl rfl ?_
    refine WO.pass 36 rfl rfl rfl rfl ?_
    refine WO.pass 36 rfl rfl rfl rfl ?_
    refine WO.pass 36 rfl rfl rfl rfl ?_
    refine WO.pass 36 rfl rfl rfl rfl ?_
    refine WO.pickF rfl rfl rfl ?_
    refine WO.assign rfl rfl ?_
    refine WO.nil ?_
    refine thnN ?_
    refine WP.ret ?_
    refine ⟨_, [], (Res.one rfl), (Imp.nil _), ?_⟩
    exact ⟨⟨_, rfl⟩, rfl⟩

theorem s_w21_conf : CallsS P 13 [] [] (fun v L => v = confV c0 ∧ L = []) := by
  refine CallsS.intro Tryd.func13 rfl rfl rfl rfl ?_
  refine WP.seq ?_
  refine WP.region ?_
  refine WO.alloc zo_37 rfl (fun b0 => ?_)
  refine WO.nil ?_
  refine thnN ?_
  refine WP.seq ?_
  refine WP.region ?_
  refine WO.buildQ (cs := [_, _, _, _, _, _]) rfl lay_37 zo_37 rfl rfl ?_
  first | refine WO.storeAll 0 rfl rfl rfl rfl ag_37 rfl (by rfl) ?_ | refine WO.storeAll 1 rfl rfl rfl rfl ag_37 rfl (by rfl) ?_ | refine WO.storeAll 2 rfl rfl rfl rfl ag_37 rfl (by rfl) ?_ | refine WO.storeAll 3 rfl rfl rfl rfl ag_37 rfl (by rfl) ?_ | refine WO.storeAll 4 rfl rfl rfl rfl ag_37 rfl (by rfl) ?_ | refine WO.storeAll 5 rfl rfl rfl rfl ag_37 rfl (by rfl) ?_ | refine WO.storeAgg 0 rfl rfl rfl rfl ag_37 rfl (by simp [ints, Value.oneCell']) (Nat.le_of_ble_eq_true rfl) _ rfl ?_ | refine WO.storeAgg 1 rfl rfl rfl rfl ag_37 rfl (by simp [ints, Value.oneCell']) (Nat.le_of_ble_eq_true rfl) _ rfl ?_ | refine WO.storeAgg 2 rfl rfl rfl rfl ag_37 rfl (by simp [ints, Value.oneCell']) (Nat.le_of_ble_eq_true rfl) _ rfl ?_
  refine WO.nil ?_
  refine thnN ?_
  refine WP.ret ?_
  refine ⟨_, [], Res.cell1 rfl ag_37 (by first | exact in0 | exact in1 | exact in2 | exact in3 | exact in4 | exact in5 | exact in6) rfl rfl, (Imp.nil _), ?_⟩
  exact ⟨rfl, rfl⟩

theorem s_w21_awake {G : Foot} (hG : GlobOK G) : CallsS P 4 [] [G] (fun v L => (v = .bool true) ∧ L = [G]) := by
  refine CallsS.intro Tryd.func4 rfl rfl rfl rfl ?_
  refine WP.seq ?_
  refine WP.region ?_
  refine WO.assign rfl rfl ?_
  refine WO.nil ?_
  refine thnN ?_
  refine WP.seq ?_
  refine WP.region ?_
  refine WO.buildQ (cs := [_, _, _, _, _, _, _]) rfl lay_27 zo_27 rfl rfl ?_
  refine WO.callP (s_w21_conf) rfl ca_13 rfl ?_
  first | refine WO.callR 0 rfl (s_lease_Begin hG r0 7 10 c0) rfl ca_12 rfl ?_ | refine WO.callR 1 rfl (s_lease_Begin hG r0 7 10 c0) rfl ca_12 rfl ?_ | refine WO.callR 2 rfl (s_lease_Begin hG r0 7 10 c0) rfl ca_12 rfl ?_ | refine WO.callR 3 rfl (s_lease_Begin hG r0 7 10 c0) rfl ca_12 rfl ?_ | refine WO.callR 4 rfl (s_lease_Begin hG r0 7 10 c0) rfl ca_12 rfl ?_ | refine WO.callR 5 rfl (s_lease_Begin hG r0 7 10 c0) rfl ca_12 rfl ?_ | refine WO.callR 6 rfl (s_lease_Begin hG r0 7 10 c0) rfl ca_12 rfl ?_ | refine WO.callR 7 rfl (s_lease_Begin hG r0 7 10 c0) rfl ca_12 rfl ?_
  rintro _ ⟨pr, hpr, rfl⟩
  rw [awk1 pr]
  refine WO.move rfl rfl ?_
  refine WO.extract rfl rfl rfl ?_
  refine WO.extract rfl rfl rfl ?_
  refine WO.alloc zo_23 rfl (fun b0 => ?_)
  first | refine WO.storeAll 0 rfl rfl rfl rfl ag_23 rfl (by rfl) ?_ | refine WO.storeAll 1 rfl rfl rfl rfl ag_23 rfl (by rfl) ?_ | refine WO.storeAll 2 rfl rfl rfl rfl ag_23 rfl (by rfl) ?_ | refine WO.storeAll 3 rfl rfl rfl rfl ag_23 rfl (by rfl) ?_ | refine WO.storeAll 4 rfl rfl rfl rfl ag_23 rfl (by rfl) ?_ | refine WO.storeAll 5 rfl rfl rfl rfl ag_23 rfl (by rfl) ?_ | refine WO.storeAgg 0 rfl rfl rfl rfl ag_23 rfl (by simp [ints, Value.oneCell']) (Nat.le_of_ble_eq_true rfl) _ rfl ?_ | refine WO.storeAgg 1 rfl rfl rfl rfl ag_23 rfl (by simp [ints, Value.oneCell']) (Nat.le_of_ble_eq_true rfl) _ rfl ?_ | refine WO.storeAgg 2 rfl rfl rfl rfl ag_23 rfl (by simp [ints, Value.oneCell']) (Nat.le_of_ble_eq_true rfl) _ rfl ?_
  refine WO.assign rfl rfl ?_
  refine WO.nil ?_
  refine thnN ?_
  refine WP.seq ?_
  refine WP.regionD [] [0, 0, 0, 0, 0, 0, 0, 2, 0] [(0, 1, [2, 3, 4, 5, 7, 8]), (1, 0, [2, 3, 4, 5, 7, 8]), (2, 1, [3, 4, 5, 7, 8]), (3, 0, [4, 5, 7, 8]), (4, 0, [7, 8]), (5, 0, [8]), (6, 3, []), (7, 3, []), (8, 0, [])] mx_ (by kernel_rfl) (by simp) ?_
  apply WL.read
  · rfl
  · rfl
  · skip
    first | refine WO.loadAll rfl ag_23 (by first | exact in0 | exact in1 | exact in2 | exact in3 | exact in4 | exact in5 | exact in6) rfl rfl ?_ | refine WO.loadAgg rfl ag_23 (by first | exact in0 | exact in1 | exact in2 | exact in3 | exact in4 | exact in5 | exact in6) rfl rfl rfl ?_
    exact WO.nil ⟨rfl, rfl⟩
  apply WL.pure
  · rfl
  · rfl
  · skip
    refine WO.callP (s_w21_conf) rfl ca_13 rfl ?_
    exact WO.nil ⟨rfl, rfl⟩
  apply WL.read
  · rfl
  · rfl
  · skip
    first | refine WO.callR 0 rfl (s_lease_Take hG (E1 pr) 12 c0 ?_ ?_) rfl ca_14 rfl ?_ | refine WO.callR 1 rfl (s_lease_Take hG (E1 pr) 12 c0 ?_ ?_) rfl ca_14 rfl ?_ | refine WO.callR 2 rfl (s_lease_Take hG (E1 pr) 12 c0 ?_ ?_) rfl ca_14 rfl ?_ | refine WO.callR 3 rfl (s_lease_Take hG (E1 pr) 12 c0 ?_ ?_) rfl ca_14 rfl ?_ | refine WO.callR 4 rfl (s_lease_Take hG (E1 pr) 12 c0 ?_ ?_) rfl ca_14 rfl ?_ | refine WO.callR 5 rfl (s_lease_Take hG (E1 pr) 12 c0 ?_ ?_) rfl ca_14 rfl ?_ | refine WO.callR 6 rfl (s_lease_Take hG (E1 pr) 12 c0 ?_ ?_) rfl ca_14 rfl ?_ | refine WO.callR 7 rfl (s_lease_Take hG (E1 pr) 12 c0 ?_ ?_) rfl ca_14 rfl ?_
    · first | exact sz1 _ | exact sz2 _ | exact tk1 _
    · first | exact sz1 _ | exact sz2 _ | exact tk1 _
    rintro _ rfl
    exact WO.nil ⟨rfl, rfl⟩
  rw [awk2 hpr]
  apply WL.pure
  · rfl
  · rfl
  · skip
    refine WO.move rfl rfl ?_
    exact WO.nil ⟨rfl, rfl⟩
  apply WL.pure
  · rfl
  · rfl
  · skip
    refine WO.extract rfl rfl rfl ?_
    exact WO.nil ⟨rfl, rfl⟩
  apply WL.pure
  · rfl
  · rfl
  · skip
    refine WO.extract rfl rfl rfl ?_
    exact WO.nil ⟨rfl, rfl⟩
  refine WL.effG rfl (by simp) ?_
  refine WO.alloc zo_23 rfl (fun b1 => ?_)
  refine WO.nil (capN ⟨(by first | exact ⟨[], rfl⟩ | exact ⟨[_], rfl⟩), ?_⟩)
  refine WL.eff rfl rfl ?_
  first | refine WO.storeAll 0 rfl rfl rfl rfl ag_23 rfl (by rfl) ?_ | refine WO.storeAll 1 rfl rfl rfl rfl ag_23 rfl (by rfl) ?_ | refine WO.storeAll 2 rfl rfl rfl rfl ag_23 rfl (by rfl) ?_ | refine WO.storeAll 3 rfl rfl rfl rfl ag_23 rfl (by rfl) ?_ | refine WO.storeAll 4 rfl rfl rfl rfl ag_23 rfl (by rfl) ?_ | refine WO.storeAll 5 rfl rfl rfl rfl ag_23 rfl (by rfl) ?_ | refine WO.storeAgg 0 rfl rfl rfl rfl ag_23 rfl (by simp [ints, Value.oneCell']) (Nat.le_of_ble_eq_true rfl) _ rfl ?_ | refine WO.storeAgg 1 rfl rfl rfl rfl ag_23 rfl (by simp [ints, Value.oneCell']) (Nat.le_of_ble_eq_true rfl) _ rfl ?_ | refine WO.storeAgg 2 rfl rfl rfl rfl ag_23 rfl (by simp [ints, Value.oneCell']) (Nat.le_of_ble_eq_true rfl) _ rfl ?_
  refine WO.nil (capN ?_)
  apply WL.pure
  · rfl
  · rfl
  · skip
    refine WO.assign rfl rfl ?_
    exact WO.nil ⟨rfl, rfl⟩
  refine WL.nil ?_
  refine thnN ?_
  refine WP.seq ?_
  refine WP.regionD [] [0, 0, 0, 0, 0, 0, 0, 2, 0] [(0, 1, [2, 3, 4, 5, 7, 8]), (1, 0, [2, 3, 4, 5, 7, 8]), (2, 1, [3, 4, 5, 7, 8]), (3, 0, [4, 5, 7, 8]), (4, 0, [7, 8]), (5, 0, [8]), (6, 3, []), (7, 3, []), (8, 0, [])] mx_ (by kernel_rfl) (by simp) ?_
  apply WL.read
  · rfl
  · rfl
  · skip
    first | refine WO.loadAll rfl ag_23 (by first | exact in0 | exact in1 | exact in2 | exact in3 | exact in4 | exact in5 | exact in6) rfl rfl ?_ | refine WO.loadAgg rfl ag_23 (by first | exact in0 | exact in1 | exact in2 | exact in3 | exact in4 | exact in5 | exact in6) rfl rfl rfl ?_
    exact WO.nil ⟨rfl, rfl⟩
  apply WL.pure
  · rfl
  · rfl
  · skip
    refine WO.callP (s_w21_conf) rfl ca_13 rfl ?_
    exact WO.nil ⟨rfl, rfl⟩
  apply WL.read
  · rfl
  · rfl
  · skip
    first | refine WO.callR 0 rfl (s_lease_Take hG (E1 pr) 13 c0 ?_ ?_) rfl ca_14 rfl ?_ | refine WO.callR 1 rfl (s_lease_Take hG (E1 pr) 13 c0 ?_ ?_) rfl ca_14 rfl ?_ | refine WO.callR 2 rfl (s_lease_Take hG (E1 pr) 13 c0 ?_ ?_) rfl ca_14 rfl ?_ | refine WO.callR 3 rfl (s_lease_Take hG (E1 pr) 13 c0 ?_ ?_) rfl ca_14 rfl ?_ | refine WO.callR 4 rfl (s_lease_Take hG (E1 pr) 13 c0 ?_ ?_) rfl ca_14 rfl ?_ | refine WO.callR 5 rfl (s_lease_Take hG (E1 pr) 13 c0 ?_ ?_) rfl ca_14 rfl ?_ | refine WO.callR 6 rfl (s_lease_Take hG (E1 pr) 13 c0 ?_ ?_) rfl ca_14 rfl ?_ | refine WO.callR 7 rfl (s_lease_Take hG (E1 pr) 13 c0 ?_ ?_) rfl ca_14 rfl ?_
    · first | exact sz1 _ | exact sz2 _ | exact tk1 _
    · first | exact sz1 _ | exact sz2 _ | exact tk1 _
    rintro _ rfl
    exact WO.nil ⟨rfl, rfl⟩
  rw [awk3 hpr]
  apply WL.pure
  · rfl
  · rfl
  · skip
    refine WO.move rfl rfl ?_
    exact WO.nil ⟨rfl, rfl⟩
  apply WL.pure
  · rfl
  · rfl
  · skip
    refine WO.extract rfl rfl rfl ?_
    exact WO.nil ⟨rfl, rfl⟩
  apply WL.pure
  · rfl
  · rfl
  · skip
    refine WO.extract rfl rfl rfl ?_
    exact WO.nil ⟨rfl, rfl⟩
  refine WL.effG rfl (by simp) ?_
  refine WO.alloc zo_23 rfl (fun b2 => ?_)
  refine WO.nil (capN ⟨(by first | exact ⟨[], rfl⟩ | exact ⟨[_], rfl⟩), ?_⟩)
  refine WL.eff rfl rfl ?_
  first | refine WO.storeAll 0 rfl rfl rfl rfl ag_23 rfl (by rfl) ?_ | refine WO.storeAll 1 rfl rfl rfl rfl ag_23 rfl (by rfl) ?_ | refine WO.storeAll 2 rfl rfl rfl rfl ag_23 rfl (by rfl) ?_ | refine WO.storeAll 3 rfl rfl rfl rfl ag_23 rfl (by rfl) ?_ | refine WO.storeAll 4 rfl rfl rfl rfl ag_23 rfl (by rfl) ?_ | refine WO.storeAll 5 rfl rfl rfl rfl ag_23 rfl (by rfl) ?_ | refine WO.storeAgg 0 rfl rfl rfl rfl ag_23 rfl (by simp [ints, Value.oneCell']) (Nat.le_of_ble_eq_true rfl) _ rfl ?_ | refine WO.storeAgg 1 rfl rfl rfl rfl ag_23 rfl (by simp [ints, Value.oneCell']) (Nat.le_of_ble_eq_true rfl) _ rfl ?_ | refine WO.storeAgg 2 rfl rfl rfl rfl ag_23 rfl (by simp [ints, Value.oneCell']) (Nat.le_of_ble_eq_true rfl) _ rfl ?_
  refine WO.nil (capN ?_)
  apply WL.pure
  · rfl
  · rfl
  · skip
    refine WO.assign rfl rfl ?_
    exact WO.nil ⟨rfl, rfl⟩
  refine WL.nil ?_
  refine thnN ?_
  refine WP.seq ?_
  refine WP.regionD [] [0, 0, 0, 0, 0, 0, 0, 2, 0] [(0, 1, [2, 3, 4, 5, 7, 8]), (1, 0, [2, 3, 4, 5, 7, 8]), (2, 1, [3, 4, 5, 7, 8]), (3, 0, [4, 5, 7, 8]), (4, 0, [7, 8]), (5, 0, [8]), (6, 3, []), (7, 3, []), (8, 0, [])] mx_ (by kernel_rfl) (by simp) ?_
  apply WL.read
  · rfl
  · rfl
  · skip
    first | refine WO.loadAll rfl ag_23 (by first | exact in0 | exact in1 | exact in2 | exact in3 | exact in4 | exact in5 | exact in6) rfl rfl ?_ | refine WO.loadAgg rfl ag_23 (by first | exact in0 | exact in1 | exact in2 | exact in3 | exact in4 | exact in5 | exact in6) rfl rfl rfl ?_
    exact WO.nil ⟨rfl, rfl⟩
  apply WL.pure
  · rfl
  · rfl
  · skip
    refine WO.callP (s_w21_conf) rfl ca_13 rfl ?_
    exact WO.nil ⟨rfl, rfl⟩
  apply WL.read
  · rfl
  · rfl
  · skip
    first | refine WO.callR 0 rfl (s_lease_Finish hG (E2 pr) 2 200 [111, 107] 14 c0 ?_) rfl ca_15 rfl ?_ | refine WO.callR 1 rfl (s_lease_Finish hG (E2 pr) 2 200 [111, 107] 14 c0 ?_) rfl ca_15 rfl ?_ | refine WO.callR 2 rfl (s_lease_Finish hG (E2 pr) 2 200 [111, 107] 14 c0 ?_) rfl ca_15 rfl ?_ | refine WO.callR 3 rfl (s_lease_Finish hG (E2 pr) 2 200 [111, 107] 14 c0 ?_) rfl ca_15 rfl ?_ | refine WO.callR 4 rfl (s_lease_Finish hG (E2 pr) 2 200 [111, 107] 14 c0 ?_) rfl ca_15 rfl ?_ | refine WO.callR 5 rfl (s_lease_Finish hG (E2 pr) 2 200 [111, 107] 14 c0 ?_) rfl ca_15 rfl ?_ | refine WO.callR 6 rfl (s_lease_Finish hG (E2 pr) 2 200 [111, 107] 14 c0 ?_) rfl ca_15 rfl ?_ | refine WO.callR 7 rfl (s_lease_Finish hG (E2 pr) 2 200 [111, 107] 14 c0 ?_) rfl ca_15 rfl ?_
    · first | exact sz1 _ | exact sz2 _ | exact tk1 _
    rintro _ rfl
    exact WO.nil ⟨rfl, rfl⟩
  rw [awk4 hpr]
  apply WL.pure
  · rfl
  · rfl
  · skip
    refine WO.move rfl rfl ?_
    exact WO.nil ⟨rfl, rfl⟩
  apply WL.pure
  · rfl
  · rfl
  · skip
    refine WO.extract rfl rfl rfl ?_
    exact WO.nil ⟨rfl, rfl⟩
  apply WL.pure
  · rfl
  · rfl
  · skip
    refine WO.extract rfl rfl rfl ?_
    exact WO.nil ⟨rfl, rfl⟩
  refine WL.effG rfl (by simp) ?_
  refine WO.alloc zo_23 rfl (fun b3 => ?_)
  refine WO.nil (capN ⟨(by first | exact ⟨[], rfl⟩ | exact ⟨[_], rfl⟩), ?_⟩)
  refine WL.eff rfl rfl ?_
  first | refine WO.storeAll 0 rfl rfl rfl rfl ag_23 rfl (by rfl) ?_ | refine WO.storeAll 1 rfl rfl rfl rfl ag_23 rfl (by rfl) ?_ | refine WO.storeAll 2 rfl rfl rfl rfl ag_23 rfl (by rfl) ?_ | refine WO.storeAll 3 rfl rfl rfl rfl ag_23 rfl (by rfl) ?_ | refine WO.storeAll 4 rfl rfl rfl rfl ag_23 rfl (by rfl) ?_ | refine WO.storeAll 5 rfl rfl rfl rfl ag_23 rfl (by rfl) ?_ | refine WO.storeAgg 0 rfl rfl rfl rfl ag_23 rfl (by simp [ints, Value.oneCell']) (Nat.le_of_ble_eq_true rfl) _ rfl ?_ | refine WO.storeAgg 1 rfl rfl rfl rfl ag_23 rfl (by simp [ints, Value.oneCell']) (Nat.le_of_ble_eq_true rfl) _ rfl ?_ | refine WO.storeAgg 2 rfl rfl rfl rfl ag_23 rfl (by simp [ints, Value.oneCell']) (Nat.le_of_ble_eq_true rfl) _ rfl ?_
  refine WO.nil (capN ?_)
  apply WL.pure
  · rfl
  · rfl
  · skip
    refine WO.assign rfl rfl ?_
    exact WO.nil ⟨rfl, rfl⟩
  refine WL.nil ?_
  refine thnN ?_
  refine WP.seq ?_
  refine WP.region ?_
  refine WO.move rfl rfl ?_
  refine WO.eqlI rfl rfl rfl ?_
  refine WO.move rfl rfl ?_
  refine WO.split 35 rfl (fun h1 => ?_) (fun h2 => ?_)
  · try simp only [decide_eq_true_eq, decide_eq_false_iff_not, beq_iff_eq, beq_eq_false_iff_ne, bne_iff_ne, bne_eq_false_iff_eq, Bool.not_eq_true', Bool.not_eq_false', Int.not_lt, Int.not_le, ne_eq] at h1
    refine WO.want 35 rfl rfl ?_
    refine WO.move rfl rfl ?_
    refine WO.want 35 rfl rfl ?_
    refine WO.eqlI rfl rfl rfl ?_
    refine WO.pickT rfl rfl rfl ?_
    refine WO.move rfl rfl ?_
    refine WO.split 39 rfl (fun h3 => ?_) (fun h4 => ?_)
    · try simp only [decide_eq_true_eq, decide_eq_false_iff_not, beq_iff_eq, beq_eq_false_iff_ne, bne_iff_ne, bne_eq_false_iff_eq, Bool.not_eq_true', Bool.not_eq_false', Int.not_lt, Int.not_le, ne_eq] at h3
      refine WO.want 39 rfl rfl ?_
      refine WO.move rfl rfl ?_
      refine WO.want 39 rfl rfl ?_
      refine WO.eqlI rfl rfl rfl ?_
      refine WO.pickT rfl rfl rfl ?_
      refine WO.move rfl rfl ?_
      refine WO.split 43 rfl (fun h5 => ?_) (fun h6 => ?_)
      · try simp only [decide_eq_true_eq, decide_eq_false_iff_not, beq_iff_eq, beq_eq_false_iff_ne, bne_iff_ne, bne_eq_false_iff_eq, Bool.not_eq_true', Bool.not_eq_false', Int.not_lt, Int.not_le, ne_eq] at h5
        refine WO.want 43 rfl rfl ?_
        refine WO.move rfl rfl ?_
        refine WO.want 43 rfl rfl ?_
        refine WO.eqlI rfl rfl rfl ?_
        refine WO.pickT rfl rfl rfl ?_
        refine WO.move rfl rfl ?_
        refine WO.split 47 rfl (fun h7 => ?_) (fun h8 => ?_)
        · try simp only [decide_eq_true_eq, decide_eq_false_iff_not, beq_iff_eq, beq_eq_false_iff_ne, bne_iff_ne, bne_eq_false_iff_eq, Bool.not_eq_true', Bool.not_eq_false', Int.not_lt, Int.not_le, ne_eq] at h7
          refine WO.want 47 rfl rfl ?_
          refine WO.fieldAddr rfl fo_23_7 rfl ?_
          refine WO.want 47 rfl rfl ?_
          refine WO.load rfl sc_3 (by first | exact in0 | exact in1 | exact in2 | exact in3 | exact in4 | exact in5 | exact in6) rfl rfl ?_
          refine WO.want 47 rfl rfl ?_
          refine WO.eqlI rfl rfl rfl ?_
          refine WO.pickT rfl rfl rfl ?_
          refine WO.move rfl rfl ?_
          refine WO.split 52 rfl (fun h9 => ?_) (fun h10 => ?_)
          · try simp only [decide_eq_true_eq, decide_eq_false_iff_not, beq_iff_eq, beq_eq_false_iff_ne, bne_iff_ne, bne_eq_false_iff_eq, Bool.not_eq_true', Bool.not_eq_false', Int.not_lt, Int.not_le, ne_eq] at h9
            refine WO.want 52 rfl rfl ?_
            refine WO.fieldAddr rfl fo_23_8 rfl ?_
            refine WO.want 52 rfl rfl ?_
            refine WO.load rfl sc_3 (by first | exact in0 | exact in1 | exact in2 | exact in3 | exact in4 | exact in5 | exact in6) rfl rfl ?_
            refine WO.want 52 rfl rfl ?_
            refine WO.eqlI rfl rfl rfl ?_
            refine WO.pickT rfl rfl rfl ?_
            refine WO.move rfl rfl ?_
            refine WO.split 57 rfl (fun h11 => ?_) (fun h12 => ?_)
            · try simp only [decide_eq_true_eq, decide_eq_false_iff_not, beq_iff_eq, beq_eq_false_iff_ne, bne_iff_ne, bne_eq_false_iff_eq, Bool.not_eq_true', Bool.not_eq_false', Int.not_lt, Int.not_le, ne_eq] at h11
              refine WO.want 57 rfl rfl ?_
              refine WO.fieldAddr rfl fo_23_4 rfl ?_
              refine WO.want 57 rfl rfl ?_
              refine WO.load rfl sc_3 (by first | exact in0 | exact in1 | exact in2 | exact in3 | exact in4 | exact in5 | exact in6) rfl rfl ?_
              refine WO.want 57 rfl rfl ?_
              refine WO.eqlI rfl rfl rfl ?_
              refine WO.pickT rfl rfl rfl ?_
              refine WO.move rfl rfl ?_
              refine WO.split 62 rfl (fun h13 => ?_) (fun h14 => ?_)
              · try simp only [decide_eq_true_eq, decide_eq_false_iff_not, beq_iff_eq, beq_eq_false_iff_ne, bne_iff_ne, bne_eq_false_iff_eq, Bool.not_eq_true', Bool.not_eq_false', Int.not_lt, Int.not_le, ne_eq] at h13
                refine WO.want 62 rfl rfl ?_
                refine WO.fieldAddr rfl fo_23_2 rfl ?_
                refine WO.want 62 rfl rfl ?_
                refine WO.load rfl sc_3 (by first | exact in0 | exact in1 | exact in2 | exact in3 | exact in4 | exact in5 | exact in6) rfl rfl ?_
                refine WO.want 62 rfl rfl ?_
                refine WO.eqlI rfl rfl rfl ?_
                refine WO.pickT rfl rfl rfl ?_
                refine WO.move rfl rfl ?_
                refine WO.split 67 rfl (fun h15 => ?_) (fun h16 => ?_)
                · try simp only [decide_eq_true_eq, decide_eq_false_iff_not, beq_iff_eq, beq_eq_false_iff_ne, bne_iff_ne, bne_eq_false_iff_eq, Bool.not_eq_true', Bool.not_eq_false', Int.not_lt, Int.not_le, ne_eq] at h15
                  refine WO.want 67 rfl rfl ?_
                  refine WO.fieldAddr rfl fo_23_8 rfl ?_
                  refine WO.want 67 rfl rfl ?_
                  refine WO.load rfl sc_3 (by first | exact in0 | exact in1 | exact in2 | exact in3 | exact in4 | exact in5 | exact in6) rfl rfl ?_
                  refine WO.want 67 rfl rfl ?_
                  refine WO.eqlI rfl rfl rfl ?_
                  refine WO.pickT rfl rfl rfl ?_
                  refine WO.move rfl rfl ?_
                  refine WO.split 72 rfl (fun h17 => ?_) (fun h18 => ?_)
                  · try simp only [decide_eq_true_eq, decide_eq_false_iff_not, beq_iff_eq, beq_eq_false_iff_ne, bne_iff_ne, bne_eq_false_iff_eq, Bool.not_eq_true', Bool.not_eq_false', Int.not_lt, Int.not_le, ne_eq] at h17
                    refine WO.want 72 rfl rfl ?_
                    first | refine WO.loadAll rfl ag_23 (by first | exact in0 | exact in1 | exact in2 | exact in3 | exact in4 | exact in5 | exact in6) rfl rfl ?_ | refine WO.loadAgg rfl ag_23 (by first | exact in0 | exact in1 | exact in2 | exact in3 | exact in4 | exact in5 | exact in6) rfl rfl rfl ?_
                    refine WO.want 72 rfl rfl ?_
                    refine WO.fieldAddr rfl fo_23_6 rfl ?_
                    refine WO.want 72 rfl rfl ?_
                    refine WO.load rfl sc_9 (by first | exact in0 | exact in1 | exact in2 | exact in3 | exact in4 | exact in5 | exact in6) rfl rfl ?_
                    refine WO.want 72 rfl rfl ?_
                    refine WO.callP (s_lease_Verdict (E3 pr) pr 14) rfl ca_6 rfl ?_
                    rw [awk5 pr]
                    refine WO.want 72 rfl rfl ?_
                    refine WO.eqlI rfl rfl rfl ?_
                    refine WO.pickT rfl rfl rfl ?_
                    refine WO.assign rfl rfl ?_
                    refine WO.nil ?_
                    refine thnN ?_
                    refine WP.ret ?_
                    refine ⟨_, [G], (Res.one rfl), (by first | exact Imp.refl _ | exact Imp.pick 0 rfl | exact Imp.pick 1 rfl | exact Imp.pick 2 rfl | exact Imp.pick 3 rfl | exact Imp.pick 4 rfl | exact Imp.pick 5 rfl | exact Imp.pick 6 rfl), ?_⟩
                    refine ⟨?_, rfl⟩
                    first | rfl | (exfalso; simp_all [E1, E2, E3]; done)
                  · try simp only [decide_eq_true_eq, decide_eq_false_iff_not, beq_iff_eq, beq_eq_false_iff_ne, bne_iff_ne, bne_eq_false_iff_eq, Bool.not_eq_true', Bool.not_eq_false', Int.not_lt, Int.not_le, ne_eq] at h18
                    refine WO.pass 72 rfl rfl rfl rfl ?_
                    refine WO.pass 72 rfl rfl rfl rfl ?_
                    refine WO.pass 72 rfl rfl rfl rfl ?_
                    refine WO.pass 72 rfl rfl rfl rfl ?_
                    refine WO.pass 72 rfl rfl rfl rfl ?_
                    refine WO.pickF rfl rfl rfl ?_
                    refine WO.assign rfl rfl ?_
                    refine WO.nil ?_
                    refine thnN ?_
                    refine WP.ret ?_
                    refine ⟨_, [G], (Res.one rfl), (by first | exact Imp.refl _ | exact Imp.pick 0 rfl | exact Imp.pick 1 rfl | exact Imp.pick 2 rfl | exact Imp.pick 3 rfl | exact Imp.pick 4 rfl | exact Imp.pick 5 rfl | exact Imp.pick 6 rfl), ?_⟩
                    refine ⟨?_, rfl⟩
                    first | rfl | (exfalso; simp_all [E1, E2, E3]; done)
                · try simp only [decide_eq_true_eq, decide_eq_false_iff_not, beq_iff_eq, beq_eq_false_iff_ne, bne_iff_ne, bne_eq_false_iff_eq, Bool.not_eq_true', Bool.not_eq_false', Int.not_lt, Int.not_le, ne_eq] at h16
                  refine WO.pass 67 rfl rfl rfl rfl ?_
                  refine WO.pass 67 rfl rfl rfl rfl ?_
                  refine WO.pass 67 rfl rfl rfl rfl ?_
                  refine WO.pickF rfl rfl rfl ?_
                  refine WO.move rfl rfl ?_
                  refine WO.pass 72 rfl rfl rfl rfl ?_
                  refine WO.pass 72 rfl rfl rfl rfl ?_
                  refine WO.pass 72 rfl rfl rfl rfl ?_
                  refine WO.pass 72 rfl rfl rfl rfl ?_
                  refine WO.pass 72 rfl rfl rfl rfl ?_
                  refine WO.pickF rfl rfl rfl ?_
                  refine WO.assign rfl rfl ?_
                  refine WO.nil ?_
                  refine thnN ?_
                  refine WP.ret ?_
                  refine ⟨_, [G], (Res.one rfl), (by first | exact Imp.refl _ | exact Imp.pick 0 rfl | exact Imp.pick 1 rfl | exact Imp.pick 2 rfl | exact Imp.pick 3 rfl | exact Imp.pick 4 rfl | exact Imp.pick 5 rfl | exact Imp.pick 6 rfl), ?_⟩
                  refine ⟨?_, rfl⟩
                  first | rfl | (exfalso; simp_all [E1, E2, E3]; done)
              · try simp only [decide_eq_true_eq, decide_eq_false_iff_not, beq_iff_eq, beq_eq_false_iff_ne, bne_iff_ne, bne_eq_false_iff_eq, Bool.not_eq_true', Bool.not_eq_false', Int.not_lt, Int.not_le, ne_eq] at h14
                refine WO.pass 62 rfl rfl rfl rfl ?_
                refine WO.pass 62 rfl rfl rfl rfl ?_
                refine WO.pass 62 rfl rfl rfl rfl ?_
                refine WO.pickF rfl rfl rfl ?_
                refine WO.move rfl rfl ?_
                refine WO.pass 67 rfl rfl rfl rfl ?_
                refine WO.pass 67 rfl rfl rfl rfl ?_
                refine WO.pass 67 rfl rfl rfl rfl ?_
                refine WO.pickF rfl rfl rfl ?_
                refine WO.move rfl rfl ?_
                refine WO.pass 72 rfl rfl rfl rfl ?_
                refine WO.pass 72 rfl rfl rfl rfl ?_
                refine WO.pass 72 rfl rfl rfl rfl ?_
                refine WO.pass 72 rfl rfl rfl rfl ?_
                refine WO.pass 72 rfl rfl rfl rfl ?_
                refine WO.pickF rfl rfl rfl ?_
                refine WO.assign rfl rfl ?_
                refine WO.nil ?_
                refine thnN ?_
                refine WP.ret ?_
                refine ⟨_, [G], (Res.one rfl), (by first | exact Imp.refl _ | exact Imp.pick 0 rfl | exact Imp.pick 1 rfl | exact Imp.pick 2 rfl | exact Imp.pick 3 rfl | exact Imp.pick 4 rfl | exact Imp.pick 5 rfl | exact Imp.pick 6 rfl), ?_⟩
                refine ⟨?_, rfl⟩
                first | rfl | (exfalso; simp_all [E1, E2, E3]; done)
            · try simp only [decide_eq_true_eq, decide_eq_false_iff_not, beq_iff_eq, beq_eq_false_iff_ne, bne_iff_ne, bne_eq_false_iff_eq, Bool.not_eq_true', Bool.not_eq_false', Int.not_lt, Int.not_le, ne_eq] at h12
              refine WO.pass 57 rfl rfl rfl rfl ?_
              refine WO.pass 57 rfl rfl rfl rfl ?_
              refine WO.pass 57 rfl rfl rfl rfl ?_
              refine WO.pickF rfl rfl rfl ?_
              refine WO.move rfl rfl ?_
              refine WO.pass 62 rfl rfl rfl rfl ?_
              refine WO.pass 62 rfl rfl rfl rfl ?_
              refine WO.pass 62 rfl rfl rfl rfl ?_
              refine WO.pickF rfl rfl rfl ?_
              refine WO.move rfl rfl ?_
              refine WO.pass 67 rfl rfl rfl rfl ?_
              refine WO.pass 67 rfl rfl rfl rfl ?_
              refine WO.pass 67 rfl rfl rfl rfl ?_
              refine WO.pickF rfl rfl rfl ?_
              refine WO.move rfl rfl ?_
              refine WO.pass 72 rfl rfl rfl rfl ?_
              refine WO.pass 72 rfl rfl rfl rfl ?_
              refine WO.pass 72 rfl rfl rfl rfl ?_
              refine WO.pass 72 rfl rfl rfl rfl ?_
              refine WO.pass 72 rfl rfl rfl rfl ?_
              refine WO.pickF rfl rfl rfl ?_
              refine WO.assign rfl rfl ?_
              refine WO.nil ?_
              refine thnN ?_
              refine WP.ret ?_
              refine ⟨_, [G], (Res.one rfl), (by first | exact Imp.refl _ | exact Imp.pick 0 rfl | exact Imp.pick 1 rfl | exact Imp.pick 2 rfl | exact Imp.pick 3 rfl | exact Imp.pick 4 rfl | exact Imp.pick 5 rfl | exact Imp.pick 6 rfl), ?_⟩
              refine ⟨?_, rfl⟩
              first | rfl | (exfalso; simp_all [E1, E2, E3]; done)
          · try simp only [decide_eq_true_eq, decide_eq_false_iff_not, beq_iff_eq, beq_eq_false_iff_ne, bne_iff_ne, bne_eq_false_iff_eq, Bool.not_eq_true', Bool.not_eq_false', Int.not_lt, Int.not_le, ne_eq] at h10
            refine WO.pass 52 rfl rfl rfl rfl ?_
            refine WO.pass 52 rfl rfl rfl rfl ?_
            refine WO.pass 52 rfl rfl rfl rfl ?_
            refine WO.pickF rfl rfl rfl ?_
            refine WO.move rfl rfl ?_
            refine WO.pass 57 rfl rfl rfl rfl ?_
            refine WO.pass 57 rfl rfl rfl rfl ?_
            refine WO.pass 57 rfl rfl rfl rfl ?_
            refine WO.pickF rfl rfl rfl ?_
            refine WO.move rfl rfl ?_
            refine WO.pass 62 rfl rfl rfl rfl ?_
            refine WO.pass 62 rfl rfl rfl rfl ?_
            refine WO.pass 62 rfl rfl rfl rfl ?_
            refine WO.pickF rfl rfl rfl ?_
            refine WO.move rfl rfl ?_
            refine WO.pass 67 rfl rfl rfl rfl ?_
            refine WO.pass 67 rfl rfl rfl rfl ?_
            refine WO.pass 67 rfl rfl rfl rfl ?_
            refine WO.pickF rfl rfl rfl ?_
            refine WO.move rfl rfl ?_
            refine WO.pass 72 rfl rfl rfl rfl ?_
            refine WO.pass 72 rfl rfl rfl rfl ?_
            refine WO.pass 72 rfl rfl rfl rfl ?_
            refine WO.pass 72 rfl rfl rfl rfl ?_
            refine WO.pass 72 rfl rfl rfl rfl ?_
            refine WO.pickF rfl rfl rfl ?_
            refine WO.assign rfl rfl ?_
            refine WO.nil ?_
            refine thnN ?_
            refine WP.ret ?_
            refine ⟨_, [G], (Res.one rfl), (by first | exact Imp.refl _ | exact Imp.pick 0 rfl | exact Imp.pick 1 rfl | exact Imp.pick 2 rfl | exact Imp.pick 3 rfl | exact Imp.pick 4 rfl | exact Imp.pick 5 rfl | exact Imp.pick 6 rfl), ?_⟩
            refine ⟨?_, rfl⟩
            first | rfl | (exfalso; simp_all [E1, E2, E3]; done)
        · try simp only [decide_eq_true_eq, decide_eq_false_iff_not, beq_iff_eq, beq_eq_false_iff_ne, bne_iff_ne, bne_eq_false_iff_eq, Bool.not_eq_true', Bool.not_eq_false', Int.not_lt, Int.not_le, ne_eq] at h8
          refine WO.pass 47 rfl rfl rfl rfl ?_
          refine WO.pass 47 rfl rfl rfl rfl ?_
          refine WO.pass 47 rfl rfl rfl rfl ?_
          refine WO.pickF rfl rfl rfl ?_
          refine WO.move rfl rfl ?_
          refine WO.pass 52 rfl rfl rfl rfl ?_
          refine WO.pass 52 rfl rfl rfl rfl ?_
          refine WO.pass 52 rfl rfl rfl rfl ?_
          refine WO.pickF rfl rfl rfl ?_
          refine WO.move rfl rfl ?_
          refine WO.pass 57 rfl rfl rfl rfl ?_
          refine WO.pass 57 rfl rfl rfl rfl ?_
          refine WO.pass 57 rfl rfl rfl rfl ?_
          refine WO.pickF rfl rfl rfl ?_
          refine WO.move rfl rfl ?_
          refine WO.pass 62 rfl rfl rfl rfl ?_
          refine WO.pass 62 rfl rfl rfl rfl ?_
          refine WO.pass 62 rfl rfl rfl rfl ?_
          refine WO.pickF rfl rfl rfl ?_
          refine WO.move rfl rfl ?_
          refine WO.pass 67 rfl rfl rfl rfl ?_
          refine WO.pass 67 rfl rfl rfl rfl ?_
          refine WO.pass 67 rfl rfl rfl rfl ?_
          refine WO.pickF rfl rfl rfl ?_
          refine WO.move rfl rfl ?_
          refine WO.pass 72 rfl rfl rfl rfl ?_
          refine WO.pass 72 rfl rfl rfl rfl ?_
          refine WO.pass 72 rfl rfl rfl rfl ?_
          refine WO.pass 72 rfl rfl rfl rfl ?_
          refine WO.pass 72 rfl rfl rfl rfl ?_
          refine WO.pickF rfl rfl rfl ?_
          refine WO.assign rfl rfl ?_
          refine WO.nil ?_
          refine thnN ?_
          refine WP.ret ?_
          refine ⟨_, [G], (Res.one rfl), (by first | exact Imp.refl _ | exact Imp.pick 0 rfl | exact Imp.pick 1 rfl | exact Imp.pick 2 rfl | exact Imp.pick 3 rfl | exact Imp.pick 4 rfl | exact Imp.pick 5 rfl | exact Imp.pick 6 rfl), ?_⟩
          refine ⟨?_, rfl⟩
          first | rfl | (exfalso; simp_all [E1, E2, E3]; done)
      · try simp only [decide_eq_true_eq, decide_eq_false_iff_not, beq_iff_eq, beq_eq_false_iff_ne, bne_iff_ne, bne_eq_false_iff_eq, Bool.not_eq_true', Bool.not_eq_false', Int.not_lt, Int.not_le, ne_eq] at h6
        refine WO.pass 43 rfl rfl rfl rfl ?_
        refine WO.pass 43 rfl rfl rfl rfl ?_
        refine WO.pickF rfl rfl rfl ?_
        refine WO.move rfl rfl ?_
        refine WO.pass 47 rfl rfl rfl rfl ?_
        refine WO.pass 47 rfl rfl rfl rfl ?_
        refine WO.pass 47 rfl rfl rfl rfl ?_
        refine WO.pickF rfl rfl rfl ?_
        refine WO.move rfl rfl ?_
        refine WO.pass 52 rfl rfl rfl rfl ?_
        refine WO.pass 52 rfl rfl rfl rfl ?_
        refine WO.pass 52 rfl rfl rfl rfl ?_
        refine WO.pickF rfl rfl rfl ?_
        refine WO.move rfl rfl ?_
        refine WO.pass 57 rfl rfl rfl rfl ?_
        refine WO.pass 57 rfl rfl rfl rfl ?_
        refine WO.pass 57 rfl rfl rfl rfl ?_
        refine WO.pickF rfl rfl rfl ?_
        refine WO.move rfl rfl ?_
        refine WO.pass 62 rfl rfl rfl rfl ?_
        refine WO.pass 62 rfl rfl rfl rfl ?_
        refine WO.pass 62 rfl rfl rfl rfl ?_
        refine WO.pickF rfl rfl rfl ?_
        refine WO.move rfl rfl ?_
        refine WO.pass 67 rfl rfl rfl rfl ?_
        refine WO.pass 67 rfl rfl rfl rfl ?_
        refine WO.pass 67 rfl rfl rfl rfl ?_
        refine WO.pickF rfl rfl rfl ?_
        refine WO.move rfl rfl ?_
        refine WO.pass 72 rfl rfl rfl rfl ?_
        refine WO.pass 72 rfl rfl rfl rfl ?_
        refine WO.pass 72 rfl rfl rfl rfl ?_
        refine WO.pass 72 rfl rfl rfl rfl ?_
        refine WO.pass 72 rfl rfl rfl rfl ?_
        refine WO.pickF rfl rfl rfl ?_
        refine WO.assign rfl rfl ?_
        refine WO.nil ?_
        refine thnN ?_
        refine WP.ret ?_
        refine ⟨_, [G], (Res.one rfl), (by first | exact Imp.refl _ | exact Imp.pick 0 rfl | exact Imp.pick 1 rfl | exact Imp.pick 2 rfl | exact Imp.pick 3 rfl | exact Imp.pick 4 rfl | exact Imp.pick 5 rfl | exact Imp.pick 6 rfl), ?_⟩
        refine ⟨?_, rfl⟩
        first | rfl | (exfalso; simp_all [E1, E2, E3]; done)
    · try simp only [decide_eq_true_eq, decide_eq_false_iff_not, beq_iff_eq, beq_eq_false_iff_ne, bne_iff_ne, bne_eq_false_iff_eq, Bool.not_eq_true', Bool.not_eq_false', Int.not_lt, Int.not_le, ne_eq] at h4
      refine WO.pass 39 rfl rfl rfl rfl ?_
      refine WO.pass 39 rfl rfl rfl rfl ?_
      refine WO.pickF rfl rfl rfl ?_
      refine WO.move rfl rfl ?_
      refine WO.pass 43 rfl rfl rfl rfl ?_
      refine WO.pass 43 rfl rfl rfl rfl ?_
      refine WO.pickF rfl rfl rfl ?_
      refine WO.move rfl rfl ?_
      refine WO.pass 47 rfl rfl rfl rfl ?_
      refine WO.pass 47 rfl rfl rfl rfl ?_
      refine WO.pass 47 rfl rfl rfl rfl ?_
      refine WO.pickF rfl rfl rfl ?_
      refine WO.move rfl rfl ?_
      refine WO.pass 52 rfl rfl rfl rfl ?_
      refine WO.pass 52 rfl rfl rfl rfl ?_
      refine WO.pass 52 rfl rfl rfl rfl ?_
      refine WO.pickF rfl rfl rfl ?_
      refine WO.move rfl rfl ?_
      refine WO.pass 57 rfl rfl rfl rfl ?_
      refine WO.pass 57 rfl rfl rfl rfl ?_
      refine WO.pass 57 rfl rfl rfl rfl ?_
      refine WO.pickF rfl rfl rfl ?_
      refine WO.move rfl rfl ?_
      refine WO.pass 62 rfl rfl rfl rfl ?_
      refine WO.pass 62 rfl rfl rfl rfl ?_
      refine WO.pass 62 rfl rfl rfl rfl ?_
      refine WO.pickF rfl rfl rfl ?_
      refine WO.move rfl rfl ?_
      refine WO.pass 67 rfl rfl rfl rfl ?_
      refine WO.pass 67 rfl rfl rfl rfl ?_
      refine WO.pass 67 rfl rfl rfl rfl ?_
      refine WO.pickF rfl rfl rfl ?_
      refine WO.move rfl rfl ?_
      refine WO.pass 72 rfl rfl rfl rfl ?_
      refine WO.pass 72 rfl rfl rfl rfl ?_
      refine WO.pass 72 rfl rfl rfl rfl ?_
      refine WO.pass 72 rfl rfl rfl rfl ?_
      refine WO.pass 72 rfl rfl rfl rfl ?_
      refine WO.pickF rfl rfl rfl ?_
      refine WO.assign rfl rfl ?_
      refine WO.nil ?_
      refine thnN ?_
      refine WP.ret ?_
      refine ⟨_, [G], (Res.one rfl), (by first | exact Imp.refl _ | exact Imp.pick 0 rfl | exact Imp.pick 1 rfl | exact Imp.pick 2 rfl | exact Imp.pick 3 rfl | exact Imp.pick 4 rfl | exact Imp.pick 5 rfl | exact Imp.pick 6 rfl), ?_⟩
      refine ⟨?_, rfl⟩
      first | rfl | (exfalso; simp_all [E1, E2, E3]; done)
  · try simp only [decide_eq_true_eq, decide_eq_false_iff_not, beq_iff_eq, beq_eq_false_iff_ne, bne_iff_ne, bne_eq_false_iff_eq, Bool.not_eq_true', Bool.not_eq_false', Int.not_lt, Int.not_le, ne_eq] at h2
    refine WO.pass 35 rfl rfl rfl rfl ?_
    refine WO.pass 35 rfl rfl rfl rfl ?_
    refine WO.pickF rfl rfl rfl ?_
    refine WO.move rfl rfl ?_
    refine WO.pass 39 rfl rfl rfl rfl ?_
    refine WO.pass 39 rfl rfl rfl rfl ?_
    refine WO.pickF rfl rfl rfl ?_
    refine WO.move rfl rfl ?_
    refine WO.pass 43 rfl rfl rfl rfl ?_
    refine WO.pass 43 rfl rfl rfl rfl ?_
    refine WO.pickF rfl rfl rfl ?_
    refine WO.move rfl rfl ?_
    refine WO.pass 47 rfl rfl rfl rfl ?_
    refine WO.pass 47 rfl rfl rfl rfl ?_
    refine WO.pass 47 rfl rfl rfl rfl ?_
    refine WO.pickF rfl rfl rfl ?_
    refine WO.move rfl rfl ?_
    refine WO.pass 52 rfl rfl rfl rfl ?_
    refine WO.pass 52 rfl rfl rfl rfl ?_
    refine WO.pass 52 rfl rfl rfl rfl ?_
    refine WO.pickF rfl rfl rfl ?_
    refine WO.move rfl rfl ?_
    refine WO.pass 57 rfl rfl rfl rfl ?_
    refine WO.pass 57 rfl rfl rfl rfl ?_
    refine WO.pass 57 rfl rfl rfl rfl ?_
    refine WO.pickF rfl rfl rfl ?_
    refine WO.move rfl rfl ?_
    refine WO.pass 62 rfl rfl rfl rfl ?_
    refine WO.pass 62 rfl rfl rfl rfl ?_
    refine WO.pass 62 rfl rfl rfl rfl ?_
    refine WO.pickF rfl rfl rfl ?_
    refine WO.move rfl rfl ?_
    refine WO.pass 67 rfl rfl rfl rfl ?_
    refine WO.pass 67 rfl rfl rfl rfl ?_
    refine WO.pass 67 rfl rfl rfl rfl ?_
    refine WO.pickF rfl rfl rfl ?_
    refine WO.move rfl rfl ?_
    refine WO.pass 72 rfl rfl rfl rfl ?_
    refine WO.pass 72 rfl rfl rfl rfl ?_
    refine WO.pass 72 rfl rfl rfl rfl ?_
    refine WO.pass 72 rfl rfl rfl rfl ?_
    refine WO.pass 72 rfl rfl rfl rfl ?_
    refine WO.pickF rfl rfl rfl ?_
    refine WO.assign rfl rfl ?_
    refine WO.nil ?_
    refine thnN ?_
    refine WP.ret ?_
    refine ⟨_, [G], (Res.one rfl), (by first | exact Imp.refl _ | exact Imp.pick 0 rfl | exact Imp.pick 1 rfl | exact Imp.pick 2 rfl | exact Imp.pick 3 rfl | exact Imp.pick 4 rfl | exact Imp.pick 5 rfl | exact Imp.pick 6 rfl), ?_⟩
    refine ⟨?_, rfl⟩
    first | rfl | (exfalso; simp_all [E1, E2, E3]; done)

theorem s_w21_LeaseVerdicts {G : Foot} (hG : GlobOK G) (e : Ent) (print : List UInt8) (now : Int) : CallsS P 3 [entV e, str print, .int .i64 (now)] [G] (fun v L => (v = .bool true) ∧ L = [G]) := by
  refine CallsS.intro Tryd.func3 rfl rfl rfl rfl ?_
  refine WP.seq ?_
  refine WP.region ?_
  refine WO.box rfl rfl rfl (fun b0 => ?_)
  refine WO.assign rfl rfl ?_
  refine WO.nil ?_
  refine thnN ?_
  refine WP.seq ?_
  refine WP.seq ?_
  refine WP.region ?_
  first | refine WO.callR 0 rfl (s_w21_awake hG) rfl ca_4 rfl ?_ | refine WO.callR 1 rfl (s_w21_awake hG) rfl ca_4 rfl ?_ | refine WO.callR 2 rfl (s_w21_awake hG) rfl ca_4 rfl ?_ | refine WO.callR 3 rfl (s_w21_awake hG) rfl ca_4 rfl ?_ | refine WO.callR 4 rfl (s_w21_awake hG) rfl ca_4 rfl ?_ | refine WO.callR 5 rfl (s_w21_awake hG) rfl ca_4 rfl ?_ | refine WO.callR 6 rfl (s_w21_awake hG) rfl ca_4 rfl ?_ | refine WO.callR 7 rfl (s_w21_awake hG) rfl ca_4 rfl ?_
  rintro _ rfl
  refine WO.not rfl rfl ?_
  refine WO.nil ?_
  refine thnN ?_
  refine WP.condF rfl ?_
  refine WP.skip ?_
  refine thnN ?_
  refine WP.seq ?_
  refine WP.seq ?_
  refine WP.region ?_
  first | refine WO.loadAll rfl ag_23 (by first | exact in0 | exact in1 | exact in2 | exact in3 | exact in4 | exact in5 | exact in6) rfl rfl ?_ | refine WO.loadAgg rfl ag_23 (by first | exact in0 | exact in1 | exact in2 | exact in3 | exact in4 | exact in5 | exact in6) rfl rfl rfl ?_
  refine WO.move rfl rfl ?_
  refine WO.buildQ (cs := [_, _, _, _, _, _, _, _, _, _, _, _, _]) rfl lay_29 zo_29 rfl rfl ?_
  refine WO.callQ (s_w21_Small e ⟨0, false, 0, 0, 0, print, Req.zero⟩) rfl ca_5 rfl ?_
  rintro _ ⟨q, rfl⟩
  refine WO.not rfl rfl ?_
  refine WO.nil ?_
  refine thnN ?_
  refine WP.condL 13 rfl (fun h1 => ?_) (fun h2 => ?_)
  · try simp only [decide_eq_true_eq, decide_eq_false_iff_not, beq_iff_eq, beq_eq_false_iff_ne, bne_iff_ne, bne_eq_false_iff_eq, Bool.not_eq_true', Bool.not_eq_false', Int.not_lt, Int.not_le, ne_eq] at h1
    refine WP.seq ?_
    refine WP.region ?_
    refine WO.assign rfl rfl ?_
    refine WO.nil ?_
    refine thnN ?_
    refine WP.ret ?_
    refine thnR ?_
    refine ⟨_, [G], (Res.one rfl), (by first | exact Imp.refl _ | exact Imp.pick 0 rfl | exact Imp.pick 1 rfl | exact Imp.pick 2 rfl | exact Imp.pick 3 rfl | exact Imp.pick 4 rfl | exact Imp.pick 5 rfl | exact Imp.pick 6 rfl), ?_⟩
    refine ⟨?_, rfl⟩
    first | rfl | (simp_all; done) | (exfalso; simp_all; done)
  · try simp only [decide_eq_true_eq, decide_eq_false_iff_not, beq_iff_eq, beq_eq_false_iff_ne, bne_iff_ne, bne_eq_false_iff_eq, Bool.not_eq_true', Bool.not_eq_false', Int.not_lt, Int.not_le, ne_eq] at h2
    refine WP.skip ?_
    refine thnN ?_
    refine WP.seq ?_
    refine WP.regionD [] [0, 0, 0, 0, 0, 0, 0, 0, 0, 0, 0, 0, 0, 0, 0, 0, 0, 0, 0, 0, 0, 0, 0, 0, 0, 0, 0, 0, 0, 0, 0, 0, 0, 0, 0, 0, 0, 0, 0, 0, 0] [(0, 1, [3, 7, 8, 9, 10, 11, 12, 13, 14, 15, 16, 17, 18, 19, 20, 21, 22, 23, 24, 25, 26, 27, 28, 29, 30, 31, 32, 33, 34, 35, 36, 37, 38, 39, 40]), (1, 0, [3, 7, 8, 9, 10, 11, 12, 13, 14, 15, 16, 17, 18, 19, 20, 21, 22, 23, 24, 25, 26, 27, 28, 29, 30, 31, 32, 33, 34, 35, 36, 37, 38, 39, 40]), (2, 0, [3, 7, 8, 9, 10, 11, 12, 13, 14, 15, 16, 17, 18, 19, 20, 21, 22, 23, 24, 25, 26, 27, 28, 29, 30, 31, 32, 33, 34, 35, 36, 37, 38, 39, 40]), (3, 0, [7, 8, 9, 10, 11, 12, 13, 14, 15, 16, 17, 18, 19, 20, 21, 22, 23, 24, 25, 26, 27, 28, 29, 30, 31, 32, 33, 34, 35, 36, 37, 38, 39, 40]), (4, 1, [7, 8, 9, 10, 11, 12, 13, 14, 15, 16, 17, 18, 19, 20, 21, 22, 23, 24, 25, 26, 27, 28, 29, 30, 31, 32, 33, 34, 35, 36, 37, 38, 39, 40]), (5, 0, [7, 8, 9, 10, 11, 12, 13, 14, 15, 16, 17, 18, 19, 20, 21, 22, 23, 24, 25, 26, 27, 28, 29, 30, 31, 32, 33, 34, 35, 36, 37, 38, 39, 40]), (6, 0, [7, 8, 9, 10, 11, 12, 13, 14, 15, 16, 17, 18, 19, 20, 21, 22, 23, 24, 25, 26, 27, 28, 29, 30, 31, 32, 33, 34, 35, 36, 37, 38, 39, 40]), (7, 0, [8, 9, 10, 11, 12, 13, 14, 15, 16, 17, 18, 19, 20, 21, 22, 23, 24, 25, 26, 27, 28, 29, 30, 31, 32, 33, 34, 35, 36, 37, 38, 39, 40]), (8, 0, [9, 10, 11, 12, 13, 14, 15, 16, 17, 18, 19, 20, 21, 22, 23, 24, 25, 26, 27, 28, 29, 30, 31, 32, 33, 34, 35, 36, 37, 38, 39, 40]), (9, 0, [10, 11, 12, 13, 14, 15, 16, 17, 18, 19, 20, 21, 22, 23, 24, 25, 26, 27, 28, 29, 30, 31, 32, 33, 34, 35, 36, 37, 38, 39, 40]), (10, 1, [14, 19, 20, 21, 22, 23, 24, 25, 26, 27, 28, 29, 30, 31, 32, 33, 34, 35, 36, 37, 38, 39, 40]), (11, 0, [12, 14, 19, 20, 21, 22, 23, 24, 25, 26, 27, 28, 29, 30, 31, 32, 33, 34, 35, 36, 37, 38, 39, 40]), (12, 1, [14, 19, 20, 21, 22, 23, 24, 25, 26, 27, 28, 29, 30, 31, 32, 33, 34, 35, 36, 37, 38, 39, 40]), (13, 0, [14, 19, 20, 21, 22, 23, 24, 25, 26, 27, 28, 29, 30, 31, 32, 33, 34, 35, 36, 37, 38, 39, 40]), (14, 0, [19, 20, 21, 22, 23, 24, 25, 26, 27, 28, 29, 30, 31, 32, 33, 34, 35, 36, 37, 38, 39, 40]), (15, 1, [19, 20, 21, 22, 23, 24, 25, 26, 27, 28, 29, 30, 31, 32, 33, 34, 35, 36, 37, 38, 39, 40]), (16, 0, [17, 19, 20, 21, 22, 23, 24, 25, 26, 27, 28, 29, 30, 31, 32, 33, 34, 35, 36, 37, 38, 39, 40]), (17, 1, [19, 20, 21, 22, 23, 24, 25, 26, 27, 28, 29, 30, 31, 32, 33, 34, 35, 36, 37, 38, 39, 40]), (18, 0, [19, 20, 21, 22, 23, 24, 25, 26, 27, 28, 29, 30, 31, 32, 33, 34, 35, 36, 37, 38, 39, 40]), (19, 0, [20, 21, 22, 23, 24, 25, 26, 27, 28, 29, 30, 31, 32, 33, 34, 35, 36, 37, 38, 39, 40]), (20, 0, [21, 22, 23, 24, 25, 26, 27, 28, 29, 30, 31, 32, 33, 34, 35, 36, 37, 38, 39, 40]), (21, 0, [22, 23, 24, 25, 26, 27, 28, 29, 30, 31, 32, 33, 34, 35, 36, 37, 38, 39, 40]), (22, 0, [23, 24, 25, 26, 27, 28, 29, 30, 31, 32, 33, 34, 35, 36, 37, 38, 39, 40]), (23, 1, [25, 28, 29, 30, 31, 32, 33, 34, 35, 36, 37, 38, 39, 40]), (24, 0, [25, 28, 29, 30, 31, 32, 33, 34, 35, 36, 37, 38, 39, 40]), (25, 0, [28, 29, 30, 31, 32, 33, 34, 35, 36, 37, 38, 39, 40]), (26, 1, [28, 29, 30, 31, 32, 33, 34, 35, 36, 37, 38, 39, 40]), (27, 0, [28, 29, 30, 31, 32, 33, 34, 35, 36, 37, 38, 39, 40]), (28, 0, [29, 30, 31, 32, 33, 34, 35, 36, 37, 38, 39, 40]), (29, 0, [30, 31, 32, 33, 34, 35, 36, 37, 38, 39, 40]), (30, 0, [31, 32, 33, 34, 35, 36, 37, 38, 39, 40]), (31, 0, [32, 33, 34, 35, 36, 37, 38, 39, 40]), (32, 1, [34, 37, 38, 39, 40]), (33, 0, [34, 37, 38, 39, 40]), (34, 0, [37, 38, 39, 40]), (35, 1, [37, 38, 39, 40]), (36, 0, [37, 38, 39, 40]), (37, 0, [38, 39, 40]), (38, 0, [39, 40]), (39, 0, [40]), (40, 0, [])] mx_ (by kernel_rfl) (by simp) ?_
    apply WL.read
    · rfl
    · rfl
    · skip
      first | refine WO.loadAll rfl ag_23 (by first | exact in0 | exact in1 | exact in2 | exact in3 | exact in4 | exact in5 | exact in6) rfl rfl ?_ | refine WO.loadAgg rfl ag_23 (by first | exact in0 | exact in1 | exact in2 | exact in3 | exact in4 | exact in5 | exact in6) rfl rfl rfl ?_
      exact WO.nil ⟨rfl, rfl⟩
    apply WL.pure
    · rfl
    · rfl
    · skip
      refine WO.move rfl rfl ?_
      exact WO.nil ⟨rfl, rfl⟩
    apply WL.pure
    · rfl
    · rfl
    · skip
      refine WO.move rfl rfl ?_
      exact WO.nil ⟨rfl, rfl⟩
    apply WL.pure
    · rfl
    · rfl
    · skip
      refine WO.callP (s_lease_Verdict e _ now) rfl ca_6 rfl ?_
      exact WO.nil ⟨rfl, rfl⟩
    apply WL.read
    · rfl
    · rfl
    · skip
      first | refine WO.loadAll rfl ag_23 (by first | exact in0 | exact in1 | exact in2 | exact in3 | exact in4 | exact in5 | exact in6) rfl rfl ?_ | refine WO.loadAgg rfl ag_23 (by first | exact in0 | exact in1 | exact in2 | exact in3 | exact in4 | exact in5 | exact in6) rfl rfl rfl ?_
      exact WO.nil ⟨rfl, rfl⟩
    apply WL.pure
    · rfl
    · rfl
    · skip
      refine WO.move rfl rfl ?_
      exact WO.nil ⟨rfl, rfl⟩
    apply WL.pure
    · rfl
    · rfl
    · skip
      refine WO.move rfl rfl ?_
      exact WO.nil ⟨rfl, rfl⟩
    apply WL.pure
    · rfl
    · rfl
    · skip
      refine WO.callP (s_r21_Verdict e _ now) rfl ca_7 rfl ?_
      exact WO.nil ⟨rfl, rfl⟩
    apply WL.pure
    · rfl
    · rfl
    · skip
      refine WO.eqlI rfl rfl rfl ?_
      exact WO.nil ⟨rfl, rfl⟩
    apply WL.pure
    · rfl
    · rfl
    · skip
      refine WO.move rfl rfl ?_
      exact WO.nil ⟨rfl, rfl⟩
    refine WL.split 23 rfl (fun h3 => ?_) (fun h4 => ?_)
    · try simp only [decide_eq_true_eq, decide_eq_false_iff_not, beq_iff_eq, beq_eq_false_iff_ne, bne_iff_ne, bne_eq_false_iff_eq, Bool.not_eq_true', Bool.not_eq_false', Int.not_lt, Int.not_le, ne_eq] at h3
      apply WL.read
      · rfl
      · rfl
      · skip
        refine WO.want 23 rfl rfl ?_
        first | refine WO.loadAll rfl ag_23 (by first | exact in0 | exact in1 | exact in2 | exact in3 | exact in4 | exact in5 | exact in6) rfl rfl ?_ | refine WO.loadAgg rfl ag_23 (by first | exact in0 | exact in1 | exact in2 | exact in3 | exact in4 | exact in5 | exact in6) rfl rfl rfl ?_
        exact WO.nil ⟨rfl, rfl⟩
      apply WL.pure
      · rfl
      · rfl
      · skip
        refine WO.want 23 rfl rfl ?_
        refine WO.fieldAddr rfl fo_23_6 rfl ?_
        exact WO.nil ⟨rfl, rfl⟩
      apply WL.read
      · rfl
      · rfl
      · skip
        refine WO.want 23 rfl rfl ?_
        refine WO.load rfl sc_9 (by first | exact in0 | exact in1 | exact in2 | exact in3 | exact in4 | exact in5 | exact in6) rfl rfl ?_
        exact WO.nil ⟨rfl, rfl⟩
      apply WL.pure
      · rfl
      · rfl
      · skip
        refine WO.want 23 rfl rfl ?_
        refine WO.move rfl rfl ?_
        exact WO.nil ⟨rfl, rfl⟩
      apply WL.pure
      · rfl
      · rfl
      · skip
        refine WO.want 23 rfl rfl ?_
        refine WO.callP (s_lease_Verdict e _ now) rfl ca_6 rfl ?_
        exact WO.nil ⟨rfl, rfl⟩
      apply WL.read
      · rfl
      · rfl
      · skip
        refine WO.want 23 rfl rfl ?_
        first | refine WO.loadAll rfl ag_23 (by first | exact in0 | exact in1 | exact in2 | exact in3 | exact in4 | exact in5 | exact in6) rfl rfl ?_ | refine WO.loadAgg rfl ag_23 (by first | exact in0 | exact in1 | exact in2 | exact in3 | exact in4 | exact in5 | exact in6) rfl rfl rfl ?_
        exact WO.nil ⟨rfl, rfl⟩
      apply WL.pure
      · rfl
      · rfl
      · skip
        refine WO.want 23 rfl rfl ?_
        refine WO.fieldAddr rfl fo_23_6 rfl ?_
        exact WO.nil ⟨rfl, rfl⟩
      apply WL.read
      · rfl
      · rfl
      · skip
        refine WO.want 23 rfl rfl ?_
        refine WO.load rfl sc_9 (by first | exact in0 | exact in1 | exact in2 | exact in3 | exact in4 | exact in5 | exact in6) rfl rfl ?_
        exact WO.nil ⟨rfl, rfl⟩
      apply WL.pure
      · rfl
      · rfl
      · skip
        refine WO.want 23 rfl rfl ?_
        refine WO.move rfl rfl ?_
        exact WO.nil ⟨rfl, rfl⟩
      apply WL.pure
      · rfl
      · rfl
      · skip
        refine WO.want 23 rfl rfl ?_
        refine WO.callP (s_r21_Verdict e _ now) rfl ca_7 rfl ?_
        exact WO.nil ⟨rfl, rfl⟩
      apply WL.pure
      · rfl
      · rfl
      · skip
        refine WO.want 23 rfl rfl ?_
        refine WO.eqlI rfl rfl rfl ?_
        exact WO.nil ⟨rfl, rfl⟩
      apply WL.pure
      · rfl
      · rfl
      · skip
        refine WO.pickT rfl rfl rfl ?_
        exact WO.nil ⟨rfl, rfl⟩
      apply WL.pure
      · rfl
      · rfl
      · skip
        refine WO.move rfl rfl ?_
        exact WO.nil ⟨rfl, rfl⟩
      refine WL.split 36 rfl (fun h5 => ?_) (fun h6 => ?_)
      · try simp only [decide_eq_true_eq, decide_eq_false_iff_not, beq_iff_eq, beq_eq_false_iff_ne, bne_iff_ne, bne_eq_false_iff_eq, Bool.not_eq_true', Bool.not_eq_false', Int.not_lt, Int.not_le, ne_eq] at h5
        apply WL.read
        · rfl
        · rfl
        · skip
          refine WO.want 36 rfl rfl ?_
          first | refine WO.loadAll rfl ag_23 (by first | exact in0 | exact in1 | exact in2 | exact in3 | exact in4 | exact in5 | exact in6) rfl rfl ?_ | refine WO.loadAgg rfl ag_23 (by first | exact in0 | exact in1 | exact in2 | exact in3 | exact in4 | exact in5 | exact in6) rfl rfl rfl ?_
          exact WO.nil ⟨rfl, rfl⟩
        apply WL.pure
        · rfl
        · rfl
        · skip
          refine WO.want 36 rfl rfl ?_
          refine WO.move rfl rfl ?_
          exact WO.nil ⟨rfl, rfl⟩
        apply WL.pure
        · rfl
        · rfl
        · skip
          refine WO.want 36 rfl rfl ?_
          refine WO.callP (s_lease_Held e now) rfl ca_8 rfl ?_
          exact WO.nil ⟨rfl, rfl⟩
        apply WL.read
        · rfl
        · rfl
        · skip
          refine WO.want 36 rfl rfl ?_
          first | refine WO.loadAll rfl ag_23 (by first | exact in0 | exact in1 | exact in2 | exact in3 | exact in4 | exact in5 | exact in6) rfl rfl ?_ | refine WO.loadAgg rfl ag_23 (by first | exact in0 | exact in1 | exact in2 | exact in3 | exact in4 | exact in5 | exact in6) rfl rfl rfl ?_
          exact WO.nil ⟨rfl, rfl⟩
        apply WL.pure
        · rfl
        · rfl
        · skip
          refine WO.want 36 rfl rfl ?_
          refine WO.move rfl rfl ?_
          exact WO.nil ⟨rfl, rfl⟩
        apply WL.pure
        · rfl
        · rfl
        · skip
          refine WO.want 36 rfl rfl ?_
          refine WO.callP (s_r21_Held e now) rfl ca_9 rfl ?_
          exact WO.nil ⟨rfl, rfl⟩
        apply WL.pure
        · rfl
        · rfl
        · skip
          refine WO.want 36 rfl rfl ?_
          refine WO.eqlB rfl rfl un_4 rfl ?_
          exact WO.nil ⟨rfl, rfl⟩
        apply WL.pure
        · rfl
        · rfl
        · skip
          refine WO.pickT rfl rfl rfl ?_
          exact WO.nil ⟨rfl, rfl⟩
        apply WL.pure
        · rfl
        · rfl
        · skip
          refine WO.move rfl rfl ?_
          exact WO.nil ⟨rfl, rfl⟩
        refine WL.split 45 rfl (fun h7 => ?_) (fun h8 => ?_)
        · try simp only [decide_eq_true_eq, decide_eq_false_iff_not, beq_iff_eq, beq_eq_false_iff_ne, bne_iff_ne, bne_eq_false_iff_eq, Bool.not_eq_true', Bool.not_eq_false', Int.not_lt, Int.not_le, ne_eq] at h7
          apply WL.read
          · rfl
          · rfl
          · skip
            refine WO.want 45 rfl rfl ?_
            first | refine WO.loadAll rfl ag_23 (by first | exact in0 | exact in1 | exact in2 | exact in3 | exact in4 | exact in5 | exact in6) rfl rfl ?_ | refine WO.loadAgg rfl ag_23 (by first | exact in0 | exact in1 | exact in2 | exact in3 | exact in4 | exact in5 | exact in6) rfl rfl rfl ?_
            exact WO.nil ⟨rfl, rfl⟩
          apply WL.pure
          · rfl
          · rfl
          · skip
            refine WO.want 45 rfl rfl ?_
            refine WO.move rfl rfl ?_
            exact WO.nil ⟨rfl, rfl⟩
          apply WL.pure
          · rfl
          · rfl
          · skip
            refine WO.want 45 rfl rfl ?_
            refine WO.callP (s_lease_Expired e now) rfl ca_10 rfl ?_
            exact WO.nil ⟨rfl, rfl⟩
          apply WL.read
          · rfl
          · rfl
          · skip
            refine WO.want 45 rfl rfl ?_
            first | refine WO.loadAll rfl ag_23 (by first | exact in0 | exact in1 | exact in2 | exact in3 | exact in4 | exact in5 | exact in6) rfl rfl ?_ | refine WO.loadAgg rfl ag_23 (by first | exact in0 | exact in1 | exact in2 | exact in3 | exact in4 | exact in5 | exact in6) rfl rfl rfl ?_
            exact WO.nil ⟨rfl, rfl⟩
          apply WL.pure
          · rfl
          · rfl
          · skip
            refine WO.want 45 rfl rfl ?_
            refine WO.move rfl rfl ?_
            exact WO.nil ⟨rfl, rfl⟩
          apply WL.pure
          · rfl
          · rfl
          · skip
            refine WO.want 45 rfl rfl ?_
            refine WO.callP (s_r21_Expired e now) rfl ca_11 rfl ?_
            exact WO.nil ⟨rfl, rfl⟩
          apply WL.pure
          · rfl
          · rfl
          · skip
            refine WO.want 45 rfl rfl ?_
            refine WO.eqlB rfl rfl un_4 rfl ?_
            exact WO.nil ⟨rfl, rfl⟩
          apply WL.pure
          · rfl
          · rfl
          · skip
            refine WO.pickT rfl rfl rfl ?_
            exact WO.nil ⟨rfl, rfl⟩
          apply WL.pure
          · rfl
          · rfl
          · skip
            refine WO.assign rfl rfl ?_
            exact WO.nil ⟨rfl, rfl⟩
          refine WL.nil ?_
          refine thnN ?_
          refine WP.ret ?_
          refine ⟨_, [G], (Res.one rfl), (by first | exact Imp.refl _ | exact Imp.pick 0 rfl | exact Imp.pick 1 rfl | exact Imp.pick 2 rfl | exact Imp.pick 3 rfl | exact Imp.pick 4 rfl | exact Imp.pick 5 rfl | exact Imp.pick 6 rfl), ?_⟩
          refine ⟨?_, rfl⟩
          first | rfl | (simp_all; done) | (exfalso; simp_all; done)
        · try simp only [decide_eq_true_eq, decide_eq_false_iff_not, beq_iff_eq, beq_eq_false_iff_ne, bne_iff_ne, bne_eq_false_iff_eq, Bool.not_eq_true', Bool.not_eq_false', Int.not_lt, Int.not_le, ne_eq] at h8
          apply WL.read
          · rfl
          · rfl
          · skip
            refine WO.pass 45 rfl rfl rfl rfl ?_
            exact WO.nil ⟨rfl, rfl⟩
          apply WL.pure
          · rfl
          · rfl
          · skip
            refine WO.pass 45 rfl rfl rfl rfl ?_
            exact WO.nil ⟨rfl, rfl⟩
          apply WL.pure
          · rfl
          · rfl
          · skip
            refine WO.pass 45 rfl rfl rfl rfl ?_
            exact WO.nil ⟨rfl, rfl⟩
          apply WL.read
          · rfl
          · rfl
          · skip
            refine WO.pass 45 rfl rfl rfl rfl ?_
            exact WO.nil ⟨rfl, rfl⟩
          apply WL.pure
          · rfl
          · rfl
          · skip
            refine WO.pass 45 rfl rfl rfl rfl ?_
            exact WO.nil ⟨rfl, rfl⟩
          apply WL.pure
          · rfl
          · rfl
          · skip
            refine WO.pass 45 rfl rfl rfl rfl ?_
            exact WO.nil ⟨rfl, rfl⟩
          apply WL.pure
          · rfl
          · rfl
          · skip
            refine WO.pass 45 rfl rfl rfl rfl ?_
            exact WO.nil ⟨rfl, rfl⟩
          apply WL.pure
          · rfl
          · rfl
          · skip
            refine WO.pickF rfl rfl rfl ?_
            exact WO.nil ⟨rfl, rfl⟩
          apply WL.pure
          · rfl
          · rfl
          · skip
            refine WO.assign rfl rfl ?_
            exact WO.nil ⟨rfl, rfl⟩
          refine WL.nil ?_
          refine thnN ?_
          refine WP.ret ?_
          refine ⟨_, [G], (Res.one rfl), (by first | exact Imp.refl _ | exact Imp.pick 0 rfl | exact Imp.pick 1 rfl | exact Imp.pick 2 rfl | exact Imp.pick 3 rfl | exact Imp.pick 4 rfl | exact Imp.pick 5 rfl | exact Imp.pick 6 rfl), ?_⟩
          refine ⟨?_, rfl⟩
          first | rfl | (simp_all; done) | (exfalso; simp_all; done)
      · try simp only [decide_eq_true_eq, decide_eq_false_iff_not, beq_iff_eq, beq_eq_false_iff_ne, bne_iff_ne, bne_eq_false_iff_eq, Bool.not_eq_true', Bool.not_eq_false', Int.not_lt, Int.not_le, ne_eq] at h6
        apply WL.read
        · rfl
        · rfl
        · skip
          refine WO.pass 36 rfl rfl rfl rfl ?_
          exact WO.nil ⟨rfl, rfl⟩
        apply WL.pure
        · rfl
        · rfl
        · skip
          refine WO.pass 36 rfl rfl rfl rfl ?_
          exact WO.nil ⟨rfl, rfl⟩
        apply WL.pure
        · rfl
        · rfl
        · skip
          refine WO.pass 36 rfl rfl rfl rfl ?_
          exact WO.nil ⟨rfl, rfl⟩
        apply WL.read
        · rfl
        · rfl
        · skip
          refine WO.pass 36 rfl rfl rfl rfl ?_
          exact WO.nil ⟨rfl, rfl⟩
        apply WL.pure
        · rfl
        · rfl
        · skip
          refine WO.pass 36 rfl rfl rfl rfl ?_
          exact WO.nil ⟨rfl, rfl⟩
        apply WL.pure
        · rfl
        · rfl
        · skip
          refine WO.pass 36 rfl rfl rfl rfl ?_
          exact WO.nil ⟨rfl, rfl⟩
        apply WL.pure
        · rfl
        · rfl
        · skip
          refine WO.pass 36 rfl rfl rfl rfl ?_
          exact WO.nil ⟨rfl, rfl⟩
        apply WL.pure
        · rfl
        · rfl
        · skip
          refine WO.pickF rfl rfl rfl ?_
          exact WO.nil ⟨rfl, rfl⟩
        apply WL.pure
        · rfl
        · rfl
        · skip
          refine WO.move rfl rfl ?_
          exact WO.nil ⟨rfl, rfl⟩
        apply WL.read
        · rfl
        · rfl
        · skip
          refine WO.pass 45 rfl rfl rfl rfl ?_
          exact WO.nil ⟨rfl, rfl⟩
        apply WL.pure
        · rfl
        · rfl
        · skip
          refine WO.pass 45 rfl rfl rfl rfl ?_
          exact WO.nil ⟨rfl, rfl⟩
        apply WL.pure
        · rfl
        · rfl
        · skip
          refine WO.pass 45 rfl rfl rfl rfl ?_
          exact WO.nil ⟨rfl, rfl⟩
        apply WL.read
        · rfl
        · rfl
        · skip
          refine WO.pass 45 rfl rfl rfl rfl ?_
          exact WO.nil ⟨rfl, rfl⟩
        apply WL.pure
        · rfl
        · rfl
        · skip
          refine WO.pass 45 rfl rfl rfl rfl ?_
          exact WO.nil ⟨rfl, rfl⟩
        apply WL.pure
        · rfl
        · rfl
        · skip
          refine WO.pass 45 rfl rfl rfl rfl ?_
          exact WO.nil ⟨rfl, rfl⟩
        apply WL.pure
        · rfl
        · rfl
        · skip
          refine WO.pass 45 rfl rfl rfl rfl ?_
          exact WO.nil ⟨rfl, rfl⟩
        apply WL.pure
        · rfl
        · rfl
        · skip
          refine WO.pickF rfl rfl rfl ?_
          exact WO.nil ⟨rfl, rfl⟩
        apply WL.pure
        · rfl
        · rfl
        · skip
          refine WO.assign rfl rfl ?_
          exact WO.nil ⟨rfl, rfl⟩
        refine WL.nil ?_
        refine thnN ?_
        refine WP.ret ?_
        refine ⟨_, [G], (Res.one rfl), (by first | exact Imp.refl _ | exact Imp.pick 0 rfl | exact Imp.pick 1 rfl | exact Imp.pick 2 rfl | exact Imp.pick 3 rfl | exact Imp.pick 4 rfl | exact Imp.pick 5 rfl | exact Imp.pick 6 rfl), ?_⟩
        refine ⟨?_, rfl⟩
        first | rfl | (simp_all; done) | (exfalso; simp_all; done)
    · try simp only [decide_eq_true_eq, decide_eq_false_iff_not, beq_iff_eq, beq_eq_false_iff_ne, bne_iff_ne, bne_eq_false_iff_eq, Bool.not_eq_true', Bool.not_eq_false', Int.not_lt, Int.not_le, ne_eq] at h4
      apply WL.read
      · rfl
      · rfl
      · skip
        refine WO.pass 23 rfl rfl rfl rfl ?_
        exact WO.nil ⟨rfl, rfl⟩
      apply WL.pure
      · rfl
      · rfl
      · skip
        refine WO.pass 23 rfl rfl rfl rfl ?_
        exact WO.nil ⟨rfl, rfl⟩
      apply WL.read
      · rfl
      · rfl
      · skip
        refine WO.pass 23 rfl rfl rfl rfl ?_
        exact WO.nil ⟨rfl, rfl⟩
      apply WL.pure
      · rfl
      · rfl
      · skip
        refine WO.pass 23 rfl rfl rfl rfl ?_
        exact WO.nil ⟨rfl, rfl⟩
      apply WL.pure
      · rfl
      · rfl
      · skip
        refine WO.pass 23 rfl rfl rfl rfl ?_
        exact WO.nil ⟨rfl, rfl⟩
      apply WL.read
      · rfl
      · rfl
      · skip
        refine WO.pass 23 rfl rfl rfl rfl ?_
        exact WO.nil ⟨rfl, rfl⟩
      apply WL.pure
      · rfl
      · rfl
      · skip
        refine WO.pass 23 rfl rfl rfl rfl ?_
        exact WO.nil ⟨rfl, rfl⟩
      apply WL.read
      · rfl
      · rfl
      · skip
        refine WO.pass 23 rfl rfl rfl rfl ?_
        exact WO.nil ⟨rfl, rfl⟩
      apply WL.pure
      · rfl
      · rfl
      · skip
        refine WO.pass 23 rfl rfl rfl rfl ?_
        exact WO.nil ⟨rfl, rfl⟩
      apply WL.pure
      · rfl
      · rfl
      · skip
        refine WO.pass 23 rfl rfl rfl rfl ?_
        exact WO.nil ⟨rfl, rfl⟩
      apply WL.pure
      · rfl
      · rfl
      · skip
        refine WO.pass 23 rfl rfl rfl rfl ?_
        exact WO.nil ⟨rfl, rfl⟩
      apply WL.pure
      · rfl
      · rfl
      · skip
        refine WO.pickF rfl rfl rfl ?_
        exact WO.nil ⟨rfl, rfl⟩
      apply WL.pure
      · rfl
      · rfl
      · skip
        refine WO.move rfl rfl ?_
        exact WO.nil ⟨rfl, rfl⟩
      apply WL.read
      · rfl
      · rfl
      · skip
        refine WO.pass 36 rfl rfl rfl rfl ?_
        exact WO.nil ⟨rfl, rfl⟩
      apply WL.pure
      · rfl
      · rfl
      · skip
        refine WO.pass 36 rfl rfl rfl rfl ?_
        exact WO.nil ⟨rfl, rfl⟩
      apply WL.pure
      · rfl
      · rfl
      · skip
        refine WO.pass 36 rfl rfl rfl rfl ?_
        exact WO.nil ⟨rfl, rfl⟩
      apply WL.read
      · rfl
      · rfl
      · skip
        refine WO.pass 36 rfl rfl rfl rfl ?_
        exact WO.nil ⟨rfl, rfl⟩
      apply WL.pure
      · rfl
      · rfl
      · skip
        refine WO.pass 36 rfl rfl rfl rfl ?_
        exact WO.nil ⟨rfl, rfl⟩
      apply WL.pure
      · rfl
      · rfl
      · skip
        refine WO.pass 36 rfl rfl rfl rfl ?_
        exact WO.nil ⟨rfl, rfl⟩
      apply WL.pure
      · rfl
      · rfl
      · skip
        refine WO.pass 36 rfl rfl rfl rfl ?_
        exact WO.nil ⟨rfl, rfl⟩
      apply WL.pure
      · rfl
      · rfl
      · skip
        refine WO.pickF rfl rfl rfl ?_
        exact WO.nil ⟨rfl, rfl⟩
      apply WL.pure
      · rfl
      · rfl
      · skip
        refine WO.move rfl rfl ?_
        exact WO.nil ⟨rfl, rfl⟩
      apply WL.read
      · rfl
      · rfl
      · skip
        refine WO.pass 45 rfl rfl rfl rfl ?_
        exact WO.nil ⟨rfl, rfl⟩
      apply WL.pure
      · rfl
      · rfl
      · skip
        refine WO.pass 45 rfl rfl rfl rfl ?_
        exact WO.nil ⟨rfl, rfl⟩
      apply WL.pure
      · rfl
      · rfl
      · skip
        refine WO.pass 45 rfl rfl rfl rfl ?_
        exact WO.nil ⟨rfl, rfl⟩
      apply WL.read
      · rfl
      · rfl
      · skip
        refine WO.pass 45 rfl rfl rfl rfl ?_
        exact WO.nil ⟨rfl, rfl⟩
      apply WL.pure
      · rfl
      · rfl
      · skip
        refine WO.pass 45 rfl rfl rfl rfl ?_
        exact WO.nil ⟨rfl, rfl⟩
      apply WL.pure
      · rfl
      · rfl
      · skip
        refine WO.pass 45 rfl rfl rfl rfl ?_
        exact WO.nil ⟨rfl, rfl⟩
      apply WL.pure
      · rfl
      · rfl
      · skip
        refine WO.pass 45 rfl rfl rfl rfl ?_
        exact WO.nil ⟨rfl, rfl⟩
      apply WL.pure
      · rfl
      · rfl
      · skip
        refine WO.pickF rfl rfl rfl ?_
        exact WO.nil ⟨rfl, rfl⟩
      apply WL.pure
      · rfl
      · rfl
      · skip
        refine WO.assign rfl rfl ?_
        exact WO.nil ⟨rfl, rfl⟩
      refine WL.nil ?_
      refine thnN ?_
      refine WP.ret ?_
      refine ⟨_, [G], (Res.one rfl), (by first | exact Imp.refl _ | exact Imp.pick 0 rfl | exact Imp.pick 1 rfl | exact Imp.pick 2 rfl | exact Imp.pick 3 rfl | exact Imp.pick 4 rfl | exact Imp.pick 5 rfl | exact Imp.pick 6 rfl), ?_⟩
      refine ⟨?_, rfl⟩
      first | rfl | (simp_all; done) | (exfalso; simp_all; done)

end Go.Proofs.YtpaipfceibcbkaaDoor
