/- Walks: what functions of the program answer, over the logic of footprints. Written by wip/tools/gen.py out of a spec of this session's. -/
import Derived.Test.YtpaipfceibcbkaaDoorW14
set_option linter.unusedVariables false
set_option linter.unusedSimpArgs false
set_option maxRecDepth 100000
namespace Go.Proofs.YtpaipfceibcbkaaDoor
open Go.SL Go.Proofs.YtpaipfceibcbkaaDoor
open Go.Law21 Go.Law05

set_option maxHeartbeats 800000 in
theorem s_lease_Begin {G : Foot} (hG : GlobOK G) (r : Req) (epoch now : Int) (c : Conf) : CallsS P 12 [reqV r, .int .i64 (epoch), .int .i64 (now), confV c] [G] (fun v L => (∃ pr : List UInt8, pr.length = 32 ∧ v = .tuple #[entV (beginF r epoch now c pr).1, .int .i64 (beginF r epoch now c pr).2]) ∧ L = [G]) := by
  refine CallsS.intro Tryd.func12 rfl rfl rfl rfl ?_
  refine WP.seq ?_
  refine WP.region ?_
  refine WO.box rfl rfl rfl (fun b0 => ?_)
  refine WO.box rfl rfl rfl (fun b1 => ?_)
  refine WO.alloc zo_23 rfl (fun b2 => ?_)
  refine WO.assign rfl rfl ?_
  refine WO.nil ?_
  refine thnN ?_
  refine WP.seq ?_
  refine WP.region ?_
  first | refine WO.loadAll rfl ag_27 (by first | exact in0 | exact in1 | exact in2 | exact in3 | exact in4 | exact in5 | exact in6) rfl rfl ?_ | refine WO.loadAgg rfl ag_27 (by first | exact in0 | exact in1 | exact in2 | exact in3 | exact in4 | exact in5 | exact in6) rfl rfl rfl ?_
  first | refine WO.callR 0 rfl (s_canon_Request hG r) rfl ca_19 rfl ?_ | refine WO.callR 1 rfl (s_canon_Request hG r) rfl ca_19 rfl ?_ | refine WO.callR 2 rfl (s_canon_Request hG r) rfl ca_19 rfl ?_ | refine WO.callR 3 rfl (s_canon_Request hG r) rfl ca_19 rfl ?_ | refine WO.callR 4 rfl (s_canon_Request hG r) rfl ca_19 rfl ?_ | refine WO.callR 5 rfl (s_canon_Request hG r) rfl ca_19 rfl ?_ | refine WO.callR 6 rfl (s_canon_Request hG r) rfl ca_19 rfl ?_ | refine WO.callR 7 rfl (s_canon_Request hG r) rfl ca_19 rfl ?_
  rintro _ rfl
  refine WO.move rfl rfl ?_
  refine WO.extract rfl rfl rfl ?_
  refine WO.extract rfl rfl rfl ?_
  refine WO.alloc zo_27 rfl (fun b3 => ?_)
  first | refine WO.storeAll 0 rfl rfl rfl rfl ag_27 rfl (by rfl) ?_ | refine WO.storeAll 1 rfl rfl rfl rfl ag_27 rfl (by rfl) ?_ | refine WO.storeAll 2 rfl rfl rfl rfl ag_27 rfl (by rfl) ?_ | refine WO.storeAll 3 rfl rfl rfl rfl ag_27 rfl (by rfl) ?_ | refine WO.storeAll 4 rfl rfl rfl rfl ag_27 rfl (by rfl) ?_ | refine WO.storeAll 5 rfl rfl rfl rfl ag_27 rfl (by rfl) ?_ | refine WO.storeAgg 0 rfl rfl rfl rfl ag_27 rfl (by simp [ints, Value.oneCell']) (Nat.le_of_ble_eq_true rfl) _ rfl ?_ | refine WO.storeAgg 1 rfl rfl rfl rfl ag_27 rfl (by simp [ints, Value.oneCell']) (Nat.le_of_ble_eq_true rfl) _ rfl ?_ | refine WO.storeAgg 2 rfl rfl rfl rfl ag_27 rfl (by simp [ints, Value.oneCell']) (Nat.le_of_ble_eq_true rfl) _ rfl ?_
  refine WO.assign rfl rfl ?_
  refine WO.nil ?_
  refine thnN ?_
  refine WP.seq ?_
  refine WP.seq ?_
  refine WP.region ?_
  refine WO.move rfl rfl ?_
  refine WO.not rfl rfl ?_
  refine WO.move rfl rfl ?_
  refine WO.split 19 rfl (fun h1 => ?_) (fun h2 => ?_)
  · try simp only [decide_eq_true_eq, decide_eq_false_iff_not, beq_iff_eq, beq_eq_false_iff_ne, bne_iff_ne, bne_eq_false_iff_eq, Bool.not_eq_true', Bool.not_eq_false', Int.not_lt, Int.not_le, ne_eq] at h1
    refine WO.pass 19 rfl rfl rfl rfl ?_
    refine WO.pass 19 rfl rfl rfl rfl ?_
    refine WO.pickT rfl rfl rfl ?_
    refine WO.move rfl rfl ?_
    refine WO.pass 23 rfl rfl rfl rfl ?_
    refine WO.pass 23 rfl rfl rfl rfl ?_
    refine WO.pickT rfl rfl rfl ?_
    refine WO.nil ?_
    refine thnN ?_
    refine WP.condT rfl ?_
    refine WP.seq ?_
    refine WP.region ?_
    refine WO.buildQ (cs := [_, _, _, _, _, _, _, _, _, _, _, _, _, _]) rfl lay_23 zo_23 rfl rfl ?_
    first | refine WO.storeAll 0 rfl rfl rfl rfl ag_23 rfl (by rfl) ?_ | refine WO.storeAll 1 rfl rfl rfl rfl ag_23 rfl (by rfl) ?_ | refine WO.storeAll 2 rfl rfl rfl rfl ag_23 rfl (by rfl) ?_ | refine WO.storeAll 3 rfl rfl rfl rfl ag_23 rfl (by rfl) ?_ | refine WO.storeAll 4 rfl rfl rfl rfl ag_23 rfl (by rfl) ?_ | refine WO.storeAll 5 rfl rfl rfl rfl ag_23 rfl (by rfl) ?_ | refine WO.storeAgg 0 rfl rfl rfl rfl ag_23 rfl (by simp [ints, Value.oneCell']) (Nat.le_of_ble_eq_true rfl) _ rfl ?_ | refine WO.storeAgg 1 rfl rfl rfl rfl ag_23 rfl (by simp [ints, Value.oneCell']) (Nat.le_of_ble_eq_true rfl) _ rfl ?_ | refine WO.storeAgg 2 rfl rfl rfl rfl ag_23 rfl (by simp [ints, Value.oneCell']) (Nat.le_of_ble_eq_true rfl) _ rfl ?_
    refine WO.assign rfl rfl ?_
    refine WO.nil ?_
    refine thnN ?_
    refine WP.ret ?_
    refine thnR ?_
    refine ⟨_, [G], Res.cell2 rfl rfl ag_23 (by first | exact in0 | exact in1 | exact in2 | exact in3 | exact in4 | exact in5 | exact in6) rfl rfl, (by first | exact Imp.refl _ | exact Imp.pick 0 rfl | exact Imp.pick 1 rfl | exact Imp.pick 2 rfl | exact Imp.pick 3 rfl | exact Imp.pick 4 rfl | exact Imp.pick 5 rfl | exact Imp.pick 6 rfl), ?_⟩
    refine ⟨⟨List.replicate 32 0, rfl, ?_⟩, rfl⟩
    rw [begin_1 (by first | (left; simp_all; done) | (right; omega))]; rfl
  · try simp only [decide_eq_true_eq, decide_eq_false_iff_not, beq_iff_eq, beq_eq_false_iff_ne, bne_iff_ne, bne_eq_false_iff_eq, Bool.not_eq_true', Bool.not_eq_false', Int.not_lt, Int.not_le, ne_eq] at h2
    refine WO.want 19 rfl rfl ?_
    refine WO.move rfl rfl ?_
    refine WO.want 19 rfl rfl ?_
    refine WO.lssI rfl rfl rfl ?_
    refine WO.pickF rfl rfl rfl ?_
    refine WO.move rfl rfl ?_
    refine WO.split 23 rfl (fun h3 => ?_) (fun h4 => ?_)
    · try simp only [decide_eq_true_eq, decide_eq_false_iff_not, beq_iff_eq, beq_eq_false_iff_ne, bne_iff_ne, bne_eq_false_iff_eq, Bool.not_eq_true', Bool.not_eq_false', Int.not_lt, Int.not_le, ne_eq] at h3
      refine WO.pass 23 rfl rfl rfl rfl ?_
      refine WO.pass 23 rfl rfl rfl rfl ?_
      refine WO.pickT rfl rfl rfl ?_
      refine WO.nil ?_
      refine thnN ?_
      refine WP.condT rfl ?_
      refine WP.seq ?_
      refine WP.region ?_
      refine WO.buildQ (cs := [_, _, _, _, _, _, _, _, _, _, _, _, _, _]) rfl lay_23 zo_23 rfl rfl ?_
      first | refine WO.storeAll 0 rfl rfl rfl rfl ag_23 rfl (by rfl) ?_ | refine WO.storeAll 1 rfl rfl rfl rfl ag_23 rfl (by rfl) ?_ | refine WO.storeAll 2 rfl rfl rfl rfl ag_23 rfl (by rfl) ?_ | refine WO.storeAll 3 rfl rfl rfl rfl ag_23 rfl (by rfl) ?_ | refine WO.storeAll 4 rfl rfl rfl rfl ag_23 rfl (by rfl) ?_ | refine WO.storeAll 5 rfl rfl rfl rfl ag_23 rfl (by rfl) ?_ | refine WO.storeAgg 0 rfl rfl rfl rfl ag_23 rfl (by simp [ints, Value.oneCell']) (Nat.le_of_ble_eq_true rfl) _ rfl ?_ | refine WO.storeAgg 1 rfl rfl rfl rfl ag_23 rfl (by simp [ints, Value.oneCell']) (Nat.le_of_ble_eq_true rfl) _ rfl ?_ | refine WO.storeAgg 2 rfl rfl rfl rfl ag_23 rfl (by simp [ints, Value.oneCell']) (Nat.le_of_ble_eq_true rfl) _ rfl ?_
      refine WO.assign rfl rfl ?_
      refine WO.nil ?_
      refine thnN ?_
      refine WP.ret ?_
      refine thnR ?_
      refine ⟨_, [G], Res.cell2 rfl rfl ag_23 (by first | exact in0 | exact in1 | exact in2 | exact in3 | exact in4 | exact in5 | exact in6) rfl rfl, (by first | exact Imp.refl _ | exact Imp.pick 0 rfl | exact Imp.pick 1 rfl | exact Imp.pick 2 rfl | exact Imp.pick 3 rfl | exact Imp.pick 4 rfl | exact Imp.pick 5 rfl | exact Imp.pick 6 rfl), ?_⟩
      refine ⟨⟨List.replicate 32 0, rfl, ?_⟩, rfl⟩
      rw [begin_1 (by first | (left; simp_all; done) | (right; omega))]; rfl
    · try simp only [decide_eq_true_eq, decide_eq_false_iff_not, beq_iff_eq, beq_eq_false_iff_ne, bne_iff_ne, bne_eq_false_iff_eq, Bool.not_eq_true', Bool.not_eq_false', Int.not_lt, Int.not_le, ne_eq] at h4
      refine WO.want 23 rfl rfl ?_
      refine WO.move rfl rfl ?_
      refine WO.want 23 rfl rfl ?_
      refine WO.gtrI rfl rfl rfl ?_
      refine WO.pickF rfl rfl rfl ?_
      refine WO.nil ?_
      refine thnN ?_
      refine WP.condL 26 rfl (fun h5 => ?_) (fun h6 => ?_)
      · try simp only [decide_eq_true_eq, decide_eq_false_iff_not, beq_iff_eq, beq_eq_false_iff_ne, bne_iff_ne, bne_eq_false_iff_eq, Bool.not_eq_true', Bool.not_eq_false', Int.not_lt, Int.not_le, ne_eq] at h5
        refine WP.seq ?_
        refine WP.region ?_
        refine WO.buildQ (cs := [_, _, _, _, _, _, _, _, _, _, _, _, _, _]) rfl lay_23 zo_23 rfl rfl ?_
        first | refine WO.storeAll 0 rfl rfl rfl rfl ag_23 rfl (by rfl) ?_ | refine WO.storeAll 1 rfl rfl rfl rfl ag_23 rfl (by rfl) ?_ | refine WO.storeAll 2 rfl rfl rfl rfl ag_23 rfl (by rfl) ?_ | refine WO.storeAll 3 rfl rfl rfl rfl ag_23 rfl (by rfl) ?_ | refine WO.storeAll 4 rfl rfl rfl rfl ag_23 rfl (by rfl) ?_ | refine WO.storeAll 5 rfl rfl rfl rfl ag_23 rfl (by rfl) ?_ | refine WO.storeAgg 0 rfl rfl rfl rfl ag_23 rfl (by simp [ints, Value.oneCell']) (Nat.le_of_ble_eq_true rfl) _ rfl ?_ | refine WO.storeAgg 1 rfl rfl rfl rfl ag_23 rfl (by simp [ints, Value.oneCell']) (Nat.le_of_ble_eq_true rfl) _ rfl ?_ | refine WO.storeAgg 2 rfl rfl rfl rfl ag_23 rfl (by simp [ints, Value.oneCell']) (Nat.le_of_ble_eq_true rfl) _ rfl ?_
        refine WO.assign rfl rfl ?_
        refine WO.nil ?_
        refine thnN ?_
        refine WP.ret ?_
        refine thnR ?_
        refine ⟨_, [G], Res.cell2 rfl rfl ag_23 (by first | exact in0 | exact in1 | exact in2 | exact in3 | exact in4 | exact in5 | exact in6) rfl rfl, (by first | exact Imp.refl _ | exact Imp.pick 0 rfl | exact Imp.pick 1 rfl | exact Imp.pick 2 rfl | exact Imp.pick 3 rfl | exact Imp.pick 4 rfl | exact Imp.pick 5 rfl | exact Imp.pick 6 rfl), ?_⟩
        refine ⟨⟨List.replicate 32 0, rfl, ?_⟩, rfl⟩
        rw [begin_1 (by first | (left; simp_all; done) | (right; omega))]; rfl
      · try simp only [decide_eq_true_eq, decide_eq_false_iff_not, beq_iff_eq, beq_eq_false_iff_ne, bne_iff_ne, bne_eq_false_iff_eq, Bool.not_eq_true', Bool.not_eq_false', Int.not_lt, Int.not_le, ne_eq] at h6
        obtain ⟨x, hx⟩ := Option.isSome_iff_exists.1 (show (reqF r).isSome = true by assumption)
        have hxl := req_len hx
        rw [hx, Option.getD_some]
        refine WP.skip ?_
        refine thnN ?_
        refine WP.seq ?_
        refine WP.region ?_
        first | refine WO.loadAll rfl ag_37 (by first | exact in0 | exact in1 | exact in2 | exact in3 | exact in4 | exact in5 | exact in6) rfl rfl ?_ | refine WO.loadAgg rfl ag_37 (by first | exact in0 | exact in1 | exact in2 | exact in3 | exact in4 | exact in5 | exact in6) rfl rfl rfl ?_
        refine WO.callP (s_num_Config c) rfl ca_20 rfl ?_
        first | refine WO.storeAll 0 rfl rfl rfl rfl ag_37 rfl (by rfl) ?_ | refine WO.storeAll 1 rfl rfl rfl rfl ag_37 rfl (by rfl) ?_ | refine WO.storeAll 2 rfl rfl rfl rfl ag_37 rfl (by rfl) ?_ | refine WO.storeAll 3 rfl rfl rfl rfl ag_37 rfl (by rfl) ?_ | refine WO.storeAll 4 rfl rfl rfl rfl ag_37 rfl (by rfl) ?_ | refine WO.storeAll 5 rfl rfl rfl rfl ag_37 rfl (by rfl) ?_ | refine WO.storeAgg 0 rfl rfl rfl rfl ag_37 rfl (by simp [ints, Value.oneCell']) (Nat.le_of_ble_eq_true rfl) _ rfl ?_ | refine WO.storeAgg 1 rfl rfl rfl rfl ag_37 rfl (by simp [ints, Value.oneCell']) (Nat.le_of_ble_eq_true rfl) _ rfl ?_ | refine WO.storeAgg 2 rfl rfl rfl rfl ag_37 rfl (by simp [ints, Value.oneCell']) (Nat.le_of_ble_eq_true rfl) _ rfl ?_
        refine WO.nil ?_
        refine thnN ?_
        refine WP.seq ?_
        refine WP.regionD [] [0, 0, 0, 0, 0, 0, 0, 0, 0, 0, 0, 0, 0, 0, 0, 0, 0, 0, 0, 0, 0, 0, 0, 0, 0, 0, 0, 2, 0] [(0, 0, [1, 26, 27, 28]), (1, 1, [26, 27, 28]), (2, 0, [3, 26, 27, 28]), (3, 1, [26, 27, 28]), (4, 0, [26, 27, 28]), (5, 0, [6, 11, 15, 19, 26, 27, 28]), (6, 1, [11, 15, 19, 26, 27, 28]), (7, 0, [8, 11, 15, 19, 26, 27, 28]), (8, 1, [11, 15, 19, 26, 27, 28]), (9, 0, [10, 11, 15, 19, 26, 27, 28]), (10, 1, [11, 15, 19, 26, 27, 28]), (12, 0, [15, 19, 26, 27, 28]), (13, 0, [14, 15, 19, 26, 27, 28]), (14, 1, [15, 19, 26, 27, 28]), (16, 0, [19, 26, 27, 28]), (17, 0, [18, 19, 26, 27, 28]), (18, 1, [19, 26, 27, 28]), (20, 0, [21, 26, 27, 28]), (21, 1, [26, 27, 28]), (22, 0, [23, 26, 27, 28]), (23, 1, [26, 27, 28]), (24, 0, [25, 26, 27, 28]), (25, 1, [26, 27, 28]), (11, 3, []), (15, 0, [19, 26, 27, 28]), (19, 0, [26, 27, 28]), (26, 0, [27, 28]), (27, 3, []), (28, 0, [])] mx_ (by kernel_rfl) (by simp) ?_
        apply WL.pure
        · rfl
        · rfl
        · skip
          refine WO.fieldAddr rfl fo_27_2 rfl ?_
          exact WO.nil ⟨rfl, rfl⟩
        apply WL.read
        · rfl
        · rfl
        · skip
          refine WO.load rfl sc_3 (by first | exact in0 | exact in1 | exact in2 | exact in3 | exact in4 | exact in5 | exact in6) rfl rfl ?_
          exact WO.nil ⟨rfl, rfl⟩
        apply WL.pure
        · rfl
        · rfl
        · skip
          refine WO.fieldAddr rfl fo_27_3 rfl ?_
          exact WO.nil ⟨rfl, rfl⟩
        apply WL.read
        · rfl
        · rfl
        · skip
          refine WO.load rfl sc_9 (by first | exact in0 | exact in1 | exact in2 | exact in3 | exact in4 | exact in5 | exact in6) rfl rfl ?_
          exact WO.nil ⟨rfl, rfl⟩
        apply WL.pure
        · rfl
        · rfl
        · skip
          refine WO.move rfl rfl ?_
          exact WO.nil ⟨rfl, rfl⟩
        apply WL.pure
        · rfl
        · rfl
        · skip
          refine WO.fieldAddr rfl fo_27_4 rfl ?_
          exact WO.nil ⟨rfl, rfl⟩
        apply WL.read
        · rfl
        · rfl
        · skip
          refine WO.load rfl sc_9 (by first | exact in0 | exact in1 | exact in2 | exact in3 | exact in4 | exact in5 | exact in6) rfl rfl ?_
          exact WO.nil ⟨rfl, rfl⟩
        apply WL.pure
        · rfl
        · rfl
        · skip
          refine WO.fieldAddr rfl fo_27_5 rfl ?_
          exact WO.nil ⟨rfl, rfl⟩
        apply WL.read
        · rfl
        · rfl
        · skip
          refine WO.load rfl sc_9 (by first | exact in0 | exact in1 | exact in2 | exact in3 | exact in4 | exact in5 | exact in6) rfl rfl ?_
          exact WO.nil ⟨rfl, rfl⟩
        apply WL.pure
        · rfl
        · rfl
        · skip
          refine WO.fieldAddr rfl fo_27_6 rfl ?_
          exact WO.nil ⟨rfl, rfl⟩
        apply WL.read
        · rfl
        · rfl
        · skip
          refine WO.load rfl sc_9 (by first | exact in0 | exact in1 | exact in2 | exact in3 | exact in4 | exact in5 | exact in6) rfl rfl ?_
          exact WO.nil ⟨rfl, rfl⟩
        apply WL.pure
        · rfl
        · rfl
        · skip
          refine WO.move rfl rfl ?_
          exact WO.nil ⟨rfl, rfl⟩
        apply WL.pure
        · rfl
        · rfl
        · skip
          refine WO.fieldAddr rfl fo_37_1 rfl ?_
          exact WO.nil ⟨rfl, rfl⟩
        apply WL.read
        · rfl
        · rfl
        · skip
          refine WO.load rfl sc_3 (by first | exact in0 | exact in1 | exact in2 | exact in3 | exact in4 | exact in5 | exact in6) rfl rfl ?_
          exact WO.nil ⟨rfl, rfl⟩
        apply WL.pure
        · rfl
        · rfl
        · skip
          refine WO.move rfl rfl ?_
          exact WO.nil ⟨rfl, rfl⟩
        apply WL.pure
        · rfl
        · rfl
        · skip
          refine WO.fieldAddr rfl fo_37_2 rfl ?_
          exact WO.nil ⟨rfl, rfl⟩
        apply WL.read
        · rfl
        · rfl
        · skip
          refine WO.load rfl sc_3 (by first | exact in0 | exact in1 | exact in2 | exact in3 | exact in4 | exact in5 | exact in6) rfl rfl ?_
          exact WO.nil ⟨rfl, rfl⟩
        apply WL.pure
        · rfl
        · rfl
        · skip
          refine WO.fieldAddr rfl fo_27_4 rfl ?_
          exact WO.nil ⟨rfl, rfl⟩
        apply WL.read
        · rfl
        · rfl
        · skip
          refine WO.load rfl sc_9 (by first | exact in0 | exact in1 | exact in2 | exact in3 | exact in4 | exact in5 | exact in6) rfl rfl ?_
          exact WO.nil ⟨rfl, rfl⟩
        apply WL.pure
        · rfl
        · rfl
        · skip
          refine WO.fieldAddr rfl fo_27_5 rfl ?_
          exact WO.nil ⟨rfl, rfl⟩
        apply WL.read
        · rfl
        · rfl
        · skip
          refine WO.load rfl sc_9 (by first | exact in0 | exact in1 | exact in2 | exact in3 | exact in4 | exact in5 | exact in6) rfl rfl ?_
          exact WO.nil ⟨rfl, rfl⟩
        apply WL.pure
        · rfl
        · rfl
        · skip
          refine WO.fieldAddr rfl fo_27_6 rfl ?_
          exact WO.nil ⟨rfl, rfl⟩
        apply WL.read
        · rfl
        · rfl
        · skip
          refine WO.load rfl sc_9 (by first | exact in0 | exact in1 | exact in2 | exact in3 | exact in4 | exact in5 | exact in6) rfl rfl ?_
          exact WO.nil ⟨rfl, rfl⟩
        refine WL.effG rfl (by simp) ?_
        refine WO.callQ (s_Print x.method x.path x.body ?_ ?_ ?_) rfl ca_21 rfl ?_
        · omega
        · omega
        · omega
        rintro _ ⟨pr, hpr, rfl⟩
        refine WO.nil (capN ⟨(by first | exact ⟨[], rfl⟩ | exact ⟨[_], rfl⟩), ?_⟩)
        apply WL.pure
        · rfl
        · rfl
        · skip
          refine WO.callP (s_num_Plus now _) rfl ca_22 rfl ?_
          exact WO.nil ⟨rfl, rfl⟩
        apply WL.pure
        · rfl
        · rfl
        · skip
          refine WO.callP (s_num_Plus now _) rfl ca_22 rfl ?_
          exact WO.nil ⟨rfl, rfl⟩
        apply WL.pure
        · rfl
        · rfl
        · skip
          refine WO.buildQ (cs := [_, _, _, _, _, _, _, _, _, _, _, _, _, _]) rfl lay_23 zo_23 rfl rfl ?_
          exact WO.nil ⟨rfl, rfl⟩
        refine WL.eff rfl rfl ?_
        first | refine WO.storeAll 0 rfl rfl rfl rfl ag_23 rfl (by rfl) ?_ | refine WO.storeAll 1 rfl rfl rfl rfl ag_23 rfl (by rfl) ?_ | refine WO.storeAll 2 rfl rfl rfl rfl ag_23 rfl (by rfl) ?_ | refine WO.storeAll 3 rfl rfl rfl rfl ag_23 rfl (by rfl) ?_ | refine WO.storeAll 4 rfl rfl rfl rfl ag_23 rfl (by rfl) ?_ | refine WO.storeAll 5 rfl rfl rfl rfl ag_23 rfl (by rfl) ?_ | refine WO.storeAgg 0 rfl rfl rfl rfl ag_23 rfl (by simp [ints, Value.oneCell']) (Nat.le_of_ble_eq_true rfl) _ rfl ?_ | refine WO.storeAgg 1 rfl rfl rfl rfl ag_23 rfl (by simp [ints, Value.oneCell']) (Nat.le_of_ble_eq_true rfl) _ rfl ?_ | refine WO.storeAgg 2 rfl rfl rfl rfl ag_23 rfl (by simp [ints, Value.oneCell']) (Nat.le_of_ble_eq_true rfl) _ rfl ?_
        refine WO.nil (capN ?_)
        apply WL.pure
        · rfl
        · rfl
        · skip
          refine WO.assign rfl rfl ?_
          exact WO.nil ⟨rfl, rfl⟩
        refine WL.nil ?_
        refine thnN ?_
        refine WP.ret ?_
        refine ⟨_, [G], Res.cell2 rfl rfl ag_23 (by first | exact in0 | exact in1 | exact in2 | exact in3 | exact in4 | exact in5 | exact in6) rfl rfl, (by first | exact Imp.refl _ | exact Imp.pick 0 rfl | exact Imp.pick 1 rfl | exact Imp.pick 2 rfl | exact Imp.pick 3 rfl | exact Imp.pick 4 rfl | exact Imp.pick 5 rfl | exact Imp.pick 6 rfl), ?_⟩
        refine ⟨⟨pr, hpr, ?_⟩, rfl⟩
        rw [begin_0 hx (by omega) (by omega)]; rfl

end Go.Proofs.YtpaipfceibcbkaaDoor
