/- Walks: what functions of the program answer, over the logic of footprints. Written by wip/tools/gen.py out of a spec of this session's. -/
import Derived.Test.YtpaipfceibcbkaaDoorF
import Derived.Test.YtpaipfceibcbkaaDoorM21
set_option linter.unusedVariables false
set_option linter.unusedSimpArgs false
set_option maxRecDepth 100000
namespace Go.Proofs.YtpaipfceibcbkaaDoor
open Go.SL Go.Proofs.YtpaipfceibcbkaaDoor
open Go.Law21

theorem s_num_within (n lo hi : Int) (hy0 : lo ≤ hi) : CallsS P 28 [.int .i64 (n), .int .i64 (lo), .int .i64 (hi)] [] (fun v L => v = .int .i64 (min (max n lo) hi) ∧ L = []) := by
  refine CallsS.intro Tryd.func28 rfl rfl rfl rfl ?_
  refine WP.seq ?_
  refine WP.region ?_
  refine WO.assign rfl rfl ?_
  refine WO.nil ?_
  refine thnN ?_
  refine WP.seq ?_
  refine WP.region ?_
  refine WO.move rfl rfl ?_
  refine WO.move rfl rfl ?_
  refine WO.max2 rfl rfl rfl ?_
  refine WO.move rfl rfl ?_
  refine WO.min2 rfl rfl rfl ?_
  refine WO.assign rfl rfl ?_
  refine WO.nil ?_
  refine thnN ?_
  refine WP.ret ?_
  refine ⟨_, [], (Res.one rfl), (Imp.nil _), ?_⟩
  refine ⟨?_, rfl⟩
  first | rfl | (congr 1; omega)

theorem s_r06_Bring (n lo hi : Int) (hy0 : lo ≤ hi) : CallsS P 29 [.int .i64 (n), .int .i64 (lo), .int .i64 (hi)] [] (fun v L => v = .int .i64 (min (max n lo) hi) ∧ L = []) := by
  refine CallsS.intro Tryd.func29 rfl rfl rfl rfl ?_
  refine WP.seq ?_
  refine WP.region ?_
  refine WO.assign rfl rfl ?_
  refine WO.nil ?_
  refine thnN ?_
  refine WP.seq ?_
  refine WP.seq ?_
  refine WP.region ?_
  refine WO.move rfl rfl ?_
  refine WO.move rfl rfl ?_
  refine WO.lssI rfl rfl rfl ?_
  refine WO.nil ?_
  refine thnN ?_
  refine WP.condL 9 rfl (fun h1 => ?_) (fun h2 => ?_)
  · try simp only [decide_eq_true_eq, decide_eq_false_iff_not, beq_iff_eq, beq_eq_false_iff_ne, bne_iff_ne, bne_eq_false_iff_eq, Bool.not_eq_true', Bool.not_eq_false', Int.not_lt, Int.not_le, ne_eq] at h1
    refine WP.seq ?_
    refine WP.region ?_
    refine WO.move rfl rfl ?_
    refine WO.assign rfl rfl ?_
    refine WO.nil ?_
    refine thnN ?_
    refine WP.ret ?_
    refine thnR ?_
    refine ⟨_, [], (Res.one rfl), (Imp.nil _), ?_⟩
    refine ⟨?_, rfl⟩
    first | rfl | (congr 1; omega)
  · try simp only [decide_eq_true_eq, decide_eq_false_iff_not, beq_iff_eq, beq_eq_false_iff_ne, bne_iff_ne, bne_eq_false_iff_eq, Bool.not_eq_true', Bool.not_eq_false', Int.not_lt, Int.not_le, ne_eq] at h2
    refine WP.skip ?_
    refine thnN ?_
    refine WP.seq ?_
    refine WP.seq ?_
    refine WP.region ?_
    refine WO.move rfl rfl ?_
    refine WO.move rfl rfl ?_
    refine WO.gtrI rfl rfl rfl ?_
    refine WO.nil ?_
    refine thnN ?_
    refine WP.condL 13 rfl (fun h3 => ?_) (fun h4 => ?_)
    · try simp only [decide_eq_true_eq, decide_eq_false_iff_not, beq_iff_eq, beq_eq_false_iff_ne, bne_iff_ne, bne_eq_false_iff_eq, Bool.not_eq_true', Bool.not_eq_false', Int.not_lt, Int.not_le, ne_eq] at h3
      refine WP.seq ?_
      refine WP.region ?_
      refine WO.move rfl rfl ?_
      refine WO.assign rfl rfl ?_
      refine WO.nil ?_
      refine thnN ?_
      refine WP.ret ?_
      refine thnR ?_
      refine ⟨_, [], (Res.one rfl), (Imp.nil _), ?_⟩
      refine ⟨?_, rfl⟩
      first | rfl | (congr 1; omega)
    · try simp only [decide_eq_true_eq, decide_eq_false_iff_not, beq_iff_eq, beq_eq_false_iff_ne, bne_iff_ne, bne_eq_false_iff_eq, Bool.not_eq_true', Bool.not_eq_false', Int.not_lt, Int.not_le, ne_eq] at h4
      refine WP.skip ?_
      refine thnN ?_
      refine WP.seq ?_
      refine WP.region ?_
      refine WO.move rfl rfl ?_
      refine WO.assign rfl rfl ?_
      refine WO.nil ?_
      refine thnN ?_
      refine WP.ret ?_
      refine ⟨_, [], (Res.one rfl), (Imp.nil _), ?_⟩
      refine ⟨?_, rfl⟩
      first | rfl | (congr 1; omega)

theorem s_num_Time (n : Int) : CallsS P 17 [.int .i64 (n)] [] (fun v L => v = .int .i64 (timeF n) ∧ L = []) := by
  refine CallsS.intro Tryd.func17 rfl rfl rfl rfl ?_
  refine WP.seq ?_
  refine WP.region ?_
  refine WO.assign rfl rfl ?_
  refine WO.nil ?_
  refine thnN ?_
  refine WP.seq ?_
  refine WP.region ?_
  refine WO.move rfl rfl ?_
  refine WO.callP (s_num_within _ _ _ ?_) rfl ca_28 rfl ?_
  · decide
  refine WO.assign rfl rfl ?_
  refine WO.nil ?_
  refine thnN ?_
  refine WP.ret ?_
  refine ⟨_, [], (Res.one rfl), (Imp.nil _), ?_⟩
  exact ⟨rfl, rfl⟩

theorem s_r06_Time (n : Int) : CallsS P 18 [.int .i64 (n)] [] (fun v L => v = .int .i64 (timeF n) ∧ L = []) := by
  refine CallsS.intro Tryd.func18 rfl rfl rfl rfl ?_
  refine WP.seq ?_
  refine WP.region ?_
  refine WO.assign rfl rfl ?_
  refine WO.nil ?_
  refine thnN ?_
  refine WP.seq ?_
  refine WP.region ?_
  refine WO.move rfl rfl ?_
  refine WO.callP (s_r06_Bring _ _ _ ?_) rfl ca_29 rfl ?_
  · decide
  refine WO.assign rfl rfl ?_
  refine WO.nil ?_
  refine thnN ?_
  refine WP.ret ?_
  refine ⟨_, [], (Res.one rfl), (Imp.nil _), ?_⟩
  exact ⟨rfl, rfl⟩

theorem s_num_number (n : Int) : CallsS P 36 [.int .i64 (n)] [] (fun v L => v = .int .i64 (numF n) ∧ L = []) := by
  refine CallsS.intro Tryd.func36 rfl rfl rfl rfl ?_
  refine WP.seq ?_
  refine WP.region ?_
  refine WO.assign rfl rfl ?_
  refine WO.nil ?_
  refine thnN ?_
  refine WP.seq ?_
  refine WP.region ?_
  refine WO.move rfl rfl ?_
  refine WO.callP (s_num_within _ _ _ ?_) rfl ca_28 rfl ?_
  · decide
  refine WO.assign rfl rfl ?_
  refine WO.nil ?_
  refine thnN ?_
  refine WP.ret ?_
  refine ⟨_, [], (Res.one rfl), (Imp.nil _), ?_⟩
  exact ⟨rfl, rfl⟩

theorem s_num_Plus (t s : Int) : CallsS P 22 [.int .i64 (t), .int .i64 (s)] [] (fun v L => v = .int .i64 (plusF t s) ∧ L = []) := by
  have ht := timeF_range t
  have hs := numF_range s
  refine CallsS.intro Tryd.func22 rfl rfl rfl rfl ?_
  refine WP.seq ?_
  refine WP.region ?_
  refine WO.assign rfl rfl ?_
  refine WO.nil ?_
  refine thnN ?_
  refine WP.seq ?_
  refine WP.region ?_
  refine WO.move rfl rfl ?_
  refine WO.callP (s_num_Time _) rfl ca_17 rfl ?_
  refine WO.move rfl rfl ?_
  refine WO.callP (s_num_number _) rfl ca_36 rfl ?_
  refine WO.add rfl rfl (by first | exact wrap_i64 (by omega) (by omega) | rfl) rfl ?_
  refine WO.callP (s_num_Time _) rfl ca_17 rfl ?_
  refine WO.assign rfl rfl ?_
  refine WO.nil ?_
  refine thnN ?_
  refine WP.ret ?_
  refine ⟨_, [], (Res.one rfl), (Imp.nil _), ?_⟩
  exact ⟨rfl, rfl⟩

theorem s_num_Config (c : Conf) : CallsS P 20 [confV c] [] (fun v L => v = confV (confF c) ∧ L = []) := by
  refine CallsS.intro Tryd.func20 rfl rfl rfl rfl ?_
  refine WP.seq ?_
  refine WP.region ?_
  refine WO.box rfl rfl rfl (fun b0 => ?_)
  refine WO.alloc zo_37 rfl (fun b1 => ?_)
  refine WO.nil ?_
  refine thnN ?_
  refine WP.seq ?_
  refine WP.regionD [] [0, 0, 0, 0, 0, 0, 0, 0, 0, 0, 0, 0, 0, 0, 0, 0, 0, 0, 0, 2] [(0, 0, [1, 2, 5, 8, 11, 14, 17, 18, 19]), (1, 1, [2, 5, 8, 11, 14, 17, 18, 19]), (2, 0, [5, 8, 11, 14, 17, 18, 19]), (3, 0, [4, 5, 8, 11, 14, 17, 18, 19]), (4, 1, [5, 8, 11, 14, 17, 18, 19]), (5, 0, [8, 11, 14, 17, 18, 19]), (6, 0, [7, 8, 11, 14, 17, 18, 19]), (7, 1, [8, 11, 14, 17, 18, 19]), (8, 0, [11, 14, 17, 18, 19]), (9, 0, [10, 11, 14, 17, 18, 19]), (10, 1, [11, 14, 17, 18, 19]), (11, 0, [14, 17, 18, 19]), (12, 0, [13, 14, 17, 18, 19]), (13, 1, [14, 17, 18, 19]), (14, 0, [17, 18, 19]), (15, 0, [16, 17, 18, 19]), (16, 1, [17, 18, 19]), (17, 0, [18, 19]), (18, 0, [19]), (19, 3, [])] mx_ (by kernel_rfl) (by simp) ?_
  apply WL.pure
  · rfl
  · rfl
  · skip
    refine WO.fieldAddr rfl fo_37_0 rfl ?_
    exact WO.nil ⟨rfl, rfl⟩
  apply WL.read
  · rfl
  · rfl
  · skip
    refine WO.load rfl sc_3 (by first | exact in0 | exact in1 | exact in2 | exact in3 | exact in4 | exact in5 | exact in6) rfl rfl ?_
    exact WO.nil ⟨rfl, rfl⟩
  apply WL.pure
  · rfl
  · rfl
  · skip
    refine WO.callP (s_num_within _ _ _ ?_) rfl ca_28 rfl ?_
    · decide
    exact WO.nil ⟨rfl, rfl⟩
  apply WL.pure
  · rfl
  · rfl
  · skip
    refine WO.fieldAddr rfl fo_37_1 rfl ?_
    exact WO.nil ⟨rfl, rfl⟩
  apply WL.read
  · rfl
  · rfl
  · skip
    refine WO.load rfl sc_3 (by first | exact in0 | exact in1 | exact in2 | exact in3 | exact in4 | exact in5 | exact in6) rfl rfl ?_
    exact WO.nil ⟨rfl, rfl⟩
  apply WL.pure
  · rfl
  · rfl
  · skip
    refine WO.callP (s_num_within _ _ _ ?_) rfl ca_28 rfl ?_
    · decide
    exact WO.nil ⟨rfl, rfl⟩
  apply WL.pure
  · rfl
  · rfl
  · skip
    refine WO.fieldAddr rfl fo_37_2 rfl ?_
    exact WO.nil ⟨rfl, rfl⟩
  apply WL.read
  · rfl
  · rfl
  · skip
    refine WO.load rfl sc_3 (by first | exact in0 | exact in1 | exact in2 | exact in3 | exact in4 | exact in5 | exact in6) rfl rfl ?_
    exact WO.nil ⟨rfl, rfl⟩
  apply WL.pure
  · rfl
  · rfl
  · skip
    refine WO.callP (s_num_within _ _ _ ?_) rfl ca_28 rfl ?_
    · decide
    exact WO.nil ⟨rfl, rfl⟩
  apply WL.pure
  · rfl
  · rfl
  · skip
    refine WO.fieldAddr rfl fo_37_3 rfl ?_
    exact WO.nil ⟨rfl, rfl⟩
  apply WL.read
  · rfl
  · rfl
  · skip
    refine WO.load rfl sc_3 (by first | exact in0 | exact in1 | exact in2 | exact in3 | exact in4 | exact in5 | exact in6) rfl rfl ?_
    exact WO.nil ⟨rfl, rfl⟩
  apply WL.pure
  · rfl
  · rfl
  · skip
    refine WO.callP (s_num_within _ _ _ ?_) rfl ca_28 rfl ?_
    · decide
    exact WO.nil ⟨rfl, rfl⟩
  apply WL.pure
  · rfl
  · rfl
  · skip
    refine WO.fieldAddr rfl fo_37_4 rfl ?_
    exact WO.nil ⟨rfl, rfl⟩
  apply WL.read
  · rfl
  · rfl
  · skip
    refine WO.load rfl sc_3 (by first | exact in0 | exact in1 | exact in2 | exact in3 | exact in4 | exact in5 | exact in6) rfl rfl ?_
    exact WO.nil ⟨rfl, rfl⟩
  apply WL.pure
  · rfl
  · rfl
  · skip
    refine WO.callP (s_num_within _ _ _ ?_) rfl ca_28 rfl ?_
    · decide
    exact WO.nil ⟨rfl, rfl⟩
  apply WL.pure
  · rfl
  · rfl
  · skip
    refine WO.fieldAddr rfl fo_37_5 rfl ?_
    exact WO.nil ⟨rfl, rfl⟩
  apply WL.read
  · rfl
  · rfl
  · skip
    refine WO.load rfl sc_3 (by first | exact in0 | exact in1 | exact in2 | exact in3 | exact in4 | exact in5 | exact in6) rfl rfl ?_
    exact WO.nil ⟨rfl, rfl⟩
  apply WL.pure
  · rfl
  · rfl
  · skip
    refine WO.callP (s_num_within _ _ _ ?_) rfl ca_28 rfl ?_
    · decide
    exact WO.nil ⟨rfl, rfl⟩
  apply WL.pure
  · rfl
  · rfl
  · skip
    refine WO.buildQ (cs := [_, _, _, _, _, _]) rfl lay_37 zo_37 rfl rfl ?_
    exact WO.nil ⟨rfl, rfl⟩
  refine WL.eff rfl rfl ?_
  first | refine WO.storeAll 0 rfl rfl rfl rfl ag_37 rfl (by rfl) ?_ | refine WO.storeAll 1 rfl rfl rfl rfl ag_37 rfl (by rfl) ?_ | refine WO.storeAll 2 rfl rfl rfl rfl ag_37 rfl (by rfl) ?_ | refine WO.storeAll 3 rfl rfl rfl rfl ag_37 rfl (by rfl) ?_ | refine WO.storeAll 4 rfl rfl rfl rfl ag_37 rfl (by rfl) ?_ | refine WO.storeAll 5 rfl rfl rfl rfl ag_37 rfl (by rfl) ?_ | refine WO.storeAgg 0 rfl rfl rfl rfl ag_37 rfl (by simp [ints, Value.oneCell']) (Nat.le_of_ble_eq_true rfl) _ rfl ?_ | refine WO.storeAgg 1 rfl rfl rfl rfl ag_37 rfl (by simp [ints, Value.oneCell']) (Nat.le_of_ble_eq_true rfl) _ rfl ?_ | refine WO.storeAgg 2 rfl rfl rfl rfl ag_37 rfl (by simp [ints, Value.oneCell']) (Nat.le_of_ble_eq_true rfl) _ rfl ?_
  refine WO.nil (capN ?_)
  refine WL.nil ?_
  refine thnN ?_
  refine WP.ret ?_
  refine ⟨_, [], Res.cell1 rfl ag_37 (by first | exact in0 | exact in1 | exact in2 | exact in3 | exact in4 | exact in5 | exact in6) rfl rfl, (Imp.nil _), ?_⟩
  exact ⟨rfl, rfl⟩

theorem s_num_Next (n : Int) (hy0 : i64 n) : CallsS P 24 [.int .i64 (n)] [] (fun v L => v = .tuple #[.int .i64 (nextV n), .int .i64 (nextE n)] ∧ L = []) := by
  unfold i64 at hy0
  refine CallsS.intro Tryd.func24 rfl rfl rfl rfl ?_
  refine WP.seq ?_
  refine WP.region ?_
  refine WO.assign rfl rfl ?_
  refine WO.assign rfl rfl ?_
  refine WO.nil ?_
  refine thnN ?_
  refine WP.seq ?_
  refine WP.block ?_
  refine WP.seq ?_
  refine WP.region ?_
  refine WO.move rfl rfl ?_
  refine WO.lssI rfl rfl rfl ?_
  refine WO.assign rfl rfl ?_
  refine WO.nil ?_
  refine thnN ?_
  refine WP.condL 4 rfl (fun h1 => ?_) (fun h2 => ?_)
  · try simp only [decide_eq_true_eq, decide_eq_false_iff_not, beq_iff_eq, beq_eq_false_iff_ne, bne_iff_ne, bne_eq_false_iff_eq, Bool.not_eq_true', Bool.not_eq_false', Int.not_lt, Int.not_le, ne_eq] at h1
    refine WP.seq ?_
    refine WP.region ?_
    refine WO.assign rfl rfl ?_
    refine WO.assign rfl rfl ?_
    refine WO.nil ?_
    refine thnN ?_
    refine WP.ret ?_
    refine blkR ?_
    refine thnR ?_
    refine ⟨_, [], (Res.two rfl rfl), (Imp.nil _), ?_⟩
    refine ⟨?_, rfl⟩
    unfold nextV nextE
    simp_all <;> omega
  · try simp only [decide_eq_true_eq, decide_eq_false_iff_not, beq_iff_eq, beq_eq_false_iff_ne, bne_iff_ne, bne_eq_false_iff_eq, Bool.not_eq_true', Bool.not_eq_false', Int.not_lt, Int.not_le, ne_eq] at h2
    refine WP.seq ?_
    refine WP.region ?_
    refine WO.move rfl rfl ?_
    refine WO.geqI rfl rfl rfl ?_
    refine WO.assign rfl rfl ?_
    refine WO.nil ?_
    refine thnN ?_
    refine WP.condL 7 rfl (fun h3 => ?_) (fun h4 => ?_)
    · try simp only [decide_eq_true_eq, decide_eq_false_iff_not, beq_iff_eq, beq_eq_false_iff_ne, bne_iff_ne, bne_eq_false_iff_eq, Bool.not_eq_true', Bool.not_eq_false', Int.not_lt, Int.not_le, ne_eq] at h3
      refine WP.seq ?_
      refine WP.region ?_
      refine WO.assign rfl rfl ?_
      refine WO.assign rfl rfl ?_
      refine WO.nil ?_
      refine thnN ?_
      refine WP.ret ?_
      refine blkR ?_
      refine thnR ?_
      refine ⟨_, [], (Res.two rfl rfl), (Imp.nil _), ?_⟩
      refine ⟨?_, rfl⟩
      unfold nextV nextE
      simp_all <;> omega
    · try simp only [decide_eq_true_eq, decide_eq_false_iff_not, beq_iff_eq, beq_eq_false_iff_ne, bne_iff_ne, bne_eq_false_iff_eq, Bool.not_eq_true', Bool.not_eq_false', Int.not_lt, Int.not_le, ne_eq] at h4
      refine WP.skip ?_
      refine blkN ?_
      refine thnN ?_
      refine WP.seq ?_
      refine WP.region ?_
      refine WO.move rfl rfl ?_
      refine WO.add rfl rfl (by first | exact wrap_i64 (by omega) (by omega) | rfl) rfl ?_
      refine WO.assign rfl rfl ?_
      refine WO.assign rfl rfl ?_
      refine WO.nil ?_
      refine thnN ?_
      refine WP.ret ?_
      refine ⟨_, [], (Res.two rfl rfl), (Imp.nil _), ?_⟩
      refine ⟨?_, rfl⟩
      unfold nextV nextE
      simp_all <;> omega

theorem s_lease_Held (e : Ent) (now : Int) : CallsS P 8 [entV e, .int .i64 (now)] [] (fun v L => v = .bool (heldF e now) ∧ L = []) := by
  refine CallsS.intro Tryd.func8 rfl rfl rfl rfl ?_
  refine WP.seq ?_
  refine WP.region ?_
  refine WO.box rfl rfl rfl (fun b0 => ?_)
  refine WO.assign rfl rfl ?_
  refine WO.nil ?_
  refine thnN ?_
  refine WP.seq ?_
  refine WP.regionD [] [0, 0, 0, 0, 0, 0, 0, 0, 0, 0, 0] [(0, 0, [1, 2, 3, 4, 5, 6, 7, 8, 9, 10]), (1, 1, [2, 3, 4, 5, 6, 7, 8, 9, 10]), (2, 0, [3, 4, 5, 6, 7, 8, 9, 10]), (3, 0, [4, 5, 6, 7, 8, 9, 10]), (4, 0, [5, 8, 9, 10]), (5, 1, [8, 9, 10]), (6, 0, [7, 8, 9, 10]), (7, 0, [8, 9, 10]), (8, 0, [9, 10]), (9, 0, [10]), (10, 0, [])] mx_ (by kernel_rfl) (by simp) ?_
  apply WL.pure
  · rfl
  · rfl
  · skip
    refine WO.fieldAddr rfl fo_23_2 rfl ?_
    exact WO.nil ⟨rfl, rfl⟩
  apply WL.read
  · rfl
  · rfl
  · skip
    refine WO.load rfl sc_3 (by first | exact in0 | exact in1 | exact in2 | exact in3 | exact in4 | exact in5 | exact in6) rfl rfl ?_
    exact WO.nil ⟨rfl, rfl⟩
  apply WL.pure
  · rfl
  · rfl
  · skip
    refine WO.eqlI rfl rfl rfl ?_
    exact WO.nil ⟨rfl, rfl⟩
  apply WL.pure
  · rfl
  · rfl
  · skip
    refine WO.move rfl rfl ?_
    exact WO.nil ⟨rfl, rfl⟩
  refine WL.split 8 rfl (fun h1 => ?_) (fun h2 => ?_)
  · try simp only [decide_eq_true_eq, decide_eq_false_iff_not, beq_iff_eq, beq_eq_false_iff_ne, bne_iff_ne, bne_eq_false_iff_eq, Bool.not_eq_true', Bool.not_eq_false', Int.not_lt, Int.not_le, ne_eq] at h1
    apply WL.pure
    · rfl
    · rfl
    · skip
      refine WO.want 8 rfl rfl ?_
      refine WO.fieldAddr rfl fo_23_7 rfl ?_
      exact WO.nil ⟨rfl, rfl⟩
    apply WL.read
    · rfl
    · rfl
    · skip
      refine WO.want 8 rfl rfl ?_
      refine WO.load rfl sc_3 (by first | exact in0 | exact in1 | exact in2 | exact in3 | exact in4 | exact in5 | exact in6) rfl rfl ?_
      exact WO.nil ⟨rfl, rfl⟩
    apply WL.pure
    · rfl
    · rfl
    · skip
      refine WO.want 8 rfl rfl ?_
      refine WO.move rfl rfl ?_
      exact WO.nil ⟨rfl, rfl⟩
    apply WL.pure
    · rfl
    · rfl
    · skip
      refine WO.want 8 rfl rfl ?_
      refine WO.callP (s_num_Time _) rfl ca_17 rfl ?_
      exact WO.nil ⟨rfl, rfl⟩
    apply WL.pure
    · rfl
    · rfl
    · skip
      refine WO.want 8 rfl rfl ?_
      refine WO.gtrI rfl rfl rfl ?_
      exact WO.nil ⟨rfl, rfl⟩
    apply WL.pure
    · rfl
    · rfl
    · skip
      refine WO.pickT rfl rfl rfl ?_
      exact WO.nil ⟨rfl, rfl⟩
    apply WL.pure
    · rfl
    · rfl
    · skip
      refine WO.assign rfl rfl ?_
      exact WO.nil ⟨rfl, rfl⟩
    refine WL.nil ?_
    refine thnN ?_
    refine WP.ret ?_
    refine ⟨_, [], (Res.one rfl), (Imp.nil _), ?_⟩
    refine ⟨?_, rfl⟩
    first | rfl | (simp_all [heldF]; done) | (simp_all [heldF]; omega) | (congr 1; first | rfl | (simp_all [heldF]; done) | (simp_all [heldF]; omega))
  · try simp only [decide_eq_true_eq, decide_eq_false_iff_not, beq_iff_eq, beq_eq_false_iff_ne, bne_iff_ne, bne_eq_false_iff_eq, Bool.not_eq_true', Bool.not_eq_false', Int.not_lt, Int.not_le, ne_eq] at h2
    apply WL.pure
    · rfl
    · rfl
    · skip
      refine WO.pass 8 rfl rfl rfl rfl ?_
      exact WO.nil ⟨rfl, rfl⟩
    apply WL.read
    · rfl
    · rfl
    · skip
      refine WO.pass 8 rfl rfl rfl rfl ?_
      exact WO.nil ⟨rfl, rfl⟩
    apply WL.pure
    · rfl
    · rfl
    · skip
      refine WO.pass 8 rfl rfl rfl rfl ?_
      exact WO.nil ⟨rfl, rfl⟩
    apply WL.pure
    · rfl
    · rfl
    · skip
      refine WO.pass 8 rfl rfl rfl rfl ?_
      exact WO.nil ⟨rfl, rfl⟩
    apply WL.pure
    · rfl
    · rfl
    · skip
      refine WO.pass 8 rfl rfl rfl rfl ?_
      exact WO.nil ⟨rfl, rfl⟩
    apply WL.pure
    · rfl
    · rfl
    · skip
      refine WO.pickF rfl rfl rfl ?_
      exact WO.nil ⟨rfl, rfl⟩
    apply WL.pure
    · rfl
    · rfl
    · skip
      refine WO.assign rfl rfl ?_
      exact WO.nil ⟨rfl, rfl⟩
    refine WL.nil ?_
    refine thnN ?_
    refine WP.ret ?_
    refine ⟨_, [], (Res.one rfl), (Imp.nil _), ?_⟩
    refine ⟨?_, rfl⟩
    first | rfl | (simp_all [heldF]; done) | (simp_all [heldF]; omega) | (congr 1; first | rfl | (simp_all [heldF]; done) | (simp_all [heldF]; omega))

theorem s_r21_Held (e : Ent) (now : Int) : CallsS P 9 [entV e, .int .i64 (now)] [] (fun v L => v = .bool (heldF e now) ∧ L = []) := by
  refine CallsS.intro Tryd.func9 rfl rfl rfl rfl ?_
  refine WP.seq ?_
  refine WP.region ?_
  refine WO.box rfl rfl rfl (fun b0 => ?_)
  refine WO.assign rfl rfl ?_
  refine WO.nil ?_
  refine thnN ?_
  refine WP.seq ?_
  refine WP.regionD [] [0, 0, 0, 0, 0, 0, 0, 0, 0, 0, 0] [(0, 0, [1, 2, 3, 4, 5, 6, 7, 8, 9, 10]), (1, 1, [2, 3, 4, 5, 6, 7, 8, 9, 10]), (2, 0, [3, 4, 5, 6, 7, 8, 9, 10]), (3, 0, [4, 5, 6, 7, 8, 9, 10]), (4, 0, [5, 8, 9, 10]), (5, 1, [8, 9, 10]), (6, 0, [7, 8, 9, 10]), (7, 0, [8, 9, 10]), (8, 0, [9, 10]), (9, 0, [10]), (10, 0, [])] mx_ (by kernel_rfl) (by simp) ?_
  apply WL.pure
  · rfl
  · rfl
  · skip
    refine WO.fieldAddr rfl fo_23_2 rfl ?_
    exact WO.nil ⟨rfl, rfl⟩
  apply WL.read
  · rfl
  · rfl
  · skip
    refine WO.load rfl sc_3 (by first | exact in0 | exact in1 | exact in2 | exact in3 | exact in4 | exact in5 | exact in6) rfl rfl ?_
    exact WO.nil ⟨rfl, rfl⟩
  apply WL.pure
  · rfl
  · rfl
  · skip
    refine WO.eqlI rfl rfl rfl ?_
    exact WO.nil ⟨rfl, rfl⟩
  apply WL.pure
  · rfl
  · rfl
  · skip
    refine WO.move rfl rfl ?_
    exact WO.nil ⟨rfl, rfl⟩
  refine WL.split 8 rfl (fun h1 => ?_) (fun h2 => ?_)
  · try simp only [decide_eq_true_eq, decide_eq_false_iff_not, beq_iff_eq, beq_eq_false_iff_ne, bne_iff_ne, bne_eq_false_iff_eq, Bool.not_eq_true', Bool.not_eq_false', Int.not_lt, Int.not_le, ne_eq] at h1
    apply WL.pure
    · rfl
    · rfl
    · skip
      refine WO.want 8 rfl rfl ?_
      refine WO.fieldAddr rfl fo_23_7 rfl ?_
      exact WO.nil ⟨rfl, rfl⟩
    apply WL.read
    · rfl
    · rfl
    · skip
      refine WO.want 8 rfl rfl ?_
      refine WO.load rfl sc_3 (by first | exact in0 | exact in1 | exact in2 | exact in3 | exact in4 | exact in5 | exact in6) rfl rfl ?_
      exact WO.nil ⟨rfl, rfl⟩
    apply WL.pure
    · rfl
    · rfl
    · skip
      refine WO.want 8 rfl rfl ?_
      refine WO.move rfl rfl ?_
      exact WO.nil ⟨rfl, rfl⟩
    apply WL.pure
    · rfl
    · rfl
    · skip
      refine WO.want 8 rfl rfl ?_
      refine WO.callP (s_r06_Time _) rfl ca_18 rfl ?_
      exact WO.nil ⟨rfl, rfl⟩
    apply WL.pure
    · rfl
    · rfl
    · skip
      refine WO.want 8 rfl rfl ?_
      refine WO.gtrI rfl rfl rfl ?_
      exact WO.nil ⟨rfl, rfl⟩
    apply WL.pure
    · rfl
    · rfl
    · skip
      refine WO.pickT rfl rfl rfl ?_
      exact WO.nil ⟨rfl, rfl⟩
    apply WL.pure
    · rfl
    · rfl
    · skip
      refine WO.assign rfl rfl ?_
      exact WO.nil ⟨rfl, rfl⟩
    refine WL.nil ?_
    refine thnN ?_
    refine WP.ret ?_
    refine ⟨_, [], (Res.one rfl), (Imp.nil _), ?_⟩
    refine ⟨?_, rfl⟩
    first | rfl | (simp_all [heldF]; done) | (simp_all [heldF]; omega) | (congr 1; first | rfl | (simp_all [heldF]; done) | (simp_all [heldF]; omega))
  · try simp only [decide_eq_true_eq, decide_eq_false_iff_not, beq_iff_eq, beq_eq_false_iff_ne, bne_iff_ne, bne_eq_false_iff_eq, Bool.not_eq_true', Bool.not_eq_false', Int.not_lt, Int.not_le, ne_eq] at h2
    apply WL.pure
    · rfl
    · rfl
    · skip
      refine WO.pass 8 rfl rfl rfl rfl ?_
      exact WO.nil ⟨rfl, rfl⟩
    apply WL.read
    · rfl
    · rfl
    · skip
      refine WO.pass 8 rfl rfl rfl rfl ?_
      exact WO.nil ⟨rfl, rfl⟩
    apply WL.pure
    · rfl
    · rfl
    · skip
      refine WO.pass 8 rfl rfl rfl rfl ?_
      exact WO.nil ⟨rfl, rfl⟩
    apply WL.pure
    · rfl
    · rfl
    · skip
      refine WO.pass 8 rfl rfl rfl rfl ?_
      exact WO.nil ⟨rfl, rfl⟩
    apply WL.pure
    · rfl
    · rfl
    · skip
      refine WO.pass 8 rfl rfl rfl rfl ?_
      exact WO.nil ⟨rfl, rfl⟩
    apply WL.pure
    · rfl
    · rfl
    · skip
      refine WO.pickF rfl rfl rfl ?_
      exact WO.nil ⟨rfl, rfl⟩
    apply WL.pure
    · rfl
    · rfl
    · skip
      refine WO.assign rfl rfl ?_
      exact WO.nil ⟨rfl, rfl⟩
    refine WL.nil ?_
    refine thnN ?_
    refine WP.ret ?_
    refine ⟨_, [], (Res.one rfl), (Imp.nil _), ?_⟩
    refine ⟨?_, rfl⟩
    first | rfl | (simp_all [heldF]; done) | (simp_all [heldF]; omega) | (congr 1; first | rfl | (simp_all [heldF]; done) | (simp_all [heldF]; omega))

theorem s_lease_Expired (e : Ent) (now : Int) : CallsS P 10 [entV e, .int .i64 (now)] [] (fun v L => v = .bool (expiredF e now) ∧ L = []) := by
  refine CallsS.intro Tryd.func10 rfl rfl rfl rfl ?_
  refine WP.seq ?_
  refine WP.region ?_
  refine WO.box rfl rfl rfl (fun b0 => ?_)
  refine WO.assign rfl rfl ?_
  refine WO.nil ?_
  refine thnN ?_
  refine WP.seq ?_
  refine WP.regionD [] [0, 0, 0, 0, 0, 0, 0, 0, 0, 0, 0, 0] [(0, 0, [1, 4, 5, 6, 7, 8, 9, 10, 11]), (1, 0, [4, 5, 6, 7, 8, 9, 10, 11]), (2, 0, [3, 4, 5, 6, 7, 8, 9, 10, 11]), (3, 1, [4, 5, 6, 7, 8, 9, 10, 11]), (4, 0, [5, 6, 7, 8, 9, 10, 11]), (5, 0, [6, 7, 8, 9, 10, 11]), (6, 1, [8, 9, 10, 11]), (7, 0, [8, 9, 10, 11]), (8, 0, [9, 10, 11]), (9, 0, [10, 11]), (10, 0, [11]), (11, 0, [])] mx_ (by kernel_rfl) (by simp) ?_
  apply WL.pure
  · rfl
  · rfl
  · skip
    refine WO.move rfl rfl ?_
    exact WO.nil ⟨rfl, rfl⟩
  apply WL.pure
  · rfl
  · rfl
  · skip
    refine WO.callP (s_num_Time _) rfl ca_17 rfl ?_
    exact WO.nil ⟨rfl, rfl⟩
  apply WL.pure
  · rfl
  · rfl
  · skip
    refine WO.fieldAddr rfl fo_23_8 rfl ?_
    exact WO.nil ⟨rfl, rfl⟩
  apply WL.read
  · rfl
  · rfl
  · skip
    refine WO.load rfl sc_3 (by first | exact in0 | exact in1 | exact in2 | exact in3 | exact in4 | exact in5 | exact in6) rfl rfl ?_
    exact WO.nil ⟨rfl, rfl⟩
  apply WL.pure
  · rfl
  · rfl
  · skip
    refine WO.geqI rfl rfl rfl ?_
    exact WO.nil ⟨rfl, rfl⟩
  apply WL.pure
  · rfl
  · rfl
  · skip
    refine WO.move rfl rfl ?_
    exact WO.nil ⟨rfl, rfl⟩
  refine WL.split 10 rfl (fun h1 => ?_) (fun h2 => ?_)
  · try simp only [decide_eq_true_eq, decide_eq_false_iff_not, beq_iff_eq, beq_eq_false_iff_ne, bne_iff_ne, bne_eq_false_iff_eq, Bool.not_eq_true', Bool.not_eq_false', Int.not_lt, Int.not_le, ne_eq] at h1
    apply WL.read
    · rfl
    · rfl
    · skip
      refine WO.want 10 rfl rfl ?_
      first | refine WO.loadAll rfl ag_23 (by first | exact in0 | exact in1 | exact in2 | exact in3 | exact in4 | exact in5 | exact in6) rfl rfl ?_ | refine WO.loadAgg rfl ag_23 (by first | exact in0 | exact in1 | exact in2 | exact in3 | exact in4 | exact in5 | exact in6) rfl rfl rfl ?_
      exact WO.nil ⟨rfl, rfl⟩
    apply WL.pure
    · rfl
    · rfl
    · skip
      refine WO.want 10 rfl rfl ?_
      refine WO.move rfl rfl ?_
      exact WO.nil ⟨rfl, rfl⟩
    apply WL.pure
    · rfl
    · rfl
    · skip
      refine WO.want 10 rfl rfl ?_
      refine WO.callP (s_lease_Held e now) rfl ca_8 rfl ?_
      exact WO.nil ⟨rfl, rfl⟩
    apply WL.pure
    · rfl
    · rfl
    · skip
      refine WO.want 10 rfl rfl ?_
      refine WO.not rfl rfl ?_
      exact WO.nil ⟨rfl, rfl⟩
    apply WL.pure
    · rfl
    · rfl
    · skip
      refine WO.pickT rfl rfl rfl ?_
      exact WO.nil ⟨rfl, rfl⟩
    apply WL.pure
    · rfl
    · rfl
    · skip
      refine WO.assign rfl rfl ?_
      exact WO.nil ⟨rfl, rfl⟩
    refine WL.nil ?_
    refine thnN ?_
    refine WP.ret ?_
    refine ⟨_, [], (Res.one rfl), (Imp.nil _), ?_⟩
    refine ⟨?_, rfl⟩
    first | rfl | (simp_all [expiredF]; done) | (simp_all [expiredF]; omega) | (congr 1; first | rfl | (simp_all [expiredF]; done) | (simp_all [expiredF]; omega))
  · try simp only [decide_eq_true_eq, decide_eq_false_iff_not, beq_iff_eq, beq_eq_false_iff_ne, bne_iff_ne, bne_eq_false_iff_eq, Bool.not_eq_true', Bool.not_eq_false', Int.not_lt, Int.not_le, ne_eq] at h2
    apply WL.read
    · rfl
    · rfl
    · skip
      refine WO.pass 10 rfl rfl rfl rfl ?_
      exact WO.nil ⟨rfl, rfl⟩
    apply WL.pure
    · rfl
    · rfl
    · skip
      refine WO.pass 10 rfl rfl rfl rfl ?_
      exact WO.nil ⟨rfl, rfl⟩
    apply WL.pure
    · rfl
    · rfl
    · skip
      refine WO.pass 10 rfl rfl rfl rfl ?_
      exact WO.nil ⟨rfl, rfl⟩
    apply WL.pure
    · rfl
    · rfl
    · skip
      refine WO.pass 10 rfl rfl rfl rfl ?_
      exact WO.nil ⟨rfl, rfl⟩
    apply WL.pure
    · rfl
    · rfl
    · skip
      refine WO.pickF rfl rfl rfl ?_
      exact WO.nil ⟨rfl, rfl⟩
    apply WL.pure
    · rfl
    · rfl
    · skip
      refine WO.assign rfl rfl ?_
      exact WO.nil ⟨rfl, rfl⟩
    refine WL.nil ?_
    refine thnN ?_
    refine WP.ret ?_
    refine ⟨_, [], (Res.one rfl), (Imp.nil _), ?_⟩
    refine ⟨?_, rfl⟩
    first | rfl | (simp_all [expiredF]; done) | (simp_all [expiredF]; omega) | (congr 1; first | rfl | (simp_all [expiredF]; done) | (simp_all [expiredF]; omega))

theorem s_r21_Expired (e : Ent) (now : Int) : CallsS P 11 [entV e, .int .i64 (now)] [] (fun v L => v = .bool (expiredF e now) ∧ L = []) := by
  refine CallsS.intro Tryd.func11 rfl rfl rfl rfl ?_
  refine WP.seq ?_
  refine WP.region ?_
  refine WO.box rfl rfl rfl (fun b0 => ?_)
  refine WO.assign rfl rfl ?_
  refine WO.nil ?_
  refine thnN ?_
  refine WP.seq ?_
  refine WP.regionD [] [0, 0, 0, 0, 0, 0, 0, 0, 0, 0, 0, 0] [(0, 0, [1, 4, 5, 6, 7, 8, 9, 10, 11]), (1, 1, [4, 5, 6, 7, 8, 9, 10, 11]), (2, 0, [3, 4, 5, 6, 7, 8, 9, 10, 11]), (3, 0, [4, 5, 6, 7, 8, 9, 10, 11]), (4, 0, [5, 6, 7, 8, 9, 10, 11]), (5, 0, [6, 7, 8, 9, 10, 11]), (6, 1, [8, 9, 10, 11]), (7, 0, [8, 9, 10, 11]), (8, 0, [9, 10, 11]), (9, 0, [10, 11]), (10, 0, [11]), (11, 0, [])] mx_ (by kernel_rfl) (by simp) ?_
  apply WL.pure
  · rfl
  · rfl
  · skip
    refine WO.fieldAddr rfl fo_23_8 rfl ?_
    exact WO.nil ⟨rfl, rfl⟩
  apply WL.read
  · rfl
  · rfl
  · skip
    refine WO.load rfl sc_3 (by first | exact in0 | exact in1 | exact in2 | exact in3 | exact in4 | exact in5 | exact in6) rfl rfl ?_
    exact WO.nil ⟨rfl, rfl⟩
  apply WL.pure
  · rfl
  · rfl
  · skip
    refine WO.move rfl rfl ?_
    exact WO.nil ⟨rfl, rfl⟩
  apply WL.pure
  · rfl
  · rfl
  · skip
    refine WO.callP (s_r06_Time _) rfl ca_18 rfl ?_
    exact WO.nil ⟨rfl, rfl⟩
  apply WL.pure
  · rfl
  · rfl
  · skip
    refine WO.leqI rfl rfl rfl ?_
    exact WO.nil ⟨rfl, rfl⟩
  apply WL.pure
  · rfl
  · rfl
  · skip
    refine WO.move rfl rfl ?_
    exact WO.nil ⟨rfl, rfl⟩
  refine WL.split 10 rfl (fun h1 => ?_) (fun h2 => ?_)
  · try simp only [decide_eq_true_eq, decide_eq_false_iff_not, beq_iff_eq, beq_eq_false_iff_ne, bne_iff_ne, bne_eq_false_iff_eq, Bool.not_eq_true', Bool.not_eq_false', Int.not_lt, Int.not_le, ne_eq] at h1
    apply WL.read
    · rfl
    · rfl
    · skip
      refine WO.want 10 rfl rfl ?_
      first | refine WO.loadAll rfl ag_23 (by first | exact in0 | exact in1 | exact in2 | exact in3 | exact in4 | exact in5 | exact in6) rfl rfl ?_ | refine WO.loadAgg rfl ag_23 (by first | exact in0 | exact in1 | exact in2 | exact in3 | exact in4 | exact in5 | exact in6) rfl rfl rfl ?_
      exact WO.nil ⟨rfl, rfl⟩
    apply WL.pure
    · rfl
    · rfl
    · skip
      refine WO.want 10 rfl rfl ?_
      refine WO.move rfl rfl ?_
      exact WO.nil ⟨rfl, rfl⟩
    apply WL.pure
    · rfl
    · rfl
    · skip
      refine WO.want 10 rfl rfl ?_
      refine WO.callP (s_r21_Held e now) rfl ca_9 rfl ?_
      exact WO.nil ⟨rfl, rfl⟩
    apply WL.pure
    · rfl
    · rfl
    · skip
      refine WO.want 10 rfl rfl ?_
      refine WO.not rfl rfl ?_
      exact WO.nil ⟨rfl, rfl⟩
    apply WL.pure
    · rfl
    · rfl
    · skip
      refine WO.pickT rfl rfl rfl ?_
      exact WO.nil ⟨rfl, rfl⟩
    apply WL.pure
    · rfl
    · rfl
    · skip
      refine WO.assign rfl rfl ?_
      exact WO.nil ⟨rfl, rfl⟩
    refine WL.nil ?_
    refine thnN ?_
    refine WP.ret ?_
    refine ⟨_, [], (Res.one rfl), (Imp.nil _), ?_⟩
    refine ⟨?_, rfl⟩
    first | rfl | (simp_all [expiredF]; done) | (simp_all [expiredF]; omega) | (congr 1; first | rfl | (simp_all [expiredF]; done) | (simp_all [expiredF]; omega))
  · try simp only [decide_eq_true_eq, decide_eq_false_iff_not, beq_iff_eq, beq_eq_false_iff_ne, bne_iff_ne, bne_eq_false_iff_eq, Bool.not_eq_true', Bool.not_eq_false', Int.not_lt, Int.not_le, ne_eq] at h2
    apply WL.read
    · rfl
    · rfl
    · skip
      refine WO.pass 10 rfl rfl rfl rfl ?_
      exact WO.nil ⟨rfl, rfl⟩
    apply WL.pure
    · rfl
    · rfl
    · skip
      refine WO.pass 10 rfl rfl rfl rfl ?_
      exact WO.nil ⟨rfl, rfl⟩
    apply WL.pure
    · rfl
    · rfl
    · skip
      refine WO.pass 10 rfl rfl rfl rfl ?_
      exact WO.nil ⟨rfl, rfl⟩
    apply WL.pure
    · rfl
    · rfl
    · skip
      refine WO.pass 10 rfl rfl rfl rfl ?_
      exact WO.nil ⟨rfl, rfl⟩
    apply WL.pure
    · rfl
    · rfl
    · skip
      refine WO.pickF rfl rfl rfl ?_
      exact WO.nil ⟨rfl, rfl⟩
    apply WL.pure
    · rfl
    · rfl
    · skip
      refine WO.assign rfl rfl ?_
      exact WO.nil ⟨rfl, rfl⟩
    refine WL.nil ?_
    refine thnN ?_
    refine WP.ret ?_
    refine ⟨_, [], (Res.one rfl), (Imp.nil _), ?_⟩
    refine ⟨?_, rfl⟩
    first | rfl | (simp_all [expiredF]; done) | (simp_all [expiredF]; omega) | (congr 1; first | rfl | (simp_all [expiredF]; done) | (simp_all [expiredF]; omega))

theorem s_lease_Verdict (e : Ent) (print : List UInt8) (now : Int) : CallsS P 6 [entV e, str print, .int .i64 (now)] [] (fun v L => v = .int .i64 (verdictF e print now) ∧ L = []) := by
  refine CallsS.intro Tryd.func6 rfl rfl rfl rfl ?_
  refine WP.seq ?_
  refine WP.region ?_
  refine WO.box rfl rfl rfl (fun b0 => ?_)
  refine WO.assign rfl rfl ?_
  refine WO.nil ?_
  refine thnN ?_
  refine WP.seq ?_
  refine WP.seq ?_
  refine WP.region ?_
  refine WO.fieldAddr rfl fo_23_2 rfl ?_
  refine WO.load rfl sc_3 (by first | exact in0 | exact in1 | exact in2 | exact in3 | exact in4 | exact in5 | exact in6) rfl rfl ?_
  refine WO.nil ?_
  refine thnN ?_
  refine WP.block ?_
  refine WP.seq ?_
  refine WP.seq ?_
  refine WP.region ?_
  refine WO.eqlI rfl rfl rfl ?_
  refine WO.assign rfl rfl ?_
  refine WO.nil ?_
  refine thnN ?_
  refine WP.condL 9 rfl (fun h1 => ?_) (fun h2 => ?_)
  · try simp only [decide_eq_true_eq, decide_eq_false_iff_not, beq_iff_eq, beq_eq_false_iff_ne, bne_iff_ne, bne_eq_false_iff_eq, Bool.not_eq_true', Bool.not_eq_false', Int.not_lt, Int.not_le, ne_eq] at h1
    refine WP.skip ?_
    refine thnN ?_
    refine WP.condT rfl ?_
    refine WP.skip ?_
    refine blkN ?_
    refine thnN ?_
    refine WP.seq ?_
    refine WP.block ?_
    refine WP.seq ?_
    refine WP.region ?_
    first | refine WO.loadAll rfl ag_23 (by first | exact in0 | exact in1 | exact in2 | exact in3 | exact in4 | exact in5 | exact in6) rfl rfl ?_ | refine WO.loadAgg rfl ag_23 (by first | exact in0 | exact in1 | exact in2 | exact in3 | exact in4 | exact in5 | exact in6) rfl rfl rfl ?_
    refine WO.move rfl rfl ?_
    refine WO.callP (s_lease_Expired e now) rfl ca_10 rfl ?_
    refine WO.assign rfl rfl ?_
    refine WO.nil ?_
    refine thnN ?_
    refine WP.condL 12 rfl (fun h3 => ?_) (fun h4 => ?_)
    · try simp only [decide_eq_true_eq, decide_eq_false_iff_not, beq_iff_eq, beq_eq_false_iff_ne, bne_iff_ne, bne_eq_false_iff_eq, Bool.not_eq_true', Bool.not_eq_false', Int.not_lt, Int.not_le, ne_eq] at h3
      refine WP.seq ?_
      refine WP.region ?_
      refine WO.assign rfl rfl ?_
      refine WO.nil ?_
      refine thnN ?_
      refine WP.ret ?_
      refine blkR ?_
      refine thnR ?_
      refine ⟨_, [], (Res.one rfl), (Imp.nil _), ?_⟩
      refine ⟨?_, rfl⟩
      first | rfl | (simp_all [verdictF]; done) | (simp_all [verdictF]; omega) | (congr 1; first | rfl | (simp_all [verdictF]; done) | (simp_all [verdictF]; omega))
    · try simp only [decide_eq_true_eq, decide_eq_false_iff_not, beq_iff_eq, beq_eq_false_iff_ne, bne_iff_ne, bne_eq_false_iff_eq, Bool.not_eq_true', Bool.not_eq_false', Int.not_lt, Int.not_le, ne_eq] at h4
      refine WP.seq ?_
      refine WP.region ?_
      refine WO.fieldAddr rfl fo_23_6 rfl ?_
      refine WO.load rfl sc_9 (by first | exact in0 | exact in1 | exact in2 | exact in3 | exact in4 | exact in5 | exact in6) rfl rfl ?_
      refine WO.move rfl rfl ?_
      refine WO.neqS rfl rfl rfl ?_
      refine WO.assign rfl rfl ?_
      refine WO.nil ?_
      refine thnN ?_
      refine WP.condL 16 rfl (fun h5 => ?_) (fun h6 => ?_)
      · try simp only [decide_eq_true_eq, decide_eq_false_iff_not, beq_iff_eq, beq_eq_false_iff_ne, bne_iff_ne, bne_eq_false_iff_eq, Bool.not_eq_true', Bool.not_eq_false', Int.not_lt, Int.not_le, ne_eq] at h5
        refine WP.seq ?_
        refine WP.region ?_
        refine WO.assign rfl rfl ?_
        refine WO.nil ?_
        refine thnN ?_
        refine WP.ret ?_
        refine blkR ?_
        refine thnR ?_
        refine ⟨_, [], (Res.one rfl), (Imp.nil _), ?_⟩
        refine ⟨?_, rfl⟩
        first | rfl | (simp_all [verdictF]; done) | (simp_all [verdictF]; omega) | (congr 1; first | rfl | (simp_all [verdictF]; done) | (simp_all [verdictF]; omega))
      · try simp only [decide_eq_true_eq, decide_eq_false_iff_not, beq_iff_eq, beq_eq_false_iff_ne, bne_iff_ne, bne_eq_false_iff_eq, Bool.not_eq_true', Bool.not_eq_false', Int.not_lt, Int.not_le, ne_eq] at h6
        refine WP.seq ?_
        refine WP.region ?_
        refine WO.fieldAddr rfl fo_23_2 rfl ?_
        refine WO.load rfl sc_3 (by first | exact in0 | exact in1 | exact in2 | exact in3 | exact in4 | exact in5 | exact in6) rfl rfl ?_
        refine WO.eqlI rfl rfl rfl ?_
        refine WO.assign rfl rfl ?_
        refine WO.nil ?_
        refine thnN ?_
        refine WP.condL 21 rfl (fun h7 => ?_) (fun h8 => ?_)
        · try simp only [decide_eq_true_eq, decide_eq_false_iff_not, beq_iff_eq, beq_eq_false_iff_ne, bne_iff_ne, bne_eq_false_iff_eq, Bool.not_eq_true', Bool.not_eq_false', Int.not_lt, Int.not_le, ne_eq] at h7
          refine WP.seq ?_
          refine WP.region ?_
          refine WO.assign rfl rfl ?_
          refine WO.nil ?_
          refine thnN ?_
          refine WP.ret ?_
          refine blkR ?_
          refine thnR ?_
          refine ⟨_, [], (Res.one rfl), (Imp.nil _), ?_⟩
          refine ⟨?_, rfl⟩
          first | rfl | (simp_all [verdictF]; done) | (simp_all [verdictF]; omega) | (congr 1; first | rfl | (simp_all [verdictF]; done) | (simp_all [verdictF]; omega))
        · try simp only [decide_eq_true_eq, decide_eq_false_iff_not, beq_iff_eq, beq_eq_false_iff_ne, bne_iff_ne, bne_eq_false_iff_eq, Bool.not_eq_true', Bool.not_eq_false', Int.not_lt, Int.not_le, ne_eq] at h8
          refine WP.seq ?_
          refine WP.region ?_
          first | refine WO.loadAll rfl ag_23 (by first | exact in0 | exact in1 | exact in2 | exact in3 | exact in4 | exact in5 | exact in6) rfl rfl ?_ | refine WO.loadAgg rfl ag_23 (by first | exact in0 | exact in1 | exact in2 | exact in3 | exact in4 | exact in5 | exact in6) rfl rfl rfl ?_
          refine WO.move rfl rfl ?_
          refine WO.callP (s_lease_Held e now) rfl ca_8 rfl ?_
          refine WO.assign rfl rfl ?_
          refine WO.nil ?_
          refine thnN ?_
          refine WP.condL 25 rfl (fun h9 => ?_) (fun h10 => ?_)
          · try simp only [decide_eq_true_eq, decide_eq_false_iff_not, beq_iff_eq, beq_eq_false_iff_ne, bne_iff_ne, bne_eq_false_iff_eq, Bool.not_eq_true', Bool.not_eq_false', Int.not_lt, Int.not_le, ne_eq] at h9
            refine WP.seq ?_
            refine WP.region ?_
            refine WO.assign rfl rfl ?_
            refine WO.nil ?_
            refine thnN ?_
            refine WP.ret ?_
            refine blkR ?_
            refine thnR ?_
            refine ⟨_, [], (Res.one rfl), (Imp.nil _), ?_⟩
            refine ⟨?_, rfl⟩
            first | rfl | (simp_all [verdictF]; done) | (simp_all [verdictF]; omega) | (congr 1; first | rfl | (simp_all [verdictF]; done) | (simp_all [verdictF]; omega))
          · try simp only [decide_eq_true_eq, decide_eq_false_iff_not, beq_iff_eq, beq_eq_false_iff_ne, bne_iff_ne, bne_eq_false_iff_eq, Bool.not_eq_true', Bool.not_eq_false', Int.not_lt, Int.not_le, ne_eq] at h10
            refine WP.skip ?_
            refine blkN ?_
            refine thnN ?_
            refine WP.seq ?_
            refine WP.region ?_
            refine WO.assign rfl rfl ?_
            refine WO.nil ?_
            refine thnN ?_
            refine WP.ret ?_
            refine ⟨_, [], (Res.one rfl), (Imp.nil _), ?_⟩
            refine ⟨?_, rfl⟩
            first | rfl | (simp_all [verdictF]; done) | (simp_all [verdictF]; omega) | (congr 1; first | rfl | (simp_all [verdictF]; done) | (simp_all [verdictF]; omega))
  · try simp only [decide_eq_true_eq, decide_eq_false_iff_not, beq_iff_eq, beq_eq_false_iff_ne, bne_iff_ne, bne_eq_false_iff_eq, Bool.not_eq_true', Bool.not_eq_false', Int.not_lt, Int.not_le, ne_eq] at h2
    refine WP.region ?_
    refine WO.eqlI rfl rfl rfl ?_
    refine WO.assign rfl rfl ?_
    refine WO.nil ?_
    refine thnN ?_
    refine WP.condL 9 rfl (fun h11 => ?_) (fun h12 => ?_)
    · try simp only [decide_eq_true_eq, decide_eq_false_iff_not, beq_iff_eq, beq_eq_false_iff_ne, bne_iff_ne, bne_eq_false_iff_eq, Bool.not_eq_true', Bool.not_eq_false', Int.not_lt, Int.not_le, ne_eq] at h11
      refine WP.skip ?_
      refine blkN ?_
      refine thnN ?_
      refine WP.seq ?_
      refine WP.block ?_
      refine WP.seq ?_
      refine WP.region ?_
      first | refine WO.loadAll rfl ag_23 (by first | exact in0 | exact in1 | exact in2 | exact in3 | exact in4 | exact in5 | exact in6) rfl rfl ?_ | refine WO.loadAgg rfl ag_23 (by first | exact in0 | exact in1 | exact in2 | exact in3 | exact in4 | exact in5 | exact in6) rfl rfl rfl ?_
      refine WO.move rfl rfl ?_
      refine WO.callP (s_lease_Expired e now) rfl ca_10 rfl ?_
      refine WO.assign rfl rfl ?_
      refine WO.nil ?_
      refine thnN ?_
      refine WP.condL 12 rfl (fun h13 => ?_) (fun h14 => ?_)
      · try simp only [decide_eq_true_eq, decide_eq_false_iff_not, beq_iff_eq, beq_eq_false_iff_ne, bne_iff_ne, bne_eq_false_iff_eq, Bool.not_eq_true', Bool.not_eq_false', Int.not_lt, Int.not_le, ne_eq] at h13
        refine WP.seq ?_
        refine WP.region ?_
        refine WO.assign rfl rfl ?_
        refine WO.nil ?_
        refine thnN ?_
        refine WP.ret ?_
        refine blkR ?_
        refine thnR ?_
        refine ⟨_, [], (Res.one rfl), (Imp.nil _), ?_⟩
        refine ⟨?_, rfl⟩
        first | rfl | (simp_all [verdictF]; done) | (simp_all [verdictF]; omega) | (congr 1; first | rfl | (simp_all [verdictF]; done) | (simp_all [verdictF]; omega))
      · try simp only [decide_eq_true_eq, decide_eq_false_iff_not, beq_iff_eq, beq_eq_false_iff_ne, bne_iff_ne, bne_eq_false_iff_eq, Bool.not_eq_true', Bool.not_eq_false', Int.not_lt, Int.not_le, ne_eq] at h14
        refine WP.seq ?_
        refine WP.region ?_
        refine WO.fieldAddr rfl fo_23_6 rfl ?_
        refine WO.load rfl sc_9 (by first | exact in0 | exact in1 | exact in2 | exact in3 | exact in4 | exact in5 | exact in6) rfl rfl ?_
        refine WO.move rfl rfl ?_
        refine WO.neqS rfl rfl rfl ?_
        refine WO.assign rfl rfl ?_
        refine WO.nil ?_
        refine thnN ?_
        refine WP.condL 16 rfl (fun h15 => ?_) (fun h16 => ?_)
        · try simp only [decide_eq_true_eq, decide_eq_false_iff_not, beq_iff_eq, beq_eq_false_iff_ne, bne_iff_ne, bne_eq_false_iff_eq, Bool.not_eq_true', Bool.not_eq_false', Int.not_lt, Int.not_le, ne_eq] at h15
          refine WP.seq ?_
          refine WP.region ?_
          refine WO.assign rfl rfl ?_
          refine WO.nil ?_
          refine thnN ?_
          refine WP.ret ?_
          refine blkR ?_
          refine thnR ?_
          refine ⟨_, [], (Res.one rfl), (Imp.nil _), ?_⟩
          refine ⟨?_, rfl⟩
          first | rfl | (simp_all [verdictF]; done) | (simp_all [verdictF]; omega) | (congr 1; first | rfl | (simp_all [verdictF]; done) | (simp_all [verdictF]; omega))
        · try simp only [decide_eq_true_eq, decide_eq_false_iff_not, beq_iff_eq, beq_eq_false_iff_ne, bne_iff_ne, bne_eq_false_iff_eq, Bool.not_eq_true', Bool.not_eq_false', Int.not_lt, Int.not_le, ne_eq] at h16
          refine WP.seq ?_
          refine WP.region ?_
          refine WO.fieldAddr rfl fo_23_2 rfl ?_
          refine WO.load rfl sc_3 (by first | exact in0 | exact in1 | exact in2 | exact in3 | exact in4 | exact in5 | exact in6) rfl rfl ?_
          refine WO.eqlI rfl rfl rfl ?_
          refine WO.assign rfl rfl ?_
          refine WO.nil ?_
          refine thnN ?_
          refine WP.condL 21 rfl (fun h17 => ?_) (fun h18 => ?_)
          · try simp only [decide_eq_true_eq, decide_eq_false_iff_not, beq_iff_eq, beq_eq_false_iff_ne, bne_iff_ne, bne_eq_false_iff_eq, Bool.not_eq_true', Bool.not_eq_false', Int.not_lt, Int.not_le, ne_eq] at h17
            refine WP.seq ?_
            refine WP.region ?_
            refine WO.assign rfl rfl ?_
            refine WO.nil ?_
            refine thnN ?_
            refine WP.ret ?_
            refine blkR ?_
            refine thnR ?_
            refine ⟨_, [], (Res.one rfl), (Imp.nil _), ?_⟩
            refine ⟨?_, rfl⟩
            first | rfl | (simp_all [verdictF]; done) | (simp_all [verdictF]; omega) | (congr 1; first | rfl | (simp_all [verdictF]; done) | (simp_all [verdictF]; omega))
          · try simp only [decide_eq_true_eq, decide_eq_false_iff_not, beq_iff_eq, beq_eq_false_iff_ne, bne_iff_ne, bne_eq_false_iff_eq, Bool.not_eq_true', Bool.not_eq_false', Int.not_lt, Int.not_le, ne_eq] at h18
            refine WP.seq ?_
            refine WP.region ?_
            first | refine WO.loadAll rfl ag_23 (by first | exact in0 | exact in1 | exact in2 | exact in3 | exact in4 | exact in5 | exact in6) rfl rfl ?_ | refine WO.loadAgg rfl ag_23 (by first | exact in0 | exact in1 | exact in2 | exact in3 | exact in4 | exact in5 | exact in6) rfl rfl rfl ?_
            refine WO.move rfl rfl ?_
            refine WO.callP (s_lease_Held e now) rfl ca_8 rfl ?_
            refine WO.assign rfl rfl ?_
            refine WO.nil ?_
            refine thnN ?_
            refine WP.condL 25 rfl (fun h19 => ?_) (fun h20 => ?_)
            · try simp only [decide_eq_true_eq, decide_eq_false_iff_not, beq_iff_eq, beq_eq_false_iff_ne, bne_iff_ne, bne_eq_false_iff_eq, Bool.not_eq_true', Bool.not_eq_false', Int.not_lt, Int.not_le, ne_eq] at h19
              refine WP.seq ?_
              refine WP.region ?_
              refine WO.assign rfl rfl ?_
              refine WO.nil ?_
              refine thnN ?_
              refine WP.ret ?_
              refine blkR ?_
              refine thnR ?_
              refine ⟨_, [], (Res.one rfl), (Imp.nil _), ?_⟩
              refine ⟨?_, rfl⟩
              first | rfl | (simp_all [verdictF]; done) | (simp_all [verdictF]; omega) | (congr 1; first | rfl | (simp_all [verdictF]; done) | (simp_all [verdictF]; omega))
            · try simp only [decide_eq_true_eq, decide_eq_false_iff_not, beq_iff_eq, beq_eq_false_iff_ne, bne_iff_ne, bne_eq_false_iff_eq, Bool.not_eq_true', Bool.not_eq_false', Int.not_lt, Int.not_le, ne_eq] at h20
              refine WP.skip ?_
              refine blkN ?_
              refine thnN ?_
              refine WP.seq ?_
              refine WP.region ?_
              refine WO.assign rfl rfl ?_
              refine WO.nil ?_
              refine thnN ?_
              refine WP.ret ?_
              refine ⟨_, [], (Res.one rfl), (Imp.nil _), ?_⟩
              refine ⟨?_, rfl⟩
              first | rfl | (simp_all [verdictF]; done) | (simp_all [verdictF]; omega) | (congr 1; first | rfl | (simp_all [verdictF]; done) | (simp_all [verdictF]; omega))
    · try simp only [decide_eq_true_eq, decide_eq_false_iff_not, beq_iff_eq, beq_eq_false_iff_ne, bne_iff_ne, bne_eq_false_iff_eq, Bool.not_eq_true', Bool.not_eq_false', Int.not_lt, Int.not_le, ne_eq] at h12
      refine WP.seq ?_
      refine WP.region ?_
      refine WO.assign rfl rfl ?_
      refine WO.nil ?_
      refine thnN ?_
      refine WP.ret ?_
      refine blkR ?_
      refine thnR ?_
      refine ⟨_, [], (Res.one rfl), (Imp.nil _), ?_⟩
      refine ⟨?_, rfl⟩
      first | rfl | (simp_all [verdictF]; done) | (simp_all [verdictF]; omega) | (congr 1; first | rfl | (simp_all [verdictF]; done) | (simp_all [verdictF]; omega))

theorem s_r21_Verdict (e : Ent) (print : List UInt8) (now : Int) : CallsS P 7 [entV e, str print, .int .i64 (now)] [] (fun v L => v = .int .i64 (verdictF e print now) ∧ L = []) := by
  refine CallsS.intro Tryd.func7 rfl rfl rfl rfl ?_
  refine WP.seq ?_
  refine WP.region ?_
  refine WO.box rfl rfl rfl (fun b0 => ?_)
  refine WO.assign rfl rfl ?_
  refine WO.nil ?_
  refine thnN ?_
  refine WP.seq ?_
  refine WP.seq ?_
  refine WP.region ?_
  refine WO.fieldAddr rfl fo_23_2 rfl ?_
  refine WO.load rfl sc_3 (by first | exact in0 | exact in1 | exact in2 | exact in3 | exact in4 | exact in5 | exact in6) rfl rfl ?_
  refine WO.lssI rfl rfl rfl ?_
  refine WO.move rfl rfl ?_
  refine WO.split 10 rfl (fun h1 => ?_) (fun h2 => ?_)
  · try simp only [decide_eq_true_eq, decide_eq_false_iff_not, beq_iff_eq, beq_eq_false_iff_ne, bne_iff_ne, bne_eq_false_iff_eq, Bool.not_eq_true', Bool.not_eq_false', Int.not_lt, Int.not_le, ne_eq] at h1
    refine WO.pass 10 rfl rfl rfl rfl ?_
    refine WO.pass 10 rfl rfl rfl rfl ?_
    refine WO.pass 10 rfl rfl rfl rfl ?_
    refine WO.pickT rfl rfl rfl ?_
    refine WO.move rfl rfl ?_
    refine WO.pass 15 rfl rfl rfl rfl ?_
    refine WO.pass 15 rfl rfl rfl rfl ?_
    refine WO.pass 15 rfl rfl rfl rfl ?_
    refine WO.pickT rfl rfl rfl ?_
    refine WO.nil ?_
    refine thnN ?_
    refine WP.condT rfl ?_
    refine WP.seq ?_
    refine WP.region ?_
    refine WO.assign rfl rfl ?_
    refine WO.nil ?_
    refine thnN ?_
    refine WP.ret ?_
    refine thnR ?_
    refine ⟨_, [], (Res.one rfl), (Imp.nil _), ?_⟩
    refine ⟨?_, rfl⟩
    first | rfl | (simp_all [verdictF]; done) | (simp_all [verdictF]; omega) | (congr 1; first | rfl | (simp_all [verdictF]; done) | (simp_all [verdictF]; omega))
  · try simp only [decide_eq_true_eq, decide_eq_false_iff_not, beq_iff_eq, beq_eq_false_iff_ne, bne_iff_ne, bne_eq_false_iff_eq, Bool.not_eq_true', Bool.not_eq_false', Int.not_lt, Int.not_le, ne_eq] at h2
    refine WO.want 10 rfl rfl ?_
    refine WO.fieldAddr rfl fo_23_2 rfl ?_
    refine WO.want 10 rfl rfl ?_
    refine WO.load rfl sc_3 (by first | exact in0 | exact in1 | exact in2 | exact in3 | exact in4 | exact in5 | exact in6) rfl rfl ?_
    refine WO.want 10 rfl rfl ?_
    refine WO.gtrI rfl rfl rfl ?_
    refine WO.pickF rfl rfl rfl ?_
    refine WO.move rfl rfl ?_
    refine WO.split 15 rfl (fun h3 => ?_) (fun h4 => ?_)
    · try simp only [decide_eq_true_eq, decide_eq_false_iff_not, beq_iff_eq, beq_eq_false_iff_ne, bne_iff_ne, bne_eq_false_iff_eq, Bool.not_eq_true', Bool.not_eq_false', Int.not_lt, Int.not_le, ne_eq] at h3
      refine WO.pass 15 rfl rfl rfl rfl ?_
      refine WO.pass 15 rfl rfl rfl rfl ?_
      refine WO.pass 15 rfl rfl rfl rfl ?_
      refine WO.pickT rfl rfl rfl ?_
      refine WO.nil ?_
      refine thnN ?_
      refine WP.condT rfl ?_
      refine WP.seq ?_
      refine WP.region ?_
      refine WO.assign rfl rfl ?_
      refine WO.nil ?_
      refine thnN ?_
      refine WP.ret ?_
      refine thnR ?_
      refine ⟨_, [], (Res.one rfl), (Imp.nil _), ?_⟩
      refine ⟨?_, rfl⟩
      first | rfl | (simp_all [verdictF]; done) | (simp_all [verdictF]; omega) | (congr 1; first | rfl | (simp_all [verdictF]; done) | (simp_all [verdictF]; omega))
    · try simp only [decide_eq_true_eq, decide_eq_false_iff_not, beq_iff_eq, beq_eq_false_iff_ne, bne_iff_ne, bne_eq_false_iff_eq, Bool.not_eq_true', Bool.not_eq_false', Int.not_lt, Int.not_le, ne_eq] at h4
      refine WO.want 15 rfl rfl ?_
      first | refine WO.loadAll rfl ag_23 (by first | exact in0 | exact in1 | exact in2 | exact in3 | exact in4 | exact in5 | exact in6) rfl rfl ?_ | refine WO.loadAgg rfl ag_23 (by first | exact in0 | exact in1 | exact in2 | exact in3 | exact in4 | exact in5 | exact in6) rfl rfl rfl ?_
      refine WO.want 15 rfl rfl ?_
      refine WO.move rfl rfl ?_
      refine WO.want 15 rfl rfl ?_
      refine WO.callP (s_r21_Expired e now) rfl ca_11 rfl ?_
      refine WO.pickF rfl rfl rfl ?_
      refine WO.nil ?_
      refine thnN ?_
      refine WP.condL 19 rfl (fun h5 => ?_) (fun h6 => ?_)
      · try simp only [decide_eq_true_eq, decide_eq_false_iff_not, beq_iff_eq, beq_eq_false_iff_ne, bne_iff_ne, bne_eq_false_iff_eq, Bool.not_eq_true', Bool.not_eq_false', Int.not_lt, Int.not_le, ne_eq] at h5
        refine WP.seq ?_
        refine WP.region ?_
        refine WO.assign rfl rfl ?_
        refine WO.nil ?_
        refine thnN ?_
        refine WP.ret ?_
        refine thnR ?_
        refine ⟨_, [], (Res.one rfl), (Imp.nil _), ?_⟩
        refine ⟨?_, rfl⟩
        first | rfl | (simp_all [verdictF]; done) | (simp_all [verdictF]; omega) | (congr 1; first | rfl | (simp_all [verdictF]; done) | (simp_all [verdictF]; omega))
      · try simp only [decide_eq_true_eq, decide_eq_false_iff_not, beq_iff_eq, beq_eq_false_iff_ne, bne_iff_ne, bne_eq_false_iff_eq, Bool.not_eq_true', Bool.not_eq_false', Int.not_lt, Int.not_le, ne_eq] at h6
        refine WP.skip ?_
        refine thnN ?_
        refine WP.seq ?_
        refine WP.seq ?_
        refine WP.region ?_
        refine WO.fieldAddr rfl fo_23_6 rfl ?_
        refine WO.load rfl sc_9 (by first | exact in0 | exact in1 | exact in2 | exact in3 | exact in4 | exact in5 | exact in6) rfl rfl ?_
        refine WO.move rfl rfl ?_
        refine WO.neqS rfl rfl rfl ?_
        refine WO.nil ?_
        refine thnN ?_
        refine WP.condL 23 rfl (fun h7 => ?_) (fun h8 => ?_)
        · try simp only [decide_eq_true_eq, decide_eq_false_iff_not, beq_iff_eq, beq_eq_false_iff_ne, bne_iff_ne, bne_eq_false_iff_eq, Bool.not_eq_true', Bool.not_eq_false', Int.not_lt, Int.not_le, ne_eq] at h7
          refine WP.seq ?_
          refine WP.region ?_
          refine WO.assign rfl rfl ?_
          refine WO.nil ?_
          refine thnN ?_
          refine WP.ret ?_
          refine thnR ?_
          refine ⟨_, [], (Res.one rfl), (Imp.nil _), ?_⟩
          refine ⟨?_, rfl⟩
          first | rfl | (simp_all [verdictF]; done) | (simp_all [verdictF]; omega) | (congr 1; first | rfl | (simp_all [verdictF]; done) | (simp_all [verdictF]; omega))
        · try simp only [decide_eq_true_eq, decide_eq_false_iff_not, beq_iff_eq, beq_eq_false_iff_ne, bne_iff_ne, bne_eq_false_iff_eq, Bool.not_eq_true', Bool.not_eq_false', Int.not_lt, Int.not_le, ne_eq] at h8
          refine WP.skip ?_
          refine thnN ?_
          refine WP.seq ?_
          refine WP.seq ?_
          refine WP.region ?_
          refine WO.fieldAddr rfl fo_23_2 rfl ?_
          refine WO.load rfl sc_3 (by first | exact in0 | exact in1 | exact in2 | exact in3 | exact in4 | exact in5 | exact in6) rfl rfl ?_
          refine WO.eqlI rfl rfl rfl ?_
          refine WO.nil ?_
          refine thnN ?_
          refine WP.condL 26 rfl (fun h9 => ?_) (fun h10 => ?_)
          · try simp only [decide_eq_true_eq, decide_eq_false_iff_not, beq_iff_eq, beq_eq_false_iff_ne, bne_iff_ne, bne_eq_false_iff_eq, Bool.not_eq_true', Bool.not_eq_false', Int.not_lt, Int.not_le, ne_eq] at h9
            refine WP.seq ?_
            refine WP.region ?_
            refine WO.assign rfl rfl ?_
            refine WO.nil ?_
            refine thnN ?_
            refine WP.ret ?_
            refine thnR ?_
            refine ⟨_, [], (Res.one rfl), (Imp.nil _), ?_⟩
            refine ⟨?_, rfl⟩
            first | rfl | (simp_all [verdictF]; done) | (simp_all [verdictF]; omega) | (congr 1; first | rfl | (simp_all [verdictF]; done) | (simp_all [verdictF]; omega))
          · try simp only [decide_eq_true_eq, decide_eq_false_iff_not, beq_iff_eq, beq_eq_false_iff_ne, bne_iff_ne, bne_eq_false_iff_eq, Bool.not_eq_true', Bool.not_eq_false', Int.not_lt, Int.not_le, ne_eq] at h10
            refine WP.skip ?_
            refine thnN ?_
            refine WP.seq ?_
            refine WP.seq ?_
            refine WP.region ?_
            first | refine WO.loadAll rfl ag_23 (by first | exact in0 | exact in1 | exact in2 | exact in3 | exact in4 | exact in5 | exact in6) rfl rfl ?_ | refine WO.loadAgg rfl ag_23 (by first | exact in0 | exact in1 | exact in2 | exact in3 | exact in4 | exact in5 | exact in6) rfl rfl rfl ?_
            refine WO.move rfl rfl ?_
            refine WO.callP (s_r21_Held e now) rfl ca_9 rfl ?_
            refine WO.nil ?_
            refine thnN ?_
            refine WP.condL 29 rfl (fun h11 => ?_) (fun h12 => ?_)
            · try simp only [decide_eq_true_eq, decide_eq_false_iff_not, beq_iff_eq, beq_eq_false_iff_ne, bne_iff_ne, bne_eq_false_iff_eq, Bool.not_eq_true', Bool.not_eq_false', Int.not_lt, Int.not_le, ne_eq] at h11
              refine WP.seq ?_
              refine WP.region ?_
              refine WO.assign rfl rfl ?_
              refine WO.nil ?_
              refine thnN ?_
              refine WP.ret ?_
              refine thnR ?_
              refine ⟨_, [], (Res.one rfl), (Imp.nil _), ?_⟩
              refine ⟨?_, rfl⟩
              first | rfl | (simp_all [verdictF]; done) | (simp_all [verdictF]; omega) | (congr 1; first | rfl | (simp_all [verdictF]; done) | (simp_all [verdictF]; omega))
            · try simp only [decide_eq_true_eq, decide_eq_false_iff_not, beq_iff_eq, beq_eq_false_iff_ne, bne_iff_ne, bne_eq_false_iff_eq, Bool.not_eq_true', Bool.not_eq_false', Int.not_lt, Int.not_le, ne_eq] at h12
              refine WP.skip ?_
              refine thnN ?_
              refine WP.seq ?_
              refine WP.region ?_
              refine WO.assign rfl rfl ?_
              refine WO.nil ?_
              refine thnN ?_
              refine WP.ret ?_
              refine ⟨_, [], (Res.one rfl), (Imp.nil _), ?_⟩
              refine ⟨?_, rfl⟩
              first | rfl | (simp_all [verdictF]; done) | (simp_all [verdictF]; omega) | (congr 1; first | rfl | (simp_all [verdictF]; done) | (simp_all [verdictF]; omega))

end Go.Proofs.YtpaipfceibcbkaaDoor
