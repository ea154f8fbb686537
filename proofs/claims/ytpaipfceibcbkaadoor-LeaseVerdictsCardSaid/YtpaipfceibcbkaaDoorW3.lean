/- Walks: what functions of the program answer, over the logic of footprints. Written by wip/tools/gen.py out of a spec of this session's. -/
import Derived.Test.YtpaipfceibcbkaaDoorF
import Derived.Test.YtpaipfceibcbkaaDoorM03
set_option linter.unusedVariables false
set_option linter.unusedSimpArgs false
set_option maxRecDepth 100000
namespace Go.Proofs.YtpaipfceibcbkaaDoor
open Go.SL Go.Proofs.YtpaipfceibcbkaaDoor
open Go.Law03

theorem s_rotl (x n : Int) (hy0 : 1 ≤ n ∧ n ≤ 31) : CallsS P 78 [.int .u32 (x), .int .i64 (0 - n)] [] (fun v L => v = .int .u32 (rotF x n) ∧ L = []) := by
  refine CallsS.intro Tryd.func78 rfl rfl rfl rfl ?_
  refine WP.seq ?_
  refine WP.region ?_
  refine WO.assign rfl rfl ?_
  refine WO.nil ?_
  refine thnN ?_
  refine WP.seq ?_
  refine WP.region ?_
  refine WO.move rfl rfl ?_
  refine WO.conv rfl un_87 un_3 (by first | exact wrap_u64 (by omega) (by omega) | rfl) rfl ?_
  refine WO.and rfl rfl (by first | exact and31 (by assumption) | rfl) rfl ?_
  refine WO.assign rfl rfl ?_
  refine WO.nil ?_
  refine thnN ?_
  refine WP.seq ?_
  refine WP.region ?_
  refine WO.move rfl rfl ?_
  refine WO.move rfl rfl ?_
  refine WO.shl rfl rfl (by omega) (by first | exact and31 (by assumption) | rfl) rfl ?_
  refine WO.move rfl rfl ?_
  refine WO.move rfl rfl ?_
  refine WO.sub' rfl rfl (by first | exact wrap_u64 (by omega) (by omega) | rfl) rfl ?_
  refine WO.shr rfl rfl (by omega) (by first | exact and31 (by assumption) | rfl) rfl ?_
  refine WO.or rfl rfl (by first | exact and31 (by assumption) | rfl) rfl ?_
  refine WO.assign rfl rfl ?_
  refine WO.nil ?_
  refine thnN ?_
  refine WP.ret ?_
  refine ⟨_, [], (Res.one rfl), (Imp.nil _), ?_⟩
  refine ⟨?_, rfl⟩
  unfold rotF
  rw [show (32 : Int) - (32 - n) = n by omega]

theorem s_sha_right (x n : Int) (hy0 : 1 ≤ n ∧ n ≤ 31) : CallsS P 73 [.int .u32 (x), .int .i64 (n)] [] (fun v L => v = .int .u32 (rotF x n) ∧ L = []) := by
  refine CallsS.intro Tryd.func73 rfl rfl rfl rfl ?_
  refine WP.seq ?_
  refine WP.region ?_
  refine WO.assign rfl rfl ?_
  refine WO.nil ?_
  refine thnN ?_
  refine WP.seq ?_
  refine WP.region ?_
  refine WO.move rfl rfl ?_
  refine WO.move rfl rfl ?_
  refine WO.neg rfl (by first | exact wrap_i64 (by omega) (by omega) | rfl) rfl ?_
  refine WO.callP (s_rotl x n ?_) rfl ca_78 rfl ?_
  · first | assumption | omega | decide
  refine WO.assign rfl rfl ?_
  refine WO.nil ?_
  refine thnN ?_
  refine WP.ret ?_
  refine ⟨_, [], (Res.one rfl), (Imp.nil _), ?_⟩
  exact ⟨rfl, rfl⟩

theorem s_sha_constants : CallsS P 71 [] [] (fun v L => (∃ ws : List Int, ws.length = 64 ∧ v = .agg (ints .u32 ws).toArray) ∧ L = []) := by
  refine CallsS.intro Tryd.func71 rfl rfl rfl rfl ?_
  refine WP.seq ?_
  refine WP.region ?_
  refine WO.alloc zo_102 rfl (fun b0 => ?_)
  refine WO.nil ?_
  refine thnN ?_
  refine WP.seq ?_
  refine WP.region ?_
  refine WO.buildQ (cs := [_, _, _, _, _, _, _, _, _, _, _, _, _, _, _, _, _, _, _, _, _, _, _, _, _, _, _, _, _, _, _, _, _, _, _, _, _, _, _, _, _, _, _, _, _, _, _, _, _, _, _, _, _, _, _, _, _, _, _, _, _, _, _, _]) rfl lay_102 zo_102 rfl rfl ?_
  first | refine WO.storeAll 0 rfl rfl rfl rfl ag_102 rfl (by rfl) ?_ | refine WO.storeAll 1 rfl rfl rfl rfl ag_102 rfl (by rfl) ?_ | refine WO.storeAll 2 rfl rfl rfl rfl ag_102 rfl (by rfl) ?_ | refine WO.storeAll 3 rfl rfl rfl rfl ag_102 rfl (by rfl) ?_ | refine WO.storeAll 4 rfl rfl rfl rfl ag_102 rfl (by rfl) ?_ | refine WO.storeAll 5 rfl rfl rfl rfl ag_102 rfl (by rfl) ?_ | refine WO.storeAgg 0 rfl rfl rfl rfl ag_102 rfl (by simp [ints, Value.oneCell']) (Nat.le_of_ble_eq_true rfl) _ rfl ?_ | refine WO.storeAgg 1 rfl rfl rfl rfl ag_102 rfl (by simp [ints, Value.oneCell']) (Nat.le_of_ble_eq_true rfl) _ rfl ?_ | refine WO.storeAgg 2 rfl rfl rfl rfl ag_102 rfl (by simp [ints, Value.oneCell']) (Nat.le_of_ble_eq_true rfl) _ rfl ?_
  refine WO.nil ?_
  refine thnN ?_
  refine WP.ret ?_
  refine ⟨_, [], Res.cell1 rfl ag_102 (by first | exact in0 | exact in1 | exact in2 | exact in3 | exact in4 | exact in5 | exact in6) rfl rfl, (Imp.nil _), ?_⟩
  refine ⟨⟨[_, _, _, _, _, _, _, _, _, _, _, _, _, _, _, _, _, _, _, _, _, _, _, _, _, _, _, _, _, _, _, _, _, _, _, _, _, _, _, _, _, _, _, _, _, _, _, _, _, _, _, _, _, _, _, _, _, _, _, _, _, _, _, _], rfl, rfl⟩, rfl⟩

theorem s_sha_start : CallsS P 62 [] [] (fun v L => (∃ ws : List Int, ws.length = 8 ∧ v = .agg (ints .u32 ws).toArray) ∧ L = []) := by
  refine CallsS.intro Tryd.func62 rfl rfl rfl rfl ?_
  refine WP.seq ?_
  refine WP.region ?_
  refine WO.alloc zo_91 rfl (fun b0 => ?_)
  refine WO.nil ?_
  refine thnN ?_
  refine WP.seq ?_
  refine WP.region ?_
  refine WO.buildQ (cs := [_, _, _, _, _, _, _, _]) rfl lay_91 zo_91 rfl rfl ?_
  first | refine WO.storeAll 0 rfl rfl rfl rfl ag_91 rfl (by rfl) ?_ | refine WO.storeAll 1 rfl rfl rfl rfl ag_91 rfl (by rfl) ?_ | refine WO.storeAll 2 rfl rfl rfl rfl ag_91 rfl (by rfl) ?_ | refine WO.storeAll 3 rfl rfl rfl rfl ag_91 rfl (by rfl) ?_ | refine WO.storeAll 4 rfl rfl rfl rfl ag_91 rfl (by rfl) ?_ | refine WO.storeAll 5 rfl rfl rfl rfl ag_91 rfl (by rfl) ?_ | refine WO.storeAgg 0 rfl rfl rfl rfl ag_91 rfl (by simp [ints, Value.oneCell']) (Nat.le_of_ble_eq_true rfl) _ rfl ?_ | refine WO.storeAgg 1 rfl rfl rfl rfl ag_91 rfl (by simp [ints, Value.oneCell']) (Nat.le_of_ble_eq_true rfl) _ rfl ?_ | refine WO.storeAgg 2 rfl rfl rfl rfl ag_91 rfl (by simp [ints, Value.oneCell']) (Nat.le_of_ble_eq_true rfl) _ rfl ?_
  refine WO.nil ?_
  refine thnN ?_
  refine WP.ret ?_
  refine ⟨_, [], Res.cell1 rfl ag_91 (by first | exact in0 | exact in1 | exact in2 | exact in3 | exact in4 | exact in5 | exact in6) rfl rfl, (Imp.nil _), ?_⟩
  refine ⟨⟨[_, _, _, _, _, _, _, _], rfl, rfl⟩, rfl⟩

theorem s_sha_schedule (s : List UInt8) (hy0 : s.length = 64) : CallsS P 72 [str s] [] (fun v L => (∃ ws : List Int, ws.length = 64 ∧ v = .agg (ints .u32 ws).toArray) ∧ L = []) := by
  refine CallsS.intro Tryd.func72 rfl rfl rfl rfl ?_
  refine WP.seq ?_
  refine WP.region ?_
  refine WO.alloc zo_102 rfl (fun b0 => ?_)
  refine WO.nil ?_
  refine thnN ?_
  refine WP.seq ?_
  refine WP.region ?_
  refine WO.alloc zo_102 rfl (fun b1 => ?_)
  refine WO.nil ?_
  refine thnN ?_
  refine WP.seq ?_
  refine WP.seq ?_
  refine WP.region ?_
  refine WO.move rfl rfl ?_
  refine WO.nil ?_
  refine thnN ?_
  refine WP.block ?_
  refine WP.loop2 (fun (i : Nat) (ws : List Int) => [(0, str s), (2, .pointer (some ⟨b0, 0, none⟩)), (3, .pointer (some ⟨b1, 0, none⟩)), (8, .int .i64 (i))]) (fun (i : Nat) (ws : List Int) => [[(b1, .cells (ints .u32 ws).toArray 102 (0, 0))], [(b0, .cells (ints .u32 (List.replicate 64 0)).toArray 102 (0, 0))]]) (fun (i : Nat) (ws : List Int) => i ≤ 16 ∧ ws.length = 64) (fun (i : Nat) (ws : List Int) => 16 - i) ⟨0, List.replicate 64 0, ⟨rfl, rfl, rfl, rfl, trivial⟩, rfl, ?_⟩ ?_
  · exact ⟨by omega, rfl⟩
  · intro i ws hI
    obtain ⟨hi, hl⟩ := hI
    refine WP.seq ?_
    refine WP.region ?_
    refine WO.lssI rfl rfl rfl ?_
    refine WO.nil ?_
    refine thnN ?_
    refine WP.seq ?_
    refine WP.condL 9 rfl (fun h1 => ?_) (fun h2 => ?_)
    · try simp only [decide_eq_true_eq, decide_eq_false_iff_not, beq_iff_eq, beq_eq_false_iff_ne, bne_iff_ne, bne_eq_false_iff_eq, Bool.not_eq_true', Bool.not_eq_false', Int.not_lt, Int.not_le, ne_eq] at h1
      refine WP.skip ?_
      refine thnN ?_
      refine WP.seq ?_
      refine WP.block ?_
      refine WP.seq ?_
      refine WP.region ?_
      refine WO.move rfl rfl ?_
      refine WO.assign rfl rfl ?_
      refine WO.nil ?_
      refine thnN ?_
      refine WP.regionD [] [0, 0, 0, 0, 0, 0, 0, 0, 0, 0, 0, 0, 0, 0, 0, 0, 0, 0, 0, 0, 0, 0, 0, 0, 0, 0, 0, 0, 0, 0, 0, 2] [(0, 0, [30, 31]), (1, 0, [4, 5, 6, 14, 22, 29, 30, 31]), (2, 0, [3, 4, 5, 6, 14, 22, 29, 30, 31]), (3, 0, [4, 5, 6, 14, 22, 29, 30, 31]), (4, 0, [5, 6, 14, 22, 29, 30, 31]), (5, 0, [6, 14, 22, 29, 30, 31]), (6, 0, [14, 22, 29, 30, 31]), (7, 0, [11, 12, 13, 14, 22, 29, 30, 31]), (8, 0, [9, 10, 11, 12, 13, 14, 22, 29, 30, 31]), (9, 0, [10, 11, 12, 13, 14, 22, 29, 30, 31]), (10, 0, [11, 12, 13, 14, 22, 29, 30, 31]), (11, 0, [12, 13, 14, 22, 29, 30, 31]), (12, 0, [13, 14, 22, 29, 30, 31]), (13, 0, [14, 22, 29, 30, 31]), (14, 0, [22, 29, 30, 31]), (15, 0, [19, 20, 21, 22, 29, 30, 31]), (16, 0, [17, 18, 19, 20, 21, 22, 29, 30, 31]), (17, 0, [18, 19, 20, 21, 22, 29, 30, 31]), (18, 0, [19, 20, 21, 22, 29, 30, 31]), (19, 0, [20, 21, 22, 29, 30, 31]), (20, 0, [21, 22, 29, 30, 31]), (21, 0, [22, 29, 30, 31]), (22, 0, [29, 30, 31]), (23, 0, [27, 28, 29, 30, 31]), (24, 0, [25, 26, 27, 28, 29, 30, 31]), (25, 0, [26, 27, 28, 29, 30, 31]), (26, 0, [27, 28, 29, 30, 31]), (27, 0, [28, 29, 30, 31]), (28, 0, [29, 30, 31]), (29, 0, [30, 31]), (30, 0, [31]), (31, 3, [])] mx_ (by kernel_rfl) (by simp) ?_
      apply WL.pure
      · rfl
      · rfl
      · skip
        refine WO.move rfl rfl ?_
        exact WO.nil ⟨rfl, rfl⟩
      apply WL.pure
      · rfl
      · rfl
      · skip
        refine WO.move rfl rfl ?_
        exact WO.nil ⟨rfl, rfl⟩
      apply WL.pure
      · rfl
      · rfl
      · skip
        refine WO.move rfl rfl ?_
        exact WO.nil ⟨rfl, rfl⟩
      apply WL.pure
      · rfl
      · rfl
      · skip
        refine WO.mul rfl rfl (by first | exact wrap_i64 (by omega) (by omega) | rfl) rfl ?_
        exact WO.nil ⟨rfl, rfl⟩
      apply WL.pure
      · rfl
      · rfl
      · skip
        refine WO.indexS rfl rfl un_9 (by omega) rfl rfl ?_
        exact WO.nil ⟨rfl, rfl⟩
      apply WL.pure
      · rfl
      · rfl
      · skip
        refine WO.conv rfl un_90 un_5 (by first | exact wrap_u32 (by omega) (by omega) | rfl) rfl ?_
        exact WO.nil ⟨rfl, rfl⟩
      apply WL.pure
      · rfl
      · rfl
      · skip
        refine WO.shl rfl rfl (by omega) (by first | rfl) rfl ?_
        exact WO.nil ⟨rfl, rfl⟩
      apply WL.pure
      · rfl
      · rfl
      · skip
        refine WO.move rfl rfl ?_
        exact WO.nil ⟨rfl, rfl⟩
      apply WL.pure
      · rfl
      · rfl
      · skip
        refine WO.move rfl rfl ?_
        exact WO.nil ⟨rfl, rfl⟩
      apply WL.pure
      · rfl
      · rfl
      · skip
        refine WO.mul rfl rfl (by first | exact wrap_i64 (by omega) (by omega) | rfl) rfl ?_
        exact WO.nil ⟨rfl, rfl⟩
      apply WL.pure
      · rfl
      · rfl
      · skip
        refine WO.add rfl rfl (by first | exact wrap_i64 (by omega) (by omega) | rfl) rfl ?_
        exact WO.nil ⟨rfl, rfl⟩
      apply WL.pure
      · rfl
      · rfl
      · skip
        refine WO.indexS rfl rfl un_9 (by omega) rfl rfl ?_
        exact WO.nil ⟨rfl, rfl⟩
      apply WL.pure
      · rfl
      · rfl
      · skip
        refine WO.conv rfl un_90 un_5 (by first | exact wrap_u32 (by omega) (by omega) | rfl) rfl ?_
        exact WO.nil ⟨rfl, rfl⟩
      apply WL.pure
      · rfl
      · rfl
      · skip
        refine WO.shl rfl rfl (by omega) (by first | rfl) rfl ?_
        exact WO.nil ⟨rfl, rfl⟩
      apply WL.pure
      · rfl
      · rfl
      · skip
        refine WO.or rfl rfl (by first | rfl) rfl ?_
        exact WO.nil ⟨rfl, rfl⟩
      apply WL.pure
      · rfl
      · rfl
      · skip
        refine WO.move rfl rfl ?_
        exact WO.nil ⟨rfl, rfl⟩
      apply WL.pure
      · rfl
      · rfl
      · skip
        refine WO.move rfl rfl ?_
        exact WO.nil ⟨rfl, rfl⟩
      apply WL.pure
      · rfl
      · rfl
      · skip
        refine WO.mul rfl rfl (by first | exact wrap_i64 (by omega) (by omega) | rfl) rfl ?_
        exact WO.nil ⟨rfl, rfl⟩
      apply WL.pure
      · rfl
      · rfl
      · skip
        refine WO.add rfl rfl (by first | exact wrap_i64 (by omega) (by omega) | rfl) rfl ?_
        exact WO.nil ⟨rfl, rfl⟩
      apply WL.pure
      · rfl
      · rfl
      · skip
        refine WO.indexS rfl rfl un_9 (by omega) rfl rfl ?_
        exact WO.nil ⟨rfl, rfl⟩
      apply WL.pure
      · rfl
      · rfl
      · skip
        refine WO.conv rfl un_90 un_5 (by first | exact wrap_u32 (by omega) (by omega) | rfl) rfl ?_
        exact WO.nil ⟨rfl, rfl⟩
      apply WL.pure
      · rfl
      · rfl
      · skip
        refine WO.shl rfl rfl (by omega) (by first | rfl) rfl ?_
        exact WO.nil ⟨rfl, rfl⟩
      apply WL.pure
      · rfl
      · rfl
      · skip
        refine WO.or rfl rfl (by first | rfl) rfl ?_
        exact WO.nil ⟨rfl, rfl⟩
      apply WL.pure
      · rfl
      · rfl
      · skip
        refine WO.move rfl rfl ?_
        exact WO.nil ⟨rfl, rfl⟩
      apply WL.pure
      · rfl
      · rfl
      · skip
        refine WO.move rfl rfl ?_
        exact WO.nil ⟨rfl, rfl⟩
      apply WL.pure
      · rfl
      · rfl
      · skip
        refine WO.mul rfl rfl (by first | exact wrap_i64 (by omega) (by omega) | rfl) rfl ?_
        exact WO.nil ⟨rfl, rfl⟩
      apply WL.pure
      · rfl
      · rfl
      · skip
        refine WO.add rfl rfl (by first | exact wrap_i64 (by omega) (by omega) | rfl) rfl ?_
        exact WO.nil ⟨rfl, rfl⟩
      apply WL.pure
      · rfl
      · rfl
      · skip
        refine WO.indexS rfl rfl un_9 (by omega) rfl rfl ?_
        exact WO.nil ⟨rfl, rfl⟩
      apply WL.pure
      · rfl
      · rfl
      · skip
        refine WO.conv rfl un_90 un_5 (by first | exact wrap_u32 (by omega) (by omega) | rfl) rfl ?_
        exact WO.nil ⟨rfl, rfl⟩
      apply WL.pure
      · rfl
      · rfl
      · skip
        refine WO.or rfl rfl (by first | rfl) rfl ?_
        exact WO.nil ⟨rfl, rfl⟩
      apply WL.pure
      · rfl
      · rfl
      · skip
        refine WO.arrAddr rfl rfl arr_102 (by omega) rfl ?_
        exact WO.nil ⟨rfl, rfl⟩
      refine WL.eff rfl rfl ?_
      first | refine WO.storeW 0 rfl rfl rfl sc_90 (by first | omega | (simp; omega)) ?_ | refine WO.storeW 1 rfl rfl rfl sc_90 (by first | omega | (simp; omega)) ?_ | refine WO.storeW 2 rfl rfl rfl sc_90 (by first | omega | (simp; omega)) ?_ | refine WO.storeW 3 rfl rfl rfl sc_90 (by first | omega | (simp; omega)) ?_ | refine WO.storeW 4 rfl rfl rfl sc_90 (by first | omega | (simp; omega)) ?_
      refine WO.nil (capN ?_)
      refine WL.nil ?_
      refine blkN ?_
      refine thnN ?_
      refine WP.region ?_
      refine WO.add rfl rfl (by first | exact wrap_i64 (by omega) (by omega) | rfl) rfl ?_
      refine WO.move rfl rfl ?_
      refine WO.nil ?_
      refine thnN ?_
      refine ⟨i + 1, ws.set (i : Int).toNat _, ⟨rfl, rfl, rfl, rfl, trivial⟩, rfl, ?_, ?_⟩
      · exact ⟨by omega, by simp [hl]⟩
      · omega
    · try simp only [decide_eq_true_eq, decide_eq_false_iff_not, beq_iff_eq, beq_eq_false_iff_ne, bne_iff_ne, bne_eq_false_iff_eq, Bool.not_eq_true', Bool.not_eq_false', Int.not_lt, Int.not_le, ne_eq] at h2
      refine WP.exit ?_
      refine thnE ?_
      refine thnE ?_
      refine blkHit ?_
      refine thnN ?_
      refine WP.seq ?_
      refine WP.seq ?_
      refine WP.region ?_
      refine WO.assign rfl rfl ?_
      refine WO.nil ?_
      refine thnN ?_
      refine WP.block ?_
      refine WP.loop2 (fun (i : Nat) (ws : List Int) => [(2, .pointer (some ⟨b0, 0, none⟩)), (3, .pointer (some ⟨b1, 0, none⟩)), (5, .int .i64 (i))]) (fun (i : Nat) (ws : List Int) => [[(b1, .cells (ints .u32 ws).toArray 102 (0, 0))], [(b0, .cells (ints .u32 (List.replicate 64 0)).toArray 102 (0, 0))]]) (fun (i : Nat) (ws : List Int) => 16 ≤ i ∧ i ≤ 64 ∧ ws.length = 64) (fun (i : Nat) (ws : List Int) => 64 - i) ⟨16, ws, ⟨rfl, rfl, rfl, trivial⟩, rfl, ?_⟩ ?_
      · exact ⟨by omega, by omega, hl⟩
      · intro i ws hI
        obtain ⟨hi0, hi, hl⟩ := hI
        refine WP.seq ?_
        refine WP.seq ?_
        refine WP.region ?_
        refine WO.move rfl rfl ?_
        refine WO.lssI rfl rfl rfl ?_
        refine WO.nil ?_
        refine thnN ?_
        refine WP.condL 44 rfl (fun h3 => ?_) (fun h4 => ?_)
        · try simp only [decide_eq_true_eq, decide_eq_false_iff_not, beq_iff_eq, beq_eq_false_iff_ne, bne_iff_ne, bne_eq_false_iff_eq, Bool.not_eq_true', Bool.not_eq_false', Int.not_lt, Int.not_le, ne_eq] at h3
          refine WP.skip ?_
          refine thnN ?_
          refine WP.seq ?_
          refine WP.block ?_
          refine WP.seq ?_
          refine WP.regionD [] [0, 0, 0, 0, 0, 0, 0, 0, 0, 0] [(0, 0, [1, 2, 3, 8, 9]), (1, 0, [2, 3, 8, 9]), (2, 0, [3, 8, 9]), (3, 1, [8, 9]), (4, 0, [5, 6, 7, 9]), (5, 0, [6, 7, 9]), (6, 0, [7, 9]), (7, 1, [9]), (8, 0, [9]), (9, 0, [])] mx_ (by kernel_rfl) (by simp) ?_
          apply WL.pure
          · rfl
          · rfl
          · skip
            refine WO.move rfl rfl ?_
            exact WO.nil ⟨rfl, rfl⟩
          apply WL.pure
          · rfl
          · rfl
          · skip
            refine WO.sub' rfl rfl (by first | exact wrap_i64 (by omega) (by omega) | rfl) rfl ?_
            exact WO.nil ⟨rfl, rfl⟩
          apply WL.pure
          · rfl
          · rfl
          · skip
            refine WO.arrAddr rfl rfl arr_102 (by omega) rfl ?_
            exact WO.nil ⟨rfl, rfl⟩
          apply WL.read
          · rfl
          · rfl
          · skip
            refine WO.loadW rfl sc_90 (by first | exact in0 | exact in1 | exact in2 | exact in3 | exact in4 | exact in5 | exact in6) (by first | omega | (simp; omega)) rfl ?_
            exact WO.nil ⟨rfl, rfl⟩
          apply WL.pure
          · rfl
          · rfl
          · skip
            refine WO.move rfl rfl ?_
            exact WO.nil ⟨rfl, rfl⟩
          apply WL.pure
          · rfl
          · rfl
          · skip
            refine WO.sub' rfl rfl (by first | exact wrap_i64 (by omega) (by omega) | rfl) rfl ?_
            exact WO.nil ⟨rfl, rfl⟩
          apply WL.pure
          · rfl
          · rfl
          · skip
            refine WO.arrAddr rfl rfl arr_102 (by omega) rfl ?_
            exact WO.nil ⟨rfl, rfl⟩
          apply WL.read
          · rfl
          · rfl
          · skip
            refine WO.loadW rfl sc_90 (by first | exact in0 | exact in1 | exact in2 | exact in3 | exact in4 | exact in5 | exact in6) (by first | omega | (simp; omega)) rfl ?_
            exact WO.nil ⟨rfl, rfl⟩
          apply WL.pure
          · rfl
          · rfl
          · skip
            refine WO.assign rfl rfl ?_
            exact WO.nil ⟨rfl, rfl⟩
          apply WL.pure
          · rfl
          · rfl
          · skip
            refine WO.assign rfl rfl ?_
            exact WO.nil ⟨rfl, rfl⟩
          refine WL.nil ?_
          refine thnN ?_
          refine WP.regionD [] [0, 0, 0, 0, 0, 0, 0, 0, 0, 0, 0, 0, 0, 0, 0, 0, 0, 0, 0, 0, 0, 0, 0, 0, 0, 0, 0, 0, 0, 2] [(0, 0, [28, 29]), (1, 0, [2, 3, 4, 13, 18, 27, 28, 29]), (2, 0, [3, 4, 13, 18, 27, 28, 29]), (3, 0, [4, 13, 18, 27, 28, 29]), (4, 1, [13, 18, 27, 28, 29]), (5, 0, [6, 8, 9, 12, 13, 18, 20, 22, 23, 26, 27, 28, 29]), (6, 0, [8, 9, 12, 13, 18, 20, 22, 23, 26, 27, 28, 29]), (7, 0, [8, 9, 12, 13, 18, 20, 22, 23, 26, 27, 28, 29]), (8, 0, [9, 12, 13, 18, 20, 22, 23, 26, 27, 28, 29]), (9, 0, [12, 13, 18, 27, 28, 29]), (10, 0, [11, 12, 13, 18, 27, 28, 29]), (11, 0, [12, 13, 18, 27, 28, 29]), (12, 0, [13, 18, 27, 28, 29]), (13, 0, [18, 27, 28, 29]), (14, 0, [15, 16, 17, 18, 27, 28, 29]), (15, 0, [16, 17, 18, 27, 28, 29]), (16, 0, [17, 18, 27, 28, 29]), (17, 1, [18, 27, 28, 29]), (18, 0, [27, 28, 29]), (19, 0, [20, 22, 23, 26, 27, 28, 29]), (20, 0, [22, 23, 26, 27, 28, 29]), (21, 0, [22, 23, 26, 27, 28, 29]), (22, 0, [23, 26, 27, 28, 29]), (23, 0, [26, 27, 28, 29]), (24, 0, [25, 26, 27, 28, 29]), (25, 0, [26, 27, 28, 29]), (26, 0, [27, 28, 29]), (27, 0, [28, 29]), (28, 0, [29]), (29, 3, [])] mx_ (by kernel_rfl) (by simp) ?_
          apply WL.pure
          · rfl
          · rfl
          · skip
            refine WO.move rfl rfl ?_
            exact WO.nil ⟨rfl, rfl⟩
          apply WL.pure
          · rfl
          · rfl
          · skip
            refine WO.move rfl rfl ?_
            exact WO.nil ⟨rfl, rfl⟩
          apply WL.pure
          · rfl
          · rfl
          · skip
            refine WO.sub' rfl rfl (by first | exact wrap_i64 (by omega) (by omega) | rfl) rfl ?_
            exact WO.nil ⟨rfl, rfl⟩
          apply WL.pure
          · rfl
          · rfl
          · skip
            refine WO.arrAddr rfl rfl arr_102 (by omega) rfl ?_
            exact WO.nil ⟨rfl, rfl⟩
          apply WL.read
          · rfl
          · rfl
          · skip
            refine WO.loadW rfl sc_90 (by first | exact in0 | exact in1 | exact in2 | exact in3 | exact in4 | exact in5 | exact in6) (by first | omega | (simp; omega)) rfl ?_
            exact WO.nil ⟨rfl, rfl⟩
          apply WL.pure
          · rfl
          · rfl
          · skip
            refine WO.move rfl rfl ?_
            exact WO.nil ⟨rfl, rfl⟩
          apply WL.pure
          · rfl
          · rfl
          · skip
            refine WO.callP (s_sha_right _ _ ?_) rfl ca_73 rfl ?_
            · omega
            exact WO.nil ⟨rfl, rfl⟩
          apply WL.pure
          · rfl
          · rfl
          · skip
            refine WO.move rfl rfl ?_
            exact WO.nil ⟨rfl, rfl⟩
          apply WL.pure
          · rfl
          · rfl
          · skip
            refine WO.callP (s_sha_right _ _ ?_) rfl ca_73 rfl ?_
            · omega
            exact WO.nil ⟨rfl, rfl⟩
          apply WL.pure
          · rfl
          · rfl
          · skip
            refine WO.xor rfl rfl (by first | rfl) rfl ?_
            exact WO.nil ⟨rfl, rfl⟩
          apply WL.pure
          · rfl
          · rfl
          · skip
            refine WO.move rfl rfl ?_
            exact WO.nil ⟨rfl, rfl⟩
          apply WL.pure
          · rfl
          · rfl
          · skip
            refine WO.shr rfl rfl (by omega) (by first | rfl) rfl ?_
            exact WO.nil ⟨rfl, rfl⟩
          apply WL.pure
          · rfl
          · rfl
          · skip
            refine WO.xor rfl rfl (by first | rfl) rfl ?_
            exact WO.nil ⟨rfl, rfl⟩
          apply WL.pure
          · rfl
          · rfl
          · skip
            refine WO.add rfl rfl (by first | exact wrap_u32 (by omega) (by omega) | rfl) rfl ?_
            exact WO.nil ⟨rfl, rfl⟩
          apply WL.pure
          · rfl
          · rfl
          · skip
            refine WO.move rfl rfl ?_
            exact WO.nil ⟨rfl, rfl⟩
          apply WL.pure
          · rfl
          · rfl
          · skip
            refine WO.sub' rfl rfl (by first | exact wrap_i64 (by omega) (by omega) | rfl) rfl ?_
            exact WO.nil ⟨rfl, rfl⟩
          apply WL.pure
          · rfl
          · rfl
          · skip
            refine WO.arrAddr rfl rfl arr_102 (by omega) rfl ?_
            exact WO.nil ⟨rfl, rfl⟩
          apply WL.read
          · rfl
          · rfl
          · skip
            refine WO.loadW rfl sc_90 (by first | exact in0 | exact in1 | exact in2 | exact in3 | exact in4 | exact in5 | exact in6) (by first | omega | (simp; omega)) rfl ?_
            exact WO.nil ⟨rfl, rfl⟩
          apply WL.pure
          · rfl
          · rfl
          · skip
            refine WO.add rfl rfl (by first | exact wrap_u32 (by omega) (by omega) | rfl) rfl ?_
            exact WO.nil ⟨rfl, rfl⟩
          apply WL.pure
          · rfl
          · rfl
          · skip
            refine WO.move rfl rfl ?_
            exact WO.nil ⟨rfl, rfl⟩
          apply WL.pure
          · rfl
          · rfl
          · skip
            refine WO.callP (s_sha_right _ _ ?_) rfl ca_73 rfl ?_
            · omega
            exact WO.nil ⟨rfl, rfl⟩
          apply WL.pure
          · rfl
          · rfl
          · skip
            refine WO.move rfl rfl ?_
            exact WO.nil ⟨rfl, rfl⟩
          apply WL.pure
          · rfl
          · rfl
          · skip
            refine WO.callP (s_sha_right _ _ ?_) rfl ca_73 rfl ?_
            · omega
            exact WO.nil ⟨rfl, rfl⟩
          apply WL.pure
          · rfl
          · rfl
          · skip
            refine WO.xor rfl rfl (by first | rfl) rfl ?_
            exact WO.nil ⟨rfl, rfl⟩
          apply WL.pure
          · rfl
          · rfl
          · skip
            refine WO.move rfl rfl ?_
            exact WO.nil ⟨rfl, rfl⟩
          apply WL.pure
          · rfl
          · rfl
          · skip
            refine WO.shr rfl rfl (by omega) (by first | rfl) rfl ?_
            exact WO.nil ⟨rfl, rfl⟩
          apply WL.pure
          · rfl
          · rfl
          · skip
            refine WO.xor rfl rfl (by first | rfl) rfl ?_
            exact WO.nil ⟨rfl, rfl⟩
          apply WL.pure
          · rfl
          · rfl
          · skip
            refine WO.add rfl rfl (by first | exact wrap_u32 (by omega) (by omega) | rfl) rfl ?_
            exact WO.nil ⟨rfl, rfl⟩
          apply WL.pure
          · rfl
          · rfl
          · skip
            refine WO.arrAddr rfl rfl arr_102 (by omega) rfl ?_
            exact WO.nil ⟨rfl, rfl⟩
          refine WL.eff rfl rfl ?_
          first | refine WO.storeW 0 rfl rfl rfl sc_90 (by first | omega | (simp; omega)) ?_ | refine WO.storeW 1 rfl rfl rfl sc_90 (by first | omega | (simp; omega)) ?_ | refine WO.storeW 2 rfl rfl rfl sc_90 (by first | omega | (simp; omega)) ?_ | refine WO.storeW 3 rfl rfl rfl sc_90 (by first | omega | (simp; omega)) ?_ | refine WO.storeW 4 rfl rfl rfl sc_90 (by first | omega | (simp; omega)) ?_
          refine WO.nil (capN ?_)
          refine WL.nil ?_
          refine blkN ?_
          refine thnN ?_
          refine WP.region ?_
          refine WO.move rfl rfl ?_
          refine WO.add rfl rfl (by first | exact wrap_i64 (by omega) (by omega) | rfl) rfl ?_
          refine WO.assign rfl rfl ?_
          refine WO.nil ?_
          refine thnN ?_
          refine ⟨i + 1, ws.set (i : Int).toNat _, ⟨rfl, rfl, rfl, trivial⟩, rfl, ?_, ?_⟩
          · exact ⟨by omega, by omega, by simp [hl]⟩
          · omega
        · try simp only [decide_eq_true_eq, decide_eq_false_iff_not, beq_iff_eq, beq_eq_false_iff_ne, bne_iff_ne, bne_eq_false_iff_eq, Bool.not_eq_true', Bool.not_eq_false', Int.not_lt, Int.not_le, ne_eq] at h4
          refine WP.exit ?_
          refine thnE ?_
          refine thnE ?_
          refine blkHit ?_
          refine thnN ?_
          refine WP.seq ?_
          refine WP.region ?_
          refine WO.loadAll rfl ag_102 in0 (by rw [ints_len, hl]) rfl ?_
          refine WO.storeAll 1 rfl rfl rfl rfl (by rw [ints_len, hl]; exact ag_102) (by simp [ints, Value.oneCell']) (by simp [ints, hl]) ?_
          refine WO.nil ?_
          refine thnN ?_
          refine WP.ret ?_
          refine ⟨_, [], (Res.cellAll rfl ag_102 in0 (by rw [ints_len, hl])), (Imp.nil _), ?_⟩
          exact ⟨⟨ws, hl, rfl⟩, rfl⟩

set_option maxHeartbeats 4000000 in
theorem s_sha_step (vs : List Int) (s : List UInt8) (hy0 : vs.length = 8) (hy1 : s.length = 64) : CallsS P 63 [.agg (ints .u32 vs).toArray, str s] [] (fun v L => (∃ ws : List Int, ws.length = 8 ∧ v = .agg (ints .u32 ws).toArray) ∧ L = []) := by
  obtain ⟨v0, v1, v2, v3, v4, v5, v6, v7, rfl⟩ := len8 hy0
  refine CallsS.intro Tryd.func63 rfl rfl rfl rfl ?_
  refine WP.seq ?_
  refine WP.region ?_
  refine WO.box rfl rfl rfl (fun b0 => ?_)
  refine WO.alloc zo_91 rfl (fun b1 => ?_)
  refine WO.nil ?_
  refine thnN ?_
  refine WP.seq ?_
  refine WP.region ?_
  refine WO.callQ (s_sha_constants) rfl ca_71 rfl ?_
  rintro _ ⟨ks, hk, rfl⟩
  refine WO.move rfl rfl ?_
  refine WO.callQ (s_sha_schedule _ ?_) rfl ca_72 rfl ?_
  · first | assumption | omega | decide
  rintro _ ⟨sc, hsc, rfl⟩
  refine WO.alloc zo_102 rfl (fun b2 => ?_)
  refine WO.alloc zo_102 rfl (fun b3 => ?_)
  refine WO.storeAll 1 rfl rfl rfl rfl (by rw [ints_len, hk]; exact ag_102) (by simp [ints, Value.oneCell']) (by simp [ints, hk]) ?_
  refine WO.storeAll 1 rfl rfl rfl rfl (by rw [ints_len, hsc]; exact ag_102) (by simp [ints, Value.oneCell']) (by simp [ints, hsc]) ?_
  refine WO.nil ?_
  refine thnN ?_
  refine WP.seq ?_
  refine WP.region ?_
  first | refine WO.loadAll rfl ag_91 (by first | exact in0 | exact in1 | exact in2 | exact in3 | exact in4 | exact in5 | exact in6) rfl rfl ?_ | refine WO.loadAgg rfl ag_91 (by first | exact in0 | exact in1 | exact in2 | exact in3 | exact in4 | exact in5 | exact in6) rfl rfl rfl ?_
  refine WO.alloc zo_91 rfl (fun b4 => ?_)
  first | refine WO.storeAll 0 rfl rfl rfl rfl ag_91 rfl (by rfl) ?_ | refine WO.storeAll 1 rfl rfl rfl rfl ag_91 rfl (by rfl) ?_ | refine WO.storeAll 2 rfl rfl rfl rfl ag_91 rfl (by rfl) ?_ | refine WO.storeAll 3 rfl rfl rfl rfl ag_91 rfl (by rfl) ?_ | refine WO.storeAll 4 rfl rfl rfl rfl ag_91 rfl (by rfl) ?_ | refine WO.storeAll 5 rfl rfl rfl rfl ag_91 rfl (by rfl) ?_ | refine WO.storeAgg 0 rfl rfl rfl rfl ag_91 rfl (by simp [ints, Value.oneCell']) (Nat.le_of_ble_eq_true rfl) _ rfl ?_ | refine WO.storeAgg 1 rfl rfl rfl rfl ag_91 rfl (by simp [ints, Value.oneCell']) (Nat.le_of_ble_eq_true rfl) _ rfl ?_ | refine WO.storeAgg 2 rfl rfl rfl rfl ag_91 rfl (by simp [ints, Value.oneCell']) (Nat.le_of_ble_eq_true rfl) _ rfl ?_
  refine WO.nil ?_
  refine thnN ?_
  refine WP.seq ?_
  refine WP.seq ?_
  refine WP.region ?_
  refine WO.move rfl rfl ?_
  refine WO.nil ?_
  refine thnN ?_
  refine WP.block ?_
  refine WP.loop2 (fun (i : Nat) (xs : List Int) => [(2, .pointer (some ⟨b0, 0, none⟩)), (4, .pointer (some ⟨b1, 0, none⟩)), (5, .pointer (some ⟨b2, 0, none⟩)), (6, .pointer (some ⟨b3, 0, none⟩)), (7, .pointer (some ⟨b4, 0, none⟩)), (18, .int .i64 (i))]) (fun (i : Nat) (xs : List Int) => [[(b4, .cells (ints .u32 xs).toArray 91 (0, 0))], [(b3, .cells (ints .u32 sc).toArray 102 (0, 0))], [(b2, .cells (ints .u32 ks).toArray 102 (0, 0))], [(b1, .cells (ints .u32 [0, 0, 0, 0, 0, 0, 0, 0]).toArray 91 (0, 0))], [(b0, .cells (ints .u32 [v0, v1, v2, v3, v4, v5, v6, v7]).toArray 91 (0, 0))]]) (fun (i : Nat) (xs : List Int) => i ≤ 64 ∧ xs.length = 8) (fun (i : Nat) (xs : List Int) => 64 - i) ⟨0, [v0, v1, v2, v3, v4, v5, v6, v7], ⟨rfl, rfl, rfl, rfl, rfl, rfl, trivial⟩, rfl, ?_⟩ ?_
  · exact ⟨by omega, rfl⟩
  · intro i xs hI
    obtain ⟨hi, hl⟩ := hI
    obtain ⟨x0, x1, x2, x3, x4, x5, x6, x7, rfl⟩ := len8 hl
    refine WP.seq ?_
    refine WP.region ?_
    refine WO.lssI rfl rfl rfl ?_
    refine WO.nil ?_
    refine thnN ?_
    refine WP.seq ?_
    refine WP.condL 19 rfl (fun h1 => ?_) (fun h2 => ?_)
    · try simp only [decide_eq_true_eq, decide_eq_false_iff_not, beq_iff_eq, beq_eq_false_iff_ne, bne_iff_ne, bne_eq_false_iff_eq, Bool.not_eq_true', Bool.not_eq_false', Int.not_lt, Int.not_le, ne_eq] at h1
      refine WP.skip ?_
      refine thnN ?_
      refine WP.seq ?_
      refine WP.block ?_
      refine WP.seq ?_
      refine WP.region ?_
      refine WO.move rfl rfl ?_
      refine WO.assign rfl rfl ?_
      refine WO.nil ?_
      refine thnN ?_
      refine WP.seq ?_
      refine WP.regionD [] [0, 0, 0, 0, 0, 0] [(0, 0, [1, 4, 5]), (1, 1, [4, 5]), (2, 0, [3, 5]), (3, 1, [5]), (4, 0, [5]), (5, 0, [])] mx_ (by kernel_rfl) (by simp) ?_
      apply WL.pure
      · rfl
      · rfl
      · skip
        refine WO.arrAddr rfl rfl arr_91 (by omega) rfl ?_
        exact WO.nil ⟨rfl, rfl⟩
      apply WL.read
      · rfl
      · rfl
      · skip
        refine WO.loadW rfl sc_90 (by first | exact in0 | exact in1 | exact in2 | exact in3 | exact in4 | exact in5 | exact in6) (by first | omega | (simp; omega)) rfl ?_
        exact WO.nil ⟨rfl, rfl⟩
      apply WL.pure
      · rfl
      · rfl
      · skip
        refine WO.arrAddr rfl rfl arr_91 (by omega) rfl ?_
        exact WO.nil ⟨rfl, rfl⟩
      apply WL.read
      · rfl
      · rfl
      · skip
        refine WO.loadW rfl sc_90 (by first | exact in0 | exact in1 | exact in2 | exact in3 | exact in4 | exact in5 | exact in6) (by first | omega | (simp; omega)) rfl ?_
        exact WO.nil ⟨rfl, rfl⟩
      apply WL.pure
      · rfl
      · rfl
      · skip
        refine WO.assign rfl rfl ?_
        exact WO.nil ⟨rfl, rfl⟩
      apply WL.pure
      · rfl
      · rfl
      · skip
        refine WO.assign rfl rfl ?_
        exact WO.nil ⟨rfl, rfl⟩
      refine WL.nil ?_
      refine thnN ?_
      refine WP.seq ?_
      refine WP.regionD [] [0, 0, 0, 0, 0, 0, 0, 0, 0, 0, 0, 0, 0, 0, 0, 0, 0, 0, 0, 0, 0, 0, 0, 0, 0, 0, 0, 0, 0, 0, 0] [(0, 0, [1, 10, 21, 25, 29, 30]), (1, 1, [10, 21, 25, 29, 30]), (2, 0, [3, 5, 6, 8, 9, 10, 21, 25, 29, 30]), (3, 0, [5, 6, 8, 9, 10, 21, 25, 29, 30]), (4, 0, [5, 6, 8, 9, 10, 21, 25, 29, 30]), (5, 0, [6, 8, 9, 10, 21, 25, 29, 30]), (6, 0, [9, 10, 21, 25, 29, 30]), (7, 0, [8, 9, 10, 21, 25, 29, 30]), (8, 0, [9, 10, 21, 25, 29, 30]), (9, 0, [10, 21, 25, 29, 30]), (10, 0, [21, 25, 29, 30]), (11, 0, [14, 20, 21, 25, 29, 30]), (12, 0, [13, 14, 20, 21, 25, 29, 30]), (13, 1, [14, 20, 21, 25, 29, 30]), (14, 0, [20, 21, 25, 29, 30]), (15, 0, [16, 19, 20, 21, 25, 29, 30]), (16, 0, [19, 20, 21, 25, 29, 30]), (17, 0, [18, 19, 20, 21, 25, 29, 30]), (18, 1, [19, 20, 21, 25, 29, 30]), (19, 0, [20, 21, 25, 29, 30]), (20, 0, [21, 25, 29, 30]), (21, 0, [25, 29, 30]), (22, 0, [23, 24, 25, 29, 30]), (23, 0, [24, 25, 29, 30]), (24, 1, [25, 29, 30]), (25, 0, [29, 30]), (26, 0, [27, 28, 29, 30]), (27, 0, [28, 29, 30]), (28, 1, [29, 30]), (29, 0, [30]), (30, 0, [])] mx_ (by kernel_rfl) (by simp) ?_
      apply WL.pure
      · rfl
      · rfl
      · skip
        refine WO.arrAddr rfl rfl arr_91 (by omega) rfl ?_
        exact WO.nil ⟨rfl, rfl⟩
      apply WL.read
      · rfl
      · rfl
      · skip
        refine WO.loadW rfl sc_90 (by first | exact in0 | exact in1 | exact in2 | exact in3 | exact in4 | exact in5 | exact in6) (by first | omega | (simp; omega)) rfl ?_
        exact WO.nil ⟨rfl, rfl⟩
      apply WL.pure
      · rfl
      · rfl
      · skip
        refine WO.move rfl rfl ?_
        exact WO.nil ⟨rfl, rfl⟩
      apply WL.pure
      · rfl
      · rfl
      · skip
        refine WO.callP (s_sha_right _ _ ?_) rfl ca_73 rfl ?_
        · omega
        exact WO.nil ⟨rfl, rfl⟩
      apply WL.pure
      · rfl
      · rfl
      · skip
        refine WO.move rfl rfl ?_
        exact WO.nil ⟨rfl, rfl⟩
      apply WL.pure
      · rfl
      · rfl
      · skip
        refine WO.callP (s_sha_right _ _ ?_) rfl ca_73 rfl ?_
        · omega
        exact WO.nil ⟨rfl, rfl⟩
      apply WL.pure
      · rfl
      · rfl
      · skip
        refine WO.xor rfl rfl (by first | rfl) rfl ?_
        exact WO.nil ⟨rfl, rfl⟩
      apply WL.pure
      · rfl
      · rfl
      · skip
        refine WO.move rfl rfl ?_
        exact WO.nil ⟨rfl, rfl⟩
      apply WL.pure
      · rfl
      · rfl
      · skip
        refine WO.callP (s_sha_right _ _ ?_) rfl ca_73 rfl ?_
        · omega
        exact WO.nil ⟨rfl, rfl⟩
      apply WL.pure
      · rfl
      · rfl
      · skip
        refine WO.xor rfl rfl (by first | rfl) rfl ?_
        exact WO.nil ⟨rfl, rfl⟩
      apply WL.pure
      · rfl
      · rfl
      · skip
        refine WO.add rfl rfl (by first | exact wrap_u32 (by omega) (by omega) | rfl) rfl ?_
        exact WO.nil ⟨rfl, rfl⟩
      apply WL.pure
      · rfl
      · rfl
      · skip
        refine WO.move rfl rfl ?_
        exact WO.nil ⟨rfl, rfl⟩
      apply WL.pure
      · rfl
      · rfl
      · skip
        refine WO.arrAddr rfl rfl arr_91 (by omega) rfl ?_
        exact WO.nil ⟨rfl, rfl⟩
      apply WL.read
      · rfl
      · rfl
      · skip
        refine WO.loadW rfl sc_90 (by first | exact in0 | exact in1 | exact in2 | exact in3 | exact in4 | exact in5 | exact in6) (by first | omega | (simp; omega)) rfl ?_
        exact WO.nil ⟨rfl, rfl⟩
      apply WL.pure
      · rfl
      · rfl
      · skip
        refine WO.and rfl rfl (by first | rfl) rfl ?_
        exact WO.nil ⟨rfl, rfl⟩
      apply WL.pure
      · rfl
      · rfl
      · skip
        refine WO.move rfl rfl ?_
        exact WO.nil ⟨rfl, rfl⟩
      apply WL.pure
      · rfl
      · rfl
      · skip
        refine WO.notU rfl rfl rfl ?_
        exact WO.nil ⟨rfl, rfl⟩
      apply WL.pure
      · rfl
      · rfl
      · skip
        refine WO.arrAddr rfl rfl arr_91 (by omega) rfl ?_
        exact WO.nil ⟨rfl, rfl⟩
      apply WL.read
      · rfl
      · rfl
      · skip
        refine WO.loadW rfl sc_90 (by first | exact in0 | exact in1 | exact in2 | exact in3 | exact in4 | exact in5 | exact in6) (by first | omega | (simp; omega)) rfl ?_
        exact WO.nil ⟨rfl, rfl⟩
      apply WL.pure
      · rfl
      · rfl
      · skip
        refine WO.and rfl rfl (by first | rfl) rfl ?_
        exact WO.nil ⟨rfl, rfl⟩
      apply WL.pure
      · rfl
      · rfl
      · skip
        refine WO.xor rfl rfl (by first | rfl) rfl ?_
        exact WO.nil ⟨rfl, rfl⟩
      apply WL.pure
      · rfl
      · rfl
      · skip
        refine WO.add rfl rfl (by first | exact wrap_u32 (by omega) (by omega) | rfl) rfl ?_
        exact WO.nil ⟨rfl, rfl⟩
      apply WL.pure
      · rfl
      · rfl
      · skip
        refine WO.move rfl rfl ?_
        exact WO.nil ⟨rfl, rfl⟩
      apply WL.pure
      · rfl
      · rfl
      · skip
        refine WO.arrAddr rfl rfl arr_102 (by omega) rfl ?_
        exact WO.nil ⟨rfl, rfl⟩
      apply WL.read
      · rfl
      · rfl
      · skip
        refine WO.loadW rfl sc_90 (by first | exact in0 | exact in1 | exact in2 | exact in3 | exact in4 | exact in5 | exact in6) (by first | omega | (simp; omega)) rfl ?_
        exact WO.nil ⟨rfl, rfl⟩
      apply WL.pure
      · rfl
      · rfl
      · skip
        refine WO.add rfl rfl (by first | exact wrap_u32 (by omega) (by omega) | rfl) rfl ?_
        exact WO.nil ⟨rfl, rfl⟩
      apply WL.pure
      · rfl
      · rfl
      · skip
        refine WO.move rfl rfl ?_
        exact WO.nil ⟨rfl, rfl⟩
      apply WL.pure
      · rfl
      · rfl
      · skip
        refine WO.arrAddr rfl rfl arr_102 (by omega) rfl ?_
        exact WO.nil ⟨rfl, rfl⟩
      apply WL.read
      · rfl
      · rfl
      · skip
        refine WO.loadW rfl sc_90 (by first | exact in0 | exact in1 | exact in2 | exact in3 | exact in4 | exact in5 | exact in6) (by first | omega | (simp; omega)) rfl ?_
        exact WO.nil ⟨rfl, rfl⟩
      apply WL.pure
      · rfl
      · rfl
      · skip
        refine WO.add rfl rfl (by first | exact wrap_u32 (by omega) (by omega) | rfl) rfl ?_
        exact WO.nil ⟨rfl, rfl⟩
      apply WL.pure
      · rfl
      · rfl
      · skip
        refine WO.assign rfl rfl ?_
        exact WO.nil ⟨rfl, rfl⟩
      refine WL.nil ?_
      refine thnN ?_
      refine WP.seq ?_
      refine WP.regionD [] [0, 0, 0, 0, 0, 0, 0, 0, 0, 0, 0, 0, 0, 0, 0, 0, 0, 0, 0, 0, 0, 0, 0, 0, 0] [(0, 0, [1, 3, 4, 6, 7, 23, 24]), (1, 0, [3, 4, 6, 7, 23, 24]), (2, 0, [3, 4, 6, 7, 23, 24]), (3, 0, [4, 6, 7, 23, 24]), (4, 0, [7, 23, 24]), (5, 0, [6, 7, 23, 24]), (6, 0, [7, 23, 24]), (7, 0, [23, 24]), (8, 0, [11, 16, 22, 23, 24]), (9, 0, [10, 11, 16, 22, 23, 24]), (10, 1, [11, 16, 22, 23, 24]), (11, 0, [16, 22, 23, 24]), (12, 0, [15, 16, 22, 23, 24]), (13, 0, [14, 15, 16, 22, 23, 24]), (14, 1, [15, 16, 22, 23, 24]), (15, 0, [16, 22, 23, 24]), (16, 0, [22, 23, 24]), (17, 0, [18, 21, 22, 23, 24]), (18, 1, [21, 22, 23, 24]), (19, 0, [20, 21, 22, 23, 24]), (20, 1, [21, 22, 23, 24]), (21, 0, [22, 23, 24]), (22, 0, [23, 24]), (23, 0, [24]), (24, 0, [])] mx_ (by kernel_rfl) (by simp) ?_
      apply WL.pure
      · rfl
      · rfl
      · skip
        refine WO.move rfl rfl ?_
        exact WO.nil ⟨rfl, rfl⟩
      apply WL.pure
      · rfl
      · rfl
      · skip
        refine WO.callP (s_sha_right _ _ ?_) rfl ca_73 rfl ?_
        · omega
        exact WO.nil ⟨rfl, rfl⟩
      apply WL.pure
      · rfl
      · rfl
      · skip
        refine WO.move rfl rfl ?_
        exact WO.nil ⟨rfl, rfl⟩
      apply WL.pure
      · rfl
      · rfl
      · skip
        refine WO.callP (s_sha_right _ _ ?_) rfl ca_73 rfl ?_
        · omega
        exact WO.nil ⟨rfl, rfl⟩
      apply WL.pure
      · rfl
      · rfl
      · skip
        refine WO.xor rfl rfl (by first | rfl) rfl ?_
        exact WO.nil ⟨rfl, rfl⟩
      apply WL.pure
      · rfl
      · rfl
      · skip
        refine WO.move rfl rfl ?_
        exact WO.nil ⟨rfl, rfl⟩
      apply WL.pure
      · rfl
      · rfl
      · skip
        refine WO.callP (s_sha_right _ _ ?_) rfl ca_73 rfl ?_
        · omega
        exact WO.nil ⟨rfl, rfl⟩
      apply WL.pure
      · rfl
      · rfl
      · skip
        refine WO.xor rfl rfl (by first | rfl) rfl ?_
        exact WO.nil ⟨rfl, rfl⟩
      apply WL.pure
      · rfl
      · rfl
      · skip
        refine WO.move rfl rfl ?_
        exact WO.nil ⟨rfl, rfl⟩
      apply WL.pure
      · rfl
      · rfl
      · skip
        refine WO.arrAddr rfl rfl arr_91 (by omega) rfl ?_
        exact WO.nil ⟨rfl, rfl⟩
      apply WL.read
      · rfl
      · rfl
      · skip
        refine WO.loadW rfl sc_90 (by first | exact in0 | exact in1 | exact in2 | exact in3 | exact in4 | exact in5 | exact in6) (by first | omega | (simp; omega)) rfl ?_
        exact WO.nil ⟨rfl, rfl⟩
      apply WL.pure
      · rfl
      · rfl
      · skip
        refine WO.and rfl rfl (by first | rfl) rfl ?_
        exact WO.nil ⟨rfl, rfl⟩
      apply WL.pure
      · rfl
      · rfl
      · skip
        refine WO.move rfl rfl ?_
        exact WO.nil ⟨rfl, rfl⟩
      apply WL.pure
      · rfl
      · rfl
      · skip
        refine WO.arrAddr rfl rfl arr_91 (by omega) rfl ?_
        exact WO.nil ⟨rfl, rfl⟩
      apply WL.read
      · rfl
      · rfl
      · skip
        refine WO.loadW rfl sc_90 (by first | exact in0 | exact in1 | exact in2 | exact in3 | exact in4 | exact in5 | exact in6) (by first | omega | (simp; omega)) rfl ?_
        exact WO.nil ⟨rfl, rfl⟩
      apply WL.pure
      · rfl
      · rfl
      · skip
        refine WO.and rfl rfl (by first | rfl) rfl ?_
        exact WO.nil ⟨rfl, rfl⟩
      apply WL.pure
      · rfl
      · rfl
      · skip
        refine WO.xor rfl rfl (by first | rfl) rfl ?_
        exact WO.nil ⟨rfl, rfl⟩
      apply WL.pure
      · rfl
      · rfl
      · skip
        refine WO.arrAddr rfl rfl arr_91 (by omega) rfl ?_
        exact WO.nil ⟨rfl, rfl⟩
      apply WL.read
      · rfl
      · rfl
      · skip
        refine WO.loadW rfl sc_90 (by first | exact in0 | exact in1 | exact in2 | exact in3 | exact in4 | exact in5 | exact in6) (by first | omega | (simp; omega)) rfl ?_
        exact WO.nil ⟨rfl, rfl⟩
      apply WL.pure
      · rfl
      · rfl
      · skip
        refine WO.arrAddr rfl rfl arr_91 (by omega) rfl ?_
        exact WO.nil ⟨rfl, rfl⟩
      apply WL.read
      · rfl
      · rfl
      · skip
        refine WO.loadW rfl sc_90 (by first | exact in0 | exact in1 | exact in2 | exact in3 | exact in4 | exact in5 | exact in6) (by first | omega | (simp; omega)) rfl ?_
        exact WO.nil ⟨rfl, rfl⟩
      apply WL.pure
      · rfl
      · rfl
      · skip
        refine WO.and rfl rfl (by first | rfl) rfl ?_
        exact WO.nil ⟨rfl, rfl⟩
      apply WL.pure
      · rfl
      · rfl
      · skip
        refine WO.xor rfl rfl (by first | rfl) rfl ?_
        exact WO.nil ⟨rfl, rfl⟩
      apply WL.pure
      · rfl
      · rfl
      · skip
        refine WO.add rfl rfl (by first | exact wrap_u32 (by omega) (by omega) | rfl) rfl ?_
        exact WO.nil ⟨rfl, rfl⟩
      apply WL.pure
      · rfl
      · rfl
      · skip
        refine WO.assign rfl rfl ?_
        exact WO.nil ⟨rfl, rfl⟩
      refine WL.nil ?_
      refine thnN ?_
      refine WP.region ?_
      refine WO.move rfl rfl ?_
      refine WO.move rfl rfl ?_
      refine WO.add rfl rfl (by first | exact wrap_u32 (by omega) (by omega) | rfl) rfl ?_
      refine WO.move rfl rfl ?_
      refine WO.arrAddr rfl rfl arr_91 (by omega) rfl ?_
      refine WO.loadW rfl sc_90 (by first | exact in0 | exact in1 | exact in2 | exact in3 | exact in4 | exact in5 | exact in6) (by first | omega | (simp; omega)) rfl ?_
      refine WO.arrAddr rfl rfl arr_91 (by omega) rfl ?_
      refine WO.loadW rfl sc_90 (by first | exact in0 | exact in1 | exact in2 | exact in3 | exact in4 | exact in5 | exact in6) (by first | omega | (simp; omega)) rfl ?_
      refine WO.arrAddr rfl rfl arr_91 (by omega) rfl ?_
      refine WO.loadW rfl sc_90 (by first | exact in0 | exact in1 | exact in2 | exact in3 | exact in4 | exact in5 | exact in6) (by first | omega | (simp; omega)) rfl ?_
      refine WO.move rfl rfl ?_
      refine WO.add rfl rfl (by first | exact wrap_u32 (by omega) (by omega) | rfl) rfl ?_
      refine WO.move rfl rfl ?_
      refine WO.arrAddr rfl rfl arr_91 (by omega) rfl ?_
      refine WO.loadW rfl sc_90 (by first | exact in0 | exact in1 | exact in2 | exact in3 | exact in4 | exact in5 | exact in6) (by first | omega | (simp; omega)) rfl ?_
      refine WO.arrAddr rfl rfl arr_91 (by omega) rfl ?_
      refine WO.loadW rfl sc_90 (by first | exact in0 | exact in1 | exact in2 | exact in3 | exact in4 | exact in5 | exact in6) (by first | omega | (simp; omega)) rfl ?_
      refine WO.buildQ (cs := [_, _, _, _, _, _, _, _]) rfl lay_91 zo_91 rfl rfl ?_
      first | refine WO.storeAll 0 rfl rfl rfl rfl ag_91 rfl (by rfl) ?_ | refine WO.storeAll 1 rfl rfl rfl rfl ag_91 rfl (by rfl) ?_ | refine WO.storeAll 2 rfl rfl rfl rfl ag_91 rfl (by rfl) ?_ | refine WO.storeAll 3 rfl rfl rfl rfl ag_91 rfl (by rfl) ?_ | refine WO.storeAll 4 rfl rfl rfl rfl ag_91 rfl (by rfl) ?_ | refine WO.storeAll 5 rfl rfl rfl rfl ag_91 rfl (by rfl) ?_ | refine WO.storeAgg 0 rfl rfl rfl rfl ag_91 rfl (by simp [ints, Value.oneCell']) (Nat.le_of_ble_eq_true rfl) _ rfl ?_ | refine WO.storeAgg 1 rfl rfl rfl rfl ag_91 rfl (by simp [ints, Value.oneCell']) (Nat.le_of_ble_eq_true rfl) _ rfl ?_ | refine WO.storeAgg 2 rfl rfl rfl rfl ag_91 rfl (by simp [ints, Value.oneCell']) (Nat.le_of_ble_eq_true rfl) _ rfl ?_
      refine WO.nil ?_
      refine blkN ?_
      refine thnN ?_
      refine WP.region ?_
      refine WO.add rfl rfl (by first | exact wrap_i64 (by omega) (by omega) | rfl) rfl ?_
      refine WO.move rfl rfl ?_
      refine WO.nil ?_
      refine thnN ?_
      refine ⟨i + 1, [_, _, _, _, _, _, _, _], ⟨rfl, rfl, rfl, rfl, rfl, rfl, trivial⟩, rfl, ?_, ?_⟩
      · exact ⟨by omega, rfl⟩
      · omega
    · try simp only [decide_eq_true_eq, decide_eq_false_iff_not, beq_iff_eq, beq_eq_false_iff_ne, bne_iff_ne, bne_eq_false_iff_eq, Bool.not_eq_true', Bool.not_eq_false', Int.not_lt, Int.not_le, ne_eq] at h2
      refine WP.exit ?_
      refine thnE ?_
      refine thnE ?_
      refine blkHit ?_
      refine thnN ?_
      refine WP.seq ?_
      refine WP.seq ?_
      refine WP.region ?_
      refine WO.move rfl rfl ?_
      refine WO.nil ?_
      refine thnN ?_
      refine WP.block ?_
      refine WP.imp (Imp.take 4 rfl) ?_
      refine WP.loop2 (fun (i : Nat) (ys : List Int) => [(2, .pointer (some ⟨b0, 0, none⟩)), (4, .pointer (some ⟨b1, 0, none⟩)), (7, .pointer (some ⟨b4, 0, none⟩)), (98, .int .i64 (i))]) (fun (i : Nat) (ys : List Int) => [[(b0, .cells (ints .u32 ys).toArray 91 (0, 0))], [(b4, .cells (ints .u32 [x0, x1, x2, x3, x4, x5, x6, x7]).toArray 91 (0, 0))], [(b3, .cells (ints .u32 sc).toArray 102 (0, 0))], [(b2, .cells (ints .u32 ks).toArray 102 (0, 0))], [(b1, .cells (ints .u32 [0, 0, 0, 0, 0, 0, 0, 0]).toArray 91 (0, 0))]]) (fun (i : Nat) (ys : List Int) => i ≤ 8 ∧ ys.length = 8) (fun (i : Nat) (ys : List Int) => 8 - i) ⟨0, [v0, v1, v2, v3, v4, v5, v6, v7], ⟨rfl, rfl, rfl, rfl, trivial⟩, rfl, ?_⟩ ?_
      · exact ⟨by omega, rfl⟩
      · intro i ys hI
        obtain ⟨hi2, hl2⟩ := hI
        obtain ⟨y0, y1, y2, y3, y4, y5, y6, y7, rfl⟩ := len8 hl2
        refine WP.seq ?_
        refine WP.region ?_
        refine WO.lssI rfl rfl rfl ?_
        refine WO.nil ?_
        refine thnN ?_
        refine WP.seq ?_
        refine WP.condL 99 rfl (fun h3 => ?_) (fun h4 => ?_)
        · try simp only [decide_eq_true_eq, decide_eq_false_iff_not, beq_iff_eq, beq_eq_false_iff_ne, bne_iff_ne, bne_eq_false_iff_eq, Bool.not_eq_true', Bool.not_eq_false', Int.not_lt, Int.not_le, ne_eq] at h3
          refine WP.skip ?_
          refine thnN ?_
          refine WP.seq ?_
          refine WP.block ?_
          refine WP.seq ?_
          refine WP.region ?_
          refine WO.move rfl rfl ?_
          refine WO.assign rfl rfl ?_
          refine WO.nil ?_
          refine thnN ?_
          refine WP.regionD [] [0, 0, 0, 0, 0, 0, 0, 0, 2] [(0, 0, [1, 2, 6, 7, 8]), (1, 0, [2, 6, 7, 8]), (2, 1, [6, 7, 8]), (3, 0, [4, 5, 6, 7, 8]), (4, 0, [5, 6, 7, 8]), (5, 1, [6, 7, 8]), (6, 0, [7, 8]), (7, 0, [8]), (8, 3, [])] mx_ (by kernel_rfl) (by simp) ?_
          apply WL.pure
          · rfl
          · rfl
          · skip
            refine WO.move rfl rfl ?_
            exact WO.nil ⟨rfl, rfl⟩
          apply WL.pure
          · rfl
          · rfl
          · skip
            refine WO.arrAddr rfl rfl arr_91 (by omega) rfl ?_
            exact WO.nil ⟨rfl, rfl⟩
          apply WL.read
          · rfl
          · rfl
          · skip
            refine WO.loadW rfl sc_90 (by first | exact in0 | exact in1 | exact in2 | exact in3 | exact in4 | exact in5 | exact in6) (by first | omega | (simp; omega)) rfl ?_
            exact WO.nil ⟨rfl, rfl⟩
          apply WL.pure
          · rfl
          · rfl
          · skip
            refine WO.move rfl rfl ?_
            exact WO.nil ⟨rfl, rfl⟩
          apply WL.pure
          · rfl
          · rfl
          · skip
            refine WO.arrAddr rfl rfl arr_91 (by omega) rfl ?_
            exact WO.nil ⟨rfl, rfl⟩
          apply WL.read
          · rfl
          · rfl
          · skip
            refine WO.loadW rfl sc_90 (by first | exact in0 | exact in1 | exact in2 | exact in3 | exact in4 | exact in5 | exact in6) (by first | omega | (simp; omega)) rfl ?_
            exact WO.nil ⟨rfl, rfl⟩
          apply WL.pure
          · rfl
          · rfl
          · skip
            refine WO.add rfl rfl (by first | exact wrap_u32 (by omega) (by omega) | rfl) rfl ?_
            exact WO.nil ⟨rfl, rfl⟩
          apply WL.pure
          · rfl
          · rfl
          · skip
            refine WO.arrAddr rfl rfl arr_91 (by omega) rfl ?_
            exact WO.nil ⟨rfl, rfl⟩
          refine WL.eff rfl rfl ?_
          first | refine WO.storeW 0 rfl rfl rfl sc_90 (by first | omega | (simp; omega)) ?_ | refine WO.storeW 1 rfl rfl rfl sc_90 (by first | omega | (simp; omega)) ?_ | refine WO.storeW 2 rfl rfl rfl sc_90 (by first | omega | (simp; omega)) ?_ | refine WO.storeW 3 rfl rfl rfl sc_90 (by first | omega | (simp; omega)) ?_ | refine WO.storeW 4 rfl rfl rfl sc_90 (by first | omega | (simp; omega)) ?_
          refine WO.nil (capN ?_)
          refine WL.nil ?_
          refine blkN ?_
          refine thnN ?_
          refine WP.region ?_
          refine WO.add rfl rfl (by first | exact wrap_i64 (by omega) (by omega) | rfl) rfl ?_
          refine WO.move rfl rfl ?_
          refine WO.nil ?_
          refine thnN ?_
          refine ⟨i + 1, List.set [y0, y1, y2, y3, y4, y5, y6, y7] (i : Int).toNat _, ⟨rfl, rfl, rfl, rfl, trivial⟩, rfl, ?_, ?_⟩
          · exact ⟨by omega, by simp⟩
          · omega
        · try simp only [decide_eq_true_eq, decide_eq_false_iff_not, beq_iff_eq, beq_eq_false_iff_ne, bne_iff_ne, bne_eq_false_iff_eq, Bool.not_eq_true', Bool.not_eq_false', Int.not_lt, Int.not_le, ne_eq] at h4
          refine WP.exit ?_
          refine thnE ?_
          refine thnE ?_
          refine blkHit ?_
          refine thnN ?_
          refine WP.seq ?_
          refine WP.region ?_
          first | refine WO.loadAll rfl ag_91 (by first | exact in0 | exact in1 | exact in2 | exact in3 | exact in4 | exact in5 | exact in6) rfl rfl ?_ | refine WO.loadAgg rfl ag_91 (by first | exact in0 | exact in1 | exact in2 | exact in3 | exact in4 | exact in5 | exact in6) rfl rfl rfl ?_
          first | refine WO.storeAll 0 rfl rfl rfl rfl ag_91 rfl (by rfl) ?_ | refine WO.storeAll 1 rfl rfl rfl rfl ag_91 rfl (by rfl) ?_ | refine WO.storeAll 2 rfl rfl rfl rfl ag_91 rfl (by rfl) ?_ | refine WO.storeAll 3 rfl rfl rfl rfl ag_91 rfl (by rfl) ?_ | refine WO.storeAll 4 rfl rfl rfl rfl ag_91 rfl (by rfl) ?_ | refine WO.storeAll 5 rfl rfl rfl rfl ag_91 rfl (by rfl) ?_ | refine WO.storeAgg 0 rfl rfl rfl rfl ag_91 rfl (by simp [ints, Value.oneCell']) (Nat.le_of_ble_eq_true rfl) _ rfl ?_ | refine WO.storeAgg 1 rfl rfl rfl rfl ag_91 rfl (by simp [ints, Value.oneCell']) (Nat.le_of_ble_eq_true rfl) _ rfl ?_ | refine WO.storeAgg 2 rfl rfl rfl rfl ag_91 rfl (by simp [ints, Value.oneCell']) (Nat.le_of_ble_eq_true rfl) _ rfl ?_
          refine WO.nil ?_
          refine thnN ?_
          refine WP.ret ?_
          refine ⟨_, [], Res.cell1 rfl ag_91 (by first | exact in0 | exact in1 | exact in2 | exact in3 | exact in4 | exact in5 | exact in6) rfl rfl, (Imp.nil _), ?_⟩
          exact ⟨⟨_, hl2, rfl⟩, rfl⟩

end Go.Proofs.YtpaipfceibcbkaaDoor
