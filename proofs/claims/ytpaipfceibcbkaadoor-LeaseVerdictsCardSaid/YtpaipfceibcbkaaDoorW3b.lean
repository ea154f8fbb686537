/- Walks: what functions of the program answer, over the logic of footprints. Written by wip/tools/gen.py out of a spec of this session's. -/
import Derived.Test.YtpaipfceibcbkaaDoorW1c
import Derived.Test.YtpaipfceibcbkaaDoorW3
set_option linter.unusedVariables false
set_option linter.unusedSimpArgs false
set_option maxRecDepth 100000
namespace Go.Proofs.YtpaipfceibcbkaaDoor
open Go.SL Go.Proofs.YtpaipfceibcbkaaDoor
open Go.Law03

theorem s_PText (b : Nat) (l : List Int) (s : List UInt8) (F : Foot) (hy0 : PkF 62 b l F) (hy1 : l.length ≤ 50000) (hy2 : s.length ≤ 10000) : CallsS P 34 [.pointer (some ⟨b, 0, none⟩), str s] [F] (fun v L => v = .pointer (some ⟨b, 0, none⟩) ∧ ∃ F1 l1, L = [F1] ∧ PkF 62 b l1 F1 ∧ l1.length ≤ l.length + 10 + s.length) := by
  refine CallsS.intro Tryd.func34 rfl rfl rfl rfl ?_
  refine WP.seq ?_
  refine WP.region ?_
  refine WO.assign rfl rfl ?_
  refine WO.nil ?_
  refine thnN ?_
  refine WP.seq ?_
  refine WP.region ?_
  refine WO.move rfl rfl ?_
  refine WO.move rfl rfl ?_
  refine WO.lenS rfl un_9 rfl ?_
  refine WO.call (s_PNum b l _ F ?_ ?_ ?_) rfl ca_51 rfl rfl ?_
  · first | assumption | omega
  · first | assumption | omega
  · first | assumption | omega
  rintro _ _ ⟨rfl, F1, l1, rfl, hP1, hl1⟩
  refine WO.move rfl rfl ?_
  refine WO.call (s_PRaw b l1 s F1 ?_ ?_ ?_) rfl ca_52 rfl rfl ?_
  · first | assumption | omega
  · first | assumption | omega
  · first | assumption | omega
  rintro _ _ ⟨rfl, F2, l2, rfl, hP2, hl2⟩
  refine WO.assign rfl rfl ?_
  refine WO.nil ?_
  refine thnN ?_
  refine WP.ret ?_
  refine ⟨_, _, (Res.one rfl), (Imp.refl _), ?_⟩
  exact ⟨rfl, F2, l2, rfl, hP2, by omega⟩

theorem s_sha_New : CallsS P 48 [] [] (fun v L => ∃ b ws, v = .pointer (some ⟨b, 0, none⟩) ∧ ws.length = 8 ∧ L = [[(b, .cells (ints .u32 ws ++ [str ([]), .int .i64 (0)]).toArray 94 (0, 0))]]) := by
  refine CallsS.intro Tryd.func48 rfl rfl rfl rfl ?_
  refine WP.seq ?_
  refine WP.region ?_
  refine WO.assign rfl rfl ?_
  refine WO.nil ?_
  refine thnN ?_
  refine WP.seq ?_
  refine WP.region ?_
  refine WO.callQ (s_sha_start) rfl ca_62 rfl ?_
  rintro _ ⟨ws, hw, rfl⟩
  obtain ⟨w0, w1, w2, w3, w4, w5, w6, w7, rfl⟩ := len8 hw
  refine WO.buildQ (cs := [_, _, _, _, _, _, _, _, _, _]) rfl lay_94 zo_94 rfl rfl ?_
  refine WO.box rfl rfl rfl (fun b0 => ?_)
  refine WO.assign rfl rfl ?_
  refine WO.nil ?_
  refine thnN ?_
  refine WP.ret ?_
  refine ⟨_, _, (Res.one rfl), (Imp.refl _), ?_⟩
  exact ⟨_, [w0, w1, w2, w3, w4, w5, w6, w7], rfl, rfl, rfl⟩

theorem s_HWrite (b : Nat) (ws : List Int) (rest : List UInt8) (n : Int) (s : List UInt8) (hy0 : ws.length = 8) (hy1 : rest.length ≤ 63) (hy2 : 0 ≤ n ∧ n ≤ 100000000) (hy3 : s.length ≤ 1000000) : CallsS P 49 [.pointer (some ⟨b, 0, none⟩), str s] [[(b, .cells (ints .u32 ws ++ [str (rest), .int .i64 (n)]).toArray 94 (0, 0))]] (fun v L => v = .tuple #[] ∧ ∃ ws', ws'.length = 8 ∧ ∃ rest', rest'.length ≤ 63 ∧ L = [[(b, .cells (ints .u32 ws' ++ [str (rest'), .int .i64 (n + s.length)]).toArray 94 (0, 0))]]) := by
  obtain ⟨w0, w1, w2, w3, w4, w5, w6, w7, rfl⟩ := len8 hy0
  refine CallsS.intro Tryd.func49 rfl rfl rfl rfl ?_
  refine WP.seq ?_
  refine WP.seq ?_
  refine WP.region ?_
  refine WO.move rfl rfl ?_
  refine WO.eqlP rfl rfl ptr_80 rfl ?_
  refine WO.nil ?_
  refine thnN ?_
  refine WP.condF rfl ?_
  refine WP.skip ?_
  refine thnN ?_
  refine WP.seq ?_
  refine WP.region ?_
  refine WO.move rfl rfl ?_
  refine WO.nilCheck rfl rfl ?_
  refine WO.fieldAddr rfl fo_94_2 rfl ?_
  refine WO.load rfl sc_3 (by first | exact in0 | exact in1 | exact in2 | exact in3 | exact in4 | exact in5 | exact in6) rfl rfl ?_
  refine WO.move rfl rfl ?_
  refine WO.lenS rfl un_9 rfl ?_
  refine WO.add rfl rfl (by first | exact wrap_i64 (by omega) (by omega) | rfl) rfl ?_
  refine WO.nilCheck rfl rfl ?_
  refine WO.fieldAddr rfl fo_94_2 rfl ?_
  first | refine WO.store 0 rfl rfl rfl sc_3 rfl rfl _ rfl ?_ | refine WO.store 1 rfl rfl rfl sc_3 rfl rfl _ rfl ?_ | refine WO.store 2 rfl rfl rfl sc_3 rfl rfl _ rfl ?_ | refine WO.store 3 rfl rfl rfl sc_3 rfl rfl _ rfl ?_
  refine WO.nil ?_
  refine thnN ?_
  refine WP.seq ?_
  refine WP.region ?_
  refine WO.move rfl rfl ?_
  refine WO.nilCheck rfl rfl ?_
  refine WO.fieldAddr rfl fo_94_1 rfl ?_
  refine WO.load rfl sc_9 (by first | exact in0 | exact in1 | exact in2 | exact in3 | exact in4 | exact in5 | exact in6) rfl rfl ?_
  refine WO.move rfl rfl ?_
  refine WO.addS rfl rfl (by first | omega | (simp only [len_toBytes, List.length_append, List.length_cons, List.length_nil, List.length_drop, List.length_take]; omega)) rfl ?_
  refine WO.nilCheck rfl rfl ?_
  refine WO.fieldAddr rfl fo_94_1 rfl ?_
  first | refine WO.store 0 rfl rfl rfl sc_9 rfl rfl _ rfl ?_ | refine WO.store 1 rfl rfl rfl sc_9 rfl rfl _ rfl ?_ | refine WO.store 2 rfl rfl rfl sc_9 rfl rfl _ rfl ?_ | refine WO.store 3 rfl rfl rfl sc_9 rfl rfl _ rfl ?_
  refine WO.nil ?_
  refine thnN ?_
  refine WP.block ?_
  refine WP.loop2 (fun (us : List Int) (o : List UInt8) => [(0, .pointer (some ⟨b, 0, none⟩))]) (fun (us : List Int) (o : List UInt8) => [[(b, .cells (ints .u32 us ++ [str (o), .int .i64 (n + s.length)]).toArray 94 (0, 0))]]) (fun (us : List Int) (o : List UInt8) => us.length = 8 ∧ o.length ≤ 2000000) (fun (us : List Int) (o : List UInt8) => o.length) ⟨[w0, w1, w2, w3, w4, w5, w6, w7], rest ++ s, ⟨rfl, trivial⟩, rfl, ?_⟩ ?_
  · exact ⟨rfl, by simp only [List.length_append]; omega⟩
  · intro us o hI
    obtain ⟨hu, ho⟩ := hI
    obtain ⟨u0, u1, u2, u3, u4, u5, u6, u7, rfl⟩ := len8 hu
    refine WP.seq ?_
    refine WP.seq ?_
    refine WP.region ?_
    refine WO.move rfl rfl ?_
    refine WO.nilCheck rfl rfl ?_
    refine WO.fieldAddr rfl fo_94_1 rfl ?_
    refine WO.load rfl sc_9 (by first | exact in0 | exact in1 | exact in2 | exact in3 | exact in4 | exact in5 | exact in6) rfl rfl ?_
    refine WO.lenS rfl un_9 rfl ?_
    refine WO.geqI rfl rfl rfl ?_
    refine WO.nil ?_
    refine thnN ?_
    refine WP.condL 28 rfl (fun h1 => ?_) (fun h2 => ?_)
    · try simp only [decide_eq_true_eq, decide_eq_false_iff_not, beq_iff_eq, beq_eq_false_iff_ne, bne_iff_ne, bne_eq_false_iff_eq, Bool.not_eq_true', Bool.not_eq_false', Int.not_lt, Int.not_le, ne_eq] at h1
      refine WP.skip ?_
      refine thnN ?_
      refine WP.block ?_
      refine WP.seq ?_
      refine WP.regionD [] [0, 0, 0, 0, 0, 0, 0, 0, 0, 0, 0, 0, 0, 2] [(0, 0, [11, 12, 13]), (1, 0, [2, 3, 4, 10, 11, 12, 13]), (2, 0, [3, 4, 10, 11, 12, 13]), (3, 0, [4, 10, 11, 12, 13]), (4, 1, [10, 11, 12, 13]), (5, 0, [6, 7, 8, 9, 10, 11, 12, 13]), (6, 0, [7, 8, 9, 10, 11, 12, 13]), (7, 0, [8, 9, 10, 11, 12, 13]), (8, 1, [9, 10, 11, 12, 13]), (9, 0, [10, 11, 12, 13]), (10, 3, []), (11, 0, [12, 13]), (12, 0, [13]), (13, 3, [])] mx_ (by kernel_rfl) (by simp) ?_
      apply WL.pure
      · rfl
      · rfl
      · skip
        refine WO.move rfl rfl ?_
        exact WO.nil ⟨rfl, rfl⟩
      apply WL.pure
      · rfl
      · rfl
      · skip
        refine WO.move rfl rfl ?_
        exact WO.nil ⟨rfl, rfl⟩
      apply WL.pure
      · rfl
      · rfl
      · skip
        refine WO.nilCheck rfl rfl ?_
        exact WO.nil ⟨rfl, rfl⟩
      apply WL.pure
      · rfl
      · rfl
      · skip
        refine WO.fieldAddr rfl fo_94_0 rfl ?_
        exact WO.nil ⟨rfl, rfl⟩
      apply WL.read
      · rfl
      · rfl
      · skip
        first | refine WO.loadAll rfl ag_91 (by first | exact in0 | exact in1 | exact in2 | exact in3 | exact in4 | exact in5 | exact in6) rfl rfl ?_ | refine WO.loadAgg rfl ag_91 (by first | exact in0 | exact in1 | exact in2 | exact in3 | exact in4 | exact in5 | exact in6) rfl rfl rfl ?_
        exact WO.nil ⟨rfl, rfl⟩
      apply WL.pure
      · rfl
      · rfl
      · skip
        refine WO.move rfl rfl ?_
        exact WO.nil ⟨rfl, rfl⟩
      apply WL.pure
      · rfl
      · rfl
      · skip
        refine WO.nilCheck rfl rfl ?_
        exact WO.nil ⟨rfl, rfl⟩
      apply WL.pure
      · rfl
      · rfl
      · skip
        refine WO.fieldAddr rfl fo_94_1 rfl ?_
        exact WO.nil ⟨rfl, rfl⟩
      apply WL.read
      · rfl
      · rfl
      · skip
        refine WO.load rfl sc_9 (by first | exact in0 | exact in1 | exact in2 | exact in3 | exact in4 | exact in5 | exact in6) rfl rfl ?_
        exact WO.nil ⟨rfl, rfl⟩
      apply WL.pure
      · rfl
      · rfl
      · skip
        refine WO.sliceSH rfl rfl un_9 (by omega) (by omega) rfl ?_
        exact WO.nil ⟨rfl, rfl⟩
      refine WL.effG rfl (by simp) ?_
      refine WO.callQ (s_sha_step [u0, u1, u2, u3, u4, u5, u6, u7] _ ?_ ?_) rfl ca_63 rfl ?_
      · first | rfl | (simp; omega)
      · first | rfl | (simp; omega)
      rintro _ ⟨ws', hw', rfl⟩
      obtain ⟨c0, c1, c2, c3, c4, c5, c6, c7, rfl⟩ := len8 hw'
      refine WO.nil (capN ⟨(by first | exact ⟨[], rfl⟩ | exact ⟨[_], rfl⟩), ?_⟩)
      apply WL.pure
      · rfl
      · rfl
      · skip
        refine WO.nilCheck rfl rfl ?_
        exact WO.nil ⟨rfl, rfl⟩
      apply WL.pure
      · rfl
      · rfl
      · skip
        refine WO.fieldAddr rfl fo_94_0 rfl ?_
        exact WO.nil ⟨rfl, rfl⟩
      refine WL.eff rfl rfl ?_
      first | refine WO.storeAll 0 rfl rfl rfl rfl ag_91 rfl (by rfl) ?_ | refine WO.storeAll 1 rfl rfl rfl rfl ag_91 rfl (by rfl) ?_ | refine WO.storeAll 2 rfl rfl rfl rfl ag_91 rfl (by rfl) ?_ | refine WO.storeAll 3 rfl rfl rfl rfl ag_91 rfl (by rfl) ?_ | refine WO.storeAll 4 rfl rfl rfl rfl ag_91 rfl (by rfl) ?_ | refine WO.storeAll 5 rfl rfl rfl rfl ag_91 rfl (by rfl) ?_ | refine WO.storeAgg 0 rfl rfl rfl rfl ag_91 rfl (by simp [ints, Value.oneCell']) (Nat.le_of_ble_eq_true rfl) _ rfl ?_ | refine WO.storeAgg 1 rfl rfl rfl rfl ag_91 rfl (by simp [ints, Value.oneCell']) (Nat.le_of_ble_eq_true rfl) _ rfl ?_ | refine WO.storeAgg 2 rfl rfl rfl rfl ag_91 rfl (by simp [ints, Value.oneCell']) (Nat.le_of_ble_eq_true rfl) _ rfl ?_
      refine WO.nil (capN ?_)
      refine WL.nil ?_
      refine thnN ?_
      refine WP.region ?_
      refine WO.move rfl rfl ?_
      refine WO.move rfl rfl ?_
      refine WO.nilCheck rfl rfl ?_
      refine WO.fieldAddr rfl fo_94_1 rfl ?_
      refine WO.load rfl sc_9 (by first | exact in0 | exact in1 | exact in2 | exact in3 | exact in4 | exact in5 | exact in6) rfl rfl ?_
      refine WO.sliceSL rfl rfl un_9 (by omega) (by omega) rfl ?_
      refine WO.nilCheck rfl rfl ?_
      refine WO.fieldAddr rfl fo_94_1 rfl ?_
      first | refine WO.store 0 rfl rfl rfl sc_9 rfl rfl _ rfl ?_ | refine WO.store 1 rfl rfl rfl sc_9 rfl rfl _ rfl ?_ | refine WO.store 2 rfl rfl rfl sc_9 rfl rfl _ rfl ?_ | refine WO.store 3 rfl rfl rfl sc_9 rfl rfl _ rfl ?_
      refine WO.nil ?_
      refine blkN ?_
      refine thnN ?_
      refine ⟨[c0, c1, c2, c3, c4, c5, c6, c7], o.drop (64 : Int).toNat, ⟨rfl, trivial⟩, rfl, ?_, ?_⟩
      · exact ⟨rfl, by simp only [List.length_drop]; omega⟩
      · simp only [List.length_drop]; omega
    · try simp only [decide_eq_true_eq, decide_eq_false_iff_not, beq_iff_eq, beq_eq_false_iff_ne, bne_iff_ne, bne_eq_false_iff_eq, Bool.not_eq_true', Bool.not_eq_false', Int.not_lt, Int.not_le, ne_eq] at h2
      refine WP.exit ?_
      refine thnE ?_
      refine thnE ?_
      refine blkHit ?_
      refine ⟨_, _, Res.empty, (Imp.refl _), ?_⟩
      exact ⟨rfl, [u0, u1, u2, u3, u4, u5, u6, u7], rfl, o, by omega, rfl⟩

theorem s_HEnd (b : Nat) (ws : List Int) (rest : List UInt8) (n : Int) (hy0 : ws.length = 8) (hy1 : rest.length ≤ 63) (hy2 : 0 ≤ n ∧ n ≤ 100000000) : CallsS P 64 [.pointer (some ⟨b, 0, none⟩)] [[(b, .cells (ints .u32 ws ++ [str (rest), .int .i64 (n)]).toArray 94 (0, 0))]] (fun v L => ∃ l : List UInt8, l.length ≤ 1000 ∧ v = str l ∧ L = [[(b, .cells (ints .u32 ws ++ [str (rest), .int .i64 (n)]).toArray 94 (0, 0))]]) := by
  obtain ⟨w0, w1, w2, w3, w4, w5, w6, w7, rfl⟩ := len8 hy0
  refine CallsS.intro Tryd.func64 rfl rfl rfl rfl ?_
  refine WP.seq ?_
  refine WP.region ?_
  refine WO.assign rfl rfl ?_
  refine WO.nil ?_
  refine thnN ?_
  refine WP.seq ?_
  refine WP.region ?_
  refine WO.buildSlice (cs := [_]) rfl sl_60 zo_5 rfl rfl rfl (fun l0 => ?_)
  refine WO.assign rfl rfl ?_
  refine WO.nil ?_
  refine thnN ?_
  refine WP.seq ?_
  refine WP.block ?_
  refine WP.loop3 (fun (l : List Int) (vo : Value) (Fo : Foot) => [(0, .pointer (some ⟨b, 0, none⟩)), (3, vo)]) (fun (l : List Int) (vo : Value) (Fo : Foot) => [Fo, [(b, .cells (ints .u32 [w0, w1, w2, w3, w4, w5, w6, w7] ++ [str (rest), .int .i64 (n)]).toArray 94 (0, 0))]]) (fun (l : List Int) (vo : Value) (Fo : Foot) => OwnSl 5 1 vo (l).length (ints .u8 (l)) Fo ∧ l.length + ((64 - (rest.length + l.length + 8) % 64) % 64) ≤ 100) (fun (l : List Int) (vo : Value) (Fo : Foot) => (64 - (rest.length + l.length + 8) % 64) % 64) ⟨[128], _, _, ⟨rfl, rfl, trivial⟩, rfl, ?_⟩ ?_
  · exact ⟨OwnSl.ofLit rfl, by simp only [List.length_cons, List.length_nil]; omega⟩
  · intro l vo Fo hI
    obtain ⟨hO, hl⟩ := hI
    obtain ⟨A, c, rfl⟩ := hO.slice
    refine WP.seq ?_
    refine WP.seq ?_
    refine WP.region ?_
    refine WO.move rfl rfl ?_
    refine WO.nilCheck rfl rfl ?_
    refine WO.fieldAddr rfl fo_94_1 rfl ?_
    refine WO.load rfl sc_9 (by first | exact in0 | exact in1 | exact in2 | exact in3 | exact in4 | exact in5 | exact in6 | exact hO.rd.mono (fun p hp => by simp [hp])) rfl rfl ?_
    refine WO.lenS rfl un_9 rfl ?_
    refine WO.move rfl rfl ?_
    refine WO.lenL rfl un_60 rfl ?_
    refine WO.add rfl rfl (by first | exact wrap_i64 (by omega) (by omega) | rfl) rfl ?_
    refine WO.add rfl rfl (by first | exact wrap_i64 (by omega) (by omega) | rfl) rfl ?_
    refine WO.rem rfl rfl (by decide) (by first | exact rem_i64 (by omega) (by omega) | rfl) rfl ?_
    refine WO.neqI rfl rfl rfl ?_
    refine WO.nil ?_
    refine thnN ?_
    refine WP.condL 17 rfl (fun h1 => ?_) (fun h2 => ?_)
    · try simp only [decide_eq_true_eq, decide_eq_false_iff_not, beq_iff_eq, beq_eq_false_iff_ne, bne_iff_ne, bne_eq_false_iff_eq, Bool.not_eq_true', Bool.not_eq_false', Int.not_lt, Int.not_le, ne_eq] at h1
      refine WP.skip ?_
      refine thnN ?_
      refine WP.block ?_
      refine WP.region ?_
      refine WO.move rfl rfl ?_
      refine WO.buildSlice (cs := [_]) rfl sl_60 zo_5 rfl rfl rfl (fun l1 => ?_)
      refine WO.appendL 1 rfl sl_60 ni_60 rfl hO rfl (RdSl.lit in0 rfl) (by simp [Value.oneCell']) (by omega) rfl (fun vk Fk ok => ?_)
      obtain ⟨Ak, ck, rfl⟩ := ok.slice
      refine WO.drop 1 rfl ?_
      refine WO.assign rfl rfl ?_
      refine WO.nil ?_
      refine blkN ?_
      refine thnN ?_
      refine ⟨l ++ [0], _, Fk, ⟨rfl, rfl, trivial⟩, rfl, ?_, ?_⟩
      · exact ⟨by rw [← ints_snoc]; simpa using ok, by simp only [List.length_append, List.length_cons, List.length_nil]; omega⟩
      · simp only [List.length_append, List.length_cons, List.length_nil]; omega
    · try simp only [decide_eq_true_eq, decide_eq_false_iff_not, beq_iff_eq, beq_eq_false_iff_ne, bne_iff_ne, bne_eq_false_iff_eq, Bool.not_eq_true', Bool.not_eq_false', Int.not_lt, Int.not_le, ne_eq] at h2
      refine WP.exit ?_
      refine thnE ?_
      refine thnE ?_
      refine blkHit ?_
      refine thnN ?_
      refine WP.seq ?_
      refine WP.region ?_
      refine WO.move rfl rfl ?_
      refine WO.nilCheck rfl rfl ?_
      refine WO.fieldAddr rfl fo_94_2 rfl ?_
      refine WO.load rfl sc_3 (by first | exact in0 | exact in1 | exact in2 | exact in3 | exact in4 | exact in5 | exact in6 | exact hO.rd.mono (fun p hp => by simp [hp])) rfl rfl ?_
      refine WO.conv rfl un_106 un_3 (by first | exact wrap_u64 (by omega) (by omega) | rfl) rfl ?_
      refine WO.mul rfl rfl (by first | exact wrap_u64 (by omega) (by omega) | rfl) rfl ?_
      refine WO.assign rfl rfl ?_
      refine WO.nil ?_
      refine thnN ?_
      refine WP.seq ?_
      refine WP.seq ?_
      refine WP.region ?_
      refine WO.assign rfl rfl ?_
      refine WO.nil ?_
      refine thnN ?_
      refine WP.block ?_
      refine WP.loop5 (fun (k x : Int) (l : List Int) (vo : Value) (Fo : Foot) => [(3, vo), (4, .int .u64 x), (5, .int .i64 k)]) (fun (k x : Int) (l : List Int) (vo : Value) (Fo : Foot) => [Fo, [(b, .cells (ints .u32 [w0, w1, w2, w3, w4, w5, w6, w7] ++ [str (rest), .int .i64 (n)]).toArray 94 (0, 0))]]) (fun (k x : Int) (l : List Int) (vo : Value) (Fo : Foot) => OwnSl 5 1 vo (l).length (ints .u8 (l)) Fo ∧ (-1 ≤ k ∧ k ≤ 7) ∧ (l.length : Int) + k ≤ 200) (fun (k x : Int) (l : List Int) (vo : Value) (Fo : Foot) => (k + 1).toNat) ⟨7, _, l, _, Fo, ⟨rfl, rfl, rfl, trivial⟩, rfl, ?_⟩ ?_
      · exact ⟨hO, by omega, by omega⟩
      · intro k x l vo Fo hI
        obtain ⟨hO, hk, hl⟩ := hI
        obtain ⟨A, c, rfl⟩ := hO.slice
        refine WP.seq ?_
        refine WP.seq ?_
        refine WP.region ?_
        refine WO.move rfl rfl ?_
        refine WO.geqI rfl rfl rfl ?_
        refine WO.nil ?_
        refine thnN ?_
        refine WP.condL 28 rfl (fun h4 => ?_) (fun h5 => ?_)
        · try simp only [decide_eq_true_eq, decide_eq_false_iff_not, beq_iff_eq, beq_eq_false_iff_ne, bne_iff_ne, bne_eq_false_iff_eq, Bool.not_eq_true', Bool.not_eq_false', Int.not_lt, Int.not_le, ne_eq] at h4
          refine WP.skip ?_
          refine thnN ?_
          refine WP.seq ?_
          refine WP.block ?_
          refine WP.region ?_
          refine WO.move rfl rfl ?_
          refine WO.move rfl rfl ?_
          refine WO.move rfl rfl ?_
          refine WO.mul rfl rfl (by first | exact wrap_i64 (by omega) (by omega) | rfl) rfl ?_
          refine WO.shr rfl rfl (by omega) (by first | rfl) rfl ?_
          refine WO.conv rfl un_5 un_106 (by first | exact wrap_u8 (by omega) (by omega) | rfl) rfl ?_
          refine WO.buildSlice (cs := [_]) rfl sl_60 zo_5 rfl rfl rfl (fun l2 => ?_)
          refine WO.appendL 1 rfl sl_60 ni_60 rfl hO rfl (RdSl.lit in0 rfl) (by simp [Value.oneCell']) (by omega) rfl (fun vk Fk ok => ?_)
          obtain ⟨Ak, ck, rfl⟩ := ok.slice
          refine WO.drop 1 rfl ?_
          refine WO.assign rfl rfl ?_
          refine WO.nil ?_
          refine blkN ?_
          refine thnN ?_
          refine WP.region ?_
          refine WO.move rfl rfl ?_
          refine WO.sub' rfl rfl (by first | exact wrap_i64 (by omega) (by omega) | rfl) rfl ?_
          refine WO.assign rfl rfl ?_
          refine WO.nil ?_
          refine thnN ?_
          refine ⟨k - 1, x, l ++ [IntKind.u8.wrap (shrI .u64 x (8 * k))], _, Fk, ⟨rfl, rfl, rfl, trivial⟩, rfl, ?_, ?_⟩
          · exact ⟨by rw [← ints_snoc]; simpa using ok, by omega, by simp only [List.length_append, List.length_cons, List.length_nil]; omega⟩
          · omega
        · try simp only [decide_eq_true_eq, decide_eq_false_iff_not, beq_iff_eq, beq_eq_false_iff_ne, bne_iff_ne, bne_eq_false_iff_eq, Bool.not_eq_true', Bool.not_eq_false', Int.not_lt, Int.not_le, ne_eq] at h5
          refine WP.exit ?_
          refine thnE ?_
          refine thnE ?_
          refine blkHit ?_
          refine thnN ?_
          refine WP.seq ?_
          refine WP.region ?_
          refine WO.move rfl rfl ?_
          refine WO.convBS rfl (by first | assumption | exact hO.rd.mono (fun p hp => by simp [hp])) un_9 un_60 un_5 rfl ?_
          refine WO.assign rfl rfl ?_
          refine WO.nil ?_
          refine thnN ?_
          refine WP.ret ?_
          refine ⟨_, [[(b, .cells (ints .u32 [w0, w1, w2, w3, w4, w5, w6, w7] ++ [str (rest), .int .i64 (n)]).toArray 94 (0, 0))]], (Res.one rfl), (Imp.drop 0 rfl), ?_⟩
          exact ⟨toBytes l, by rw [len_toBytes]; omega, rfl, rfl⟩

theorem s_HSum (b : Nat) (ws : List Int) (rest : List UInt8) (n : Int) (hy0 : ws.length = 8) (hy1 : rest.length ≤ 63) (hy2 : 0 ≤ n ∧ n ≤ 100000000) : CallsS P 50 [.pointer (some ⟨b, 0, none⟩)] [[(b, .cells (ints .u32 ws ++ [str (rest), .int .i64 (n)]).toArray 94 (0, 0))]] (fun v L => ∃ l : List UInt8, l.length = 32 ∧ v = str l ∧ L = []) := by
  obtain ⟨w0, w1, w2, w3, w4, w5, w6, w7, rfl⟩ := len8 hy0
  refine CallsS.intro Tryd.func50 rfl rfl rfl rfl ?_
  refine WP.seq ?_
  refine WP.region ?_
  refine WO.assign rfl rfl ?_
  refine WO.nil ?_
  refine thnN ?_
  refine WP.seq ?_
  refine WP.seq ?_
  refine WP.region ?_
  refine WO.move rfl rfl ?_
  refine WO.eqlP rfl rfl ptr_80 rfl ?_
  refine WO.nil ?_
  refine thnN ?_
  refine WP.condF rfl ?_
  refine WP.skip ?_
  refine thnN ?_
  refine WP.seq ?_
  refine WP.region ?_
  refine WO.move rfl rfl ?_
  refine WO.nilCheck rfl rfl ?_
  first | refine WO.loadAll rfl ag_94 (by first | exact in0 | exact in1 | exact in2 | exact in3 | exact in4 | exact in5 | exact in6 | exact hO.rd.mono (fun p hp => by simp [hp])) rfl rfl ?_ | refine WO.loadAgg rfl ag_94 (by first | exact in0 | exact in1 | exact in2 | exact in3 | exact in4 | exact in5 | exact in6 | exact hO.rd.mono (fun p hp => by simp [hp])) rfl rfl rfl ?_
  refine WO.alloc zo_94 rfl (fun b0 => ?_)
  first | refine WO.storeAll 0 rfl rfl rfl rfl ag_94 rfl (by rfl) ?_ | refine WO.storeAll 1 rfl rfl rfl rfl ag_94 rfl (by rfl) ?_ | refine WO.storeAll 2 rfl rfl rfl rfl ag_94 rfl (by rfl) ?_ | refine WO.storeAll 3 rfl rfl rfl rfl ag_94 rfl (by rfl) ?_ | refine WO.storeAll 4 rfl rfl rfl rfl ag_94 rfl (by rfl) ?_ | refine WO.storeAll 5 rfl rfl rfl rfl ag_94 rfl (by rfl) ?_ | refine WO.storeAgg 0 rfl rfl rfl rfl ag_94 rfl (by simp [ints, Value.oneCell']) (Nat.le_of_ble_eq_true rfl) _ rfl ?_ | refine WO.storeAgg 1 rfl rfl rfl rfl ag_94 rfl (by simp [ints, Value.oneCell']) (Nat.le_of_ble_eq_true rfl) _ rfl ?_ | refine WO.storeAgg 2 rfl rfl rfl rfl ag_94 rfl (by simp [ints, Value.oneCell']) (Nat.le_of_ble_eq_true rfl) _ rfl ?_
  refine WO.nil ?_
  refine thnN ?_
  refine WP.seq ?_
  refine WP.region ?_
  refine WO.move rfl rfl ?_
  refine WO.take 1 rfl ?_
  refine WO.call (s_HEnd b [w0, w1, w2, w3, w4, w5, w6, w7] rest n ?_ ?_ ?_) rfl ca_64 rfl rfl ?_
  · first | rfl | assumption | omega
  · first | rfl | assumption | omega
  · first | rfl | assumption | omega
  rintro _ _ ⟨le, hle, rfl, rfl⟩
  refine WO.take 1 rfl ?_
  refine WO.call (s_HWrite b0 [w0, w1, w2, w3, w4, w5, w6, w7] rest n le ?_ ?_ ?_ ?_) rfl ca_49 rfl rfl ?_
  · first | rfl | assumption | omega
  · first | rfl | assumption | omega
  · first | rfl | assumption | omega
  · first | rfl | assumption | omega
  rintro _ _ ⟨rfl, ws1, hw1, rest1, hr1, rfl⟩
  obtain ⟨c0, c1, c2, c3, c4, c5, c6, c7, rfl⟩ := len8 hw1
  refine WO.nil ?_
  refine thnN ?_
  refine WP.seq ?_
  refine WP.region ?_
  refine WO.assign rfl rfl ?_
  refine WO.nil ?_
  refine thnN ?_
  refine WP.seq ?_
  refine WP.seq ?_
  refine WP.region ?_
  refine WO.fieldAddr rfl fo_94_0 rfl ?_
  refine WO.loadAgg (vs := ints .u32 [c0, c1, c2, c3, c4, c5, c6, c7]) rfl ag_91 (by first | exact in0 | exact in1) rfl rfl rfl ?_
  refine WO.move rfl rfl ?_
  refine WO.nil ?_
  refine thnN ?_
  refine WP.block ?_
  refine WP.imp ((Imp.flat rfl : Imp _ [[], [(b0, .cells (ints .u32 [c0, c1, c2, c3, c4, c5, c6, c7] ++ [str (rest1), .int .i64 (n + le.length)]).toArray 94 (0, 0))], [(b, .cells (ints .u32 [w0, w1, w2, w3, w4, w5, w6, w7] ++ [str (rest), .int .i64 (n)]).toArray 94 (0, 0))]])) ?_
  refine WP.loop4 (fun (i : Nat) (l : List Int) (vo : Value) (Fo : Foot) => [(4, vo), (16, .agg (ints .u32 [c0, c1, c2, c3, c4, c5, c6, c7]).toArray), (17, .int .i64 (i : Int))]) (fun (i : Nat) (l : List Int) (vo : Value) (Fo : Foot) => [Fo, [(b0, .cells (ints .u32 [c0, c1, c2, c3, c4, c5, c6, c7] ++ [str (rest1), .int .i64 (n + le.length)]).toArray 94 (0, 0))], [(b, .cells (ints .u32 [w0, w1, w2, w3, w4, w5, w6, w7] ++ [str (rest), .int .i64 (n)]).toArray 94 (0, 0))]]) (fun (i : Nat) (l : List Int) (vo : Value) (Fo : Foot) => OwnSl 5 1 vo (l).length (ints .u8 (l)) Fo ∧ i ≤ 8 ∧ l.length = 4 * i) (fun (i : Nat) (l : List Int) (vo : Value) (Fo : Foot) => 8 - i) ⟨0, [], _, [], ⟨rfl, rfl, rfl, trivial⟩, rfl, ?_⟩ ?_
  · exact ⟨OwnSl.nil _ _, by omega, rfl⟩
  · intro i l vo Fo hI
    obtain ⟨hO, hi, hl⟩ := hI
    obtain ⟨A, c, rfl⟩ := hO.slice
    refine WP.seq ?_
    refine WP.region ?_
    refine WO.lssI rfl rfl rfl ?_
    refine WO.nil ?_
    refine thnN ?_
    refine WP.seq ?_
    refine WP.condL 18 rfl (fun h1 => ?_) (fun h2 => ?_)
    · try simp only [decide_eq_true_eq, decide_eq_false_iff_not, beq_iff_eq, beq_eq_false_iff_ne, bne_iff_ne, bne_eq_false_iff_eq, Bool.not_eq_true', Bool.not_eq_false', Int.not_lt, Int.not_le, ne_eq] at h1
      refine WP.skip ?_
      refine thnN ?_
      refine WP.seq ?_
      refine WP.block ?_
      refine WP.seq ?_
      refine WP.region ?_
      refine WO.indexA (v := .int .u32 ([c0, c1, c2, c3, c4, c5, c6, c7].getD (i : Int).toNat 0)) rfl rfl arr_91 sc_90 (by omega) (intsGet (by simp; omega)) rfl ?_
      refine WO.assign rfl rfl ?_
      refine WO.nil ?_
      refine thnN ?_
      refine WP.region ?_
      refine WO.move rfl rfl ?_
      refine WO.move rfl rfl ?_
      refine WO.shr rfl rfl (by omega) (by first | rfl) rfl ?_
      refine WO.conv rfl un_5 un_90 (by first | exact wrap_u8 (by omega) (by omega) | rfl) rfl ?_
      refine WO.move rfl rfl ?_
      refine WO.shr rfl rfl (by omega) (by first | rfl) rfl ?_
      refine WO.conv rfl un_5 un_90 (by first | exact wrap_u8 (by omega) (by omega) | rfl) rfl ?_
      refine WO.move rfl rfl ?_
      refine WO.shr rfl rfl (by omega) (by first | rfl) rfl ?_
      refine WO.conv rfl un_5 un_90 (by first | exact wrap_u8 (by omega) (by omega) | rfl) rfl ?_
      refine WO.move rfl rfl ?_
      refine WO.conv rfl un_5 un_90 (by first | exact wrap_u8 (by omega) (by omega) | rfl) rfl ?_
      refine WO.buildSlice (cs := [_, _, _, _]) rfl sl_60 zo_5 rfl rfl rfl (fun l0 => ?_)
      refine WO.appendL 1 rfl sl_60 ni_60 rfl hO rfl (RdSl.lit in0 rfl) (by simp [Value.oneCell']) (by omega) rfl (fun vk Fk ok => ?_)
      obtain ⟨Ak, ck, rfl⟩ := ok.slice
      refine WO.drop 1 rfl ?_
      refine WO.assign rfl rfl ?_
      refine WO.nil ?_
      refine blkN ?_
      refine thnN ?_
      refine WP.region ?_
      refine WO.add rfl rfl (by first | exact wrap_i64 (by omega) (by omega) | rfl) rfl ?_
      refine WO.move rfl rfl ?_
      refine WO.nil ?_
      refine thnN ?_
      refine ⟨i + 1, l ++ [IntKind.u8.wrap (shrI .u32 ([c0, c1, c2, c3, c4, c5, c6, c7].getD (i : Int).toNat 0) 24), IntKind.u8.wrap (shrI .u32 ([c0, c1, c2, c3, c4, c5, c6, c7].getD (i : Int).toNat 0) 16), IntKind.u8.wrap (shrI .u32 ([c0, c1, c2, c3, c4, c5, c6, c7].getD (i : Int).toNat 0) 8), IntKind.u8.wrap ([c0, c1, c2, c3, c4, c5, c6, c7].getD (i : Int).toNat 0)], _, Fk, ⟨rfl, rfl, rfl, trivial⟩, rfl, ?_, ?_⟩
      · exact ⟨by rw [List.length_append, ← ints_app]; exact ok, by omega, by simp only [List.length_append, List.length_cons, List.length_nil]; omega⟩
      · omega
    · try simp only [decide_eq_true_eq, decide_eq_false_iff_not, beq_iff_eq, beq_eq_false_iff_ne, bne_iff_ne, bne_eq_false_iff_eq, Bool.not_eq_true', Bool.not_eq_false', Int.not_lt, Int.not_le, ne_eq] at h2
      refine WP.exit ?_
      refine thnE ?_
      refine thnE ?_
      refine blkHit ?_
      refine thnN ?_
      refine WP.seq ?_
      refine WP.region ?_
      refine WO.move rfl rfl ?_
      refine WO.convBS rfl (by first | assumption | exact hO.rd.mono (fun p hp => by simp [hp])) un_9 un_60 un_5 rfl ?_
      refine WO.assign rfl rfl ?_
      refine WO.nil ?_
      refine thnN ?_
      refine WP.ret ?_
      refine ⟨_, [], (Res.one rfl), (Imp.nil _), ?_⟩
      exact ⟨toBytes l, by rw [len_toBytes]; omega, rfl, rfl⟩

theorem s_ShaSum (s : List UInt8) (hy0 : s.length ≤ 1000000) : CallsS P 33 [str s] [] (fun v L => (∃ l : List UInt8, l.length = 32 ∧ v = str l) ∧ L = []) := by
  refine CallsS.intro Tryd.func33 rfl rfl rfl rfl ?_
  refine WP.seq ?_
  refine WP.region ?_
  refine WO.assign rfl rfl ?_
  refine WO.nil ?_
  refine thnN ?_
  refine WP.seq ?_
  refine WP.region ?_
  refine WO.call (s_sha_New) rfl ca_48 rfl rfl ?_
  rintro _ _ ⟨b, ws, rfl, hw, rfl⟩
  refine WO.assign rfl rfl ?_
  refine WO.nil ?_
  refine thnN ?_
  refine WP.seq ?_
  refine WP.region ?_
  refine WO.move rfl rfl ?_
  refine WO.move rfl rfl ?_
  refine WO.call (s_HWrite b ws [] 0 s ?_ ?_ ?_ ?_) rfl ca_49 rfl rfl ?_
  · first | assumption | (simp; done) | omega
  · first | assumption | (simp; done) | omega
  · first | assumption | (simp; done) | omega
  · first | assumption | (simp; done) | omega
  rintro _ _ ⟨rfl, ws1, hw1, rest1, hr1, rfl⟩
  refine WO.nil ?_
  refine thnN ?_
  refine WP.seq ?_
  refine WP.region ?_
  refine WO.move rfl rfl ?_
  refine WO.call (s_HSum b ws1 rest1 _ ?_ ?_ ?_) rfl ca_50 rfl rfl ?_
  · first | assumption | omega
  · first | assumption | omega
  · first | assumption | omega
  rintro _ _ ⟨l, hl, rfl, rfl⟩
  refine WO.assign rfl rfl ?_
  refine WO.nil ?_
  refine thnN ?_
  refine WP.ret ?_
  refine ⟨_, [], (Res.one rfl), (Imp.nil _), ?_⟩
  exact ⟨⟨l, hl, rfl⟩, rfl⟩

theorem s_Print (m p y : List UInt8) (hy0 : m.length ≤ 1000) (hy1 : p.length ≤ 1000) (hy2 : y.length ≤ 1000) : CallsS P 21 [str m, str p, str y] [] (fun v L => (∃ l : List UInt8, l.length = 32 ∧ v = str l) ∧ L = []) := by
  refine CallsS.intro Tryd.func21 rfl rfl rfl rfl ?_
  refine WP.seq ?_
  refine WP.region ?_
  refine WO.assign rfl rfl ?_
  refine WO.nil ?_
  refine thnN ?_
  refine WP.seq ?_
  refine WP.region ?_
  refine WO.alloc zo_62 rfl (fun b0 => ?_)
  refine WO.nil ?_
  refine thnN ?_
  refine WP.seq ?_
  refine WP.region ?_
  refine WO.move rfl rfl ?_
  refine WO.call (s_PText b0 [] m _ ?_ ?_ ?_) rfl ca_34 rfl rfl ?_
  · first | assumption | exact ⟨_, [], rfl, OwnSl.nil _ _⟩
  · first | omega | exact Nat.zero_le _
  · omega
  rintro _ _ ⟨rfl, F1, l1, rfl, hP1, hl1⟩
  simp only [List.length_nil] at hl1
  refine WO.move rfl rfl ?_
  refine WO.call (s_PText b0 l1 p F1 ?_ ?_ ?_) rfl ca_34 rfl rfl ?_
  · first | assumption | exact ⟨_, [], rfl, OwnSl.nil _ _⟩
  · first | omega | exact Nat.zero_le _
  · omega
  rintro _ _ ⟨rfl, F2, l2, rfl, hP2, hl2⟩
  refine WO.move rfl rfl ?_
  refine WO.call (s_PText b0 l2 y F2 ?_ ?_ ?_) rfl ca_34 rfl rfl ?_
  · first | assumption | exact ⟨_, [], rfl, OwnSl.nil _ _⟩
  · first | omega | exact Nat.zero_le _
  · omega
  rintro _ _ ⟨rfl, F3, l3, rfl, hP3, hl3⟩
  refine WO.call (s_PString b0 l3 F3 ?_) rfl ca_35 rfl rfl ?_
  · first | assumption | omega
  rintro _ _ ⟨rfl, rfl⟩
  refine WO.callQ (s_ShaSum _ ?_) rfl ca_33 rfl ?_
  · first | assumption | (rw [len_toBytes]; omega) | omega
  rintro _ ⟨pr, hpr, rfl⟩
  refine WO.assign rfl rfl ?_
  refine WO.nil ?_
  refine thnN ?_
  refine WP.ret ?_
  refine ⟨_, [], (Res.one rfl), (Imp.nil _), ?_⟩
  exact ⟨⟨pr, hpr, rfl⟩, rfl⟩

end Go.Proofs.YtpaipfceibcbkaaDoor
