/- Walks: what functions of the program answer, over the logic of footprints. Written by wip/tools/gen.py out of a spec of this session's. -/
import Derived.Test.YtpaipfceibcbkaaDoorF
import Derived.Test.YtpaipfceibcbkaaDoorM03
set_option linter.unusedVariables false
set_option linter.unusedSimpArgs false
set_option maxRecDepth 100000
namespace Go.Proofs.YtpaipfceibcbkaaDoor
open Go.SL Go.Proofs.YtpaipfceibcbkaaDoor
open Go.Law03

theorem s_PNum0 (b : Nat) (v0 : Value) (l : List Int) (n : Int) (bf : Foot) (hy0 : OwnSl 5 1 v0 (l).length (ints .u8 (l)) bf) (hy1 : l.length ≤ 100000) (hy2 : 0 ≤ n ∧ n ≤ 1000000) : CallsS P 51 [.pointer (some ⟨b, 0, none⟩), .int .i64 (n)] [[(b, .cells [v0, .bool false].toArray 62 (0, 0))], bf] (fun v L => v = .pointer (some ⟨b, 0, none⟩) ∧ ∃ v1 bf1 l1, L = [[(b, .cells [v1, .bool false].toArray 62 (0, 0))], bf1] ∧ OwnSl 5 1 v1 (l1).length (ints .u8 (l1)) bf1 ∧ l1.length ≤ l.length + 10) := by
  have hs := @shr_small n
  refine CallsS.intro Tryd.func51 rfl rfl rfl rfl ?_
  refine WP.seq ?_
  refine WP.region ?_
  refine WO.assign rfl rfl ?_
  refine WO.nil ?_
  refine thnN ?_
  refine WP.seq ?_
  refine WP.seq ?_
  refine WP.region ?_
  refine WO.move rfl rfl ?_
  refine WO.eqlP rfl rfl ptr_64 rfl ?_
  refine WO.nil ?_
  refine thnN ?_
  refine WP.condF rfl ?_
  refine WP.skip ?_
  refine thnN ?_
  refine WP.seq ?_
  refine WP.seq ?_
  refine WP.region ?_
  refine WO.move rfl rfl ?_
  refine WO.lssI rfl rfl rfl ?_
  refine WO.move rfl rfl ?_
  refine WO.split 10 rfl (fun h1 => ?_) (fun h2 => ?_)
  · try simp only [decide_eq_true_eq, decide_eq_false_iff_not, beq_iff_eq, beq_eq_false_iff_ne, bne_iff_ne, bne_eq_false_iff_eq, Bool.not_eq_true', Bool.not_eq_false', Int.not_lt, Int.not_le, ne_eq] at h1
    refine WO.pass 10 rfl rfl rfl rfl ?_
    refine WO.pass 10 rfl rfl rfl rfl ?_
    refine WO.pickT rfl rfl rfl ?_
    refine WO.nil ?_
    refine thnN ?_
    refine WP.condT rfl ?_
    refine WP.seq ?_
    refine WP.region ?_
    refine WO.move rfl rfl ?_
    refine WO.nilCheck rfl rfl ?_
    refine WO.fieldAddr rfl fo_62_1 rfl ?_
    first | refine WO.store 0 rfl rfl rfl sc_4 rfl rfl _ rfl ?_ | refine WO.store 1 rfl rfl rfl sc_4 rfl rfl _ rfl ?_ | refine WO.store 2 rfl rfl rfl sc_4 rfl rfl _ rfl ?_ | refine WO.store 3 rfl rfl rfl sc_4 rfl rfl _ rfl ?_
    refine WO.nil ?_
    refine thnN ?_
    refine WP.seq ?_
    refine WP.region ?_
    refine WO.move rfl rfl ?_
    refine WO.assign rfl rfl ?_
    refine WO.nil ?_
    refine thnN ?_
    refine WP.ret ?_
    refine thnR ?_
    refine ⟨_, _, (Res.one rfl), (Imp.refl _), ?_⟩
    exfalso; omega
  · try simp only [decide_eq_true_eq, decide_eq_false_iff_not, beq_iff_eq, beq_eq_false_iff_ne, bne_iff_ne, bne_eq_false_iff_eq, Bool.not_eq_true', Bool.not_eq_false', Int.not_lt, Int.not_le, ne_eq] at h2
    refine WO.want 10 rfl rfl ?_
    refine WO.move rfl rfl ?_
    refine WO.want 10 rfl rfl ?_
    refine WO.gtrI rfl rfl rfl ?_
    refine WO.pickF rfl rfl rfl ?_
    refine WO.nil ?_
    refine thnN ?_
    refine WP.condL 13 rfl (fun h3 => ?_) (fun h4 => ?_)
    · try simp only [decide_eq_true_eq, decide_eq_false_iff_not, beq_iff_eq, beq_eq_false_iff_ne, bne_iff_ne, bne_eq_false_iff_eq, Bool.not_eq_true', Bool.not_eq_false', Int.not_lt, Int.not_le, ne_eq] at h3
      refine WP.seq ?_
      refine WP.region ?_
      refine WO.move rfl rfl ?_
      refine WO.nilCheck rfl rfl ?_
      refine WO.fieldAddr rfl fo_62_1 rfl ?_
      first | refine WO.store 0 rfl rfl rfl sc_4 rfl rfl _ rfl ?_ | refine WO.store 1 rfl rfl rfl sc_4 rfl rfl _ rfl ?_ | refine WO.store 2 rfl rfl rfl sc_4 rfl rfl _ rfl ?_ | refine WO.store 3 rfl rfl rfl sc_4 rfl rfl _ rfl ?_
      refine WO.nil ?_
      refine thnN ?_
      refine WP.seq ?_
      refine WP.region ?_
      refine WO.move rfl rfl ?_
      refine WO.assign rfl rfl ?_
      refine WO.nil ?_
      refine thnN ?_
      refine WP.ret ?_
      refine thnR ?_
      refine ⟨_, _, (Res.one rfl), (Imp.refl _), ?_⟩
      exfalso; omega
    · try simp only [decide_eq_true_eq, decide_eq_false_iff_not, beq_iff_eq, beq_eq_false_iff_ne, bne_iff_ne, bne_eq_false_iff_eq, Bool.not_eq_true', Bool.not_eq_false', Int.not_lt, Int.not_le, ne_eq] at h4
      refine WP.skip ?_
      refine thnN ?_
      refine WP.seq ?_
      refine WP.region ?_
      refine WO.assign rfl rfl ?_
      refine WO.nil ?_
      refine thnN ?_
      refine WP.seq ?_
      refine WP.block ?_
      refine WP.loop1 (fun (k : Nat) => [(0, .pointer (some ⟨b, 0, none⟩)), (1, .int .i64 (n)), (5, .int .i64 (k))]) (fun (k : Nat) => [[(b, .cells [v0, .bool false].toArray 62 (0, 0))], bf]) (fun (k : Nat) => k ≤ 3) (fun (k : Nat) => 4 - k) ⟨0, ⟨rfl, rfl, rfl, trivial⟩, rfl, ?_⟩ ?_
      · exact Nat.zero_le _
      · intro k hI
        have hs1 := hs (b := 7 * ((k : Int) + 1)) (by omega) (by omega)
        refine WP.seq ?_
        refine WP.seq ?_
        refine WP.region ?_
        refine WO.move rfl rfl ?_
        refine WO.move rfl rfl ?_
        refine WO.add rfl rfl (by first | exact wrap_i64 (by omega) (by omega) | rfl) rfl ?_
        refine WO.mul rfl rfl (by first | exact wrap_i64 (by omega) (by omega) | rfl) rfl ?_
        refine WO.shr rfl rfl (by omega) (by first | rfl) rfl ?_
        refine WO.gtrI rfl rfl rfl ?_
        refine WO.nil ?_
        refine thnN ?_
        refine WP.condL 23 rfl (fun h5 => ?_) (fun h6 => ?_)
        · try simp only [decide_eq_true_eq, decide_eq_false_iff_not, beq_iff_eq, beq_eq_false_iff_ne, bne_iff_ne, bne_eq_false_iff_eq, Bool.not_eq_true', Bool.not_eq_false', Int.not_lt, Int.not_le, ne_eq] at h5
          refine WP.skip ?_
          refine thnN ?_
          refine WP.block ?_
          refine WP.region ?_
          refine WO.move rfl rfl ?_
          refine WO.add rfl rfl (by first | exact wrap_i64 (by omega) (by omega) | rfl) rfl ?_
          refine WO.assign rfl rfl ?_
          refine WO.nil ?_
          refine blkN ?_
          refine thnN ?_
          refine ⟨k + 1, ⟨rfl, rfl, rfl, trivial⟩, rfl, ?_, ?_⟩
          · omega
          · omega
        · try simp only [decide_eq_true_eq, decide_eq_false_iff_not, beq_iff_eq, beq_eq_false_iff_ne, bne_iff_ne, bne_eq_false_iff_eq, Bool.not_eq_true', Bool.not_eq_false', Int.not_lt, Int.not_le, ne_eq] at h6
          refine WP.exit ?_
          refine thnE ?_
          refine thnE ?_
          refine blkHit ?_
          refine thnN ?_
          refine WP.seq ?_
          refine WP.block ?_
          refine WP.loop4 (fun (j : Int) (m : List Int) (v1 : Value) (bf1 : Foot) => [(0, .pointer (some ⟨b, 0, none⟩)), (1, .int .i64 (n)), (5, .int .i64 (j))]) (fun (j : Int) (m : List Int) (v1 : Value) (bf1 : Foot) => [[(b, .cells [v1, .bool false].toArray 62 (0, 0))], bf1]) (fun (j : Int) (m : List Int) (v1 : Value) (bf1 : Foot) => OwnSl 5 1 v1 (m).length (ints .u8 (m)) bf1 ∧ (0 ≤ j ∧ j ≤ 3) ∧ (m.length : Int) + j ≤ l.length + 3) (fun (j : Int) (m : List Int) (v1 : Value) (bf1 : Foot) => j.toNat) ⟨(k : Int), l, v0, bf, ⟨rfl, rfl, rfl, trivial⟩, rfl, ?_⟩ ?_
          · exact ⟨hy0, by omega, by omega⟩
          · intro j m v1 bf1 hI
            obtain ⟨hO, hj, hm⟩ := hI
            refine WP.seq ?_
            refine WP.seq ?_
            refine WP.region ?_
            refine WO.move rfl rfl ?_
            refine WO.gtrI rfl rfl rfl ?_
            refine WO.nil ?_
            refine thnN ?_
            refine WP.condL 27 rfl (fun h7 => ?_) (fun h8 => ?_)
            · try simp only [decide_eq_true_eq, decide_eq_false_iff_not, beq_iff_eq, beq_eq_false_iff_ne, bne_iff_ne, bne_eq_false_iff_eq, Bool.not_eq_true', Bool.not_eq_false', Int.not_lt, Int.not_le, ne_eq] at h7
              refine WP.skip ?_
              refine thnN ?_
              refine WP.seq ?_
              refine WP.block ?_
              refine WP.regionD [] [0, 0, 0, 0, 0, 0, 0, 0, 0, 0, 0, 0, 0, 2, 0, 0, 2] [(0, 0, [14, 15, 16]), (1, 0, [2, 3, 4, 13, 14, 15, 16]), (2, 0, [3, 4, 13, 14, 15, 16]), (3, 0, [4, 13, 14, 15, 16]), (4, 1, [13, 14, 15, 16]), (5, 0, [8, 9, 10, 11, 12, 13, 14, 15, 16]), (6, 0, [7, 8, 9, 10, 11, 12, 13, 14, 15, 16]), (7, 0, [8, 9, 10, 11, 12, 13, 14, 15, 16]), (8, 0, [9, 10, 11, 12, 13, 14, 15, 16]), (9, 0, [10, 11, 12, 13, 14, 15, 16]), (10, 0, [11, 12, 13, 14, 15, 16]), (11, 0, [12, 13, 14, 15, 16]), (12, 3, []), (13, 3, []), (14, 0, [15, 16]), (15, 0, [16]), (16, 3, [])] mx_ (by kernel_rfl) (by simp) ?_
              apply WL.pure
              · rfl
              · rfl
              · skip
                refine WO.move rfl rfl ?_
                exact WO.nil ⟨rfl, rfl⟩
              apply WL.pure
              · rfl
              · rfl
              · skip
                refine WO.move rfl rfl ?_
                exact WO.nil ⟨rfl, rfl⟩
              apply WL.pure
              · rfl
              · rfl
              · skip
                refine WO.nilCheck rfl rfl ?_
                exact WO.nil ⟨rfl, rfl⟩
              apply WL.pure
              · rfl
              · rfl
              · skip
                refine WO.fieldAddr rfl fo_62_0 rfl ?_
                exact WO.nil ⟨rfl, rfl⟩
              apply WL.read
              · rfl
              · rfl
              · skip
                refine WO.load rfl sc_60 (by first | exact in0 | exact in1 | exact in2 | exact in3 | exact in4 | exact in5 | exact in6) rfl rfl ?_
                exact WO.nil ⟨rfl, rfl⟩
              apply WL.pure
              · rfl
              · rfl
              · skip
                refine WO.move rfl rfl ?_
                exact WO.nil ⟨rfl, rfl⟩
              apply WL.pure
              · rfl
              · rfl
              · skip
                refine WO.move rfl rfl ?_
                exact WO.nil ⟨rfl, rfl⟩
              apply WL.pure
              · rfl
              · rfl
              · skip
                refine WO.mul rfl rfl (by first | exact wrap_i64 (by omega) (by omega) | rfl) rfl ?_
                exact WO.nil ⟨rfl, rfl⟩
              apply WL.pure
              · rfl
              · rfl
              · skip
                refine WO.shr rfl rfl (by omega) (by first | rfl) rfl ?_
                exact WO.nil ⟨rfl, rfl⟩
              apply WL.pure
              · rfl
              · rfl
              · skip
                refine WO.conv rfl un_5 un_3 (by first | exact wrap_u8 (by omega) (by omega) | rfl) rfl ?_
                exact WO.nil ⟨rfl, rfl⟩
              apply WL.pure
              · rfl
              · rfl
              · skip
                refine WO.and rfl rfl (by first | rfl) rfl ?_
                exact WO.nil ⟨rfl, rfl⟩
              apply WL.pure
              · rfl
              · rfl
              · skip
                refine WO.or rfl rfl (by first | rfl) rfl ?_
                exact WO.nil ⟨rfl, rfl⟩
              refine WL.effG rfl (by simp) ?_
              refine WO.buildSlice (cs := [_]) rfl sl_60 zo_5 rfl rfl rfl (fun l0 => ?_)
              refine WO.nil (capN ⟨(by first | exact ⟨[], rfl⟩ | exact ⟨[_], rfl⟩), ?_⟩)
              refine WL.eff rfl rfl ?_
              refine WO.appendL 2 rfl sl_60 ni_60 rfl hO rfl (RdSl.lit in0 rfl) (by simp [Value.oneCell']) (by omega) rfl (fun vk Fk ok => ?_)
              obtain ⟨Ak, ck, rfl⟩ := ok.slice
              refine WO.drop 1 rfl ?_
              refine WO.nil (capN ?_)
              apply WL.pure
              · rfl
              · rfl
              · skip
                refine WO.nilCheck rfl rfl ?_
                exact WO.nil ⟨rfl, rfl⟩
              apply WL.pure
              · rfl
              · rfl
              · skip
                refine WO.fieldAddr rfl fo_62_0 rfl ?_
                exact WO.nil ⟨rfl, rfl⟩
              refine WL.eff rfl rfl ?_
              first | refine WO.store 0 rfl rfl rfl sc_60 rfl rfl _ rfl ?_ | refine WO.store 1 rfl rfl rfl sc_60 rfl rfl _ rfl ?_ | refine WO.store 2 rfl rfl rfl sc_60 rfl rfl _ rfl ?_ | refine WO.store 3 rfl rfl rfl sc_60 rfl rfl _ rfl ?_
              refine WO.nil (capN ?_)
              refine WL.nil ?_
              refine blkN ?_
              refine thnN ?_
              refine WP.region ?_
              refine WO.move rfl rfl ?_
              refine WO.sub' rfl rfl (by first | exact wrap_i64 (by omega) (by omega) | rfl) rfl ?_
              refine WO.assign rfl rfl ?_
              refine WO.nil ?_
              refine thnN ?_
              refine ⟨j - 1, m ++ [orI .u8 (andI .u8 (IntKind.u8.wrap (shrI .i64 n (7 * j))) 127) 128], _, Fk, ⟨rfl, rfl, rfl, trivial⟩, rfl, ?_, ?_⟩
              · exact ⟨by rw [← ints_snoc]; simpa using ok, by omega, by simp only [List.length_append, List.length_cons, List.length_nil]; omega⟩
              · omega
            · try simp only [decide_eq_true_eq, decide_eq_false_iff_not, beq_iff_eq, beq_eq_false_iff_ne, bne_iff_ne, bne_eq_false_iff_eq, Bool.not_eq_true', Bool.not_eq_false', Int.not_lt, Int.not_le, ne_eq] at h8
              refine WP.exit ?_
              refine thnE ?_
              refine thnE ?_
              refine blkHit ?_
              refine thnN ?_
              refine WP.seq ?_
              refine WP.region ?_
              refine WO.move rfl rfl ?_
              refine WO.move rfl rfl ?_
              refine WO.nilCheck rfl rfl ?_
              refine WO.fieldAddr rfl fo_62_0 rfl ?_
              refine WO.load rfl sc_60 (by first | exact in0 | exact in1 | exact in2 | exact in3 | exact in4 | exact in5 | exact in6) rfl rfl ?_
              refine WO.move rfl rfl ?_
              refine WO.conv rfl un_5 un_3 (by first | exact wrap_u8 (by omega) (by omega) | rfl) rfl ?_
              refine WO.and rfl rfl (by first | rfl) rfl ?_
              refine WO.buildSlice (cs := [_]) rfl sl_60 zo_5 rfl rfl rfl (fun l1 => ?_)
              refine WO.appendL 2 rfl sl_60 ni_60 rfl hO rfl (RdSl.lit in0 rfl) (by simp [Value.oneCell']) (by omega) rfl (fun vk Fk ok => ?_)
              obtain ⟨Ak, ck, rfl⟩ := ok.slice
              refine WO.drop 1 rfl ?_
              refine WO.nilCheck rfl rfl ?_
              refine WO.fieldAddr rfl fo_62_0 rfl ?_
              first | refine WO.store 0 rfl rfl rfl sc_60 rfl rfl _ rfl ?_ | refine WO.store 1 rfl rfl rfl sc_60 rfl rfl _ rfl ?_ | refine WO.store 2 rfl rfl rfl sc_60 rfl rfl _ rfl ?_ | refine WO.store 3 rfl rfl rfl sc_60 rfl rfl _ rfl ?_
              refine WO.nil ?_
              refine thnN ?_
              refine WP.seq ?_
              refine WP.region ?_
              refine WO.move rfl rfl ?_
              refine WO.assign rfl rfl ?_
              refine WO.nil ?_
              refine thnN ?_
              refine WP.ret ?_
              refine ⟨_, _, (Res.one rfl), (Imp.refl _), ?_⟩
              exact ⟨rfl, _, _, m ++ [andI .u8 (IntKind.u8.wrap n) 127], rfl, by rw [← ints_snoc]; simpa using ok, by simp only [List.length_append, List.length_cons, List.length_nil]; omega⟩

theorem s_PRaw0 (b : Nat) (v0 : Value) (l : List Int) (s : List UInt8) (bf : Foot) (hy0 : OwnSl 5 1 v0 (l).length (ints .u8 (l)) bf) (hy1 : l.length ≤ 100000) (hy2 : s.length ≤ 100000) : CallsS P 52 [.pointer (some ⟨b, 0, none⟩), str s] [[(b, .cells [v0, .bool false].toArray 62 (0, 0))], bf] (fun v L => v = .pointer (some ⟨b, 0, none⟩) ∧ ∃ v1 bf1 l1, L = [[(b, .cells [v1, .bool false].toArray 62 (0, 0))], bf1] ∧ OwnSl 5 1 v1 (l1).length (ints .u8 (l1)) bf1 ∧ l1.length ≤ l.length + s.length) := by
  refine CallsS.intro Tryd.func52 rfl rfl rfl rfl ?_
  refine WP.seq ?_
  refine WP.region ?_
  refine WO.assign rfl rfl ?_
  refine WO.nil ?_
  refine thnN ?_
  refine WP.seq ?_
  refine WP.seq ?_
  refine WP.region ?_
  refine WO.move rfl rfl ?_
  refine WO.eqlP rfl rfl ptr_64 rfl ?_
  refine WO.nil ?_
  refine thnN ?_
  refine WP.condF rfl ?_
  refine WP.skip ?_
  refine thnN ?_
  refine WP.seq ?_
  refine WP.region ?_
  refine WO.move rfl rfl ?_
  refine WO.move rfl rfl ?_
  refine WO.nilCheck rfl rfl ?_
  refine WO.fieldAddr rfl fo_62_0 rfl ?_
  refine WO.load rfl sc_60 (by first | exact in0 | exact in1 | exact in2 | exact in3 | exact in4 | exact in5 | exact in6) rfl rfl ?_
  refine WO.move rfl rfl ?_
  refine WO.appendS 1 rfl sl_60 ni_9 rfl hy0 rfl (by omega) rfl (fun vk Fk ok => ?_)
  obtain ⟨Ak, ck, rfl⟩ := ok.slice
  refine WO.nilCheck rfl rfl ?_
  refine WO.fieldAddr rfl fo_62_0 rfl ?_
  first | refine WO.store 0 rfl rfl rfl sc_60 rfl rfl _ rfl ?_ | refine WO.store 1 rfl rfl rfl sc_60 rfl rfl _ rfl ?_ | refine WO.store 2 rfl rfl rfl sc_60 rfl rfl _ rfl ?_ | refine WO.store 3 rfl rfl rfl sc_60 rfl rfl _ rfl ?_
  refine WO.nil ?_
  refine thnN ?_
  refine WP.seq ?_
  refine WP.region ?_
  refine WO.move rfl rfl ?_
  refine WO.assign rfl rfl ?_
  refine WO.nil ?_
  refine thnN ?_
  refine WP.ret ?_
  refine ⟨_, _, (Res.one rfl), (Imp.refl _), ?_⟩
  refine ⟨rfl, _, _, l ++ s.map (fun c => (c.toNat : Int)), rfl, ?_, by simp⟩
  rw [← ints_app, ← bytes_ints]
  simpa using ok

end Go.Proofs.YtpaipfceibcbkaaDoor
