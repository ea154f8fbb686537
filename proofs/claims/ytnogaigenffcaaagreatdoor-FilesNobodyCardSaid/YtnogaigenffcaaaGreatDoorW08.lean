/- Walks: what functions of the program answer, over the logic of footprints. Written by wip/tools/gen.py out of a spec of this session's. -/
import Derived.Test.YtnogaigenffcaaaGreatDoorB08z
set_option linter.unusedVariables false
set_option linter.unusedSimpArgs false
set_option maxRecDepth 100000
namespace Go.Proofs.YtnogaigenffcaaaGreatDoor
open Go.SL Go.Proofs.YtnogaigenffcaaaGreatDoor
open Go.Law08 Go.Lib

theorem s_r08_digits (n : Int) (hy0 : 0 ≤ n) (hy1 : n ≤ 9223372036854775807) : CallsS P 37 [.int .i64 n] [] (fun v L => v = str (Lib.itoa n) ∧ L = []) := by
  have hlen : (Lib.decDigits n.toNat).length ≤ 19 := dec_len 18 _ (by omega)
  refine CallsS.intro Tryz.func37 rfl rfl rfl rfl ?_
  refine WP.seq ?_
  refine WP.region ?_
  refine WO.assign rfl rfl ?_
  refine WO.nil ?_
  refine thnN ?_
  refine WP.seq ?_
  refine WP.region ?_
  refine WO.move rfl rfl ?_
  refine WO.rem rfl rfl (by decide) (by first | exact rem_i64 (by omega) (by omega) | rfl) rfl ?_
  refine WO.add rfl rfl (by first | exact wrap_i64 (by omega) (by omega) | rfl) rfl ?_
  refine WO.conv rfl un_5 un_3 (by first | exact wrap_u8 (by omega) (by omega) | rfl) rfl ?_
  refine WO.buildSlice rfl sl_35 zo_5 rfl rfl rfl (fun b0 => ?_)
  refine WO.convBS (l := [_]) rfl (RdSl.lit in0 rfl) un_9 un_35 un_5 rfl ?_
  refine WO.drop 0 rfl ?_
  refine WO.assign rfl rfl ?_
  refine WO.nil ?_
  refine thnN ?_
  refine WP.seq ?_
  refine WP.seq ?_
  refine WP.region ?_
  refine WO.move rfl rfl ?_
  refine WO.quo rfl rfl (by decide) (by first | exact quo_i64 (by omega) (by omega) | rfl) rfl ?_
  refine WO.assign rfl rfl ?_
  refine WO.nil ?_
  refine thnN ?_
  refine WP.block ?_
  refine WP.loop2 (fun (m : Int) (out : List UInt8) => [(0, .int .i64 m), (3, str out)]) (fun (m : Int) (out : List UInt8) => []) (fun (m : Int) (out : List UInt8) => 0 ≤ m ∧ m ≤ 9223372036854775807 ∧ dd m ++ out = Lib.decDigits n.toNat) (fun (m : Int) (out : List UInt8) => m.toNat) ⟨n / 10, _, ⟨rfl, rfl, trivial⟩, rfl, ?_⟩ ?_
  · exact ⟨by omega, by omega, (dd_step hy0).symm⟩
  · intro m out hI
    obtain ⟨hm0, hm1, hm⟩ := hI
    have hol : out.length ≤ 19 := by rw [← hm, List.length_append] at hlen; omega
    refine WP.seq ?_
    refine WP.seq ?_
    refine WP.region ?_
    refine WO.move rfl rfl ?_
    refine WO.gtrI rfl rfl rfl ?_
    refine WO.nil ?_
    refine thnN ?_
    refine WP.cond rfl (fun h2 => ?_) (fun h3 => ?_)
    · try simp only [decide_eq_true_eq, decide_eq_false_iff_not, beq_iff_eq, beq_eq_false_iff_ne, bne_iff_ne, bne_eq_false_iff_eq, Bool.not_eq_true', Bool.not_eq_false', Int.not_lt, Int.not_le, ne_eq] at h2
      refine WP.skip ?_
      refine thnN ?_
      refine WP.seq ?_
      refine WP.block ?_
      refine WP.region ?_
      refine WO.move rfl rfl ?_
      refine WO.rem rfl rfl (by decide) (by first | exact rem_i64 (by omega) (by omega) | rfl) rfl ?_
      refine WO.add rfl rfl (by first | exact wrap_i64 (by omega) (by omega) | rfl) rfl ?_
      refine WO.conv rfl un_5 un_3 (by first | exact wrap_u8 (by omega) (by omega) | rfl) rfl ?_
      refine WO.buildSlice rfl sl_35 zo_5 rfl rfl rfl (fun b3 => ?_)
      refine WO.convBS (l := [_]) rfl (RdSl.lit in0 rfl) un_9 un_35 un_5 rfl ?_
      refine WO.drop 0 rfl ?_
      refine WO.move rfl rfl ?_
      refine WO.addS rfl rfl (by first | omega | (simp only [len_toBytes, List.length_append, List.length_cons, List.length_nil, List.length_drop, List.length_take]; omega)) rfl ?_
      refine WO.assign rfl rfl ?_
      refine WO.nil ?_
      refine blkN ?_
      refine thnN ?_
      refine WP.region ?_
      refine WO.move rfl rfl ?_
      refine WO.quo rfl rfl (by decide) (by first | exact quo_i64 (by omega) (by omega) | rfl) rfl ?_
      refine WO.assign rfl rfl ?_
      refine WO.nil ?_
      refine thnN ?_
      refine ⟨m / 10, _, ⟨rfl, rfl, trivial⟩, rfl, ?_, ?_⟩
      · exact ⟨by omega, by omega, by rw [← hm, dd_pos (m := m) (by omega)]; simp [dig, toBytes]⟩
      · omega
    · try simp only [decide_eq_true_eq, decide_eq_false_iff_not, beq_iff_eq, beq_eq_false_iff_ne, bne_iff_ne, bne_eq_false_iff_eq, Bool.not_eq_true', Bool.not_eq_false', Int.not_lt, Int.not_le, ne_eq] at h3
      refine WP.exit ?_
      refine thnE ?_
      refine thnE ?_
      refine blkHit ?_
      refine thnN ?_
      refine WP.seq ?_
      refine WP.region ?_
      refine WO.move rfl rfl ?_
      refine WO.assign rfl rfl ?_
      refine WO.nil ?_
      refine thnN ?_
      refine WP.ret ?_
      refine ⟨_, _, (Res.one rfl), (Imp.refl _), ?_⟩
      refine ⟨?_, rfl⟩
      rw [itoa_pos hy0, ← hm, dd, if_pos (by omega)]; rfl

theorem s_r08_Name (w : List UInt8) (n : Int) (hy0 : w.length ≤ 1000) : CallsS P 24 [str w, .int .i64 n] [] (fun v L => v = str (nameF w n) ∧ L = []) := by
  refine CallsS.intro Tryz.func24 rfl rfl rfl rfl ?_
  refine WP.seq ?_
  refine WP.region ?_
  refine WO.assign rfl rfl ?_
  refine WO.nil ?_
  refine thnN ?_
  refine WP.seq ?_
  refine WP.seq ?_
  refine WP.region ?_
  refine WO.move rfl rfl ?_
  refine WO.lenS rfl un_9 rfl ?_
  refine WO.lssI rfl rfl rfl ?_
  refine WO.move rfl rfl ?_
  refine WO.split 9 rfl (fun h1 => ?_) (fun h2 => ?_)
  · try simp only [decide_eq_true_eq, decide_eq_false_iff_not, beq_iff_eq, beq_eq_false_iff_ne, bne_iff_ne, bne_eq_false_iff_eq, Bool.not_eq_true', Bool.not_eq_false', Int.not_lt, Int.not_le, ne_eq] at h1
    refine WO.pass 9 rfl rfl rfl rfl ?_
    refine WO.pass 9 rfl rfl rfl rfl ?_
    refine WO.pass 9 rfl rfl rfl rfl ?_
    refine WO.pickT rfl rfl rfl ?_
    refine WO.move rfl rfl ?_
    refine WO.pass 14 rfl rfl rfl rfl ?_
    refine WO.pass 14 rfl rfl rfl rfl ?_
    refine WO.pickT rfl rfl rfl ?_
    refine WO.move rfl rfl ?_
    refine WO.pass 18 rfl rfl rfl rfl ?_
    refine WO.pass 18 rfl rfl rfl rfl ?_
    refine WO.pickT rfl rfl rfl ?_
    refine WO.nil ?_
    refine thnN ?_
    refine WP.condT rfl ?_
    refine WP.seq ?_
    refine WP.region ?_
    refine WO.assign rfl rfl ?_
    refine WO.nil ?_
    refine thnN ?_
    refine WP.ret ?_
    refine thnR ?_
    refine ⟨_, _, (Res.one rfl), (Imp.refl _), ?_⟩
    refine ⟨congrArg str ?_, rfl⟩
    first | exact (nameF_nil (by omega)).symm | exact (nameF_nil (.inr (.inr (.inr (.inr (not_low (k := k) (by omega) (by omega))))))).symm | exact (nameF_full (by omega) (by omega) (by omega) (by omega) (all_low fun j hj => hlow j (by omega))).symm
  · try simp only [decide_eq_true_eq, decide_eq_false_iff_not, beq_iff_eq, beq_eq_false_iff_ne, bne_iff_ne, bne_eq_false_iff_eq, Bool.not_eq_true', Bool.not_eq_false', Int.not_lt, Int.not_le, ne_eq] at h2
    refine WO.want 9 rfl rfl ?_
    refine WO.move rfl rfl ?_
    refine WO.want 9 rfl rfl ?_
    refine WO.lenS rfl un_9 rfl ?_
    refine WO.want 9 rfl rfl ?_
    refine WO.gtrI rfl rfl rfl ?_
    refine WO.pickF rfl rfl rfl ?_
    refine WO.move rfl rfl ?_
    refine WO.split 14 rfl (fun h3 => ?_) (fun h4 => ?_)
    · try simp only [decide_eq_true_eq, decide_eq_false_iff_not, beq_iff_eq, beq_eq_false_iff_ne, bne_iff_ne, bne_eq_false_iff_eq, Bool.not_eq_true', Bool.not_eq_false', Int.not_lt, Int.not_le, ne_eq] at h3
      refine WO.pass 14 rfl rfl rfl rfl ?_
      refine WO.pass 14 rfl rfl rfl rfl ?_
      refine WO.pickT rfl rfl rfl ?_
      refine WO.move rfl rfl ?_
      refine WO.pass 18 rfl rfl rfl rfl ?_
      refine WO.pass 18 rfl rfl rfl rfl ?_
      refine WO.pickT rfl rfl rfl ?_
      refine WO.nil ?_
      refine thnN ?_
      refine WP.condT rfl ?_
      refine WP.seq ?_
      refine WP.region ?_
      refine WO.assign rfl rfl ?_
      refine WO.nil ?_
      refine thnN ?_
      refine WP.ret ?_
      refine thnR ?_
      refine ⟨_, _, (Res.one rfl), (Imp.refl _), ?_⟩
      refine ⟨congrArg str ?_, rfl⟩
      first | exact (nameF_nil (by omega)).symm | exact (nameF_nil (.inr (.inr (.inr (.inr (not_low (k := k) (by omega) (by omega))))))).symm | exact (nameF_full (by omega) (by omega) (by omega) (by omega) (all_low fun j hj => hlow j (by omega))).symm
    · try simp only [decide_eq_true_eq, decide_eq_false_iff_not, beq_iff_eq, beq_eq_false_iff_ne, bne_iff_ne, bne_eq_false_iff_eq, Bool.not_eq_true', Bool.not_eq_false', Int.not_lt, Int.not_le, ne_eq] at h4
      refine WO.want 14 rfl rfl ?_
      refine WO.move rfl rfl ?_
      refine WO.want 14 rfl rfl ?_
      refine WO.lssI rfl rfl rfl ?_
      refine WO.pickF rfl rfl rfl ?_
      refine WO.move rfl rfl ?_
      refine WO.split 18 rfl (fun h5 => ?_) (fun h6 => ?_)
      · try simp only [decide_eq_true_eq, decide_eq_false_iff_not, beq_iff_eq, beq_eq_false_iff_ne, bne_iff_ne, bne_eq_false_iff_eq, Bool.not_eq_true', Bool.not_eq_false', Int.not_lt, Int.not_le, ne_eq] at h5
        refine WO.pass 18 rfl rfl rfl rfl ?_
        refine WO.pass 18 rfl rfl rfl rfl ?_
        refine WO.pickT rfl rfl rfl ?_
        refine WO.nil ?_
        refine thnN ?_
        refine WP.condT rfl ?_
        refine WP.seq ?_
        refine WP.region ?_
        refine WO.assign rfl rfl ?_
        refine WO.nil ?_
        refine thnN ?_
        refine WP.ret ?_
        refine thnR ?_
        refine ⟨_, _, (Res.one rfl), (Imp.refl _), ?_⟩
        refine ⟨congrArg str ?_, rfl⟩
        first | exact (nameF_nil (by omega)).symm | exact (nameF_nil (.inr (.inr (.inr (.inr (not_low (k := k) (by omega) (by omega))))))).symm | exact (nameF_full (by omega) (by omega) (by omega) (by omega) (all_low fun j hj => hlow j (by omega))).symm
      · try simp only [decide_eq_true_eq, decide_eq_false_iff_not, beq_iff_eq, beq_eq_false_iff_ne, bne_iff_ne, bne_eq_false_iff_eq, Bool.not_eq_true', Bool.not_eq_false', Int.not_lt, Int.not_le, ne_eq] at h6
        refine WO.want 18 rfl rfl ?_
        refine WO.move rfl rfl ?_
        refine WO.want 18 rfl rfl ?_
        refine WO.gtrI rfl rfl rfl ?_
        refine WO.pickF rfl rfl rfl ?_
        refine WO.nil ?_
        refine thnN ?_
        refine WP.cond rfl (fun h7 => ?_) (fun h8 => ?_)
        · try simp only [decide_eq_true_eq, decide_eq_false_iff_not, beq_iff_eq, beq_eq_false_iff_ne, bne_iff_ne, bne_eq_false_iff_eq, Bool.not_eq_true', Bool.not_eq_false', Int.not_lt, Int.not_le, ne_eq] at h7
          refine WP.seq ?_
          refine WP.region ?_
          refine WO.assign rfl rfl ?_
          refine WO.nil ?_
          refine thnN ?_
          refine WP.ret ?_
          refine thnR ?_
          refine ⟨_, _, (Res.one rfl), (Imp.refl _), ?_⟩
          refine ⟨congrArg str ?_, rfl⟩
          first | exact (nameF_nil (by omega)).symm | exact (nameF_nil (.inr (.inr (.inr (.inr (not_low (k := k) (by omega) (by omega))))))).symm | exact (nameF_full (by omega) (by omega) (by omega) (by omega) (all_low fun j hj => hlow j (by omega))).symm
        · try simp only [decide_eq_true_eq, decide_eq_false_iff_not, beq_iff_eq, beq_eq_false_iff_ne, bne_iff_ne, bne_eq_false_iff_eq, Bool.not_eq_true', Bool.not_eq_false', Int.not_lt, Int.not_le, ne_eq] at h8
          refine WP.skip ?_
          refine thnN ?_
          refine WP.seq ?_
          refine WP.seq ?_
          refine WP.region ?_
          refine WO.assign rfl rfl ?_
          refine WO.nil ?_
          refine thnN ?_
          refine WP.block ?_
          refine WP.loop1 (fun (k : Nat) => [(0, str w), (1, .int .i64 n), (5, .int .i64 k)]) (fun (k : Nat) => []) (fun (k : Nat) => k ≤ w.length ∧ ∀ j, j < k → isLow (w.getD j 0) = true) (fun (k : Nat) => w.length - k) ⟨0, ⟨rfl, rfl, rfl, trivial⟩, rfl, ?_⟩ ?_
          · exact ⟨Nat.zero_le _, fun j hj => absurd hj (Nat.not_lt_zero _)⟩
          · intro k hI
            obtain ⟨hk, hlow⟩ := hI
            have hb := bt_range w (k : Int)
            refine WP.seq ?_
            refine WP.seq ?_
            refine WP.region ?_
            refine WO.move rfl rfl ?_
            refine WO.move rfl rfl ?_
            refine WO.lenS rfl un_9 rfl ?_
            refine WO.lssI rfl rfl rfl ?_
            refine WO.nil ?_
            refine thnN ?_
            refine WP.cond rfl (fun h9 => ?_) (fun h10 => ?_)
            · try simp only [decide_eq_true_eq, decide_eq_false_iff_not, beq_iff_eq, beq_eq_false_iff_ne, bne_iff_ne, bne_eq_false_iff_eq, Bool.not_eq_true', Bool.not_eq_false', Int.not_lt, Int.not_le, ne_eq] at h9
              refine WP.skip ?_
              refine thnN ?_
              refine WP.seq ?_
              refine WP.block ?_
              refine WP.seq ?_
              refine WP.region ?_
              refine WO.move rfl rfl ?_
              refine WO.move rfl rfl ?_
              refine WO.indexS rfl rfl un_9 (by omega) rfl rfl ?_
              refine WO.lssI rfl rfl rfl ?_
              refine WO.move rfl rfl ?_
              refine WO.split 32 rfl (fun h11 => ?_) (fun h12 => ?_)
              · try simp only [decide_eq_true_eq, decide_eq_false_iff_not, beq_iff_eq, beq_eq_false_iff_ne, bne_iff_ne, bne_eq_false_iff_eq, Bool.not_eq_true', Bool.not_eq_false', Int.not_lt, Int.not_le, ne_eq] at h11
                refine WO.pass 32 rfl rfl rfl rfl ?_
                refine WO.pass 32 rfl rfl rfl rfl ?_
                refine WO.pass 32 rfl rfl rfl rfl ?_
                refine WO.pass 32 rfl rfl rfl rfl ?_
                refine WO.pickT rfl rfl rfl ?_
                refine WO.nil ?_
                refine thnN ?_
                refine WP.condT rfl ?_
                refine WP.seq ?_
                refine WP.region ?_
                refine WO.assign rfl rfl ?_
                refine WO.nil ?_
                refine thnN ?_
                refine WP.ret ?_
                refine blkR ?_
                refine thnR ?_
                refine thnR ?_
                refine blkR ?_
                refine thnR ?_
                refine ⟨_, _, (Res.one rfl), (Imp.refl _), ?_⟩
                refine ⟨congrArg str ?_, rfl⟩
                first | exact (nameF_nil (by omega)).symm | exact (nameF_nil (.inr (.inr (.inr (.inr (not_low (k := k) (by omega) (by omega))))))).symm | exact (nameF_full (by omega) (by omega) (by omega) (by omega) (all_low fun j hj => hlow j (by omega))).symm
              · try simp only [decide_eq_true_eq, decide_eq_false_iff_not, beq_iff_eq, beq_eq_false_iff_ne, bne_iff_ne, bne_eq_false_iff_eq, Bool.not_eq_true', Bool.not_eq_false', Int.not_lt, Int.not_le, ne_eq] at h12
                refine WO.want 32 rfl rfl ?_
                refine WO.move rfl rfl ?_
                refine WO.want 32 rfl rfl ?_
                refine WO.move rfl rfl ?_
                refine WO.want 32 rfl rfl ?_
                refine WO.indexS rfl rfl un_9 (by omega) rfl rfl ?_
                refine WO.want 32 rfl rfl ?_
                refine WO.gtrI rfl rfl rfl ?_
                refine WO.pickF rfl rfl rfl ?_
                refine WO.nil ?_
                refine thnN ?_
                refine WP.cond rfl (fun h13 => ?_) (fun h14 => ?_)
                · try simp only [decide_eq_true_eq, decide_eq_false_iff_not, beq_iff_eq, beq_eq_false_iff_ne, bne_iff_ne, bne_eq_false_iff_eq, Bool.not_eq_true', Bool.not_eq_false', Int.not_lt, Int.not_le, ne_eq] at h13
                  refine WP.seq ?_
                  refine WP.region ?_
                  refine WO.assign rfl rfl ?_
                  refine WO.nil ?_
                  refine thnN ?_
                  refine WP.ret ?_
                  refine blkR ?_
                  refine thnR ?_
                  refine thnR ?_
                  refine blkR ?_
                  refine thnR ?_
                  refine ⟨_, _, (Res.one rfl), (Imp.refl _), ?_⟩
                  refine ⟨congrArg str ?_, rfl⟩
                  first | exact (nameF_nil (by omega)).symm | exact (nameF_nil (.inr (.inr (.inr (.inr (not_low (k := k) (by omega) (by omega))))))).symm | exact (nameF_full (by omega) (by omega) (by omega) (by omega) (all_low fun j hj => hlow j (by omega))).symm
                · try simp only [decide_eq_true_eq, decide_eq_false_iff_not, beq_iff_eq, beq_eq_false_iff_ne, bne_iff_ne, bne_eq_false_iff_eq, Bool.not_eq_true', Bool.not_eq_false', Int.not_lt, Int.not_le, ne_eq] at h14
                  refine WP.skip ?_
                  refine blkN ?_
                  refine thnN ?_
                  refine WP.region ?_
                  refine WO.move rfl rfl ?_
                  refine WO.add rfl rfl (by first | exact wrap_i64 (by omega) (by omega) | rfl) rfl ?_
                  refine WO.assign rfl rfl ?_
                  refine WO.nil ?_
                  refine thnN ?_
                  refine ⟨k + 1, ⟨rfl, rfl, rfl, trivial⟩, rfl, ?_, ?_⟩
                  · exact ⟨by omega, low_snoc hlow (by simp only [bt] at *; omega)⟩
                  · omega
            · try simp only [decide_eq_true_eq, decide_eq_false_iff_not, beq_iff_eq, beq_eq_false_iff_ne, bne_iff_ne, bne_eq_false_iff_eq, Bool.not_eq_true', Bool.not_eq_false', Int.not_lt, Int.not_le, ne_eq] at h10
              refine WP.exit ?_
              refine thnE ?_
              refine thnE ?_
              refine blkHit ?_
              refine thnN ?_
              refine WP.seq ?_
              refine WP.region ?_
              refine WO.move rfl rfl ?_
              refine WO.addS rfl rfl (by first | omega | (simp only [len_toBytes, List.length_append, List.length_cons, List.length_nil, List.length_drop, List.length_take]; omega) | (have := itoa_len (n := n) (by omega) (by omega); simp only [List.length_append, List.length_cons, List.length_nil]; omega)) rfl ?_
              refine WO.move rfl rfl ?_
              refine WO.callP (s_r08_digits _ ?_ ?_) rfl ca_37 rfl ?_
              · first | assumption | omega | decide
              · first | assumption | omega | decide
              refine WO.addS rfl rfl (by first | omega | (simp only [len_toBytes, List.length_append, List.length_cons, List.length_nil, List.length_drop, List.length_take]; omega) | (have := itoa_len (n := n) (by omega) (by omega); simp only [List.length_append, List.length_cons, List.length_nil]; omega)) rfl ?_
              refine WO.assign rfl rfl ?_
              refine WO.nil ?_
              refine thnN ?_
              refine WP.ret ?_
              refine ⟨_, _, (Res.one rfl), (Imp.refl _), ?_⟩
              refine ⟨congrArg str ?_, rfl⟩
              first | exact (nameF_nil (by omega)).symm | exact (nameF_nil (.inr (.inr (.inr (.inr (not_low (k := k) (by omega) (by omega))))))).symm | exact (nameF_full (by omega) (by omega) (by omega) (by omega) (all_low fun j hj => hlow j (by omega))).symm

theorem s_files_right (w : List UInt8) (hy0 : w.length ≤ 1000) : CallsS P 29 [str w] [] (fun v L => v = .bool (rightW w) ∧ L = []) := by
  refine CallsS.intro Tryz.func29 rfl rfl rfl rfl ?_
  refine WP.seq ?_
  refine WP.region ?_
  refine WO.assign rfl rfl ?_
  refine WO.nil ?_
  refine thnN ?_
  refine WP.seq ?_
  refine WP.region ?_
  refine WO.move rfl rfl ?_
  refine WO.neqS rfl rfl rfl ?_
  refine WO.move rfl rfl ?_
  refine WO.split 5 rfl (fun h1 => ?_) (fun h2 => ?_)
  · try simp only [decide_eq_true_eq, decide_eq_false_iff_not, beq_iff_eq, beq_eq_false_iff_ne, bne_iff_ne, bne_eq_false_iff_eq, Bool.not_eq_true', Bool.not_eq_false', Int.not_lt, Int.not_le, ne_eq] at h1
    refine WO.want 5 rfl rfl ?_
    refine WO.move rfl rfl ?_
    refine WO.want 5 rfl rfl ?_
    refine WO.lenS rfl un_9 rfl ?_
    refine WO.want 5 rfl rfl ?_
    refine WO.leqI rfl rfl rfl ?_
    refine WO.pickT rfl rfl rfl ?_
    refine WO.move rfl rfl ?_
    refine WO.split 10 rfl (fun h3 => ?_) (fun h4 => ?_)
    · try simp only [decide_eq_true_eq, decide_eq_false_iff_not, beq_iff_eq, beq_eq_false_iff_ne, bne_iff_ne, bne_eq_false_iff_eq, Bool.not_eq_true', Bool.not_eq_false', Int.not_lt, Int.not_le, ne_eq] at h3
      refine WO.want 10 rfl rfl ?_
      refine WO.move rfl rfl ?_
      refine WO.want 10 rfl rfl ?_
      refine WO.callP (s_Trim _ ?_) rfl ca_44 rfl ?_
      · omega
      refine WO.want 10 rfl rfl ?_
      refine WO.eqlS rfl rfl rfl ?_
      refine WO.pickT rfl rfl rfl ?_
      refine WO.assign rfl rfl ?_
      refine WO.nil ?_
      refine thnN ?_
      refine WP.ret ?_
      refine ⟨_, _, (Res.one rfl), (Imp.refl _), ?_⟩
      refine ⟨?_, rfl⟩
      congr 1
      first | exact right_eq (by assumption) (by omega) | (simp_all [rightW]; done) | (simp_all [rightW]; omega)
    · try simp only [decide_eq_true_eq, decide_eq_false_iff_not, beq_iff_eq, beq_eq_false_iff_ne, bne_iff_ne, bne_eq_false_iff_eq, Bool.not_eq_true', Bool.not_eq_false', Int.not_lt, Int.not_le, ne_eq] at h4
      refine WO.pass 10 rfl rfl rfl rfl ?_
      refine WO.pass 10 rfl rfl rfl rfl ?_
      refine WO.pass 10 rfl rfl rfl rfl ?_
      refine WO.pickF rfl rfl rfl ?_
      refine WO.assign rfl rfl ?_
      refine WO.nil ?_
      refine thnN ?_
      refine WP.ret ?_
      refine ⟨_, _, (Res.one rfl), (Imp.refl _), ?_⟩
      refine ⟨?_, rfl⟩
      congr 1
      first | exact right_eq (by assumption) (by omega) | (simp_all [rightW]; done) | (simp_all [rightW]; omega)
  · try simp only [decide_eq_true_eq, decide_eq_false_iff_not, beq_iff_eq, beq_eq_false_iff_ne, bne_iff_ne, bne_eq_false_iff_eq, Bool.not_eq_true', Bool.not_eq_false', Int.not_lt, Int.not_le, ne_eq] at h2
    refine WO.pass 5 rfl rfl rfl rfl ?_
    refine WO.pass 5 rfl rfl rfl rfl ?_
    refine WO.pass 5 rfl rfl rfl rfl ?_
    refine WO.pickF rfl rfl rfl ?_
    refine WO.move rfl rfl ?_
    refine WO.pass 10 rfl rfl rfl rfl ?_
    refine WO.pass 10 rfl rfl rfl rfl ?_
    refine WO.pass 10 rfl rfl rfl rfl ?_
    refine WO.pickF rfl rfl rfl ?_
    refine WO.assign rfl rfl ?_
    refine WO.nil ?_
    refine thnN ?_
    refine WP.ret ?_
    refine ⟨_, _, (Res.one rfl), (Imp.refl _), ?_⟩
    refine ⟨?_, rfl⟩
    congr 1
    first | exact right_eq (by assumption) (by omega) | (simp_all [rightW]; done) | (simp_all [rightW]; omega)

theorem s_files_Name {G : Foot} (hG : GlobOK G) (w : List UInt8) (n : Int) (hy0 : w.length ≤ 1000) : CallsS P 15 [str w, .int .i64 n] [G] (fun v L => (v = str (nameF w n)) ∧ L = [G]) := by
  refine CallsS.intro Tryz.func15 rfl rfl rfl rfl ?_
  refine WP.seq ?_
  refine WP.region ?_
  refine WO.assign rfl rfl ?_
  refine WO.nil ?_
  refine thnN ?_
  refine WP.seq ?_
  refine WP.seq ?_
  refine WP.region ?_
  refine WO.move rfl rfl ?_
  refine WO.callP (s_files_right _ ?_) rfl ca_29 rfl ?_
  · first | assumption | omega | decide
  refine WO.not rfl rfl ?_
  refine WO.move rfl rfl ?_
  refine WO.split 8 rfl (fun h1 => ?_) (fun h2 => ?_)
  · try simp only [decide_eq_true_eq, decide_eq_false_iff_not, beq_iff_eq, beq_eq_false_iff_ne, bne_iff_ne, bne_eq_false_iff_eq, Bool.not_eq_true', Bool.not_eq_false', Int.not_lt, Int.not_le, ne_eq] at h1
    refine WO.pass 8 rfl rfl rfl rfl ?_
    refine WO.pass 8 rfl rfl rfl rfl ?_
    refine WO.pickT rfl rfl rfl ?_
    refine WO.move rfl rfl ?_
    refine WO.pass 12 rfl rfl rfl rfl ?_
    refine WO.pass 12 rfl rfl rfl rfl ?_
    refine WO.pickT rfl rfl rfl ?_
    refine WO.nil ?_
    refine thnN ?_
    refine WP.condT rfl ?_
    refine WP.seq ?_
    refine WP.region ?_
    refine WO.assign rfl rfl ?_
    refine WO.nil ?_
    refine thnN ?_
    refine WP.ret ?_
    refine thnR ?_
    refine ⟨_, _, (Res.one rfl), (Imp.refl _), ?_⟩
    refine ⟨congrArg str ?_, rfl⟩
    unfold nameF
    first | (rw [if_neg (by rintro ⟨h_1, h_2, h_3⟩; first | omega | simp_all)]; done) | (rw [if_pos (by simp_all)]; done)
  · try simp only [decide_eq_true_eq, decide_eq_false_iff_not, beq_iff_eq, beq_eq_false_iff_ne, bne_iff_ne, bne_eq_false_iff_eq, Bool.not_eq_true', Bool.not_eq_false', Int.not_lt, Int.not_le, ne_eq] at h2
    refine WO.want 8 rfl rfl ?_
    refine WO.move rfl rfl ?_
    refine WO.want 8 rfl rfl ?_
    refine WO.lssI rfl rfl rfl ?_
    refine WO.pickF rfl rfl rfl ?_
    refine WO.move rfl rfl ?_
    refine WO.split 12 rfl (fun h3 => ?_) (fun h4 => ?_)
    · try simp only [decide_eq_true_eq, decide_eq_false_iff_not, beq_iff_eq, beq_eq_false_iff_ne, bne_iff_ne, bne_eq_false_iff_eq, Bool.not_eq_true', Bool.not_eq_false', Int.not_lt, Int.not_le, ne_eq] at h3
      refine WO.pass 12 rfl rfl rfl rfl ?_
      refine WO.pass 12 rfl rfl rfl rfl ?_
      refine WO.pickT rfl rfl rfl ?_
      refine WO.nil ?_
      refine thnN ?_
      refine WP.condT rfl ?_
      refine WP.seq ?_
      refine WP.region ?_
      refine WO.assign rfl rfl ?_
      refine WO.nil ?_
      refine thnN ?_
      refine WP.ret ?_
      refine thnR ?_
      refine ⟨_, _, (Res.one rfl), (Imp.refl _), ?_⟩
      refine ⟨congrArg str ?_, rfl⟩
      unfold nameF
      first | (rw [if_neg (by rintro ⟨h_1, h_2, h_3⟩; first | omega | simp_all)]; done) | (rw [if_pos (by simp_all)]; done)
    · try simp only [decide_eq_true_eq, decide_eq_false_iff_not, beq_iff_eq, beq_eq_false_iff_ne, bne_iff_ne, bne_eq_false_iff_eq, Bool.not_eq_true', Bool.not_eq_false', Int.not_lt, Int.not_le, ne_eq] at h4
      refine WO.want 12 rfl rfl ?_
      refine WO.move rfl rfl ?_
      refine WO.want 12 rfl rfl ?_
      refine WO.gtrI rfl rfl rfl ?_
      refine WO.pickF rfl rfl rfl ?_
      refine WO.nil ?_
      refine thnN ?_
      refine WP.cond rfl (fun h5 => ?_) (fun h6 => ?_)
      · try simp only [decide_eq_true_eq, decide_eq_false_iff_not, beq_iff_eq, beq_eq_false_iff_ne, bne_iff_ne, bne_eq_false_iff_eq, Bool.not_eq_true', Bool.not_eq_false', Int.not_lt, Int.not_le, ne_eq] at h5
        refine WP.seq ?_
        refine WP.region ?_
        refine WO.assign rfl rfl ?_
        refine WO.nil ?_
        refine thnN ?_
        refine WP.ret ?_
        refine thnR ?_
        refine ⟨_, _, (Res.one rfl), (Imp.refl _), ?_⟩
        refine ⟨congrArg str ?_, rfl⟩
        unfold nameF
        first | (rw [if_neg (by rintro ⟨h_1, h_2, h_3⟩; first | omega | simp_all)]; done) | (rw [if_pos (by simp_all)]; done)
      · try simp only [decide_eq_true_eq, decide_eq_false_iff_not, beq_iff_eq, beq_eq_false_iff_ne, bne_iff_ne, bne_eq_false_iff_eq, Bool.not_eq_true', Bool.not_eq_false', Int.not_lt, Int.not_le, ne_eq] at h6
        refine WP.skip ?_
        refine thnN ?_
        refine WP.seq ?_
        refine WP.region ?_
        refine WO.move rfl rfl ?_
        refine WO.addS rfl rfl (by first | omega | (simp only [len_toBytes, List.length_append, List.length_cons, List.length_nil, List.length_drop, List.length_take]; omega) | (have := itoa_len (n := n) (by omega) (by omega); simp only [List.length_append, List.length_cons, List.length_nil]; omega)) rfl ?_
        refine WO.move rfl rfl ?_
        first | refine WO.callR 0 rfl (s_Itoa hG _ ?_ ?_) rfl ca_30 rfl ?_ | refine WO.callR 1 rfl (s_Itoa hG _ ?_ ?_) rfl ca_30 rfl ?_ | refine WO.callR 2 rfl (s_Itoa hG _ ?_ ?_) rfl ca_30 rfl ?_ | refine WO.callR 3 rfl (s_Itoa hG _ ?_ ?_) rfl ca_30 rfl ?_
        · omega
        · omega
        rintro _ rfl
        refine WO.addS rfl rfl (by first | omega | (simp only [len_toBytes, List.length_append, List.length_cons, List.length_nil, List.length_drop, List.length_take]; omega) | (have := itoa_len (n := n) (by omega) (by omega); simp only [List.length_append, List.length_cons, List.length_nil]; omega)) rfl ?_
        refine WO.assign rfl rfl ?_
        refine WO.nil ?_
        refine thnN ?_
        refine WP.ret ?_
        refine ⟨_, _, (Res.one rfl), (Imp.refl _), ?_⟩
        refine ⟨congrArg str ?_, rfl⟩
        unfold nameF
        first | (rw [if_neg (by rintro ⟨h_1, h_2, h_3⟩; first | omega | simp_all)]; done) | (rw [if_pos (by simp_all)]; done)

theorem s_files_Number {G : Foot} (hG : GlobOK G) (w name : List UInt8) (hy0 : w.length ≤ 1000) (hy1 : name.length ≤ 1000) : CallsS P 14 [str w, str name] [G] (fun v L => (v = .tuple #[.int .i64 ((numberF w name).getD 0), .bool (numberF w name).isSome]) ∧ L = [G]) := by
  refine CallsS.intro Tryz.func14 rfl rfl rfl rfl ?_
  refine WP.seq ?_
  refine WP.region ?_
  refine WO.assign rfl rfl ?_
  refine WO.assign rfl rfl ?_
  refine WO.nil ?_
  refine thnN ?_
  refine WP.seq ?_
  refine WP.region ?_
  refine WO.move rfl rfl ?_
  refine WO.move rfl rfl ?_
  refine WO.addS rfl rfl (by first | omega | (simp only [len_toBytes, List.length_append, List.length_cons, List.length_nil, List.length_drop, List.length_take]; omega)) rfl ?_
  refine WO.callP (s_CutPrefix _ _) rfl ca_27 rfl ?_
  refine WO.move rfl rfl ?_
  refine WO.extract rfl rfl rfl ?_
  refine WO.extract rfl rfl rfl ?_
  refine WO.assign rfl rfl ?_
  refine WO.assign rfl rfl ?_
  refine WO.nil ?_
  refine thnN ?_
  refine WP.seq ?_
  refine WP.seq ?_
  refine WP.region ?_
  refine WO.move rfl rfl ?_
  refine WO.not rfl rfl ?_
  refine WO.move rfl rfl ?_
  refine WO.split 19 rfl (fun h1 => ?_) (fun h2 => ?_)
  · try simp only [decide_eq_true_eq, decide_eq_false_iff_not, beq_iff_eq, beq_eq_false_iff_ne, bne_iff_ne, bne_eq_false_iff_eq, Bool.not_eq_true', Bool.not_eq_false', Int.not_lt, Int.not_le, ne_eq] at h1
    refine WO.pass 19 rfl rfl rfl rfl ?_
    refine WO.pass 19 rfl rfl rfl rfl ?_
    refine WO.pass 19 rfl rfl rfl rfl ?_
    refine WO.pickT rfl rfl rfl ?_
    refine WO.nil ?_
    refine thnN ?_
    refine WP.condT rfl ?_
    refine WP.seq ?_
    refine WP.region ?_
    refine WO.assign rfl rfl ?_
    refine WO.assign rfl rfl ?_
    refine WO.nil ?_
    refine thnN ?_
    refine WP.ret ?_
    refine thnR ?_
    refine ⟨_, _, (Res.two rfl rfl), (Imp.refl _), ?_⟩
    refine ⟨?_, rfl⟩
    cases hat : atoi (List.drop (w.length + 1) name) <;> by_cases hq : name.length ≤ 5 + (w.length + 1) <;> first | (exfalso; simp_all [trimPrefix]; done) | (exfalso; simp_all [trimPrefix]; omega) | (rw [show numberF w name = none from by simp only [numberF]; rw [if_pos (by assumption), if_neg (by simp; omega)]]; rfl) | (simp_all [numberF, trimPrefix]; done)
  · try simp only [decide_eq_true_eq, decide_eq_false_iff_not, beq_iff_eq, beq_eq_false_iff_ne, bne_iff_ne, bne_eq_false_iff_eq, Bool.not_eq_true', Bool.not_eq_false', Int.not_lt, Int.not_le, ne_eq] at h2
    refine WO.want 19 rfl rfl ?_
    refine WO.move rfl rfl ?_
    refine WO.want 19 rfl rfl ?_
    refine WO.lenS rfl un_9 rfl ?_
    refine WO.want 19 rfl rfl ?_
    refine WO.gtrI rfl rfl rfl ?_
    refine WO.pickF rfl rfl rfl ?_
    refine WO.nil ?_
    refine thnN ?_
    refine WP.cond rfl (fun h3 => ?_) (fun h4 => ?_)
    · try simp only [decide_eq_true_eq, decide_eq_false_iff_not, beq_iff_eq, beq_eq_false_iff_ne, bne_iff_ne, bne_eq_false_iff_eq, Bool.not_eq_true', Bool.not_eq_false', Int.not_lt, Int.not_le, ne_eq] at h3
      refine WP.seq ?_
      refine WP.region ?_
      refine WO.assign rfl rfl ?_
      refine WO.assign rfl rfl ?_
      refine WO.nil ?_
      refine thnN ?_
      refine WP.ret ?_
      refine thnR ?_
      refine ⟨_, _, (Res.two rfl rfl), (Imp.refl _), ?_⟩
      refine ⟨?_, rfl⟩
      cases hat : atoi (List.drop (w.length + 1) name) <;> by_cases hq : name.length ≤ 5 + (w.length + 1) <;> first | (exfalso; simp_all [trimPrefix]; done) | (exfalso; simp_all [trimPrefix]; omega) | (rw [show numberF w name = none from by simp only [numberF]; rw [if_pos (by assumption), if_neg (by simp; omega)]]; rfl) | (simp_all [numberF, trimPrefix]; done)
    · try simp only [decide_eq_true_eq, decide_eq_false_iff_not, beq_iff_eq, beq_eq_false_iff_ne, bne_iff_ne, bne_eq_false_iff_eq, Bool.not_eq_true', Bool.not_eq_false', Int.not_lt, Int.not_le, ne_eq] at h4
      refine WP.skip ?_
      refine thnN ?_
      refine WP.seq ?_
      refine WP.region ?_
      refine WO.move rfl rfl ?_
      first | refine WO.callR 0 rfl (s_Atoi hG _ ?_) rfl ca_28 rfl ?_ | refine WO.callR 1 rfl (s_Atoi hG _ ?_) rfl ca_28 rfl ?_ | refine WO.callR 2 rfl (s_Atoi hG _ ?_) rfl ca_28 rfl ?_ | refine WO.callR 3 rfl (s_Atoi hG _ ?_) rfl ca_28 rfl ?_
      · omega
      rintro _ ⟨e_, he_, rfl⟩
      refine WO.move rfl rfl ?_
      refine WO.extract rfl rfl rfl ?_
      refine WO.extract rfl rfl rfl ?_
      refine WO.assign rfl rfl ?_
      refine WO.assign rfl rfl ?_
      refine WO.nil ?_
      refine thnN ?_
      refine WP.seq ?_
      refine WP.seq ?_
      refine WP.region ?_
      refine WO.move rfl rfl ?_
      refine WO.neqN rfl (by first | assumption | rfl) ifc_62 rfl ?_
      refine WO.move rfl rfl ?_
      refine WO.split 31 rfl (fun h5 => ?_) (fun h6 => ?_)
      · try simp only [decide_eq_true_eq, decide_eq_false_iff_not, beq_iff_eq, beq_eq_false_iff_ne, bne_iff_ne, bne_eq_false_iff_eq, Bool.not_eq_true', Bool.not_eq_false', Int.not_lt, Int.not_le, ne_eq] at h5
        refine WO.pass 31 rfl rfl rfl rfl ?_
        refine WO.pass 31 rfl rfl rfl rfl ?_
        refine WO.pass 31 rfl rfl rfl rfl ?_
        refine WO.pass 31 rfl rfl rfl rfl ?_
        refine WO.pass 31 rfl rfl rfl rfl ?_
        refine WO.pickT rfl rfl rfl ?_
        refine WO.move rfl rfl ?_
        refine WO.pass 38 rfl rfl rfl rfl ?_
        refine WO.pass 38 rfl rfl rfl rfl ?_
        refine WO.pickT rfl rfl rfl ?_
        refine WO.nil ?_
        refine thnN ?_
        refine WP.condT rfl ?_
        refine WP.seq ?_
        refine WP.region ?_
        refine WO.assign rfl rfl ?_
        refine WO.assign rfl rfl ?_
        refine WO.nil ?_
        refine thnN ?_
        refine WP.ret ?_
        refine thnR ?_
        refine ⟨_, _, (Res.two rfl rfl), (Imp.refl _), ?_⟩
        refine ⟨?_, rfl⟩
        cases hat : atoi (List.drop (w.length + 1) name) <;> by_cases hq : name.length ≤ 5 + (w.length + 1) <;> first | (exfalso; simp_all [trimPrefix]; done) | (exfalso; simp_all [trimPrefix]; omega) | (rw [show numberF w name = none from by simp only [numberF]; rw [if_pos (by assumption), if_neg (by simp; omega)]]; rfl) | (simp_all [numberF, trimPrefix]; done)
      · try simp only [decide_eq_true_eq, decide_eq_false_iff_not, beq_iff_eq, beq_eq_false_iff_ne, bne_iff_ne, bne_eq_false_iff_eq, Bool.not_eq_true', Bool.not_eq_false', Int.not_lt, Int.not_le, ne_eq] at h6
        refine WO.want 31 rfl rfl ?_
        refine WO.move rfl rfl ?_
        refine WO.want 31 rfl rfl ?_
        refine WO.move rfl rfl ?_
        refine WO.want 31 rfl rfl ?_
        first | refine WO.callR 0 rfl (s_files_Name hG _ _ ?_) rfl ca_15 rfl ?_ | refine WO.callR 1 rfl (s_files_Name hG _ _ ?_) rfl ca_15 rfl ?_ | refine WO.callR 2 rfl (s_files_Name hG _ _ ?_) rfl ca_15 rfl ?_ | refine WO.callR 3 rfl (s_files_Name hG _ _ ?_) rfl ca_15 rfl ?_
        · first | assumption | omega | decide
        rintro _ rfl
        refine WO.want 31 rfl rfl ?_
        refine WO.move rfl rfl ?_
        refine WO.want 31 rfl rfl ?_
        refine WO.neqS rfl rfl rfl ?_
        refine WO.pickF rfl rfl rfl ?_
        refine WO.move rfl rfl ?_
        refine WO.split 38 rfl (fun h7 => ?_) (fun h8 => ?_)
        · try simp only [decide_eq_true_eq, decide_eq_false_iff_not, beq_iff_eq, beq_eq_false_iff_ne, bne_iff_ne, bne_eq_false_iff_eq, Bool.not_eq_true', Bool.not_eq_false', Int.not_lt, Int.not_le, ne_eq] at h7
          refine WO.pass 38 rfl rfl rfl rfl ?_
          refine WO.pass 38 rfl rfl rfl rfl ?_
          refine WO.pickT rfl rfl rfl ?_
          refine WO.nil ?_
          refine thnN ?_
          refine WP.condT rfl ?_
          refine WP.seq ?_
          refine WP.region ?_
          refine WO.assign rfl rfl ?_
          refine WO.assign rfl rfl ?_
          refine WO.nil ?_
          refine thnN ?_
          refine WP.ret ?_
          refine thnR ?_
          refine ⟨_, _, (Res.two rfl rfl), (Imp.refl _), ?_⟩
          refine ⟨?_, rfl⟩
          cases hat : atoi (List.drop (w.length + 1) name) <;> by_cases hq : name.length ≤ 5 + (w.length + 1) <;> first | (exfalso; simp_all [trimPrefix]; done) | (exfalso; simp_all [trimPrefix]; omega) | (rw [show numberF w name = none from by simp only [numberF]; rw [if_pos (by assumption), if_neg (by simp; omega)]]; rfl) | (simp_all [numberF, trimPrefix]; done)
        · try simp only [decide_eq_true_eq, decide_eq_false_iff_not, beq_iff_eq, beq_eq_false_iff_ne, bne_iff_ne, bne_eq_false_iff_eq, Bool.not_eq_true', Bool.not_eq_false', Int.not_lt, Int.not_le, ne_eq] at h8
          refine WO.want 38 rfl rfl ?_
          refine WO.move rfl rfl ?_
          refine WO.want 38 rfl rfl ?_
          refine WO.eqlS rfl rfl rfl ?_
          refine WO.pickF rfl rfl rfl ?_
          refine WO.nil ?_
          refine thnN ?_
          refine WP.cond rfl (fun h9 => ?_) (fun h10 => ?_)
          · try simp only [decide_eq_true_eq, decide_eq_false_iff_not, beq_iff_eq, beq_eq_false_iff_ne, bne_iff_ne, bne_eq_false_iff_eq, Bool.not_eq_true', Bool.not_eq_false', Int.not_lt, Int.not_le, ne_eq] at h9
            refine WP.seq ?_
            refine WP.region ?_
            refine WO.assign rfl rfl ?_
            refine WO.assign rfl rfl ?_
            refine WO.nil ?_
            refine thnN ?_
            refine WP.ret ?_
            refine thnR ?_
            refine ⟨_, _, (Res.two rfl rfl), (Imp.refl _), ?_⟩
            refine ⟨?_, rfl⟩
            cases hat : atoi (List.drop (w.length + 1) name) <;> by_cases hq : name.length ≤ 5 + (w.length + 1) <;> first | (exfalso; simp_all [trimPrefix]; done) | (exfalso; simp_all [trimPrefix]; omega) | (rw [show numberF w name = none from by simp only [numberF]; rw [if_pos (by assumption), if_neg (by simp; omega)]]; rfl) | (simp_all [numberF, trimPrefix]; done)
          · try simp only [decide_eq_true_eq, decide_eq_false_iff_not, beq_iff_eq, beq_eq_false_iff_ne, bne_iff_ne, bne_eq_false_iff_eq, Bool.not_eq_true', Bool.not_eq_false', Int.not_lt, Int.not_le, ne_eq] at h10
            refine WP.skip ?_
            refine thnN ?_
            refine WP.seq ?_
            refine WP.region ?_
            refine WO.move rfl rfl ?_
            refine WO.assign rfl rfl ?_
            refine WO.assign rfl rfl ?_
            refine WO.nil ?_
            refine thnN ?_
            refine WP.ret ?_
            refine ⟨_, _, (Res.two rfl rfl), (Imp.refl _), ?_⟩
            refine ⟨?_, rfl⟩
            cases hat : atoi (List.drop (w.length + 1) name) <;> by_cases hq : name.length ≤ 5 + (w.length + 1) <;> first | (exfalso; simp_all [trimPrefix]; done) | (exfalso; simp_all [trimPrefix]; omega) | (rw [show numberF w name = none from by simp only [numberF]; rw [if_pos (by assumption), if_neg (by simp; omega)]]; rfl) | (simp_all [numberF, trimPrefix]; done)

theorem s_r08_Number (w name : List UInt8) (hy0 : w.length ≤ 1000) (hy1 : name.length ≤ 1000) : CallsS P 12 [str w, str name] [] (fun v L => v = .int .i64 (refNumber w name) ∧ L = []) := by
  refine CallsS.intro Tryz.func12 rfl rfl rfl rfl ?_
  refine WP.seq ?_
  refine WP.region ?_
  refine WO.assign rfl rfl ?_
  refine WO.nil ?_
  refine thnN ?_
  refine WP.seq ?_
  refine WP.region ?_
  refine WO.assign rfl rfl ?_
  refine WO.nil ?_
  refine thnN ?_
  refine WP.seq ?_
  refine WP.seq ?_
  refine WP.region ?_
  refine WO.move rfl rfl ?_
  refine WO.lenS rfl un_9 rfl ?_
  refine WO.add rfl rfl (by first | exact wrap_i64 (by omega) (by omega) | rfl) rfl ?_
  refine WO.assign rfl rfl ?_
  refine WO.nil ?_
  refine thnN ?_
  refine WP.block ?_
  refine WP.loop2 (fun (k : Nat) (m : Int) => [(0, str w), (1, str name), (5, .int .i64 m), (6, .int .i64 k)]) (fun (k : Nat) (m : Int) => []) (fun (k : Nat) (m : Int) => w.length + 1 ≤ k ∧ 0 ≤ m ∧ m < 1000000 ∧ numLoop (name.drop (w.length + 1)) 0 = numLoop (name.drop k) m) (fun (k : Nat) (m : Int) => name.length - k) ⟨w.length + 1, 0, ⟨rfl, rfl, rfl, rfl, trivial⟩, rfl, ?_⟩ ?_
  · exact ⟨Nat.le_refl _, by omega, by omega, rfl⟩
  · intro k m hI
    obtain ⟨hk, hm0, hm1, hl⟩ := hI
    have hb := bt_range name (k : Int)
    refine WP.seq ?_
    refine WP.seq ?_
    refine WP.region ?_
    refine WO.move rfl rfl ?_
    refine WO.move rfl rfl ?_
    refine WO.lenS rfl un_9 rfl ?_
    refine WO.lssI rfl rfl rfl ?_
    refine WO.move rfl rfl ?_
    refine WO.split 14 rfl (fun h1 => ?_) (fun h2 => ?_)
    · try simp only [decide_eq_true_eq, decide_eq_false_iff_not, beq_iff_eq, beq_eq_false_iff_ne, bne_iff_ne, bne_eq_false_iff_eq, Bool.not_eq_true', Bool.not_eq_false', Int.not_lt, Int.not_le, ne_eq] at h1
      refine WO.want 14 rfl rfl ?_
      refine WO.move rfl rfl ?_
      refine WO.want 14 rfl rfl ?_
      refine WO.lssI rfl rfl rfl ?_
      refine WO.pickT rfl rfl rfl ?_
      refine WO.nil ?_
      refine thnN ?_
      refine WP.cond rfl (fun h3 => ?_) (fun h4 => ?_)
      · try simp only [decide_eq_true_eq, decide_eq_false_iff_not, beq_iff_eq, beq_eq_false_iff_ne, bne_iff_ne, bne_eq_false_iff_eq, Bool.not_eq_true', Bool.not_eq_false', Int.not_lt, Int.not_le, ne_eq] at h3
        refine WP.skip ?_
        refine thnN ?_
        refine WP.seq ?_
        refine WP.block ?_
        refine WP.seq ?_
        refine WP.region ?_
        refine WO.move rfl rfl ?_
        refine WO.mul rfl rfl (by first | exact wrap_i64 (by omega) (by omega) | rfl) rfl ?_
        refine WO.move rfl rfl ?_
        refine WO.move rfl rfl ?_
        refine WO.indexS rfl rfl un_9 (by omega) rfl rfl ?_
        refine WO.conv rfl un_3 un_5 (by first | exact wrap_i64 (by omega) (by omega) | rfl) rfl ?_
        refine WO.add rfl rfl (by first | exact wrap_i64 (by omega) (by omega) | rfl) rfl ?_
        refine WO.sub' rfl rfl (by first | exact wrap_i64 (by omega) (by omega) | rfl) rfl ?_
        refine WO.assign rfl rfl ?_
        refine WO.nil ?_
        refine thnN ?_
        refine WP.seq ?_
        refine WP.region ?_
        refine WO.move rfl rfl ?_
        refine WO.move rfl rfl ?_
        refine WO.indexS rfl rfl un_9 (by omega) rfl rfl ?_
        refine WO.lssI rfl rfl rfl ?_
        refine WO.move rfl rfl ?_
        refine WO.split 32 rfl (fun h5 => ?_) (fun h6 => ?_)
        · try simp only [decide_eq_true_eq, decide_eq_false_iff_not, beq_iff_eq, beq_eq_false_iff_ne, bne_iff_ne, bne_eq_false_iff_eq, Bool.not_eq_true', Bool.not_eq_false', Int.not_lt, Int.not_le, ne_eq] at h5
          refine WO.pass 32 rfl rfl rfl rfl ?_
          refine WO.pass 32 rfl rfl rfl rfl ?_
          refine WO.pass 32 rfl rfl rfl rfl ?_
          refine WO.pass 32 rfl rfl rfl rfl ?_
          refine WO.pickT rfl rfl rfl ?_
          refine WO.nil ?_
          refine thnN ?_
          refine WP.condT rfl ?_
          refine WP.seq ?_
          refine WP.region ?_
          refine WO.assign rfl rfl ?_
          refine WO.nil ?_
          refine thnN ?_
          refine WP.ret ?_
          refine blkR ?_
          refine thnR ?_
          refine thnR ?_
          refine blkR ?_
          refine thnR ?_
          refine ⟨_, _, (Res.one rfl), (Imp.refl _), ?_⟩
          refine ⟨?_, rfl⟩
          first | (rw [ref_none (hl.trans (numLoop_bad (by omega) (by omega) (by omega)))]; done) | (rw [ref_some (hl.trans (numLoop_end (by omega)))]; simp_all; done)
        · try simp only [decide_eq_true_eq, decide_eq_false_iff_not, beq_iff_eq, beq_eq_false_iff_ne, bne_iff_ne, bne_eq_false_iff_eq, Bool.not_eq_true', Bool.not_eq_false', Int.not_lt, Int.not_le, ne_eq] at h6
          refine WO.want 32 rfl rfl ?_
          refine WO.move rfl rfl ?_
          refine WO.want 32 rfl rfl ?_
          refine WO.move rfl rfl ?_
          refine WO.want 32 rfl rfl ?_
          refine WO.indexS rfl rfl un_9 (by omega) rfl rfl ?_
          refine WO.want 32 rfl rfl ?_
          refine WO.gtrI rfl rfl rfl ?_
          refine WO.pickF rfl rfl rfl ?_
          refine WO.nil ?_
          refine thnN ?_
          refine WP.cond rfl (fun h7 => ?_) (fun h8 => ?_)
          · try simp only [decide_eq_true_eq, decide_eq_false_iff_not, beq_iff_eq, beq_eq_false_iff_ne, bne_iff_ne, bne_eq_false_iff_eq, Bool.not_eq_true', Bool.not_eq_false', Int.not_lt, Int.not_le, ne_eq] at h7
            refine WP.seq ?_
            refine WP.region ?_
            refine WO.assign rfl rfl ?_
            refine WO.nil ?_
            refine thnN ?_
            refine WP.ret ?_
            refine blkR ?_
            refine thnR ?_
            refine thnR ?_
            refine blkR ?_
            refine thnR ?_
            refine ⟨_, _, (Res.one rfl), (Imp.refl _), ?_⟩
            refine ⟨?_, rfl⟩
            first | (rw [ref_none (hl.trans (numLoop_bad (by omega) (by omega) (by omega)))]; done) | (rw [ref_some (hl.trans (numLoop_end (by omega)))]; simp_all; done)
          · try simp only [decide_eq_true_eq, decide_eq_false_iff_not, beq_iff_eq, beq_eq_false_iff_ne, bne_iff_ne, bne_eq_false_iff_eq, Bool.not_eq_true', Bool.not_eq_false', Int.not_lt, Int.not_le, ne_eq] at h8
            refine WP.skip ?_
            refine blkN ?_
            refine thnN ?_
            refine WP.region ?_
            refine WO.move rfl rfl ?_
            refine WO.add rfl rfl (by first | exact wrap_i64 (by omega) (by omega) | rfl) rfl ?_
            refine WO.assign rfl rfl ?_
            refine WO.nil ?_
            refine thnN ?_
            refine ⟨k + 1, _, ⟨rfl, rfl, rfl, rfl, trivial⟩, rfl, ?_, ?_⟩
            · exact ⟨by omega, by omega, by omega, hl.trans (numLoop_ok (by omega) (by omega) (by omega))⟩
            · omega
      · try simp only [decide_eq_true_eq, decide_eq_false_iff_not, beq_iff_eq, beq_eq_false_iff_ne, bne_iff_ne, bne_eq_false_iff_eq, Bool.not_eq_true', Bool.not_eq_false', Int.not_lt, Int.not_le, ne_eq] at h4
        refine WP.exit ?_
        refine thnE ?_
        refine thnE ?_
        refine blkHit ?_
        refine thnN ?_
        refine WP.seq ?_
        refine WP.seq ?_
        refine WP.region ?_
        refine WO.move rfl rfl ?_
        refine WO.eqlS rfl rfl rfl ?_
        refine WO.move rfl rfl ?_
        refine WO.split 40 rfl (fun h9 => ?_) (fun h10 => ?_)
        · try simp only [decide_eq_true_eq, decide_eq_false_iff_not, beq_iff_eq, beq_eq_false_iff_ne, bne_iff_ne, bne_eq_false_iff_eq, Bool.not_eq_true', Bool.not_eq_false', Int.not_lt, Int.not_le, ne_eq] at h9
          refine WO.pass 40 rfl rfl rfl rfl ?_
          refine WO.pass 40 rfl rfl rfl rfl ?_
          refine WO.pass 40 rfl rfl rfl rfl ?_
          refine WO.pass 40 rfl rfl rfl rfl ?_
          refine WO.pass 40 rfl rfl rfl rfl ?_
          refine WO.pickT rfl rfl rfl ?_
          refine WO.nil ?_
          refine thnN ?_
          refine WP.condT rfl ?_
          refine WP.seq ?_
          refine WP.region ?_
          refine WO.assign rfl rfl ?_
          refine WO.nil ?_
          refine thnN ?_
          refine WP.ret ?_
          refine thnR ?_
          refine ⟨_, _, (Res.one rfl), (Imp.refl _), ?_⟩
          refine ⟨?_, rfl⟩
          first | (rw [ref_none (hl.trans (numLoop_bad (by omega) (by omega) (by omega)))]; done) | (rw [ref_some (hl.trans (numLoop_end (by omega)))]; simp_all; done)
        · try simp only [decide_eq_true_eq, decide_eq_false_iff_not, beq_iff_eq, beq_eq_false_iff_ne, bne_iff_ne, bne_eq_false_iff_eq, Bool.not_eq_true', Bool.not_eq_false', Int.not_lt, Int.not_le, ne_eq] at h10
          refine WO.want 40 rfl rfl ?_
          refine WO.move rfl rfl ?_
          refine WO.want 40 rfl rfl ?_
          refine WO.move rfl rfl ?_
          refine WO.want 40 rfl rfl ?_
          refine WO.callP (s_r08_Name _ _ ?_) rfl ca_24 rfl ?_
          · first | assumption | omega | decide
          refine WO.want 40 rfl rfl ?_
          refine WO.move rfl rfl ?_
          refine WO.want 40 rfl rfl ?_
          refine WO.neqS rfl rfl rfl ?_
          refine WO.pickF rfl rfl rfl ?_
          refine WO.nil ?_
          refine thnN ?_
          refine WP.cond rfl (fun h11 => ?_) (fun h12 => ?_)
          · try simp only [decide_eq_true_eq, decide_eq_false_iff_not, beq_iff_eq, beq_eq_false_iff_ne, bne_iff_ne, bne_eq_false_iff_eq, Bool.not_eq_true', Bool.not_eq_false', Int.not_lt, Int.not_le, ne_eq] at h11
            refine WP.seq ?_
            refine WP.region ?_
            refine WO.assign rfl rfl ?_
            refine WO.nil ?_
            refine thnN ?_
            refine WP.ret ?_
            refine thnR ?_
            refine ⟨_, _, (Res.one rfl), (Imp.refl _), ?_⟩
            refine ⟨?_, rfl⟩
            first | (rw [ref_none (hl.trans (numLoop_bad (by omega) (by omega) (by omega)))]; done) | (rw [ref_some (hl.trans (numLoop_end (by omega)))]; simp_all; done)
          · try simp only [decide_eq_true_eq, decide_eq_false_iff_not, beq_iff_eq, beq_eq_false_iff_ne, bne_iff_ne, bne_eq_false_iff_eq, Bool.not_eq_true', Bool.not_eq_false', Int.not_lt, Int.not_le, ne_eq] at h12
            refine WP.skip ?_
            refine thnN ?_
            refine WP.seq ?_
            refine WP.region ?_
            refine WO.move rfl rfl ?_
            refine WO.assign rfl rfl ?_
            refine WO.nil ?_
            refine thnN ?_
            refine WP.ret ?_
            refine ⟨_, _, (Res.one rfl), (Imp.refl _), ?_⟩
            refine ⟨?_, rfl⟩
            first | (rw [ref_none (hl.trans (numLoop_bad (by omega) (by omega) (by omega)))]; done) | (rw [ref_some (hl.trans (numLoop_end (by omega)))]; simp_all; done)
    · try simp only [decide_eq_true_eq, decide_eq_false_iff_not, beq_iff_eq, beq_eq_false_iff_ne, bne_iff_ne, bne_eq_false_iff_eq, Bool.not_eq_true', Bool.not_eq_false', Int.not_lt, Int.not_le, ne_eq] at h2
      refine WO.pass 14 rfl rfl rfl rfl ?_
      refine WO.pass 14 rfl rfl rfl rfl ?_
      refine WO.pickF rfl rfl rfl ?_
      refine WO.nil ?_
      refine thnN ?_
      refine WP.condF rfl ?_
      refine WP.exit ?_
      refine thnE ?_
      refine thnE ?_
      refine blkHit ?_
      refine thnN ?_
      refine WP.seq ?_
      refine WP.seq ?_
      refine WP.region ?_
      refine WO.move rfl rfl ?_
      refine WO.eqlS rfl rfl rfl ?_
      refine WO.move rfl rfl ?_
      refine WO.split 40 rfl (fun h13 => ?_) (fun h14 => ?_)
      · try simp only [decide_eq_true_eq, decide_eq_false_iff_not, beq_iff_eq, beq_eq_false_iff_ne, bne_iff_ne, bne_eq_false_iff_eq, Bool.not_eq_true', Bool.not_eq_false', Int.not_lt, Int.not_le, ne_eq] at h13
        refine WO.pass 40 rfl rfl rfl rfl ?_
        refine WO.pass 40 rfl rfl rfl rfl ?_
        refine WO.pass 40 rfl rfl rfl rfl ?_
        refine WO.pass 40 rfl rfl rfl rfl ?_
        refine WO.pass 40 rfl rfl rfl rfl ?_
        refine WO.pickT rfl rfl rfl ?_
        refine WO.nil ?_
        refine thnN ?_
        refine WP.condT rfl ?_
        refine WP.seq ?_
        refine WP.region ?_
        refine WO.assign rfl rfl ?_
        refine WO.nil ?_
        refine thnN ?_
        refine WP.ret ?_
        refine thnR ?_
        refine ⟨_, _, (Res.one rfl), (Imp.refl _), ?_⟩
        refine ⟨?_, rfl⟩
        first | (rw [ref_none (hl.trans (numLoop_bad (by omega) (by omega) (by omega)))]; done) | (rw [ref_some (hl.trans (numLoop_end (by omega)))]; simp_all; done)
      · try simp only [decide_eq_true_eq, decide_eq_false_iff_not, beq_iff_eq, beq_eq_false_iff_ne, bne_iff_ne, bne_eq_false_iff_eq, Bool.not_eq_true', Bool.not_eq_false', Int.not_lt, Int.not_le, ne_eq] at h14
        refine WO.want 40 rfl rfl ?_
        refine WO.move rfl rfl ?_
        refine WO.want 40 rfl rfl ?_
        refine WO.move rfl rfl ?_
        refine WO.want 40 rfl rfl ?_
        refine WO.callP (s_r08_Name _ _ ?_) rfl ca_24 rfl ?_
        · first | assumption | omega | decide
        refine WO.want 40 rfl rfl ?_
        refine WO.move rfl rfl ?_
        refine WO.want 40 rfl rfl ?_
        refine WO.neqS rfl rfl rfl ?_
        refine WO.pickF rfl rfl rfl ?_
        refine WO.nil ?_
        refine thnN ?_
        refine WP.cond rfl (fun h15 => ?_) (fun h16 => ?_)
        · try simp only [decide_eq_true_eq, decide_eq_false_iff_not, beq_iff_eq, beq_eq_false_iff_ne, bne_iff_ne, bne_eq_false_iff_eq, Bool.not_eq_true', Bool.not_eq_false', Int.not_lt, Int.not_le, ne_eq] at h15
          refine WP.seq ?_
          refine WP.region ?_
          refine WO.assign rfl rfl ?_
          refine WO.nil ?_
          refine thnN ?_
          refine WP.ret ?_
          refine thnR ?_
          refine ⟨_, _, (Res.one rfl), (Imp.refl _), ?_⟩
          refine ⟨?_, rfl⟩
          first | (rw [ref_none (hl.trans (numLoop_bad (by omega) (by omega) (by omega)))]; done) | (rw [ref_some (hl.trans (numLoop_end (by omega)))]; simp_all; done)
        · try simp only [decide_eq_true_eq, decide_eq_false_iff_not, beq_iff_eq, beq_eq_false_iff_ne, bne_iff_ne, bne_eq_false_iff_eq, Bool.not_eq_true', Bool.not_eq_false', Int.not_lt, Int.not_le, ne_eq] at h16
          refine WP.skip ?_
          refine thnN ?_
          refine WP.seq ?_
          refine WP.region ?_
          refine WO.move rfl rfl ?_
          refine WO.assign rfl rfl ?_
          refine WO.nil ?_
          refine thnN ?_
          refine WP.ret ?_
          refine ⟨_, _, (Res.one rfl), (Imp.refl _), ?_⟩
          refine ⟨?_, rfl⟩
          first | (rw [ref_none (hl.trans (numLoop_bad (by omega) (by omega) (by omega)))]; done) | (rw [ref_some (hl.trans (numLoop_end (by omega)))]; simp_all; done)

theorem s_w08_awake {G : Foot} (hG : GlobOK G) : CallsS P 5 [] [G] (fun v L => (v = .bool true) ∧ L = [G]) := by
  refine CallsS.intro Tryz.func5 rfl rfl rfl rfl ?_
  refine WP.seq ?_
  refine WP.region ?_
  refine WO.assign rfl rfl ?_
  refine WO.nil ?_
  refine thnN ?_
  refine WP.seq ?_
  refine WP.region ?_
  first | refine WO.callR 0 rfl (s_files_Number hG _ _ ?_ ?_) rfl ca_14 rfl ?_ | refine WO.callR 1 rfl (s_files_Number hG _ _ ?_ ?_) rfl ca_14 rfl ?_ | refine WO.callR 2 rfl (s_files_Number hG _ _ ?_ ?_) rfl ca_14 rfl ?_ | refine WO.callR 3 rfl (s_files_Number hG _ _ ?_ ?_) rfl ca_14 rfl ?_
  · first | assumption | omega | decide
  · first | assumption | omega | decide
  rintro _ rfl
  refine WO.move rfl rfl ?_
  refine WO.extract rfl rfl rfl ?_
  refine WO.extract rfl rfl rfl ?_
  refine WO.assign rfl rfl ?_
  refine WO.assign rfl rfl ?_
  refine WO.nil ?_
  refine thnN ?_
  refine WP.seq ?_
  refine WP.region ?_
  first | refine WO.callR 0 rfl (s_files_Name hG _ _ ?_) rfl ca_15 rfl ?_ | refine WO.callR 1 rfl (s_files_Name hG _ _ ?_) rfl ca_15 rfl ?_ | refine WO.callR 2 rfl (s_files_Name hG _ _ ?_) rfl ca_15 rfl ?_ | refine WO.callR 3 rfl (s_files_Name hG _ _ ?_) rfl ca_15 rfl ?_
  · first | assumption | omega | decide
  rintro _ rfl
  refine WO.eqlS rfl rfl rfl ?_
  refine WO.move rfl rfl ?_
  refine WO.split 9 rfl (fun h1 => ?_) (fun h2 => ?_)
  · try simp only [decide_eq_true_eq, decide_eq_false_iff_not, beq_iff_eq, beq_eq_false_iff_ne, bne_iff_ne, bne_eq_false_iff_eq, Bool.not_eq_true', Bool.not_eq_false', Int.not_lt, Int.not_le, ne_eq] at h1
    refine WO.want 9 rfl rfl ?_
    refine WO.move rfl rfl ?_
    refine WO.pickT rfl rfl rfl ?_
    refine WO.move rfl rfl ?_
    refine WO.split 12 rfl (fun h3 => ?_) (fun h4 => ?_)
    · try simp only [decide_eq_true_eq, decide_eq_false_iff_not, beq_iff_eq, beq_eq_false_iff_ne, bne_iff_ne, bne_eq_false_iff_eq, Bool.not_eq_true', Bool.not_eq_false', Int.not_lt, Int.not_le, ne_eq] at h3
      refine WO.want 12 rfl rfl ?_
      refine WO.move rfl rfl ?_
      refine WO.want 12 rfl rfl ?_
      refine WO.eqlI rfl rfl rfl ?_
      refine WO.pickT rfl rfl rfl ?_
      refine WO.assign rfl rfl ?_
      refine WO.nil ?_
      refine thnN ?_
      refine WP.ret ?_
      refine ⟨_, _, (Res.one rfl), (Imp.refl _), ?_⟩
      refine ⟨?_, rfl⟩
      have a1 : nameF [108, 111, 103] 12 = [108, 111, 103, 46, 49, 50] := by simp [nameF, rightW, isLow, itoa, Lib.decDigits]
      have a2 : numberF [108, 111, 103] [108, 111, 103, 46, 49, 50] = some 12 := numberF_some.2 ⟨a1, by simp⟩
      first | (simp_all; done) | (exfalso; simp_all; done)
    · try simp only [decide_eq_true_eq, decide_eq_false_iff_not, beq_iff_eq, beq_eq_false_iff_ne, bne_iff_ne, bne_eq_false_iff_eq, Bool.not_eq_true', Bool.not_eq_false', Int.not_lt, Int.not_le, ne_eq] at h4
      refine WO.pass 12 rfl rfl rfl rfl ?_
      refine WO.pass 12 rfl rfl rfl rfl ?_
      refine WO.pickF rfl rfl rfl ?_
      refine WO.assign rfl rfl ?_
      refine WO.nil ?_
      refine thnN ?_
      refine WP.ret ?_
      refine ⟨_, _, (Res.one rfl), (Imp.refl _), ?_⟩
      refine ⟨?_, rfl⟩
      have a1 : nameF [108, 111, 103] 12 = [108, 111, 103, 46, 49, 50] := by simp [nameF, rightW, isLow, itoa, Lib.decDigits]
      have a2 : numberF [108, 111, 103] [108, 111, 103, 46, 49, 50] = some 12 := numberF_some.2 ⟨a1, by simp⟩
      first | (simp_all; done) | (exfalso; simp_all; done)
  · try simp only [decide_eq_true_eq, decide_eq_false_iff_not, beq_iff_eq, beq_eq_false_iff_ne, bne_iff_ne, bne_eq_false_iff_eq, Bool.not_eq_true', Bool.not_eq_false', Int.not_lt, Int.not_le, ne_eq] at h2
    refine WO.pass 9 rfl rfl rfl rfl ?_
    refine WO.pickF rfl rfl rfl ?_
    refine WO.move rfl rfl ?_
    refine WO.pass 12 rfl rfl rfl rfl ?_
    refine WO.pass 12 rfl rfl rfl rfl ?_
    refine WO.pickF rfl rfl rfl ?_
    refine WO.assign rfl rfl ?_
    refine WO.nil ?_
    refine thnN ?_
    refine WP.ret ?_
    refine ⟨_, _, (Res.one rfl), (Imp.refl _), ?_⟩
    refine ⟨?_, rfl⟩
    have a1 : nameF [108, 111, 103] 12 = [108, 111, 103, 46, 49, 50] := by simp [nameF, rightW, isLow, itoa, Lib.decDigits]
    have a2 : numberF [108, 111, 103] [108, 111, 103, 46, 49, 50] = some 12 := numberF_some.2 ⟨a1, by simp⟩
    first | (simp_all; done) | (exfalso; simp_all; done)

theorem s_NamesNil : CallsS P 13 [.pointer none] [] (fun v L => v = .slice none 0 0 ∧ L = []) := by
  refine CallsS.intro Tryz.func13 rfl rfl rfl rfl ?_
  refine WP.seq ?_
  refine WP.region ?_
  refine WO.assign rfl rfl ?_
  refine WO.nil ?_
  refine thnN ?_
  refine WP.seq ?_
  refine WP.seq ?_
  refine WP.region ?_
  refine WO.move rfl rfl ?_
  refine WO.eqlP rfl rfl ptr_29 rfl ?_
  refine WO.nil ?_
  refine thnN ?_
  refine WP.condT rfl ?_
  refine WP.seq ?_
  refine WP.region ?_
  refine WO.assign rfl rfl ?_
  refine WO.nil ?_
  refine thnN ?_
  refine WP.ret ?_
  refine thnR ?_
  refine ⟨_, _, (Res.one rfl), (Imp.refl _), ?_⟩
  exact ⟨rfl, rfl⟩

theorem s_AllNil (w : List UInt8) : CallsS P 6 [.pointer none, str w] [] (fun v L => v = .slice none 0 0 ∧ L = []) := by
  refine CallsS.intro Tryz.func6 rfl rfl rfl rfl ?_
  refine WP.seq ?_
  refine WP.region ?_
  refine WO.assign rfl rfl ?_
  refine WO.nil ?_
  refine thnN ?_
  refine WP.seq ?_
  refine WP.region ?_
  refine WO.assign rfl rfl ?_
  refine WO.nil ?_
  refine thnN ?_
  refine WP.seq ?_
  refine WP.seq ?_
  refine WP.region ?_
  refine WO.move rfl rfl ?_
  refine WO.callP (s_NamesNil) rfl ca_13 rfl ?_
  refine WO.lenL rfl un_28 rfl ?_
  refine WO.move rfl rfl ?_
  refine WO.nil ?_
  refine thnN ?_
  refine WP.block ?_
  refine WP.loop1 (fun (_u : Unit) => [(5, .slice none 0 0), (12, .int .i64 0), (13, .int .i64 0)]) (fun (_u : Unit) => []) (fun (_u : Unit) => True) (fun (_u : Unit) => 0) ⟨(), ⟨rfl, rfl, rfl, trivial⟩, rfl, ?_⟩ ?_
  · trivial
  · intro _u hI
    refine WP.seq ?_
    refine WP.region ?_
    refine WO.lssI rfl rfl rfl ?_
    refine WO.nil ?_
    refine thnN ?_
    refine WP.seq ?_
    refine WP.condF rfl ?_
    refine WP.exit ?_
    refine thnE ?_
    refine thnE ?_
    refine blkHit ?_
    refine thnN ?_
    refine WP.seq ?_
    refine WP.region ?_
    refine WO.move rfl rfl ?_
    refine WO.callP (s_SortNil) rfl ca_16 rfl ?_
    refine WO.nil ?_
    refine thnN ?_
    refine WP.seq ?_
    refine WP.region ?_
    refine WO.move rfl rfl ?_
    refine WO.assign rfl rfl ?_
    refine WO.nil ?_
    refine thnN ?_
    refine WP.ret ?_
    refine ⟨_, _, (Res.one rfl), (Imp.refl _), ?_⟩
    exact ⟨rfl, rfl⟩

theorem s_LastNil (w : List UInt8) : CallsS P 7 [.pointer none, str w] [] (fun v L => v = .int .i64 0 ∧ L = []) := by
  refine CallsS.intro Tryz.func7 rfl rfl rfl rfl ?_
  refine WP.seq ?_
  refine WP.region ?_
  refine WO.assign rfl rfl ?_
  refine WO.nil ?_
  refine thnN ?_
  refine WP.seq ?_
  refine WP.region ?_
  refine WO.move rfl rfl ?_
  refine WO.move rfl rfl ?_
  refine WO.callP (s_AllNil _) rfl ca_6 rfl ?_
  refine WO.assign rfl rfl ?_
  refine WO.nil ?_
  refine thnN ?_
  refine WP.seq ?_
  refine WP.seq ?_
  refine WP.region ?_
  refine WO.move rfl rfl ?_
  refine WO.lenL rfl un_23 rfl ?_
  refine WO.eqlI rfl rfl rfl ?_
  refine WO.nil ?_
  refine thnN ?_
  refine WP.condT rfl ?_
  refine WP.seq ?_
  refine WP.region ?_
  refine WO.assign rfl rfl ?_
  refine WO.nil ?_
  refine thnN ?_
  refine WP.ret ?_
  refine thnR ?_
  refine ⟨_, _, (Res.one rfl), (Imp.refl _), ?_⟩
  exact ⟨rfl, rfl⟩

theorem s_SizeNil (w : List UInt8) : CallsS P 8 [.pointer none, str w] [] (fun v L => v = .int .i64 0 ∧ L = []) := by
  refine CallsS.intro Tryz.func8 rfl rfl rfl rfl ?_
  refine WP.seq ?_
  refine WP.region ?_
  refine WO.assign rfl rfl ?_
  refine WO.nil ?_
  refine thnN ?_
  refine WP.seq ?_
  refine WP.region ?_
  refine WO.assign rfl rfl ?_
  refine WO.nil ?_
  refine thnN ?_
  refine WP.seq ?_
  refine WP.seq ?_
  refine WP.region ?_
  refine WO.move rfl rfl ?_
  refine WO.move rfl rfl ?_
  refine WO.callP (s_AllNil _) rfl ca_6 rfl ?_
  refine WO.lenL rfl un_23 rfl ?_
  refine WO.move rfl rfl ?_
  refine WO.nil ?_
  refine thnN ?_
  refine WP.block ?_
  refine WP.loop1 (fun (_u : Unit) => [(5, .int .i64 0), (13, .int .i64 0), (14, .int .i64 0)]) (fun (_u : Unit) => []) (fun (_u : Unit) => True) (fun (_u : Unit) => 0) ⟨(), ⟨rfl, rfl, rfl, trivial⟩, rfl, ?_⟩ ?_
  · trivial
  · intro _u hI
    refine WP.seq ?_
    refine WP.region ?_
    refine WO.lssI rfl rfl rfl ?_
    refine WO.nil ?_
    refine thnN ?_
    refine WP.seq ?_
    refine WP.condF rfl ?_
    refine WP.exit ?_
    refine thnE ?_
    refine thnE ?_
    refine blkHit ?_
    refine thnN ?_
    refine WP.seq ?_
    refine WP.region ?_
    refine WO.move rfl rfl ?_
    refine WO.assign rfl rfl ?_
    refine WO.nil ?_
    refine thnN ?_
    refine WP.ret ?_
    refine ⟨_, _, (Res.one rfl), (Imp.refl _), ?_⟩
    exact ⟨rfl, rfl⟩

theorem s_ClearNil (w : List UInt8) (n : Int) : CallsS P 9 [.pointer none, str w, .int .i64 n] [] (fun v L => v = .int .i64 0 ∧ L = []) := by
  refine CallsS.intro Tryz.func9 rfl rfl rfl rfl ?_
  refine WP.seq ?_
  refine WP.region ?_
  refine WO.assign rfl rfl ?_
  refine WO.nil ?_
  refine thnN ?_
  refine WP.seq ?_
  refine WP.region ?_
  refine WO.assign rfl rfl ?_
  refine WO.nil ?_
  refine thnN ?_
  refine WP.seq ?_
  refine WP.seq ?_
  refine WP.region ?_
  refine WO.move rfl rfl ?_
  refine WO.move rfl rfl ?_
  refine WO.callP (s_AllNil _) rfl ca_6 rfl ?_
  refine WO.lenL rfl un_23 rfl ?_
  refine WO.move rfl rfl ?_
  refine WO.nil ?_
  refine thnN ?_
  refine WP.block ?_
  refine WP.loop1 (fun (_u : Unit) => [(7, .int .i64 0), (13, .int .i64 0), (14, .int .i64 0)]) (fun (_u : Unit) => []) (fun (_u : Unit) => True) (fun (_u : Unit) => 0) ⟨(), ⟨rfl, rfl, rfl, trivial⟩, rfl, ?_⟩ ?_
  · trivial
  · intro _u hI
    refine WP.seq ?_
    refine WP.region ?_
    refine WO.lssI rfl rfl rfl ?_
    refine WO.nil ?_
    refine thnN ?_
    refine WP.seq ?_
    refine WP.condF rfl ?_
    refine WP.exit ?_
    refine thnE ?_
    refine thnE ?_
    refine blkHit ?_
    refine thnN ?_
    refine WP.seq ?_
    refine WP.region ?_
    refine WO.move rfl rfl ?_
    refine WO.assign rfl rfl ?_
    refine WO.nil ?_
    refine thnN ?_
    refine WP.ret ?_
    refine ⟨_, _, (Res.one rfl), (Imp.refl _), ?_⟩
    exact ⟨rfl, rfl⟩

theorem s_w08_FilesNobody {G : Foot} (hG : GlobOK G) (w : List UInt8) (n : Int) : CallsS P 3 [str w, .int .i64 n] [G] (fun v L => (v = .bool true) ∧ L = [G]) := by
  refine CallsS.intro Tryz.func3 rfl rfl rfl rfl ?_
  refine WP.seq ?_
  refine WP.region ?_
  refine WO.assign rfl rfl ?_
  refine WO.nil ?_
  refine thnN ?_
  refine WP.seq ?_
  refine WP.seq ?_
  refine WP.region ?_
  first | refine WO.callR 0 rfl (s_w08_awake hG) rfl ca_5 rfl ?_ | refine WO.callR 1 rfl (s_w08_awake hG) rfl ca_5 rfl ?_ | refine WO.callR 2 rfl (s_w08_awake hG) rfl ca_5 rfl ?_ | refine WO.callR 3 rfl (s_w08_awake hG) rfl ca_5 rfl ?_
  rintro _ rfl
  refine WO.not rfl rfl ?_
  refine WO.nil ?_
  refine thnN ?_
  refine WP.cond rfl (fun h1 => ?_) (fun h2 => ?_)
  · try simp only [decide_eq_true_eq, decide_eq_false_iff_not, beq_iff_eq, beq_eq_false_iff_ne, bne_iff_ne, bne_eq_false_iff_eq, Bool.not_eq_true', Bool.not_eq_false', Int.not_lt, Int.not_le, ne_eq] at h1
    refine WP.seq ?_
    refine WP.region ?_
    refine WO.assign rfl rfl ?_
    refine WO.nil ?_
    refine thnN ?_
    refine WP.ret ?_
    refine thnR ?_
    refine ⟨_, _, (Res.one rfl), (Imp.refl _), ?_⟩
    refine ⟨?_, rfl⟩
    first | rfl | (exfalso; simp_all; done)
  · try simp only [decide_eq_true_eq, decide_eq_false_iff_not, beq_iff_eq, beq_eq_false_iff_ne, bne_iff_ne, bne_eq_false_iff_eq, Bool.not_eq_true', Bool.not_eq_false', Int.not_lt, Int.not_le, ne_eq] at h2
    refine WP.skip ?_
    refine thnN ?_
    refine WP.seq ?_
    refine WP.seq ?_
    refine WP.region ?_
    refine WO.move rfl rfl ?_
    refine WO.lenS rfl un_9 rfl ?_
    refine WO.gtrI rfl rfl rfl ?_
    refine WO.nil ?_
    refine thnN ?_
    refine WP.cond rfl (fun h3 => ?_) (fun h4 => ?_)
    · try simp only [decide_eq_true_eq, decide_eq_false_iff_not, beq_iff_eq, beq_eq_false_iff_ne, bne_iff_ne, bne_eq_false_iff_eq, Bool.not_eq_true', Bool.not_eq_false', Int.not_lt, Int.not_le, ne_eq] at h3
      refine WP.seq ?_
      refine WP.region ?_
      refine WO.assign rfl rfl ?_
      refine WO.nil ?_
      refine thnN ?_
      refine WP.ret ?_
      refine thnR ?_
      refine ⟨_, _, (Res.one rfl), (Imp.refl _), ?_⟩
      refine ⟨?_, rfl⟩
      first | rfl | (exfalso; simp_all; done)
    · try simp only [decide_eq_true_eq, decide_eq_false_iff_not, beq_iff_eq, beq_eq_false_iff_ne, bne_iff_ne, bne_eq_false_iff_eq, Bool.not_eq_true', Bool.not_eq_false', Int.not_lt, Int.not_le, ne_eq] at h4
      refine WP.skip ?_
      refine thnN ?_
      refine WP.seq ?_
      refine WP.region ?_
      refine WO.move rfl rfl ?_
      refine WO.callP (s_AllNil _) rfl ca_6 rfl ?_
      refine WO.lenL rfl un_23 rfl ?_
      refine WO.eqlI rfl rfl rfl ?_
      refine WO.move rfl rfl ?_
      refine WO.split 14 rfl (fun h5 => ?_) (fun h6 => ?_)
      · try simp only [decide_eq_true_eq, decide_eq_false_iff_not, beq_iff_eq, beq_eq_false_iff_ne, bne_iff_ne, bne_eq_false_iff_eq, Bool.not_eq_true', Bool.not_eq_false', Int.not_lt, Int.not_le, ne_eq] at h5
        refine WO.want 14 rfl rfl ?_
        refine WO.move rfl rfl ?_
        refine WO.want 14 rfl rfl ?_
        refine WO.callP (s_LastNil _) rfl ca_7 rfl ?_
        refine WO.want 14 rfl rfl ?_
        refine WO.eqlI rfl rfl rfl ?_
        refine WO.pickT rfl rfl rfl ?_
        refine WO.move rfl rfl ?_
        refine WO.split 19 rfl (fun h7 => ?_) (fun h8 => ?_)
        · try simp only [decide_eq_true_eq, decide_eq_false_iff_not, beq_iff_eq, beq_eq_false_iff_ne, bne_iff_ne, bne_eq_false_iff_eq, Bool.not_eq_true', Bool.not_eq_false', Int.not_lt, Int.not_le, ne_eq] at h7
          refine WO.want 19 rfl rfl ?_
          refine WO.move rfl rfl ?_
          refine WO.want 19 rfl rfl ?_
          refine WO.callP (s_SizeNil _) rfl ca_8 rfl ?_
          refine WO.want 19 rfl rfl ?_
          refine WO.eqlI rfl rfl rfl ?_
          refine WO.pickT rfl rfl rfl ?_
          refine WO.move rfl rfl ?_
          refine WO.split 24 rfl (fun h9 => ?_) (fun h10 => ?_)
          · try simp only [decide_eq_true_eq, decide_eq_false_iff_not, beq_iff_eq, beq_eq_false_iff_ne, bne_iff_ne, bne_eq_false_iff_eq, Bool.not_eq_true', Bool.not_eq_false', Int.not_lt, Int.not_le, ne_eq] at h9
            refine WO.want 24 rfl rfl ?_
            refine WO.move rfl rfl ?_
            refine WO.want 24 rfl rfl ?_
            refine WO.move rfl rfl ?_
            refine WO.want 24 rfl rfl ?_
            refine WO.callP (s_ClearNil _ _) rfl ca_9 rfl ?_
            refine WO.want 24 rfl rfl ?_
            refine WO.eqlI rfl rfl rfl ?_
            refine WO.pickT rfl rfl rfl ?_
            refine WO.assign rfl rfl ?_
            refine WO.nil ?_
            refine thnN ?_
            refine WP.ret ?_
            refine ⟨_, _, (Res.one rfl), (Imp.refl _), ?_⟩
            refine ⟨?_, rfl⟩
            first | rfl | (exfalso; simp_all; done)
          · try simp only [decide_eq_true_eq, decide_eq_false_iff_not, beq_iff_eq, beq_eq_false_iff_ne, bne_iff_ne, bne_eq_false_iff_eq, Bool.not_eq_true', Bool.not_eq_false', Int.not_lt, Int.not_le, ne_eq] at h10
            refine WO.pass 24 rfl rfl rfl rfl ?_
            refine WO.pass 24 rfl rfl rfl rfl ?_
            refine WO.pass 24 rfl rfl rfl rfl ?_
            refine WO.pass 24 rfl rfl rfl rfl ?_
            refine WO.pickF rfl rfl rfl ?_
            refine WO.assign rfl rfl ?_
            refine WO.nil ?_
            refine thnN ?_
            refine WP.ret ?_
            refine ⟨_, _, (Res.one rfl), (Imp.refl _), ?_⟩
            refine ⟨?_, rfl⟩
            first | rfl | (exfalso; simp_all; done)
        · try simp only [decide_eq_true_eq, decide_eq_false_iff_not, beq_iff_eq, beq_eq_false_iff_ne, bne_iff_ne, bne_eq_false_iff_eq, Bool.not_eq_true', Bool.not_eq_false', Int.not_lt, Int.not_le, ne_eq] at h8
          refine WO.pass 19 rfl rfl rfl rfl ?_
          refine WO.pass 19 rfl rfl rfl rfl ?_
          refine WO.pass 19 rfl rfl rfl rfl ?_
          refine WO.pickF rfl rfl rfl ?_
          refine WO.move rfl rfl ?_
          refine WO.pass 24 rfl rfl rfl rfl ?_
          refine WO.pass 24 rfl rfl rfl rfl ?_
          refine WO.pass 24 rfl rfl rfl rfl ?_
          refine WO.pass 24 rfl rfl rfl rfl ?_
          refine WO.pickF rfl rfl rfl ?_
          refine WO.assign rfl rfl ?_
          refine WO.nil ?_
          refine thnN ?_
          refine WP.ret ?_
          refine ⟨_, _, (Res.one rfl), (Imp.refl _), ?_⟩
          refine ⟨?_, rfl⟩
          first | rfl | (exfalso; simp_all; done)
      · try simp only [decide_eq_true_eq, decide_eq_false_iff_not, beq_iff_eq, beq_eq_false_iff_ne, bne_iff_ne, bne_eq_false_iff_eq, Bool.not_eq_true', Bool.not_eq_false', Int.not_lt, Int.not_le, ne_eq] at h6
        refine WO.pass 14 rfl rfl rfl rfl ?_
        refine WO.pass 14 rfl rfl rfl rfl ?_
        refine WO.pass 14 rfl rfl rfl rfl ?_
        refine WO.pickF rfl rfl rfl ?_
        refine WO.move rfl rfl ?_
        refine WO.pass 19 rfl rfl rfl rfl ?_
        refine WO.pass 19 rfl rfl rfl rfl ?_
        refine WO.pass 19 rfl rfl rfl rfl ?_
        refine WO.pickF rfl rfl rfl ?_
        refine WO.move rfl rfl ?_
        refine WO.pass 24 rfl rfl rfl rfl ?_
        refine WO.pass 24 rfl rfl rfl rfl ?_
        refine WO.pass 24 rfl rfl rfl rfl ?_
        refine WO.pass 24 rfl rfl rfl rfl ?_
        refine WO.pickF rfl rfl rfl ?_
        refine WO.assign rfl rfl ?_
        refine WO.nil ?_
        refine thnN ?_
        refine WP.ret ?_
        refine ⟨_, _, (Res.one rfl), (Imp.refl _), ?_⟩
        refine ⟨?_, rfl⟩
        first | rfl | (exfalso; simp_all; done)

end Go.Proofs.YtnogaigenffcaaaGreatDoor
