/- Walks: what functions of the program answer, over the logic of footprints. Written by wip/tools/gen.py out of a spec of this session's. -/
import Derived.Test.YtpaipfceibcbkaaDoorW5
set_option linter.unusedVariables false
set_option linter.unusedSimpArgs false
set_option maxRecDepth 100000
namespace Go.Proofs.YtpaipfceibcbkaaDoor
open Go.SL Go.Proofs.YtpaipfceibcbkaaDoor
open Go.Law05

theorem s_canon_parts {G : Foot} (hG : GlobOK G) (s : List UInt8) (hy0 : s.length ≤ 60) : CallsS P 45 [str s] [G] (fun v L => ∃ (ok : Bool) (vo : Value) (Fo : Foot) (l : List (List UInt8)), v = .tuple #[vo, .bool ok] ∧ L = [Fo, G] ∧ OwnSl 9 1 vo l.length (l.map str) Fo ∧ partsGo [] (cutS [] s) = (if ok = true then some l else none)) := by
  have hlen := getD_len (m := 60) fun p hp => Nat.le_trans (cutS_len s [] p hp) (by simpa using hy0)
  have hcnt := cutS_count s []
  refine CallsS.intro Tryd.func45 rfl rfl rfl rfl ?_
  refine WP.seq ?_
  refine WP.region ?_
  refine WO.assign rfl rfl ?_
  refine WO.assign rfl rfl ?_
  refine WO.nil ?_
  refine thnN ?_
  refine WP.seq ?_
  refine WP.region ?_
  refine WO.assign rfl rfl ?_
  refine WO.nil ?_
  refine thnN ?_
  refine WP.seq ?_
  refine WP.seq ?_
  refine WP.region ?_
  refine WO.move rfl rfl ?_
  refine WO.call (s_Split hG s ?_) rfl ca_55 rfl rfl ?_
  · omega
  rintro _ _ ⟨lb, rfl, rfl⟩
  refine WO.lenL rfl un_76 rfl ?_
  refine WO.move rfl rfl ?_
  refine WO.nil ?_
  refine thnN ?_
  refine WP.block ?_
  refine WP.imp ((Imp.flat rfl : Imp _ [[], [(lb, .cells ((cutS [] s).map str).toArray 9 (0, 0))], G])) ?_
  refine WP.loop4 (fun (k : Nat) (out : List (List UInt8)) (vo : Value) (Fo : Foot) => [(4, vo), (10, .slice (some ⟨lb, 0, none⟩) (cutS [] s).length (cutS [] s).length), (11, .int .i64 ((cutS [] s).length)), (12, .int .i64 (k))]) (fun (k : Nat) (out : List (List UInt8)) (vo : Value) (Fo : Foot) => [Fo, [(lb, .cells ((cutS [] s).map str).toArray 9 (0, 0))], G]) (fun (k : Nat) (out : List (List UInt8)) (vo : Value) (Fo : Foot) => OwnSl 9 1 vo out.length (out.map str) Fo ∧ k ≤ (cutS [] s).length ∧ partsGo [] (cutS [] s) = partsGo out ((cutS [] s).drop k) ∧ out.length ≤ k) (fun (k : Nat) (out : List (List UInt8)) (vo : Value) (Fo : Foot) => (cutS [] s).length - k) ⟨0, [], _, [], ⟨rfl, rfl, rfl, rfl, trivial⟩, rfl, ?_⟩ ?_
  · exact ⟨OwnSl.nil _ _, Nat.zero_le _, by simp, Nat.le_refl _⟩
  · intro k out vo Fo hI
    obtain ⟨hO, hk, hp, hok⟩ := hI
    obtain ⟨A, c, rfl⟩ := hO.slice
    have hcap := hO.cap
    refine WP.seq ?_
    refine WP.region ?_
    refine WO.lssI rfl rfl rfl ?_
    refine WO.nil ?_
    refine thnN ?_
    refine WP.seq ?_
    refine WP.condL 13 rfl (fun h1 => ?_) (fun h2 => ?_)
    · try simp only [decide_eq_true_eq, decide_eq_false_iff_not, beq_iff_eq, beq_eq_false_iff_ne, bne_iff_ne, bne_eq_false_iff_eq, Bool.not_eq_true', Bool.not_eq_false', Int.not_lt, Int.not_le, ne_eq] at h1
      refine WP.skip ?_
      refine thnN ?_
      refine WP.seq ?_
      refine WP.block ?_
      refine WP.seq ?_
      refine WP.region ?_
      refine WO.indexAddr rfl rfl sl_76 (by first | assumption | exact RdSl.lit in0 rfl | exact RdSl.lit in1 (by simp)) (by omega) (by decide) rfl (fun ib0 io0 ics0 iT0 ifz0 im0 ie0 il0 => ?_)
      refine WO.load (v := str ((cutS [] s).getD k [])) rfl sc_9 im0 (strElem ie0 (by omega)) rfl ?_
      refine WO.assign rfl rfl ?_
      refine WO.nil ?_
      refine thnN ?_
      refine WP.seq ?_
      refine WP.region ?_
      refine WO.move rfl rfl ?_
      refine WO.callP (s_canon_read ((cutS [] s).getD k []) ?_) rfl ca_56 rfl ?_
      · exact Nat.le_trans (hlen k) (by decide)
      refine WO.move rfl rfl ?_
      refine WO.extract rfl rfl rfl ?_
      refine WO.extract rfl rfl rfl ?_
      refine WO.assign rfl rfl ?_
      refine WO.assign rfl rfl ?_
      refine WO.nil ?_
      refine thnN ?_
      refine WP.seq ?_
      refine WP.seq ?_
      refine WP.region ?_
      refine WO.move rfl rfl ?_
      refine WO.not rfl rfl ?_
      refine WO.nil ?_
      refine thnN ?_
      refine WP.condL 22 rfl (fun h3 => ?_) (fun h4 => ?_)
      · try simp only [decide_eq_true_eq, decide_eq_false_iff_not, beq_iff_eq, beq_eq_false_iff_ne, bne_iff_ne, bne_eq_false_iff_eq, Bool.not_eq_true', Bool.not_eq_false', Int.not_lt, Int.not_le, ne_eq] at h3
        refine WP.seq ?_
        refine WP.region ?_
        refine WO.assign rfl rfl ?_
        refine WO.assign rfl rfl ?_
        refine WO.nil ?_
        refine thnN ?_
        refine WP.ret ?_
        refine thnR ?_
        refine blkR ?_
        refine thnR ?_
        refine thnR ?_
        refine blkR ?_
        refine thnR ?_
        refine ⟨_, [[], G], (Res.two rfl rfl), (Imp.trans (Imp.pick 2 rfl) (Imp.flat rfl)), ?_⟩
        refine ⟨false, _, [], [], rfl, rfl, OwnSl.nil _ _, ?_⟩
        rw [hp, drop_getD [] (by omega)]
        exact parts_notOk (by assumption)
      · try simp only [decide_eq_true_eq, decide_eq_false_iff_not, beq_iff_eq, beq_eq_false_iff_ne, bne_iff_ne, bne_eq_false_iff_eq, Bool.not_eq_true', Bool.not_eq_false', Int.not_lt, Int.not_le, ne_eq] at h4
        obtain ⟨q, hq, hq2⟩ := okR_true (by assumption)
        rw [hq, Option.getD_some]
        refine WP.skip ?_
        refine thnN ?_
        refine WP.seq ?_
        refine WP.region ?_
        refine WO.move rfl rfl ?_
        refine WO.nil ?_
        refine thnN ?_
        refine WP.block ?_
        refine WP.seq ?_
        refine WP.seq ?_
        refine WP.region ?_
        refine WO.eqlS rfl rfl rfl ?_
        refine WO.assign rfl rfl ?_
        refine WO.nil ?_
        refine thnN ?_
        refine WP.condL 28 rfl (fun h5 => ?_) (fun h6 => ?_)
        · try simp only [decide_eq_true_eq, decide_eq_false_iff_not, beq_iff_eq, beq_eq_false_iff_ne, bne_iff_ne, bne_eq_false_iff_eq, Bool.not_eq_true', Bool.not_eq_false', Int.not_lt, Int.not_le, ne_eq] at h5
          refine WP.skip ?_
          refine thnN ?_
          refine WP.condT rfl ?_
          refine WP.skip ?_
          refine blkN ?_
          refine blkN ?_
          refine thnN ?_
          refine WP.region ?_
          refine WO.add rfl rfl (by first | exact wrap_i64 (by omega) (by omega) | rfl) rfl ?_
          refine WO.move rfl rfl ?_
          refine WO.nil ?_
          refine thnN ?_
          refine ⟨k + 1, out, _, Fo, ⟨rfl, rfl, rfl, rfl, trivial⟩, rfl, ?_, ?_⟩
          · exact ⟨hO, by omega, by rw [hp, drop_getD [] (by omega)]; exact parts_skip hq hq2 (.inl (by assumption)), by omega⟩
          · omega
        · try simp only [decide_eq_true_eq, decide_eq_false_iff_not, beq_iff_eq, beq_eq_false_iff_ne, bne_iff_ne, bne_eq_false_iff_eq, Bool.not_eq_true', Bool.not_eq_false', Int.not_lt, Int.not_le, ne_eq] at h6
          refine WP.region ?_
          refine WO.eqlS rfl rfl rfl ?_
          refine WO.assign rfl rfl ?_
          refine WO.nil ?_
          refine thnN ?_
          refine WP.condL 28 rfl (fun h7 => ?_) (fun h8 => ?_)
          · try simp only [decide_eq_true_eq, decide_eq_false_iff_not, beq_iff_eq, beq_eq_false_iff_ne, bne_iff_ne, bne_eq_false_iff_eq, Bool.not_eq_true', Bool.not_eq_false', Int.not_lt, Int.not_le, ne_eq] at h7
            refine WP.skip ?_
            refine blkN ?_
            refine blkN ?_
            refine thnN ?_
            refine WP.region ?_
            refine WO.add rfl rfl (by first | exact wrap_i64 (by omega) (by omega) | rfl) rfl ?_
            refine WO.move rfl rfl ?_
            refine WO.nil ?_
            refine thnN ?_
            refine ⟨k + 1, out, _, Fo, ⟨rfl, rfl, rfl, rfl, trivial⟩, rfl, ?_, ?_⟩
            · exact ⟨hO, by omega, by rw [hp, drop_getD [] (by omega)]; exact parts_skip hq hq2 (.inr (by assumption)), by omega⟩
            · omega
          · try simp only [decide_eq_true_eq, decide_eq_false_iff_not, beq_iff_eq, beq_eq_false_iff_ne, bne_iff_ne, bne_eq_false_iff_eq, Bool.not_eq_true', Bool.not_eq_false', Int.not_lt, Int.not_le, ne_eq] at h8
            refine WP.seq ?_
            refine WP.region ?_
            refine WO.eqlS rfl rfl rfl ?_
            refine WO.assign rfl rfl ?_
            refine WO.nil ?_
            refine thnN ?_
            refine WP.condL 31 rfl (fun h9 => ?_) (fun h10 => ?_)
            · try simp only [decide_eq_true_eq, decide_eq_false_iff_not, beq_iff_eq, beq_eq_false_iff_ne, bne_iff_ne, bne_eq_false_iff_eq, Bool.not_eq_true', Bool.not_eq_false', Int.not_lt, Int.not_le, ne_eq] at h9
              refine WP.seq ?_
              refine WP.seq ?_
              refine WP.region ?_
              refine WO.move rfl rfl ?_
              refine WO.lenL rfl un_76 rfl ?_
              refine WO.eqlI rfl rfl rfl ?_
              refine WO.nil ?_
              refine thnN ?_
              refine WP.condL 35 rfl (fun h11 => ?_) (fun h12 => ?_)
              · try simp only [decide_eq_true_eq, decide_eq_false_iff_not, beq_iff_eq, beq_eq_false_iff_ne, bne_iff_ne, bne_eq_false_iff_eq, Bool.not_eq_true', Bool.not_eq_false', Int.not_lt, Int.not_le, ne_eq] at h11
                refine WP.seq ?_
                refine WP.region ?_
                refine WO.assign rfl rfl ?_
                refine WO.assign rfl rfl ?_
                refine WO.nil ?_
                refine thnN ?_
                refine WP.ret ?_
                refine thnR ?_
                refine blkR ?_
                refine blkR ?_
                refine thnR ?_
                refine thnR ?_
                refine blkR ?_
                refine thnR ?_
                refine ⟨_, [[], G], (Res.two rfl rfl), (Imp.trans (Imp.pick 2 rfl) (Imp.flat rfl)), ?_⟩
                refine ⟨false, _, [], [], rfl, rfl, OwnSl.nil _ _, ?_⟩
                have ho : out = [] := List.eq_nil_of_length_eq_zero (by omega)
                subst ho
                rw [hp, drop_getD [] (by omega)]
                exact parts_up0 hq hq2 (by assumption)
              · try simp only [decide_eq_true_eq, decide_eq_false_iff_not, beq_iff_eq, beq_eq_false_iff_ne, bne_iff_ne, bne_eq_false_iff_eq, Bool.not_eq_true', Bool.not_eq_false', Int.not_lt, Int.not_le, ne_eq] at h12
                refine WP.skip ?_
                refine thnN ?_
                refine WP.region ?_
                refine WO.move rfl rfl ?_
                refine WO.move rfl rfl ?_
                refine WO.lenL rfl un_76 rfl ?_
                refine WO.sub' rfl rfl (by first | exact wrap_i64 (by omega) (by omega) | rfl) rfl ?_
                refine WO.sliceH rfl rfl un_76 inf_9 (by omega) (by omega) rfl ?_
                refine WO.assign rfl rfl ?_
                refine WO.nil ?_
                refine blkN ?_
                refine blkN ?_
                refine thnN ?_
                refine WP.region ?_
                refine WO.add rfl rfl (by first | exact wrap_i64 (by omega) (by omega) | rfl) rfl ?_
                refine WO.move rfl rfl ?_
                refine WO.nil ?_
                refine thnN ?_
                refine ⟨k + 1, out.dropLast, _, Fo, ⟨rfl, rfl, rfl, rfl, trivial⟩, rfl, ?_, ?_⟩
                · refine ⟨?_, by omega, by rw [hp, drop_getD [] (by omega)]; exact parts_up hq hq2 (by assumption) (by intro hh; simp_all), by simp; omega⟩
                  have h9 := hO.take (j := ((out.length : Int) - 1).toNat) (by omega)
                  rw [show ((out.length : Int) - 1).toNat = out.dropLast.length by rw [List.length_dropLast]; omega] at h9 ⊢
                  rw [List.dropLast_eq_take, List.map_take]
                  simpa using h9
                · omega
            · try simp only [decide_eq_true_eq, decide_eq_false_iff_not, beq_iff_eq, beq_eq_false_iff_ne, bne_iff_ne, bne_eq_false_iff_eq, Bool.not_eq_true', Bool.not_eq_false', Int.not_lt, Int.not_le, ne_eq] at h10
              refine WP.region ?_
              refine WO.move rfl rfl ?_
              refine WO.move rfl rfl ?_
              refine WO.buildSlice (cs := [_]) rfl sl_76 zo_9 rfl rfl rfl (fun l0 => ?_)
              refine WO.appendL 1 rfl sl_76 ni_76 rfl hO rfl (RdSl.lit in0 rfl) (by simp [Value.oneCell']) (by omega) rfl (fun vk Fk ok => ?_)
              obtain ⟨Ak, ck, rfl⟩ := ok.slice
              refine WO.drop 1 rfl ?_
              refine WO.assign rfl rfl ?_
              refine WO.nil ?_
              refine blkN ?_
              refine blkN ?_
              refine thnN ?_
              refine WP.region ?_
              refine WO.add rfl rfl (by first | exact wrap_i64 (by omega) (by omega) | rfl) rfl ?_
              refine WO.move rfl rfl ?_
              refine WO.nil ?_
              refine thnN ?_
              refine ⟨k + 1, out ++ [q], _, Fk, ⟨rfl, rfl, rfl, rfl, trivial⟩, rfl, ?_, ?_⟩
              · exact ⟨by simpa using ok, by omega, by rw [hp, drop_getD [] (by omega)]; exact parts_add hq hq2 (by assumption) (by assumption) (by assumption), by simp; omega⟩
              · omega
    · try simp only [decide_eq_true_eq, decide_eq_false_iff_not, beq_iff_eq, beq_eq_false_iff_ne, bne_iff_ne, bne_eq_false_iff_eq, Bool.not_eq_true', Bool.not_eq_false', Int.not_lt, Int.not_le, ne_eq] at h2
      refine WP.exit ?_
      refine thnE ?_
      refine thnE ?_
      refine blkHit ?_
      refine thnN ?_
      refine WP.seq ?_
      refine WP.region ?_
      refine WO.move rfl rfl ?_
      refine WO.assign rfl rfl ?_
      refine WO.assign rfl rfl ?_
      refine WO.nil ?_
      refine thnN ?_
      refine WP.ret ?_
      refine ⟨_, [Fo, G], (Res.two rfl rfl), (Imp.drop 1 rfl), ?_⟩
      refine ⟨true, _, Fo, out, rfl, rfl, hO, ?_⟩
      rw [hp, List.drop_eq_nil_of_le (by omega)]; rfl

theorem s_canon_Path {G : Foot} (hG : GlobOK G) (s : List UInt8) : CallsS P 31 [str s] [G] (fun v L => (v = .tuple #[str ((pathF s).getD []), .bool (pathF s).isSome]) ∧ L = [G]) := by
  refine CallsS.intro Tryd.func31 rfl rfl rfl rfl ?_
  refine WP.seq ?_
  refine WP.region ?_
  refine WO.assign rfl rfl ?_
  refine WO.assign rfl rfl ?_
  refine WO.nil ?_
  refine thnN ?_
  refine WP.seq ?_
  refine WP.seq ?_
  refine WP.region ?_
  refine WO.move rfl rfl ?_
  refine WO.eqlS rfl rfl rfl ?_
  refine WO.move rfl rfl ?_
  refine WO.split 11 rfl (fun h1 => ?_) (fun h2 => ?_)
  · try simp only [decide_eq_true_eq, decide_eq_false_iff_not, beq_iff_eq, beq_eq_false_iff_ne, bne_iff_ne, bne_eq_false_iff_eq, Bool.not_eq_true', Bool.not_eq_false', Int.not_lt, Int.not_le, ne_eq] at h1
    refine WO.pass 11 rfl rfl rfl rfl ?_
    refine WO.pass 11 rfl rfl rfl rfl ?_
    refine WO.pass 11 rfl rfl rfl rfl ?_
    refine WO.pickT rfl rfl rfl ?_
    refine WO.move rfl rfl ?_
    refine WO.pass 16 rfl rfl rfl rfl ?_
    refine WO.pass 16 rfl rfl rfl rfl ?_
    refine WO.pass 16 rfl rfl rfl rfl ?_
    refine WO.pickT rfl rfl rfl ?_
    refine WO.nil ?_
    refine thnN ?_
    refine WP.condT rfl ?_
    refine WP.seq ?_
    refine WP.region ?_
    refine WO.assign rfl rfl ?_
    refine WO.assign rfl rfl ?_
    refine WO.nil ?_
    refine thnN ?_
    refine WP.ret ?_
    refine thnR ?_
    refine ⟨_, [G], (Res.two rfl rfl), (by first | exact Imp.refl _ | exact Imp.pick 0 rfl | exact Imp.pick 1 rfl | exact Imp.pick 2 rfl | exact Imp.pick 3 rfl | exact Imp.pick 4 rfl | exact Imp.pick 5 rfl | exact Imp.pick 6 rfl), ?_⟩
    refine ⟨?_, rfl⟩
    first
    | (refine (fun (h0 : pathF s = none) => ?_) ?_
       · rw [h0]; rfl
       · apply pathF_none
         first | (left; assumption) | (right; left; omega) | (right; right; left; apply bt0_ne; assumption) | (right; right; right; rw [hp]; simp_all; done))
    | (have ho2 : o = joinF l := ho.trans (congrArg joinF (List.take_of_length_le (Nat.le_of_not_lt (fun hh => absurd hh (by omega)))))
       subst ho2
       first
       | (refine (fun (e : pathF s = some [47]) => ?_) (path_root ?_ ?_ ?_ hp2 ?_)
          · rw [e]; rfl
          · assumption
          · omega
          · assumption
          · assumption)
       | (refine (fun (e : pathF s = some (joinF l)) => ?_) (path_ok ?_ ?_ ?_ hp2 ?_ ?_)
          · rw [e]; rfl
          · assumption
          · omega
          · assumption
          · assumption
          · omega)
       | (refine (fun (e : pathF s = none) => ?_) (path_long ?_ ?_ ?_ hp2 ?_ ?_)
          · rw [e]; rfl
          · assumption
          · omega
          · assumption
          · assumption
          · omega))
    | (exfalso; simp_all; done)
  · try simp only [decide_eq_true_eq, decide_eq_false_iff_not, beq_iff_eq, beq_eq_false_iff_ne, bne_iff_ne, bne_eq_false_iff_eq, Bool.not_eq_true', Bool.not_eq_false', Int.not_lt, Int.not_le, ne_eq] at h2
    refine WO.want 11 rfl rfl ?_
    refine WO.move rfl rfl ?_
    refine WO.want 11 rfl rfl ?_
    refine WO.lenS rfl un_9 rfl ?_
    refine WO.want 11 rfl rfl ?_
    refine WO.gtrI rfl rfl rfl ?_
    refine WO.pickF rfl rfl rfl ?_
    refine WO.move rfl rfl ?_
    refine WO.split 16 rfl (fun h3 => ?_) (fun h4 => ?_)
    · try simp only [decide_eq_true_eq, decide_eq_false_iff_not, beq_iff_eq, beq_eq_false_iff_ne, bne_iff_ne, bne_eq_false_iff_eq, Bool.not_eq_true', Bool.not_eq_false', Int.not_lt, Int.not_le, ne_eq] at h3
      refine WO.pass 16 rfl rfl rfl rfl ?_
      refine WO.pass 16 rfl rfl rfl rfl ?_
      refine WO.pass 16 rfl rfl rfl rfl ?_
      refine WO.pickT rfl rfl rfl ?_
      refine WO.nil ?_
      refine thnN ?_
      refine WP.condT rfl ?_
      refine WP.seq ?_
      refine WP.region ?_
      refine WO.assign rfl rfl ?_
      refine WO.assign rfl rfl ?_
      refine WO.nil ?_
      refine thnN ?_
      refine WP.ret ?_
      refine thnR ?_
      refine ⟨_, [G], (Res.two rfl rfl), (by first | exact Imp.refl _ | exact Imp.pick 0 rfl | exact Imp.pick 1 rfl | exact Imp.pick 2 rfl | exact Imp.pick 3 rfl | exact Imp.pick 4 rfl | exact Imp.pick 5 rfl | exact Imp.pick 6 rfl), ?_⟩
      refine ⟨?_, rfl⟩
      first
      | (refine (fun (h0 : pathF s = none) => ?_) ?_
         · rw [h0]; rfl
         · apply pathF_none
           first | (left; assumption) | (right; left; omega) | (right; right; left; apply bt0_ne; assumption) | (right; right; right; rw [hp]; simp_all; done))
      | (have ho2 : o = joinF l := ho.trans (congrArg joinF (List.take_of_length_le (Nat.le_of_not_lt (fun hh => absurd hh (by omega)))))
         subst ho2
         first
         | (refine (fun (e : pathF s = some [47]) => ?_) (path_root ?_ ?_ ?_ hp2 ?_)
            · rw [e]; rfl
            · assumption
            · omega
            · assumption
            · assumption)
         | (refine (fun (e : pathF s = some (joinF l)) => ?_) (path_ok ?_ ?_ ?_ hp2 ?_ ?_)
            · rw [e]; rfl
            · assumption
            · omega
            · assumption
            · assumption
            · omega)
         | (refine (fun (e : pathF s = none) => ?_) (path_long ?_ ?_ ?_ hp2 ?_ ?_)
            · rw [e]; rfl
            · assumption
            · omega
            · assumption
            · assumption
            · omega))
      | (exfalso; simp_all; done)
    · try simp only [decide_eq_true_eq, decide_eq_false_iff_not, beq_iff_eq, beq_eq_false_iff_ne, bne_iff_ne, bne_eq_false_iff_eq, Bool.not_eq_true', Bool.not_eq_false', Int.not_lt, Int.not_le, ne_eq] at h4
      refine WO.want 16 rfl rfl ?_
      refine WO.move rfl rfl ?_
      refine WO.want 16 rfl rfl ?_
      have hs0 : 0 < s.length := List.length_pos_iff.2 (by assumption)
      refine WO.indexS rfl rfl un_9 (by omega) rfl rfl ?_
      refine WO.want 16 rfl rfl ?_
      refine WO.neqI rfl rfl rfl ?_
      refine WO.pickF rfl rfl rfl ?_
      refine WO.nil ?_
      refine thnN ?_
      refine WP.condL 20 rfl (fun h5 => ?_) (fun h6 => ?_)
      · try simp only [decide_eq_true_eq, decide_eq_false_iff_not, beq_iff_eq, beq_eq_false_iff_ne, bne_iff_ne, bne_eq_false_iff_eq, Bool.not_eq_true', Bool.not_eq_false', Int.not_lt, Int.not_le, ne_eq] at h5
        refine WP.seq ?_
        refine WP.region ?_
        refine WO.assign rfl rfl ?_
        refine WO.assign rfl rfl ?_
        refine WO.nil ?_
        refine thnN ?_
        refine WP.ret ?_
        refine thnR ?_
        refine ⟨_, [G], (Res.two rfl rfl), (by first | exact Imp.refl _ | exact Imp.pick 0 rfl | exact Imp.pick 1 rfl | exact Imp.pick 2 rfl | exact Imp.pick 3 rfl | exact Imp.pick 4 rfl | exact Imp.pick 5 rfl | exact Imp.pick 6 rfl), ?_⟩
        refine ⟨?_, rfl⟩
        first
        | (refine (fun (h0 : pathF s = none) => ?_) ?_
           · rw [h0]; rfl
           · apply pathF_none
             first | (left; assumption) | (right; left; omega) | (right; right; left; apply bt0_ne; assumption) | (right; right; right; rw [hp]; simp_all; done))
        | (have ho2 : o = joinF l := ho.trans (congrArg joinF (List.take_of_length_le (Nat.le_of_not_lt (fun hh => absurd hh (by omega)))))
           subst ho2
           first
           | (refine (fun (e : pathF s = some [47]) => ?_) (path_root ?_ ?_ ?_ hp2 ?_)
              · rw [e]; rfl
              · assumption
              · omega
              · assumption
              · assumption)
           | (refine (fun (e : pathF s = some (joinF l)) => ?_) (path_ok ?_ ?_ ?_ hp2 ?_ ?_)
              · rw [e]; rfl
              · assumption
              · omega
              · assumption
              · assumption
              · omega)
           | (refine (fun (e : pathF s = none) => ?_) (path_long ?_ ?_ ?_ hp2 ?_ ?_)
              · rw [e]; rfl
              · assumption
              · omega
              · assumption
              · assumption
              · omega))
        | (exfalso; simp_all; done)
      · try simp only [decide_eq_true_eq, decide_eq_false_iff_not, beq_iff_eq, beq_eq_false_iff_ne, bne_iff_ne, bne_eq_false_iff_eq, Bool.not_eq_true', Bool.not_eq_false', Int.not_lt, Int.not_le, ne_eq] at h6
        refine WP.skip ?_
        refine thnN ?_
        refine WP.seq ?_
        refine WP.region ?_
        refine WO.move rfl rfl ?_
        refine WO.call (s_canon_parts hG s ?_) rfl ca_45 rfl rfl ?_
        · omega
        rintro _ _ ⟨ok, vo, Fo, l, rfl, rfl, hO, hp⟩
        obtain ⟨A, c, rfl⟩ := hO.slice
        refine WO.move rfl rfl ?_
        refine WO.extract rfl rfl rfl ?_
        refine WO.extract rfl rfl rfl ?_
        refine WO.assign rfl rfl ?_
        refine WO.assign rfl rfl ?_
        refine WO.nil ?_
        refine thnN ?_
        refine WP.seq ?_
        refine WP.seq ?_
        refine WP.region ?_
        refine WO.move rfl rfl ?_
        refine WO.not rfl rfl ?_
        refine WO.nil ?_
        refine thnN ?_
        refine WP.condL 27 rfl (fun h7 => ?_) (fun h8 => ?_)
        · try simp only [decide_eq_true_eq, decide_eq_false_iff_not, beq_iff_eq, beq_eq_false_iff_ne, bne_iff_ne, bne_eq_false_iff_eq, Bool.not_eq_true', Bool.not_eq_false', Int.not_lt, Int.not_le, ne_eq] at h7
          refine WP.seq ?_
          refine WP.region ?_
          refine WO.assign rfl rfl ?_
          refine WO.assign rfl rfl ?_
          refine WO.nil ?_
          refine thnN ?_
          refine WP.ret ?_
          refine thnR ?_
          refine ⟨_, [G], (Res.two rfl rfl), (by first | exact Imp.refl _ | exact Imp.pick 0 rfl | exact Imp.pick 1 rfl | exact Imp.pick 2 rfl | exact Imp.pick 3 rfl | exact Imp.pick 4 rfl | exact Imp.pick 5 rfl | exact Imp.pick 6 rfl), ?_⟩
          refine ⟨?_, rfl⟩
          first
          | (refine (fun (h0 : pathF s = none) => ?_) ?_
             · rw [h0]; rfl
             · apply pathF_none
               first | (left; assumption) | (right; left; omega) | (right; right; left; apply bt0_ne; assumption) | (right; right; right; rw [hp]; simp_all; done))
          | (have ho2 : o = joinF l := ho.trans (congrArg joinF (List.take_of_length_le (Nat.le_of_not_lt (fun hh => absurd hh (by omega)))))
             subst ho2
             first
             | (refine (fun (e : pathF s = some [47]) => ?_) (path_root ?_ ?_ ?_ hp2 ?_)
                · rw [e]; rfl
                · assumption
                · omega
                · assumption
                · assumption)
             | (refine (fun (e : pathF s = some (joinF l)) => ?_) (path_ok ?_ ?_ ?_ hp2 ?_ ?_)
                · rw [e]; rfl
                · assumption
                · omega
                · assumption
                · assumption
                · omega)
             | (refine (fun (e : pathF s = none) => ?_) (path_long ?_ ?_ ?_ hp2 ?_ ?_)
                · rw [e]; rfl
                · assumption
                · omega
                · assumption
                · assumption
                · omega))
          | (exfalso; simp_all; done)
        · try simp only [decide_eq_true_eq, decide_eq_false_iff_not, beq_iff_eq, beq_eq_false_iff_ne, bne_iff_ne, bne_eq_false_iff_eq, Bool.not_eq_true', Bool.not_eq_false', Int.not_lt, Int.not_le, ne_eq] at h8
          have hp2 : partsGo [] (cutS [] s) = some l := by rw [hp, if_pos (by assumption)]
          have hb := parts_bound _ _ _ hp2 (by simp)
          have hcnt := cutS_count s []
          have hle := getD_len hb.2
          refine WP.skip ?_
          refine thnN ?_
          refine WP.seq ?_
          refine WP.region ?_
          refine WO.assign rfl rfl ?_
          refine WO.nil ?_
          refine thnN ?_
          refine WP.seq ?_
          refine WP.seq ?_
          refine WP.region ?_
          refine WO.move rfl rfl ?_
          refine WO.lenL rfl un_76 rfl ?_
          refine WO.move rfl rfl ?_
          refine WO.nil ?_
          refine thnN ?_
          refine WP.block ?_
          refine WP.loop2 (fun (k : Nat) (o : List UInt8) => [(6, str o), (28, .slice A l.length c), (29, .int .i64 (l.length)), (30, .int .i64 (k))]) (fun (k : Nat) (o : List UInt8) => [Fo, G]) (fun (k : Nat) (o : List UInt8) => k ≤ l.length ∧ o = joinF (l.take k)) (fun (k : Nat) (o : List UInt8) => l.length - k) ⟨0, [], ⟨rfl, rfl, rfl, rfl, trivial⟩, rfl, ?_⟩ ?_
          · exact ⟨Nat.zero_le _, rfl⟩
          · intro k o hI
            obtain ⟨hk, ho⟩ := hI
            have hj := join_len (l.take k) fun p hp => hb.2 p (List.mem_of_mem_take hp)
            rw [← ho] at hj
            have hl2 := List.length_take_le k l
            have hw := writeF_len' (l.getD k [])
            have hle2 := hle k
            simp only [List.length_nil] at hb
            refine WP.seq ?_
            refine WP.region ?_
            refine WO.lssI rfl rfl rfl ?_
            refine WO.nil ?_
            refine thnN ?_
            refine WP.seq ?_
            refine WP.condL 31 rfl (fun h9 => ?_) (fun h10 => ?_)
            · try simp only [decide_eq_true_eq, decide_eq_false_iff_not, beq_iff_eq, beq_eq_false_iff_ne, bne_iff_ne, bne_eq_false_iff_eq, Bool.not_eq_true', Bool.not_eq_false', Int.not_lt, Int.not_le, ne_eq] at h9
              refine WP.skip ?_
              refine thnN ?_
              refine WP.seq ?_
              refine WP.block ?_
              refine WP.seq ?_
              refine WP.region ?_
              refine WO.indexAddr rfl rfl sl_76 (by first | assumption | exact RdSl.lit in0 rfl | exact hO.rd.mono (fun p hp => by simp [hp])) (by omega) (by decide) rfl (fun ib0 io0 ics0 iT0 ifz0 im0 ie0 il0 => ?_)
              refine WO.load (v := str (l.getD k [])) rfl sc_9 im0 (strElem ie0 (by omega)) rfl ?_
              refine WO.assign rfl rfl ?_
              refine WO.nil ?_
              refine thnN ?_
              refine WP.region ?_
              refine WO.move rfl rfl ?_
              refine WO.move rfl rfl ?_
              refine WO.callP (s_canon_write (l.getD k []) ?_) rfl ca_46 rfl ?_
              · exact Nat.le_trans (hle k) (by decide)
              refine WO.addS rfl rfl (by first | omega | (simp only [len_toBytes, List.length_append, List.length_cons, List.length_nil, List.length_drop, List.length_take]; omega)) rfl ?_
              refine WO.addS rfl rfl (by first | omega | (simp only [len_toBytes, List.length_append, List.length_cons, List.length_nil, List.length_drop, List.length_take]; omega)) rfl ?_
              refine WO.assign rfl rfl ?_
              refine WO.nil ?_
              refine blkN ?_
              refine thnN ?_
              refine WP.region ?_
              refine WO.add rfl rfl (by first | exact wrap_i64 (by omega) (by omega) | rfl) rfl ?_
              refine WO.move rfl rfl ?_
              refine WO.nil ?_
              refine thnN ?_
              refine ⟨k + 1, o ++ ([47] ++ writeF (l.getD k [])), ⟨rfl, rfl, rfl, rfl, trivial⟩, rfl, ?_, ?_⟩
              · exact ⟨by omega, by rw [join_snoc (by omega), ← ho]; rfl⟩
              · omega
            · try simp only [decide_eq_true_eq, decide_eq_false_iff_not, beq_iff_eq, beq_eq_false_iff_ne, bne_iff_ne, bne_eq_false_iff_eq, Bool.not_eq_true', Bool.not_eq_false', Int.not_lt, Int.not_le, ne_eq] at h10
              refine WP.exit ?_
              refine thnE ?_
              refine thnE ?_
              refine blkHit ?_
              refine thnN ?_
              refine WP.seq ?_
              refine WP.seq ?_
              refine WP.region ?_
              refine WO.move rfl rfl ?_
              refine WO.eqlS rfl rfl rfl ?_
              refine WO.nil ?_
              refine thnN ?_
              refine WP.condL 41 rfl (fun h11 => ?_) (fun h12 => ?_)
              · try simp only [decide_eq_true_eq, decide_eq_false_iff_not, beq_iff_eq, beq_eq_false_iff_ne, bne_iff_ne, bne_eq_false_iff_eq, Bool.not_eq_true', Bool.not_eq_false', Int.not_lt, Int.not_le, ne_eq] at h11
                refine WP.region ?_
                refine WO.assign rfl rfl ?_
                refine WO.nil ?_
                refine thnN ?_
                refine WP.seq ?_
                refine WP.seq ?_
                refine WP.region ?_
                refine WO.move rfl rfl ?_
                refine WO.lenS rfl un_9 rfl ?_
                refine WO.gtrI rfl rfl rfl ?_
                refine WO.nil ?_
                refine thnN ?_
                refine WP.condL 44 rfl (fun h13 => ?_) (fun h14 => ?_)
                · try simp only [decide_eq_true_eq, decide_eq_false_iff_not, beq_iff_eq, beq_eq_false_iff_ne, bne_iff_ne, bne_eq_false_iff_eq, Bool.not_eq_true', Bool.not_eq_false', Int.not_lt, Int.not_le, ne_eq] at h13
                  refine WP.seq ?_
                  refine WP.region ?_
                  refine WO.assign rfl rfl ?_
                  refine WO.assign rfl rfl ?_
                  refine WO.nil ?_
                  refine thnN ?_
                  refine WP.ret ?_
                  refine thnR ?_
                  refine ⟨_, [G], (Res.two rfl rfl), (by first | exact Imp.refl _ | exact Imp.pick 0 rfl | exact Imp.pick 1 rfl | exact Imp.pick 2 rfl | exact Imp.pick 3 rfl | exact Imp.pick 4 rfl | exact Imp.pick 5 rfl | exact Imp.pick 6 rfl), ?_⟩
                  refine ⟨?_, rfl⟩
                  first
                  | (refine (fun (h0 : pathF s = none) => ?_) ?_
                     · rw [h0]; rfl
                     · apply pathF_none
                       first | (left; assumption) | (right; left; omega) | (right; right; left; apply bt0_ne; assumption) | (right; right; right; rw [hp]; simp_all; done))
                  | (have ho2 : o = joinF l := ho.trans (congrArg joinF (List.take_of_length_le (Nat.le_of_not_lt (fun hh => absurd hh (by omega)))))
                     subst ho2
                     first
                     | (refine (fun (e : pathF s = some [47]) => ?_) (path_root ?_ ?_ ?_ hp2 ?_)
                        · rw [e]; rfl
                        · assumption
                        · omega
                        · assumption
                        · assumption)
                     | (refine (fun (e : pathF s = some (joinF l)) => ?_) (path_ok ?_ ?_ ?_ hp2 ?_ ?_)
                        · rw [e]; rfl
                        · assumption
                        · omega
                        · assumption
                        · assumption
                        · omega)
                     | (refine (fun (e : pathF s = none) => ?_) (path_long ?_ ?_ ?_ hp2 ?_ ?_)
                        · rw [e]; rfl
                        · assumption
                        · omega
                        · assumption
                        · assumption
                        · omega))
                  | (exfalso; simp_all; done)
                · try simp only [decide_eq_true_eq, decide_eq_false_iff_not, beq_iff_eq, beq_eq_false_iff_ne, bne_iff_ne, bne_eq_false_iff_eq, Bool.not_eq_true', Bool.not_eq_false', Int.not_lt, Int.not_le, ne_eq] at h14
                  refine WP.skip ?_
                  refine thnN ?_
                  refine WP.seq ?_
                  refine WP.region ?_
                  refine WO.move rfl rfl ?_
                  refine WO.assign rfl rfl ?_
                  refine WO.assign rfl rfl ?_
                  refine WO.nil ?_
                  refine thnN ?_
                  refine WP.ret ?_
                  refine ⟨_, [G], (Res.two rfl rfl), (by first | exact Imp.refl _ | exact Imp.pick 0 rfl | exact Imp.pick 1 rfl | exact Imp.pick 2 rfl | exact Imp.pick 3 rfl | exact Imp.pick 4 rfl | exact Imp.pick 5 rfl | exact Imp.pick 6 rfl), ?_⟩
                  refine ⟨?_, rfl⟩
                  first
                  | (refine (fun (h0 : pathF s = none) => ?_) ?_
                     · rw [h0]; rfl
                     · apply pathF_none
                       first | (left; assumption) | (right; left; omega) | (right; right; left; apply bt0_ne; assumption) | (right; right; right; rw [hp]; simp_all; done))
                  | (have ho2 : o = joinF l := ho.trans (congrArg joinF (List.take_of_length_le (Nat.le_of_not_lt (fun hh => absurd hh (by omega)))))
                     subst ho2
                     first
                     | (refine (fun (e : pathF s = some [47]) => ?_) (path_root ?_ ?_ ?_ hp2 ?_)
                        · rw [e]; rfl
                        · assumption
                        · omega
                        · assumption
                        · assumption)
                     | (refine (fun (e : pathF s = some (joinF l)) => ?_) (path_ok ?_ ?_ ?_ hp2 ?_ ?_)
                        · rw [e]; rfl
                        · assumption
                        · omega
                        · assumption
                        · assumption
                        · omega)
                     | (refine (fun (e : pathF s = none) => ?_) (path_long ?_ ?_ ?_ hp2 ?_ ?_)
                        · rw [e]; rfl
                        · assumption
                        · omega
                        · assumption
                        · assumption
                        · omega))
                  | (exfalso; simp_all; done)
              · try simp only [decide_eq_true_eq, decide_eq_false_iff_not, beq_iff_eq, beq_eq_false_iff_ne, bne_iff_ne, bne_eq_false_iff_eq, Bool.not_eq_true', Bool.not_eq_false', Int.not_lt, Int.not_le, ne_eq] at h12
                refine WP.skip ?_
                refine thnN ?_
                refine WP.seq ?_
                refine WP.seq ?_
                refine WP.region ?_
                refine WO.move rfl rfl ?_
                refine WO.lenS rfl un_9 rfl ?_
                refine WO.gtrI rfl rfl rfl ?_
                refine WO.nil ?_
                refine thnN ?_
                refine WP.condL 44 rfl (fun h15 => ?_) (fun h16 => ?_)
                · try simp only [decide_eq_true_eq, decide_eq_false_iff_not, beq_iff_eq, beq_eq_false_iff_ne, bne_iff_ne, bne_eq_false_iff_eq, Bool.not_eq_true', Bool.not_eq_false', Int.not_lt, Int.not_le, ne_eq] at h15
                  refine WP.seq ?_
                  refine WP.region ?_
                  refine WO.assign rfl rfl ?_
                  refine WO.assign rfl rfl ?_
                  refine WO.nil ?_
                  refine thnN ?_
                  refine WP.ret ?_
                  refine thnR ?_
                  refine ⟨_, [G], (Res.two rfl rfl), (by first | exact Imp.refl _ | exact Imp.pick 0 rfl | exact Imp.pick 1 rfl | exact Imp.pick 2 rfl | exact Imp.pick 3 rfl | exact Imp.pick 4 rfl | exact Imp.pick 5 rfl | exact Imp.pick 6 rfl), ?_⟩
                  refine ⟨?_, rfl⟩
                  first
                  | (refine (fun (h0 : pathF s = none) => ?_) ?_
                     · rw [h0]; rfl
                     · apply pathF_none
                       first | (left; assumption) | (right; left; omega) | (right; right; left; apply bt0_ne; assumption) | (right; right; right; rw [hp]; simp_all; done))
                  | (have ho2 : o = joinF l := ho.trans (congrArg joinF (List.take_of_length_le (Nat.le_of_not_lt (fun hh => absurd hh (by omega)))))
                     subst ho2
                     first
                     | (refine (fun (e : pathF s = some [47]) => ?_) (path_root ?_ ?_ ?_ hp2 ?_)
                        · rw [e]; rfl
                        · assumption
                        · omega
                        · assumption
                        · assumption)
                     | (refine (fun (e : pathF s = some (joinF l)) => ?_) (path_ok ?_ ?_ ?_ hp2 ?_ ?_)
                        · rw [e]; rfl
                        · assumption
                        · omega
                        · assumption
                        · assumption
                        · omega)
                     | (refine (fun (e : pathF s = none) => ?_) (path_long ?_ ?_ ?_ hp2 ?_ ?_)
                        · rw [e]; rfl
                        · assumption
                        · omega
                        · assumption
                        · assumption
                        · omega))
                  | (exfalso; simp_all; done)
                · try simp only [decide_eq_true_eq, decide_eq_false_iff_not, beq_iff_eq, beq_eq_false_iff_ne, bne_iff_ne, bne_eq_false_iff_eq, Bool.not_eq_true', Bool.not_eq_false', Int.not_lt, Int.not_le, ne_eq] at h16
                  refine WP.skip ?_
                  refine thnN ?_
                  refine WP.seq ?_
                  refine WP.region ?_
                  refine WO.move rfl rfl ?_
                  refine WO.assign rfl rfl ?_
                  refine WO.assign rfl rfl ?_
                  refine WO.nil ?_
                  refine thnN ?_
                  refine WP.ret ?_
                  refine ⟨_, [G], (Res.two rfl rfl), (by first | exact Imp.refl _ | exact Imp.pick 0 rfl | exact Imp.pick 1 rfl | exact Imp.pick 2 rfl | exact Imp.pick 3 rfl | exact Imp.pick 4 rfl | exact Imp.pick 5 rfl | exact Imp.pick 6 rfl), ?_⟩
                  refine ⟨?_, rfl⟩
                  first
                  | (refine (fun (h0 : pathF s = none) => ?_) ?_
                     · rw [h0]; rfl
                     · apply pathF_none
                       first | (left; assumption) | (right; left; omega) | (right; right; left; apply bt0_ne; assumption) | (right; right; right; rw [hp]; simp_all; done))
                  | (have ho2 : o = joinF l := ho.trans (congrArg joinF (List.take_of_length_le (Nat.le_of_not_lt (fun hh => absurd hh (by omega)))))
                     subst ho2
                     first
                     | (refine (fun (e : pathF s = some [47]) => ?_) (path_root ?_ ?_ ?_ hp2 ?_)
                        · rw [e]; rfl
                        · assumption
                        · omega
                        · assumption
                        · assumption)
                     | (refine (fun (e : pathF s = some (joinF l)) => ?_) (path_ok ?_ ?_ ?_ hp2 ?_ ?_)
                        · rw [e]; rfl
                        · assumption
                        · omega
                        · assumption
                        · assumption
                        · omega)
                     | (refine (fun (e : pathF s = none) => ?_) (path_long ?_ ?_ ?_ hp2 ?_ ?_)
                        · rw [e]; rfl
                        · assumption
                        · omega
                        · assumption
                        · assumption
                        · omega))
                  | (exfalso; simp_all; done)

end Go.Proofs.YtpaipfceibcbkaaDoor
