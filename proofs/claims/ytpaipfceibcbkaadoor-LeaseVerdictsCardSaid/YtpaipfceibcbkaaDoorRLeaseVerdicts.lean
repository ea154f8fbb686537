/- LeaseVerdicts: the statement, out of its contract over footprints: the row, and the card. -/
import Derived.Test.YtpaipfceibcbkaaDoorCards
import Derived.Test.YtpaipfceibcbkaaDoorTie
import Derived.Test.YtpaipfceibcbkaaDoorW21
import Derived.Test.YtpaipfceibcbkaaDoorOp0
import Derived.ProofKit
import Derived.OpenShut
import Derived.ShutString
import Derived.ChangeOld
import Derived.Below
import Derived.SizedLaws
import Derived.Deep.DeepHandedRow
import Derived.Deep.DeepWitnessRowRef
import Derived.Lib.LaidTab
import Derived.Lib.LaidIn
import Derived.Stop.LaidErr
set_option linter.unusedVariables false
namespace Go.Proofs.YtpaipfceibcbkaaDoor.leaseVerdicts
open Go.ChangeShapes Go.WideShapes Go.ChangeAt Go.RowKit Go.SL Go.Proofs.YtpaipfceibcbkaaDoor
open Go.ChangeMaps (open_string shut_string)

theorem own : ownKnob Tryd.prog.godebug = none := by kernel_rfl
theorem laidOut : laidOutB Tryd.prog = true := by kernel_rfl
theorem glob_ok {W : World} (hSh : W.ShapedOpen Tryd.prog) : GlobOK (SL.ambient W) := by
  obtain ⟨m, hm⟩ := Tryd.laysM146.s1_3 W hSh
  exact ⟨m, fun w hd => cell?_same (Hd.ambient hd) hm⟩
noncomputable def laidWorld (os : Os) : World :=
  let N := (World.settled Tryd.prog os).heap.size
  let w0 := World.holding Tryd.prog os ⟨#[], #[], []⟩
  let put (h : Array Obj) (g : Nat) (cs : Array Value) : Array Obj := h.modify g fun
    | .cells _ t frozen => .cells cs t frozen
    | o => o
  let h1 := put w0.heap 2 #[.int .u8 128, .int .u8 191, .int .u8 160, .int .u8 191, .int .u8 128, .int .u8 159, .int .u8 144, .int .u8 191, .int .u8 128, .int .u8 143, .int .u8 0, .int .u8 0, .int .u8 0, .int .u8 0, .int .u8 0, .int .u8 0, .int .u8 0, .int .u8 0, .int .u8 0, .int .u8 0, .int .u8 0, .int .u8 0, .int .u8 0, .int .u8 0, .int .u8 0, .int .u8 0, .int .u8 0, .int .u8 0, .int .u8 0, .int .u8 0, .int .u8 0, .int .u8 0]
  let h2 := put h1 1 (Go.Pinned.utf8FirstZ.map fun (z : Nat) => Value.int .u8 (z : Int)).toArray
  { w0 with heap := h2 }
noncomputable abbrev N0 : Nat := (World.settled Tryd.prog default).heap.size
set_option maxRecDepth 1000000 in
theorem laid_met (os : Os) (args : Array Value) : laidMet Tryd.prog Rows.leaseVerdictsRow.laid ((laidWorld os).forCall (fun _ _ => 0) ⟨#[], args, []⟩).memory :=
  (LaidIn.of_run [2, 1] 8 (by kernel_rfl) (by kernel_rfl) (by kernel_rfl) (by kernel_rfl)).met
theorem reads (os : Os) {H : Type} (enc : TypeId × Value → H) : ∃ places, DataW.whole enc Tryd.prog ((laidWorld os).forCall (fun _ _ => 0) ⟨#[], #[.agg #[.int .i64 0, .string ⟨#[]⟩, .int .i64 0, .int .i64 0, .int .i64 0, .int .i64 0, .string ⟨#[]⟩, .int .i64 0, .int .i64 0, .int .i64 0, .string ⟨#[]⟩, .string ⟨#[]⟩, .string ⟨#[]⟩, .string ⟨#[]⟩], .string ⟨#[]⟩, .int .i64 0], []⟩).memory Tryd.f3.params.toList Rows.leaseVerdictsSpec.vars false (#[.agg #[.int .i64 0, .string ⟨#[]⟩, .int .i64 0, .int .i64 0, .int .i64 0, .int .i64 0, .string ⟨#[]⟩, .int .i64 0, .int .i64 0, .int .i64 0, .string ⟨#[]⟩, .string ⟨#[]⟩, .string ⟨#[]⟩, .string ⟨#[]⟩], .string ⟨#[]⟩, .int .i64 0] : Array Value).toList 8 = some ([.agg [.lit (.int .i64 0), .lit (.string []), .lit (.int .i64 0), .lit (.int .i64 0), .lit (.int .i64 0), .lit (.int .i64 0), .lit (.string []), .lit (.int .i64 0), .lit (.int .i64 0), .lit (.int .i64 0), .lit (.string []), .lit (.string []), .lit (.string []), .lit (.string [])], .lit (.string []), .lit (.int .i64 0)], [], places) :=
  ⟨[], by kernel_rfl⟩

set_option maxRecDepth 100000 in
theorem contract (H : Type) (enc : TypeId × Value → H) (W : World) (base : Nat) (args : Array Value) (ds gs : List (DataW H)) (before : List MemPlace)
    (hval : ∀ (j : Nat) t v, Tryd.f3.params[j]? = some t → args[j]? = some v → Value.okWide Tryd.prog W .any base t v)
    (hW : DataW.Whole enc Tryd.prog Tryd.f3.params.toList Rows.leaseVerdictsSpec.vars false W args.toList ds gs before)
    (hsz : (DataW.weightsEach Tryd.prog (Tryd.f3.params.toList ++ Rows.leaseVerdictsSpec.plain.varTypes Tryd.prog) (ds ++ gs)).all (· ≤ reachBytes) = true) (hL : laidMetH Tryd.prog Rows.leaseVerdictsRow.laid W) (hSh : W.ShapedOpen Tryd.prog) :
    Calls Tryd.prog 3 args W fun e W' => ∃ v, e = .returned v ∧ Rows.leaseVerdictsSpec.post enc Tryd.prog Tryd.f3 false true false false W args v W' := by
  have hval0 := hval
  have hW' := hW
  obtain ⟨p, q, hA0, hV, rfl, hfz, hnd⟩ := hW
  have hA : DataW.TrodAll enc Tryd.prog W 0 (fun _ => true) true Tryd.f3.params.toList args.toList ds p := hA0
  rw [Tryd.params3] at hA hval hsz
  obtain ⟨v0, vs0, d0, ds0, p0, q0, hargs, rfl, rfl, t0, r0⟩ := trodAll_cons hA
  obtain ⟨v1, vs1, d1, ds1, p1, q1, rfl, rfl, rfl, t1, r1⟩ := trodAll_cons r0
  obtain ⟨v2, vs2, d2, ds2, p2, q2, rfl, rfl, rfl, t2, r2⟩ := trodAll_cons r1
  obtain ⟨rfl, rfl, rfl⟩ := trodAll_nil r2
  obtain rfl : args = #[v0, v1, v2] := by cases args; simp_all
  obtain ⟨rfl, rfl⟩ := trodVars_none hV
  have k0 := t0
  have lt0 : ∀ x ∈ p0, x.block < W.heap.size := by obtain ⟨m, hm⟩ := k0; exact DataW.trod_lt m _ _ _ hm
  obtain ⟨cs0, rfl, hl0, hc0⟩ := open_cells (ts := [3, 9, 3, 3, 3, 3, 9, 3, 3, 3, 9, 9, 9, 9]) Tryd.underlying23 (by kernel_rfl) (by kernel_rfl) (hval 0 23 v0 rfl rfl)
  obtain ⟨u0_0, cs0_0, rfl, hl0_0⟩ := list_cons hl0
  obtain ⟨u0_1, cs0_1, rfl, hl0_1⟩ := list_cons hl0_0
  obtain ⟨u0_2, cs0_2, rfl, hl0_2⟩ := list_cons hl0_1
  obtain ⟨u0_3, cs0_3, rfl, hl0_3⟩ := list_cons hl0_2
  obtain ⟨u0_4, cs0_4, rfl, hl0_4⟩ := list_cons hl0_3
  obtain ⟨u0_5, cs0_5, rfl, hl0_5⟩ := list_cons hl0_4
  obtain ⟨u0_6, cs0_6, rfl, hl0_6⟩ := list_cons hl0_5
  obtain ⟨u0_7, cs0_7, rfl, hl0_7⟩ := list_cons hl0_6
  obtain ⟨u0_8, cs0_8, rfl, hl0_8⟩ := list_cons hl0_7
  obtain ⟨u0_9, cs0_9, rfl, hl0_9⟩ := list_cons hl0_8
  obtain ⟨u0_10, cs0_10, rfl, hl0_10⟩ := list_cons hl0_9
  obtain ⟨u0_11, cs0_11, rfl, hl0_11⟩ := list_cons hl0_10
  obtain ⟨u0_12, cs0_12, rfl, hl0_12⟩ := list_cons hl0_11
  obtain ⟨u0_13, cs0_13, rfl, hl0_13⟩ := list_cons hl0_12
  obtain rfl := List.eq_nil_of_length_eq_zero hl0_13
  obtain ⟨t0_0, e0_0, o0_0⟩ := hc0 0 u0_0 rfl
  obtain rfl : 3 = t0_0 := Option.some.inj e0_0
  obtain ⟨a0_0, rfl, w0_0⟩ := cell_int Tryd.underlying3 o0_0
  obtain ⟨t0_1, e0_1, o0_1⟩ := hc0 1 u0_1 rfl
  obtain rfl : 9 = t0_1 := Option.some.inj e0_1
  obtain ⟨a0_1, rfl⟩ := cell_str Tryd.underlying9 o0_1
  obtain ⟨t0_2, e0_2, o0_2⟩ := hc0 2 u0_2 rfl
  obtain rfl : 3 = t0_2 := Option.some.inj e0_2
  obtain ⟨a0_2, rfl, w0_2⟩ := cell_int Tryd.underlying3 o0_2
  obtain ⟨t0_3, e0_3, o0_3⟩ := hc0 3 u0_3 rfl
  obtain rfl : 3 = t0_3 := Option.some.inj e0_3
  obtain ⟨a0_3, rfl, w0_3⟩ := cell_int Tryd.underlying3 o0_3
  obtain ⟨t0_4, e0_4, o0_4⟩ := hc0 4 u0_4 rfl
  obtain rfl : 3 = t0_4 := Option.some.inj e0_4
  obtain ⟨a0_4, rfl, w0_4⟩ := cell_int Tryd.underlying3 o0_4
  obtain ⟨t0_5, e0_5, o0_5⟩ := hc0 5 u0_5 rfl
  obtain rfl : 3 = t0_5 := Option.some.inj e0_5
  obtain ⟨a0_5, rfl, w0_5⟩ := cell_int Tryd.underlying3 o0_5
  obtain ⟨t0_6, e0_6, o0_6⟩ := hc0 6 u0_6 rfl
  obtain rfl : 9 = t0_6 := Option.some.inj e0_6
  obtain ⟨a0_6, rfl⟩ := cell_str Tryd.underlying9 o0_6
  obtain ⟨t0_7, e0_7, o0_7⟩ := hc0 7 u0_7 rfl
  obtain rfl : 3 = t0_7 := Option.some.inj e0_7
  obtain ⟨a0_7, rfl, w0_7⟩ := cell_int Tryd.underlying3 o0_7
  obtain ⟨t0_8, e0_8, o0_8⟩ := hc0 8 u0_8 rfl
  obtain rfl : 3 = t0_8 := Option.some.inj e0_8
  obtain ⟨a0_8, rfl, w0_8⟩ := cell_int Tryd.underlying3 o0_8
  obtain ⟨t0_9, e0_9, o0_9⟩ := hc0 9 u0_9 rfl
  obtain rfl : 3 = t0_9 := Option.some.inj e0_9
  obtain ⟨a0_9, rfl, w0_9⟩ := cell_int Tryd.underlying3 o0_9
  obtain ⟨t0_10, e0_10, o0_10⟩ := hc0 10 u0_10 rfl
  obtain rfl : 9 = t0_10 := Option.some.inj e0_10
  obtain ⟨a0_10, rfl⟩ := cell_str Tryd.underlying9 o0_10
  obtain ⟨t0_11, e0_11, o0_11⟩ := hc0 11 u0_11 rfl
  obtain rfl : 9 = t0_11 := Option.some.inj e0_11
  obtain ⟨a0_11, rfl⟩ := cell_str Tryd.underlying9 o0_11
  obtain ⟨t0_12, e0_12, o0_12⟩ := hc0 12 u0_12 rfl
  obtain rfl : 9 = t0_12 := Option.some.inj e0_12
  obtain ⟨a0_12, rfl⟩ := cell_str Tryd.underlying9 o0_12
  obtain ⟨t0_13, e0_13, o0_13⟩ := hc0 13 u0_13 rfl
  obtain rfl : 9 = t0_13 := Option.some.inj e0_13
  obtain ⟨a0_13, rfl⟩ := cell_str Tryd.underlying9 o0_13
  have k1 := t1
  have lt1 : ∀ x ∈ p1, x.block < W.heap.size := by obtain ⟨m, hm⟩ := k1; exact DataW.trod_lt m _ _ _ hm
  obtain ⟨s1, rfl, rfl, rfl, y1⟩ := open_string Tryd.underlying9 (hval 1 9 v1 rfl rfl) t1
  obtain ⟨a1, rfl⟩ : ∃ l : List UInt8, s1 = ⟨⟨l⟩⟩ := ⟨s1.data.toList, ba_eta s1⟩
  have k2 := t2
  have lt2 : ∀ x ∈ p2, x.block < W.heap.size := by obtain ⟨m, hm⟩ := k2; exact DataW.trod_lt m _ _ _ hm
  obtain ⟨a2, rfl, rfl, rfl, w2⟩ := open_int Tryd.underlying3 (hval 2 3 v2 rfl rfl) t2
  have walk : Calls Tryd.prog 3 #[.agg #[.int .i64 a0_0, str a0_1, .int .i64 a0_2, .int .i64 a0_3, .int .i64 a0_4, .int .i64 a0_5, str a0_6, .int .i64 a0_7, .int .i64 a0_8, .int .i64 a0_9, str a0_10, str a0_11, str a0_12, str a0_13], str a1, .int .i64 a2] W fun e w' => e = .returned (.bool true) ∧ Below W.heap.size W w' := by
    exact Calls.of_law (s_w21_LeaseVerdicts (glob_ok hSh) ⟨a0_0, a0_1, a0_2, a0_3, a0_4, a0_5, a0_6, a0_7, a0_8, a0_9, a0_10, a0_11, a0_12, a0_13⟩ a1 a2)
  refine walk.mono fun e W' ⟨he, bel⟩ => ?_
  subst he
  exact ⟨_, rfl, _, _, _, [], _, [], hW', trodAll_mk1 (shut_bool Tryd.underlying4 _), (trodAll_cons_mk (Below.trod laidOut (by kernel_rfl) (of_decide_eq_true (by kernel_rfl)) k0 bel lt0) (trodAll_cons_mk (shut_string Tryd.underlying9 y1) (trodAll_cons_mk (shut_int Tryd.underlying3 w2) trodAll_mk0))), rfl, bel.frame _, fun h => by cases h⟩

set_option maxRecDepth 100000 in
theorem lifted (os : Os) (started : os.Started) (H : Type) (enc : TypeId × Value → H) (F : Stop.Interp) :
    ReturnsInHanded {} Tryd.checked os 3 .any ((OpenSpec.ofChange Rows.leaseVerdictsSpec).preRow enc Tryd.prog Tryd.f3 Rows.leaseVerdictsRow.domain false Rows.leaseVerdictsRow.laid) (((OpenSpec.ofChange Rows.leaseVerdictsSpec).at F).post enc Tryd.prog Tryd.f3 false true false false) := by
  obtain ⟨places, hx⟩ := reads os enc
  refine returnsInHanded_of_row (C := Tryd.checked) (s := (OpenSpec.ofChange Rows.leaseVerdictsSpec)) own started (by kernel_rfl) Tryd.func3
    (witness_row_atRef (enc := enc) (C := Tryd.checked) false (laidWorld os) #[.agg #[.int .i64 0, .string ⟨#[]⟩, .int .i64 0, .int .i64 0, .int .i64 0, .int .i64 0, .string ⟨#[]⟩, .int .i64 0, .int .i64 0, .int .i64 0, .string ⟨#[]⟩, .string ⟨#[]⟩, .string ⟨#[]⟩, .string ⟨#[]⟩], .string ⟨#[]⟩, .int .i64 0] rfl (by kernel_rfl) (by kernel_rfl) (by kernel_rfl)
      (OpenSpec.preRow_of_cond 8 hx (by kernel_rfl) (fun k hk => by cases hk) (by kernel_rfl) (laid_met os _))) ?_
  intro W base args ds gs before hval hW _ hcond hsz hL hSh _
  exact contract H enc W base args ds gs before hval hW hsz hL hSh

theorem said : Rows.LeaseVerdictsSaid :=
  OpenClaim.holds_of_cond 3 Tryd.f3 rfl rfl rfl rfl rfl rfl rfl ⟨rfl, rfl, rfl, rfl, rfl⟩ rfl rfl rfl rfl rfl (by kernel_rfl) Tryd.func3 (by kernel_rfl)
    (of_decide_eq_true (by kernel_rfl)) (by unfold Func.isWrapper; first | (rw [if_pos (by decide +kernel)]; kernel_rfl) | (rw [if_neg (by decide +kernel)]; exact ⟨rfl, rfl⟩))
    (fun os started H enc _ F => by rw [OpenClaim.pre_eq_preRow]; exact lifted os started H enc F)

theorem plain (f : FuncId) (fn : Func) (hf : Tryd.pinned.checked.prog.funcNamed ("concierge/conciergelaw21.LeaseVerdicts") = some f) (hfn : Tryd.pinned.checked.prog.funcs[f]? = some fn) :
    false = Tryd.pinned.checked.prog.looks [] ∧ ∀ (j : Nat) t, fn.params[j]? = some t → Tryd.pinned.checked.prog.wantsStandIn t = false := by
  obtain rfl : f = 3 := Option.some.inj ((show Tryd.prog.funcNamed ("concierge/conciergelaw21.LeaseVerdicts") = some 3 by kernel_rfl).symm.trans hf) |>.symm
  obtain rfl : fn = Tryd.f3 := (Option.some.inj (Tryd.func3.symm.trans hfn)).symm
  refine ⟨by kernel_rfl, fun j t ht => ?_⟩
  rw [Tryd.params3] at ht
  have hm := Array.mem_of_getElem? ht
  simp only [List.mem_toArray, List.mem_cons, List.not_mem_nil, or_false] at hm
  rcases hm with rfl | rfl | rfl
  · exact (show Tryd.prog.wantsStandIn 23 = false by kernel_rfl)
  · exact (show Tryd.prog.wantsStandIn 9 = false by kernel_rfl)
  · exact (show Tryd.prog.wantsStandIn 3 = false by kernel_rfl)

end Go.Proofs.YtpaipfceibcbkaaDoor.leaseVerdicts
namespace Go.Proofs.YtpaipfceibcbkaaDoor
/-- The card. -/
theorem leaseVerdicts_holds : Rows.LeaseVerdictsCardSaid :=
  Claim7.holds_tied_plain_at .later [] _ _ _ _ leaseVerdicts.said (fun _ h => by cases h) (by kernel_rfl) (fun _ h => by cases h) leaseVerdicts_row_tie rfl ⟨rfl, rfl⟩ (by kernel_rfl) rfl leaseVerdicts.plain (by kernel_rfl)
end Go.Proofs.YtpaipfceibcbkaaDoor
