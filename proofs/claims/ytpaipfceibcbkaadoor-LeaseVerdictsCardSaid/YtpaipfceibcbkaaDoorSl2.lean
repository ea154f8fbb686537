/- Calls, and memory: single cells, structs in boxes. -/
import Derived.Test.YtpaipfceibcbkaaDoorSl1
set_option linter.unusedVariables false
set_option linter.unusedSimpArgs false
namespace Go.SL

/-! ### What a footprint is good for -/
def Imp (Ls Ls' : List Foot) : Prop := ∀ w0 rest w, St w0 (Ls.flatten ++ rest) w → St w0 (Ls'.flatten ++ rest) w
theorem Imp.refl (Ls : List Foot) : Imp Ls Ls := fun _ _ _ h => h
theorem Imp.trans {A B C : List Foot} (h : Imp A B) (k : Imp B C) : Imp A C := fun w0 r w x => k w0 r w (h w0 r w x)
theorem Imp.flat {A B : List Foot} (h : A.flatten = B.flatten) : Imp A B := fun w0 r w x => by rw [← h]; exact x
theorem Imp.perm {A B : List Foot} (h : A.flatten.Perm B.flatten) : Imp A B := fun w0 r w x => x.perm (h.append_right r)
theorem Imp.sublist {A B : List Foot} (h : B.flatten.Sublist A.flatten) : Imp A B := fun w0 r w x => x.weak (h.append_right r)
theorem perm_take : ∀ {Ls : List Foot} {F : Foot} (i : Nat), Ls[i]? = some F → Ls.flatten.Perm (F :: Ls.eraseIdx i).flatten
  | [], F, i, h => by simp at h
  | A :: r, F, 0, h => by simp at h; subst h; simp
  | A :: r, F, i + 1, h => by
    have := perm_take (Ls := r) i (by simpa using h)
    simp only [List.flatten_cons, List.eraseIdx_cons_succ] at this ⊢
    refine (this.append_left A).trans ?_
    rw [← List.append_assoc, ← List.append_assoc]
    exact List.perm_append_comm.append_right _
theorem Imp.take {Ls : List Foot} {F : Foot} (i : Nat) (h : Ls[i]? = some F) : Imp Ls (F :: Ls.eraseIdx i) := Imp.perm (perm_take i h)
theorem Imp.drop1 (F : Foot) (Ls : List Foot) : Imp (F :: Ls) Ls := Imp.sublist (by simp)
theorem Imp.cons {A B : List Foot} (F : Foot) (h : Imp A B) : Imp (F :: A) (F :: B) := fun w0 r w x => by
  have h1 : St w0 (A.flatten ++ (F ++ r)) w := x.perm (by simp only [List.flatten_cons, List.append_assoc]; rw [← List.append_assoc, ← List.append_assoc]; exact List.perm_append_comm.append_right _)
  exact (h w0 (F ++ r) w h1).perm (by simp only [List.flatten_cons, List.append_assoc]; rw [← List.append_assoc, ← List.append_assoc]; exact List.perm_append_comm.append_right _)
theorem Imp.drop {Ls : List Foot} {F : Foot} (i : Nat) (h : Ls[i]? = some F) : Imp Ls (Ls.eraseIdx i) := (Imp.take i h).trans (Imp.drop1 F _)

theorem inH {p : Nat × Obj} {F : Foot} {r : List Foot} (h : p ∈ F) : p ∈ (F :: r).flatten := by simp [h]
theorem inS {p : Nat × Obj} {F : Foot} {r : List Foot} (h : p ∈ r.flatten) : p ∈ (F :: r).flatten := by
  rw [List.flatten_cons]; exact List.mem_append_right _ h
theorem in0 {p : Nat × Obj} {r : List Foot} : p ∈ ([p] :: r).flatten := by simp
theorem in1 {p : Nat × Obj} {A : Foot} {r : List Foot} : p ∈ (A :: [p] :: r).flatten := inS in0
theorem in2 {p : Nat × Obj} {A B : Foot} {r : List Foot} : p ∈ (A :: B :: [p] :: r).flatten := inS in1
theorem in3 {p : Nat × Obj} {A B C : Foot} {r : List Foot} : p ∈ (A :: B :: C :: [p] :: r).flatten := inS in2
theorem in4 {p : Nat × Obj} {A B C D : Foot} {r : List Foot} : p ∈ (A :: B :: C :: D :: [p] :: r).flatten := inS in3
theorem in5 {p : Nat × Obj} {A B C D E : Foot} {r : List Foot} : p ∈ (A :: B :: C :: D :: E :: [p] :: r).flatten := inS in4
theorem in6 {p : Nat × Obj} {A B C D E F : Foot} {r : List Foot} : p ∈ (A :: B :: C :: D :: E :: F :: [p] :: r).flatten := inS in5

theorem Hd.cell {L : Foot} {w : World} (h : Hd L w) {b o : Nat} {cs : List Value} {T : TypeId} {fz : Nat × Nat} {v : Value} (hm : (b, Obj.cells cs.toArray T fz) ∈ L) (hc : cs[o]? = some v) : w.cell? ⟨b, o, none⟩ = some v := by
  have := h _ hm
  simp only at this
  simp [World.cell?, this, hc]

/-! ### Types -/
def isScalar (P : Program) (t : TypeId) : Bool :=
  match P.underlying t with
  | some (.struct _) | some (.array _ _) | none => false
  | _ => (P.info? t).any (·.size == 1)
def aggSize (P : Program) (t : TypeId) : Option Nat :=
  match P.underlying t with
  | some (.struct _) | some (.array _ _) => (P.info? t).map (·.size)
  | _ => none
/-- A field's place among the cells. -/
def fieldOff (P : Program) (t : TypeId) (f : Nat) : Option Nat :=
  match P.underlying t with
  | some (.struct fs) => match fs[f]? with
    | some x => match P.info? x.type with
      | some i => if i.size = 0 then none else some x.offset
      | none => none
    | none => none
  | _ => none
/-- The cells of a type's zero value. -/
def zeroOf (P : Program) (t : TypeId) : Option (List Value) := ((P.info? t).bind (·.zero)).map fun v => v.cells.toList
def callable (P : Program) (K : FuncId) : Bool :=
  match P.funcs[K]? with
  | some fn => fn.body.isSome && !(fn.name == "runtime.NumGoroutine")
  | none => false

section
variable {P : Program} {w : World} {t : TypeId}
theorem run_underlying' {d : TypeDesc} (h : P.underlying t = some d) : (underlying t).run P w = .ok d w := run_underlying h w
theorem run_isAgg_scalar (h : isScalar P t = true) : (isAgg t).run P w = .ok false w := by
  unfold isScalar at h
  cases hd : P.underlying t with
  | none => simp [hd] at h
  | some d => cases d <;> simp [hd] at h <;> simp [isAgg, run_underlying hd]
theorem run_isAgg_agg {k : Nat} (h : aggSize P t = some k) : (isAgg t).run P w = .ok true w := by
  unfold aggSize at h
  cases hd : P.underlying t with
  | none => simp [hd] at h
  | some d => cases d <;> simp [hd] at h <;> simp [isAgg, run_underlying hd]
theorem run_sizeOf_scalar (h : isScalar P t = true) : (sizeOf t).run P w = .ok 1 w := by
  unfold isScalar at h
  cases hi : P.info? t with
  | none => cases hd : P.underlying t with
    | none => simp [hd] at h
    | some d => cases d <;> simp [hd, hi] at h
  | some i =>
    have : i.size = 1 := by
      cases hd : P.underlying t with
      | none => simp [hd] at h
      | some d => cases d <;> simp [hd, hi] at h <;> exact h
    simp [sizeOf, typeInfo, hi, this]
theorem run_sizeOf_agg {k : Nat} (h : aggSize P t = some k) : (sizeOf t).run P w = .ok k w := by
  unfold aggSize at h
  cases hi : P.info? t with
  | none => cases hd : P.underlying t with
    | none => simp [hd] at h
    | some d => cases d <;> simp [hd, hi] at h
  | some i =>
    have : i.size = k := by
      cases hd : P.underlying t with
      | none => simp [hd] at h
      | some d => cases d <;> simp [hd, hi] at h <;> exact h
    simp [sizeOf, typeInfo, hi, this]
theorem run_zeroValue {z : List Value} (h : zeroOf P t = some z) : ∃ v : Value, v.cells = z.toArray ∧ (zeroValue t).run P w = .ok v w := by
  unfold zeroOf at h
  simp only [Option.map_eq_some_iff, Option.bind_eq_some_iff] at h
  obtain ⟨v, ⟨i, hi, hz⟩, rfl⟩ := h
  exact ⟨v, by simp, by simp [zeroValue, typeInfo, hi, hz]⟩
end

theorem addr_add (b o k : Nat) : (⟨b, o, none⟩ : Addr).add k = ⟨b, o + k, none⟩ := by unfold Addr.add; split <;> simp_all

/-! ### Calls -/
def CallsS (P : Program) (K : FuncId) (args : List Value) (Ls : List Foot) (R : Value → List Foot → Prop) : Prop :=
  ∀ w0 rest w, St w0 (Ls.flatten ++ rest) w → Calls P K args.toArray w fun e w' => ∃ v Ls', e = .returned v ∧ R v Ls' ∧ St w0 (Ls'.flatten ++ rest) w'

theorem CallsS.mono {P : Program} {K : FuncId} {args : List Value} {Ls : List Foot} {R R' : Value → List Foot → Prop} (h : CallsS P K args Ls R) (hr : ∀ v L, R v L → R' v L) : CallsS P K args Ls R' :=
  fun w0 rest w hs => (h w0 rest w hs).mono fun _ _ ⟨v, L, h1, h2, h3⟩ => ⟨v, L, h1, hr _ _ h2, h3⟩
theorem CallsS.frame {P : Program} {K : FuncId} {args : List Value} {Ls : List Foot} {R : Value → List Foot → Prop} (h : CallsS P K args Ls R) (Lr : List Foot) : CallsS P K args (Ls ++ Lr) fun v L => ∃ L', L = L' ++ Lr ∧ R v L' :=
  fun w0 rest w hs => (h w0 (Lr.flatten ++ rest) w (by simpa using hs)).mono fun _ _ ⟨v, L, h1, h2, h3⟩ => ⟨v, L ++ Lr, h1, ⟨L, rfl, h2⟩, by simpa using h3⟩
theorem CallsS.imp {P : Program} {K : FuncId} {args : List Value} {Ls Ls' : List Foot} {R : Value → List Foot → Prop} (h : CallsS P K args Ls' R) (hi : Imp Ls Ls') : CallsS P K args Ls R :=
  fun w0 rest w hs => h w0 rest w (hi _ _ _ hs)

def ienv : Nat → List Value → Env
  | _, [] => []
  | i, v :: r => (i, v) :: ienv (i + 1) r

theorem get_ienv : ∀ (args : List Value) (i j : Nat) (v : Value), get (ienv i args) j = some v → i ≤ j ∧ args[j - i]? = some v
  | [], i, j, v, h => by simp [ienv, get] at h
  | u :: r, i, j, v, h => by
    simp only [ienv, get] at h
    cases hb : Nat.beq i j with
    | true =>
      obtain rfl := Nat.eq_of_beq_eq_true hb
      simp only [hb, cond_true, Option.some.injEq] at h
      simp [h]
    | false =>
      have hne : i ≠ j := Nat.ne_of_beq_eq_false hb
      simp only [hb, cond_false] at h
      obtain ⟨h1, h2⟩ := get_ienv r (i + 1) j v h
      refine ⟨by omega, ?_⟩
      rw [show j - i = (j - (i + 1)) + 1 by omega]
      simpa using h2

/-- What a function's result variables give. -/
def Res (P : Program) (n : Nat) (rs : Array ResultVar) (e : Env) (Ls : List Foot) (v : Value) : Prop :=
  ∀ fn : Func, fn.results = rs → ∀ a w, Ag n e a → Hd Ls.flatten w → (results fn a.tmps).run P w = .ok v w

def retQ (P : Program) (n : Nat) (rs : Array ResultVar) (R : Value → List Foot → Prop) : Q'
  | .normal, e, Ls => ∃ v Ls', Res P n rs e Ls v ∧ Imp Ls Ls' ∧ R v Ls'
  | .ret, e, Ls => ∃ v Ls', Res P n rs e Ls v ∧ Imp Ls Ls' ∧ R v Ls'
  | _, _, _ => False

theorem CallsS.intro {P : Program} {K : FuncId} {fn : Func} {c : Code} {n : Nat} {rs : Array ResultVar} {args : List Value} {Ls : List Foot} {R : Value → List Foot → Prop}
    (hf : P.funcs[K]? = some fn) (hb : fn.body = some c) (hn : fn.ntmps = n) (hr : fn.results = rs) (hl : Nat.ble args.length n = true)
    (h : WP P n c (retQ P n rs R) (ienv 0 args) Ls) : CallsS P K args Ls R := by
  intro w0 rest w hs
  refine calls_of_wp hf hb ?_
  have hl' : args.length ≤ n := by simpa using hl
  have ha : Ag n (ienv 0 args) { tmps := args.toArray ++ Array.replicate (fn.ntmps - args.toArray.size) undef, defers := [] } := by
    refine ⟨by simp [hn]; omega, rfl, fun i v hi => ?_⟩
    obtain ⟨_, h2⟩ := get_ienv args 0 i v hi
    simp only [Nat.sub_zero] at h2
    have hlt : i < args.length := (List.getElem?_eq_some_iff.1 h2).1
    rw [Array.getElem?_append_left (by simpa using hlt)]
    simpa using h2
  refine wp_mono (h w0 rest _ w ha hs) fun x a w' hq => ?_
  cases x with
  | normal =>
    obtain ⟨e, Ls', h1, h2, v, Ls2, h3, h4, h5⟩ := hq
    exact ⟨h1.defers, v, h3 fn hr a w' h1 fun p hp => h2.has p (List.mem_append_left _ hp), v, Ls2, rfl, h5, h4 _ _ _ h2⟩
  | ret =>
    obtain ⟨e, Ls', h1, h2, v, Ls2, h3, h4, h5⟩ := hq
    exact ⟨h1.defers, v, h3 fn hr a w' h1 fun p hp => h2.has p (List.mem_append_left _ hp), v, Ls2, rfl, h5, h4 _ _ _ h2⟩
  | exit id => obtain ⟨e, Ls', h1, h2, h3⟩ := hq; exact h3.elim
  | goto l => obtain ⟨e, Ls', h1, h2, h3⟩ := hq; exact h3.elim
  | panic c => exact hq.elim
  | outgrown => exact hq.elim

section
variable {P : Program} {n : Nat} {e : Env} {Ls : List Foot}
theorem getD_of_ag {a : Act} (ha : Ag n e a) {t : Nat} {v : Value} (h : get e t = some v) : a.tmps.getD t undef = v := by
  simp [Array.getD_eq_getD_getElem?, ha.look t v h]
theorem Res.empty : Res P n #[] e Ls (.tuple #[]) := fun fn hr a w _ _ => by simp [results, hr]
theorem Res.one {t : Nat} {v : Value} (h : get e t = some v) : Res P n #[.tmp t] e Ls v := fun fn hr a w ha _ => by
  simp [results, hr, ← Array.getD_eq_getD_getElem?, getD_of_ag ha h]
theorem Res.two {t u : Nat} {v x : Value} (h : get e t = some v) (h' : get e u = some x) : Res P n #[.tmp t, .tmp u] e Ls (.tuple #[v, x]) := fun fn hr a w ha _ => by
  simp [results, hr, ← Array.getD_eq_getD_getElem?, getD_of_ag ha h, getD_of_ag ha h']
theorem Res.three {t u s : Nat} {v x y : Value} (h : get e t = some v) (h' : get e u = some x) (h'' : get e s = some y) : Res P n #[.tmp t, .tmp u, .tmp s] e Ls (.tuple #[v, x, y]) := fun fn hr a w ha _ => by
  simp [results, hr, ← Array.getD_eq_getD_getElem?, getD_of_ag ha h, getD_of_ag ha h', getD_of_ag ha h'']
theorem Res.four {t u s q : Nat} {v x y z : Value} (h : get e t = some v) (h' : get e u = some x) (h'' : get e s = some y) (h3 : get e q = some z) : Res P n #[.tmp t, .tmp u, .tmp s, .tmp q] e Ls (.tuple #[v, x, y, z]) := fun fn hr a w ha _ => by
  simp [results, hr, ← Array.getD_eq_getD_getElem?, getD_of_ag ha h, getD_of_ag ha h', getD_of_ag ha h'', getD_of_ag ha h3]

theorem run_loadVar_agg {w : World} {t : TypeId} {k b o : Nat} {cs vs : List Value} {T : TypeId} {fz : Nat × Nat} (hT : aggSize P t = some k) (hm : w.heap[b]? = some (.cells cs.toArray T fz)) (hc : (cs.drop o).take k = vs) (hl : vs.length = k) :
    (loadVar t ⟨b, o, none⟩).run P w = .ok (.agg vs.toArray) w := by
  have h1 : (loadCells ⟨b, o, none⟩ k).run P w = .ok vs.toArray w := by
    rw [← hl]
    refine run_loadCells_list (P := P) (w := w) _ vs fun j v hj => ?_
    rw [addr_add]
    have hj' : cs[o + j]? = some v := by
      rw [← hc] at hj
      have hjk : j < k := by
        have := (List.getElem?_eq_some_iff.1 hj).1
        simp at this; omega
      simpa [List.getElem?_take, hjk, List.getElem?_drop] using hj
    simp [World.cell?, hm, hj']
  simp [loadVar, run_isAgg_agg hT, run_sizeOf_agg hT, h1]
theorem Res.cell1 {t b o k : Nat} {ty T : TypeId} {fz : Nat × Nat} {cs vs : List Value} (h : get e t = some (.pointer (some ⟨b, o, none⟩))) (hT : aggSize P ty = some k) (hm : (b, Obj.cells cs.toArray T fz) ∈ Ls.flatten) (hc : (cs.drop o).take k = vs) (hl : vs.length = k) :
    Res P n #[.cell t ty] e Ls (.agg vs.toArray) := fun fn hr a w ha hd => by
  have := run_loadVar_agg (P := P) (o := o) hT (hd _ hm) hc hl
  simp [results, hr, ← Array.getD_eq_getD_getElem?, getD_of_ag ha h, asAddr, this]
theorem Res.cell2 {t b o k u : Nat} {ty T : TypeId} {fz : Nat × Nat} {cs vs : List Value} {x : Value} (h : get e t = some (.pointer (some ⟨b, o, none⟩))) (h' : get e u = some x) (hT : aggSize P ty = some k) (hm : (b, Obj.cells cs.toArray T fz) ∈ Ls.flatten) (hc : (cs.drop o).take k = vs) (hl : vs.length = k) :
    Res P n #[.cell t ty, .tmp u] e Ls (.tuple #[.agg vs.toArray, x]) := fun fn hr a w ha hd => by
  have := run_loadVar_agg (P := P) (o := o) hT (hd _ hm) hc hl
  simp [results, hr, ← Array.getD_eq_getD_getElem?, getD_of_ag ha h, getD_of_ag ha h', asAddr, this]
end

section rules
variable {P : Program} {n : Nat} {ops : Array Oper} {r : List Oper} {Q : Q'} {e : Env} {Ls : List Foot} {d : Nat} {T : TypeId} {p : String} {af : Array Edge}

theorem WO.imp {Ls' : List Foot} (h : Imp Ls Ls') (k : WO P n ops r Q e Ls') : WO P n ops r Q e Ls := fun w0 rest a w ha hs => k w0 rest a w ha (h _ _ _ hs)
theorem WP.imp {c : Code} {Ls' : List Foot} (h : Imp Ls Ls') (k : WP P n c Q e Ls') : WP P n c Q e Ls := fun w0 rest a w ha hs => k w0 rest a w ha (h _ _ _ hs)
theorem WO.take {F : Foot} (i : Nat) (h : Ls[i]? = some F) (k : WO P n ops r Q e (F :: Ls.eraseIdx i)) : WO P n ops r Q e Ls := WO.imp (Imp.take i h) k
theorem WO.drop {F : Foot} (i : Nat) (h : Ls[i]? = some F) (k : WO P n ops r Q e (Ls.eraseIdx i)) : WO P n ops r Q e Ls := WO.imp (Imp.drop i h) k

/-- An operation that changes memory, or makes some. -/
theorem WO.eff {o : Oper} (R : Value → List Foot → Prop) (hg : o.guard = none) (hd : o.dst = some d) (hn : Nat.blt d n = true)
    (hv : ∀ w0 rest a w, Ag n e a → St w0 (Ls.flatten ++ rest) w → ∃ v w' Ls', (execOp a.eval o).run P w = .ok (.value v) w' ∧ R v Ls' ∧ St w0 (Ls'.flatten ++ rest) w')
    (k : ∀ v Ls', R v Ls' → WO P n ops r Q ((d, v) :: e) Ls') : WO P n ops (o :: r) Q e Ls :=
  WO.step hg fun w0 rest a w ha hs => by
    obtain ⟨v, w', Ls', h1, h2, h3⟩ := hv w0 rest a w ha hs
    unfold Oper.wp
    rw [h1, Oper.upon_value, hd]
    exact ⟨_, _, ha.put hn v, h3, k v Ls' h2⟩
theorem WO.effNone {o : Oper} (R : List Foot → Prop) (hg : o.guard = none) (hd : o.dst = none)
    (hv : ∀ w0 rest a w, Ag n e a → St w0 (Ls.flatten ++ rest) w → ∃ w' Ls', ((execOp a.eval o).run P w = .ok .skip w' ∨ ∃ v, (execOp a.eval o).run P w = .ok (.value v) w') ∧ R Ls' ∧ St w0 (Ls'.flatten ++ rest) w')
    (k : ∀ Ls', R Ls' → WO P n ops r Q e Ls') : WO P n ops (o :: r) Q e Ls :=
  WO.step hg fun w0 rest a w ha hs => by
    obtain ⟨w', Ls', h1, h2, h3⟩ := hv w0 rest a w ha hs
    unfold Oper.wp
    rcases h1 with h1 | ⟨v, h1⟩
    · rw [h1, Oper.upon_skip, hd]
      exact ⟨_, _, ha, h3, k Ls' h2⟩
    · rw [h1, Oper.upon_value, hd]
      exact ⟨_, _, ha, h3, k Ls' h2⟩

/-! ### Calls -/
theorem run_callFunc {K : FuncId} (h : callable P K = true) (args : Array Value) (w : World) : (callFunc K args).run P w = .ok (.enter K args) w := by
  unfold callable at h
  cases hf : P.funcs[K]? with
  | none => simp [hf] at h
  | some fn =>
    simp only [hf, Bool.and_eq_true, Bool.not_eq_true'] at h
    obtain ⟨h1, h2⟩ := h
    have h3 : ¬ fn.body = Option.none := by cases hb : fn.body <;> simp_all
    have h4 : ¬ fn.name = "runtime.NumGoroutine" := by simpa using h2
    simp [callFunc, hf, h4, h3]
theorem WO.callAny {o : Oper} {K : FuncId} {vs : List Value} {Lc Lr : List Foot} {R : Value → List Foot → Prop} (hg : o.guard = none)
    (hv : ∀ a w, Ag n e a → Hd Ls.flatten w → (execOp a.eval o).run P w = .ok (.enter K vs.toArray) w) (hL : Ls = Lc ++ Lr) (hs : CallsS P K vs Lc R)
    (hk : ∀ v L', R v L' → ∀ w0 rest a w, Ag n e a → St w0 ((L' ++ Lr).flatten ++ rest) w → Fits n w0 rest (fun e' Ls' => WO P n ops r Q e' Ls') (a.put o.dst v) w) : WO P n ops (o :: r) Q e Ls :=
  WO.step hg fun w0 rest a w ha hst => by
    unfold Oper.wp
    rw [hv a w ha fun p hp => hst.has p (List.mem_append_left _ hp), Oper.upon_enter]
    subst hL
    refine (hs w0 (Lr.flatten ++ rest) w (by simpa using hst)).mono ?_
    rintro x w' ⟨v, L', rfl, h2, h3⟩
    exact hk v L' h2 w0 rest a w' ha (by simpa using h3)
theorem exec_call {a : Act} {w : World} {K : FuncId} {xs : List Operand} {vs : List Value} {tys : Array TypeId} {dd : Option Nat} {g : Option (Nat × Bool)} (ha : Ag n e a) (hxs : evs e xs = some vs) (hK : callable P K = true) :
    (execOp a.eval ⟨dd, .call { callee := .value (.func K), args := xs.toArray, argTypes := tys }, T, p, af, g⟩).run P w = .ok (.enter K vs.toArray) w := by
  have h1 : xs.map a.eval = vs := ha.evalList hxs
  have h2 : (xs.toArray.map a.eval) = vs.toArray := by simp [h1]
  simp [execOp, resolve, Deferred.ofValue, invoke, h1, Act.eval, run_callFunc hK]
theorem WO.call {K : FuncId} {xs : List Operand} {vs : List Value} {tys : Array TypeId} {Lc Lr : List Foot} {R : Value → List Foot → Prop} (hs : CallsS P K vs Lc R) (hxs : evs e xs = some vs) (hK : callable P K = true) (hL : Ls = Lc ++ Lr) (hn : Nat.blt d n = true)
    (k : ∀ v L', R v L' → WO P n ops r Q ((d, v) :: e) (L' ++ Lr)) : WO P n ops (⟨some d, .call { callee := .value (.func K), args := xs.toArray, argTypes := tys }, T, p, af, none⟩ :: r) Q e Ls :=
  WO.callAny rfl (fun a w ha _ => exec_call ha hxs hK) hL hs fun v L' hR w0 rest a w ha hst => ⟨_, _, ha.put hn v, hst, k v L' hR⟩
theorem WO.callNone {K : FuncId} {xs : List Operand} {vs : List Value} {tys : Array TypeId} {Lc Lr : List Foot} {R : Value → List Foot → Prop} (hs : CallsS P K vs Lc R) (hxs : evs e xs = some vs) (hK : callable P K = true) (hL : Ls = Lc ++ Lr)
    (k : ∀ v L', R v L' → WO P n ops r Q e (L' ++ Lr)) : WO P n ops (⟨none, .call { callee := .value (.func K), args := xs.toArray, argTypes := tys }, T, p, af, none⟩ :: r) Q e Ls :=
  WO.callAny rfl (fun a w ha _ => exec_call ha hxs hK) hL hs fun v L' hR w0 rest a w ha hst => ⟨_, _, ha, hst, k v L' hR⟩

/-! ### Cells -/
theorem WO.load {x : Operand} {t : TypeId} {b o : Nat} {cs : List Value} {T' : TypeId} {fz : Nat × Nat} {v : Value} (hx : ev e x = some (.pointer (some ⟨b, o, none⟩))) (hT : isScalar P t = true) (hm : (b, Obj.cells cs.toArray T' fz) ∈ Ls.flatten) (hc : cs[o]? = some v) (hn : Nat.blt d n = true)
    (k : WO P n ops r Q ((d, v) :: e) Ls) : WO P n ops (⟨some d, .load t x, T, p, af, none⟩ :: r) Q e Ls :=
  WO.val rfl rfl hn (fun a w ha hd => by
    simp [execOp, ha.eval hx, Instr.loadAt, Instr.sureAddr, loadVar, run_isAgg_scalar hT, hd.cell hm hc]) k
theorem WO.loadAgg {x : Operand} {t : TypeId} {b o m : Nat} {cs vs : List Value} {T' : TypeId} {fz : Nat × Nat} (hx : ev e x = some (.pointer (some ⟨b, o, none⟩))) (hT : aggSize P t = some m) (hm : (b, Obj.cells cs.toArray T' fz) ∈ Ls.flatten) (hc : (cs.drop o).take m = vs) (hl : vs.length = m) (hn : Nat.blt d n = true)
    (k : WO P n ops r Q ((d, .agg vs.toArray) :: e) Ls) : WO P n ops (⟨some d, .load t x, T, p, af, none⟩ :: r) Q e Ls :=
  WO.val rfl rfl hn (fun a w ha hd => by
    simp [execOp, ha.eval hx, Instr.loadAt, Instr.sureAddr, run_loadVar_agg (P := P) (o := o) hT (hd _ hm) hc hl]) k
theorem WO.fieldAddr {x : Operand} {t : TypeId} {f b o m : Nat} (hx : ev e x = some (.pointer (some ⟨b, o, none⟩))) (hT : fieldOff P t f = some m) (hn : Nat.blt d n = true)
    (k : WO P n ops r Q ((d, .pointer (some ⟨b, o + m, none⟩)) :: e) Ls) : WO P n ops (⟨some d, .fieldAddr t x f, T, p, af, none⟩ :: r) Q e Ls :=
  WO.val rfl rfl hn (fun a w ha hd => by
    unfold fieldOff at hT
    cases hu : P.underlying t with
    | none => simp [hu] at hT
    | some u =>
      cases u <;> simp [hu] at hT
      rename_i fs
      cases hf : fs[f]? with
      | none => simp [hf] at hT
      | some x' =>
        simp only [hf] at hT
        cases hi : P.info? x'.type with
        | none => simp [hi] at hT
        | some i =>
          simp only [hi] at hT
          by_cases hs : i.size = 0
          · simp [hs] at hT
          · simp only [hs, if_false, Option.some.injEq] at hT
            simp [execOp, ha.eval hx, Instr.fieldAt, run_underlying hu, hf, Instr.sureAddr, fieldPlace, sizeOf, typeInfo, hi, hs, addr_add, hT]) k

/-- A new variable. -/
theorem WO.alloc {t : TypeId} {z : List Value} (hz : zeroOf P t = some z) (hn : Nat.blt d n = true) (k : ∀ b, WO P n ops r Q ((d, .pointer (some ⟨b, 0, none⟩)) :: e) ([(b, .cells z.toArray t (0, 0))] :: Ls)) : WO P n ops (⟨some d, .alloc t, T, p, af, none⟩ :: r) Q e Ls :=
  WO.eff (fun v L => ∃ b, v = .pointer (some ⟨b, 0, none⟩) ∧ L = [(b, .cells z.toArray t (0, 0))] :: Ls) rfl rfl hn
    (fun w0 rest a w ha hs => by
      obtain ⟨v, hv, hr⟩ := run_zeroValue (w := w) hz
      refine ⟨_, _, _, ?_, ⟨w.heap.size, rfl, rfl⟩, by simpa using hs.alloc _⟩
      simp [execOp, Instr.alloc, hr, newVar, newRow, hv])
    (by rintro v L ⟨b, rfl, rfl⟩; exact k b)
theorem WO.box {x : Operand} {t : TypeId} {v : Value} {z : List Value} (hx : ev e x = some v) (hz : v.cells = z.toArray) (hn : Nat.blt d n = true) (k : ∀ b, WO P n ops r Q ((d, .pointer (some ⟨b, 0, none⟩)) :: e) ([(b, .cells z.toArray t (0, 0))] :: Ls)) : WO P n ops (⟨some d, .box t x, T, p, af, none⟩ :: r) Q e Ls :=
  WO.eff (fun v L => ∃ b, v = .pointer (some ⟨b, 0, none⟩) ∧ L = [(b, .cells z.toArray t (0, 0))] :: Ls) rfl rfl hn
    (fun w0 rest a w ha hs => by
      refine ⟨_, _, _, ?_, ⟨w.heap.size, rfl, rfl⟩, by simpa using hs.alloc _⟩
      simp [execOp, ha.eval hx, Instr.box, newVar, newRow, hz])
    (by rintro v L ⟨b, rfl, rfl⟩; exact k b)

theorem setCell_block {w : World} {b o : Nat} {c : Array Value} {E : TypeId} {fz : Nat × Nat} (h : w.heap[b]? = some (.cells c E fz)) (v : Value) : w.setCell ⟨b, o, none⟩ v = { w with heap := w.heap.setIfInBounds b (.cells (c.setIfInBounds o v) E fz) } := by
  unfold World.setCell
  congr 1
  apply Array.ext_getElem?
  intro i
  simp only [Array.getElem?_modify]
  by_cases hi : b = i
  · subst hi
    obtain ⟨hlt, he⟩ := Array.getElem?_eq_some_iff.1 h
    simp [h, he, hlt]
  · simp [hi, Array.getElem?_setIfInBounds_ne hi]

/-- A run of cells is written over. -/
def over (cs : List Value) (o : Nat) (vs : List Value) : List Value := cs.take o ++ vs ++ cs.drop (o + vs.length)
theorem over_cons {cs : List Value} {o : Nat} {v : Value} {vs : List Value} (h : o + (vs.length + 1) ≤ cs.length) : over (cs.set o v) (o + 1) vs = over cs o (v :: vs) := by
  have hset : cs.set o v = cs.take o ++ v :: cs.drop (o + 1) := by simp [List.set_eq_take_append_cons_drop, show o < cs.length by omega]
  have hA : (cs.take o).length = o := by simp; omega
  have hd : cs.drop (o + (vs.length + 1)) = (cs.drop (o + 1)).drop vs.length := by rw [List.drop_drop]; congr 1; omega
  unfold over
  rw [List.length_cons, hd, hset]
  generalize cs.take o = A at *
  generalize cs.drop (o + 1) = B at *
  have h1 : (A ++ v :: B).take (o + 1) = A ++ [v] := by
    rw [List.take_append, hA, show o + 1 - o = 1 by omega, List.take_of_length_le (by omega)]; simp
  have h2 : (A ++ v :: B).drop (o + 1 + vs.length) = B.drop vs.length := by
    rw [List.drop_append, hA, List.drop_eq_nil_of_le (by omega), show o + 1 + vs.length - o = vs.length + 1 by omega]; simp
  rw [h1, h2]
  simp
theorem run_storeCells {w0 : World} {b : Nat} {E : TypeId} {L : Foot} : ∀ (vs : List Value) (i o : Nat) (cs : List Value) (w : World), (∀ v ∈ vs, v.oneCell' = true) → o + i + vs.length ≤ cs.length →
    St w0 ((b, .cells cs.toArray E (0, 0)) :: L) w → ∃ w', (storeCells ⟨b, o, none⟩ vs i).run P w = .ok () w' ∧ St w0 ((b, .cells (over cs (o + i) vs).toArray E (0, 0)) :: L) w'
  | [], i, o, cs, w, _, _, hs => ⟨w, rfl, by simpa [over] using hs⟩
  | v :: vs, i, o, cs, w, hv, hl, hs => by
    simp only [List.length_cons] at hl
    have hb : w.heap[b]? = some (.cells cs.toArray E (0, 0)) := hs.has _ (List.mem_cons_self ..)
    have hc : w.cell? ((⟨b, o, none⟩ : Addr).add i) = some (cs[o + i]'(by omega)) := by
      rw [addr_add]; simp [World.cell?, hb, show o + i < cs.length by omega]
    have hf : w.frozen? ((⟨b, o, none⟩ : Addr).add i) = false := by
      rw [addr_add]; simp [World.frozen?, hb]
    have h1 : (store ((⟨b, o, none⟩ : Addr).add i) v).run P w = .ok () (w.setCell ⟨b, o + i, none⟩ v) := by
      rw [run_store P w _ v .plain (hv v (List.mem_cons_self ..)), hc]
      rw [addr_add] at hf
      simp [hf, addr_add]
    have h2 : St w0 ((b, .cells (cs.set (o + i) v).toArray E (0, 0)) :: L) (w.setCell ⟨b, o + i, none⟩ v) := by
      have := hs.write (o' := .cells ((cs.toArray).setIfInBounds (o + i) v) E (0, 0)) (setCell_block hb v)
      simpa using this
    obtain ⟨w', h3, h4⟩ := run_storeCells vs (i + 1) o (cs.set (o + i) v) _ (fun u hu => hv u (List.mem_cons_of_mem _ hu)) (by simp; omega) h2
    refine ⟨w', by simp [storeCells, h1, h3], ?_⟩
    rw [← over_cons (by omega)]
    exact h4
theorem WO.storeAny {x y : Operand} {t : TypeId} {b o : Nat} {cs vs : List Value} {E : TypeId} {v : Value} (i : Nat) (hi : Ls[i]? = some [(b, .cells cs.toArray E (0, 0))]) (hx : ev e x = some (.pointer (some ⟨b, o, none⟩))) (hy : ev e y = some v)
    (hv : v.cells = vs.toArray) (hT : (sizeOf t).run P = fun w => .ok vs.length w) (h1 : ∀ u ∈ vs, u.oneCell' = true) (hl : o + vs.length ≤ cs.length) (cs' : List Value) (hc : over cs o vs = cs')
    (k : WO P n ops r Q e ([(b, .cells cs'.toArray E (0, 0))] :: Ls.eraseIdx i)) : WO P n ops (⟨none, .store t x y, T, p, af, none⟩ :: r) Q e Ls :=
  WO.effNone (fun L => L = [(b, .cells cs'.toArray E (0, 0))] :: Ls.eraseIdx i) rfl rfl
    (fun w0 rest a w ha hs => by
      have hs1 := Imp.take i hi _ _ _ hs
      simp only [List.flatten_cons, List.cons_append, List.nil_append] at hs1
      obtain ⟨w', h2, h3⟩ := run_storeCells (P := P) vs 0 o cs w h1 (by simpa using hl) hs1
      refine ⟨w', _, .inl ?_, rfl, by simpa [hc] using h3⟩
      have h4 : (storeCells ⟨b, o, none⟩ vs).run P w = .ok () w' := h2
      simp [execOp, ha.eval hx, ha.eval hy, Instr.storeAt, Instr.sureAddr, storeVar, hv, hT, h4])
    (by rintro L rfl; exact k)
theorem WO.store {x y : Operand} {t : TypeId} {b o : Nat} {cs : List Value} {E : TypeId} {v : Value} (i : Nat) (hi : Ls[i]? = some [(b, .cells cs.toArray E (0, 0))]) (hx : ev e x = some (.pointer (some ⟨b, o, none⟩))) (hy : ev e y = some v)
    (hT : isScalar P t = true) (h1 : v.oneCell' = true) (hl : Nat.blt o cs.length = true) (cs' : List Value) (hc : cs.set o v = cs')
    (k : WO P n ops r Q e ([(b, .cells cs'.toArray E (0, 0))] :: Ls.eraseIdx i)) : WO P n ops (⟨none, .store t x y, T, p, af, none⟩ :: r) Q e Ls :=
  WO.storeAny (vs := [v]) i hi hx hy (by cases v <;> first | rfl | simp [Value.oneCell'] at h1) (funext fun w => run_sizeOf_scalar hT) (by simpa using h1) (by simpa [Nat.succ_le_iff] using hl) cs'
    (by
      rw [← hc, ← over_cons (by simpa [Nat.succ_le_iff] using hl)]
      simp [over]) k
end rules
end Go.SL
