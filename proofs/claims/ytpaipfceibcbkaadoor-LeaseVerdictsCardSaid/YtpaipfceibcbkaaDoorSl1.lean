/- The rules for operations that look at no memory: over any program. -/
import Derived.Test.YtpaipfceibcbkaaDoorSl0
import Derived.WalkKit
set_option linter.unusedVariables false
set_option linter.unusedSimpArgs false
namespace Go.SL

def WO (P : Program) (n : Nat) (ops : Array Oper) (l : List Oper) (Q : Q') (e : Env) (Ls : List Foot) : Prop :=
  ∀ w0 rest a w, Ag n e a → St w0 (Ls.flatten ++ rest) w → wpList P ops (Post n w0 rest Q) l a w

/-- A text, out of its bytes. -/
abbrev str (l : List UInt8) : Value := .string ⟨⟨l⟩⟩

section rules
variable {P : Program} {n : Nat} {ops : Array Oper} {r : List Oper} {Q : Q'} {e : Env} {Ls : List Foot}

theorem WP.region {id : Nat} {l : List Oper} (h : WO P n l.toArray l Q e Ls) : WP P n (.region id l.toArray false) Q e Ls :=
  fun w0 rest a w ha hs => wp_region_lit (h w0 rest a w ha hs)

theorem WO.nil (h : Q .normal e Ls) : WO P n ops [] Q e Ls := fun _ _ _ _ ha hs => ⟨e, Ls, ha, hs, h⟩

theorem WO.sub (e' : Env) (hs : subB e' e) (h : WO P n ops r Q e' Ls) : WO P n ops r Q e Ls := fun w0 rest a w ha hst => h w0 rest a w (ha.sub hs) hst

theorem WO.step {o : Oper} (hg : o.guard = none)
    (h : ∀ w0 rest a w, Ag n e a → St w0 (Ls.flatten ++ rest) w → o.wp P a w (fun a' w' => Fits n w0 rest (fun e' Ls' => WO P n ops r Q e' Ls') a' w') (Post n w0 rest Q)) :
    WO P n ops (o :: r) Q e Ls := by
  intro w0 rest a w ha hs
  unfold wpList
  rw [if_pos (by simp [Region.wanted, hg])]
  refine .inl (Oper.wp_mono (fun a' w' hf => ?_) (h w0 rest a w ha hs))
  obtain ⟨e', Ls', h1, h2, h3⟩ := hf
  exact h3 w0 rest a' w' h1 h2

/-- An operation that only computes. -/
theorem WO.val {o : Oper} {d : Nat} {v : Value} (hg : o.guard = none) (hd : o.dst = some d) (hn : Nat.blt d n = true)
    (hv : ∀ a w, Ag n e a → Hd Ls.flatten w → (execOp a.eval o).run P w = .ok (.value v) w) (k : WO P n ops r Q ((d, v) :: e) Ls) : WO P n ops (o :: r) Q e Ls :=
  WO.step hg fun w0 rest a w ha hs => by
    unfold Oper.wp
    rw [hv a w ha fun p hp => hs.has p (List.mem_append_left _ hp), Oper.upon_value, hd]
    exact ⟨_, _, ha.put hn v, hs, k⟩
/-- One whose value nobody takes. -/
theorem WO.valNone {o : Oper} {v : Value} (hg : o.guard = none) (hd : o.dst = none)
    (hv : ∀ a w, Ag n e a → Hd Ls.flatten w → (execOp a.eval o).run P w = .ok (.value v) w) (k : WO P n ops r Q e Ls) : WO P n ops (o :: r) Q e Ls :=
  WO.step hg fun w0 rest a w ha hs => by
    unfold Oper.wp
    rw [hv a w ha fun p hp => hs.has p (List.mem_append_left _ hp), Oper.upon_value, hd]
    exact ⟨_, _, ha, hs, k⟩

/-! ### Guards -/
theorem yielded_of {a : Act} {j t : Nat} {b : Bool} (ha : Ag n e a) (hj : (ops[j]?).bind (·.dst) = some t) (hb : get e t = some (.bool b)) : yielded ops a.tmps j = some b := by
  unfold yielded
  rw [hj]
  simp [ha.look t _ hb]
theorem WO.want {d : Option Nat} {op : Op} {T : TypeId} {p : String} {af : Array Edge} {j : Nat} {b : Bool} (t : Nat) (hj : (ops[j]?).bind (·.dst) = some t) (hb : get e t = some (.bool b))
    (k : WO P n ops (⟨d, op, T, p, af, none⟩ :: r) Q e Ls) : WO P n ops (⟨d, op, T, p, af, some (j, b)⟩ :: r) Q e Ls := by
  intro w0 rest a w ha hs
  have := k w0 rest a w ha hs
  unfold wpList at this ⊢
  rw [if_pos (by simp [Region.wanted])] at this
  rw [if_pos (by simp [Region.wanted, yielded_of ha hj hb])]
  exact this
theorem WO.pass {d : Nat} {op : Op} {T : TypeId} {p : String} {af : Array Edge} {j : Nat} {b c : Bool} (t : Nat) (hj : (ops[j]?).bind (·.dst) = some t) (hb : get e t = some (.bool b)) (hc : (b == c) = false)
    (hn : Nat.blt d n = true) (k : WO P n ops r Q ((d, undef) :: e) Ls) : WO P n ops (⟨some d, op, T, p, af, some (j, c)⟩ :: r) Q e Ls := by
  intro w0 rest a w ha hs
  have hbc : b ≠ c := by simpa using hc
  unfold wpList
  rw [if_neg (by simp [Region.wanted, yielded_of ha hj hb, hbc])]
  exact k w0 rest _ w (ha.put hn undef) hs
theorem WO.passNone {op : Op} {T : TypeId} {p : String} {af : Array Edge} {j : Nat} {b c : Bool} (t : Nat) (hj : (ops[j]?).bind (·.dst) = some t) (hb : get e t = some (.bool b)) (hc : (b == c) = false)
    (k : WO P n ops r Q e Ls) : WO P n ops (⟨none, op, T, p, af, some (j, c)⟩ :: r) Q e Ls := by
  intro w0 rest a w ha hs
  have hbc : b ≠ c := by simpa using hc
  unfold wpList
  rw [if_neg (by simp [Region.wanted, yielded_of ha hj hb, hbc])]
  exact k w0 rest _ w ha hs
theorem yielded_undef {a : Act} {j t : Nat} (ha : Ag n e a) (hj : (ops[j]?).bind (·.dst) = some t) (hb : get e t = some undef) : yielded ops a.tmps j = none := by
  unfold yielded
  rw [hj]
  simp [ha.look t _ hb, undef]
theorem WO.passU {d : Nat} {op : Op} {T : TypeId} {p : String} {af : Array Edge} {j : Nat} {c : Bool} (t : Nat) (hj : (ops[j]?).bind (·.dst) = some t) (hb : get e t = some undef)
    (hn : Nat.blt d n = true) (k : WO P n ops r Q ((d, undef) :: e) Ls) : WO P n ops (⟨some d, op, T, p, af, some (j, c)⟩ :: r) Q e Ls := by
  intro w0 rest a w ha hs
  unfold wpList
  rw [if_neg (by simp [Region.wanted, yielded_undef ha hj hb])]
  exact k w0 rest _ w (ha.put hn undef) hs
/-- A bool's two values, each for itself. -/
theorem get_same {t : Nat} {v : Value} (h : get e t = some v) : ∀ i u, get ((t, v) :: e) i = some u → get e i = some u := by
  intro i u hi
  simp only [get] at hi
  cases hb : Nat.beq t i with
  | true =>
    obtain rfl := Nat.eq_of_beq_eq_true hb
    simp only [hb, cond_true, Option.some.injEq] at hi
    rw [h, hi]
  | false => simpa only [hb, cond_false] using hi
theorem WO.split (t : Nat) {b : Bool} (ht : get e t = some (.bool b)) (h1 : b = true → WO P n ops r Q ((t, .bool true) :: e) Ls) (h0 : b = false → WO P n ops r Q ((t, .bool false) :: e) Ls) : WO P n ops r Q e Ls := by
  intro w0 rest a w ha hs
  cases b with
  | true => exact h1 rfl w0 rest a w ⟨ha.size, ha.defers, fun i v hi => ha.look i v (get_same ht i v hi)⟩ hs
  | false => exact h0 rfl w0 rest a w ⟨ha.size, ha.defers, fun i v hi => ha.look i v (get_same ht i v hi)⟩ hs

/-! ### Moves -/
section
variable {d : Nat} {T : TypeId} {p : String} {af : Array Edge}
theorem WO.move {x : Operand} {v : Value} (hx : ev e x = some v) (hn : Nat.blt d n = true) (k : WO P n ops r Q ((d, v) :: e) Ls) : WO P n ops (⟨some d, .move x, T, p, af, none⟩ :: r) Q e Ls :=
  WO.val rfl rfl hn (fun a w ha _ => by simp only [execOp, ha.eval hx]; rfl) k
theorem WO.assign {x : Operand} {v : Value} (hx : ev e x = some v) (hn : Nat.blt d n = true) (k : WO P n ops r Q ((d, v) :: e) Ls) : WO P n ops (⟨some d, .assign x, T, p, af, none⟩ :: r) Q e Ls :=
  WO.val rfl rfl hn (fun a w ha _ => by simp only [execOp, ha.eval hx]; rfl) k
theorem WO.assignNone {x : Operand} {v : Value} (hx : ev e x = some v) (k : WO P n ops r Q e Ls) : WO P n ops (⟨none, .assign x, T, p, af, none⟩ :: r) Q e Ls :=
  WO.valNone rfl rfl (fun a w ha _ => by simp only [execOp, ha.eval hx]; rfl) k
theorem WO.pickT {c x y : Operand} {v : Value} (hc : ev e c = some (.bool true)) (hx : ev e x = some v) (hn : Nat.blt d n = true) (k : WO P n ops r Q ((d, v) :: e) Ls) : WO P n ops (⟨some d, .pick c x y, T, p, af, none⟩ :: r) Q e Ls :=
  WO.val rfl rfl hn (fun a w ha _ => by simp [execOp, ha.eval hc, ha.eval hx, asBool]) k
theorem WO.pickF {c x y : Operand} {v : Value} (hc : ev e c = some (.bool false)) (hx : ev e y = some v) (hn : Nat.blt d n = true) (k : WO P n ops r Q ((d, v) :: e) Ls) : WO P n ops (⟨some d, .pick c x y, T, p, af, none⟩ :: r) Q e Ls :=
  WO.val rfl rfl hn (fun a w ha _ => by simp [execOp, ha.eval hc, ha.eval hx, asBool]) k
theorem WO.extract {x : Operand} {i : Nat} {l : List Value} {v : Value} (hx : ev e x = some (.tuple l.toArray)) (hi : l[i]? = some v) (hn : Nat.blt d n = true) (k : WO P n ops r Q ((d, v) :: e) Ls) : WO P n ops (⟨some d, .extract x i, T, p, af, none⟩ :: r) Q e Ls :=
  WO.val rfl rfl hn (fun a w ha _ => by simp [execOp, ha.eval hx, Instr.extract, hi]) k
theorem WO.nilCheck {x : Operand} {a : Addr} (hx : ev e x = some (.pointer (some a))) (hn : Nat.blt d n = true) (k : WO P n ops r Q ((d, .pointer (some a)) :: e) Ls) : WO P n ops (⟨some d, .nilCheck x, T, p, af, none⟩ :: r) Q e Ls :=
  WO.val rfl rfl hn (fun a w ha _ => by simp [execOp, ha.eval hx]) k
theorem WO.nilCheckFn {x : Operand} {f : FuncId} {a1 a2 : Array Value} (hx : ev e x = some (.func (.func f) a1 a2)) (hn : Nat.blt d n = true) (k : WO P n ops r Q ((d, .func (.func f) a1 a2) :: e) Ls) : WO P n ops (⟨some d, .nilCheck x, T, p, af, none⟩ :: r) Q e Ls :=
  WO.val rfl rfl hn (fun a w ha _ => by simp [execOp, ha.eval hx]) k
theorem WO.nilCheckNone {x : Operand} {a : Addr} (hx : ev e x = some (.pointer (some a))) (k : WO P n ops r Q e Ls) : WO P n ops (⟨none, .nilCheck x, T, p, af, none⟩ :: r) Q e Ls :=
  WO.valNone (v := .pointer (some a)) rfl rfl (fun a w ha _ => by simp [execOp, ha.eval hx]) k

/-! ### Whole numbers -/
variable {xT yT : TypeId} {x y : Operand} {kd : IntKind} {a b c : Int}
theorem eqGuard_int (op : BinOp) (w : World) (x y : Operand) (k k' : IntKind) (a b : Int) : (eqGuard op xT x y (.int k a) (.int k' b)).run P w = .ok () w := by cases op <;> simp [eqGuard]
theorem eqGuard_str (op : BinOp) (w : World) (x y : Operand) (a b : ByteArray) : (eqGuard op xT x y (.string a) (.string b)).run P w = .ok () w := by cases op <;> simp [eqGuard]
theorem eqGuard_bool (op : BinOp) (w : World) (x y : Operand) (a b : Bool) : (eqGuard op xT x y (.bool a) (.bool b)).run P w = .ok () w := by cases op <;> simp [eqGuard]
theorem eqGuard_ptr (op : BinOp) (w : World) (x y : Operand) (a b : Option Addr) : (eqGuard op xT x y (.pointer a) (.pointer b)).run P w = .ok () w := by cases op <;> simp [eqGuard]
theorem WO.add (hx : ev e x = some (.int kd a)) (hy : ev e y = some (.int kd b)) (hc : kd.wrap (a + b) = c) (hn : Nat.blt d n = true) (k : WO P n ops r Q ((d, .int kd c) :: e) Ls) : WO P n ops (⟨some d, .binOp .add xT x y yT, T, p, af, none⟩ :: r) Q e Ls :=
  WO.val rfl rfl hn (fun _ w ha _ => by simp [execOp, ha.eval hx, ha.eval hy, eqGuard_int, binOp, Op.intArith, hc]) k
theorem WO.sub' (hx : ev e x = some (.int kd a)) (hy : ev e y = some (.int kd b)) (hc : kd.wrap (a - b) = c) (hn : Nat.blt d n = true) (k : WO P n ops r Q ((d, .int kd c) :: e) Ls) : WO P n ops (⟨some d, .binOp .sub xT x y yT, T, p, af, none⟩ :: r) Q e Ls :=
  WO.val rfl rfl hn (fun _ w ha _ => by simp [execOp, ha.eval hx, ha.eval hy, eqGuard_int, binOp, Op.intArith, hc]) k
theorem WO.mul (hx : ev e x = some (.int kd a)) (hy : ev e y = some (.int kd b)) (hc : kd.wrap (a * b) = c) (hn : Nat.blt d n = true) (k : WO P n ops r Q ((d, .int kd c) :: e) Ls) : WO P n ops (⟨some d, .binOp .mul xT x y yT, T, p, af, none⟩ :: r) Q e Ls :=
  WO.val rfl rfl hn (fun _ w ha _ => by simp [execOp, ha.eval hx, ha.eval hy, eqGuard_int, binOp, Op.intArith, hc]) k
theorem WO.quo (hx : ev e x = some (.int kd a)) (hy : ev e y = some (.int kd b)) (hb : b ≠ 0) (hc : kd.wrap (a.tdiv b) = c) (hn : Nat.blt d n = true) (k : WO P n ops r Q ((d, .int kd c) :: e) Ls) : WO P n ops (⟨some d, .binOp .quo xT x y yT, T, p, af, none⟩ :: r) Q e Ls :=
  WO.val rfl rfl hn (fun _ w ha _ => by simp [execOp, ha.eval hx, ha.eval hy, eqGuard_int, binOp, Op.intDiv, hb, hc]) k
theorem WO.rem (hx : ev e x = some (.int kd a)) (hy : ev e y = some (.int kd b)) (hb : b ≠ 0) (hc : a.tmod b = c) (hn : Nat.blt d n = true) (k : WO P n ops r Q ((d, .int kd c) :: e) Ls) : WO P n ops (⟨some d, .binOp .rem xT x y yT, T, p, af, none⟩ :: r) Q e Ls :=
  WO.val rfl rfl hn (fun _ w ha _ => by simp [execOp, ha.eval hx, ha.eval hy, eqGuard_int, binOp, Op.intDiv, hb, hc]) k
theorem WO.eqlI (hx : ev e x = some (.int kd a)) (hy : ev e y = some (.int kd b)) (hn : Nat.blt d n = true) (k : WO P n ops r Q ((d, .bool (a == b)) :: e) Ls) : WO P n ops (⟨some d, .binOp .eql xT x y yT, T, p, af, none⟩ :: r) Q e Ls :=
  WO.val rfl rfl hn (fun _ w ha _ => by simp [execOp, ha.eval hx, ha.eval hy, eqGuard_int, binOp, Op.intCmp]) k
theorem WO.neqI (hx : ev e x = some (.int kd a)) (hy : ev e y = some (.int kd b)) (hn : Nat.blt d n = true) (k : WO P n ops r Q ((d, .bool (a != b)) :: e) Ls) : WO P n ops (⟨some d, .binOp .neq xT x y yT, T, p, af, none⟩ :: r) Q e Ls :=
  WO.val rfl rfl hn (fun _ w ha _ => by simp [execOp, ha.eval hx, ha.eval hy, eqGuard_int, binOp, Op.intCmp]) k
theorem WO.lssI (hx : ev e x = some (.int kd a)) (hy : ev e y = some (.int kd b)) (hn : Nat.blt d n = true) (k : WO P n ops r Q ((d, .bool (decide (a < b))) :: e) Ls) : WO P n ops (⟨some d, .binOp .lss xT x y yT, T, p, af, none⟩ :: r) Q e Ls :=
  WO.val rfl rfl hn (fun _ w ha _ => by simp [execOp, ha.eval hx, ha.eval hy, eqGuard_int, binOp, Op.intCmp]) k
theorem WO.leqI (hx : ev e x = some (.int kd a)) (hy : ev e y = some (.int kd b)) (hn : Nat.blt d n = true) (k : WO P n ops r Q ((d, .bool (decide (a ≤ b))) :: e) Ls) : WO P n ops (⟨some d, .binOp .leq xT x y yT, T, p, af, none⟩ :: r) Q e Ls :=
  WO.val rfl rfl hn (fun _ w ha _ => by simp [execOp, ha.eval hx, ha.eval hy, eqGuard_int, binOp, Op.intCmp]) k
theorem WO.gtrI (hx : ev e x = some (.int kd a)) (hy : ev e y = some (.int kd b)) (hn : Nat.blt d n = true) (k : WO P n ops r Q ((d, .bool (decide (b < a))) :: e) Ls) : WO P n ops (⟨some d, .binOp .gtr xT x y yT, T, p, af, none⟩ :: r) Q e Ls :=
  WO.val rfl rfl hn (fun _ w ha _ => by simp [execOp, ha.eval hx, ha.eval hy, eqGuard_int, binOp, Op.intCmp]) k
theorem WO.geqI (hx : ev e x = some (.int kd a)) (hy : ev e y = some (.int kd b)) (hn : Nat.blt d n = true) (k : WO P n ops r Q ((d, .bool (decide (b ≤ a))) :: e) Ls) : WO P n ops (⟨some d, .binOp .geq xT x y yT, T, p, af, none⟩ :: r) Q e Ls :=
  WO.val rfl rfl hn (fun _ w ha _ => by simp [execOp, ha.eval hx, ha.eval hy, eqGuard_int, binOp, Op.intCmp]) k
theorem WO.not {b : Bool} (hx : ev e x = some (.bool b)) (hn : Nat.blt d n = true) (k : WO P n ops r Q ((d, .bool (!b)) :: e) Ls) : WO P n ops (⟨some d, .unOp .not xT x, T, p, af, none⟩ :: r) Q e Ls :=
  WO.val rfl rfl hn (fun _ w ha _ => by simp [execOp, ha.eval hx, Op.unary]) k
theorem WO.neg (hx : ev e x = some (.int kd a)) (hc : kd.wrap (0 - a) = c) (hn : Nat.blt d n = true) (k : WO P n ops r Q ((d, .int kd c) :: e) Ls) : WO P n ops (⟨some d, .unOp .neg xT x, T, p, af, none⟩ :: r) Q e Ls :=
  WO.val rfl rfl hn (fun _ w ha _ => by simp only [execOp, ha.eval hx]; simp only [Op.unary, Op.intArith, Sem.run_bind, Sem.run_pure, Result.andThen_ok, hc]) k
theorem WO.conv {k' : IntKind} (hx : ev e x = some (.int kd a)) (hT : P.underlying yT = some (.int k')) (hS : P.underlying xT = some (.int kd)) (hc : k'.wrap a = c) (hn : Nat.blt d n = true) (k : WO P n ops r Q ((d, .int k' c) :: e) Ls) : WO P n ops (⟨some d, .convert xT yT x, T, p, af, none⟩ :: r) Q e Ls :=
  WO.val rfl rfl hn (fun _ w ha _ => by simp [execOp, ha.eval hx, convert, underlying, hT, hS, Conv.intToInt, hc]) k
theorem WO.min2 {tys : Array TypeId} (hx : ev e x = some (.int kd a)) (hy : ev e y = some (.int kd b)) (hn : Nat.blt d n = true) (k : WO P n ops r Q ((d, .int kd (min a b)) :: e) Ls) : WO P n ops (⟨some d, .call { callee := .builtin .min, args := #[x, y], argTypes := tys }, T, p, af, none⟩ :: r) Q e Ls :=
  WO.val rfl rfl hn (fun _ w ha _ => by
    have : (if b < a then b else a) = min a b := by omega
    simp [execOp, resolve, invoke, builtin, ha.eval hx, ha.eval hy, Builtin.min_, Builtin.min2, this]) k
theorem WO.max2 {tys : Array TypeId} (hx : ev e x = some (.int kd a)) (hy : ev e y = some (.int kd b)) (hn : Nat.blt d n = true) (k : WO P n ops r Q ((d, .int kd (max a b)) :: e) Ls) : WO P n ops (⟨some d, .call { callee := .builtin .max, args := #[x, y], argTypes := tys }, T, p, af, none⟩ :: r) Q e Ls :=
  WO.val rfl rfl hn (fun _ w ha _ => by
    have : (if a < b then b else a) = max a b := by omega
    simp [execOp, resolve, invoke, builtin, ha.eval hx, ha.eval hy, Builtin.max_, Builtin.max2, this]) k

end
end rules
end Go.SL
