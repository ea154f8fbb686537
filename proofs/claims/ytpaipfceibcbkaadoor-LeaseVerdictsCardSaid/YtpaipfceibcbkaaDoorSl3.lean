/- Texts, bools, pointers against nil, lengths, structs that are built; calls of functions that only compute. -/
import Derived.Test.YtpaipfceibcbkaaDoorSl2
set_option linter.unusedVariables false
set_option linter.unusedSimpArgs false
namespace Go.SL

theorem wrap_i64 {a : Int} (h0 : -9223372036854775808 ≤ a) (h1 : a ≤ 9223372036854775807) : IntKind.i64.wrap a = a := by
  unfold IntKind.wrap; simp only [IntKind.bits, IntKind.signed]; simp; omega
theorem wrap_i32 {a : Int} (h0 : -2147483648 ≤ a) (h1 : a ≤ 2147483647) : IntKind.i32.wrap a = a := by
  unfold IntKind.wrap; simp only [IntKind.bits, IntKind.signed]; simp; omega
theorem wrap_u8 {a : Int} (h0 : 0 ≤ a) (h1 : a ≤ 255) : IntKind.u8.wrap a = a := by
  unfold IntKind.wrap; simp only [IntKind.bits, IntKind.signed]; simp; omega
theorem wrap_u16 {a : Int} (h0 : 0 ≤ a) (h1 : a ≤ 65535) : IntKind.u16.wrap a = a := by
  unfold IntKind.wrap; simp only [IntKind.bits, IntKind.signed]; simp; omega
theorem wrap_u32 {a : Int} (h0 : 0 ≤ a) (h1 : a ≤ 4294967295) : IntKind.u32.wrap a = a := by
  unfold IntKind.wrap; simp only [IntKind.bits, IntKind.signed]; simp; omega
theorem wrap_u64 {a : Int} (h0 : 0 ≤ a) (h1 : a ≤ 18446744073709551615) : IntKind.u64.wrap a = a := by
  unfold IntKind.wrap; simp only [IntKind.bits, IntKind.signed]; simp; omega
theorem quo_i64 {a b : Int} (h0 : 0 ≤ a ∧ a ≤ 9223372036854775807) (h1 : 0 < b) : IntKind.i64.wrap (a.tdiv b) = a / b := by
  rw [Int.tdiv_eq_ediv_of_nonneg h0.1]
  have h2 : a / b ≤ a := Int.ediv_le_self _ h0.1
  have h3 : 0 ≤ a / b := Int.ediv_nonneg h0.1 (Int.le_of_lt h1)
  exact wrap_i64 (by omega) (by omega)
theorem rem_i64 {a b : Int} (h0 : 0 ≤ a) (h1 : 0 ≤ a) : a.tmod b = a % b := Int.tmod_eq_emod_of_nonneg h0
theorem quo_u32 {a b : Int} (h0 : 0 ≤ a ∧ a ≤ 4294967295) (h1 : 0 < b) : IntKind.u32.wrap (a.tdiv b) = a / b := by
  rw [Int.tdiv_eq_ediv_of_nonneg h0.1]
  have h2 : a / b ≤ a := Int.ediv_le_self _ h0.1
  have h3 : 0 ≤ a / b := Int.ediv_nonneg h0.1 (Int.le_of_lt h1)
  exact wrap_u32 (by omega) (by omega)

/-! ### Texts -/
/-- A text's byte. -/
def bt (l : List UInt8) (i : Int) : Int := ((l.getD i.toNat 0).toNat : Int)
theorem bt_range (l : List UInt8) (i : Int) : 0 ≤ bt l i ∧ bt l i ≤ 255 := by
  unfold bt
  have := (l.getD i.toNat 0).toNat_lt
  omega
/-- A piece of a text. -/
def cut (l : List UInt8) (a b : Int) : List UInt8 := (l.drop a.toNat).take (b.toNat - a.toNat)

theorem ba_size (l : List UInt8) : (⟨⟨l⟩⟩ : ByteArray).size = l.length := rfl
theorem ba_append (a b : List UInt8) : (⟨⟨a⟩⟩ ++ ⟨⟨b⟩⟩ : ByteArray) = ⟨⟨a ++ b⟩⟩ := by
  apply ByteArray.ext
  simp
theorem ba_loop (bs : ByteArray) : ∀ (m i : Nat) (r : List UInt8), bs.size - i = m → ByteArray.toList.loop bs i r = r.reverse ++ bs.data.toList.drop i := by
  intro m
  induction m with
  | zero => intro i r h; unfold ByteArray.toList.loop; rw [if_neg (by omega)]; rw [List.drop_eq_nil_of_le (by simp; omega)]; simp
  | succ m ih =>
    intro i r h
    unfold ByteArray.toList.loop
    have hi : i < bs.size := by omega
    rw [if_pos hi, ih (i+1) _ (by omega)]
    have : bs.data.toList.drop i = bs.get! i :: bs.data.toList.drop (i+1) := by
      rw [List.drop_eq_getElem_cons (by simpa using hi)]
      congr 1
      have : i < bs.data.size := hi
      simp [ByteArray.get!, getElem!_pos bs.data i this]
    rw [this]; simp
theorem ba_toList (a : List UInt8) : (⟨⟨a⟩⟩ : ByteArray).toList = a := by
  unfold ByteArray.toList
  rw [ba_loop _ _ 0 [] rfl]; simp
theorem ba_extract (l : List UInt8) (a b : Nat) : (⟨⟨l⟩⟩ : ByteArray).extract a b = ⟨⟨(l.drop a).take (b - a)⟩⟩ := by
  apply ByteArray.ext
  simp [ByteArray.data_extract, List.extract_eq_take_drop]
theorem ba_eta (s : ByteArray) : s = ⟨⟨s.data.toList⟩⟩ := by cases s; rfl

section rules
variable {P : Program} {n : Nat} {ops : Array Oper} {r : List Oper} {Q : Q'} {e : Env} {Ls : List Foot} {d : Nat} {T : TypeId} {p : String} {af : Array Edge} {xT yT : TypeId} {x y z : Operand}
theorem WO.callP {K : FuncId} {xs : List Operand} {vs : List Value} {tys : Array TypeId} {v : Value} (hs : CallsS P K vs [] fun u L => u = v ∧ L = []) (hxs : evs e xs = some vs) (hK : callable P K = true) (hn : Nat.blt d n = true)
    (k : WO P n ops r Q ((d, v) :: e) Ls) : WO P n ops (⟨some d, .call { callee := .value (.func K), args := xs.toArray, argTypes := tys }, T, p, af, none⟩ :: r) Q e Ls :=
  WO.call hs hxs hK (Lr := Ls) rfl hn (by rintro v L ⟨rfl, rfl⟩; exact k)
theorem WO.callPNone {K : FuncId} {xs : List Operand} {vs : List Value} {tys : Array TypeId} {v : Value} (hs : CallsS P K vs [] fun u L => u = v ∧ L = []) (hxs : evs e xs = some vs) (hK : callable P K = true)
    (k : WO P n ops r Q e Ls) : WO P n ops (⟨none, .call { callee := .value (.func K), args := xs.toArray, argTypes := tys }, T, p, af, none⟩ :: r) Q e Ls :=
  WO.callNone hs hxs hK (Lr := Ls) rfl (by rintro v L ⟨rfl, rfl⟩; exact k)

/-! ### Texts -/
theorem WO.addS {a b : List UInt8} (hx : ev e x = some (str a)) (hy : ev e y = some (str b)) (hl : a.length + b.length ≤ 9223372036854775807) (hn : Nat.blt d n = true) (k : WO P n ops r Q ((d, str (a ++ b)) :: e) Ls) : WO P n ops (⟨some d, .binOp .add xT x y yT, T, p, af, none⟩ :: r) Q e Ls :=
  WO.val rfl rfl hn (fun _ w ha _ => by
    have h : ¬ ((a.length : Int) + b.length > IntKind.i64.max) := by have : IntKind.i64.max = 9223372036854775807 := rfl; omega
    simp [execOp, ha.eval hx, ha.eval hy, eqGuard_str, binOp, Op.stringOp, ba_size, ba_append]; omega) k
theorem WO.eqlS {a b : List UInt8} (hx : ev e x = some (str a)) (hy : ev e y = some (str b)) (hn : Nat.blt d n = true) (k : WO P n ops r Q ((d, .bool (a == b)) :: e) Ls) : WO P n ops (⟨some d, .binOp .eql xT x y yT, T, p, af, none⟩ :: r) Q e Ls :=
  WO.val rfl rfl hn (fun _ w ha _ => by simp [execOp, ha.eval hx, ha.eval hy, eqGuard_str, binOp, Op.stringOp, ba_toList]) k
theorem WO.neqS {a b : List UInt8} (hx : ev e x = some (str a)) (hy : ev e y = some (str b)) (hn : Nat.blt d n = true) (k : WO P n ops r Q ((d, .bool (a != b)) :: e) Ls) : WO P n ops (⟨some d, .binOp .neq xT x y yT, T, p, af, none⟩ :: r) Q e Ls :=
  WO.val rfl rfl hn (fun _ w ha _ => by simp [execOp, ha.eval hx, ha.eval hy, eqGuard_str, binOp, Op.stringOp, ba_toList, bne]) k
theorem WO.lssS {a b : List UInt8} (hx : ev e x = some (str a)) (hy : ev e y = some (str b)) (hn : Nat.blt d n = true) (k : WO P n ops r Q ((d, .bool (Op.bytesLess a b)) :: e) Ls) : WO P n ops (⟨some d, .binOp .lss xT x y yT, T, p, af, none⟩ :: r) Q e Ls :=
  WO.val rfl rfl hn (fun _ w ha _ => by simp [execOp, ha.eval hx, ha.eval hy, eqGuard_str, binOp, Op.stringOp, ba_toList]) k
theorem WO.gtrS {a b : List UInt8} (hx : ev e x = some (str a)) (hy : ev e y = some (str b)) (hn : Nat.blt d n = true) (k : WO P n ops r Q ((d, .bool !(Op.bytesLess a b || a == b)) :: e) Ls) : WO P n ops (⟨some d, .binOp .gtr xT x y yT, T, p, af, none⟩ :: r) Q e Ls :=
  WO.val rfl rfl hn (fun _ w ha _ => by simp [execOp, ha.eval hx, ha.eval hy, eqGuard_str, binOp, Op.stringOp, ba_toList]) k
theorem WO.convSS {a : List UInt8} (hx : ev e x = some (str a)) (hT : P.underlying yT = some .string) (hS : P.underlying xT = some .string) (hn : Nat.blt d n = true) (k : WO P n ops r Q ((d, str a) :: e) Ls) : WO P n ops (⟨some d, .convert xT yT x, T, p, af, none⟩ :: r) Q e Ls :=
  WO.val rfl rfl hn (fun _ w ha _ => by simp [execOp, ha.eval hx, convert, run_underlying hT, run_underlying hS]) k
theorem WO.lenS {a : List UInt8} (hx : ev e x = some (str a)) (hT : P.underlying xT = some .string) (hn : Nat.blt d n = true) (k : WO P n ops r Q ((d, .int .i64 (a.length : Int)) :: e) Ls) : WO P n ops (⟨some d, .call { callee := .builtin .len, args := #[x], argTypes := #[xT] }, T, p, af, none⟩ :: r) Q e Ls :=
  WO.val rfl rfl hn (fun _ w ha _ => by simp [execOp, resolve, invoke, builtin, ha.eval hx, Builtin.len_, run_underlying hT, goInt, ba_size]) k
theorem WO.lenL {A : Option Addr} {m c : Nat} {E : TypeId} (hx : ev e x = some (.slice A m c)) (hT : P.underlying xT = some (.slice E)) (hn : Nat.blt d n = true) (k : WO P n ops r Q ((d, .int .i64 (m : Int)) :: e) Ls) : WO P n ops (⟨some d, .call { callee := .builtin .len, args := #[x], argTypes := #[xT] }, T, p, af, none⟩ :: r) Q e Ls :=
  WO.val rfl rfl hn (fun _ w ha _ => by simp [execOp, resolve, invoke, builtin, ha.eval hx, Builtin.len_, run_underlying hT, goInt]) k
theorem WO.indexS {a : List UInt8} {kd : IntKind} {i c : Int} (hx : ev e x = some (str a)) (hy : ev e y = some (.int kd i)) (hT : P.underlying xT = some .string) (hi : 0 ≤ i ∧ i < a.length) (hc : bt a i = c) (hn : Nat.blt d n = true)
    (k : WO P n ops r Q ((d, .int .u8 c) :: e) Ls) : WO P n ops (⟨some d, .index xT x y, T, p, af, none⟩ :: r) Q e Ls :=
  WO.val rfl rfl hn (fun _ w ha _ => by
    subst hc
    have hlt : i.toNat < a.length := by omega
    have h1 : (⟨⟨a⟩⟩ : ByteArray)[i.toNat]? = some a[i.toNat] := by
      have h2 : i.toNat < (⟨⟨a⟩⟩ : ByteArray).size := hlt
      simp only [getElem?_pos (⟨⟨a⟩⟩ : ByteArray) i.toNat h2]
      rfl
    simp [execOp, ha.eval hx, ha.eval hy, Instr.index, asIntOf, run_underlying hT, hi.1, h1, bt, List.getD_eq_getElem?_getD, List.getElem?_eq_getElem hlt]) k
theorem run_bound {w : World} {kd : IntKind} {i : Int} {m : Nat} {code : BoundsCode} (h : 0 ≤ i ∧ i ≤ m) : (Instr.sliceBound (.int kd i) m code).run P w = .ok i.toNat w := by
  simp [Instr.sliceBound, asIntOf, h.1, h.2]
theorem WO.sliceSLH {a : List UInt8} {kd kd' : IntKind} {i j : Int} (hx : ev e x = some (str a)) (hy : ev e y = some (.int kd i)) (hz : ev e z = some (.int kd' j)) (hT : P.underlying xT = some .string) (h0 : 0 ≤ i ∧ i ≤ j) (h1 : j ≤ a.length) (hn : Nat.blt d n = true)
    (k : WO P n ops r Q ((d, str (cut a i j)) :: e) Ls) : WO P n ops (⟨some d, .slice xT x (some y) (some z) none, T, p, af, none⟩ :: r) Q e Ls :=
  WO.val rfl rfl hn (fun _ w ha _ => by
    have g1 : (Instr.sliceBound (.int kd' j) a.length .sliceAlen).run P w = .ok j.toNat w := run_bound (by omega)
    have g2 : (Instr.sliceBound (.int kd i) j.toNat .sliceB).run P w = .ok i.toNat w := run_bound (by omega)
    simp [execOp, ha.eval hx, ha.eval hy, ha.eval hz, Instr.sliceAt, Instr.slice, Instr.sliceBounds, run_underlying hT, ba_size, g1, g2, ba_extract, SL.cut]) k
theorem WO.sliceSL {a : List UInt8} {kd : IntKind} {i : Int} (hx : ev e x = some (str a)) (hy : ev e y = some (.int kd i)) (hT : P.underlying xT = some .string) (h0 : 0 ≤ i) (h1 : i ≤ a.length) (hn : Nat.blt d n = true)
    (k : WO P n ops r Q ((d, str (a.drop i.toNat)) :: e) Ls) : WO P n ops (⟨some d, .slice xT x (some y) none none, T, p, af, none⟩ :: r) Q e Ls :=
  WO.val rfl rfl hn (fun _ w ha _ => by
    have g2 : (Instr.sliceBound (.int kd i) a.length .sliceB).run P w = .ok i.toNat w := run_bound (by omega)
    have g3 : (a.drop i.toNat).take (a.length - i.toNat) = a.drop i.toNat := List.take_of_length_le (by simp)
    simp [execOp, ha.eval hx, ha.eval hy, Instr.sliceAt, Instr.slice, Instr.sliceBounds, run_underlying hT, ba_size, g2, ba_extract, g3]) k
theorem WO.sliceSH {a : List UInt8} {kd' : IntKind} {j : Int} (hx : ev e x = some (str a)) (hz : ev e z = some (.int kd' j)) (hT : P.underlying xT = some .string) (h0 : 0 ≤ j) (h1 : j ≤ a.length) (hn : Nat.blt d n = true)
    (k : WO P n ops r Q ((d, str (a.take j.toNat)) :: e) Ls) : WO P n ops (⟨some d, .slice xT x none (some z) none, T, p, af, none⟩ :: r) Q e Ls :=
  WO.val rfl rfl hn (fun _ w ha _ => by
    have g1 : (Instr.sliceBound (.int kd' j) a.length .sliceAlen).run P w = .ok j.toNat w := run_bound (by omega)
    simp [execOp, ha.eval hx, ha.eval hz, Instr.sliceAt, Instr.slice, Instr.sliceBounds, run_underlying hT, ba_size, g1, ba_extract]) k

/-! ### Bools; pointers against nil -/
def isPtr (P : Program) (t : TypeId) : Bool := match P.underlying t with | some (.pointer _) => true | _ => false
theorem isPtr_spec {t : TypeId} (h : isPtr P t = true) : ∃ E, P.underlying t = some (.pointer E) := by
  unfold isPtr at h
  split at h
  · exact ⟨_, by assumption⟩
  · simp at h
theorem run_equal_ptr_none {t : TypeId} (h : isPtr P t = true) (a : Option Addr) (w : World) : (Op.equal t (.pointer a) (.pointer none)).run P w = .ok a.isNone w := by
  obtain ⟨E, hE⟩ := isPtr_spec h
  have : ∀ d, (Op.equalIn (d + 1) t (.pointer a) (.pointer none)).run P w = .ok a.isNone w := fun d => by cases a <;> simp [Op.equalIn, run_underlying hE]
  exact this 9999
theorem run_equal_none_ptr {t : TypeId} (h : isPtr P t = true) (a : Option Addr) (w : World) : (Op.equal t (.pointer none) (.pointer a)).run P w = .ok a.isNone w := by
  obtain ⟨E, hE⟩ := isPtr_spec h
  have : ∀ d, (Op.equalIn (d + 1) t (.pointer none) (.pointer a)).run P w = .ok a.isNone w := fun d => by cases a <;> simp [Op.equalIn, run_underlying hE]
  exact this 9999
theorem WO.eqlP {a : Option Addr} (hx : ev e x = some (.pointer a)) (hy : ev e y = some (.pointer none)) (hT : isPtr P xT = true) (hn : Nat.blt d n = true) (k : WO P n ops r Q ((d, .bool a.isNone) :: e) Ls) : WO P n ops (⟨some d, .binOp .eql xT x y yT, T, p, af, none⟩ :: r) Q e Ls :=
  WO.val rfl rfl hn (fun _ w ha _ => by simp [execOp, ha.eval hx, ha.eval hy, eqGuard_ptr, binOp, run_equal_ptr_none hT]) k
theorem WO.neqP {a : Option Addr} (hx : ev e x = some (.pointer a)) (hy : ev e y = some (.pointer none)) (hT : isPtr P xT = true) (hn : Nat.blt d n = true) (k : WO P n ops r Q ((d, .bool (!a.isNone)) :: e) Ls) : WO P n ops (⟨some d, .binOp .neq xT x y yT, T, p, af, none⟩ :: r) Q e Ls :=
  WO.val rfl rfl hn (fun _ w ha _ => by simp [execOp, ha.eval hx, ha.eval hy, eqGuard_ptr, binOp, run_equal_ptr_none hT]) k
theorem run_equal_bool {t : TypeId} (h : P.underlying t = some .bool) (a b : Bool) (w : World) : (Op.equal t (.bool a) (.bool b)).run P w = .ok (a == b) w := by
  have : ∀ d, (Op.equalIn (d + 1) t (.bool a) (.bool b)).run P w = .ok (a == b) w := fun d => by simp [Op.equalIn, run_underlying h]
  exact this 9999
theorem WO.eqlB {a b : Bool} (hx : ev e x = some (.bool a)) (hy : ev e y = some (.bool b)) (hT : P.underlying xT = some .bool) (hn : Nat.blt d n = true) (k : WO P n ops r Q ((d, .bool (a == b)) :: e) Ls) : WO P n ops (⟨some d, .binOp .eql xT x y yT, T, p, af, none⟩ :: r) Q e Ls :=
  WO.val rfl rfl hn (fun _ w ha _ => by simp [execOp, ha.eval hx, ha.eval hy, eqGuard_bool, binOp, run_equal_bool hT]) k
theorem WO.neqB {a b : Bool} (hx : ev e x = some (.bool a)) (hy : ev e y = some (.bool b)) (hT : P.underlying xT = some .bool) (hn : Nat.blt d n = true) (k : WO P n ops r Q ((d, .bool (!(a == b))) :: e) Ls) : WO P n ops (⟨some d, .binOp .neq xT x y yT, T, p, af, none⟩ :: r) Q e Ls :=
  WO.val rfl rfl hn (fun _ w ha _ => by simp [execOp, ha.eval hx, ha.eval hy, eqGuard_bool, binOp, run_equal_bool hT]) k

/-! ### Structs that are built -/
/-- Where each part begins, and how many cells it has. -/
def layOf (P : Program) (t : TypeId) : Option (List (Nat × Nat)) :=
  match P.underlying t with
  | some (.struct fs) => fs.toList.mapM fun f => (P.info? f.type).map fun i => (f.offset, i.size)
  | some (.array m E) => (P.info? E).map fun i => (List.range m).map fun j => (j * i.size, i.size)
  | _ => none
def fillL (lay : List (Nat × Nat)) : List (Nat × Value) → List Value → Option (List Value)
  | [], cs => some cs
  | (i, v) :: r, cs =>
    match lay[i]? with
    | none => none
    | some (o, m) => bif v.cells.size.beq m && (o + m).ble cs.length then fillL lay r (over cs o v.cells.toList) else none
theorem fold_over : ∀ (vs : List Value) (o j : Nat) (cs : List Value), o + j + vs.length ≤ cs.length → ((vs.zipIdx j).foldl (fun (c : Array Value) (u : Value × Nat) => c.setIfInBounds (o + u.2) u.1) cs.toArray) = (over cs (o + j) vs).toArray
  | [], o, j, cs, _ => by simp [over]
  | v :: vs, o, j, cs, h => by
    simp only [List.length_cons] at h
    rw [List.zipIdx_cons, List.foldl_cons, ← over_cons (by omega), show o + j + 1 = o + (j + 1) by omega]
    have := fold_over vs o (j + 1) (cs.set (o + j) v) (by simp; omega)
    simpa using this
theorem fill_of {lay : List (Nat × Nat)} {place : Nat → Option (Nat × Nat)} (hp : ∀ i q, lay[i]? = some q → place i = some q) : ∀ (ps : List (Nat × Value)) (cs cs' : List Value), fillL lay ps cs = some cs' → Instr.fill place cs.toArray ps = some cs'.toArray
  | [], cs, cs', h => by simp only [fillL, Option.some.injEq] at h; subst h; rfl
  | (i, v) :: ps, cs, cs', h => by
    simp only [fillL] at h
    cases hl : lay[i]? with
    | none => simp [hl] at h
    | some q =>
      obtain ⟨o, m⟩ := q
      simp only [hl] at h
      cases hb : (v.cells.size.beq m && (o + m).ble cs.length) with
      | false => simp [hb] at h
      | true =>
        simp only [hb, cond_true] at h
        simp only [Bool.and_eq_true] at hb
        have h1 : v.cells.size = m := Nat.eq_of_beq_eq_true hb.1
        have h2 : o + m ≤ cs.length := Nat.le_of_ble_eq_true hb.2
        have ih := fill_of hp ps _ _ h
        simp only [Instr.fill, hp i _ hl]
        rw [if_neg (by simp [h1]; omega)]
        have h3 := fold_over v.cells.toList o 0 cs (by simp; omega)
        rw [← ih]
        congr 1
        rw [← Array.foldl_toList, Array.toList_zipIdx]
        simpa using h3
theorem zip_eval {a : Act} (ha : Ag n e a) : ∀ (ps : List (Nat × Operand)) (vs : List Value), evs e (ps.map (·.2)) = some vs → (ps.map fun q => (q.1, a.eval q.2)) = (ps.map (·.1)).zip vs
  | [], vs, h => by simp
  | q :: ps, vs, h => by
    simp only [List.map_cons, evs, Option.bind_eq_some_iff, Option.map_eq_some_iff] at h
    obtain ⟨v, h1, us, h2, rfl⟩ := h
    simp only [List.map_cons, List.zip_cons_cons, ha.eval h1, zip_eval ha ps us h2]
theorem WO.build {t : TypeId} {ps : List (Nat × Operand)} {lay : List (Nat × Nat)} {zs cs vs : List Value} (hv : evs e (ps.map (·.2)) = some vs) (hl : layOf P t = some lay) (hz : zeroOf P t = some zs) (hc : fillL lay ((ps.map (·.1)).zip vs) zs = some cs) (hn : Nat.blt d n = true)
    (k : WO P n ops r Q ((d, .agg cs.toArray) :: e) Ls) : WO P n ops (⟨some d, .build t ps.toArray, T, p, af, none⟩ :: r) Q e Ls :=
  WO.val rfl rfl hn (fun a w ha _ => by
    obtain ⟨z, h1, h2⟩ := run_zeroValue (w := w) hz
    have h3 := zip_eval ha ps vs hv
    have h4 : (ps.toArray.map fun q => (q.1, a.eval q.2)).toList = (ps.map (·.1)).zip vs := by simpa using h3
    unfold layOf at hl
    cases hu : P.underlying t with
    | none => simp [hu] at hl
    | some u =>
      cases u <;> simp [hu] at hl
      case struct fs =>
        have h5 : ∀ (l : List Field) (lay : List (Nat × Nat)), (l.mapM fun f => (P.info? f.type).map fun i => (f.offset, i.size)) = some lay → (l.mapM fun f => (do pure (f.offset, ← sizeOf f.type) : Sem (Nat × Nat))).run P w = .ok lay w := by
          intro l
          induction l with
          | nil => intro lay h; simp at h; subst h; simp
          | cons f l ih =>
            intro lay h
            simp only [List.mapM_cons, Option.bind_eq_bind, Option.bind_eq_some_iff, Option.map_eq_some_iff, Option.pure_def, Option.some.injEq] at h
            obtain ⟨q, ⟨i, hi, rfl⟩, lay', h6, rfl⟩ := h
            have h9 : (sizeOf f.type).run P w = .ok i.size w := by simp [sizeOf, typeInfo, hi]
            simp only [List.mapM_cons, Sem.run_bind, h9, Result.andThen_ok, Sem.run_pure, ih _ h6]
        have h6 : (fs.mapM fun f => (do pure (f.offset, ← sizeOf f.type) : Sem (Nat × Nat))).run P w = .ok lay.toArray w := by
          have h7 := h5 fs.toList lay (by simpa using hl)
          rw [← Array.toArray_toList (xs := fs), List.mapM_toArray]
          simp only [Sem.run_map, h7, Result.andThen_ok]
        have h8 := fill_of (place := fun i => lay.toArray[i]?) (fun i q h => by simpa using h) _ _ _ hc
        simp only [execOp, Instr.build, Sem.run_bind, h2, run_underlying hu, h6, Result.andThen_ok, h1]
        have h10 : (Array.map (fun x => match x with | (i, x) => (i, a.eval x)) ps.toArray).toList = (ps.map (·.1)).zip vs := h4
        rw [h10, h8]
        rfl
      case array m E =>
        obtain ⟨i, hi, rfl⟩ := hl
        have h8 := fill_of (place := fun j => some (j * i.size, i.size)) (fun j q h => by
          simp only [List.getElem?_map, Option.map_eq_some_iff] at h
          obtain ⟨j', h9, rfl⟩ := h
          have := List.getElem?_eq_some_iff.1 h9
          obtain ⟨_, h10⟩ := this
          simp at h10
          subst h10
          rfl) _ _ _ hc
        have h9 : (sizeOf E).run P w = .ok i.size w := by simp [sizeOf, typeInfo, hi]
        simp only [execOp, Instr.build, Sem.run_bind, h2, run_underlying hu, h9, Result.andThen_ok, h1]
        have h10 : (Array.map (fun x => match x with | (i, x) => (i, a.eval x)) ps.toArray).toList = (ps.map (·.1)).zip vs := h4
        rw [h10, h8]
        rfl) k
theorem WO.storeAgg {t : TypeId} {b o : Nat} {cs vs : List Value} {E : TypeId} {m : Nat} {V : Array Value} (i : Nat) (hi : Ls[i]? = some [(b, .cells cs.toArray E (0, 0))]) (hx : ev e x = some (.pointer (some ⟨b, o, none⟩))) (hy : ev e y = some (.agg V)) (hV : V = vs.toArray)
    (hT : aggSize P t = some m) (hm : vs.length = m) (h1 : ∀ u ∈ vs, u.oneCell' = true) (hl : o + m ≤ cs.length) (cs' : List Value) (hc : over cs o vs = cs')
    (k : WO P n ops r Q e ([(b, .cells cs'.toArray E (0, 0))] :: Ls.eraseIdx i)) : WO P n ops (⟨none, .store t x y, T, p, af, none⟩ :: r) Q e Ls :=
  WO.storeAny (vs := vs) i hi hx hy (by rw [hV]; rfl) (funext fun w => by rw [run_sizeOf_agg hT, hm]) h1 (by omega) cs' hc k
end rules
end Go.SL
