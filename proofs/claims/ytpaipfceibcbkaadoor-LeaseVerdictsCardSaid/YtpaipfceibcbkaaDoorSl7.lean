/- Bits, arrays, parts of struct values, slices of slices, ranges over texts, what strings.Builder leans on. -/
import Derived.Test.YtpaipfceibcbkaaDoorSl6
import Derived.Lib.UnsafeStr
import Derived.Lib.Builder
import Derived.Laws.Externs
set_option linter.unusedVariables false
set_option linter.unusedSimpArgs false
namespace Go.SL
open Go.RowKit

theorem WP.condL {P : Program} {n : Nat} {Q : Q'} {e : Env} {Ls : List Foot} {x y : Code} {b : Bool} (t : Nat) (hc : get e t = some (.bool b)) (ht : b = true → WP P n x Q ((t, .bool true) :: e) Ls) (hf : b = false → WP P n y Q ((t, .bool false) :: e) Ls) : WP P n (.cond (.tmp t) x y) Q e Ls :=
  WP.cond (b := b) hc (fun h w0 rest a w ha hs => ht h w0 rest a w ⟨ha.size, ha.defers, fun i v hi => ha.look i v (get_same (by rw [hc, h]) i v hi)⟩ hs)
    (fun h w0 rest a w ha hs => hf h w0 rest a w ⟨ha.size, ha.defers, fun i v hi => ha.look i v (get_same (by rw [hc, h]) i v hi)⟩ hs)

/-! ### Bits -/
def andI (k : IntKind) (a b : Int) : Int := k.wrap ((BitVec.ofInt k.bits a &&& BitVec.ofInt k.bits b).toNat : Int)
def orI (k : IntKind) (a b : Int) : Int := k.wrap ((BitVec.ofInt k.bits a ||| BitVec.ofInt k.bits b).toNat : Int)
def xorI (k : IntKind) (a b : Int) : Int := k.wrap ((BitVec.ofInt k.bits a ^^^ BitVec.ofInt k.bits b).toNat : Int)
def andNotI (k : IntKind) (a b : Int) : Int := k.wrap ((BitVec.ofInt k.bits a &&& ~~~BitVec.ofInt k.bits b).toNat : Int)
def shlI (k : IntKind) (a b : Int) : Int := k.wrap (a * 2 ^ (min b.toNat k.bits))
def shrI (k : IntKind) (a b : Int) : Int := a.fdiv (2 ^ (min b.toNat k.bits))

section rules
variable {P : Program} {n : Nat} {ops : Array Oper} {r : List Oper} {Q : Q'} {e : Env} {Ls : List Foot} {d : Nat} {T : TypeId} {p : String} {af : Array Edge} {xT yT : TypeId} {x y z : Operand} {kd kd' : IntKind} {a b c : Int}

theorem WO.and (hx : ev e x = some (.int kd a)) (hy : ev e y = some (.int kd b)) (hc : andI kd a b = c) (hn : Nat.blt d n = true) (k : WO P n ops r Q ((d, .int kd c) :: e) Ls) : WO P n ops (⟨some d, .binOp .and xT x y yT, T, p, af, none⟩ :: r) Q e Ls :=
  WO.val rfl rfl hn (fun _ w ha _ => by subst hc; simp [execOp, ha.eval hx, ha.eval hy, eqGuard_int, binOp, Op.intBits, andI]) k
theorem WO.or (hx : ev e x = some (.int kd a)) (hy : ev e y = some (.int kd b)) (hc : orI kd a b = c) (hn : Nat.blt d n = true) (k : WO P n ops r Q ((d, .int kd c) :: e) Ls) : WO P n ops (⟨some d, .binOp .or xT x y yT, T, p, af, none⟩ :: r) Q e Ls :=
  WO.val rfl rfl hn (fun _ w ha _ => by subst hc; simp [execOp, ha.eval hx, ha.eval hy, eqGuard_int, binOp, Op.intBits, orI]) k
theorem WO.xor (hx : ev e x = some (.int kd a)) (hy : ev e y = some (.int kd b)) (hc : xorI kd a b = c) (hn : Nat.blt d n = true) (k : WO P n ops r Q ((d, .int kd c) :: e) Ls) : WO P n ops (⟨some d, .binOp .xor xT x y yT, T, p, af, none⟩ :: r) Q e Ls :=
  WO.val rfl rfl hn (fun _ w ha _ => by subst hc; simp [execOp, ha.eval hx, ha.eval hy, eqGuard_int, binOp, Op.intBits, xorI]) k
theorem WO.andNot (hx : ev e x = some (.int kd a)) (hy : ev e y = some (.int kd b)) (hc : andNotI kd a b = c) (hn : Nat.blt d n = true) (k : WO P n ops r Q ((d, .int kd c) :: e) Ls) : WO P n ops (⟨some d, .binOp .andNot xT x y yT, T, p, af, none⟩ :: r) Q e Ls :=
  WO.val rfl rfl hn (fun _ w ha _ => by subst hc; simp [execOp, ha.eval hx, ha.eval hy, eqGuard_int, binOp, Op.intBits, andNotI]) k
theorem WO.shl (hx : ev e x = some (.int kd a)) (hy : ev e y = some (.int kd' b)) (hb : 0 ≤ b) (hc : shlI kd a b = c) (hn : Nat.blt d n = true) (k : WO P n ops r Q ((d, .int kd c) :: e) Ls) : WO P n ops (⟨some d, .binOp .shl xT x y yT, T, p, af, none⟩ :: r) Q e Ls :=
  WO.val rfl rfl hn (fun _ w ha _ => by subst hc; simp [execOp, ha.eval hx, ha.eval hy, eqGuard_int, binOp, Op.shift, shlI, Int.not_lt.2 hb]) k
theorem WO.shr (hx : ev e x = some (.int kd a)) (hy : ev e y = some (.int kd' b)) (hb : 0 ≤ b) (hc : shrI kd a b = c) (hn : Nat.blt d n = true) (k : WO P n ops r Q ((d, .int kd c) :: e) Ls) : WO P n ops (⟨some d, .binOp .shr xT x y yT, T, p, af, none⟩ :: r) Q e Ls :=
  WO.val rfl rfl hn (fun _ w ha _ => by subst hc; simp [execOp, ha.eval hx, ha.eval hy, eqGuard_int, binOp, Op.shift, shrI, Int.not_lt.2 hb]) k
theorem WO.notU (hx : ev e x = some (.int kd a)) (hc : xorI kd (if kd.signed then -1 else kd.max) a = c) (hn : Nat.blt d n = true) (k : WO P n ops r Q ((d, .int kd c) :: e) Ls) : WO P n ops (⟨some d, .unOp .xor xT x, T, p, af, none⟩ :: r) Q e Ls :=
  WO.val rfl rfl hn (fun _ w ha _ => by subst hc; simp only [execOp, ha.eval hx, Op.unary, Op.intBits, xorI, Sem.run_bind, Sem.run_pure, Result.andThen_ok]) k

/-! ### Arrays -/
def arrTy (P : Program) (t : TypeId) : Option (Nat × Nat × Nat) :=
  match P.underlying t with
  | some (.array m E) => (P.info? E).map fun i => (m, E, i.size)
  | _ => none
theorem arrTy_spec {t m E sz : Nat} (h : arrTy P t = some (m, E, sz)) : P.underlying t = some (.array m E) ∧ ∃ i, P.info? E = some i ∧ i.size = sz := by
  unfold arrTy at h
  split at h
  · rename_i m' E' hu
    rw [Option.map_eq_some_iff] at h
    obtain ⟨i, hi, he⟩ := h
    simp only [Prod.mk.injEq] at he
    obtain ⟨rfl, rfl, rfl⟩ := he
    exact ⟨hu, i, hi, rfl⟩
  · cases h
theorem WO.arrAddr {t m E sz b o : Nat} {i : Int} (hx : ev e x = some (.pointer (some ⟨b, o, none⟩))) (hy : ev e y = some (.int kd i)) (hT : arrTy P t = some (m, E, sz)) (hi : 0 ≤ i ∧ i < m) (hn : Nat.blt d n = true)
    (k : WO P n ops r Q ((d, .pointer (some ⟨b, o + i.toNat * sz, none⟩)) :: e) Ls) : WO P n ops (⟨some d, .indexAddr t x y, T, p, af, none⟩ :: r) Q e Ls := by
  obtain ⟨hu, ti, hti, rfl⟩ := arrTy_spec hT
  refine WO.val rfl rfl hn (fun a w ha _ => ?_) k
  simp [execOp, ha.eval hx, ha.eval hy, Instr.indexAt, asIntOf, run_underlying hu, hi.1, hi.2, sizeOf, typeInfo, hti, addr_add, Instr.sureAddr]
/-- A scalar element of an array that is a value. -/
theorem WO.indexA {t m E : Nat} {cs : List Value} {v : Value} {i : Int} (hx : ev e x = some (.agg cs.toArray)) (hy : ev e y = some (.int kd i)) (hT : arrTy P t = some (m, E, 1)) (hE : isScalar P E = true) (hi : 0 ≤ i ∧ i < m) (hc : cs[i.toNat]? = some v) (hn : Nat.blt d n = true)
    (k : WO P n ops r Q ((d, v) :: e) Ls) : WO P n ops (⟨some d, .index t x y, T, p, af, none⟩ :: r) Q e Ls := by
  obtain ⟨hu, ti, hti, hsz⟩ := arrTy_spec hT
  refine WO.val rfl rfl hn (fun a w ha _ => ?_) k
  simp [execOp, ha.eval hx, ha.eval hy, Instr.index, asIntOf, run_underlying hu, hi.1, hi.2, sizeOf, typeInfo, hti, hsz, part, run_isAgg_scalar hE, hc]

/-- An array of whole numbers in a variable: an element. -/
theorem WO.loadW {t : TypeId} {b E : Nat} {ws : List Int} {fz : Nat × Nat} {i : Int} (hx : ev e x = some (.pointer (some ⟨b, 0 + i.toNat * 1, none⟩))) (hT : isScalar P t = true) (hm : (b, Obj.cells (ints kd ws).toArray E fz) ∈ Ls.flatten) (hi : 0 ≤ i ∧ i < ws.length) (hn : Nat.blt d n = true)
    (k : WO P n ops r Q ((d, .int kd (ws.getD i.toNat 0)) :: e) Ls) : WO P n ops (⟨some d, .load t x, T, p, af, none⟩ :: r) Q e Ls :=
  WO.load hx hT hm (by
    have h : i.toNat < ws.length := by omega
    simp [ints, List.getD_eq_getElem?_getD, h]) hn k
theorem WO.storeW {t : TypeId} {b E : Nat} {ws : List Int} {i : Int} {v : Int} (j : Nat) (hj : Ls[j]? = some [(b, .cells (ints kd ws).toArray E (0, 0))]) (hx : ev e x = some (.pointer (some ⟨b, 0 + i.toNat * 1, none⟩))) (hy : ev e y = some (.int kd v)) (hT : isScalar P t = true) (hi : 0 ≤ i ∧ i < ws.length)
    (k : WO P n ops r Q e ([(b, .cells (ints kd (ws.set i.toNat v)).toArray E (0, 0))] :: Ls.eraseIdx j)) : WO P n ops (⟨none, .store t x y, T, p, af, none⟩ :: r) Q e Ls :=
  WO.store j hj hx hy hT rfl (by simp [ints]; omega) (ints kd (ws.set i.toNat v)) (by simp [ints, List.map_set]) k

/-! ### Parts of struct values -/
def fieldSc (P : Program) (t : TypeId) (f : Nat) : Option Nat :=
  match P.underlying t with
  | some (.struct fs) => match fs[f]? with
    | some x => bif isScalar P x.type then some x.offset else none
    | none => none
  | _ => none
theorem WO.field {t f o : Nat} {cs : List Value} {v : Value} (hx : ev e x = some (.agg cs.toArray)) (hT : fieldSc P t f = some o) (hc : cs[o]? = some v) (hn : Nat.blt d n = true)
    (k : WO P n ops r Q ((d, v) :: e) Ls) : WO P n ops (⟨some d, .field t x f, T, p, af, none⟩ :: r) Q e Ls :=
  WO.val rfl rfl hn (fun a w ha _ => by
    unfold fieldSc at hT
    cases hu : P.underlying t with
    | none => simp [hu] at hT
    | some u =>
      cases u <;> simp [hu] at hT
      rename_i fs
      cases hf : fs[f]? with
      | none => simp [hf] at hT
      | some x' =>
        simp only [hf] at hT
        cases hs : isScalar P x'.type with
        | false => simp [hs] at hT
        | true =>
          simp [hs] at hT
          subst hT
          simp [execOp, ha.eval hx, Instr.field, run_underlying hu, hf, part, run_isAgg_scalar hs, hc, asAgg]) k

/-! ### Slices of slices -/
theorem WO.sliceH {A : Option Addr} {m c : Nat} {E : TypeId} {j : Int} (hx : ev e x = some (.slice A m c)) (hz : ev e z = some (.int kd j)) (hT : P.underlying xT = some (.slice E)) (hE : (P.info? E).isSome = true) (h0 : 0 ≤ j) (h1 : j ≤ c) (hn : Nat.blt d n = true)
    (k : WO P n ops r Q ((d, .slice A j.toNat c) :: e) Ls) : WO P n ops (⟨some d, .slice xT x none (some z) none, T, p, af, none⟩ :: r) Q e Ls :=
  WO.val rfl rfl hn (fun _ w ha _ => by
    obtain ⟨ti, hti⟩ := Option.isSome_iff_exists.1 hE
    have g1 : (Instr.sliceBound (.int kd j) c .sliceAcap).run P w = .ok j.toNat w := run_bound (by omega)
    cases A <;> simp [execOp, ha.eval hx, ha.eval hz, Instr.sliceAt, Instr.slice, Instr.sliceBounds, run_underlying hT, g1, sizeOf, typeInfo, hti, addr_add, Addr.add]) k

theorem OwnSl.take {E sz m c j : Nat} {A : Option Addr} {cs : List Value} {F : Foot} (h : OwnSl E sz (.slice A m c) m cs F) (hj : j ≤ m) : OwnSl E sz (.slice A j c) j (cs.take (j * sz)) F := by
  have h1 := h.1
  have hle : j * sz ≤ m * sz := Nat.mul_le_mul_right _ hj
  refine ⟨by rw [List.length_take, h1]; omega, ?_⟩
  rcases h.2 with ⟨h2, h3, rfl⟩ | ⟨b, c', sp, h2, rfl, h4, h5⟩
  · simp only [Value.slice.injEq] at h2
    obtain ⟨rfl, rfl, rfl⟩ := h2
    have : j = 0 := by omega
    subst this
    exact .inl ⟨rfl, rfl, rfl⟩
  · simp only [Value.slice.injEq] at h2
    obtain ⟨rfl, _, rfl⟩ := h2
    exact .inr ⟨b, _, cs.drop (j * sz) ++ sp, rfl, by rw [← List.append_assoc, List.take_append_drop], by rw [← List.append_assoc, List.take_append_drop]; exact h4, by omega⟩
theorem OwnSl.cap {E sz m c n : Nat} {A : Option Addr} {cs : List Value} {F : Foot} (h : OwnSl E sz (.slice A m c) n cs F) : m = n ∧ n ≤ c := by
  rcases h.2 with ⟨h2, h3, rfl⟩ | ⟨b, c', sp, h2, rfl, h4, h5⟩
  · simp only [Value.slice.injEq] at h2
    obtain ⟨rfl, rfl, rfl⟩ := h2
    omega
  · simp only [Value.slice.injEq] at h2
    obtain ⟨rfl, rfl, rfl⟩ := h2
    exact ⟨rfl, h5⟩
/-- A text's element. -/
theorem strElem {cs' : List Value} {o k : Nat} {segs : List (List UInt8)} (h : (cs'.drop o).take 1 = ((segs.map str).drop ((k : Int).toNat * 1)).take 1) (hk : k < segs.length) : cs'[o]? = some (str (segs.getD k [])) := by
  have h1 := cell1 h (by simpa using hk)
  rw [h1]
  simp [List.getD_eq_getElem?_getD, hk]

/-! ### Ranges over texts -/
def dec (l : List UInt8) (q : Nat) : Nat × Nat := Utf8.decode ⟨⟨l⟩⟩ q
theorem dec_pos (l : List UInt8) (q : Nat) : 1 ≤ (dec l q).2 := by
  unfold dec Utf8.decode
  simp only
  repeat' split
  all_goals simp
theorem WO.rangeS {l : List UInt8} (hx : ev e x = some (str l)) (hT : P.underlying xT = some .string) (hn : Nat.blt d n = true)
    (k : ∀ b, WO P n ops r Q ((d, .pointer (some ⟨b, 0, none⟩)) :: e) ([(b, .stringIter ⟨⟨l⟩⟩ 0)] :: Ls)) : WO P n ops (⟨some d, .range xT x, T, p, af, none⟩ :: r) Q e Ls :=
  WO.eff (fun v L => ∃ b, v = .pointer (some ⟨b, 0, none⟩) ∧ L = [(b, .stringIter ⟨⟨l⟩⟩ 0)] :: Ls) rfl rfl hn
    (fun w0 rest a w ha hs => by
      refine ⟨_, _, _, ?_, ⟨w.heap.size, rfl, rfl⟩, by simpa using hs.alloc _⟩
      simp [execOp, ha.eval hx, Instr.range, run_underlying hT, newObj, Sem.run])
    (by rintro v L ⟨b, rfl, rfl⟩; exact k b)
theorem WO.nextS {b q : Nat} {l : List UInt8} (i : Nat) (hi : Ls[i]? = some [(b, .stringIter ⟨⟨l⟩⟩ q)]) (hx : ev e x = some (.pointer (some ⟨b, 0, none⟩))) (hn : Nat.blt d n = true)
    (k1 : q < l.length → WO P n ops r Q ((d, .tuple #[.bool true, .int .i64 (q : Int), .int .i32 ((dec l q).1 : Int)]) :: e) ([(b, .stringIter ⟨⟨l⟩⟩ (q + (dec l q).2))] :: Ls.eraseIdx i))
    (k0 : l.length ≤ q → WO P n ops r Q ((d, .tuple #[.bool false]) :: e) Ls) : WO P n ops (⟨some d, .next x true, T, p, af, none⟩ :: r) Q e Ls := by
  by_cases hq : q < l.length
  · refine WO.eff (fun v L => v = .tuple #[.bool true, .int .i64 (q : Int), .int .i32 ((dec l q).1 : Int)] ∧ L = [(b, .stringIter ⟨⟨l⟩⟩ (q + (dec l q).2))] :: Ls.eraseIdx i) rfl rfl hn ?_ (by rintro v L ⟨rfl, rfl⟩; exact k1 hq)
    intro w0 rest a w ha hs
    have hs1 := Imp.take i hi _ _ _ hs
    simp only [List.flatten_cons, List.cons_append, List.nil_append] at hs1
    have hb : w.heap[b]? = some (.stringIter ⟨⟨l⟩⟩ q) := hs1.has _ (List.mem_cons_self ..)
    refine ⟨_, { w with heap := w.heap.setIfInBounds b (.stringIter ⟨⟨l⟩⟩ (q + (dec l q).2)) }, _, ?_, ⟨rfl, rfl⟩, by simpa using hs1.write rfl⟩
    simp [execOp, ha.eval hx, Instr.next, getObj, setObj, Sem.run, hb, ba_size, hq, dec, goInt]
  · refine WO.val rfl rfl hn (fun a w ha hd => ?_) (k0 (by omega))
    have hb : w.heap[b]? = some (.stringIter ⟨⟨l⟩⟩ q) := by
      have hm : (b, Obj.stringIter ⟨⟨l⟩⟩ q) ∈ Ls.flatten := List.mem_flatten.2 ⟨_, List.mem_of_getElem? hi, List.mem_cons_self ..⟩
      exact hd _ hm
    simp [execOp, ha.eval hx, Instr.next, getObj, Sem.run, hb, ba_size, hq]

/-! ### unsafe, for strings.Builder -/
theorem WO.sliceDataRow {A : Addr} {m c : Nat} (hx : ev e x = some (.slice (some A) m c)) (hc : c ≠ 0) (hn : Nat.blt d n = true)
    (k : WO P n ops r Q ((d, .pointer (some A)) :: e) Ls) : WO P n ops (⟨some d, .call { callee := .builtin .unsafeSliceData, args := #[x], argTypes := #[xT] }, T, p, af, none⟩ :: r) Q e Ls :=
  WO.val rfl rfl hn (fun a w ha _ => by simp [execOp, resolve, invoke, builtin, ha.eval hx, Lib.run_unsafeSliceData_row (P := P) w #[xT] T A m c hc]) k
theorem WO.sliceDataNil {m c : Nat} (hx : ev e x = some (.slice none m c)) (hn : Nat.blt d n = true)
    (k : WO P n ops r Q ((d, .pointer none) :: e) Ls) : WO P n ops (⟨some d, .call { callee := .builtin .unsafeSliceData, args := #[x], argTypes := #[xT] }, T, p, af, none⟩ :: r) Q e Ls :=
  WO.val rfl rfl hn (fun a w ha _ => by simp [execOp, resolve, invoke, builtin, ha.eval hx, Lib.run_unsafeSliceData_nil (P := P) w #[xT] T m c]) k
theorem WO.unsafeStrNil {q : Option Addr} (hx : ev e x = some (.pointer q)) (hy : ev e y = some (.int .i64 0)) (hn : Nat.blt d n = true)
    (k : WO P n ops r Q ((d, str []) :: e) Ls) : WO P n ops (⟨some d, .call { callee := .builtin .unsafeString, args := #[x, y], argTypes := #[xT, yT] }, T, p, af, none⟩ :: r) Q e Ls :=
  WO.val rfl rfl hn (fun a w ha _ => by simp [execOp, resolve, invoke, builtin, ha.eval hx, ha.eval hy, Lib.run_unsafeString_none (P := P) w xT yT T q]; rfl) k
theorem WO.unsafeStr {g E : Nat} {l : List UInt8} {sp : List Value} (i : Nat) (hi : Ls[i]? = some [(g, .cells (bytesV l ++ sp).toArray E (0, 0))]) (hx : ev e x = some (.pointer (some ⟨g, 0, none⟩))) (hy : ev e y = some (.int .i64 (l.length : Int))) (hp : P.underlying xT = some (.pointer E)) (hc : P.cellsOf E = 1)
    (h0 : l ≠ []) (h63 : l.length ≤ 9223372036854775807) (hn : Nat.blt d n = true)
    (k : WO P n ops r Q ((d, str l) :: e) (Ls.eraseIdx i)) : WO P n ops (⟨some d, .call { callee := .builtin .unsafeString, args := #[x, y], argTypes := #[xT, yT] }, T, p, af, none⟩ :: r) Q e Ls := by
  refine WO.eff (fun v L => v = str l ∧ L = Ls.eraseIdx i) rfl rfl hn ?_ (by rintro v L ⟨rfl, rfl⟩; exact k)
  intro w0 rest a w ha hs
  have hs1 := Imp.take i hi _ _ _ hs
  simp only [List.flatten_cons, List.cons_append, List.nil_append] at hs1
  have hb : w.heap[g]? = some (.cells (bytesV l ++ sp).toArray E (0, 0)) := hs1.has _ (List.mem_cons_self ..)
  have hsh : w.shape? g = some (E, (bytesV l ++ sp).length) := by simp [World.shape?, hb]
  have hcell : ∀ j x, l[j]? = some x → w.cell? ((⟨g, 0, none⟩ : Addr).add j) = some (.int .u8 x.toNat) := by
    intro j x hj
    rw [addr_add]
    have hlt : j < l.length := (List.getElem?_eq_some_iff.1 hj).1
    simp [World.cell?, hb, bytesV, List.getElem?_append_left, hlt, List.getElem?_append, (List.getElem?_eq_some_iff.1 hj).2]
  have hrun := Lib.run_unsafeString_row (P := P) w xT yT T E hp hc g _ hsh l h0 (by simp [bytesV]) h63 hcell
  refine ⟨_, w.freeze ⟨g, 0, none⟩ l.length, _, by simp [execOp, resolve, invoke, builtin, ha.eval hx, ha.eval hy, hrun], ⟨rfl, rfl⟩, ?_⟩
  have hw : ∃ o', w.freeze ⟨g, 0, none⟩ l.length = { w with heap := w.heap.setIfInBounds g o' } := by
    unfold World.freeze
    rw [if_neg (by simpa using h0)]
    refine ⟨.cells (bytesV l ++ sp).toArray E (0, 0 + l.length), ?_⟩
    congr 1
    apply Array.ext_getElem?
    intro j
    simp only [Array.getElem?_modify]
    by_cases hj : g = j
    · subst hj
      obtain ⟨hlt, he⟩ := Array.getElem?_eq_some_iff.1 hb
      simp [hb, he, hlt]
    · simp [hj, Array.getElem?_setIfInBounds_ne hj]
  obtain ⟨o', hw⟩ := hw
  rw [hw]
  exact (hs1.write (o' := o') rfl).weak (List.sublist_cons_self ..)
theorem hd_shape {w : World} {b : Nat} {cs : List Value} {E : TypeId} {fz : Nat × Nat} (hd : Hd Ls.flatten w) (hm : (b, Obj.cells cs.toArray E fz) ∈ Ls.flatten) : w.shape? b = some (E, cs.length) := by
  have := hd _ hm
  simp only at this
  simp [World.shape?, this]
theorem WO.toUnsafe {b E u : Nat} {cs : List Value} {fz : Nat × Nat} (hx : ev e x = some (.pointer (some ⟨b, 0, none⟩))) (hm : (b, Obj.cells cs.toArray E fz) ∈ Ls.flatten) (hs : P.underlying xT = some (.pointer u)) (hd : P.underlying yT = some .unsafePointer) (hu : ((P.info? u).any fun i => i.size != 0) = true) (hl : 0 < cs.length) (hn : Nat.blt d n = true)
    (k : WO P n ops r Q ((d, .pointer (some ⟨b, 0, none⟩)) :: e) Ls) : WO P n ops (⟨some d, .convert xT yT x, T, p, af, none⟩ :: r) Q e Ls :=
  WO.val rfl rfl hn (fun a w ha hd' => by
    cases hi : P.info? u with
    | none => simp [hi] at hu
    | some i =>
      have := Lib.run_to_unsafe (P := P) w ⟨b, 0, none⟩ hs hd hi (by simpa [hi] using hu) (hd_shape hd' hm) hl
      simp [execOp, ha.eval hx, this]) k
theorem WO.fromUnsafe {b E u : Nat} {cs : List Value} {fz : Nat × Nat} (hx : ev e x = some (.pointer (some ⟨b, 0, none⟩))) (hm : (b, Obj.cells cs.toArray E fz) ∈ Ls.flatten) (hs : P.underlying xT = some .unsafePointer) (hd : P.underlying yT = some (.pointer u)) (hu : (P.info? u).isSome = true) (hl : liesAt P P.depth E (cs.length / P.cellsOf E) 0 u 1 = true) (hn : Nat.blt d n = true)
    (k : WO P n ops r Q ((d, .pointer (some ⟨b, 0, none⟩)) :: e) Ls) : WO P n ops (⟨some d, .convert xT yT x, T, p, af, none⟩ :: r) Q e Ls :=
  WO.val rfl rfl hn (fun a w ha hd' => by
    obtain ⟨i, hi⟩ := Option.isSome_iff_exists.1 hu
    have := Lib.run_from_unsafe (P := P) w ⟨b, 0, none⟩ hs hd hi (hd_shape hd' hm) hl
    simp [execOp, ha.eval hx, this]) k
theorem WO.neqSame {A : Addr} {u : Nat} (hx : ev e x = some (.pointer (some A))) (hy : ev e y = some (.pointer (some A))) (hs : P.underlying xT = some (.pointer u)) (hu : (P.info? u).isSome = true) (hn : Nat.blt d n = true)
    (k : WO P n ops r Q ((d, .bool false) :: e) Ls) : WO P n ops (⟨some d, .binOp .neq xT x y yT, T, p, af, none⟩ :: r) Q e Ls :=
  WO.val rfl rfl hn (fun a w ha hd' => by
    obtain ⟨i, hi⟩ := Option.isSome_iff_exists.1 hu
    have := Lib.run_neq_ptr_same (P := P) w A hs hi
    simp [execOp, ha.eval hx, ha.eval hy, eqGuard_ptr, this]) k
/-- A function without a body that hands its one argument back. -/
theorem WO.same {K : FuncId} {fn : Func} {v : Value} {tys : Array TypeId} (hf : P.funcs[K]? = some fn) (hname : (fn.name == "runtime.NumGoroutine") = false) (hb : fn.body.isNone = true) (hx' : Extern.findNext fn = none) (he : Extern.find fn = some Extern.AbiNoEscape.same) (hx : ev e x = some v) (hn : Nat.blt d n = true)
    (k : WO P n ops r Q ((d, v) :: e) Ls) : WO P n ops (⟨some d, .call { callee := .value (.func K), args := #[x], argTypes := tys }, T, p, af, none⟩ :: r) Q e Ls :=
  WO.val rfl rfl hn (fun a w ha _ => by
    have h1 : a.eval (.func K) = .func (.func K) #[] #[] := rfl
    simp [execOp, resolve, Deferred.ofValue, invoke, h1, run_callFunc_extern hf hname hb hx' he, ha.eval hx, Lib.run_noEscape]) k
theorem Imp.nil (Ls : List Foot) : Imp Ls [] := Imp.sublist (by simp)
theorem Imp.pick {Ls : List Foot} {F : Foot} (i : Nat) (h : Ls[i]? = some F) : Imp Ls [F] := Imp.sublist (by
  obtain ⟨hi, rfl⟩ := List.getElem?_eq_some_iff.1 h
  simpa using List.sublist_flatten_of_mem (List.getElem_mem hi))

theorem Res.cellAll {P : Program} {t b k : Nat} {ty T : TypeId} {fz : Nat × Nat} {cs : List Value} (h : get e t = some (.pointer (some ⟨b, 0, none⟩))) (hT : aggSize P ty = some k) (hm : (b, Obj.cells cs.toArray T fz) ∈ Ls.flatten) (hl : cs.length = k) :
    Res P n #[.cell t ty] e Ls (.agg cs.toArray) := Res.cell1 (cs := cs) (vs := cs) (o := 0) h hT hm (by rw [List.drop_zero, List.take_of_length_le (by omega)]) hl

/-! ### Building, part by part -/
def ovr : List Value → Nat → List Value → List Value
  | [], _, _ => []
  | c :: cs, 0, [] => c :: cs
  | _ :: cs, 0, v :: vs => v :: ovr cs 0 vs
  | c :: cs, o + 1, vs => c :: ovr cs o vs
theorem ovr_eq : ∀ (cs : List Value) (o : Nat) (vs : List Value), o + vs.length ≤ cs.length → ovr cs o vs = over cs o vs
  | [], o, vs, h => by
    have : vs = [] := List.eq_nil_of_length_eq_zero (by simp only [List.length_nil] at h; omega)
    subst this; simp [ovr, over]
  | c :: cs, 0, [], _ => by simp [ovr, over]
  | c :: cs, 0, v :: vs, h => by
    simp only [ovr]
    rw [ovr_eq cs 0 vs (by simp at h ⊢; omega)]
    simp [over]
  | c :: cs, o + 1, vs, h => by
    simp only [ovr]
    rw [ovr_eq cs o vs (by simp at h; omega)]
    simp [over, Nat.add_right_comm]
def fillQ (lay : List (Nat × Nat)) : List (Nat × Value) → List Value → Option (List Value)
  | [], cs => some cs
  | (i, v) :: r, cs =>
    match lay[i]? with
    | none => none
    | some (o, m) => bif v.cells.size.beq m && (o + m).ble cs.length then fillQ lay r (ovr cs o v.cells.toList) else none
theorem fillQ_eq (lay : List (Nat × Nat)) : ∀ (ps : List (Nat × Value)) (cs : List Value), fillL lay ps cs = fillQ lay ps cs
  | [], cs => rfl
  | (i, v) :: r, cs => by
    simp only [fillL, fillQ]
    cases lay[i]? with
    | none => rfl
    | some q =>
      obtain ⟨o, m⟩ := q
      simp only
      cases hb : (v.cells.size.beq m && (o + m).ble cs.length) with
      | false => rfl
      | true =>
        simp only [cond_true]
        simp only [Bool.and_eq_true, Nat.beq_eq, Nat.ble_eq] at hb
        rw [fillQ_eq lay r, ovr_eq cs o _ (by simp; omega)]
theorem WO.buildQ {t : TypeId} {ps : List (Nat × Operand)} {lay : List (Nat × Nat)} {zs cs vs : List Value} (hv : evs e (ps.map (·.2)) = some vs) (hl : layOf P t = some lay) (hz : zeroOf P t = some zs) (hc : fillQ lay ((ps.map (·.1)).zip vs) zs = some cs) (hn : Nat.blt d n = true)
    (k : WO P n ops r Q ((d, .agg cs.toArray) :: e) Ls) : WO P n ops (⟨some d, .build t ps.toArray, T, p, af, none⟩ :: r) Q e Ls :=
  WO.build hv hl hz ((fillQ_eq _ _ _).trans hc) hn k

/-! ### Whole variables -/
theorem WO.loadAll {t : TypeId} {b m : Nat} {cs : List Value} {T' : TypeId} {fz : Nat × Nat} (hx : ev e x = some (.pointer (some ⟨b, 0, none⟩))) (hT : aggSize P t = some m) (hm : (b, Obj.cells cs.toArray T' fz) ∈ Ls.flatten) (hl : cs.length = m) (hn : Nat.blt d n = true)
    (k : WO P n ops r Q ((d, .agg cs.toArray) :: e) Ls) : WO P n ops (⟨some d, .load t x, T, p, af, none⟩ :: r) Q e Ls :=
  WO.loadAgg (vs := cs) hx hT hm (by rw [List.drop_zero, List.take_of_length_le (by omega)]) hl hn k
theorem over_all {cs vs : List Value} (h : vs.length = cs.length) : over cs 0 vs = vs := by
  unfold over
  rw [List.take_zero, Nat.zero_add, List.drop_eq_nil_of_le (by omega)]
  simp
theorem WO.storeAll {t : TypeId} {b : Nat} {cs vs : List Value} {E : TypeId} {V : Array Value} (i : Nat) (hi : Ls[i]? = some [(b, .cells cs.toArray E (0, 0))]) (hx : ev e x = some (.pointer (some ⟨b, 0, none⟩))) (hy : ev e y = some (.agg V)) (hV : V = vs.toArray)
    (hT : aggSize P t = some vs.length) (h1 : (vs.all fun u => u.oneCell') = true) (hl : vs.length = cs.length)
    (k : WO P n ops r Q e ([(b, .cells vs.toArray E (0, 0))] :: Ls.eraseIdx i)) : WO P n ops (⟨none, .store t x y, T, p, af, none⟩ :: r) Q e Ls :=
  WO.storeAgg i hi hx hy hV hT rfl (by simpa using h1) (by omega) vs (over_all hl) k
end rules
end Go.SL
