/- Slices: those of the call's own, and those that are read; bytes and texts. -/
import Derived.Test.YtpaipfceibcbkaaDoorSl3
set_option linter.unusedVariables false
set_option linter.unusedSimpArgs false
namespace Go.SL

def slTy (P : Program) (t : TypeId) : Option (Nat × Nat × Nat) :=
  match P.underlying t with
  | some (.slice E) => match P.info? E with
    | some i => if i.zero.any (fun v => v.cells.size == i.size) && !(i.bytes == 0) then some (E, i.size, i.bytes) else none
    | none => none
  | _ => none
theorem slTy_spec {P : Program} {t E sz by_ : Nat} (h : slTy P t = some (E, sz, by_)) : P.underlying t = some (.slice E) ∧ ∃ i z, P.info? E = some i ∧ i.zero = some z ∧ z.cells.size = sz ∧ i.size = sz ∧ i.bytes = by_ ∧ by_ ≠ 0 := by
  unfold slTy at h
  split at h
  · rename_i E' hu
    split at h
    · rename_i i hi
      split at h
      · rename_i hz
        simp only [Option.some.injEq, Prod.mk.injEq] at h
        obtain ⟨rfl, rfl, rfl⟩ := h
        simp only [Bool.and_eq_true, Bool.not_eq_true', beq_eq_false_iff_ne] at hz
        obtain ⟨hz0, hz3⟩ := hz
        cases hzz : i.zero with
        | none => simp [hzz] at hz0
        | some z => exact ⟨hu, i, z, hi, hzz, by simpa [hzz] using hz0, rfl, rfl, hz3⟩
      · simp at h
    · simp at h
  · simp at h

/-- A slice of the call's own: n elements, their cells, the block. -/
def OwnSl (E sz : Nat) (v : Value) (n : Nat) (cs : List Value) (F : Foot) : Prop :=
  cs.length = n * sz ∧ ((v = .slice none 0 0 ∧ n = 0 ∧ F = []) ∨
    ∃ (b c : Nat) (sp : List Value), v = .slice (some ⟨b, 0, none⟩) n c ∧ F = [(b, .cells (cs ++ sp).toArray E (0, 0))] ∧ (cs ++ sp).length = c * sz ∧ n ≤ c)
theorem OwnSl.nil (E sz : Nat) : OwnSl E sz (.slice none 0 0) 0 [] [] := ⟨by simp, .inl ⟨rfl, rfl, rfl⟩⟩
theorem OwnSl.slice {E sz n : Nat} {v : Value} {cs : List Value} {F : Foot} (h : OwnSl E sz v n cs F) : ∃ A c, v = .slice A n c := by
  rcases h.2 with ⟨rfl, rfl, _⟩ | ⟨b, c, sp, rfl, _⟩
  · exact ⟨_, _, rfl⟩
  · exact ⟨_, _, rfl⟩

/-- A slice that is read: its cells stand in a footprint. -/
def RdSl (sz : Nat) (v : Value) (n : Nat) (cs : List Value) (F : Foot) : Prop :=
  cs.length = n * sz ∧ ∃ A c, v = .slice A n c ∧ (0 < n → ∃ (b o : Nat) (cs' : List Value) (T : TypeId) (fz : Nat × Nat), A = some ⟨b, o, none⟩ ∧ (b, Obj.cells cs'.toArray T fz) ∈ F ∧ (cs'.drop o).take (n * sz) = cs)
theorem OwnSl.rd {E sz n : Nat} {v : Value} {cs : List Value} {F : Foot} (h : OwnSl E sz v n cs F) : RdSl sz v n cs F := by
  refine ⟨h.1, ?_⟩
  rcases h.2 with ⟨rfl, rfl, _⟩ | ⟨b, c, sp, rfl, rfl, _, _⟩
  · exact ⟨_, _, rfl, fun h => absurd h (by omega)⟩
  · refine ⟨_, _, rfl, fun _ => ⟨b, 0, _, _, _, rfl, List.mem_singleton.2 rfl, ?_⟩⟩
    rw [List.drop_zero, ← h.1, List.take_left]
theorem RdSl.mono {sz n : Nat} {v : Value} {cs : List Value} {F F' : Foot} (h : RdSl sz v n cs F) (hs : ∀ p ∈ F, p ∈ F') : RdSl sz v n cs F' := by
  obtain ⟨h1, A, c, h2, h3⟩ := h
  refine ⟨h1, A, c, h2, fun hn => ?_⟩
  obtain ⟨b, o, cs', T, fz, g1, g2, g3⟩ := h3 hn
  exact ⟨b, o, cs', T, fz, g1, hs _ g2, g3⟩
theorem RdSl.slice {sz n : Nat} {v : Value} {cs : List Value} {F : Foot} (h : RdSl sz v n cs F) : ∃ A c, v = .slice A n c := by
  obtain ⟨_, A, c, h, _⟩ := h; exact ⟨A, c, h⟩
/-- A literal's slice. -/
theorem RdSl.lit {sz n b c : Nat} {cs : List Value} {T : TypeId} {fz : Nat × Nat} {F : Foot} (hm : (b, Obj.cells cs.toArray T fz) ∈ F) (hl : cs.length = n * sz) : RdSl sz (.slice (some ⟨b, 0, none⟩) n c) n cs F :=
  ⟨hl, _, _, rfl, fun _ => ⟨b, 0, cs, T, fz, rfl, hm, by rw [List.drop_zero, List.take_of_length_le (by omega)]⟩⟩

section
variable {P : Program}
theorem run_firstCells {w : World} {sz n : Nat} {v : Value} {cs : List Value} {F : Foot} (h : RdSl sz v n cs F) (hd : Hd F w) : (Builtin.firstCells sz n v).run P w = .ok cs.toArray w := by
  obtain ⟨h1, A, c, rfl, h3⟩ := h
  rcases Nat.eq_zero_or_pos n with h0 | h0
  · subst h0
    simp at h1; subst h1
    cases A with
    | none => simp [Builtin.firstCells]
    | some a => simp [Builtin.firstCells, loadCells, loadCellsFrom]
  · obtain ⟨b, o, cs', T, fz, rfl, hm, hc⟩ := h3 h0
    refine run_firstCells_some (w := w) sz n _ n c cs h1 fun j v hj => ?_
    have := hd _ hm
    simp only at this
    rw [addr_add]
    rw [← hc] at hj
    have hjk : j < n * sz := by
      have := (List.getElem?_eq_some_iff.1 hj).1
      simp at this; omega
    have hj' : cs'[o + j]? = some v := by simpa [List.getElem?_take, hjk, List.getElem?_drop] using hj
    simp [World.cell?, this, hj']
end

section rules
variable {P : Program} {n : Nat} {ops : Array Oper} {r : List Oper} {Q : Q'} {e : Env} {Ls : List Foot} {d : Nat} {T : TypeId} {p : String} {af : Array Edge} {x y z : Operand}

theorem hd_idx {w0 w : World} {rest F : Foot} (hs : St w0 (Ls.flatten ++ rest) w) : Hd Ls.flatten w := fun p hp => hs.has p (List.mem_append_left _ hp)

/-- A type whose values are no whole numbers. -/
def notInt (P : Program) (t : TypeId) : Bool := match P.underlying t with | some (.int _) | none => false | some _ => true
theorem run_notInt {t : TypeId} (h : notInt P t = true) (w : World) : ∃ dd, (underlying t).run P w = .ok dd w ∧ ∀ k, dd ≠ .int k := by
  unfold notInt at h
  cases hd : P.underlying t with
  | none => simp [hd] at h
  | some q => exact ⟨q, run_underlying hd w, fun k hk => by subst hk; simp [hd] at h⟩
theorem run_append_room {ST S2 E m1 m c1 b : Nat} {ty : TypeId} {i : TypeInfo} {u : Value} {ns : List Value} {w w' : World} (hu : P.underlying ST = some (.slice E)) (h2 : notInt P S2 = true) (hi : P.info? E = some i) (hl : (Builtin.lenOf u).run P w = .ok m w)
    (hnew : (Builtin.firstCells i.size m u).run P w = .ok ns.toArray w) (hr : m1 + m ≤ c1) (hw : (storeCells ⟨b, m1 * i.size, none⟩ ns).run P w = .ok () w') :
    (Builtin.append_ #[ST, S2] ty #[.slice (some ⟨b, 0, none⟩) m1 c1, u]).run P w = .ok (.slice (some ⟨b, 0, none⟩) (m1 + m) c1) w' := by
  obtain ⟨dd, hd, hk⟩ := run_notInt (P := P) h2 w
  have hadd : (⟨b, 0, none⟩ : Addr).add (m1 * i.size) = ⟨b, m1 * i.size, none⟩ := by rw [addr_add]; simp
  have hm : (match dd with | .int _ => true | _ => false) = false := by cases dd <;> first | rfl | exact absurd rfl (hk _)
  simp [Builtin.append_, run_underlying hu, hd, hm, sizeOf, typeInfo, hi, hl, hnew, hr, hadd, hw]
theorem run_append_none0 {ST S2 E : Nat} {ty : TypeId} {i : TypeInfo} {u : Value} {w : World} (hu : P.underlying ST = some (.slice E)) (h2 : notInt P S2 = true) (hi : P.info? E = some i) (hl : (Builtin.lenOf u).run P w = .ok 0 w)
    (hnew : (Builtin.firstCells i.size 0 u).run P w = .ok #[] w) :
    (Builtin.append_ #[ST, S2] ty #[.slice none 0 0, u]).run P w = .ok (.slice none 0 0) w := by
  obtain ⟨dd, hd, hk⟩ := run_notInt (P := P) h2 w
  have hm : (match dd with | .int _ => true | _ => false) = false := by cases dd <;> first | rfl | exact absurd rfl (hk _)
  simp [Builtin.append_, run_underlying hu, hd, hm, sizeOf, typeInfo, hi, hl, hnew]
theorem run_append_new {ST S2 E m1 m c1 : Nat} {ty : TypeId} {i : TypeInfo} {z : Value} {v u : Value} {A : Option Addr} {cs ns : List Value} {w : World} (hu : P.underlying ST = some (.slice E)) (h2 : notInt P S2 = true) (hi : P.info? E = some i) (hz : i.zero = some z) (hzs : z.cells.size = i.size) (hb : i.bytes ≠ 0)
    (hv : v = .slice A m1 c1) (hl : (Builtin.lenOf u).run P w = .ok m w) (hnl : cs.length = m1 * i.size) (hnl2 : ns.length = m * i.size)
    (hold : ∀ w', w'.heap = w.heap → (Builtin.firstCells i.size m1 v).run P w' = .ok cs.toArray w') (hnew : ∀ w', w'.heap = w.heap → (Builtin.firstCells i.size m u).run P w' = .ok ns.toArray w') (hr : ¬ m1 + m ≤ c1) (hroom : (m1 + m) * i.bytes ≤ 140737488355328) :
    ∃ (c : Nat) (sp : List Value) (w' : World), (Builtin.append_ #[ST, S2] ty #[v, u]).run P w = .ok (.slice (some ⟨w.heap.size, 0, none⟩) (m1 + m) c) w' ∧ w' = { w with drawn := w.drawn + 1, heap := w.heap.push (.cells (cs ++ ns ++ sp).toArray E (0, 0)) } ∧ (cs ++ ns ++ sp).length = c * i.size ∧ m1 + m ≤ c := by
  subst hv
  obtain ⟨dd, hd, hk⟩ := run_notInt (P := P) h2 w
  have hm : (match dd with | .int _ => true | _ => false) = false := by cases dd <;> first | rfl | exact absurd rfl (hk _)
  have hlt : c1 < m1 + m := by omega
  have h48 : ¬ (281474976710656 < Builtin.nextslicecap (m1 + m) c1 * i.bytes) := Nat.not_lt.2 (growslice_fits hlt hroom)
  have hle : m1 + m ≤ 140737488355328 := Nat.le_trans (Nat.le_mul_of_pos_right _ (Nat.pos_of_ne_zero hb)) hroom
  have h63 : ¬ (9223372036854775807 < ((m1 : Int) + (m : Int))) := by omega
  let q := Question.appendCap (m1 + m) c1 E
  let c := q.cut (w.tape w.drawn q)
  have hc : m1 + m ≤ c := by show m1 + m ≤ m1 + m + _; omega
  have ho := hold w.drew rfl
  have hn := hnew w.drew rfl
  refine ⟨c, (Builtin.zeroCells z.cells (c - (m1 + m))).toList, w.drew.alloc (.cells (cs ++ ns ++ (Builtin.zeroCells z.cells (c - (m1 + m))).toList).toArray E (0, 0)), ?_, rfl, ?_, hc⟩
  · simp [Builtin.append_, run_underlying hu, hd, hm, sizeOf, typeInfo, zeroValue, hi, hz, hl, hr, h63, h48, Question.forced, ho, hn, newRow, q, c]
    congr 2
    apply Array.ext'
    simp [List.append_assoc]
  · simp only [List.length_append, hnl, hnl2, Builtin.zeroCells, Array.length_toList, Array.size_map, Array.size_range, hzs]
    rw [← Nat.add_mul, ← Nat.add_mul]
    congr 1
    omega

theorem lenOf_slice {A : Option Addr} {m c : Nat} {w : World} : (Builtin.lenOf (.slice A m c)).run P w = .ok m w := rfl
/-- append: to a slice of the call's own. -/
theorem WO.append {ST S2 E sz by_ m1 m : Nat} {v u : Value} {cs ns : List Value} {F : Foot} (i : Nat) (hF : Ls[i]? = some F) (hT : slTy P ST = some (E, sz, by_)) (hT2 : notInt P S2 = true)
    (hx : ev e x = some v) (hown : OwnSl E sz v m1 cs F) (hy : ev e y = some u) (hlu : ∀ w, (Builtin.lenOf u).run P w = .ok m w) (hnl : ns.length = m * sz) (hnw : ∀ w, Hd Ls.flatten w → (Builtin.firstCells sz m u).run P w = .ok ns.toArray w)
    (h1 : ∀ c ∈ ns, c.oneCell' = true) (hroom : (m1 + m) * by_ ≤ 140737488355328) (hn : Nat.blt d n = true)
    (k : ∀ v' F', OwnSl E sz v' (m1 + m) (cs ++ ns) F' → WO P n ops r Q ((d, v') :: e) (F' :: Ls.eraseIdx i)) : WO P n ops (⟨some d, .call { callee := .builtin .append, args := #[x, y], argTypes := #[ST, S2] }, T, p, af, none⟩ :: r) Q e Ls := by
  refine WO.eff (fun v' L => ∃ F', L = F' :: Ls.eraseIdx i ∧ OwnSl E sz v' (m1 + m) (cs ++ ns) F') rfl rfl hn ?_ (by rintro v' L ⟨F', rfl, h⟩; exact k v' F' h)
  intro w0 rest a w ha hs
  obtain ⟨hu, ti, tz, hi, hzero, hzs, rfl, rfl, hb0⟩ := slTy_spec hT
  have hd : Hd Ls.flatten w := fun q hq => hs.has q (List.mem_append_left _ hq)
  have hs1 := Imp.take i hF _ _ _ hs
  have hcl := hown.1
  have hrun : ∀ {v' : Value} {w' : World}, (Builtin.append_ #[ST, S2] T #[v, u]).run P w = .ok v' w' → (execOp a.eval ⟨some d, .call { callee := .builtin .append, args := #[x, y], argTypes := #[ST, S2] }, T, p, af, none⟩).run P w = .ok (.value v') w' := by
    intro v' w' h
    simp [execOp, resolve, invoke, builtin, ha.eval hx, ha.eval hy, h]
  have hgrow : ∀ {A : Option Addr} {c1 : Nat}, v = .slice A m1 c1 → ¬ m1 + m ≤ c1 → ∃ v' w' Ls', (execOp a.eval ⟨some d, .call { callee := .builtin .append, args := #[x, y], argTypes := #[ST, S2] }, T, p, af, none⟩).run P w = .ok (.value v') w' ∧ (∃ F', Ls' = F' :: Ls.eraseIdx i ∧ OwnSl E ti.size v' (m1 + m) (cs ++ ns) F') ∧ St w0 (Ls'.flatten ++ rest) w' := by
    intro A c1 hv hr
    have hF' : Hd F w := fun q hq => hs1.has q (by simp [hq])
    have hhd : ∀ {L : Foot} {w' : World}, w'.heap = w.heap → Hd L w → Hd L w' := fun he h q hq => by rw [he]; exact h q hq
    obtain ⟨c, sp, w', g1, g2, g3, g4⟩ := run_append_new (P := P) (ty := T) hu hT2 hi hzero hzs hb0 hv (hlu w) hcl hnl
      (fun w' he => run_firstCells (P := P) hown.rd (hhd he hF')) (fun w' he => hnw w' (hhd he hd)) hr hroom
    refine ⟨_, w', _, hrun g1, ⟨[(w.heap.size, .cells (cs ++ ns ++ sp).toArray E (0, 0))], rfl, by simp [hcl, hnl, Nat.add_mul], .inr ⟨_, c, sp, rfl, rfl, g3, g4⟩⟩, ?_⟩
    subst g2
    have h5 : St w0 ((Ls.eraseIdx i).flatten ++ rest) w := hs1.weak (by simp)
    simpa using (h5.drawn (w.drawn + 1)).alloc (.cells (cs ++ ns ++ sp).toArray E (0, 0))
  rcases hown.2 with ⟨h2, h3, rfl⟩ | ⟨b, c, sp, h2, rfl, h4, h5⟩
  · subst h2
    subst h3
    by_cases hm : m = 0
    · subst hm
      have hns : ns = [] := by simpa using hnl
      subst hns
      exact ⟨.slice none 0 0, w, [] :: Ls.eraseIdx i, hrun (run_append_none0 hu hT2 hi (hlu w) (by simpa using hnw w hd)), ⟨[], rfl, by simpa using hown⟩, hs1⟩
    · exact hgrow rfl (by omega)
  · subst h2
    by_cases hr : m1 + m ≤ c
    · have hst : St w0 ((b, Obj.cells (cs ++ sp).toArray E (0, 0)) :: ((Ls.eraseIdx i).flatten ++ rest)) w := by simpa using hs1
      have hfit : cs.length + ns.length ≤ (cs ++ sp).length := by
        rw [h4, hcl, hnl, ← Nat.add_mul]; exact Nat.mul_le_mul_right _ hr
      obtain ⟨w', hw', hst'⟩ := run_storeCells (P := P) ns 0 (m1 * ti.size) (cs ++ sp) w h1 (by rw [← hcl]; omega) hst
      have hov : over (cs ++ sp) (m1 * ti.size + 0) ns = (cs ++ ns) ++ sp.drop ns.length := by
        unfold over
        rw [Nat.add_zero, ← hcl, List.take_left, List.drop_append, List.drop_eq_nil_of_le (by omega)]
        simp
      rw [hov] at hst'
      refine ⟨.slice (some ⟨b, 0, none⟩) (m1 + m) c, w', _, hrun (run_append_room hu hT2 hi (hlu w) (hnw w hd) hr hw'), ⟨[(b, .cells ((cs ++ ns) ++ sp.drop ns.length).toArray E (0, 0))], rfl, ?_⟩, by simpa using hst'⟩
      refine ⟨by simp [hcl, hnl, Nat.add_mul], .inr ⟨b, c, sp.drop ns.length, rfl, rfl, ?_, hr⟩⟩
      rw [← h4]
      simp only [List.length_append, List.length_drop] at hfit ⊢
      omega
    · exact hgrow rfl hr
theorem WO.appendL {ST S2 E sz by_ m1 m : Nat} {v u : Value} {cs ns : List Value} {F : Foot} (i : Nat) (hF : Ls[i]? = some F) (hT : slTy P ST = some (E, sz, by_)) (hT2 : notInt P S2 = true)
    (hx : ev e x = some v) (hown : OwnSl E sz v m1 cs F) (hy : ev e y = some u) (hrd : RdSl sz u m ns Ls.flatten)
    (h1 : ∀ c ∈ ns, c.oneCell' = true) (hroom : (m1 + m) * by_ ≤ 140737488355328) (hn : Nat.blt d n = true)
    (k : ∀ v' F', OwnSl E sz v' (m1 + m) (cs ++ ns) F' → WO P n ops r Q ((d, v') :: e) (F' :: Ls.eraseIdx i)) : WO P n ops (⟨some d, .call { callee := .builtin .append, args := #[x, y], argTypes := #[ST, S2] }, T, p, af, none⟩ :: r) Q e Ls :=
  WO.append i hF hT hT2 hx hown hy (fun w => by obtain ⟨A, c, rfl⟩ := hrd.slice; exact lenOf_slice) hrd.1 (fun w hd => run_firstCells hrd hd) h1 hroom hn k
/-- A text's bytes as cells. -/
def bytesV (l : List UInt8) : List Value := l.map fun c => .int .u8 (c.toNat : Int)
theorem WO.appendS {ST S2 E by_ m1 : Nat} {v : Value} {cs : List Value} {l : List UInt8} {F : Foot} (i : Nat) (hF : Ls[i]? = some F) (hT : slTy P ST = some (E, 1, by_)) (hT2 : notInt P S2 = true)
    (hx : ev e x = some v) (hown : OwnSl E 1 v m1 cs F) (hy : ev e y = some (str l)) (hroom : (m1 + l.length) * by_ ≤ 140737488355328) (hn : Nat.blt d n = true)
    (k : ∀ v' F', OwnSl E 1 v' (m1 + l.length) (cs ++ bytesV l) F' → WO P n ops r Q ((d, v') :: e) (F' :: Ls.eraseIdx i)) : WO P n ops (⟨some d, .call { callee := .builtin .append, args := #[x, y], argTypes := #[ST, S2] }, T, p, af, none⟩ :: r) Q e Ls :=
  WO.append i hF hT hT2 hx hown hy (fun w => rfl) (by simp [bytesV, ba_size]) (fun w hd => by
    have : (⟨⟨l⟩⟩ : ByteArray).extract 0 l.length = ⟨⟨l⟩⟩ := by rw [ba_extract]; simp
    simp [Builtin.firstCells, this, bytesV, ba_size]) (by simp [bytesV, Value.oneCell']) hroom hn k
/-- A list of rows, one behind the other: a row of one literal. -/
theorem WO.buildSlice {ST E sz by_ m : Nat} {ps : List (Nat × Operand)} {zs cs vs : List Value} (hv : evs e (ps.map (·.2)) = some vs) (hT : slTy P ST = some (E, sz, by_)) (hz : zeroOf P E = some zs) (hm : Nat.ble (m * sz) 16777216 = true)
    (hc : fillL ((List.range m).map fun j => (j * sz, sz)) ((ps.map (·.1)).zip vs) ((List.range (m * sz)).map fun j => zs[j % zs.length]!) = some cs) (hn : Nat.blt d n = true)
    (k : ∀ b, WO P n ops r Q ((d, .slice (some ⟨b, 0, none⟩) m m) :: e) ([(b, .cells cs.toArray E (0, 0))] :: Ls)) : WO P n ops (⟨some d, .buildSlice ST m ps.toArray, T, p, af, none⟩ :: r) Q e Ls :=
  WO.eff (fun v L => ∃ b, v = .slice (some ⟨b, 0, none⟩) m m ∧ L = [(b, .cells cs.toArray E (0, 0))] :: Ls) rfl rfl hn
    (fun w0 rest a w ha hs => by
      obtain ⟨hu, ti, tz, hi, hzero, hzs, rfl, rfl, hb0⟩ := slTy_spec hT
      have hzc : tz.cells = zs.toArray := by
        unfold zeroOf at hz
        simp [hi, hzero] at hz
        rw [← hz]
      have h4 : (ps.toArray.map fun q => (q.1, a.eval q.2)).toList = (ps.map (·.1)).zip vs := by simpa using zip_eval ha ps vs hv
      have h8 := fill_of (place := fun j => some (j * ti.size, ti.size)) (fun j q h => by
        simp only [List.getElem?_map, Option.map_eq_some_iff] at h
        obtain ⟨j', h9, rfl⟩ := h
        obtain ⟨_, h10⟩ := List.getElem?_eq_some_iff.1 h9
        simp at h10
        subst h10
        rfl) _ _ _ hc
      have hm' : ¬ (m * ti.size > 2 ^ 24) := by have := Nat.le_of_ble_eq_true hm; omega
      have h10 : (Array.map (fun x => match x with | (i, x) => (i, a.eval x)) ps.toArray).toList = (ps.map (·.1)).zip vs := h4
      have h9 : (sizeOf E).run P w = .ok ti.size w := by simp [sizeOf, typeInfo, hi]
      refine ⟨_, _, _, ?_, ⟨w.heap.size, rfl, rfl⟩, by simpa using hs.alloc _⟩
      by_cases h0 : m * ti.size = 0
      · have h11 : ((List.range (m * ti.size)).map fun j => zs[j % zs.length]!) = [] := by simp [h0]
        rw [h11] at h8
        have h12 : (Array.range (m * ti.size)).map (fun j => (#[] : Array Value)[j % (#[] : Array Value).size]!) = #[] := by simp [h0]
        simp only [execOp, Instr.buildSlice, Sem.run_bind, run_underlying hu, h9, Result.andThen_ok, if_neg hm', if_pos h0, Sem.run_pure]
        rw [h10, h12, h8]
        simp [newRow]
      · have h11 : (Array.range (m * ti.size)).map (fun j => zs.toArray[j % zs.toArray.size]!) = ((List.range (m * ti.size)).map fun j => zs[j % zs.length]!).toArray := by
          apply Array.ext'; simp
        have h12 : (zeroValue E).run P w = .ok tz w := by simp [zeroValue, typeInfo, hi, hzero]
        simp only [execOp, Instr.buildSlice, Sem.run_bind, run_underlying hu, h9, Result.andThen_ok, if_neg hm', if_neg h0, h12, Sem.run_pure, hzc]
        rw [h10, h11, h8]
        simp [newRow])
    (by rintro v L ⟨b, rfl, rfl⟩; exact k b)
end rules
end Go.SL
