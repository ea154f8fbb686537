/- From the kit's contracts to those over footprints; calls that only read; interfaces against nil; texts out of bytes; elements of slices. -/
import Derived.Test.YtpaipfceibcbkaaDoorSl4
import Derived.Lib.AtoiErrMem
import Derived.Sort.Grow
import Derived.Deep.Draws
set_option linter.unusedVariables false
set_option linter.unusedSimpArgs false
namespace Go.SL
open Go.RowKit Go.Sort

theorem St.below {w0 w w' : World} {L : Foot} (h : St w0 L w) (hb : Below w.heap.size w w') : St w0 L w' :=
  ⟨hb.os.trans h.os, hb.tape.trans h.tape, hb.output.trans h.output, Nat.le_trans h.size hb.size, fun p hp => (hb.block _ (h.lt hp)).trans (h.has p hp), h.nd⟩

section
variable {P : Program} {K : FuncId} {vs : List Value} {v : Value}
theorem CallsS.of_same (h : ∀ w, Calls P K vs.toArray w fun e w' => e = .returned v ∧ w' = w) : CallsS P K vs [] fun u L => u = v ∧ L = [] :=
  fun w0 rest w hs => (h w).mono fun e w' ⟨he, hw⟩ => ⟨v, [], he, ⟨rfl, rfl⟩, by rw [hw]; exact hs⟩
theorem CallsS.of_below (h : ∀ w, Calls P K vs.toArray w fun e w' => e = .returned v ∧ Below w.heap.size w w') : CallsS P K vs [] fun u L => u = v ∧ L = [] :=
  fun w0 rest w hs => (h w).mono fun e w' ⟨he, hw⟩ => ⟨v, [], he, ⟨rfl, rfl⟩, hs.below hw⟩
theorem CallsS.of_belowG {G : Foot} {R : Value → Prop} (h : ∀ w, Hd G w → Calls P K vs.toArray w fun e w' => (∃ v, e = .returned v ∧ R v) ∧ Below w.heap.size w w') : CallsS P K vs [G] fun u L => R u ∧ L = [G] :=
  fun w0 rest w hs => (h w fun p hp => hs.has p (by simp [hp])).mono fun e w' ⟨⟨v, he, hr⟩, hw⟩ => ⟨v, [G], he, ⟨hr, rfl⟩, hs.below hw⟩
theorem CallsS.of_belowR {R : Value → Prop} (h : ∀ w, Calls P K vs.toArray w fun e w' => (∃ v, e = .returned v ∧ R v) ∧ Below w.heap.size w w') : CallsS P K vs [] fun u L => R u ∧ L = [] :=
  fun w0 rest w hs => (h w).mono fun e w' ⟨⟨v, he, hr⟩, hw⟩ => ⟨v, [], he, ⟨hr, rfl⟩, hs.below hw⟩
theorem CallsS.toG {R : Value → Prop} (G : Foot) (h : CallsS P K vs [] fun u L => R u ∧ L = []) : CallsS P K vs [G] fun u L => R u ∧ L = [G] :=
  (h.frame [G]).mono (by rintro u L ⟨L', rfl, hr, rfl⟩; exact ⟨hr, rfl⟩)
end
theorem below_drewN (w : World) (k : Nat) : Below w.heap.size w (w.drewN k) := ⟨rfl, rfl, rfl, Nat.le_refl _, fun _ _ => rfl⟩
theorem below_grow (w : World) (os : Array Obj) : Below w.heap.size w (grow w os) :=
  ⟨rfl, rfl, rfl, by simp [grow], fun k hk => by simp [grow, Array.getElem?_append_left hk]⟩
theorem below_drewN_grow (w : World) (k : Nat) (os : Array Obj) : Below w.heap.size w (grow (w.drewN k) os) :=
  ⟨rfl, rfl, rfl, by simp [grow], fun j hj => by
    show (w.heap ++ os)[j]? = w.heap[j]?
    exact Array.getElem?_append_left hj⟩

section rules
variable {P : Program} {n : Nat} {ops : Array Oper} {r : List Oper} {Q : Q'} {e : Env} {Ls : List Foot} {d : Nat} {T : TypeId} {p : String} {af : Array Edge} {xT yT : TypeId} {x y z : Operand}

/-- A callee that only reads the footprint number i. -/
theorem WO.callR {K : FuncId} {xs : List Operand} {vs : List Value} {tys : Array TypeId} {G : Foot} {R : Value → Prop} (i : Nat) (hi : Ls[i]? = some G) (hs : CallsS P K vs [G] fun u L => R u ∧ L = [G]) (hxs : evs e xs = some vs) (hK : callable P K = true) (hn : Nat.blt d n = true)
    (k : ∀ v, R v → WO P n ops r Q ((d, v) :: e) Ls) : WO P n ops (⟨some d, .call { callee := .value (.func K), args := xs.toArray, argTypes := tys }, T, p, af, none⟩ :: r) Q e Ls :=
  WO.imp (Imp.take i hi) (WO.callAny (Lc := [G]) (Lr := Ls.eraseIdx i) rfl (fun a w ha _ => exec_call ha hxs hK) rfl hs fun v L' hR w0 rest a w ha hst => by
    obtain ⟨h1, rfl⟩ := hR
    exact ⟨_, Ls, ha.put hn v, hst.perm ((perm_take i hi).symm.append_right _), k v h1⟩)
theorem WO.callRNone {K : FuncId} {xs : List Operand} {vs : List Value} {tys : Array TypeId} {G : Foot} {R : Value → Prop} (i : Nat) (hi : Ls[i]? = some G) (hs : CallsS P K vs [G] fun u L => R u ∧ L = [G]) (hxs : evs e xs = some vs) (hK : callable P K = true)
    (k : WO P n ops r Q e Ls) : WO P n ops (⟨none, .call { callee := .value (.func K), args := xs.toArray, argTypes := tys }, T, p, af, none⟩ :: r) Q e Ls :=
  WO.imp (Imp.take i hi) (WO.callAny (Lc := [G]) (Lr := Ls.eraseIdx i) rfl (fun a w ha _ => exec_call ha hxs hK) rfl hs fun v L' hR w0 rest a w ha hst => by
    obtain ⟨h1, rfl⟩ := hR
    exact ⟨_, Ls, ha, hst.perm ((perm_take i hi).symm.append_right _), k⟩)
/-- A callee that only computes, told by a property. -/
theorem WO.callQ {K : FuncId} {xs : List Operand} {vs : List Value} {tys : Array TypeId} {R : Value → Prop} (hs : CallsS P K vs [] fun u L => R u ∧ L = []) (hxs : evs e xs = some vs) (hK : callable P K = true) (hn : Nat.blt d n = true)
    (k : ∀ v, R v → WO P n ops r Q ((d, v) :: e) Ls) : WO P n ops (⟨some d, .call { callee := .value (.func K), args := xs.toArray, argTypes := tys }, T, p, af, none⟩ :: r) Q e Ls :=
  WO.call hs hxs hK (Lr := Ls) rfl hn (by rintro v L ⟨h, rfl⟩; exact k v h)

/-! ### Interfaces against nil -/
def isNilI : Value → Option Bool
  | .nilIface => some true
  | .iface _ _ => some false
  | _ => none
def isIface (P : Program) (t : TypeId) : Bool := match P.underlying t with | some (.interface _) => true | _ => false
theorem run_eq_nilI {t : TypeId} (h : isIface P t = true) {v : Value} {b : Bool} (hv : isNilI v = some b) (w : World) : (Op.equal t v .nilIface).run P w = .ok b w := by
  unfold isIface at h
  split at h
  · rename_i ms hu
    have : ∀ d, (Op.equalIn (d + 1) t v .nilIface).run P w = .ok b w := fun d => by
      cases v <;> simp [isNilI] at hv <;> subst hv <;> simp [Op.equalIn, run_underlying hu]
    exact this 9999
  · simp at h
theorem eqGuard_nilI {op : BinOp} {v : Value} {b : Bool} (hv : isNilI v = some b) (x : Operand) (w : World) : (eqGuard op xT x (.const .nilIface) v .nilIface).run P w = .ok () w := by
  cases v <;> simp [isNilI] at hv <;> cases op <;> simp [eqGuard]
theorem binOp_nilI {v : Value} {b : Bool} (hv : isNilI v = some b) (w : World) (hT : isIface P xT = true) : (binOp .eql xT v .nilIface).run P w = .ok (.bool b) w ∧ (binOp .neq xT v .nilIface).run P w = .ok (.bool (!b)) w := by
  have := run_eq_nilI hT hv w
  cases v <;> simp [isNilI] at hv <;> subst hv <;> simp only [binOp] <;> simp [this]
theorem WO.eqlN {v : Value} {b : Bool} (hx : ev e x = some v) (hv : isNilI v = some b) (hT : isIface P xT = true) (hn : Nat.blt d n = true) (k : WO P n ops r Q ((d, .bool b) :: e) Ls) : WO P n ops (⟨some d, .binOp .eql xT x (.const .nilIface) yT, T, p, af, none⟩ :: r) Q e Ls :=
  WO.val rfl rfl hn (fun a w ha _ => by
    have h2 : a.eval (.const .nilIface) = .nilIface := rfl
    simp [execOp, ha.eval hx, h2, eqGuard_nilI hv, (binOp_nilI hv w hT).1]) k
theorem WO.neqN {v : Value} {b : Bool} (hx : ev e x = some v) (hv : isNilI v = some b) (hT : isIface P xT = true) (hn : Nat.blt d n = true) (k : WO P n ops r Q ((d, .bool (!b)) :: e) Ls) : WO P n ops (⟨some d, .binOp .neq xT x (.const .nilIface) yT, T, p, af, none⟩ :: r) Q e Ls :=
  WO.val rfl rfl hn (fun a w ha _ => by
    have h2 : a.eval (.const .nilIface) = .nilIface := rfl
    simp [execOp, ha.eval hx, h2, eqGuard_nilI hv, (binOp_nilI hv w hT).2]) k

/-! ### Bytes and texts -/
/-- Whole numbers as bytes. -/
def toBytes (l : List Int) : List UInt8 := l.map fun i => UInt8.ofNat i.toNat
theorem len_toBytes (l : List Int) : (toBytes l).length = l.length := by simp [toBytes]
def ints (k : IntKind) (l : List Int) : List Value := l.map (.int k)
theorem run_bytesToString' (w : World) (a : Addr) (len cap : Nat) (ns : List Int) (h : (loadCells a len).run P w = .ok (ns.map (Value.int .u8)).toArray w) :
    (Conv.bytesToString (.slice (some a) len cap)).run P w = .ok (.string (ns.foldl (fun r n => r.push (UInt8.ofNat n.toNat)) ByteArray.empty)) w := Go.run_bytesToString w a len cap ns h
theorem run_bytesToString {w : World} {F : Foot} {v : Value} {m : Nat} {l : List Int} (h : RdSl 1 v m (ints .u8 l) F) (hd : Hd F w) : (Conv.bytesToString v).run P w = .ok (str (toBytes l)) w := by
  obtain ⟨h1, A, c, rfl, h3⟩ := h
  have hlen : l.length = m := by simpa [ints] using h1
  cases A with
  | none =>
    have : m = 0 := by
      rcases Nat.eq_zero_or_pos m with h | h
      · exact h
      · obtain ⟨b, o, cs', T, fz, h4, _⟩ := h3 h
        simp at h4
    subst this
    have : l = [] := List.eq_nil_of_length_eq_zero hlen
    subst this
    rfl
  | some a =>
    have hl : (loadCells a m).run P w = .ok (ints .u8 l).toArray w := by
      rcases Nat.eq_zero_or_pos m with h | h
      · subst h
        have : l = [] := List.eq_nil_of_length_eq_zero hlen
        subst this
        rfl
      · obtain ⟨b, o, cs', T, fz, h4, hm, hc⟩ := h3 h
        simp only [Option.some.injEq] at h4
        subst h4
        have := run_firstCells (P := P) (sz := 1) (n := m) (v := .slice (some ⟨b, o, none⟩) m c) (cs := ints .u8 l) (F := F) ⟨h1, _, _, rfl, h3⟩ hd
        simpa [Builtin.firstCells] using this
    have hfold : ∀ (l : List Int) (s : ByteArray), l.foldl (fun r n => r.push (UInt8.ofNat n.toNat)) s = ⟨⟨s.data.toList ++ toBytes l⟩⟩ := by
      intro l
      induction l with
      | nil => intro s; simp [toBytes]
      | cons i l ih => intro s; simp only [List.foldl_cons, ih]; simp [toBytes]
    rw [run_bytesToString' w a m c l hl, hfold]
    rfl
theorem WO.convBS {v : Value} {m : Nat} {l : List Int} {E : TypeId} (hx : ev e x = some v) (hrd : RdSl 1 v m (ints .u8 l) Ls.flatten) (hT : P.underlying yT = some .string) (hS : P.underlying xT = some (.slice E)) (hE : P.underlying E = some (.int .u8)) (hn : Nat.blt d n = true)
    (k : WO P n ops r Q ((d, str (toBytes l)) :: e) Ls) : WO P n ops (⟨some d, .convert xT yT x, T, p, af, none⟩ :: r) Q e Ls :=
  WO.val rfl rfl hn (fun a w ha hd => by
    have h1 := run_bytesToString (P := P) hrd hd
    obtain ⟨A, c, rfl⟩ := hrd.slice
    simp [execOp, ha.eval hx, convert, run_underlying hT, run_underlying hS, run_underlying hE, h1]) k
/-- A text's bytes in a row of their own: the row ends in a mark that nobody writes. -/
theorem WO.convSB {l : List UInt8} {E : TypeId} (hx : ev e x = some (str l)) (hT : P.underlying yT = some (.slice E)) (hS : P.underlying xT = some .string) (hE : P.underlying E = some (.int .u8)) (hn : Nat.blt d n = true)
    (k : ∀ b c sp fz, P.underlying E = some (.int .u8) → (bytesV l ++ sp).length = c → fz = (c, c + 1) → WO P n ops r Q ((d, .slice (some ⟨b, 0, none⟩) l.length c) :: e) ([(b, .cells (bytesV l ++ sp).toArray E fz)] :: Ls)) : WO P n ops (⟨some d, .convert xT yT x, T, p, af, none⟩ :: r) Q e Ls :=
  WO.eff (fun v L => ∃ b c sp fz, (bytesV l ++ sp).length = c ∧ fz = (c, c + 1) ∧ v = .slice (some ⟨b, 0, none⟩) l.length c ∧ L = [(b, .cells (bytesV l ++ sp).toArray E fz)] :: Ls) rfl rfl hn
    (fun w0 rest a w ha hs => by
      have h1 := Lib.run_convert_string_bytes (P := P) w xT yT E ⟨⟨l⟩⟩ hS hT hE
      have hle : l.length ≤ grownCap w l.length 0 E := by
        unfold grownCap
        simp only [Question.cut]
        omega
      refine ⟨_, Lib.bytesWorld w E ⟨⟨l⟩⟩, _, by simp [execOp, ha.eval hx, h1, ba_size], ⟨w.heap.size, grownCap w l.length 0 E, List.replicate (grownCap w l.length 0 E - l.length) (Value.int .u8 0), _, by simp [bytesV]; omega, rfl, rfl, rfl⟩, ?_⟩
      have h2 := Lib.bytesWorld_at_new w E ⟨⟨l⟩⟩
      have hb := Lib.bytesWorld_below w E ⟨⟨l⟩⟩
      have h3 : St w0 (Ls.flatten ++ rest) (Lib.bytesWorld w E ⟨⟨l⟩⟩) := hs.below hb
      have hcells : Lib.bytesCells w E ⟨⟨l⟩⟩ = (bytesV l ++ List.replicate (grownCap w l.length 0 E - l.length) (Value.int .u8 0)).toArray := by
        apply Array.ext'
        simp [Lib.bytesCells, bytesV, ba_size]
      have hsz : (Lib.bytesCells w E ⟨⟨l⟩⟩).size = grownCap w l.length 0 E := by rw [hcells]; simp [bytesV]; omega
      rw [hcells] at h2
      refine ⟨h3.os, h3.tape, h3.output, h3.size, fun q hq => ?_, ?_⟩
      · simp only [List.flatten_cons, List.cons_append, List.nil_append, List.mem_cons] at hq
        rcases hq with rfl | hq
        · have hsz2 : ((bytesV l ++ List.replicate (grownCap w l.length 0 E - l.length) (Value.int .u8 0)).toArray : Array Value).size = grownCap w l.length 0 E := by simp [bytesV]; omega
          rw [hsz2] at h2
          exact h2
        · exact h3.has q hq
      · simp only [List.flatten_cons, List.cons_append, List.nil_append, List.map_cons, List.nodup_cons]
        refine ⟨fun hm => ?_, h3.nd⟩
        obtain ⟨q, hq, he⟩ := List.mem_map.1 hm
        have := hs.lt hq
        omega)
    (by rintro v L ⟨b, c, sp, fz, h1, h2, rfl, rfl⟩; exact k b c sp fz hE h1 h2)

/-! ### Elements -/
theorem WO.indexAddr {ST E sz by_ m : Nat} {v : Value} {cs : List Value} {kd : IntKind} {i : Int} (hx : ev e x = some v) (hy : ev e y = some (.int kd i)) (hT : slTy P ST = some (E, sz, by_)) (hrd : RdSl sz v m cs Ls.flatten) (hi : 0 ≤ i ∧ i < m) (hsz : 0 < sz) (hn : Nat.blt d n = true)
    (k : ∀ (b o : Nat) (cs' : List Value) (T' : TypeId) (fz : Nat × Nat), (b, Obj.cells cs'.toArray T' fz) ∈ Ls.flatten → (cs'.drop o).take sz = (cs.drop (i.toNat * sz)).take sz → o + sz ≤ cs'.length → WO P n ops r Q ((d, .pointer (some ⟨b, o, none⟩)) :: e) Ls) : WO P n ops (⟨some d, .indexAddr ST x y, T, p, af, none⟩ :: r) Q e Ls := by
  obtain ⟨hl, A, c, rfl, h3⟩ := hrd
  obtain ⟨b, o, cs', T', fz, rfl, hm, hc⟩ := h3 (by omega)
  obtain ⟨hu, ti, tz, hti, hzero, hzs, rfl, rfl, hb0⟩ := slTy_spec hT
  have hmul : i.toNat * ti.size + ti.size ≤ m * ti.size := by rw [← Nat.succ_mul]; exact Nat.mul_le_mul_right _ (by omega)
  have hlen : m * ti.size ≤ cs'.length - o := by
    have := congrArg List.length hc
    rw [hl] at this
    simp at this
    omega
  have hel : (cs'.drop (o + i.toNat * ti.size)).take ti.size = (cs.drop (i.toNat * ti.size)).take ti.size := by
    rw [← hc, List.drop_take, List.take_take, List.drop_drop, Nat.min_eq_left (by omega)]
  refine WO.val rfl rfl hn (fun a w ha _ => ?_) (k b (o + i.toNat * ti.size) cs' T' fz hm hel (by omega))
  simp [execOp, ha.eval hx, ha.eval hy, Instr.indexAt, asIntOf, run_underlying hu, hi.1, hi.2, sizeOf, typeInfo, hti, addr_add]
/-- The element's one cell. -/
theorem cell1 {cs' cs : List Value} {o j : Nat} (h : (cs'.drop o).take 1 = (cs.drop j).take 1) (hj : j < cs.length) : cs'[o]? = some (cs[j]'hj) := by
  have h1 : ((cs'.drop o).take 1)[0]? = ((cs.drop j).take 1)[0]? := by rw [h]
  simpa [List.getElem?_take, List.getElem?_drop, hj] using h1
end rules

/-! ### All that lay there when the call began -/
def ambient (W : World) : Foot := (List.range W.heap.size).filterMap fun i => (W.heap[i]?).map fun o => (i, o)
theorem mem_ambient {W : World} {i : Nat} {o : Obj} : (i, o) ∈ ambient W ↔ W.heap[i]? = some o := by
  unfold ambient
  simp only [List.mem_filterMap, List.mem_range, Option.map_eq_some_iff, Prod.mk.injEq]
  constructor
  · rintro ⟨j, _, o', h, rfl, rfl⟩; exact h
  · intro h
    exact ⟨i, (Array.getElem?_eq_some_iff.1 h).1, o, h, rfl, rfl⟩
theorem St.ambient (W : World) : St W (ambient W) W := by
  refine ⟨rfl, rfl, rfl, Nat.le_refl _, fun p hp => mem_ambient.1 hp, ?_⟩
  have : (SL.ambient W).map (·.1) = List.range W.heap.size := by
    unfold SL.ambient
    rw [List.map_filterMap]
    rw [show (fun i => ((W.heap[i]?).map fun o => (i, o)).map (·.1)) = fun i => (W.heap[i]?).map fun _ => i from funext fun i => by cases W.heap[i]? <;> rfl]
    have h2 : ∀ (l : List Nat), (∀ i ∈ l, i < W.heap.size) → l.filterMap (fun i => (W.heap[i]?).map fun _ => i) = l := by
      intro l
      induction l with
      | nil => intro _; rfl
      | cons i l ih =>
        intro h
        have hi : i < W.heap.size := h i (List.mem_cons_self ..)
        rw [List.filterMap_cons]
        simp only [Array.getElem?_eq_getElem hi, Option.map_some]
        rw [ih fun j hj => h j (List.mem_cons_of_mem _ hj)]
    exact h2 _ fun i hi => List.mem_range.1 hi
  rw [this]
  exact List.nodup_range
theorem Hd.ambient {W w : World} (h : Hd (ambient W) w) : ∀ i, i < W.heap.size → w.heap[i]? = W.heap[i]? := fun i hi => by
  have := h (i, W.heap[i]) (mem_ambient.2 (Array.getElem?_eq_getElem hi))
  rw [Array.getElem?_eq_getElem hi]
  exact this
theorem St.toBelow {W w : World} {r : Foot} (h : St W (SL.ambient W ++ r) w) : Below W.heap.size W w :=
  ⟨h.os, h.tape, h.output, h.size, Hd.ambient fun p hp => h.has p (List.mem_append_left _ hp)⟩
theorem var?_same {P : Program} {W w : World} {n : String} {cs : Array Value} (hw : ∀ i, i < W.heap.size → w.heap[i]? = W.heap[i]?) (h : W.var? P n = some cs) : w.var? P n = some cs := by
  unfold World.var? at h ⊢
  cases hg : P.globalNamed n with
  | none => simp [hg] at h
  | some g =>
    simp only [hg, Option.bind_some] at h ⊢
    have hlt : g < W.heap.size := by
      rcases Nat.lt_or_ge g W.heap.size with h1 | h1
      · exact h1
      · simp [Array.getElem?_eq_none h1] at h
    rw [hw g hlt]
    exact h
/-- A law's contract as the row wants it. -/
theorem Calls.of_law {P : Program} {K : FuncId} {vs : List Value} {W : World} (h : CallsS P K vs [SL.ambient W] fun v L => (v = .bool true) ∧ L = [SL.ambient W]) : Calls P K vs.toArray W fun e w' => e = .returned (.bool true) ∧ Below W.heap.size W w' :=
  (h W [] W (by simpa using St.ambient W)).mono fun e w' ⟨v, L, he, ⟨hv, hL⟩, hs⟩ => by
    subst hv; subst hL
    exact ⟨he, St.toBelow (r := []) (by simpa using hs)⟩
end Go.SL
