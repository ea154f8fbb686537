/- Regions that draw: their operations may come up in any order that the edges allow. A plan tells in which order they are told; operations that only compute or read may be told first. -/
import Derived.Test.YtpaipfceibcbkaaDoorSl5
import Derived.Orders
set_option linter.unusedVariables false
set_option linter.unusedSimpArgs false
namespace Go.SL
open Go.RowKit

/-- Only new blocks have come. -/
def Grow (w w' : World) : Prop := Below w.heap.size w w'
theorem Grow.refl (w : World) : Grow w w := Below.refl _ w
theorem Grow.trans {a b c : World} (h : Grow a b) (k : Grow b c) : Grow a c :=
  ⟨k.os.trans h.os, k.tape.trans h.tape, k.output.trans h.output, Nat.le_trans h.size k.size, fun i hi => (k.block i (Nat.lt_of_lt_of_le hi h.size)).trans (h.block i hi)⟩
theorem Hd.grow {F : Foot} {w w' : World} (h : Hd F w) (g : Grow w w') : Hd F w' := fun p hp => by
  have h1 := h p hp
  rw [g.block p.1 (Array.getElem?_eq_some_iff.1 h1).1]; exact h1

/-! ### The rest of memory -/
def amb (X : Foot) (w : World) : Foot := (ambient w).filter fun p => !(X.map (·.1)).contains p.1
theorem mem_amb {X : Foot} {w : World} {p : Nat × Obj} : p ∈ amb X w ↔ w.heap[p.1]? = some p.2 ∧ p.1 ∉ X.map (·.1) := by
  unfold amb
  rw [List.mem_filter]
  obtain ⟨i, o⟩ := p
  rw [mem_ambient]
  simp
theorem St.amb {X : Foot} {w : World} (h : Hd X w) (hn : (X.map (·.1)).Nodup) : St w (X ++ SL.amb X w) w := by
  refine ⟨rfl, rfl, rfl, Nat.le_refl _, fun p hp => ?_, ?_⟩
  · rcases List.mem_append.1 hp with h1 | h1
    · exact h p h1
    · exact (mem_amb.1 h1).1
  · rw [List.map_append, List.nodup_append]
    refine ⟨hn, ?_, fun a ha b hb => ?_⟩
    · exact List.Nodup.sublist (List.filter_sublist.map _) (St.ambient w).nd
    · obtain ⟨p, hp, rfl⟩ := List.mem_map.1 hb
      rintro rfl
      exact (mem_amb.1 hp).2 ha
theorem St.ambGrow {X : Foot} {w w' : World} (h0 : Hd X w) (h : St w (X ++ SL.amb X w) w') : Grow w w' :=
  ⟨h.os, h.tape, h.output, h.size, fun i hi => by
    by_cases hx : i ∈ X.map (·.1)
    · obtain ⟨p, hp, rfl⟩ := List.mem_map.1 hx
      rw [h0 p hp]
      exact h.has p (List.mem_append_left _ hp)
    · have h1 : w.heap[i]? = some w.heap[i] := Array.getElem?_eq_getElem hi
      rw [h1]
      exact h.has (i, w.heap[i]) (List.mem_append_right _ (mem_amb.2 ⟨h1, hx⟩))⟩
theorem St.ofAmb {w0 w w' : World} {X X' r : Foot} (h0 : St w0 (X ++ r) w) (h : St w (X' ++ SL.amb X w) w') : St w0 (X' ++ r) w' := by
  have hnd := h0.nd
  rw [List.map_append, List.nodup_append] at hnd
  have hsub : ∀ p ∈ r, p ∈ SL.amb X w := fun p hp => mem_amb.2 ⟨h0.has p (List.mem_append_right _ hp), fun hx => hnd.2.2 _ hx _ (List.mem_map_of_mem hp) rfl⟩
  have hnd' := h.nd
  rw [List.map_append, List.nodup_append] at hnd'
  refine ⟨h.os.trans h0.os, h.tape.trans h0.tape, h.output.trans h0.output, Nat.le_trans h0.size h.size, fun p hp => ?_, ?_⟩
  · rcases List.mem_append.1 hp with h1 | h1
    · exact h.has p (List.mem_append_left _ h1)
    · exact h.has p (List.mem_append_right _ (hsub p h1))
  · rw [List.map_append, List.nodup_append]
    refine ⟨hnd'.1, hnd.2.1, fun a ha b hb => ?_⟩
    obtain ⟨p, hp, rfl⟩ := List.mem_map.1 hb
    exact hnd'.2.2 a ha _ (List.mem_map_of_mem (hsub p hp))

/-! ### An operation that leaves memory as it is, but for new blocks -/
def Gives (P : Program) (o : Oper) (v : Value) (w : World) : Result Next → Prop
  | .ok (.value u) w' => (o.dst = none ∨ u = v) ∧ Grow w w'
  | .ok .skip w' => (o.dst = none ∨ undef = v) ∧ Grow w w'
  | .ok (.enter f args) w' => Calls P f args w' fun x w'' => ∃ u, x = .returned u ∧ (o.dst = none ∨ u = v) ∧ Grow w w''
  | .ok (.row row args) w' => Rows P row args w' fun u w'' => (o.dst = none ∨ u = v) ∧ Grow w w''
  | _ => False
def Quiet (P : Program) (ops : Array Oper) (S : World → Prop) (o : Oper) (v : Value) (a : Act) : Prop :=
  (Region.wanted o (yielded ops a.tmps) = true ∧ ∀ w, S w → Gives P o v w ((execOp a.eval o).run P w)) ∨
  (Region.wanted o (yielded ops a.tmps) = false ∧ (o.dst = none ∨ v = undef))

theorem put_same {a : Act} {d : Option Tmp} {u v : Value} (h : d = none ∨ u = v) : a.put d u = a.put d v := by
  rcases h with rfl | rfl <;> rfl

section
variable {P : Program} {ops : Array Oper} {Q : Exit → Act → World → Prop} {md : Region.Mode}

theorem Quiet.wpOp {S : World → Prop} {i : Nat} {o : Oper} {v : Value} {a : Act} {w : World} (hi : ops[i]? = some o) (hy : Quiet P ops S o v a) (hS : S w)
    {K : Act → World → Prop} (h : ∀ w', Grow w w' → K (a.put o.dst v) w') : wpOp P ops Q i K a w := by
  unfold Go.wpOp
  simp only [hi]
  rcases hy with ⟨hw, hv⟩ | ⟨hw, hv⟩
  · simp only [hw, if_true]
    refine .inl ?_
    have := hv w hS
    unfold Oper.wp
    generalize (execOp a.eval o).run P w = r at *
    cases r with
    | ok n w' =>
      cases n <;> simp only [Gives] at this <;> simp only [Oper.upon]
      case value u => rw [put_same this.1]; exact h _ this.2
      case skip => rw [put_same this.1]; exact h _ this.2
      case enter f args =>
        refine this.mono ?_
        rintro x w'' ⟨u, rfl, h1, h2⟩
        show K (a.put o.dst u) w''
        rw [put_same h1]; exact h _ h2
      case row row args => exact Rows.mono this fun u w'' h1 => by rw [put_same h1.1]; exact h _ h1.2
    | halt x w' => simp only [Gives] at this
  · simp only [hw, Bool.false_eq_true, if_false]
    rw [put_same (u := undef) (v := v) (by rcases hv with h1 | h1; exact .inl h1; exact .inr h1.symm)]
    exact h _ (Grow.refl w)
theorem Quiet.of_same {S : World → Prop} {o : Oper} {v : Value} {a a' : Act} (hy : Quiet P ops S o v a) (he : execOp a'.eval o = execOp a.eval o)
    (hw : Region.wanted o (yielded ops a'.tmps) = Region.wanted o (yielded ops a.tmps)) : Quiet P ops S o v a' := by
  unfold Quiet at *
  rw [he, hw]; exact hy

/-- An operation apart from another: it does not matter whether the other's value is there already. -/
theorem wpOp_push {j : Nat} {oj : Oper} {di : Option Tmp} {v : Value} (hj : ops[j]? = some oj) (h1 : ∀ d, di = some d → d ∉ oj.looksAt ops) (h2 : ∀ d, di = some d → oj.dst ≠ some d)
    (hsj : ∀ cs b, oj.op ≠ .select cs b) (hQ : ∀ c a w, ¬ Q (.panic c) a w) {Y : Act → Prop} {K : Act → World → Prop} {a : Act} {w : World}
    (hY : ∀ u, Y (a.put oj.dst u)) (hYd : ∀ d u, Y (({ a with defers := d :: a.defers } : Act).put oj.dst u))
    (h : wpOp P ops Q j K (a.put di v) w) : wpOp P ops Q j (fun a' w' => Y a' ∧ K (a'.put di v) w') a w := by
  unfold wpOp at *
  simp only [hj] at *
  rw [wanted_put oj a di v h1] at h
  split
  · rename_i hw
    simp only [hw, if_true] at h
    rcases h with h | ⟨hasks, hlets⟩
    case inr => exact .inr ⟨by unfold Oper.asks at *; rw [execOp_put oj hsj a di v h1] at hasks; exact hasks, hlets⟩
    refine .inl ?_
    unfold Oper.wp at *
    rw [execOp_put oj hsj a di v h1] at h
    generalize (execOp a.eval oj).run P w = r at *
    cases r with
    | ok n w' =>
      cases n <;> simp only [Oper.upon] at h ⊢
      case value u => exact ⟨hY u, by rw [← Act.put_comm a v u h2]; exact h⟩
      case skip => exact ⟨hY _, by rw [← Act.put_comm a v undef h2]; exact h⟩
      case defer d =>
        refine ⟨hYd d _, ?_⟩
        rw [← Act.put_comm _ v undef h2, ← Act.put_defers]
        exact h
      case enter f args =>
        refine Calls.mono h fun e w'' he => ?_
        cases e with
        | returned u => exact ⟨hY u, by rw [← Act.put_comm a v u h2]; exact he⟩
        | panicked c => exact (hQ _ _ _ he).elim
        | outgrown => exact he
      case row row args => exact Rows.mono h fun u w'' he => ⟨hY u, by rw [← Act.put_comm a v u h2]; exact he⟩
    | halt x w' =>
      cases x <;> simp only [Oper.upon] at h ⊢
      case panic u => exact (hQ _ _ _ h).elim
  · rename_i hw
    simp only [hw] at h
    exact ⟨hY _, by rw [← Act.put_comm a v undef h2]; exact h⟩

/-- Whatever order is picked from here on; 'cls': 0: only new blocks come; 1: F stays; 2: anything. -/
def wpX (P : Program) (ops : Array Oper) (Q : Exit → Act → World → Prop) (F : Foot) (cls : List Nat) : Nat → Array Bool → Act → World → Prop
  | 0, listed, a, w => Region.ready .any ops listed = [] ∧ ∀ w', Grow w w' → Q .normal a w'
  | f + 1, listed, a, w => ∀ w', Grow w w' → (Region.ready .any ops listed = [] → Q .normal a w') ∧
      ∀ i ∈ Region.ready .any ops listed, wpOp P ops Q i (fun a' w'' => ((cls.getD i 2 = 0 → Grow w' w'') ∧ (cls.getD i 2 ≤ 1 → Hd F w' → Hd F w'')) ∧ wpX P ops Q F cls f (listed.setIfInBounds i true) a' w'') a w'

theorem wpAny_of_wpX {F : Foot} {cls : List Nat} : ∀ (f : Nat) (listed : Array Bool) (a : Act) (w : World), wpX P ops Q F cls f listed a w → wpAny P .any ops Q f listed a w
  | 0, _, _, w, h => ⟨h.1, h.2 w (Grow.refl w)⟩
  | f + 1, _, _, w, h => ⟨(h w (Grow.refl w)).1, fun i hi => wpOp_mono (fun a' w' h' => wpAny_of_wpX f _ a' w' h'.2) ((h w (Grow.refl w)).2 i hi)⟩
theorem wpX_grow {F : Foot} {cls : List Nat} {f : Nat} {listed : Array Bool} {a : Act} {w w' : World} (h : wpX P ops Q F cls f listed a w) (g : Grow w w') : wpX P ops Q F cls f listed a w' := by
  cases f with
  | zero => exact ⟨h.1, fun w'' g' => h.2 w'' (g.trans g')⟩
  | succ f => exact fun w'' g' => h w'' (g.trans g')

def kindS (k : Nat) (F X : Foot) (w : World) : Prop := if k = 0 then True else if k = 2 then Hd F w else Hd X w
theorem kindS_grow {k : Nat} {F X : Foot} {w w' : World} (h : kindS k F X w) (g : Grow w w') : kindS k F X w' := by
  unfold kindS at *
  split
  · trivial
  · rename_i h0
    rw [if_neg h0] at h
    split
    · rename_i h2; rw [if_pos h2] at h; exact Hd.grow h g
    · rename_i h2; rw [if_neg h2] at h; exact Hd.grow h g

theorem wpX_first {F X : Foot} {cls : List Nat} {i k : Nat} {oi : Oper} {v : Value} {D : List Nat} (hi : ops[i]? = some oi) (hsel : ∀ (j : Nat) (o : Oper) cs b, ops[j]? = some o → o.op ≠ .select cs b)
    (hQ : ∀ c a w, ¬ Q (.panic c) a w) : ∀ (f : Nat) (listed : Array Bool) (a : Act) (w : World),
      (∀ j oj, ops[j]? = some oj → j ≠ i → listed.getD j true = false → j ∉ D → oi.apart ops oj = true ∧ (cls.getD j 2 = 0 ∨ k = 0 ∨ (k = 2 ∧ cls.getD j 2 ≤ 1))) →
      (∀ j ∈ D, listed.getD j true = false ∧ ∃ oj, ops[j]? = some oj ∧ ∃ e ∈ oj.after, Region.binds .any e = true ∧ (e.on = i ∨ e.on ∈ D)) →
      i ∈ Region.ready .any ops listed → Quiet P ops (kindS k F X) oi v a → kindS k F X w →
      wpX P ops Q F cls f (listed.setIfInBounds i true) (a.put oi.dst v) w → wpX P ops Q F cls (f + 1) listed a w := by
  intro f
  induction f with
  | zero =>
    intro listed a w hfree hD hr hy hS H w1 g1
    refine ⟨fun h => (by rw [h] at hr; cases hr), fun j hj => ?_⟩
    by_cases hji : j = i
    · subst hji
      exact hy.wpOp hi (kindS_grow hS g1) fun w2 g2 => ⟨⟨fun _ => g2, fun _ hF => hF.grow g2⟩, wpX_grow H (g1.trans g2)⟩
    · have := ready_mono hj hji
      rw [H.1] at this
      cases this
  | succ f ih =>
    intro listed a w hfree hD hr hy hS H w1 g1
    refine ⟨fun h => (by rw [h] at hr; cases hr), fun j hj => ?_⟩
    by_cases hji : j = i
    · subst hji
      exact hy.wpOp hi (kindS_grow hS g1) fun w2 g2 => ⟨⟨fun _ => g2, fun _ hF => hF.grow g2⟩, wpX_grow H (g1.trans g2)⟩
    · obtain ⟨hjun, oj, hoj, hall⟩ := mem_ready.1 hj
      have hjD : j ∉ D := fun hm => by
        obtain ⟨_, oj', hoj', e, he, hb, hon⟩ := hD j hm
        rw [hoj] at hoj'
        obtain rfl := Option.some.inj hoj'
        have h1 := hall e he hb
        have hun : ∀ m, listed.getD m true = false → listed.getD m false = true → False := fun m h0 h1 => by
          rcases Nat.lt_or_ge m listed.size with h' | h'
          · simp [h'] at h0 h1; rw [h0] at h1; cases h1
          · simp [Array.getElem?_eq_none h'] at h1
        rcases hon with hon | hon
        · exact hun i (mem_ready.1 hr).1 (hon ▸ h1)
        · exact hun e.on (hD _ hon).1 h1
      obtain ⟨hap, hcl⟩ := hfree j oj hoj hji hjun hjD
      obtain ⟨h1, h2, h3⟩ := Oper.apart_spec hap
      have hK := (H w1 g1).2 j (ready_mono hj hji)
      have hsi := fun cs b => hsel i oi cs b hi
      have hpush := wpOp_push (Y := fun a' => Quiet P ops (kindS k F X) oi v a') hoj h1 h2 (fun cs b => hsel j oj cs b hoj) hQ
        (fun u => hy.of_same (execOp_put oi hsi a oj.dst u h3) (wanted_put oi a oj.dst u h3))
        (fun d u => hy.of_same (execOp_put oi hsi _ oj.dst u h3) (wanted_put oi _ oj.dst u h3)) hK
      refine wpOp_mono (fun a' w2 h => ?_) hpush
      obtain ⟨hy', ⟨hg, hF⟩, hw⟩ := h
      refine ⟨⟨hg, hF⟩, ih (listed.setIfInBounds j true) a' w2 ?_ ?_ (ready_mono hr (Ne.symm hji)) hy' ?_ ?_⟩
      · intro m om hm hmi hun hmD
        refine hfree m om hm hmi ?_ hmD
        by_cases hjm : j = m
        · subst hjm; exact hjun
        · rw [getD_set_ne true hjm] at hun; exact hun
      · intro m hm
        obtain ⟨h4, h5⟩ := hD m hm
        refine ⟨?_, h5⟩
        rw [getD_set_ne true (fun he : j = m => hjD (he.symm ▸ hm))]; exact h4
      · have hS1 := kindS_grow hS g1
        unfold kindS at hS1 ⊢
        split
        · trivial
        · rename_i hk0
          rw [if_neg hk0] at hS1
          rcases hcl with hcl | hcl | ⟨hk2, hcl⟩
          · split
            · rename_i hk2; rw [if_pos hk2] at hS1; exact hF (by omega) hS1
            · rename_i hk2; rw [if_neg hk2] at hS1; exact Hd.grow hS1 (hg hcl)
          · exact absurd hcl hk0
          · rw [if_pos hk2] at hS1 ⊢; exact hF hcl hS1
      · rw [Array.setIfInBounds_comm _ _ hji]
        exact hw
end

/-! ### Plans -/
abbrev Plan := List (Nat × Nat × List Nat)
def freeB (ops : Array Oper) (cls : List Nat) (listed : Array Bool) (i k : Nat) (D : List Nat) : Bool :=
  match ops[i]? with
  | none => false
  | some oi => ((List.range ops.size).all fun j => j == i || listed.getD j true || D.contains j || match ops[j]? with
      | some oj => oi.apart ops oj && (cls.getD j 2 == 0 || k == 0 || (k == 2 && Nat.ble (cls.getD j 2) 1))
      | none => true) && D.all fun j => !listed.getD j true && match ops[j]? with
      | some oj => oj.after.toList.any fun e => Region.binds .any e && (e.on == i || D.contains e.on)
      | none => false
def okPlan (ops : Array Oper) (cls : List Nat) : Plan → Array Bool → Bool
  | [], listed => (Region.ready .any ops listed).isEmpty
  | (i, k, D) :: r, listed => (bif Nat.beq k 3 then Region.ready .any ops listed == [i] else (Region.ready .any ops listed).contains i && freeB ops cls listed i k D) && okPlan ops cls r (listed.setIfInBounds i true)
def okTop (ops : Array Oper) (cls : List Nat) (p : Plan) : Bool := Nat.beq p.length ops.size && Region.noSelect ops && okPlan ops cls p (Array.replicate ops.size false)

def nth : List Oper → Nat → Option Oper
  | [], _ => none
  | o :: _, 0 => some o
  | _ :: r, n + 1 => nth r n
theorem nth_eq : ∀ (l : List Oper) (i : Nat), nth l i = l[i]?
  | [], _ => by simp [nth]
  | _ :: _, 0 => by simp [nth]
  | _ :: r, n + 1 => by simp [nth, nth_eq r n]

def putE : Option Nat → Value → Env → Env
  | some d, v, e => (d, v) :: e
  | none, _, e => e
/-- It yields v, and owns as before. -/
def capV (dst : Option Nat) (v : Value) (e : Env) (Ls : List Foot) : Q'
  | .normal, e', Ls' => e' = putE dst v e ∧ Ls' = Ls
  | _, _, _ => False
def capK (K : Env → List Foot → Prop) : Q'
  | .normal, e, Ls => K e Ls
  | _, _, _ => False
def WL (P : Program) (n : Nat) (l : List Oper) (F : Foot) (cls : List Nat) (Q : Q') (p : Plan) (e : Env) (Ls : List Foot) : Prop :=
  Region.noSelect l.toArray = true → (F.map (·.1)).Nodup → ∀ listed, okPlan l.toArray cls p listed = true → ∀ w0 rest a w, Ag n e a → St w0 (Ls.flatten ++ rest) w → wpX P l.toArray (Post n w0 rest Q) F cls p.length listed a w

section
variable {P : Program} {n : Nat} {Q : Q'}
theorem Post.noPanic {w0 : World} {rest : Foot} : ∀ c a w, ¬ Post n w0 rest Q (.panic c) a w := fun _ _ _ h => h
theorem Post.noLets {w0 : World} {rest : Foot} (h : LetsOut (Post n w0 rest Q)) : False := by obtain ⟨_, _, h⟩ := h; exact h
theorem Fits.grow {w0 : World} {rest : Foot} {K : Env → List Foot → Prop} {a : Act} {w w' : World} (h : Fits n w0 rest K a w) (g : Grow w w') : Fits n w0 rest K a w' := by
  obtain ⟨e, Ls, h1, h2, h3⟩ := h
  exact ⟨e, Ls, h1, h2.below g, h3⟩

theorem Quiet.of_wo {ops : Array Oper} {o : Oper} {v : Value} {e : Env} {Lx : List Foot} {a : Act} (ha : Ag n e a) (hnd : (Lx.flatten.map (·.1)).Nodup) {w : World} (hw0 : Hd Lx.flatten w) (h : WO P n ops [o] (capV o.dst v e Lx) e Lx) :
    Quiet P ops (Hd Lx.flatten) o v a := by
  have key : ∀ u w w', Hd Lx.flatten w → Fits n w (amb Lx.flatten w) (capV o.dst v e Lx .normal) (a.put o.dst u) w' → (o.dst = none ∨ u = v) ∧ Grow w w' := by
    rintro u w w' hw ⟨e', Ls', h1, h2, rfl, rfl⟩
    refine ⟨?_, St.ambGrow hw h2⟩
    cases hd : o.dst with
    | none => exact .inl rfl
    | some d =>
      right
      rw [hd] at h1
      have h3 := h1.look d v (by simp [putE, get])
      have h4 : d < (a.put (some d) u).tmps.size := (Array.getElem?_eq_some_iff.1 h3).1
      have h5 : d < a.tmps.size := by simpa [Act.put] using h4
      simpa [Act.put, h5] using h3
  unfold Quiet
  cases hw : Region.wanted o (yielded ops a.tmps) with
  | true =>
    refine .inl ⟨rfl, fun w hS => ?_⟩
    have h1 := h w (amb Lx.flatten w) a w ha (St.amb hS hnd)
    unfold wpList at h1
    rw [if_pos hw] at h1
    rcases h1 with h1 | h1
    case inr => exact (Post.noLets h1.2).elim
    unfold Oper.wp at h1
    generalize (execOp a.eval o).run P w = r at *
    cases r with
    | ok nx w' =>
      cases nx <;> simp only [Oper.upon, wpList, Post] at h1 <;> simp only [Gives]
      case value u => exact key u w w' hS h1
      case skip => exact key undef w w' hS h1
      case enter f args =>
        refine h1.mono fun x w'' hx => ?_
        cases x with
        | returned u => obtain ⟨h3, h4⟩ := key u w w'' hS hx; exact ⟨u, rfl, h3, h4⟩
        | panicked c => exact hx.elim
        | outgrown => exact (Post.noLets hx).elim
      case defer d => obtain ⟨e', Ls', g1, g2, g3⟩ := h1; have := g1.defers; cases hd : o.dst <;> simp [Act.put, hd] at this
      case row row args => exact Rows.mono h1 fun u w'' hx => key u w w'' hS hx
    | halt x w' =>
      cases x <;> simp only [Oper.upon, Post] at h1
  | false =>
    refine .inr ⟨rfl, ?_⟩
    have h1 := h w (amb Lx.flatten w) a w ha (St.amb hw0 hnd)
    unfold wpList at h1
    rw [if_neg (by simp [hw])] at h1
    exact (key undef w w hw0 h1).1.imp id Eq.symm
end

section
variable {P : Program} {n : Nat} {Q : Q'} {F : Foot} {cls : List Nat} {l : List Oper}

theorem Ag.putE {e : Env} {a : Act} {dst : Option Nat} {v u : Value} (ha : Ag n e a) (h : Ag n (putE dst v e) (a.put dst u)) (hu : dst = none ∨ u = v) : Ag n (SL.putE dst v e) (a.put dst v) := by
  rw [← put_same hu]; exact h

theorem WL.step {i k : Nat} {D : List Nat} {r : Plan} {e : Env} {Ls : List Foot} (h : ∃ o, nth l i = some o ∧
      ((k = 3 ∧ WO P n l.toArray [o] (capK fun e' Ls' => ((cls.getD i 2 = 0 → ∃ X, Ls' = X ++ Ls) ∧ (cls.getD i 2 ≤ 1 → ∀ p ∈ F, p ∈ Ls'.flatten)) ∧ WL P n l F cls Q r e' Ls') e Ls) ∨
       (k ≠ 3 ∧ ∃ v Lx, (o.dst.all fun d => Nat.blt d n) = true ∧ (if k = 0 then Lx = [] else if k = 2 then Lx = [F] ∧ (∀ p ∈ F, p ∈ Ls.flatten) else Lx = Ls) ∧ WO P n l.toArray [o] (capV o.dst v e Lx) e Lx ∧ WL P n l F cls Q r (putE o.dst v e) Ls))) : WL P n l F cls Q ((i, k, D) :: r) e Ls := by
    intro hl hF listed hok w0 rest a w ha hs
    obtain ⟨o, ho, h⟩ := h
    have hi : l.toArray[i]? = some o := by rw [nth_eq] at ho; simpa using ho
    simp only [okPlan, Bool.and_eq_true] at hok
    obtain ⟨hok1, hok2⟩ := hok
    have hHd : Hd Ls.flatten w := fun q hq => hs.has q (List.mem_append_left _ hq)
    have hNd : (Ls.flatten.map (·.1)).Nodup := by have := hs.nd; rw [List.map_append, List.nodup_append] at this; exact this.1
    rcases h with ⟨rfl, h⟩ | ⟨hk, v, Lx, hdn, hx, hv, h⟩
    · have hr : Region.ready .any l.toArray listed = [i] := by simpa using hok1
      intro w1 g1
      have hs1 := hs.below g1
      have hHd1 : Hd Ls.flatten w1 := fun q hq => hs1.has q (List.mem_append_left _ hq)
      refine ⟨fun h0 => (by rw [hr] at h0; cases h0), fun j hj => ?_⟩
      obtain rfl : j = i := by rw [hr] at hj; simpa using hj
      have h1 := h w1 (amb Ls.flatten w1) a w1 ha (St.amb hHd1 hNd)
      have fin : ∀ a' w2, Fits n w1 (amb Ls.flatten w1) (capK (fun e' Ls' => ((cls.getD j 2 = 0 → ∃ X, Ls' = X ++ Ls) ∧ (cls.getD j 2 ≤ 1 → ∀ p ∈ F, p ∈ Ls'.flatten)) ∧ WL P n l F cls Q r e' Ls') .normal) a' w2 →
          ((cls.getD j 2 = 0 → Grow w1 w2) ∧ (cls.getD j 2 ≤ 1 → Hd F w1 → Hd F w2)) ∧ SL.wpX P l.toArray (Post n w0 rest Q) F cls r.length (listed.setIfInBounds j true) a' w2 := by
        rintro a' w2 ⟨e', Ls', g2, g3, ⟨g4, g5⟩, g6⟩
        refine ⟨⟨fun h0 => ?_, fun h0 _ => fun q hq => g3.has q (List.mem_append_left _ (g5 h0 q hq))⟩, g6 hl hF _ hok2 w0 rest a' w2 g2 (hs1.ofAmb g3)⟩
        obtain ⟨X, rfl⟩ := g4 h0
        exact St.ambGrow (X := Ls.flatten) hHd1 (g3.weak (by rw [List.flatten_append, List.append_assoc]; exact List.sublist_append_right _ _))
      unfold wpList at h1
      unfold wpOp
      simp only [hi]
      split
      · rename_i hw
        rw [if_pos hw] at h1
        rcases h1 with h1 | h1
        case inr => exact (Post.noLets h1.2).elim
        refine .inl ?_
        unfold Oper.wp at h1 ⊢
        generalize (execOp a.eval o).run P w1 = res at *
        cases res with
        | ok nx w' =>
          cases nx <;> simp only [Oper.upon, wpList, Post] at h1 ⊢
          case value u => exact fin _ _ h1
          case skip => exact fin _ _ h1
          case enter f args =>
            refine h1.mono fun x w'' hx' => ?_
            cases x with
            | returned u => exact fin _ _ hx'
            | panicked c => exact hx'.elim
            | outgrown => exact (Post.noLets hx').elim
          case defer d => exact fin _ _ h1
          case row row args => exact Rows.mono h1 fun u w'' hx' => fin _ _ hx'
        | halt x w' => cases x <;> simp only [Oper.upon, Post] at h1
      · rename_i hw
        rw [if_neg hw] at h1
        exact fin _ _ h1
    · have hkb : Nat.beq k 3 = false := by
        cases hb : Nat.beq k 3 with
        | false => rfl
        | true => exact absurd (Nat.eq_of_beq_eq_true hb) hk
      rw [hkb] at hok1
      simp only [cond_false, Bool.and_eq_true] at hok1
      obtain ⟨hr, hf⟩ := hok1
      unfold freeB at hf
      rw [hi] at hf
      simp only [Bool.and_eq_true, List.all_eq_true, List.mem_range, Bool.or_eq_true] at hf
      obtain ⟨hf1, hf2⟩ := hf
      have hLxNd : (Lx.flatten.map (·.1)).Nodup := by
        split at hx
        · subst hx; simp
        · split at hx
          · obtain ⟨rfl, _⟩ := hx; simpa using hF
          · subst hx; exact hNd
      have hLxHd : Hd Lx.flatten w := by
        split at hx
        · subst hx; intro q hq; simp at hq
        · split at hx
          · obtain ⟨rfl, hh⟩ := hx; intro q hq; exact hHd q (hh q (by simpa using hq))
          · subst hx; exact hHd
      have hkS : ∀ w', kindS k F Ls.flatten w' → Hd Lx.flatten w' := by
        intro w' hw'
        unfold kindS at hw'
        split at hx
        · subst hx; intro q hq; simp at hq
        · rename_i hk0
          rw [if_neg hk0] at hw'
          split at hx
          · rename_i hk2; rw [if_pos hk2] at hw'; obtain ⟨rfl, _⟩ := hx; intro q hq; exact hw' q (by simpa using hq)
          · rename_i hk2; rw [if_neg hk2] at hw'; subst hx; exact hw'
      have hSk : kindS k F Ls.flatten w := by
        unfold kindS
        split
        · trivial
        · rename_i hk0
          rw [if_neg hk0] at hx
          split
          · rename_i hk2; rw [if_pos hk2] at hx; exact fun q hq => hHd q (hx.2 q hq)
          · exact hHd
      have hq0 := Quiet.of_wo (w := w) ha hLxNd hLxHd hv
      have hq : Quiet P l.toArray (kindS k F Ls.flatten) o v a := hq0.imp (fun ⟨h1, h2⟩ => ⟨h1, fun w' hw' => h2 w' (hkS w' hw')⟩) id
      have hag : Ag n (SL.putE o.dst v e) (a.put o.dst v) := by
        cases hd : o.dst with
        | none => exact ha
        | some d => exact ha.put (by rw [hd] at hdn; simpa using hdn) v
      refine wpX_first (X := Ls.flatten) (D := D) (k := k) hi (Region.noSelect_spec hl) Post.noPanic r.length listed a w ?_ ?_ (by simpa using hr) hq hSk (h hl hF _ hok2 w0 rest _ w hag hs)
      · intro j oj hoj hji hun hjD
        have hlt : j < l.toArray.size := (Array.getElem?_eq_some_iff.1 hoj).1
        have := hf1 j hlt
        rcases this with ((h1 | h1) | h1) | h1
        · exact absurd (by simpa using h1) hji
        · rw [hun] at h1; cases h1
        · exact absurd (by simpa using h1) hjD
        · rw [hoj] at h1
          simp only [Bool.and_eq_true, Bool.or_eq_true, beq_iff_eq, Nat.ble_eq] at h1
          exact ⟨h1.1, by rcases h1.2 with (h2 | h2) | h2; exact .inl h2; exact .inr (.inl h2); exact .inr (.inr h2)⟩
      · intro j hj
        have := hf2 j hj
        simp only [Bool.not_eq_true'] at this
        refine ⟨this.1, ?_⟩
        have h2 := this.2
        split at h2
        · rename_i oj hoj
          refine ⟨oj, hoj, ?_⟩
          rw [List.any_eq_true] at h2
          obtain ⟨e1, he1, he2⟩ := h2
          simp only [Bool.and_eq_true, Bool.or_eq_true, beq_iff_eq, List.contains_iff_mem] at he2
          exact ⟨e1, by simpa using he1, he2.1, he2.2⟩
        · cases h2

theorem wpList_post {P : Program} {ops : Array Oper} {Q R : Exit → Act → World → Prop} (h : ∀ x a w, Q x a w → R x a w) : ∀ (l : List Oper) (a : Act) (w : World), wpList P ops Q l a w → wpList P ops R l a w
  | [], a, w, hh => h _ _ _ hh
  | o :: l, a, w, hh => by
    have hL : LetsOut Q → LetsOut R := fun ⟨a, w, h1⟩ => ⟨a, w, h _ _ _ h1⟩
    unfold wpList at hh ⊢
    split
    · rename_i hw
      rw [if_pos hw] at hh
      rcases hh with hh | ⟨h1, h2⟩
      · left
        unfold Oper.wp at hh ⊢
        generalize (execOp a.eval o).run P w = res at *
        cases res with
        | ok nx w' =>
          cases nx <;> simp only [Oper.upon] at hh ⊢
          case value u => exact wpList_post h l _ _ hh
          case skip => exact wpList_post h l _ _ hh
          case enter f args =>
            refine hh.mono fun x w'' hx' => ?_
            cases x with
            | returned u => exact wpList_post h l _ _ hx'
            | panicked c => exact h _ _ _ hx'
            | outgrown => exact hL hx'
          case defer d => exact wpList_post h l _ _ hh
          case row row args => exact Rows.mono hh fun u w'' hx' => wpList_post h l _ _ hx'
        | halt x w' => cases x <;> simp only [Oper.upon] at hh ⊢; exact h _ _ _ hh
      · exact .inr ⟨h1, hL h2⟩
    · rename_i hw
      rw [if_neg hw] at hh
      exact wpList_post h l _ _ hh
theorem WO.post {ops : Array Oper} {ol : List Oper} {K K' : Env → List Foot → Prop} {e : Env} {Ls : List Foot} (h : WO P n ops ol (capK K) e Ls) (hk : ∀ e' Ls', K e' Ls' → K' e' Ls') : WO P n ops ol (capK K') e Ls :=
  fun w0 rest a w ha hs => wpList_post (Post.mono fun o e Ls hh => by cases o <;> first | exact hk _ _ hh | exact hh) _ _ _ (h w0 rest a w ha hs)

/-- A region that draws, told by a plan. -/
theorem WP.regionD {id : Nat} {e : Env} {Ls : List Foot} (F : Foot) (cls : List Nat) (p : Plan) (hm : P.follows .mixedOrders = true) (hok : okTop l.toArray cls p = true) (hF : (F.map (·.1)).Nodup)
    (h : WL P n l F cls Q p e Ls) : WP P n (.region id l.toArray true) Q e Ls := by
  intro w0 rest a w ha hs
  simp only [okTop, Bool.and_eq_true] at hok
  obtain ⟨⟨h1, h2⟩, h3⟩ := hok
  refine wp_region_any hm ?_
  rw [← Nat.eq_of_beq_eq_true h1]
  exact wpAny_of_wpX _ _ _ _ (h h2 hF _ (by rw [Nat.eq_of_beq_eq_true h1]; exact h3) w0 rest a _ ha (hs.drawn _))

variable {i : Nat} {o : Oper} {D : List Nat} {r : Plan} {e : Env} {Ls : List Foot}
theorem WL.nil (h : Q .normal e Ls) : WL P n l F cls Q [] e Ls := fun hl hF listed hok w0 rest a w ha hs => ⟨by simpa [okPlan] using hok, fun w' g => ⟨e, Ls, ha, hs.below g, h⟩⟩
theorem WL.split {p : Plan} (t : Nat) {b : Bool} (ht : get e t = some (.bool b)) (h1 : b = true → WL P n l F cls Q p ((t, .bool true) :: e) Ls) (h0 : b = false → WL P n l F cls Q p ((t, .bool false) :: e) Ls) : WL P n l F cls Q p e Ls := by
  intro hl hF listed hok w0 rest a w ha hs
  cases b with
  | true => exact h1 rfl hl hF listed hok w0 rest a w ⟨ha.size, ha.defers, fun i v hi => ha.look i v (get_same ht i v hi)⟩ hs
  | false => exact h0 rfl hl hF listed hok w0 rest a w ⟨ha.size, ha.defers, fun i v hi => ha.look i v (get_same ht i v hi)⟩ hs
theorem capN {K : Env → List Foot → Prop} (h : K e Ls) : capK K .normal e Ls := h
variable {d : Nat} {op : Op} {T : TypeId} {ps : String} {af : Array Edge} {g : Option (Nat × Bool)}
theorem WL.pure {v : Value} (ho : nth l i = some ⟨some d, op, T, ps, af, g⟩) (hn : Nat.blt d n = true) (h : WO P n l.toArray [⟨some d, op, T, ps, af, g⟩] (capV (some d) v e []) e []) (k : WL P n l F cls Q r ((d, v) :: e) Ls) : WL P n l F cls Q ((i, 0, D) :: r) e Ls :=
  WL.step ⟨_, ho, .inr ⟨by decide, v, [], by simpa using hn, by simp, h, k⟩⟩
theorem WL.pureNone (ho : nth l i = some ⟨none, op, T, ps, af, g⟩) (h : WO P n l.toArray [⟨none, op, T, ps, af, g⟩] (capV none undef e []) e []) (k : WL P n l F cls Q r e Ls) : WL P n l F cls Q ((i, 0, D) :: r) e Ls :=
  WL.step ⟨_, ho, .inr ⟨by decide, undef, [], by simp, by simp, h, k⟩⟩
theorem WL.read {v : Value} (ho : nth l i = some ⟨some d, op, T, ps, af, g⟩) (hn : Nat.blt d n = true) (h : WO P n l.toArray [⟨some d, op, T, ps, af, g⟩] (capV (some d) v e Ls) e Ls) (k : WL P n l F cls Q r ((d, v) :: e) Ls) : WL P n l F cls Q ((i, 1, D) :: r) e Ls :=
  WL.step ⟨_, ho, .inr ⟨by decide, v, Ls, by simpa using hn, by simp, h, k⟩⟩
theorem WL.readNone (ho : nth l i = some ⟨none, op, T, ps, af, g⟩) (h : WO P n l.toArray [⟨none, op, T, ps, af, g⟩] (capV none undef e Ls) e Ls) (k : WL P n l F cls Q r e Ls) : WL P n l F cls Q ((i, 1, D) :: r) e Ls :=
  WL.step ⟨_, ho, .inr ⟨by decide, undef, Ls, by simp, by simp, h, k⟩⟩
theorem WL.readF {v : Value} (ho : nth l i = some ⟨some d, op, T, ps, af, g⟩) (hn : Nat.blt d n = true) (hF : ∀ p ∈ F, p ∈ Ls.flatten) (h : WO P n l.toArray [⟨some d, op, T, ps, af, g⟩] (capV (some d) v e [F]) e [F]) (k : WL P n l F cls Q r ((d, v) :: e) Ls) : WL P n l F cls Q ((i, 2, D) :: r) e Ls :=
  WL.step ⟨_, ho, .inr ⟨by decide, v, [F], by simpa using hn, by simp; exact fun a b h => by simpa using hF (a, b) h, h, k⟩⟩
theorem WL.readFNone (ho : nth l i = some ⟨none, op, T, ps, af, g⟩) (hF : ∀ p ∈ F, p ∈ Ls.flatten) (h : WO P n l.toArray [⟨none, op, T, ps, af, g⟩] (capV none undef e [F]) e [F]) (k : WL P n l F cls Q r e Ls) : WL P n l F cls Q ((i, 2, D) :: r) e Ls :=
  WL.step ⟨_, ho, .inr ⟨by decide, undef, [F], by simp, by simp; exact fun a b h => by simpa using hF (a, b) h, h, k⟩⟩
theorem WL.eff (ho : nth l i = some o) (hc : cls.getD i 2 = 2) (h : WO P n l.toArray [o] (capK fun e' Ls' => WL P n l F cls Q r e' Ls') e Ls) : WL P n l F cls Q ((i, 3, D) :: r) e Ls :=
  WL.step ⟨o, ho, .inl ⟨rfl, WO.post h fun e' Ls' hk => ⟨⟨fun h0 => by omega, fun h0 => by omega⟩, hk⟩⟩⟩
theorem WL.effF (ho : nth l i = some o) (hc : cls.getD i 2 = 1) (h : WO P n l.toArray [o] (capK fun e' Ls' => (∀ p ∈ F, p ∈ Ls'.flatten) ∧ WL P n l F cls Q r e' Ls') e Ls) : WL P n l F cls Q ((i, 3, D) :: r) e Ls :=
  WL.step ⟨o, ho, .inl ⟨rfl, WO.post h fun e' Ls' hk => ⟨⟨fun h0 => by omega, fun _ => hk.1⟩, hk.2⟩⟩⟩
theorem WL.effG (ho : nth l i = some o) (hF : ∀ p ∈ F, p ∈ Ls.flatten) (h : WO P n l.toArray [o] (capK fun e' Ls' => (∃ X, Ls' = X ++ Ls) ∧ WL P n l F cls Q r e' Ls') e Ls) : WL P n l F cls Q ((i, 3, D) :: r) e Ls :=
  WL.step ⟨o, ho, .inl ⟨rfl, WO.post h fun e' Ls' hk => ⟨⟨fun _ => hk.1, fun _ => by obtain ⟨⟨X, rfl⟩, _⟩ := hk; intro p hp; simp only [List.flatten_append, List.mem_append]; exact .inr (hF p hp)⟩, hk.2⟩⟩⟩
end
end Go.SL
