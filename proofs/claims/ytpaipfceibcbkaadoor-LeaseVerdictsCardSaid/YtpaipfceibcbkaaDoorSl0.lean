/- The logic of footprints: what a walk knows of the frame (a list of slots and values) and of memory (a list of footprints, each a list of blocks with what they hold); the rules for Go's control. No program in sight. -/
import Derived.Calls
import Derived.Tactics
import Derived.Orders
import Derived.KernelRfl
set_option linter.unusedVariables false
set_option linter.unusedSimpArgs false
namespace Go.SL

abbrev Foot := List (Nat × Obj)
abbrev Env := List (Nat × Value)

/-! ### The frame -/
def get : Env → Nat → Option Value
  | [], _ => none
  | (j, v) :: r, i => bif Nat.beq j i then some v else get r i

def ev (e : Env) : Operand → Option Value
  | .tmp t => get e t
  | .const v => some v
  | .global g => some (.pointer (some ⟨g, 0, none⟩))
  | .func f => some (.func (.func f) #[] #[])

def evs (e : Env) : List Operand → Option (List Value)
  | [] => some []
  | x :: r => (ev e x).bind fun v => (evs e r).map fun vs => v :: vs

structure Ag (n : Nat) (e : Env) (a : Act) : Prop where
  size : a.tmps.size = n
  defers : a.defers = []
  look : ∀ i v, get e i = some v → a.tmps[i]? = some v

theorem Ag.eval {n : Nat} {e : Env} {a : Act} {x : Operand} {v : Value} (h : Ag n e a) (hx : ev e x = some v) : a.eval x = v := by
  cases x with
  | tmp t => simp [Act.eval, Array.getD_eq_getD_getElem?, h.look t v hx]
  | const c => simpa [ev, Act.eval] using hx
  | global g => simpa [ev, Act.eval] using hx
  | func f => simpa [ev, Act.eval] using hx

theorem Ag.evalList {n : Nat} {e : Env} {a : Act} (h : Ag n e a) : ∀ {xs : List Operand} {vs : List Value}, evs e xs = some vs → xs.map a.eval = vs
  | [], vs, hx => by simpa [evs] using hx
  | x :: r, vs, hx => by
    simp only [evs, Option.bind_eq_some_iff, Option.map_eq_some_iff] at hx
    obtain ⟨v, h1, us, h2, rfl⟩ := hx
    simp [h.eval h1, h.evalList h2]

theorem Ag.put {n : Nat} {e : Env} {a : Act} {d : Nat} (h : Ag n e a) (hd : Nat.blt d n = true) (v : Value) : Ag n ((d, v) :: e) (a.put (some d) v) := by
  have hd' : d < a.tmps.size := by rw [h.size]; simpa using hd
  refine ⟨by simp [Act.put, h.size], h.defers, fun i u hi => ?_⟩
  simp only [get] at hi
  simp only [Act.put]
  cases hb : Nat.beq d i with
  | true =>
    have : d = i := Nat.eq_of_beq_eq_true hb
    subst this
    simp only [hb, cond_true, Option.some.injEq] at hi
    subst hi
    simp [hd']
  | false =>
    have : d ≠ i := Nat.ne_of_beq_eq_false hb
    simp only [hb, cond_false] at hi
    rw [Array.getElem?_setIfInBounds_ne this]
    exact h.look i u hi

theorem Ag.putNone {n : Nat} {e : Env} {a : Act} (h : Ag n e a) (v : Value) : Ag n e (a.put none v) := h

/-- Less is known. -/
def Sub (e' e : Env) : Prop := ∀ i v, get e' i = some v → get e i = some v
def subB : (e' e : Env) → Prop
  | [], _ => True
  | (i, v) :: r, e => get e i = some v ∧ subB r e
theorem subB.sub {e : Env} : ∀ {e' : Env}, subB e' e → Sub e' e
  | [], _, i, v, h => by simp [get] at h
  | (j, u) :: r, hs, i, v, h => by
    simp only [get] at h
    cases hb : Nat.beq j i with
    | true =>
      have : j = i := Nat.eq_of_beq_eq_true hb
      subst this
      simp only [hb, cond_true, Option.some.injEq] at h
      subst h
      exact hs.1
    | false =>
      simp only [hb, cond_false] at h
      exact subB.sub hs.2 i v h
theorem Ag.sub {n : Nat} {e e' : Env} {a : Act} (h : Ag n e a) (hs : subB e' e) : Ag n e' a := ⟨h.size, h.defers, fun i v hi => h.look i v (subB.sub hs i v hi)⟩

/-! ### Memory -/
def Hd (L : Foot) (w : World) : Prop := ∀ p ∈ L, w.heap[p.1]? = some p.2

structure St (w0 : World) (L : Foot) (w : World) : Prop where
  os : w.os = w0.os
  tape : w.tape = w0.tape
  output : w.output = w0.output
  size : w0.heap.size ≤ w.heap.size
  has : Hd L w
  nd : (L.map (·.1)).Nodup

theorem St.perm {w0 w : World} {L L' : Foot} (h : St w0 L w) (hp : L.Perm L') : St w0 L' w :=
  ⟨h.os, h.tape, h.output, h.size, fun p hm => h.has p (hp.symm.subset hm), (hp.map _).nodup_iff.1 h.nd⟩
theorem St.weak {w0 w : World} {L L' : Foot} (h : St w0 L w) (hp : L'.Sublist L) : St w0 L' w :=
  ⟨h.os, h.tape, h.output, h.size, fun p hm => h.has p (hp.subset hm), (hp.map _).nodup h.nd⟩
theorem St.drawn {w0 w : World} {L : Foot} (h : St w0 L w) (k : Nat) : St w0 L { w with drawn := k } := ⟨h.os, h.tape, h.output, h.size, h.has, h.nd⟩
theorem St.lt {w0 w : World} {L : Foot} (h : St w0 L w) {p : Nat × Obj} (hp : p ∈ L) : p.1 < w.heap.size := (Array.getElem?_eq_some_iff.1 (h.has p hp)).1

/-- A new block. -/
theorem St.alloc {w0 w : World} {L : Foot} (h : St w0 L w) (o : Obj) : St w0 ((w.heap.size, o) :: L) { w with heap := w.heap.push o } := by
  refine ⟨h.os, h.tape, h.output, by simpa using Nat.le_succ_of_le h.size, fun p hp => ?_, ?_⟩
  · rcases List.mem_cons.1 hp with rfl | hp
    · simp
    · have := h.lt hp
      simp only [Array.getElem?_push]
      rw [if_neg (by omega)]
      exact h.has p hp
  · simp only [List.map_cons, List.nodup_cons]
    refine ⟨fun hm => ?_, h.nd⟩
    obtain ⟨p, hp, he⟩ := List.mem_map.1 hm
    have := h.lt hp
    omega

/-- One block is written. -/
theorem St.write {w0 w : World} {L : Foot} {b : Nat} {o o' : Obj} (h : St w0 ((b, o) :: L) w) {w' : World} (hw : w' = { w with heap := w.heap.setIfInBounds b o' }) : St w0 ((b, o') :: L) w' := by
  subst hw
  have hlt : b < w.heap.size := h.lt (List.mem_cons_self ..)
  have hnd := h.nd
  simp only [List.map_cons, List.nodup_cons] at hnd
  refine ⟨h.os, h.tape, h.output, by simpa using h.size, fun p hp => ?_, ?_⟩
  · rcases List.mem_cons.1 hp with rfl | hp
    · simp [hlt]
    · have hne : b ≠ p.1 := fun he => hnd.1 (List.mem_map.2 ⟨p, hp, he.symm⟩)
      simp only
      rw [Array.getElem?_setIfInBounds_ne hne]
      exact h.has p (List.mem_cons_of_mem _ hp)
  · simpa using hnd

/-! ### Code -/
inductive Out where
  | normal
  | exit (id : Nat)
  | goto (l : Nat)
  | ret

abbrev Q' := Out → Env → List Foot → Prop

def Fits (n : Nat) (w0 : World) (rest : Foot) (K : Env → List Foot → Prop) (a : Act) (w : World) : Prop :=
  ∃ e Ls, Ag n e a ∧ St w0 (Ls.flatten ++ rest) w ∧ K e Ls

def Post (n : Nat) (w0 : World) (rest : Foot) (Q : Q') : Exit → Act → World → Prop
  | .normal, a, w => Fits n w0 rest (Q .normal) a w
  | .exit id, a, w => Fits n w0 rest (Q (.exit id)) a w
  | .goto l, a, w => Fits n w0 rest (Q (.goto l)) a w
  | .ret, a, w => Fits n w0 rest (Q .ret) a w
  | .panic _, _, _ => False
  | .outgrown, _, _ => False

def WP (P : Program) (n : Nat) (c : Code) (Q : Q') (e : Env) (Ls : List Foot) : Prop :=
  ∀ w0 rest a w, Ag n e a → St w0 (Ls.flatten ++ rest) w → c.wp P (Post n w0 rest Q) a w

theorem Fits.mono {n : Nat} {w0 : World} {rest : Foot} {K K' : Env → List Foot → Prop} {a : Act} {w : World} (h : Fits n w0 rest K a w) (hk : ∀ e Ls, K e Ls → K' e Ls) : Fits n w0 rest K' a w := by
  obtain ⟨e, Ls, h1, h2, h3⟩ := h
  exact ⟨e, Ls, h1, h2, hk _ _ h3⟩
theorem Post.mono {n : Nat} {w0 : World} {rest : Foot} {Q R : Q'} (hq : ∀ o e Ls, Q o e Ls → R o e Ls) : ∀ x a w, Post n w0 rest Q x a w → Post n w0 rest R x a w
  | .normal, _, _, h => Fits.mono h (hq _)
  | .exit _, _, _, h => Fits.mono h (hq _)
  | .goto _, _, _, h => Fits.mono h (hq _)
  | .ret, _, _, h => Fits.mono h (hq _)
  | .panic _, _, _, h => h.elim
  | .outgrown, _, _, h => h.elim

section rules
variable {P : Program} {n : Nat} {Q : Q'} {e : Env} {Ls : List Foot}

theorem WP.mono {c : Code} {R : Q'} (h : WP P n c Q e Ls) (hq : ∀ o e Ls, Q o e Ls → R o e Ls) : WP P n c R e Ls :=
  fun w0 rest a w ha hs => wp_mono (h w0 rest a w ha hs) (Post.mono hq)

theorem WP.sub {c : Code} (e' : Env) (hs : subB e' e) (h : WP P n c Q e' Ls) : WP P n c Q e Ls :=
  fun w0 rest a w ha hst => h w0 rest a w (ha.sub hs) hst

theorem WP.skip (h : Q .normal e Ls) : WP P n .skip Q e Ls := fun _ _ _ _ ha hs => wp_skip ⟨e, Ls, ha, hs, h⟩
theorem WP.exit {id : Nat} (h : Q (.exit id) e Ls) : WP P n (.exit id) Q e Ls := fun _ _ _ _ ha hs => wp_exit ⟨e, Ls, ha, hs, h⟩
theorem WP.ret (h : Q .ret e Ls) : WP P n .ret Q e Ls := fun _ _ _ _ ha hs => wp_ret ⟨e, Ls, ha, hs, h⟩
theorem WP.goto {l : Nat} (h : Q (.goto l) e Ls) : WP P n (.goto l) Q e Ls := fun _ _ _ _ ha hs => wp_goto ⟨e, Ls, ha, hs, h⟩
theorem WP.label {l : Nat} (h : Q .normal e Ls) : WP P n (.label l) Q e Ls := fun _ _ _ _ ha hs => wp_label ⟨e, Ls, ha, hs, h⟩

def thn (K : Env → List Foot → Prop) (Q : Q') : Q'
  | .normal => K
  | o => Q o

theorem WP.seq {x y : Code} (h : WP P n x (thn (WP P n y Q) Q) e Ls) : WP P n (.seq x y) Q e Ls :=
  fun w0 rest a w ha hs => wp_seq (wp_mono (h w0 rest a w ha hs) fun x a w hq => by
    cases x with
    | normal => obtain ⟨e, Ls, h1, h2, h3⟩ := hq; exact h3 w0 rest a w h1 h2
    | exit id => exact hq
    | goto l => exact hq
    | ret => exact hq
    | panic c => exact hq
    | outgrown => exact hq)

/-- A cut behind the first part: what is known there, told by a parameter. -/
theorem WP.cut {α : Sort _} {x y : Code} (E : α → Env) (L : α → List Foot) (I : α → Prop)
    (h : WP P n x (thn (fun e' Ls' => ∃ z, subB (E z) e' ∧ Ls' = L z ∧ I z) Q) e Ls) (k : ∀ z, I z → WP P n y Q (E z) (L z)) : WP P n (.seq x y) Q e Ls :=
  WP.seq (h.mono fun o e' Ls' hq => by
    cases o with
    | normal => obtain ⟨z, h1, rfl, h3⟩ := hq; exact WP.sub _ h1 (k z h3)
    | exit id => exact hq
    | goto l => exact hq
    | ret => exact hq)

theorem WP.cond {c : Operand} {x y : Code} {b : Bool} (hc : ev e c = some (.bool b)) (ht : b = true → WP P n x Q e Ls) (hf : b = false → WP P n y Q e Ls) : WP P n (.cond c x y) Q e Ls :=
  fun w0 rest a w ha hs => wp_cond_split (ha.eval hc) (fun h => ht h w0 rest a w ha hs) (fun h => hf h w0 rest a w ha hs)
theorem WP.condT {c : Operand} {x y : Code} (hc : ev e c = some (.bool true)) (ht : WP P n x Q e Ls) : WP P n (.cond c x y) Q e Ls :=
  fun w0 rest a w ha hs => wp_cond_true (ha.eval hc) (ht w0 rest a w ha hs)
theorem WP.condF {c : Operand} {x y : Code} (hc : ev e c = some (.bool false)) (hf : WP P n y Q e Ls) : WP P n (.cond c x y) Q e Ls :=
  fun w0 rest a w ha hs => wp_cond_false (ha.eval hc) (hf w0 rest a w ha hs)

def blk (id : Nat) (Q : Q') : Q'
  | .exit i => bif Nat.beq i id then Q .normal else Q (.exit i)
  | o => Q o

theorem WP.block {id : Nat} {c : Code} (h : WP P n c (blk id Q) e Ls) : WP P n (.block id c) Q e Ls :=
  fun w0 rest a w ha hs => wp_block (wp_mono (h w0 rest a w ha hs) fun x a w hq => by
    cases x with
    | exit i =>
      by_cases hi : i = id
      · subst hi
        simpa [Post, Exit.inBlock, blk] using hq
      · have : Nat.beq i id = false := by
          cases hb : Nat.beq i id with
          | false => rfl
          | true => exact absurd (Nat.eq_of_beq_eq_true hb) hi
        simpa [Post, Exit.inBlock, blk, hi, this] using hq
    | normal => exact hq
    | goto l => exact hq
    | ret => exact hq
    | panic c => exact hq
    | outgrown => exact hq)

/-- A loop: what holds at each head, told by a parameter; a measure goes down. -/
theorem WP.loop {α : Sort _} {c : Code} (E : α → Env) (L : α → List Foot) (I : α → Prop) (μ : α → Nat)
    (h0 : ∃ z, subB (E z) e ∧ Ls = L z ∧ I z)
    (round : ∀ z, I z → WP P n c (thn (fun e' Ls' => ∃ y, subB (E y) e' ∧ Ls' = L y ∧ I y ∧ μ y < μ z) Q) (E z) (L z)) : WP P n (.loop c) Q e Ls := by
  intro w0 rest a w ha hs b k cs
  obtain ⟨z, h1, rfl, h3⟩ := h0
  have key : ∀ (m : Nat) (z : α) (a : Act) (w : World), μ z = m → I z → Ag n (E z) a → St w0 ((L z).flatten ++ rest) w →
      ∃ x a' w', Post n w0 rest Q x a' w' ∧ Arrives P (lone (b.at a (.code c :: .inLoop c :: k)) cs w) b k cs x a' w' := by
    intro m
    induction m using Nat.strongRecOn with
    | _ m ih =>
      intro z a w hm hz ha hs
      obtain ⟨x, a₁, w₁, hq, harr⟩ := round z hz w0 rest a w ha hs b (.inLoop c :: k) cs
      cases x with
      | normal =>
        obtain ⟨e', Ls', g1, g2, y, g3, rfl, g5, g6⟩ := hq
        obtain ⟨x₂, a₂, w₂, hq₂, harr₂⟩ := ih (μ y) (hm ▸ g6) y a₁ w₁ rfl g5 (g1.sub g3) g2
        exact ⟨x₂, a₂, w₂, hq₂, .of_steps (Steps.trans harr (.one step_inLoop)) harr₂⟩
      | exit id => exact ⟨.exit id, a₁, w₁, hq, .pass (x := .inLoop c) rfl (fun _ _ => .inl (by simp)) harr⟩
      | goto l => exact ⟨.goto l, a₁, w₁, hq, .pass (x := .inLoop c) rfl (fun _ _ => .inl (by simp)) harr⟩
      | ret => exact ⟨.ret, a₁, w₁, hq, .pass (x := .inLoop c) rfl (fun _ _ => .inl (by simp)) harr⟩
      | panic ch => exact hq.elim
      | outgrown => exact hq.elim
  obtain ⟨x, a', w', hq, harr⟩ := key _ z a w rfl h3 (ha.sub h1) hs
  exact ⟨x, a', w', hq, .of_steps (.one step_loop) harr⟩

theorem thnN {K : Env → List Foot → Prop} (h : K e Ls) : thn K Q .normal e Ls := h
theorem thnR {K : Env → List Foot → Prop} (h : Q .ret e Ls) : thn K Q .ret e Ls := h
theorem thnE {K : Env → List Foot → Prop} {id : Nat} (h : Q (.exit id) e Ls) : thn K Q (.exit id) e Ls := h
theorem blkN {id : Nat} (h : Q .normal e Ls) : blk id Q .normal e Ls := h
theorem blkR {id : Nat} (h : Q .ret e Ls) : blk id Q .ret e Ls := h
theorem blkHit {id : Nat} (h : Q .normal e Ls) : blk id Q (.exit id) e Ls := by
  have : Nat.beq id id = true := Nat.beq_refl id
  simpa [blk, this] using h
theorem blkMiss {id j : Nat} (hj : Nat.beq j id = false) (h : Q (.exit j) e Ls) : blk id Q (.exit j) e Ls := by simpa [blk, hj] using h

theorem WP.loop1 {α1 : Type} {c : Code} (E : α1 → Env) (L : α1 → List Foot) (I : α1 → Prop) (μ : α1 → Nat)
    (h0 : ∃ x1, subB (E x1) e ∧ Ls = L x1 ∧ I x1)
    (round : ∀ x1, I x1 → WP P n c (thn (fun e' Ls' => ∃ y1, subB (E y1) e' ∧ Ls' = L y1 ∧ I y1 ∧ μ y1 < μ x1) Q) (E x1) (L x1)) : WP P n (.loop c) Q e Ls :=
  WP.loop (α := α1) (fun z => E z) (fun z => L z) (fun z => I z) (fun z => μ z)
    (by obtain ⟨x1, h⟩ := h0; exact ⟨x1, h⟩)
    (fun z hz => (round z hz).mono fun o e' Ls' h => by
      cases o with
      | normal => obtain ⟨x1, h⟩ := h; exact ⟨x1, h⟩
      | exit id => exact h
      | goto l => exact h
      | ret => exact h)
theorem WP.cut1 {α1 : Type} {x y : Code} (E : α1 → Env) (L : α1 → List Foot) (I : α1 → Prop)
    (h : WP P n x (thn (fun e' Ls' => ∃ x1, subB (E x1) e' ∧ Ls' = L x1 ∧ I x1) Q) e Ls) (k : ∀ x1, I x1 → WP P n y Q (E x1) (L x1)) : WP P n (.seq x y) Q e Ls :=
  WP.cut (α := α1) (fun z => E z) (fun z => L z) (fun z => I z)
    (h.mono fun o e' Ls' h => by
      cases o with
      | normal => obtain ⟨x1, h⟩ := h; exact ⟨x1, h⟩
      | exit id => exact h
      | goto l => exact h
      | ret => exact h) (fun z hz => k z hz)

theorem WP.loop2 {α1 : Type} {α2 : Type} {c : Code} (E : α1 → α2 → Env) (L : α1 → α2 → List Foot) (I : α1 → α2 → Prop) (μ : α1 → α2 → Nat)
    (h0 : ∃ x1 x2, subB (E x1 x2) e ∧ Ls = L x1 x2 ∧ I x1 x2)
    (round : ∀ x1 x2, I x1 x2 → WP P n c (thn (fun e' Ls' => ∃ y1 y2, subB (E y1 y2) e' ∧ Ls' = L y1 y2 ∧ I y1 y2 ∧ μ y1 y2 < μ x1 x2) Q) (E x1 x2) (L x1 x2)) : WP P n (.loop c) Q e Ls :=
  WP.loop (α := α1 × α2) (fun z => E z.1 z.2) (fun z => L z.1 z.2) (fun z => I z.1 z.2) (fun z => μ z.1 z.2)
    (by obtain ⟨x1, x2, h⟩ := h0; exact ⟨⟨x1, x2⟩, h⟩)
    (fun z hz => (round z.1 z.2 hz).mono fun o e' Ls' h => by
      cases o with
      | normal => obtain ⟨x1, x2, h⟩ := h; exact ⟨⟨x1, x2⟩, h⟩
      | exit id => exact h
      | goto l => exact h
      | ret => exact h)
theorem WP.cut2 {α1 : Type} {α2 : Type} {x y : Code} (E : α1 → α2 → Env) (L : α1 → α2 → List Foot) (I : α1 → α2 → Prop)
    (h : WP P n x (thn (fun e' Ls' => ∃ x1 x2, subB (E x1 x2) e' ∧ Ls' = L x1 x2 ∧ I x1 x2) Q) e Ls) (k : ∀ x1 x2, I x1 x2 → WP P n y Q (E x1 x2) (L x1 x2)) : WP P n (.seq x y) Q e Ls :=
  WP.cut (α := α1 × α2) (fun z => E z.1 z.2) (fun z => L z.1 z.2) (fun z => I z.1 z.2)
    (h.mono fun o e' Ls' h => by
      cases o with
      | normal => obtain ⟨x1, x2, h⟩ := h; exact ⟨⟨x1, x2⟩, h⟩
      | exit id => exact h
      | goto l => exact h
      | ret => exact h) (fun z hz => k z.1 z.2 hz)

theorem WP.loop3 {α1 : Type} {α2 : Type} {α3 : Type} {c : Code} (E : α1 → α2 → α3 → Env) (L : α1 → α2 → α3 → List Foot) (I : α1 → α2 → α3 → Prop) (μ : α1 → α2 → α3 → Nat)
    (h0 : ∃ x1 x2 x3, subB (E x1 x2 x3) e ∧ Ls = L x1 x2 x3 ∧ I x1 x2 x3)
    (round : ∀ x1 x2 x3, I x1 x2 x3 → WP P n c (thn (fun e' Ls' => ∃ y1 y2 y3, subB (E y1 y2 y3) e' ∧ Ls' = L y1 y2 y3 ∧ I y1 y2 y3 ∧ μ y1 y2 y3 < μ x1 x2 x3) Q) (E x1 x2 x3) (L x1 x2 x3)) : WP P n (.loop c) Q e Ls :=
  WP.loop (α := α1 × α2 × α3) (fun z => E z.1 z.2.1 z.2.2) (fun z => L z.1 z.2.1 z.2.2) (fun z => I z.1 z.2.1 z.2.2) (fun z => μ z.1 z.2.1 z.2.2)
    (by obtain ⟨x1, x2, x3, h⟩ := h0; exact ⟨⟨x1, x2, x3⟩, h⟩)
    (fun z hz => (round z.1 z.2.1 z.2.2 hz).mono fun o e' Ls' h => by
      cases o with
      | normal => obtain ⟨x1, x2, x3, h⟩ := h; exact ⟨⟨x1, x2, x3⟩, h⟩
      | exit id => exact h
      | goto l => exact h
      | ret => exact h)
theorem WP.cut3 {α1 : Type} {α2 : Type} {α3 : Type} {x y : Code} (E : α1 → α2 → α3 → Env) (L : α1 → α2 → α3 → List Foot) (I : α1 → α2 → α3 → Prop)
    (h : WP P n x (thn (fun e' Ls' => ∃ x1 x2 x3, subB (E x1 x2 x3) e' ∧ Ls' = L x1 x2 x3 ∧ I x1 x2 x3) Q) e Ls) (k : ∀ x1 x2 x3, I x1 x2 x3 → WP P n y Q (E x1 x2 x3) (L x1 x2 x3)) : WP P n (.seq x y) Q e Ls :=
  WP.cut (α := α1 × α2 × α3) (fun z => E z.1 z.2.1 z.2.2) (fun z => L z.1 z.2.1 z.2.2) (fun z => I z.1 z.2.1 z.2.2)
    (h.mono fun o e' Ls' h => by
      cases o with
      | normal => obtain ⟨x1, x2, x3, h⟩ := h; exact ⟨⟨x1, x2, x3⟩, h⟩
      | exit id => exact h
      | goto l => exact h
      | ret => exact h) (fun z hz => k z.1 z.2.1 z.2.2 hz)

theorem WP.loop4 {α1 : Type} {α2 : Type} {α3 : Type} {α4 : Type} {c : Code} (E : α1 → α2 → α3 → α4 → Env) (L : α1 → α2 → α3 → α4 → List Foot) (I : α1 → α2 → α3 → α4 → Prop) (μ : α1 → α2 → α3 → α4 → Nat)
    (h0 : ∃ x1 x2 x3 x4, subB (E x1 x2 x3 x4) e ∧ Ls = L x1 x2 x3 x4 ∧ I x1 x2 x3 x4)
    (round : ∀ x1 x2 x3 x4, I x1 x2 x3 x4 → WP P n c (thn (fun e' Ls' => ∃ y1 y2 y3 y4, subB (E y1 y2 y3 y4) e' ∧ Ls' = L y1 y2 y3 y4 ∧ I y1 y2 y3 y4 ∧ μ y1 y2 y3 y4 < μ x1 x2 x3 x4) Q) (E x1 x2 x3 x4) (L x1 x2 x3 x4)) : WP P n (.loop c) Q e Ls :=
  WP.loop (α := α1 × α2 × α3 × α4) (fun z => E z.1 z.2.1 z.2.2.1 z.2.2.2) (fun z => L z.1 z.2.1 z.2.2.1 z.2.2.2) (fun z => I z.1 z.2.1 z.2.2.1 z.2.2.2) (fun z => μ z.1 z.2.1 z.2.2.1 z.2.2.2)
    (by obtain ⟨x1, x2, x3, x4, h⟩ := h0; exact ⟨⟨x1, x2, x3, x4⟩, h⟩)
    (fun z hz => (round z.1 z.2.1 z.2.2.1 z.2.2.2 hz).mono fun o e' Ls' h => by
      cases o with
      | normal => obtain ⟨x1, x2, x3, x4, h⟩ := h; exact ⟨⟨x1, x2, x3, x4⟩, h⟩
      | exit id => exact h
      | goto l => exact h
      | ret => exact h)
theorem WP.cut4 {α1 : Type} {α2 : Type} {α3 : Type} {α4 : Type} {x y : Code} (E : α1 → α2 → α3 → α4 → Env) (L : α1 → α2 → α3 → α4 → List Foot) (I : α1 → α2 → α3 → α4 → Prop)
    (h : WP P n x (thn (fun e' Ls' => ∃ x1 x2 x3 x4, subB (E x1 x2 x3 x4) e' ∧ Ls' = L x1 x2 x3 x4 ∧ I x1 x2 x3 x4) Q) e Ls) (k : ∀ x1 x2 x3 x4, I x1 x2 x3 x4 → WP P n y Q (E x1 x2 x3 x4) (L x1 x2 x3 x4)) : WP P n (.seq x y) Q e Ls :=
  WP.cut (α := α1 × α2 × α3 × α4) (fun z => E z.1 z.2.1 z.2.2.1 z.2.2.2) (fun z => L z.1 z.2.1 z.2.2.1 z.2.2.2) (fun z => I z.1 z.2.1 z.2.2.1 z.2.2.2)
    (h.mono fun o e' Ls' h => by
      cases o with
      | normal => obtain ⟨x1, x2, x3, x4, h⟩ := h; exact ⟨⟨x1, x2, x3, x4⟩, h⟩
      | exit id => exact h
      | goto l => exact h
      | ret => exact h) (fun z hz => k z.1 z.2.1 z.2.2.1 z.2.2.2 hz)

theorem WP.loop5 {α1 : Type} {α2 : Type} {α3 : Type} {α4 : Type} {α5 : Type} {c : Code} (E : α1 → α2 → α3 → α4 → α5 → Env) (L : α1 → α2 → α3 → α4 → α5 → List Foot) (I : α1 → α2 → α3 → α4 → α5 → Prop) (μ : α1 → α2 → α3 → α4 → α5 → Nat)
    (h0 : ∃ x1 x2 x3 x4 x5, subB (E x1 x2 x3 x4 x5) e ∧ Ls = L x1 x2 x3 x4 x5 ∧ I x1 x2 x3 x4 x5)
    (round : ∀ x1 x2 x3 x4 x5, I x1 x2 x3 x4 x5 → WP P n c (thn (fun e' Ls' => ∃ y1 y2 y3 y4 y5, subB (E y1 y2 y3 y4 y5) e' ∧ Ls' = L y1 y2 y3 y4 y5 ∧ I y1 y2 y3 y4 y5 ∧ μ y1 y2 y3 y4 y5 < μ x1 x2 x3 x4 x5) Q) (E x1 x2 x3 x4 x5) (L x1 x2 x3 x4 x5)) : WP P n (.loop c) Q e Ls :=
  WP.loop (α := α1 × α2 × α3 × α4 × α5) (fun z => E z.1 z.2.1 z.2.2.1 z.2.2.2.1 z.2.2.2.2) (fun z => L z.1 z.2.1 z.2.2.1 z.2.2.2.1 z.2.2.2.2) (fun z => I z.1 z.2.1 z.2.2.1 z.2.2.2.1 z.2.2.2.2) (fun z => μ z.1 z.2.1 z.2.2.1 z.2.2.2.1 z.2.2.2.2)
    (by obtain ⟨x1, x2, x3, x4, x5, h⟩ := h0; exact ⟨⟨x1, x2, x3, x4, x5⟩, h⟩)
    (fun z hz => (round z.1 z.2.1 z.2.2.1 z.2.2.2.1 z.2.2.2.2 hz).mono fun o e' Ls' h => by
      cases o with
      | normal => obtain ⟨x1, x2, x3, x4, x5, h⟩ := h; exact ⟨⟨x1, x2, x3, x4, x5⟩, h⟩
      | exit id => exact h
      | goto l => exact h
      | ret => exact h)
theorem WP.cut5 {α1 : Type} {α2 : Type} {α3 : Type} {α4 : Type} {α5 : Type} {x y : Code} (E : α1 → α2 → α3 → α4 → α5 → Env) (L : α1 → α2 → α3 → α4 → α5 → List Foot) (I : α1 → α2 → α3 → α4 → α5 → Prop)
    (h : WP P n x (thn (fun e' Ls' => ∃ x1 x2 x3 x4 x5, subB (E x1 x2 x3 x4 x5) e' ∧ Ls' = L x1 x2 x3 x4 x5 ∧ I x1 x2 x3 x4 x5) Q) e Ls) (k : ∀ x1 x2 x3 x4 x5, I x1 x2 x3 x4 x5 → WP P n y Q (E x1 x2 x3 x4 x5) (L x1 x2 x3 x4 x5)) : WP P n (.seq x y) Q e Ls :=
  WP.cut (α := α1 × α2 × α3 × α4 × α5) (fun z => E z.1 z.2.1 z.2.2.1 z.2.2.2.1 z.2.2.2.2) (fun z => L z.1 z.2.1 z.2.2.1 z.2.2.2.1 z.2.2.2.2) (fun z => I z.1 z.2.1 z.2.2.1 z.2.2.2.1 z.2.2.2.2)
    (h.mono fun o e' Ls' h => by
      cases o with
      | normal => obtain ⟨x1, x2, x3, x4, x5, h⟩ := h; exact ⟨⟨x1, x2, x3, x4, x5⟩, h⟩
      | exit id => exact h
      | goto l => exact h
      | ret => exact h) (fun z hz => k z.1 z.2.1 z.2.2.1 z.2.2.2.1 z.2.2.2.2 hz)

theorem WP.loop6 {α1 : Type} {α2 : Type} {α3 : Type} {α4 : Type} {α5 : Type} {α6 : Type} {c : Code} (E : α1 → α2 → α3 → α4 → α5 → α6 → Env) (L : α1 → α2 → α3 → α4 → α5 → α6 → List Foot) (I : α1 → α2 → α3 → α4 → α5 → α6 → Prop) (μ : α1 → α2 → α3 → α4 → α5 → α6 → Nat)
    (h0 : ∃ x1 x2 x3 x4 x5 x6, subB (E x1 x2 x3 x4 x5 x6) e ∧ Ls = L x1 x2 x3 x4 x5 x6 ∧ I x1 x2 x3 x4 x5 x6)
    (round : ∀ x1 x2 x3 x4 x5 x6, I x1 x2 x3 x4 x5 x6 → WP P n c (thn (fun e' Ls' => ∃ y1 y2 y3 y4 y5 y6, subB (E y1 y2 y3 y4 y5 y6) e' ∧ Ls' = L y1 y2 y3 y4 y5 y6 ∧ I y1 y2 y3 y4 y5 y6 ∧ μ y1 y2 y3 y4 y5 y6 < μ x1 x2 x3 x4 x5 x6) Q) (E x1 x2 x3 x4 x5 x6) (L x1 x2 x3 x4 x5 x6)) : WP P n (.loop c) Q e Ls :=
  WP.loop (α := α1 × α2 × α3 × α4 × α5 × α6) (fun z => E z.1 z.2.1 z.2.2.1 z.2.2.2.1 z.2.2.2.2.1 z.2.2.2.2.2) (fun z => L z.1 z.2.1 z.2.2.1 z.2.2.2.1 z.2.2.2.2.1 z.2.2.2.2.2) (fun z => I z.1 z.2.1 z.2.2.1 z.2.2.2.1 z.2.2.2.2.1 z.2.2.2.2.2) (fun z => μ z.1 z.2.1 z.2.2.1 z.2.2.2.1 z.2.2.2.2.1 z.2.2.2.2.2)
    (by obtain ⟨x1, x2, x3, x4, x5, x6, h⟩ := h0; exact ⟨⟨x1, x2, x3, x4, x5, x6⟩, h⟩)
    (fun z hz => (round z.1 z.2.1 z.2.2.1 z.2.2.2.1 z.2.2.2.2.1 z.2.2.2.2.2 hz).mono fun o e' Ls' h => by
      cases o with
      | normal => obtain ⟨x1, x2, x3, x4, x5, x6, h⟩ := h; exact ⟨⟨x1, x2, x3, x4, x5, x6⟩, h⟩
      | exit id => exact h
      | goto l => exact h
      | ret => exact h)
theorem WP.cut6 {α1 : Type} {α2 : Type} {α3 : Type} {α4 : Type} {α5 : Type} {α6 : Type} {x y : Code} (E : α1 → α2 → α3 → α4 → α5 → α6 → Env) (L : α1 → α2 → α3 → α4 → α5 → α6 → List Foot) (I : α1 → α2 → α3 → α4 → α5 → α6 → Prop)
    (h : WP P n x (thn (fun e' Ls' => ∃ x1 x2 x3 x4 x5 x6, subB (E x1 x2 x3 x4 x5 x6) e' ∧ Ls' = L x1 x2 x3 x4 x5 x6 ∧ I x1 x2 x3 x4 x5 x6) Q) e Ls) (k : ∀ x1 x2 x3 x4 x5 x6, I x1 x2 x3 x4 x5 x6 → WP P n y Q (E x1 x2 x3 x4 x5 x6) (L x1 x2 x3 x4 x5 x6)) : WP P n (.seq x y) Q e Ls :=
  WP.cut (α := α1 × α2 × α3 × α4 × α5 × α6) (fun z => E z.1 z.2.1 z.2.2.1 z.2.2.2.1 z.2.2.2.2.1 z.2.2.2.2.2) (fun z => L z.1 z.2.1 z.2.2.1 z.2.2.2.1 z.2.2.2.2.1 z.2.2.2.2.2) (fun z => I z.1 z.2.1 z.2.2.1 z.2.2.2.1 z.2.2.2.2.1 z.2.2.2.2.2)
    (h.mono fun o e' Ls' h => by
      cases o with
      | normal => obtain ⟨x1, x2, x3, x4, x5, x6, h⟩ := h; exact ⟨⟨x1, x2, x3, x4, x5, x6⟩, h⟩
      | exit id => exact h
      | goto l => exact h
      | ret => exact h) (fun z hz => k z.1 z.2.1 z.2.2.1 z.2.2.2.1 z.2.2.2.2.1 z.2.2.2.2.2 hz)

theorem WP.cut0 {x y : Code} (E : Env) (L : List Foot) (I : Prop)
    (h : WP P n x (thn (fun e' Ls' => subB E e' ∧ Ls' = L ∧ I) Q) e Ls) (k : I → WP P n y Q E L) : WP P n (.seq x y) Q e Ls :=
  WP.cut (α := Unit) (fun _ => E) (fun _ => L) (fun _ => I)
    (h.mono fun o e' Ls' h => by
      cases o with
      | normal => exact ⟨(), h⟩
      | exit id => exact h
      | goto l => exact h
      | ret => exact h) (fun _ hz => k hz)
end rules
end Go.SL
