/- The plain law of layers 4 and 5: signs, methods, keys, paths; no program in sight. -/
import Derived.Test.YtpaipfceibcbkaaDoorSl7
import Derived.Lib.Bytealg
import Derived.Lib.Split
import Derived.Lib.CountLaws
import Derived.Lib.Small
namespace Go.Law05
open Go.SL

/-! ### Signs -/
def amongF (r a b but : Int) : Bool := decide (a ≤ r) && decide (r ≤ b) && r != but
def validF (r : Int) : Bool := (decide (0 ≤ r) && decide (r < 55296)) || (decide (57344 ≤ r) && decide (r ≤ 1114111))
def controlF (r : Int) : Bool := decide (r < 32) || amongF r 127 159 0 || r == 65533 || !validF r
def blankF (r : Int) : Bool := r == 32 || r == 160 || amongF r 8192 8202 0 || r == 12288
def letterF (r : Int) : Bool := amongF r 65 90 0 || amongF r 97 122 0 || (amongF r 192 591 215 && r != 247) || amongF r 913 969 930
def sortF (r : Int) : Int := if controlF r = true then 0 else if blankF r = true then 1 else if amongF r 48 57 0 = true then 2 else if letterF r = true then 3 else 4

/-- Is each sign from a place on such a one? -/
def allGo (p : Int → Bool) (l : List UInt8) : Nat → Nat → Bool
  | 0, _ => true
  | f + 1, q => if q < l.length then p (dec l q).1 && allGo p l f (q + (dec l q).2) else true
def allR (p : Int → Bool) (l : List UInt8) (q : Nat) : Bool := allGo p l (l.length - q) q
theorem allGo_more (p : Int → Bool) (l : List UInt8) : ∀ (f g q : Nat), l.length - q ≤ f → l.length - q ≤ g → allGo p l f q = allGo p l g q
  | 0, 0, q, _, _ => rfl
  | 0, g + 1, q, h, _ => by simp only [allGo]; rw [if_neg (by omega)]
  | f + 1, 0, q, _, h => by simp only [allGo]; rw [if_neg (by omega)]
  | f + 1, g + 1, q, h, h' => by
    simp only [allGo]
    have := dec_pos l q
    rw [allGo_more p l f g _ (by omega) (by omega)]
theorem allR_step {p : Int → Bool} {l : List UInt8} {q : Nat} (h : q < l.length) : allR p l q = (p (dec l q).1 && allR p l (q + (dec l q).2)) := by
  unfold allR
  obtain ⟨m, hm⟩ : ∃ m, l.length - q = m + 1 := ⟨l.length - q - 1, by omega⟩
  rw [hm]
  simp only [allGo]
  have := dec_pos l q
  rw [if_pos h, allGo_more p l m (l.length - (q + (dec l q).2)) _ (by omega) (by omega)]
theorem allR_end {p : Int → Bool} {l : List UInt8} {q : Nat} (h : l.length ≤ q) : allR p l q = true := by
  unfold allR
  rw [show l.length - q = 0 by omega]; rfl
theorem allR_false {p : Int → Bool} {l : List UInt8} {q : Nat} (h : q < l.length) (hp : p (dec l q).1 = false) : allR p l q = false := by rw [allR_step h, hp]; rfl
theorem allR_true {p : Int → Bool} {l : List UInt8} {q : Nat} (h : q < l.length) (hp : p (dec l q).1 = true) : allR p l (q + (dec l q).2) = allR p l q := by rw [allR_step h, hp]; simp

def rightF (s : List UInt8) (most : Int) : Bool := s != [] && decide ((s.length : Int) ≤ most) && allR (fun r => sortF r != 0) s 0
def keyP (r : Int) : Bool := sortF r == 2 || sortF r == 3 || r == 45 || r == 95 || r == 46
def keyF (s : List UInt8) : Bool := s != [] && decide (s.length ≤ 24) && allR keyP s 0

/-! ### Letters and digits -/
def upB (c : UInt8) : UInt8 := if 97 ≤ c ∧ c ≤ 122 then c - 32 else c
def upI (c : Int) : Int := if 97 ≤ c ∧ c ≤ 122 then c - 32 else c
def isUpI (c : Int) : Bool := decide (65 ≤ c) && decide (c ≤ 90)
def isUp (c : UInt8) : Bool := isUpI (upI c.toNat)
theorem upB_I (c : UInt8) : ((upB c).toNat : Int) = upI c.toNat := by
  have h : ∀ n : Fin 256, ((upB (UInt8.ofNat n.val)).toNat : Int) = upI ((UInt8.ofNat n.val).toNat) := by decide +kernel
  have h2 := h ⟨c.toNat, c.toNat_lt⟩
  simpa using h2
def methodF (s : List UInt8) : Option (List UInt8) := if s = [] ∨ 8 < s.length then none else if s.all isUp = true then some (s.map upB) else none
def great : List UInt8 := [48, 49, 50, 51, 52, 53, 54, 55, 56, 57, 65, 66, 67, 68, 69, 70]
def digitF (c : UInt8) : Int := Lib.indexByte great (if isUp c = true then upB c else c)
def plainF (c : UInt8) : Bool := isUp c || (decide (48 ≤ c.toNat) && decide (c.toNat ≤ 57)) || decide (0 ≤ Lib.indexByte [45, 46, 95, 126] c)
def hexB (n : Nat) : UInt8 := great.getD n 0
/-- A part's bytes: each %xy is one. -/
def readGo : Nat → List UInt8 → Option (List UInt8)
  | 0, _ => some []
  | _, [] => some []
  | f + 1, c :: r => if c ≠ 37 then (readGo f r).map (c :: ·) else match r with
    | a :: b :: r' => if digitF a < 0 ∨ digitF b < 0 then none else (readGo f r').map (UInt8.ofNat (digitF a * 16 + digitF b).toNat :: ·)
    | _ => none
def readB (s : List UInt8) : Option (List UInt8) := readGo s.length s
def readF (s : List UInt8) : Option (List UInt8) := match readB s with
  | some o => some o
  | none => none
def writeF (s : List UInt8) : List UInt8 := s.flatMap fun c => if plainF c = true then [c] else [37, hexB (c.toNat / 16), hexB (c.toNat % 16)]
/-- The parts of a path, one by one. -/
def partsGo : List (List UInt8) → List (List UInt8) → Option (List (List UInt8))
  | out, [] => some out
  | out, p :: r => match readB p with
    | none => none
    | some q => if ¬ (q = [] ∨ rightF q 60 = true) then none
      else if q = [] ∨ q = [46] then partsGo out r
      else if q = [46, 46] then (if out = [] then none else partsGo out.dropLast r)
      else partsGo (out ++ [q]) r
/-- What stands between the slashes. -/
def cutS : List UInt8 → List UInt8 → List (List UInt8)
  | acc, [] => [acc]
  | acc, c :: r => if c = 47 then acc :: cutS [] r else cutS (acc ++ [c]) r
def joinF (l : List (List UInt8)) : List UInt8 := l.flatMap fun p => 47 :: writeF p
def pathF (s : List UInt8) : Option (List UInt8) :=
  if s = [] ∨ 60 < s.length ∨ s.getD 0 0 ≠ 47 then none else match partsGo [] (cutS [] s) with
  | none => none
  | some l => let o := if joinF l = [] then [47] else joinF l; if 60 < o.length then none else some o

/-! ### Splitting at slashes -/
theorem cutS_miss : ∀ (s acc : List UInt8), 47 ∉ s → cutS acc s = [acc ++ s]
  | [], acc, _ => by simp [cutS]
  | c :: r, acc, h => by
    simp only [List.mem_cons, not_or] at h
    simp only [cutS]
    rw [if_neg (fun hh => h.1 hh.symm), cutS_miss r _ h.2]
    simp
theorem cutS_hit : ∀ (p acc r : List UInt8), 47 ∉ p → cutS acc (p ++ 47 :: r) = (acc ++ p) :: cutS [] r
  | [], acc, r, _ => by simp [cutS]
  | c :: p, acc, r, h => by
    simp only [List.mem_cons, not_or] at h
    simp only [List.cons_append, cutS]
    rw [if_neg (fun hh => h.1 hh.symm), cutS_hit p _ r h.2]
    simp
theorem index_slash : ∀ (s : List UInt8), (Lib.index s [47] = -1 ∧ 47 ∉ s) ∨ ∃ i : Nat, Lib.index s [47] = i ∧ i < s.length ∧ s = s.take i ++ 47 :: s.drop (i + 1) ∧ 47 ∉ s.take i
  | [] => .inl ⟨rfl, by simp⟩
  | b :: l => by
    by_cases hb : b = 47
    · subst hb
      exact .inr ⟨0, by simp [Lib.index, List.isPrefixOf], by simp, by simp, by simp⟩
    · have hp : ([47] : List UInt8).isPrefixOf (b :: l) = false := by simp [List.isPrefixOf, Ne.symm hb]
      rcases index_slash l with ⟨h1, h2⟩ | ⟨i, h1, h2, h3, h4⟩
      · exact .inl ⟨by simp [Lib.index, hp, h1], by simp [h2, Ne.symm hb]⟩
      · refine .inr ⟨i + 1, ?_, by simpa using h2, ?_, ?_⟩
        · unfold Lib.index
          rw [if_neg (by simp [hp]), h1, if_neg (by simp)]
          omega
        · simp only [List.take_succ_cons, List.drop_succ_cons, List.cons_append]
          rw [← h3]
        · simp only [List.take_succ_cons, List.mem_cons, not_or]
          exact ⟨Ne.symm hb, h4⟩
theorem split_cut : ∀ (m : Nat) (s : List UInt8), s.length ≤ m → Lib.splitK [47] 0 (Lib.count s [47]) s = cutS [] s
  | m, s, hm => by
    rcases index_slash s with ⟨h1, h2⟩ | ⟨i, h1, h2, h3, h4⟩
    · rw [Lib.count_miss h1, cutS_miss s [] h2]; rfl
    · have hc := Lib.count_hit (s := s) (sub := [47]) (i := i) (by simp) h1
      rw [hc, Nat.add_comm 1]
      unfold Lib.splitK
      rw [if_neg (by rw [h1]; simp), h1]
      have e := cutS_hit (s.take i) [] (s.drop (i + 1)) h4
      rw [← h3] at e
      rw [e]
      have hlen : (s.drop (i + 1)).length < s.length := by simp; omega
      match m, hm with
      | 0, hm => omega
      | m + 1, hm =>
        have ih := split_cut m (s.drop (i + 1)) (by omega)
        simpa using ih
theorem count_cut (s : List UInt8) : Lib.count s [47] + 1 = (cutS [] s).length := by
  have : ∀ (m : Nat) (s : List UInt8), s.length ≤ m → Lib.count s [47] + 1 = (cutS [] s).length := by
    intro m
    induction m with
    | zero => intro s hs; have : s = [] := List.eq_nil_of_length_eq_zero (by omega); subst this; rfl
    | succ m ih =>
      intro s hs
      rcases index_slash s with ⟨h1, h2⟩ | ⟨i, h1, h2, h3, h4⟩
      · rw [Lib.count_miss h1, cutS_miss s [] h2]; rfl
      · have hc := Lib.count_hit (s := s) (sub := [47]) (i := i) (by simp) h1
        have e := cutS_hit (s.take i) [] (s.drop (i + 1)) h4
        rw [← h3] at e
        have := ih (s.drop (i + 1)) (by simp; omega)
        have e3 : (cutS [] s).length = (cutS [] (s.drop (i + 1))).length + 1 := by rw [e]; rfl
        have hc2 : Lib.count s [47] = 1 + Lib.count (s.drop (i + 1)) [47] := hc
        omega
  exact this s.length s (Nat.le_refl _)
theorem cutS_len : ∀ (s acc : List UInt8), ∀ p ∈ cutS acc s, p.length ≤ acc.length + s.length
  | [], acc, p, h => by simp [cutS] at h; subst h; simp
  | c :: r, acc, p, h => by
    simp only [cutS] at h
    split at h
    · rcases List.mem_cons.1 h with rfl | h
      · simp
      · have := cutS_len r [] p h; simp at this ⊢; omega
    · have := cutS_len r _ p h; simp at this ⊢; omega
theorem cutS_count : ∀ (s acc : List UInt8), (cutS acc s).length ≤ s.length + 1
  | [], acc => by simp [cutS]
  | c :: r, acc => by
    simp only [cutS]
    split
    · have := cutS_count r []; simp; omega
    · have := cutS_count r (acc ++ [c]); simp; omega

theorem writeF_len : ∀ (s : List UInt8), (writeF s).length ≤ 3 * s.length
  | [] => by simp [writeF]
  | c :: r => by
    have := writeF_len r
    have e : writeF (c :: r) = (if plainF c = true then [c] else [37, hexB (c.toNat / 16), hexB (c.toNat % 16)]) ++ writeF r := rfl
    rw [e, List.length_append, List.length_cons]
    split <;> simp only [List.length_cons, List.length_nil] <;> omega
theorem writeF_len' (s : List UInt8) : (writeF s).length ≤ 3 * s.length := writeF_len s

/-! ### Parts of paths -/
def okP (q : List UInt8) : Bool := q == [] || rightF q 60
def okR : Option (List UInt8) → Bool
  | none => false
  | some q => okP q
theorem okR_true {x : Option (List UInt8)} (h : okR x = true) : ∃ q, x = some q ∧ okP q = true := by
  cases x with
  | none => cases h
  | some q => exact ⟨q, rfl, h⟩
theorem drop_getD {α : Type} {l : List α} {k : Nat} (d : α) (h : k < l.length) : l.drop k = l.getD k d :: l.drop (k + 1) := by
  rw [List.drop_eq_getElem_cons h]; simp [List.getD_eq_getElem?_getD, h]
theorem getD_len {l : List (List UInt8)} {m : Nat} (h : ∀ p ∈ l, p.length ≤ m) (k : Nat) : (l.getD k []).length ≤ m := by
  rw [List.getD_eq_getElem?_getD]
  cases hk : l[k]? with
  | none => simp
  | some p => exact h p (List.mem_of_getElem? hk)
theorem parts_none {out : List (List UInt8)} {p : List UInt8} {r : List (List UInt8)} (h : readB p = none) : partsGo out (p :: r) = none := by simp [partsGo, h]
theorem parts_bad {out : List (List UInt8)} {p q : List UInt8} {r : List (List UInt8)} (h : readB p = some q) (hb : okP q = false) : partsGo out (p :: r) = none := by
  simp only [okP, Bool.or_eq_false_iff, beq_eq_false_iff_ne, ne_eq] at hb
  simp [partsGo, h, hb.1, hb.2]
theorem parts_notOk {out : List (List UInt8)} {p : List UInt8} {r : List (List UInt8)} (h : okR (readB p) = false) : partsGo out (p :: r) = none := by
  cases hr : readB p with
  | none => exact parts_none hr
  | some q => rw [hr] at h; exact parts_bad hr h
theorem parts_skip {out : List (List UInt8)} {p q : List UInt8} {r : List (List UInt8)} (h : readB p = some q) (hb : okP q = true) (hq : q = [] ∨ q = [46]) : partsGo out (p :: r) = partsGo out r := by
  simp only [okP, Bool.or_eq_true, beq_iff_eq] at hb
  simp only [partsGo, h]
  rw [if_neg (fun hh => hh hb), if_pos hq]
theorem parts_up0 {p q : List UInt8} {r : List (List UInt8)} (h : readB p = some q) (hb : okP q = true) (hq : q = [46, 46]) : partsGo [] (p :: r) = none := by
  simp only [okP, Bool.or_eq_true, beq_iff_eq] at hb
  simp only [partsGo, h]
  rw [if_neg (fun hh => hh hb), if_neg (by rw [hq]; decide), if_pos hq]; rfl
theorem parts_up {out : List (List UInt8)} {p q : List UInt8} {r : List (List UInt8)} (h : readB p = some q) (hb : okP q = true) (hq : q = [46, 46]) (ho : out ≠ []) : partsGo out (p :: r) = partsGo out.dropLast r := by
  simp only [okP, Bool.or_eq_true, beq_iff_eq] at hb
  simp only [partsGo, h]
  rw [if_neg (fun hh => hh hb), if_neg (by rw [hq]; decide), if_pos hq, if_neg ho]
theorem parts_add {out : List (List UInt8)} {p q : List UInt8} {r : List (List UInt8)} (h : readB p = some q) (hb : okP q = true) (h1 : q ≠ []) (h2 : q ≠ [46]) (h3 : q ≠ [46, 46]) : partsGo out (p :: r) = partsGo (out ++ [q]) r := by
  simp only [okP, Bool.or_eq_true, beq_iff_eq] at hb
  simp only [partsGo, h]
  rw [if_neg (fun hh => hh hb), if_neg (by rintro (h | h); exact h1 h; exact h2 h), if_neg h3]
theorem rightF_len {q : List UInt8} {m : Int} (h : rightF q m = true) : (q.length : Int) ≤ m := by
  unfold rightF at h; simp at h; exact h.1.2
theorem parts_bound : ∀ (segs out l : List (List UInt8)), partsGo out segs = some l → (∀ p ∈ out, p.length ≤ 60) → l.length ≤ out.length + segs.length ∧ ∀ p ∈ l, p.length ≤ 60
  | [], out, l, h, ho => by simp [partsGo] at h; subst h; exact ⟨by simp, ho⟩
  | p :: r, out, l, h, ho => by
    cases hr : readB p with
    | none => rw [parts_none hr] at h; cases h
    | some q =>
      cases hb : okP q with
      | false => rw [parts_bad hr hb] at h; cases h
      | true =>
        by_cases hq : q = [] ∨ q = [46]
        · rw [parts_skip hr hb hq] at h
          have := parts_bound r out l h ho
          exact ⟨by simp; omega, this.2⟩
        · by_cases hq2 : q = [46, 46]
          · by_cases ho2 : out = []
            · subst ho2; rw [parts_up0 hr hb hq2] at h; cases h
            · rw [parts_up hr hb hq2 ho2] at h
              have := parts_bound r _ l h (fun p hp => ho p ((List.dropLast_sublist out).subset hp))
              exact ⟨by simp at this ⊢; omega, this.2⟩
          · have h1 : q ≠ [] := fun hh => hq (.inl hh)
            rw [parts_add hr hb h1 (fun hh => hq (.inr hh)) hq2] at h
            have hq60 : q.length ≤ 60 := by
              simp only [okP, Bool.or_eq_true, beq_iff_eq] at hb
              have := rightF_len (hb.resolve_left h1); omega
            have := parts_bound r _ l h (fun p hp => by rcases List.mem_append.1 hp with hp | hp; exact ho p hp; simp at hp; subst hp; exact hq60)
            exact ⟨by simp at this ⊢; omega, this.2⟩
theorem join_len : ∀ (l : List (List UInt8)), (∀ p ∈ l, p.length ≤ 60) → (joinF l).length ≤ 181 * l.length
  | [], _ => by simp [joinF]
  | p :: l, h => by
    have := join_len l fun q hq => h q (List.mem_cons_of_mem _ hq)
    have h2 := writeF_len' p
    have h3 := h p (List.mem_cons_self ..)
    have e : joinF (p :: l) = (47 :: writeF p) ++ joinF l := rfl
    rw [e]
    simp only [List.length_append, List.length_cons]
    omega
theorem join_snoc {l : List (List UInt8)} {k : Nat} (h : k < l.length) : joinF (l.take (k + 1)) = joinF (l.take k) ++ (47 :: writeF (l.getD k [])) := by
  rw [List.take_add_one]
  unfold joinF
  rw [List.flatMap_append]
  simp [List.getD_eq_getElem?_getD, h]
theorem pathF_none {s : List UInt8} (h : s = [] ∨ 60 < s.length ∨ s.getD 0 0 ≠ 47 ∨ partsGo [] (cutS [] s) = none) : pathF s = none := by
  unfold pathF
  split
  · rfl
  · rename_i h1
    rcases h with h | h | h | h
    · exact absurd (.inl h) h1
    · exact absurd (.inr (.inl h)) h1
    · exact absurd (.inr (.inr h)) h1
    · rw [h]
theorem pathF_some {s : List UInt8} {l : List (List UInt8)} (h0 : s ≠ []) (h1 : s.length ≤ 60) (h2 : s.getD 0 0 = 47) (h3 : partsGo [] (cutS [] s) = some l) : pathF s = if 60 < (if joinF l = [] then [47] else joinF l).length then none else some (if joinF l = [] then [47] else joinF l) := by
  unfold pathF
  rw [if_neg (by rintro (h | h | h); exact h0 h; omega; exact h h2), h3]

theorem bt0_ne {s : List UInt8} (h : ¬ bt s 0 = 47) : s.getD 0 0 ≠ 47 := fun hh => h (by unfold bt; rw [show (0 : Int).toNat = 0 from rfl, hh]; rfl)
theorem bt0_eq {s : List UInt8} (h : bt s 0 = 47) : s.getD 0 0 = 47 := by
  unfold bt at h
  rw [show (0 : Int).toNat = 0 from rfl] at h
  rw [← UInt8.toNat_inj]
  have : (47 : UInt8).toNat = 47 := rfl
  omega
theorem path_root {s : List UInt8} {l : List (List UInt8)} (h0 : s ≠ []) (h1 : s.length ≤ 60) (h2 : bt s 0 = 47) (h3 : partsGo [] (cutS [] s) = some l) (h4 : joinF l = []) : pathF s = some [47] := by
  rw [pathF_some h0 h1 (bt0_eq h2) h3, if_pos h4]; rfl
theorem path_long {s : List UInt8} {l : List (List UInt8)} (h0 : s ≠ []) (h1 : s.length ≤ 60) (h2 : bt s 0 = 47) (h3 : partsGo [] (cutS [] s) = some l) (h4 : joinF l ≠ []) (h5 : 60 < (joinF l).length) : pathF s = none := by
  rw [pathF_some h0 h1 (bt0_eq h2) h3, if_neg h4, if_pos h5]
theorem path_ok {s : List UInt8} {l : List (List UInt8)} (h0 : s ≠ []) (h1 : s.length ≤ 60) (h2 : bt s 0 = 47) (h3 : partsGo [] (cutS [] s) = some l) (h4 : joinF l ≠ []) (h5 : (joinF l).length ≤ 60) : pathF s = some (joinF l) := by
  rw [pathF_some h0 h1 (bt0_eq h2) h3, if_neg h4, if_neg (by omega)]

/-! ### For the walks -/
theorem letter3 (c : UInt8) : (97 ≤ (c.toNat : Int) ∧ (c.toNat : Int) ≤ 122 ∧ ((upB c).toNat : Int) = c.toNat - 32 ∧ isUp c = true) ∨ (65 ≤ (c.toNat : Int) ∧ (c.toNat : Int) ≤ 90 ∧ ((upB c).toNat : Int) = c.toNat ∧ isUp c = true) ∨
    (((c.toNat : Int) < 65 ∨ (90 < (c.toNat : Int) ∧ (c.toNat : Int) < 97) ∨ 122 < (c.toNat : Int)) ∧ ((upB c).toNat : Int) = c.toNat ∧ isUp c = false) := by
  have h : ∀ n : Fin 256, (97 ≤ ((UInt8.ofNat n.val).toNat : Int) ∧ ((UInt8.ofNat n.val).toNat : Int) ≤ 122 ∧ ((upB (UInt8.ofNat n.val)).toNat : Int) = (UInt8.ofNat n.val).toNat - 32 ∧ isUp (UInt8.ofNat n.val) = true) ∨ (65 ≤ ((UInt8.ofNat n.val).toNat : Int) ∧ ((UInt8.ofNat n.val).toNat : Int) ≤ 90 ∧ ((upB (UInt8.ofNat n.val)).toNat : Int) = (UInt8.ofNat n.val).toNat ∧ isUp (UInt8.ofNat n.val) = true) ∨
      ((((UInt8.ofNat n.val).toNat : Int) < 65 ∨ (90 < ((UInt8.ofNat n.val).toNat : Int) ∧ ((UInt8.ofNat n.val).toNat : Int) < 97) ∨ 122 < ((UInt8.ofNat n.val).toNat : Int)) ∧ ((upB (UInt8.ofNat n.val)).toNat : Int) = (UInt8.ofNat n.val).toNat ∧ isUp (UInt8.ofNat n.val) = false) := by decide +kernel
  have h2 := h ⟨c.toNat, c.toNat_lt⟩
  simpa only [UInt8.ofNat_toNat] using h2
theorem rightF_short {s : List UInt8} {m : Int} (h : s = [] ∨ m < s.length) : rightF s m = false := by
  unfold rightF
  rcases h with rfl | h
  · rfl
  · rw [show decide ((s.length : Int) ≤ m) = false by simp; omega]; simp
theorem rightF_long {s : List UInt8} {m : Int} (h0 : s ≠ []) (h1 : (s.length : Int) ≤ m) : rightF s m = allR (fun r => sortF r != 0) s 0 := by
  unfold rightF; simp [h0, h1]
theorem keyF_short {s : List UInt8} (h : s = [] ∨ 24 < s.length) : keyF s = false := by
  unfold keyF
  rcases h with rfl | h
  · rfl
  · rw [show decide (s.length ≤ 24) = false by simp; omega]; simp
theorem keyF_long {s : List UInt8} (h0 : s ≠ []) (h1 : s.length ≤ 24) : keyF s = allR keyP s 0 := by
  unfold keyF; simp [h0, h1]
theorem bt_get {s : List UInt8} {k : Nat} (h : k < s.length) : s.getD ((k : Int).toNat) 0 = s[k] := by simp [List.getD_eq_getElem?_getD, h]
theorem take_snoc {s : List UInt8} {k : Nat} (h : k < s.length) : s.take (k + 1) = s.take k ++ [s[k]] := by rw [List.take_add_one]; simp [h]
theorem up_snoc {s : List UInt8} {k : Nat} (h : k < s.length) : (s.take k).map upB ++ [upB (s.getD ((k : Int).toNat) 0)] = (s.take (k + 1)).map upB := by
  rw [bt_get h, take_snoc h, List.map_append]; rfl
theorem all_snoc {s : List UInt8} {k : Nat} (h : k < s.length) (h1 : (s.take k).all isUp = true) (h2 : isUp (s.getD ((k : Int).toNat) 0) = true) : (s.take (k + 1)).all isUp = true := by
  rw [bt_get h] at h2
  rw [take_snoc h, List.all_append, h1]; simpa using h2
theorem all_not {s : List UInt8} {k : Nat} (h : k < s.length) (h2 : isUp (s.getD ((k : Int).toNat) 0) = false) : s.all isUp = false := by
  rw [bt_get h] at h2
  rw [List.all_eq_false]
  exact ⟨s[k], List.getElem_mem h, by simp [h2]⟩
theorem methodF_none {s : List UInt8} (h : s = [] ∨ 8 < s.length ∨ s.all isUp = false) : methodF s = none := by
  unfold methodF
  split
  · rfl
  · rename_i h1
    rw [if_neg]
    rcases h with h | h | h
    · exact absurd (.inl h) h1
    · exact absurd (.inr h) h1
    · simp [h]
theorem methodF_some {s : List UInt8} (h0 : s ≠ []) (h1 : s.length ≤ 8) (h2 : s.all isUp = true) : methodF s = some (s.map upB) := by
  unfold methodF
  rw [if_neg (by rintro (h | h); exact h0 h; omega), if_pos h2]
theorem write_snoc {s : List UInt8} {k : Nat} (h : k < s.length) : writeF (s.take (k + 1)) = writeF (s.take k) ++ (if plainF (s.getD ((k : Int).toNat) 0) = true then [s.getD ((k : Int).toNat) 0] else [37, hexB ((s.getD ((k : Int).toNat) 0).toNat / 16), hexB ((s.getD ((k : Int).toNat) 0).toNat % 16)]) := by
  rw [bt_get h, take_snoc h]
  unfold writeF
  rw [List.flatMap_append]
  simp only [List.flatMap_cons, List.flatMap_nil, List.append_nil]
theorem readGo_more : ∀ (f g : Nat) (s : List UInt8), s.length ≤ f → s.length ≤ g → readGo f s = readGo g s
  | 0, 0, _, _, _ => rfl
  | 0, g + 1, [], _, _ => rfl
  | f + 1, 0, [], _, _ => rfl
  | 0, g + 1, c :: r, h, _ => by simp at h
  | f + 1, 0, c :: r, _, h => by simp at h
  | f + 1, g + 1, [], _, _ => rfl
  | f + 1, g + 1, c :: r, h, h' => by
    simp only [List.length_cons, Nat.add_le_add_iff_right] at h h'
    simp only [readGo]
    rw [readGo_more f g r h h']
    split
    · rfl
    · split
      · rename_i a b r' 
        rw [readGo_more f g r' (by simp at h; omega) (by simp at h'; omega)]
      · rfl
theorem readB_nil : readB [] = some [] := rfl
theorem readB_cons {c : UInt8} {r : List UInt8} (h : c ≠ 37) : readB (c :: r) = (readB r).map (c :: ·) := by
  unfold readB; simp only [List.length_cons, readGo]; rw [if_pos h]
theorem readB_pct {a b : UInt8} {r : List UInt8} (h : 0 ≤ digitF a ∧ 0 ≤ digitF b) : readB (37 :: a :: b :: r) = (readB r).map (UInt8.ofNat (digitF a * 16 + digitF b).toNat :: ·) := by
  unfold readB; simp only [List.length_cons, readGo]
  rw [if_neg (by decide), if_neg (by omega), readGo_more (r.length + 1 + 1) r.length r (by omega) (by omega)]
theorem readB_bad {r : List UInt8} (h : r.length < 2 ∨ digitF (r.getD 0 0) < 0 ∨ digitF (r.getD 1 0) < 0) : readB (37 :: r) = none := by
  unfold readB; simp only [List.length_cons, readGo]
  rw [if_neg (by decide)]
  match r, h with
  | [], _ => rfl
  | [a], _ => rfl
  | a :: b :: r', h =>
    simp only
    rw [if_pos]
    rcases h with h | h | h
    · simp at h; omega
    · exact .inl h
    · exact .inr h
theorem drop_get {s : List UInt8} {k : Nat} (h : k < s.length) : s.drop k = s.getD ((k : Int).toNat) 0 :: s.drop (k + 1) := by rw [bt_get h]; exact List.drop_eq_getElem_cons h
/-- A step of reading, byte k being none of the form's own. -/
theorem read_step {s o : List UInt8} {k : Nat} (h : k < s.length) (hr : readB s = (readB (s.drop k)).map (o ++ ·)) (hc : s.getD ((k : Int).toNat) 0 ≠ 37) : readB s = (readB (s.drop (k + 1))).map ((o ++ [s.getD ((k : Int).toNat) 0]) ++ ·) := by
  rw [hr, drop_get h, readB_cons hc, Option.map_map]
  congr 1
  funext x
  simp
theorem read_pct {s o : List UInt8} {k : Nat} (h : k + 2 < s.length) (hr : readB s = (readB (s.drop k)).map (o ++ ·)) (hc : s.getD ((k : Int).toNat) 0 = 37) (ha : 0 ≤ digitF (s.getD (k + 1) 0)) (hb : 0 ≤ digitF (s.getD (k + 2) 0)) :
    readB s = (readB (s.drop (k + 3))).map ((o ++ [UInt8.ofNat (digitF (s.getD (k + 1) 0) * 16 + digitF (s.getD (k + 2) 0)).toNat]) ++ ·) := by
  have e1 := drop_get (s := s) (k := k) (by omega)
  have e2 := drop_get (s := s) (k := k + 1) (by omega)
  have e3 := drop_get (s := s) (k := k + 2) (by omega)
  simp only [Int.toNat_natCast] at e1 e2 e3 hc
  rw [hr, e1, hc, e2, e3, readB_pct ⟨ha, hb⟩, Option.map_map]
  congr 1
  funext x
  simp
theorem read_bad {s o : List UInt8} {k : Nat} (h : k < s.length) (hr : readB s = (readB (s.drop k)).map (o ++ ·)) (hc : s.getD ((k : Int).toNat) 0 = 37) (hb : s.length ≤ k + 2 ∨ digitF (s.getD (k + 1) 0) < 0 ∨ digitF (s.getD (k + 2) 0) < 0) : readB s = none := by
  rw [hr, drop_get h, hc, readB_bad]
  · rfl
  · simp only [List.length_drop, List.getD_eq_getElem?_getD, List.getElem?_drop]
    simp only [List.getD_eq_getElem?_getD] at hb
    rcases hb with hb | hb | hb
    · left; omega
    · right; left; simpa using hb
    · right; right; simpa using hb
theorem read_end {s o : List UInt8} {k : Nat} (h : s.length ≤ k) (hr : readB s = (readB (s.drop k)).map (o ++ ·)) : readB s = some o := by
  rw [hr, List.drop_eq_nil_of_le h, readB_nil]; simp
theorem digitF_range (c : UInt8) : -1 ≤ digitF c ∧ digitF c ≤ 15 := by
  have h : ∀ n : Fin 256, -1 ≤ digitF (UInt8.ofNat n.val) ∧ digitF (UInt8.ofNat n.val) ≤ 15 := by decide +kernel
  have h2 := h ⟨c.toNat, c.toNat_lt⟩
  simpa using h2
theorem shl_or {a b : Int} (ha : 0 ≤ a ∧ a ≤ 15) (hb : 0 ≤ b ∧ b ≤ 15) : IntKind.u8.wrap (orI .i64 (shlI .i64 a 4) b) = (UInt8.ofNat (a * 16 + b).toNat).toNat := by
  have h : ∀ m n : Fin 16, IntKind.u8.wrap (orI .i64 (shlI .i64 (m.val : Int) 4) (n.val : Int)) = (UInt8.ofNat ((m.val : Int) * 16 + (n.val : Int)).toNat).toNat := by decide +kernel
  have h2 := h ⟨a.toNat, by omega⟩ ⟨b.toNat, by omega⟩
  simp only [Int.toNat_of_nonneg ha.1, Int.toNat_of_nonneg hb.1] at h2
  exact h2
theorem hex_hi (c : UInt8) : (great.getD (shrI .u8 (c.toNat : Int) 4).toNat 0) = hexB (c.toNat / 16) ∧ 0 ≤ shrI .u8 (c.toNat : Int) 4 ∧ shrI .u8 (c.toNat : Int) 4 < 16 := by
  have h : ∀ n : Fin 256, (great.getD (shrI .u8 ((UInt8.ofNat n.val).toNat : Int) 4).toNat 0) = hexB ((UInt8.ofNat n.val).toNat / 16) ∧ 0 ≤ shrI .u8 ((UInt8.ofNat n.val).toNat : Int) 4 ∧ shrI .u8 ((UInt8.ofNat n.val).toNat : Int) 4 < 16 := by decide +kernel
  have h2 := h ⟨c.toNat, c.toNat_lt⟩
  simpa using h2
theorem hex_lo (c : UInt8) : (great.getD (andI .u8 (c.toNat : Int) 15).toNat 0) = hexB (c.toNat % 16) ∧ 0 ≤ andI .u8 (c.toNat : Int) 15 ∧ andI .u8 (c.toNat : Int) 15 < 16 := by
  have h : ∀ n : Fin 256, (great.getD (andI .u8 ((UInt8.ofNat n.val).toNat : Int) 15).toNat 0) = hexB ((UInt8.ofNat n.val).toNat % 16) ∧ 0 ≤ andI .u8 ((UInt8.ofNat n.val).toNat : Int) 15 ∧ andI .u8 ((UInt8.ofNat n.val).toNat : Int) 15 < 16 := by decide +kernel
  have h2 := h ⟨c.toNat, c.toNat_lt⟩
  simpa using h2
end Go.Law05
