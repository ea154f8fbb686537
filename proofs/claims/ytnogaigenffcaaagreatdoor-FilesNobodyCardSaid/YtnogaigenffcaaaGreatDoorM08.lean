/- The plain law of the names of files (layer 8): words, numbers, names, as lists of bytes; no program in sight. -/
import Derived.Lib.ItoaNum
import Derived.Lib.Atoi
import Derived.Lib.SlTrimSet
namespace Go.Law08
open Go.Lib

def isLow (c : UInt8) : Bool := decide (97 ≤ c.toNat) && decide (c.toNat ≤ 122)
def rightW (w : List UInt8) : Bool := decide (1 ≤ w.length) && decide (w.length ≤ 5) && w.all isLow
def nameF (w : List UInt8) (n : Int) : List UInt8 := if rightW w = true ∧ 1 ≤ n ∧ n ≤ 99999 then w ++ [46] ++ itoa n else []
def numberF (w name : List UInt8) : Option Int :=
  if hasPrefix name (w ++ [46]) = true then
    if (name.drop (w.length + 1)).length ≤ 5 then
      match atoi (name.drop (w.length + 1)) with
      | some n => if nameF w n = name ∧ name ≠ [] then some n else none
      | none => none
    else none
  else none

/-! ### Numerals -/
/-- The digits of a number above 0. -/
def dd (m : Int) : List UInt8 := if m ≤ 0 then [] else decDigits m.toNat
def dig (m : Int) : UInt8 := UInt8.ofNat (48 + m).toNat
theorem dd_step {m : Int} (h : 0 ≤ m) : decDigits m.toNat = dd (m / 10) ++ [dig (m % 10)] := by
  unfold dd dig
  obtain ⟨k, rfl⟩ : ∃ k : Nat, m = k := ⟨m.toNat, by omega⟩
  rw [decDigits]
  by_cases hk : k < 10
  · rw [dif_pos (by simpa using hk), if_pos (by omega)]
    have : (48 + (k : Int) % 10).toNat = 48 + k := by omega
    simp [this]
  · rw [dif_neg (by simpa using hk), if_neg (by omega)]
    have h1 : ((k : Int) / 10).toNat = k / 10 := by omega
    have h2 : (48 + (k : Int) % 10).toNat = 48 + k % 10 := by omega
    simp [h1, h2]
theorem dd_pos {m : Int} (h : 0 < m) : dd m = dd (m / 10) ++ [dig (m % 10)] := by
  rw [← dd_step (by omega), dd, if_neg (by omega)]
theorem dec_len : ∀ (k u : Nat), u < 10 ^ (k + 1) → (decDigits u).length ≤ k + 1
  | 0, u, h => by rw [decDigits, dif_pos (by simpa using h)]; simp
  | k + 1, u, h => by
    rw [decDigits]
    split
    · simp
    · have := dec_len k (u / 10) (by rw [Nat.pow_succ] at h; omega)
      simp; omega
theorem itoa_pos {n : Int} (h : 0 ≤ n) : itoa n = decDigits n.toNat := by unfold itoa; rw [if_neg (by omega)]
theorem itoa_len {n : Int} (h : 0 ≤ n) (h1 : n ≤ 99999) : (itoa n).length ≤ 5 := by rw [itoa_pos h]; exact dec_len 4 _ (by omega)
theorem dec_ne (u : Nat) : decDigits u ≠ [] := by rw [decDigits]; split <;> simp
theorem itoa_ne {n : Int} (h : 0 ≤ n) : itoa n ≠ [] := by rw [itoa_pos h]; exact dec_ne _
theorem digitVal_dig {d : Nat} (h : d < 10) : digitVal (UInt8.ofNat (48 + d)) = some d := by
  unfold digitVal
  have : (UInt8.ofNat (48 + d)).toNat = 48 + d := by simp; omega
  rw [this, if_pos (by omega)]
  congr 1
  omega
theorem decFrom_append : ∀ (a b : List UInt8) (acc : Nat), decFrom acc (a ++ b) = (decFrom acc a).bind fun m => decFrom m b
  | [], b, acc => by simp [decFrom]
  | c :: a, b, acc => by
    simp only [List.cons_append, decFrom]
    cases digitVal c with
    | none => rfl
    | some d => exact decFrom_append a b _
theorem decFrom_dec (u : Nat) : decFrom 0 (decDigits u) = some u := by
  induction u using Nat.strongRecOn with
  | _ u ih =>
    rw [decDigits]
    split
    · rename_i h
      simp only [decFrom, digitVal_dig h]
      congr 1
      omega
    · rw [decFrom_append, ih (u / 10) (by omega)]
      simp only [Option.bind_some, decFrom, digitVal_dig (show u % 10 < 10 by omega)]
      congr 1
      omega
/-- Every byte is a digit. -/
def allDig (l : List UInt8) : Prop := ∀ b ∈ l, 48 ≤ b.toNat ∧ b.toNat ≤ 57
theorem allDig_dec (u : Nat) : allDig (decDigits u) := by
  induction u using Nat.strongRecOn with
  | _ u ih =>
    rw [decDigits]
    split
    · intro b hb
      simp at hb; subst hb; simp; omega
    · intro b hb
      rcases List.mem_append.1 hb with h | h
      · exact ih _ (by omega) b h
      · simp at h; subst h; simp; omega
theorem atoi_itoa {n : Int} (h : 0 ≤ n) : atoi (itoa n) = some n := by
  rw [itoa_pos h]
  have h1 := decFrom_dec n.toNat
  have h2 := allDig_dec n.toNat
  cases hd : decDigits n.toNat with
  | nil => exact absurd hd (dec_ne _)
  | cons b r =>
    have hb := h2 b (by rw [hd]; exact List.mem_cons_self ..)
    have n45 : ¬ (b == 45) = true := fun he => by
      have : b = 45 := by simpa using he
      subst this; simp at hb
    have n43 : ¬ (b == 43) = true := fun he => by
      have : b = 43 := by simpa using he
      subst this; simp at hb
    simp only [atoi, if_neg n45, if_neg n43, decNat, List.isEmpty_cons, Bool.false_eq_true, if_false]
    rw [hd] at h1
    simp [h1, Int.toNat_of_nonneg h]
theorem itoa_inj {m n : Int} (hm : 0 ≤ m) (hn : 0 ≤ n) (h : itoa m = itoa n) : m = n := by
  have := atoi_itoa hm
  rw [h, atoi_itoa hn] at this
  simpa using this.symm

/-! ### Names -/
theorem nameF_ok {w : List UInt8} {n : Int} (h : rightW w = true ∧ 1 ≤ n ∧ n ≤ 99999) : nameF w n = w ++ [46] ++ itoa n := if_pos h
theorem nameF_ne {w : List UInt8} {n : Int} : nameF w n ≠ [] ↔ rightW w = true ∧ 1 ≤ n ∧ n ≤ 99999 := by
  unfold nameF
  split
  · rename_i h; simp [h]
  · rename_i h; simp [h]
theorem nameF_nil {w : List UInt8} {n : Int} (h : w.length < 1 ∨ 5 < w.length ∨ n < 1 ∨ 99999 < n ∨ w.all isLow = false) : nameF w n = [] := by
  unfold nameF
  rw [if_neg]
  rintro ⟨h1, h2, h3⟩
  simp only [rightW, Bool.and_eq_true, decide_eq_true_eq] at h1
  rcases h with h | h | h | h | h
  · omega
  · omega
  · omega
  · omega
  · rw [h] at h1; exact absurd h1.2 (by simp)
theorem nameF_full {w : List UInt8} {n : Int} (h1 : 1 ≤ w.length) (h5 : w.length ≤ 5) (hn : 1 ≤ n) (hn5 : n ≤ 99999) (hl : w.all isLow = true) : nameF w n = w ++ [46] ++ itoa n :=
  nameF_ok ⟨by simp [rightW, h1, h5, hl], hn, hn5⟩
theorem nameF_len (w : List UInt8) (n : Int) : (nameF w n).length ≤ 11 := by
  unfold nameF
  split
  · rename_i h
    have := itoa_len (n := n) (by omega) h.2.2
    simp only [rightW, Bool.and_eq_true, decide_eq_true_eq] at h
    simp only [List.length_append, List.length_cons, List.length_nil]
    omega
  · simp
/-- It is a numbered name. -/
def IsName (w name : List UInt8) (n : Int) : Prop := nameF w n = name ∧ name ≠ []
theorem IsName.right {w name : List UInt8} {n : Int} (h : IsName w name n) : rightW w = true ∧ 1 ≤ n ∧ n ≤ 99999 := nameF_ne.1 (h.1 ▸ h.2)
theorem IsName.eq {w name : List UInt8} {n : Int} (h : IsName w name n) : name = w ++ [46] ++ itoa n := by rw [← h.1, nameF_ok h.right]
theorem IsName.unique {w name : List UInt8} {m n : Int} (h : IsName w name m) (k : IsName w name n) : m = n := by
  have h1 := h.eq
  rw [k.eq] at h1
  exact itoa_inj (by have := h.right; omega) (by have := k.right; omega) (List.append_cancel_left h1.symm)
theorem numberF_some {w name : List UInt8} {n : Int} : numberF w name = some n ↔ IsName w name n := by
  unfold numberF IsName
  constructor
  · intro h
    split at h
    · split at h
      · split at h
        · split at h
          · simp only [Option.some.injEq] at h; subst h; assumption
          · simp at h
        · simp at h
      · simp at h
    · simp at h
  · intro h
    have h' : IsName w name n := h
    have hr := h'.right
    have he := h'.eq
    have hd : name.drop (w.length + 1) = itoa n := by
      rw [he, show w.length + 1 = (w ++ [46]).length by simp, List.drop_left]
    rw [if_pos (by rw [he]; simp [hasPrefix]), hd, if_pos (itoa_len (by omega) (by omega)), atoi_itoa (by omega)]
    simp [h]
theorem dropWhile_nil {α : Type} (p : α → Bool) : ∀ (l : List α), l.dropWhile p = [] ↔ ∀ c ∈ l, p c = true
  | [] => by simp
  | c :: l => by
    rw [List.dropWhile_cons]
    split
    · rename_i h; rw [dropWhile_nil p l]; simp [h]
    · rename_i h; simp [h]
theorem trim_low {w cs : List UInt8} (hcs : ∀ c, cs.contains c = isLow c) : trimS w cs = [] ↔ w.all isLow = true := by
  have h1 : trimS w cs = ((w.reverse.dropWhile isLow).reverse).dropWhile isLow := by
    unfold trimS trimLeftS trimRightS
    rw [show (fun x => cs.contains x) = isLow from funext hcs]
  rw [h1]
  constructor
  · intro h
    rw [dropWhile_nil] at h
    have h2 : (w.reverse.dropWhile isLow) = [] := by
      cases hd : w.reverse.dropWhile isLow with
      | nil => rfl
      | cons c r =>
        have h3 := h c (by rw [hd]; simp)
        have h4 := List.head?_dropWhile_not isLow w.reverse
        rw [hd] at h4
        simp [h3] at h4
    rw [dropWhile_nil] at h2
    rw [List.all_eq_true]
    intro c hc
    exact h2 c (by simpa using hc)
  · intro h
    rw [List.all_eq_true] at h
    have h2 : (w.reverse.dropWhile isLow) = [] := by
      rw [dropWhile_nil]; intro c hc; exact h c (by simpa using hc)
    rw [h2]; rfl

/-! ### The document's reading of a number -/
/-- One digit more: below 0 it is none. -/
def numLoop : List UInt8 → Int → Option Int
  | [], n => some n
  | c :: r, n => if n < 100000 then (if 48 ≤ c.toNat ∧ c.toNat ≤ 57 then numLoop r (n * 10 + c.toNat - 48) else none) else some n
def refNumber (w name : List UInt8) : Int :=
  match numLoop (name.drop (w.length + 1)) 0 with
  | none => 0
  | some n => if name = [] ∨ nameF w n ≠ name then 0 else n
theorem numLoop_dec : ∀ (l : List UInt8) (acc m : Nat), decFrom acc l = some m → m < 1000000 → (∀ (i : Nat), i < l.length → ∀ q, decFrom acc (l.take i) = some q → q < 100000) → numLoop l acc = some (m : Int)
  | [], acc, m, h, _, _ => by simp [decFrom] at h; subst h; rfl
  | c :: r, acc, m, h, hm, hq => by
    have h0 := hq 0 (by simp) acc (by simp [decFrom])
    simp only [decFrom] at h
    cases hd : digitVal c with
    | none => simp [hd] at h
    | some d =>
      simp only [hd] at h
      have hdv : 48 ≤ c.toNat ∧ c.toNat ≤ 57 ∧ d = c.toNat - 48 := by
        unfold digitVal at hd
        split at hd
        · rename_i hh; simp at hd; omega
        · simp at hd
      simp only [numLoop]
      rw [if_pos (by omega), if_pos ⟨hdv.1, hdv.2.1⟩]
      have := numLoop_dec r (acc * 10 + d) m h hm (fun i hi q hq' => hq (i + 1) (by simpa using hi) q (by simp only [List.take_succ_cons, decFrom, hd]; exact hq'))
      rw [← this]
      congr 1
      omega
theorem dec_prefix (u : Nat) : ∀ (i : Nat), i < (decDigits u).length → ∀ q, decFrom 0 ((decDigits u).take i) = some q → q * 10 ≤ u := by
  induction u using Nat.strongRecOn with
  | _ u ih =>
    intro i hi q hq
    rw [decDigits] at hi hq
    split at hi
    · rename_i h
      rw [dif_pos h] at hq
      simp at hi; subst hi
      simp [decFrom] at hq; omega
    · rename_i h
      rw [dif_neg h] at hq
      simp at hi
      by_cases he : i = (decDigits (u / 10)).length
      · rw [he, List.take_left, decFrom_dec] at hq
        simp at hq; omega
      · rw [List.take_append_of_le_length (by omega)] at hq
        have := ih (u / 10) (by omega) i (by omega) q hq
        omega
theorem refNumber_name {w name : List UInt8} {n : Int} (h : IsName w name n) : refNumber w name = n := by
  have hr := h.right
  have hd : name.drop (w.length + 1) = itoa n := by
    rw [h.eq, show w.length + 1 = (w ++ [46]).length by simp, List.drop_left]
  unfold refNumber
  rw [hd, itoa_pos (by omega)]
  have h1 := numLoop_dec (decDigits n.toNat) 0 n.toNat (decFrom_dec _) (by omega) (fun i hi q hq => by
    have := dec_prefix n.toNat i hi q hq
    omega)
  have h2 : ((n.toNat : Nat) : Int) = n := by omega
  rw [h2] at h1
  have h3 : numLoop (decDigits n.toNat) 0 = some n := h1
  simp only [h3]
  rw [if_neg (by simp [h.1, h.2])]
theorem refNumber_pos {w name : List UInt8} (h : refNumber w name ≠ 0) : IsName w name (refNumber w name) := by
  unfold refNumber at h ⊢
  split at h
  · exact absurd rfl h
  · rename_i m hm
    by_cases hc : name = [] ∨ nameF w m ≠ name
    · rw [if_pos hc] at h; exact absurd rfl h
    · rw [if_neg hc]
      exact ⟨Classical.byContradiction fun hh => hc (.inr hh), fun hh => hc (.inl hh)⟩
theorem refNumber_eq (w name : List UInt8) : refNumber w name = (numberF w name).getD 0 := by
  cases h : numberF w name with
  | some n => exact refNumber_name (numberF_some.1 h)
  | none =>
    by_cases h0 : refNumber w name = 0
    · simpa using h0
    · have := numberF_some.2 (refNumber_pos h0)
      rw [h] at this; simp at this
theorem numberF_pos {w name : List UInt8} {n : Int} (h : numberF w name = some n) : 0 < n := by have := (numberF_some.1 h).right; omega
theorem numberF_nameF (w : List UInt8) (n : Int) : numberF w (nameF w n) = if nameF w n = [] then none else some n := by
  by_cases h : nameF w n = []
  · rw [if_pos h]
    cases hn : numberF w (nameF w n) with
    | none => rfl
    | some m => exact absurd h (numberF_some.1 hn).2
  · rw [if_neg h]
    exact numberF_some.2 ⟨rfl, h⟩
end Go.Law08
