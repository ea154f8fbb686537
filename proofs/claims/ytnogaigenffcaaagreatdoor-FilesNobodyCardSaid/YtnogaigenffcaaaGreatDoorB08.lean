/- The library's functions that layer 8 calls: from the shelf's contracts to those over footprints. -/
import Derived.Test.YtnogaigenffcaaaGreatDoorF
import Derived.Test.YtnogaigenffcaaaGreatDoorM08
import Derived.Test.YtnogaigenffcaaaGreatDoorShelf
import Derived.Shelf.Strings.SlTrimAscii
namespace Go.Proofs.YtnogaigenffcaaaGreatDoor
open Go.SL Go.RowKit Go.Shelf Go.Lib Go.Law08 Go.Sort

/-- What the package-level variables hold, as far as it is asked. -/
def GlobOK (G : Foot) : Prop := ∀ w, Hd G w → Lib.TabIs P w "internal/strconv.uint64pow10" .u64 Lib.pow10Tab ∧ ∃ ev, w.cell? ⟨0, 0, none⟩ = some ev ∧ (ev = .nilIface ∨ ∃ te pe, ev = .iface te pe)

theorem s_CutPrefix (a b : List UInt8) : CallsS P k_CutPrefix [str a, str b] [] (fun v L => v = .tuple #[str (trimPrefix a b), .bool (hasPrefix a b)] ∧ L = []) :=
  CallsS.of_same fun w => Tryz.strings_CutPrefix ⟨⟨a⟩⟩ ⟨⟨b⟩⟩ w

def letters : List UInt8 := [97, 98, 99, 100, 101, 102, 103, 104, 105, 106, 107, 108, 109, 110, 111, 112, 113, 114, 115, 116, 117, 118, 119, 120, 121, 122]
theorem letters_low (c : UInt8) : letters.contains c = isLow c := by
  have h : ∀ n : Fin 256, letters.contains (UInt8.ofNat n.val) = isLow (UInt8.ofNat n.val) := by decide +kernel
  have h2 := h ⟨c.toNat, c.toNat_lt⟩
  simpa using h2
theorem right_trim (w : List UInt8) : (trimS w letters = []) ↔ w.all isLow = true := trim_low letters_low
theorem drop_bt {l : List UInt8} {k : Nat} (hk : k < l.length) : ∃ c : UInt8, l.drop k = c :: l.drop (k + 1) ∧ bt l k = c.toNat := by
  refine ⟨l[k], List.drop_eq_getElem_cons hk, ?_⟩
  simp [bt, List.getD_eq_getElem?_getD, hk]
theorem numLoop_bad {l : List UInt8} {k : Nat} {m : Int} (hk : k < l.length) (hm : m < 100000) (hb : bt l k < 48 ∨ 57 < bt l k) : numLoop (l.drop k) m = none := by
  obtain ⟨c, h1, h2⟩ := drop_bt hk
  rw [h1, numLoop, if_pos hm, if_neg (by omega)]
theorem numLoop_ok {l : List UInt8} {k : Nat} {m : Int} (hk : k < l.length) (hm : m < 100000) (hb : 48 ≤ bt l k ∧ bt l k ≤ 57) : numLoop (l.drop k) m = numLoop (l.drop (k + 1)) (m * 10 + bt l k - 48) := by
  obtain ⟨c, h1, h2⟩ := drop_bt hk
  rw [h1, numLoop, if_pos hm, if_pos (by omega), h2]
theorem numLoop_end {l : List UInt8} {k : Nat} {m : Int} (h : l.length ≤ k ∨ 100000 ≤ m) : numLoop (l.drop k) m = some m := by
  by_cases hk : k < l.length
  · obtain ⟨c, h1, h2⟩ := drop_bt hk
    rw [h1, numLoop, if_neg (by omega)]
  · rw [List.drop_eq_nil_of_le (by omega), numLoop]
theorem ref_none {w name : List UInt8} (h : numLoop (name.drop (w.length + 1)) 0 = none) : refNumber w name = 0 := by unfold refNumber; rw [h]
theorem ref_some {w name : List UInt8} {m : Int} (h : numLoop (name.drop (w.length + 1)) 0 = some m) : refNumber w name = if name = [] ∨ nameF w m ≠ name then 0 else m := by unfold refNumber; rw [h]
theorem right_eq {w : List UInt8} (h1 : ¬ w = []) (h2 : (w.length : Int) ≤ 5) : (trimS w letters == []) = rightW w := by
  have h3 : 1 ≤ w.length := by cases w with | nil => exact absurd rfl h1 | cons a b => simp
  have h4 : w.length ≤ 5 := by omega
  have := right_trim w
  rw [Bool.eq_iff_iff]
  simp [rightW, h3, h4, this]
theorem low_snoc {w : List UInt8} {k : Nat} (h : ∀ j, j < k → isLow (w.getD j 0) = true) (hk : 97 ≤ ((w.getD (k : Int).toNat 0).toNat : Int) ∧ ((w.getD (k : Int).toNat 0).toNat : Int) ≤ 122) : ∀ j, j < k + 1 → isLow (w.getD j 0) = true := by
  intro j hj
  by_cases he : j = k
  · subst he
    simp only [Int.toNat_natCast] at hk
    simp only [isLow, Bool.and_eq_true, decide_eq_true_eq]
    omega
  · exact h j (by omega)
theorem all_low {w : List UInt8} (h : ∀ j, j < w.length → isLow (w.getD j 0) = true) : w.all isLow = true := by
  rw [List.all_eq_true]
  intro c hc
  obtain ⟨j, hj, rfl⟩ := List.getElem_of_mem hc
  have := h j hj
  simpa [List.getD_eq_getElem?_getD, hj] using this
theorem not_low {w : List UInt8} {k : Nat} (hk : k < w.length) (h : ¬ (97 ≤ bt w k ∧ bt w k ≤ 122)) : w.all isLow = false := by
  rw [List.all_eq_false]
  refine ⟨w[k], List.getElem_mem hk, ?_⟩
  simp only [bt, Int.toNat_natCast, List.getD_eq_getElem?_getD, List.getElem?_eq_getElem hk, Option.getD_some] at h
  simp only [isLow, Bool.and_eq_true, decide_eq_true_eq]
  omega
theorem s_Trim (a : List UInt8) (h : a.length ≤ 9223372036854775807) : CallsS P k_Trim [str a, str letters] [] (fun v L => v = str (trimS a letters) ∧ L = []) :=
  CallsS.of_below fun w => Any.strings_Trim_laid Tryz.lays160 (by kernel_rfl) ⟨⟨a⟩⟩ ⟨⟨letters⟩⟩ w h (by decide) (ascii_of_all (by decide))

theorem s_Itoa {G : Foot} (hG : GlobOK G) (n : Int) (h0 : -9223372036854775808 ≤ n) (h1 : n ≤ 9223372036854775807) : CallsS P k_Itoa [.int .i64 n] [G] (fun v L => (v = str (itoa n)) ∧ L = [G]) :=
  CallsS.of_belowG fun w hd => (Tryz.strconv_Itoa n h0 h1 w (hG w hd).1).mono fun e w' ⟨he, k, os, hw⟩ => ⟨⟨_, he, rfl⟩, by rw [hw]; exact below_drewN_grow w k os⟩

theorem s_Atoi {G : Foot} (hG : GlobOK G) (a : List UInt8) (h : a.length ≤ 18) : CallsS P k_Atoi [str a] [G] (fun v L => (∃ e, isNilI e = some (atoi a).isSome ∧ v = .tuple #[.int .i64 ((atoi a).getD 0), e]) ∧ L = [G]) :=
  CallsS.of_belowG fun w hd => by
    cases hn : atoi a with
    | some n =>
      exact (Tryz.strconv_Atoi ⟨⟨a⟩⟩ n h hn w).mono fun e w' ⟨he, t, hw⟩ => ⟨⟨_, he, _, rfl, rfl⟩, by rw [hw]; exact bytesWorld_below w 5 t⟩
    | none =>
      obtain ⟨_, ev, h1, h2⟩ := hG w hd
      exact (Tryz.strconv_Atoi_err ⟨⟨a⟩⟩ h hn ev w h1 h2).mono fun e w' ⟨N, he, _, _, hb⟩ => ⟨⟨_, he, _, rfl, rfl⟩, hb⟩
end Go.Proofs.YtnogaigenffcaaaGreatDoor
