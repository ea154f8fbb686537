/- The plain law of layers 1 and 3, as far as lengths go: words, packed texts; no program in sight. -/
import Derived.Test.YtpaipfceibcbkaaDoorSl7
namespace Go.Law03
open Go.SL
def rotF (x n : Int) : Int := orI .u32 (shlI .u32 x (32 - n)) (shrI .u32 x n)
theorem and31 {n : Int} (h : 1 ≤ n ∧ n ≤ 31) : andI .u64 (IntKind.u64.wrap (0 - n)) 31 = 32 - n := by
  have h1 : ∀ m : Fin 32, 1 ≤ m.val → andI .u64 (IntKind.u64.wrap (0 - (m.val : Int))) 31 = 32 - (m.val : Int) := by decide +kernel
  have h2 := h1 ⟨n.toNat, by omega⟩ (by show 1 ≤ n.toNat; omega)
  simp only [Int.toNat_of_nonneg (show 0 ≤ n by omega)] at h2
  exact h2
theorem len8 {ws : List Int} (h : ws.length = 8) : ∃ a0 a1 a2 a3 a4 a5 a6 a7, ws = [a0, a1, a2, a3, a4, a5, a6, a7] := by
  match ws, h with
  | [a0, a1, a2, a3, a4, a5, a6, a7], _ => exact ⟨a0, a1, a2, a3, a4, a5, a6, a7, rfl⟩
theorem shr_small {n b : Int} (h0 : 0 ≤ n) (h1 : n < 2097152) (h2 : 21 ≤ b) : shrI .i64 n b = 0 := by
  unfold shrI
  have h3 : (2 : Int) ^ 21 ≤ 2 ^ (min b.toNat IntKind.i64.bits) := by
    have h5 : 21 ≤ min b.toNat IntKind.i64.bits := by simp only [IntKind.bits]; omega
    exact_mod_cast Nat.pow_le_pow_right (by decide : 0 < 2) h5
  rw [Int.fdiv_eq_ediv_of_nonneg _ (by omega)]
  exact Int.ediv_eq_zero_of_lt h0 (by omega)
/-- A packer in block b. -/
def PkF (tP b : Nat) (l : List Int) (F : Foot) : Prop := ∃ (v : Value) (bf : Foot), F = (b, .cells [v, .bool false].toArray tP (0, 0)) :: bf ∧ OwnSl 5 1 v l.length (ints .u8 l) bf
theorem ints_snoc (l : List Int) (c : Int) : ints .u8 l ++ [.int .u8 c] = ints .u8 (l ++ [c]) := by simp [ints]
theorem ints_app (l m : List Int) (k : IntKind) : ints k l ++ ints k m = ints k (l ++ m) := by simp [ints]
theorem bytes_ints (l : List UInt8) : bytesV l = ints .u8 (l.map fun c => (c.toNat : Int)) := by simp [bytesV, ints]
theorem ints_len (k : IntKind) (l : List Int) : (ints k l).length = l.length := by simp [ints]
theorem OwnSl.ofLit {E sz b n : Nat} {cs : List Value} (h : cs.length = n * sz) : OwnSl E sz (.slice (some ⟨b, 0, none⟩) n n) n cs [(b, .cells cs.toArray E (0, 0))] :=
  ⟨h, .inr ⟨b, n, [], rfl, by simp, by simpa using h, Nat.le_refl _⟩⟩
theorem intsGet {k : IntKind} {ws : List Int} {i : Int} (h : i.toNat < ws.length) : (ints k ws)[i.toNat]? = some (.int k (ws.getD i.toNat 0)) := by
  simp [ints, List.getD_eq_getElem?_getD, h]
end Go.Law03
