/- strings.Builder, as a footprint. -/
import Derived.Test.YtpaipfceibcbkaaDoorSl7
namespace Go.SL
/-- A builder in block b that holds l. -/
def BldF (tB b : Nat) (l : List UInt8) (F : Foot) : Prop := ∃ (p : Option Addr) (v : Value) (bf : Foot), F = (b, .cells [.pointer p, v].toArray tB (0, 0)) :: bf ∧ (p = none ∨ p = some ⟨b, 0, none⟩) ∧
  OwnSl 5 1 v l.length (bytesV l) bf ∧ (l = [] → v = .slice none 0 0 ∧ bf = [])
theorem bytesV_snoc (l : List UInt8) {c : Int} (h : 0 ≤ c ∧ c ≤ 255) : bytesV l ++ [.int .u8 c] = bytesV (l ++ [UInt8.ofNat c.toNat]) := by
  have : ((UInt8.ofNat c.toNat).toNat : Int) = c := by
    have h2 : (UInt8.ofNat c.toNat).toNat = c.toNat := by simp; omega
    rw [h2]; omega
  simp [bytesV]; omega
end Go.SL
