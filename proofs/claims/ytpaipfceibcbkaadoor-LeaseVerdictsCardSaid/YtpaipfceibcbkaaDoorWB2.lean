/- strings.Builder: its contracts over footprints. -/
import Derived.Test.YtpaipfceibcbkaaDoorWB1
namespace Go.Proofs.YtpaipfceibcbkaaDoor
open Go.SL

theorem s_WriteByte (b : Nat) (l : List UInt8) (c : UInt8) (F : Foot) (hb : BldF 70 b l F) (hl : l.length ≤ 1000000) : CallsS P 43 [.pointer (some ⟨b, 0, none⟩), .int .u8 (c.toNat : Int)] [F] (fun v L => v = .nilIface ∧ ∃ F', L = [F'] ∧ BldF 70 b (l ++ [c]) F') := by
  obtain ⟨p, v, bf, rfl, hp, ho, _⟩ := hb
  intro w0 rest w hs
  refine (s_WriteByte0 b p v l (c.toNat : Int) bf hp ho hl w0 rest w (by simpa using hs)).mono ?_
  rintro e w' ⟨v', L, rfl, ⟨rfl, v1, bf1, rfl, h1⟩, h2⟩
  refine ⟨_, [(b, .cells [.pointer (some ⟨b, 0, none⟩), v1].toArray 70 (0, 0)) :: bf1], rfl, ⟨rfl, _, rfl, some ⟨b, 0, none⟩, v1, bf1, rfl, .inr rfl, ?_, fun h => by simp at h⟩, by simpa using h2⟩
  have h5 := bytesV_snoc l (c := (c.toNat : Int)) (by have := c.toNat_lt; omega)
  have h6 : UInt8.ofNat ((c.toNat : Int)).toNat = c := by simp
  rw [h6] at h5
  rw [← h5]; simpa using h1
theorem s_BString (b : Nat) (l : List UInt8) (F : Foot) (hb : BldF 70 b l F) (hl : l.length ≤ 1000000) : CallsS P 44 [.pointer (some ⟨b, 0, none⟩)] [F] (fun v L => v = str l ∧ L = []) := by
  obtain ⟨p, v, bf, rfl, hp, ho, h0⟩ := hb
  by_cases hl0 : l = []
  · obtain ⟨rfl, rfl⟩ := h0 hl0
    subst hl0
    exact s_String0 b p
  · rcases ho.2 with ⟨h1, h2, rfl⟩ | ⟨g, c, sp, rfl, rfl, h4, h5⟩
    · exact absurd (List.eq_nil_of_length_eq_zero h2) hl0
    · exact fun w0 rest w hs => s_String1 b g c p l sp hl0 h5 hl w0 rest w (by simpa using hs)

end Go.Proofs.YtpaipfceibcbkaaDoor
