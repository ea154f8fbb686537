/- The library's functions that layers 4 and 5 call. -/
import Derived.Test.YtpaipfceibcbkaaDoorF
import Derived.Test.YtpaipfceibcbkaaDoorM05
import Derived.Test.YtpaipfceibcbkaaDoorWB2
import Derived.Test.YtpaipfceibcbkaaDoorShelf
namespace Go.Proofs.YtpaipfceibcbkaaDoor
open Go.SL Go.RowKit Go.Law05
theorem s_ValidRune (r : Int) : CallsS P k_ValidRune [.int .i32 r] [] (fun v L => v = .bool (validF r) ∧ L = []) :=
  CallsS.of_same fun w => by
    have h : Lib.validRune r = validF r := by
      unfold Lib.validRune validF
      rw [Bool.eq_iff_iff]; simp; omega
    rw [← h]; exact Tryd.utf8_ValidRune r w
theorem s_IndexByte (l : List UInt8) (c : UInt8) : CallsS P k_IndexByte [str l, .int .u8 (c.toNat : Int)] [] (fun v L => v = .int .i64 (Lib.indexByte l c) ∧ L = []) :=
  CallsS.of_same fun w => by
    have h := Tryd.strings_IndexByte ⟨⟨l⟩⟩ (c.toNat : Int) w
    have h2 : ((c.toNat : Int).toNat).toUInt8 = c := by simp
    rw [h2] at h
    exact h
/-- What the package-level variables hold, as far as it is asked: a number in bytealg's MaxLen. -/
def GlobOK (G : Foot) : Prop := ∃ m : Int, ∀ w, Hd G w → w.cell? ⟨g_MaxLen, 0, none⟩ = some (.int .i64 m)
theorem s_Split {G : Foot} (hG : GlobOK G) (s : List UInt8) (h : s.length ≤ 100000) : CallsS P k_Split [str s, str [47]] [G] (fun v L => ∃ b, v = .slice (some ⟨b, 0, none⟩) (cutS [] s).length (cutS [] s).length ∧ L = [[(b, .cells ((cutS [] s).map str).toArray 9 (0, 0))], G]) := by
  obtain ⟨m, hm⟩ := hG
  intro w0 rest w hs
  have hd : Hd G w := fun p hp => hs.has p (by simp [hp])
  refine (Tryd.strings_Split ⟨⟨s⟩⟩ ⟨⟨[47]⟩⟩ m w (by rw [ba_size]; omega) (hm w hd) (by decide)).mono ?_
  rintro e w' ⟨rfl, rfl⟩
  have h1 : Lib.countB ⟨⟨s⟩⟩ ⟨⟨[47]⟩⟩ + 1 = (cutS [] s).length := count_cut s
  have h2 : (Lib.splitB ⟨⟨[47]⟩⟩ 0 (Lib.countB ⟨⟨s⟩⟩ ⟨⟨[47]⟩⟩) ⟨⟨s⟩⟩).map Value.string = (cutS [] s).map str := by
    have h3 := Lib.splitB_data ⟨⟨[47]⟩⟩ 0 (Lib.countB ⟨⟨s⟩⟩ ⟨⟨[47]⟩⟩) ⟨⟨s⟩⟩
    have h4 : (Lib.splitB ⟨⟨[47]⟩⟩ 0 (Lib.countB ⟨⟨s⟩⟩ ⟨⟨[47]⟩⟩) ⟨⟨s⟩⟩).map (·.data.toList) = cutS [] s := h3.trans (split_cut s.length s (Nat.le_refl _))
    rw [← h4, List.map_map]
    apply List.map_congr_left
    intro x _
    simp only [Function.comp, str]
  rw [h1, h2]
  exact ⟨_, _, rfl, ⟨w.heap.size, rfl, rfl⟩, by simpa using hs.alloc (.cells ((cutS [] s).map str).toArray 9 (0, 0))⟩
end Go.Proofs.YtpaipfceibcbkaaDoor
