/- pack.Packer: its contracts over footprints. -/
import Derived.Test.YtpaipfceibcbkaaDoorW1b
namespace Go.Proofs.YtpaipfceibcbkaaDoor
open Go.SL Go.Law03

theorem s_PNum (b : Nat) (l : List Int) (n : Int) (F : Foot) (hp : PkF 62 b l F) (hl : l.length ≤ 100000) (hn : 0 ≤ n ∧ n ≤ 1000000) : CallsS P 51 [.pointer (some ⟨b, 0, none⟩), .int .i64 n] [F] (fun v L => v = .pointer (some ⟨b, 0, none⟩) ∧ ∃ F1 l1, L = [F1] ∧ PkF 62 b l1 F1 ∧ l1.length ≤ l.length + 10) := by
  obtain ⟨v0, bf, rfl, ho⟩ := hp
  intro w0 rest w hs
  refine (s_PNum0 b v0 l n bf ho hl hn w0 rest w (by simpa using hs)).mono ?_
  rintro e w' ⟨v', L, rfl, ⟨rfl, v1, bf1, l1, rfl, h1, h2⟩, h3⟩
  exact ⟨_, [_ :: bf1], rfl, ⟨rfl, _, l1, rfl, ⟨v1, bf1, rfl, h1⟩, h2⟩, by simpa using h3⟩
theorem s_PRaw (b : Nat) (l : List Int) (s : List UInt8) (F : Foot) (hp : PkF 62 b l F) (hl : l.length ≤ 100000) (hn : s.length ≤ 100000) : CallsS P 52 [.pointer (some ⟨b, 0, none⟩), str s] [F] (fun v L => v = .pointer (some ⟨b, 0, none⟩) ∧ ∃ F1 l1, L = [F1] ∧ PkF 62 b l1 F1 ∧ l1.length ≤ l.length + s.length) := by
  obtain ⟨v0, bf, rfl, ho⟩ := hp
  intro w0 rest w hs
  refine (s_PRaw0 b v0 l s bf ho hl hn w0 rest w (by simpa using hs)).mono ?_
  rintro e w' ⟨v', L, rfl, ⟨rfl, v1, bf1, l1, rfl, h1, h2⟩, h3⟩
  exact ⟨_, [_ :: bf1], rfl, ⟨rfl, _, l1, rfl, ⟨v1, bf1, rfl, h1⟩, h2⟩, by simpa using h3⟩
theorem s_PString (b : Nat) (l : List Int) (F : Foot) (hp : PkF 62 b l F) : CallsS P 35 [.pointer (some ⟨b, 0, none⟩)] [F] (fun v L => v = str (toBytes l) ∧ L = []) := by
  obtain ⟨v0, bf, rfl, ho⟩ := hp
  exact fun w0 rest w hs => s_PString0 b v0 l bf ho w0 rest w (by simpa using hs)

end Go.Proofs.YtpaipfceibcbkaaDoor
