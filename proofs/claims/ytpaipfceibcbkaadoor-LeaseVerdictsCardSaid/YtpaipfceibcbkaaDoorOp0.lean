/- Opening the arguments of a law: cells of structs. -/
import Derived.Test.YtpaipfceibcbkaaDoorSl7
import Derived.WideShapes
namespace Go.SL
variable {P : Program} {W : World} {r : Reach} {b : Nat}
theorem cell_int {t : TypeId} {k : IntKind} {v : Value} (hu : P.underlying t = some (.int k)) (h : Cell.okWide P W r b t v) : ∃ n, v = .int k n ∧ k.has n := by
  unfold Cell.okWide at h
  rw [hu] at h
  simp only [Cell.ok, hu] at h
  cases v <;> simp at h
  exact ⟨_, by rw [h.1], h.2⟩
theorem cell_str {t : TypeId} {v : Value} (hu : P.underlying t = some .string) (h : Cell.okWide P W r b t v) : ∃ l : List UInt8, v = str l := by
  unfold Cell.okWide at h
  rw [hu] at h
  simp only [Cell.ok, hu] at h
  cases v <;> simp at h
  rename_i s
  exact ⟨s.data.toList, congrArg Value.string (ba_eta s)⟩
theorem cell_bool {t : TypeId} {v : Value} (hu : P.underlying t = some .bool) (h : Cell.okWide P W r b t v) : ∃ q, v = .bool q := by
  unfold Cell.okWide at h
  rw [hu] at h
  simp only [Cell.ok, hu] at h
  cases v <;> simp at h
  exact ⟨_, rfl⟩
theorem open_cells {t : TypeId} {fs : Array Field} {ts : List TypeId} {v : Value} (hu : P.underlying t = some (.struct fs)) (hts : P.cellTypes P.depth t = some ts) (hc : P.cellsOf t = ts.length) (h : Value.okWide P W r b t v) :
    ∃ cs : List Value, v = .agg cs.toArray ∧ cs.length = ts.length ∧ ∀ (i : Nat) (u : Value), cs[i]? = some u → ∃ t', ts[i]? = some t' ∧ Cell.okWide P W r b t' u := by
  unfold Value.okWide at h
  rw [hu] at h
  simp only at h
  obtain ⟨cs, rfl, h1, ts', h2, _, h3⟩ := h
  rw [hts] at h2
  obtain rfl := Option.some.inj h2
  refine ⟨cs.toList, by simp, by simpa using h1.trans hc, fun i u hi => ?_⟩
  have hlt : i < ts.length := by
    have := (List.getElem?_eq_some_iff.1 hi).1
    simp at this; omega
  obtain ⟨t', h4, h5⟩ := h3 i u (by simpa using hi)
  rw [Nat.mod_eq_of_lt hlt] at h4
  exact ⟨t', h4, h5⟩
theorem list_cons {l : List Value} {n : Nat} (h : l.length = n + 1) : ∃ c r, l = c :: r ∧ r.length = n := by
  cases l with
  | nil => simp at h
  | cons c r => exact ⟨c, r, rfl, by simpa using h⟩
theorem cell?_same {W w : World} {g : Nat} {v : Value} (hw : ∀ i, i < W.heap.size → w.heap[i]? = W.heap[i]?) (h : W.cell? ⟨g, 0, none⟩ = some v) : w.cell? ⟨g, 0, none⟩ = some v := by
  have hlt : g < W.heap.size := by
    rcases Nat.lt_or_ge g W.heap.size with h1 | h1
    · exact h1
    · simp [World.cell?, Array.getElem?_eq_none h1] at h
  unfold World.cell? at h ⊢
  rw [hw g hlt]
  exact h
end Go.SL
