/- Package past: New, Now, Len. -/
import Derived.Test.YtdjemmopecchmaaKe
namespace Go.Proofs.Ytdjemmopecchmaa
open Go.RowKit Go.Proofs.YtdjemmopecchmaaW.PrintWords Key
set_option linter.unusedVariables false
set_option linter.unusedSimpArgs false

/-- a past: trees in a row, the present one's place -/
def PastAt (w : World) (q : Nat) (l : List Nat) (a : Nat) : Prop :=
  ∃ g cap, w.heap[q]? = some (.cells #[.slice (some ⟨g, 0, none⟩) l.length cap, .int .i64 a] 120 (0, 0)) ∧ w.ownsRow 0 23 1 (.slice (some ⟨g, 0, none⟩) l.length cap) l.length (ptrs l) ∧ a < l.length ∧ l.length ≤ 51
theorem PastAt.bel {w w' : World} {q : Nat} {l : List Nat} {a : Nat} (h : PastAt w q l a) (hb : Below w.heap.size w w') : PastAt w' q l a := by
  obtain ⟨g, cap, h1, h2, h3⟩ := h
  exact ⟨g, cap, by rw [hb.block q (Array.getElem?_eq_some_iff.1 h1).1]; exact h1, pw_own_below h2 hb, h3⟩
theorem PastAt.other {w : World} {q : Nat} {l : List Nat} {a : Nat} (h : PastAt w q l a) : Other w q := by
  obtain ⟨g, cap, h1, h2, h3⟩ := h
  intro cs t fr hb
  rw [h1] at hb
  simp only [Option.some.injEq, Obj.cells.injEq] at hb
  obtain ⟨rfl, rfl, rfl⟩ := hb
  refine ⟨by decide, by decide, by decide, by decide, fun j x => ?_⟩
  match j with
  | 0 => simp
  | 1 => simp
  | j + 2 => simp
theorem PastAt.cells {w : World} {q : Nat} {l : List Nat} {a : Nat} (h : PastAt w q l a) : ∃ g cap, w.cell? ⟨q, 0, none⟩ = some (.slice (some ⟨g, 0, none⟩) l.length cap) ∧ w.cell? ⟨q, 1, none⟩ = some (.int .i64 a) ∧ (∀ i (h : i < l.length), w.cell? ⟨g, i, none⟩ = some (.pointer (some ⟨l[i], 0, none⟩))) ∧ l.length ≤ cap := by
  obtain ⟨g, cap, h1, h2, h3⟩ := h
  refine ⟨g, cap, cell_of_block h1 0, cell_of_block h1 1, fun i hi => ?_, own_cap h2⟩
  have := h2.cellAt i (by omega)
  rw [this]; simp [ptrs, hi]
theorem qNew_any (t : Nat) (w : World) :
    Calls Try.prog 20 #[.pointer (some ⟨t, 0, none⟩)] w fun e w' => ∃ q, e = .returned (.tuple #[.pointer (some ⟨q, 0, none⟩), .int .i64 0]) ∧ PastAt w' q [t] 0 ∧ w.heap.size ≤ q ∧ Below w.heap.size w w' := by
  go_enter Try.func20, Try.ntmps20
  go_wp2
  go_ret2
  have hb1 : ∀ o, Below w.heap.size w (w.alloc o) := fun o => (Below.refl _ _).alloc (Nat.le_refl _) o
  have hsz : ∀ o, (w.alloc o).heap.size = w.heap.size + 1 := fun o => by simp
  refine ⟨w.heap.size + 1, rfl, ⟨w.heap.size, 1, ?_, ⟨rfl, Or.inr ⟨w.heap.size, 1, #[.pointer (some ⟨t, 0, none⟩)], rfl, Nat.zero_le _, ?_, Nat.le_refl _, by decide, rfl, rfl⟩⟩, by simp, by simp⟩, by omega, (hb1 _).alloc (by simp) _⟩
  · rw [← hsz (.cells #[.pointer (some ⟨t, 0, none⟩)] 23)]; exact heap_alloc_new _ _
  · exact (((Below.refl _ _).alloc (Nat.le_refl _) _).block w.heap.size (by simp)).trans (heap_alloc_new _ _)
theorem qNow_any (q a : Nat) (l : List Nat) (w : World) (h : PastAt w q l a) (ha : a < l.length) :
    Calls Try.prog 24 #[.pointer (some ⟨q, 0, none⟩)] w fun e w' => e = .returned (.pointer (some ⟨l[a], 0, none⟩)) ∧ Below w.heap.size w w' := by
  obtain ⟨g, cap, c0, c1, c2, hc⟩ := h.cells
  have c2a := c2 a ha
  have ha' : (a : Int) < (l.length : Int) := by omega
  have ha0 : (0 : Int) ≤ (a : Int) := by omega
  clear c2
  go_enter Try.func24, Try.ntmps24
  go_wp2_with fail
  go_quiet (fail)
  go_wp2
  go_ret
  exact ⟨rfl, pw_below_drewN (Below.refl _ _) _⟩
end Go.Proofs.Ytdjemmopecchmaa
