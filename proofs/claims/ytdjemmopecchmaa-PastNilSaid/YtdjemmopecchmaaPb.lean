/- Package past: Len, check, Jump. -/
import Derived.Test.YtdjemmopecchmaaPa
namespace Go.Proofs.Ytdjemmopecchmaa
open Go.RowKit Go.Proofs.YtdjemmopecchmaaW.PrintWords Key
set_option linter.unusedVariables false
set_option linter.unusedSimpArgs false

theorem qLen_any (q a : Nat) (l : List Nat) (w : World) (h : PastAt w q l a) :
    Calls Try.prog 59 #[.pointer (some ⟨q, 0, none⟩)] w fun e w' => e = .returned (.tuple #[.int .i64 a, .int .i64 (((l.length - 1 - a : Nat) : Int))]) ∧ Below w.heap.size w w' := by
  have hal : a < l.length ∧ l.length ≤ 51 := by obtain ⟨_, _, _, _, h3⟩ := h; exact h3
  obtain ⟨g, cap, c0, c1, c2, hc⟩ := h.cells
  obtain ⟨h1, h2⟩ := hal
  have hz : ((l.length : Int) - 1 - a) = ((l.length - 1 - a : Nat) : Int) := by omega
  clear c2
  go_enter Try.func59, Try.ntmps59
  go_wp2_with fail
  go_quiet (fail)
  go_wp2
  go_ret2
  exact ⟨by first | rfl | (simp; omega), pw_below_drewN (Below.refl _ _) _⟩
set_option maxRecDepth 100000 in
theorem qcheck_any (q a k : Nat) (l : List Nat) (t : Nat) (r r0 : Option Nat) (w : World) (h : PastAt w q l a) (ha : a < l.length) (ht : TrAt w t k r) (h0 : TrAt w l[a] k r0) :
    Calls Try.prog 91 #[.pointer (some ⟨q, 0, none⟩), .pointer (some ⟨t, 0, none⟩)] w fun e w' => e = .returned (.int .i64 0) ∧ Below w.heap.size w w' := by
  go_enter Try.func91, Try.ntmps91
  go_wp2_with fail
  go_at_call 96
  refine (tK_any t k r _ ht).mono ?_
  rintro e w1 ⟨rfl, rfl⟩
  go_wp2_with fail
  go_at_call 24
  refine (qNow_any q a l _ h ha).mono ?_
  rintro e w2 ⟨rfl, hb⟩
  go_wp2_with fail
  go_at_call 96
  refine (tK_any l[a] k r0 _ (h0.bel hb)).mono ?_
  rintro e w3 ⟨rfl, rfl⟩
  go_wp2
  go_ret
  exact ⟨rfl, hb⟩
end Go.Proofs.Ytdjemmopecchmaa
