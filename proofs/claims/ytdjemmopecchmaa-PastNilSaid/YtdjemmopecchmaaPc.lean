/- Package past: Jump, Undo, Redo. -/
import Derived.Test.YtdjemmopecchmaaPb
namespace Go.Proofs.Ytdjemmopecchmaa
open Go.RowKit Go.Proofs.YtdjemmopecchmaaW.PrintWords Key
set_option linter.unusedVariables false
set_option linter.unusedSimpArgs false

theorem qJump_no (q a : Nat) (l : List Nat) (n : Int) (w : World) (h : PastAt w q l a) (hn : n < -(a : Int) ∨ ((l.length - 1 - a : Nat) : Int) < n) :
    Calls Try.prog 61 #[.pointer (some ⟨q, 0, none⟩), .int .i64 n] w fun e w' => e = .returned (.int .i64 3) ∧ Below w.heap.size w w' := by
  have hw : wrap64 (-(a : Int)) = -(a : Int) := by
    obtain ⟨_, _, _, _, h3, h4⟩ := h
    unfold wrap64; omega
  generalize hB : ((l.length - 1 - a : Nat) : Int) = m at hn
  rcases hn with hn | hn
  · go_enter Try.func61, Try.ntmps61
    go_wp2_with (go_at_call 59; refine (qLen_any q a l _ h).mono ?_; rintro e w1 ⟨rfl, hb⟩)
    go_ret
    exact ⟨rfl, hb⟩
  · have hn' : ¬ n < -(a : Int) := by omega
    go_enter Try.func61, Try.ntmps61
    go_wp2_with (go_at_call 59; refine (qLen_any q a l _ h).mono ?_; rintro e w1 ⟨rfl, hb⟩; rw [hB])
    go_ret
    exact ⟨rfl, hb⟩
theorem PastAt.set {w : World} {q : Nat} {l : List Nat} {a a' : Nat} (h : PastAt w q l a) (ha : a' < l.length) : PastAt (w.setCell ⟨q, 1, none⟩ (.int .i64 a')) q l a' ∧ Keep q w (w.setCell ⟨q, 1, none⟩ (.int .i64 a')) := by
  obtain ⟨g, cap, h1, h2, h3, h4⟩ := h
  refine ⟨⟨g, cap, set_block h1 1 _, own_far h2 (fun e => ?_) _, ha, h4⟩, Keep.set _ _ _ _⟩
  dsimp only at e
  subst e
  rcases h2.2 with ⟨h', _⟩ | ⟨g', cap', cur, h', _, hcur, _⟩
  · simp at h'
  · simp only [Value.slice.injEq, Option.some.injEq, Addr.mk.injEq] at h'
    obtain ⟨⟨rfl, _⟩, _⟩ := h'
    rw [h1] at hcur
    simp at hcur
theorem qJump_yes (q a a' : Nat) (l : List Nat) (n : Int) (w : World) (h : PastAt w q l a) (hn : (a : Int) + n = a') (ha : a' < l.length) :
    Calls Try.prog 61 #[.pointer (some ⟨q, 0, none⟩), .int .i64 n] w fun e w' => e = .returned (.int .i64 0) ∧ PastAt w' q l a' ∧ Keep q w w' := by
  have hw : wrap64 (-(a : Int)) = -(a : Int) := by
    obtain ⟨_, _, _, _, h3, h4⟩ := h
    unfold wrap64; omega
  have h51 : a < l.length ∧ l.length ≤ 51 := by obtain ⟨_, _, _, _, h3⟩ := h; exact h3
  have hn1 : ¬ n < -(a : Int) := by omega
  have hn2 : ¬ ((l.length - 1 - a : Nat) : Int) < n := by omega
  generalize hB : ((l.length - 1 - a : Nat) : Int) = m at hn2
  have HA := Lib.hid ha
  have H51 := Lib.hid h51
  have HN := Lib.hid hn
  have hwn : wrap64 ((a : Int) + n) = (a' : Int) := by unfold wrap64; omega
  clear ha h51
  go_enter Try.func61, Try.ntmps61
  go_wp2_with (go_at_call 59; refine (qLen_any q a l _ h).mono ?_; rintro e w1 ⟨rfl, hb⟩; rw [hB]; obtain ⟨g, cap, hblk, _⟩ := h.bel hb; have c1 : w1.cell? ⟨q, 1, none⟩ = some (.int .i64 a) := cell_of_block hblk 1; have f1 := free_block hblk 1)
  go_ret
  obtain ⟨p1, p2⟩ := (h.bel hb).set HA.out
  exact ⟨rfl, p1, (Keep.of_below hb).trans p2⟩
theorem qUndo_yes (q a : Nat) (l : List Nat) (w : World) (h : PastAt w q l (a + 1)) :
    Calls Try.prog 23 #[.pointer (some ⟨q, 0, none⟩)] w fun e w' => e = .returned (.bool true) ∧ PastAt w' q l a ∧ Keep q w w' := by
  have ha : a < l.length := by obtain ⟨_, _, _, _, h3, _⟩ := h; omega
  go_enter Try.func23, Try.ntmps23
  go_wp2_with (go_at_call 61; refine (qJump_yes q (a + 1) a l (-1) _ h (by omega) ha).mono ?_; rintro e w1 ⟨rfl, hb⟩)
  go_ret
  exact ⟨rfl, hb⟩
theorem qUndo_no (q : Nat) (l : List Nat) (w : World) (h : PastAt w q l 0) :
    Calls Try.prog 23 #[.pointer (some ⟨q, 0, none⟩)] w fun e w' => e = .returned (.bool false) ∧ Below w.heap.size w w' := by
  go_enter Try.func23, Try.ntmps23
  go_wp2_with (go_at_call 61; refine (qJump_no q 0 l (-1) _ h (by omega)).mono ?_; rintro e w1 ⟨rfl, hb⟩)
  go_ret
  exact ⟨rfl, hb⟩
theorem qRedo_yes (q a : Nat) (l : List Nat) (w : World) (h : PastAt w q l a) (ha : a + 1 < l.length) :
    Calls Try.prog 26 #[.pointer (some ⟨q, 0, none⟩)] w fun e w' => e = .returned (.bool true) ∧ PastAt w' q l (a + 1) ∧ Keep q w w' := by
  go_enter Try.func26, Try.ntmps26
  go_wp2_with (go_at_call 61; refine (qJump_yes q a (a + 1) l 1 _ h (by omega) ha).mono ?_; rintro e w1 ⟨rfl, hb⟩)
  go_ret
  exact ⟨rfl, hb⟩
theorem qRedo_no (q a : Nat) (l : List Nat) (w : World) (h : PastAt w q l a) (ha : a + 1 = l.length) :
    Calls Try.prog 26 #[.pointer (some ⟨q, 0, none⟩)] w fun e w' => e = .returned (.bool false) ∧ Below w.heap.size w w' := by
  have HA := Lib.hid ha
  clear ha
  go_enter Try.func26, Try.ntmps26
  go_wp2_with (go_at_call 61; refine (qJump_no q a l 1 _ h (by have := HA.out; omega)).mono ?_; rintro e w1 ⟨rfl, hb⟩)
  go_ret
  exact ⟨rfl, hb⟩
end Go.Proofs.Ytdjemmopecchmaa
