/- Package past where nothing is there; the statement PastNil. -/
import Derived.Test.YtdjemmopecchmaaPe
namespace Go.Proofs.Ytdjemmopecchmaa
open Go.RowKit Go.Proofs.YtdjemmopecchmaaW.PrintWords Key
set_option linter.unusedVariables false
set_option linter.unusedSimpArgs false

theorem qNew_nil (w : World) : Calls Try.prog 20 #[.pointer none] w fun e w' => e = .returned (.tuple #[.pointer none, .int .i64 1]) ∧ w = w' := by
  go_enter Try.func20, Try.ntmps20
  go_wp2
  go_ret2
  exact ⟨rfl, rfl⟩
theorem qLen_nil (w : World) : Calls Try.prog 59 #[.pointer none] w fun e w' => e = .returned (.tuple #[.int .i64 0, .int .i64 0]) ∧ w = w' := by
  go_enter Try.func59, Try.ntmps59
  go_wp2
  go_ret2
  exact ⟨rfl, rfl⟩
theorem qNow_nil (w : World) : Calls Try.prog 24 #[.pointer none] w fun e w' => e = .returned (.pointer none) ∧ w = w' := by
  go_enter Try.func24, Try.ntmps24
  go_wp2
  go_ret
  exact ⟨rfl, rfl⟩
theorem qSince_nil (n : Int) (w : World) : Calls Try.prog 58 #[.pointer none, .int .i64 n] w fun e w' => e = .returned (.tuple #[.slice none 0 0, .int .i64 1]) ∧ w = w' := by
  go_enter Try.func58, Try.ntmps58
  go_wp2_with (go_at_call 59; refine (qLen_nil _).mono ?_; rintro e w1 ⟨rfl, rfl⟩)
  go_ret2
  exact ⟨rfl, rfl⟩
theorem qJump_nil (n : Int) (w : World) : Calls Try.prog 61 #[.pointer none, .int .i64 n] w fun e w' => e = .returned (.int .i64 1) ∧ w = w' := by
  go_enter Try.func61, Try.ntmps61
  go_wp2_with (go_at_call 59; refine (qLen_nil _).mono ?_; rintro e w1 ⟨rfl, rfl⟩)
  go_ret
  exact ⟨rfl, rfl⟩
theorem qUndo_nil (w : World) : Calls Try.prog 23 #[.pointer none] w fun e w' => e = .returned (.bool false) ∧ w = w' := by
  go_enter Try.func23, Try.ntmps23
  go_wp2_with (go_at_call 61; refine (qJump_nil _ _).mono ?_; rintro e w1 ⟨rfl, rfl⟩)
  go_ret
  exact ⟨rfl, rfl⟩
theorem qRedo_nil (w : World) : Calls Try.prog 26 #[.pointer none] w fun e w' => e = .returned (.bool false) ∧ w = w' := by
  go_enter Try.func26, Try.ntmps26
  go_wp2_with (go_at_call 61; refine (qJump_nil _ _).mono ?_; rintro e w1 ⟨rfl, rfl⟩)
  go_ret
  exact ⟨rfl, rfl⟩
theorem qDo_nilP (t : Option Addr) (w : World) : Calls Try.prog 22 #[.pointer none, .pointer t] w fun e w' => e = .returned (.int .i64 1) ∧ w = w' := by
  go_enter Try.func22, Try.ntmps22
  go_wp2_with (go_at_call 91; refine (qcheck_nilP _ _).mono ?_; rintro e w1 ⟨rfl, rfl⟩)
  go_ret
  exact ⟨rfl, rfl⟩
theorem qAmend_nilP (t : Option Addr) (w : World) : Calls Try.prog 60 #[.pointer none, .pointer t] w fun e w' => e = .returned (.int .i64 1) ∧ w = w' := by
  go_enter Try.func60, Try.ntmps60
  go_wp2_with (go_at_call 91; refine (qcheck_nilP _ _).mono ?_; rintro e w1 ⟨rfl, rfl⟩)
  go_ret
  exact ⟨rfl, rfl⟩
theorem qDo_nilT (q : Option Addr) (w : World) : Calls Try.prog 22 #[.pointer q, .pointer none] w fun e w' => e = .returned (.int .i64 1) ∧ w = w' := by
  have C := qcheck_nilT (.bool false) q w
  go_enter Try.func22, Try.ntmps22
  go_wp2_with fail
  refine C.mono ?_
  rintro e w1 ⟨rfl, rfl⟩
  go_wp2
  go_ret
  exact ⟨rfl, rfl⟩
theorem qAmend_nilT (q : Option Addr) (w : World) : Calls Try.prog 60 #[.pointer q, .pointer none] w fun e w' => e = .returned (.int .i64 1) ∧ w = w' := by
  have C := qcheck_nilT (.bool false) q w
  go_enter Try.func60, Try.ntmps60
  go_wp2_with fail
  refine C.mono ?_
  rintro e w1 ⟨rfl, rfl⟩
  go_wp2
  go_ret
  exact ⟨rfl, rfl⟩
set_option maxRecDepth 100000 in
theorem qcheck_dim (q a k k' : Nat) (l : List Nat) (t : Nat) (r r0 : Option Nat) (w : World) (h : PastAt w q l a) (ha : a < l.length) (ht : TrAt w t k r) (h0 : TrAt w l[a] k' r0) (hne : k ≠ k') :
    Calls Try.prog 91 #[.pointer (some ⟨q, 0, none⟩), .pointer (some ⟨t, 0, none⟩)] w fun e w' => e = .returned (.int .i64 2) ∧ Below w.heap.size w w' := by
  have e1 : ((k : Int) != (k' : Int)) = true := by simp; omega
  have e2 : (k != k') = true := by simpa using hne
  clear hne
  go_enter Try.func91, Try.ntmps91
  go_wp2_with fail
  go_at_call 96
  refine (tK_any t k r _ ht).mono ?_
  rintro e w1 ⟨rfl, rfl⟩
  go_wp2_with fail
  go_at_call 24
  refine (qNow_any q a l _ h ha).mono ?_
  rintro e w2 ⟨rfl, hb⟩
  go_wp2_with fail
  go_at_call 96
  refine (tK_any l[a] k' r0 _ (h0.bel hb)).mono ?_
  rintro e w3 ⟨rfl, rfl⟩
  go_wp2
  go_ret
  exact ⟨rfl, hb⟩
theorem qDo_dim (q a k k' : Nat) (l : List Nat) (t : Nat) (r r0 : Option Nat) (w : World) (h : PastAt w q l a) (ha : a < l.length) (ht : TrAt w t k r) (h0 : TrAt w l[a] k' r0) (hne : k ≠ k') :
    Calls Try.prog 22 #[.pointer (some ⟨q, 0, none⟩), .pointer (some ⟨t, 0, none⟩)] w fun e w' => e = .returned (.int .i64 2) ∧ Below w.heap.size w w' := by
  have C := qcheck_dim q a k k' l t r r0 w h ha ht h0 hne
  clear hne h ht h0
  go_enter Try.func22, Try.ntmps22
  go_wp2_with (go_at_call 91; refine C.mono ?_; rintro e w1 ⟨rfl, hb⟩)
  go_ret
  exact ⟨rfl, hb⟩
theorem qAmend_dim (q a k k' : Nat) (l : List Nat) (t : Nat) (r r0 : Option Nat) (w : World) (h : PastAt w q l a) (ha : a < l.length) (ht : TrAt w t k r) (h0 : TrAt w l[a] k' r0) (hne : k ≠ k') :
    Calls Try.prog 60 #[.pointer (some ⟨q, 0, none⟩), .pointer (some ⟨t, 0, none⟩)] w fun e w' => e = .returned (.int .i64 2) ∧ Below w.heap.size w w' := by
  have C := qcheck_dim q a k k' l t r r0 w h ha ht h0 hne
  clear hne h ht h0
  go_enter Try.func60, Try.ntmps60
  go_wp2_with (go_at_call 91; refine C.mono ?_; rintro e w1 ⟨rfl, hb⟩)
  go_ret
  exact ⟨rfl, hb⟩

set_option maxRecDepth 100000 in
theorem pastNil_out (k n : Int) (w : World) (h : k < 2 ∨ 16 < k) : Calls Try.prog 10 #[.int .i64 k, .int .i64 n] w fun e w' => e = .returned (.bool true) ∧ Below w.heap.size w w' := by
  rcases h with h | h
  · have t1 : decide (k < 2) = true := decide_eq_true h
    go_enter Try.func10, Try.ntmps10
    go_wp2_with fail
    refine (awake22 w).mono ?_
    rintro e w1 ⟨rfl, hb⟩
    go_wp2
    go_ret
    exact ⟨rfl, hb⟩
  · have t1 : decide (k < 2) = false := decide_eq_false (by omega)
    have t2 : decide (16 < k) = true := decide_eq_true h
    go_enter Try.func10, Try.ntmps10
    go_wp2_with fail
    refine (awake22 w).mono ?_
    rintro e w1 ⟨rfl, hb⟩
    go_wp2
    go_ret
    exact ⟨rfl, hb⟩

set_option maxRecDepth 100000 in
set_option maxHeartbeats 1600000 in
theorem pastNil_in (k : Nat) (n : Int) (w : World) (h2 : 2 ≤ k) (h16 : k ≤ 16) : Calls Try.prog 10 #[.int .i64 k, .int .i64 n] w fun e w' => e = .returned (.bool true) ∧ Below w.heap.size w w' := by
  have t1 : decide ((k : Int) < 2) = false := decide_eq_false (by omega)
  have t2 : decide (16 < (k : Int)) = false := decide_eq_false (by omega)
  have t3 : decide (k < 2) = false := decide_eq_false (by omega)
  have t4 : decide (16 < k) = false := decide_eq_false (by omega)
  have hk1 : 1 ≤ k := by omega
  have C3 := fun W => tNew_any k W hk1 h16
  go_enter Try.func10, Try.ntmps10
  go_wp2_with fail
  refine (awake22 w).mono ?_
  rintro e w1 ⟨rfl, hb1⟩
  go_wp2_with fail
  refine (tNew_any 1 w1 (by omega) (by omega)).mono ?_
  rintro e w2 ⟨o, rfl, hO, ho, hb2⟩
  have HO := Lib.hid hO
  clear hO ho
  have D3 := C3 w2
  clear C3
  go_wp2_with fail
  refine D3.mono ?_
  rintro e w3 ⟨t, rfl, hT, ht, hb3⟩
  have HT := Lib.hid hT
  have HO3 := Lib.hid (HO.out.bel hb3)
  have hB3 : Below w.heap.size w w3 := (hb1.trans (hb2.mono hb1.size)).trans (hb3.mono (Nat.le_trans hb1.size hb2.size))
  have HB3 := Lib.hid hB3
  clear hT ht D3 hb1 hb2 hb3 hB3 HO
  go_wp2_with (first
    | (go_at_call 20; with_reducible refine (qNew_nil _).mono ?_; rintro e w4 ⟨rfl, rfl⟩)
    | (go_at_call 58; refine (qSince_nil _ _).mono ?_; rintro e w4 ⟨rfl, rfl⟩)
    | (go_at_call 59; refine (qLen_nil _).mono ?_; rintro e w4 ⟨rfl, rfl⟩)
    | (go_at_call 24; with_reducible refine (qNow_nil _).mono ?_; rintro e w4 ⟨rfl, rfl⟩)
    | (go_at_call 22; with_reducible refine (qDo_nilP _ _).mono ?_; rintro e w4 ⟨rfl, rfl⟩)
    | (go_at_call 60; with_reducible refine (qAmend_nilP _ _).mono ?_; rintro e w4 ⟨rfl, rfl⟩)
    | (go_at_call 23; with_reducible refine (qUndo_nil _).mono ?_; rintro e w4 ⟨rfl, rfl⟩)
    | (go_at_call 26; with_reducible refine (qRedo_nil _).mono ?_; rintro e w4 ⟨rfl, rfl⟩)
    | (go_at_call 61; with_reducible refine (qJump_nil _ _).mono ?_; rintro e w4 ⟨rfl, rfl⟩))
  have C1 := qNew_any t w3
  go_wp2_with fail
  refine C1.mono ?_
  rintro e w4 ⟨q, rfl, hP, hq, hb4⟩
  have HP := Lib.hid hP
  have HO4 := Lib.hid (HO3.out.bel hb4)
  have HT4 := Lib.hid (HT.out.bel hb4)
  have HB4 := Lib.hid (HB3.out.trans (hb4.mono HB3.out.size))
  obtain ⟨ro, too⟩ := HO4.out.at_
  obtain ⟨rt, tt⟩ := HT4.out.at_
  have D1 := qDo_nilT (some ⟨q, 0, none⟩) w4
  have D2 := qDo_dim q 0 1 k [t] o ro rt w4 hP (by simp) too tt (by omega)
  clear C1 hP hq hb4 too tt HO3 HT HB3
  go_wp2_with fail
  refine D1.mono ?_
  rintro e w5 ⟨rfl, rfl⟩
  go_wp2_with fail
  refine D2.mono ?_
  rintro e w5 ⟨rfl, hb5⟩
  have D1 := qAmend_nilT (some ⟨q, 0, none⟩) w5
  have HO5 := Lib.hid (HO4.out.bel hb5)
  have HT5 := Lib.hid (HT4.out.bel hb5)
  have HP5 := Lib.hid (HP.out.bel hb5)
  have HB5 := Lib.hid (HB4.out.trans (hb5.mono HB4.out.size))
  obtain ⟨ro, too⟩ := HO5.out.at_
  obtain ⟨rt, tt⟩ := HT5.out.at_
  have D2 := qAmend_dim q 0 1 k [t] o ro rt w5 HP5.out (by simp) too tt (by omega)
  clear hb5 too tt HO4 HT4 HP HB4
  go_wp2_with fail
  refine D1.mono ?_
  rintro e w6 ⟨rfl, rfl⟩
  go_wp2_with fail
  refine D2.mono ?_
  rintro e w6 ⟨rfl, hb6⟩
  have hP6 := HP5.out.bel hb6
  have D3 := qNow_any q 0 [t] w6 hP6 (by simp)
  have HP6 := Lib.hid hP6
  have HB6 := Lib.hid (HB5.out.trans (hb6.mono HB5.out.size))
  clear D1 D2 hb6 hP6
  go_wp2_with fail
  refine D3.mono ?_
  rintro e w7 ⟨rfl, hb7⟩
  have heq := eql_same w7 t
  have D4 := qUndo_no q [t] w7 (HP6.out.bel hb7)
  have HB7 := Lib.hid (HB6.out.trans (hb7.mono HB6.out.size))
  clear D3 hb7
  go_wp2_with fail
  refine D4.mono ?_
  rintro e w8 ⟨rfl, hb8⟩
  have HB8 := Lib.hid (HB7.out.trans (hb8.mono HB7.out.size))
  clear D4 hb8
  go_wp2
  go_ret
  exact ⟨rfl, HB8.out⟩
theorem pastNil_any (k n : Int) (w : World) : Calls Try.prog 10 #[.int .i64 k, .int .i64 n] w fun e w' => e = .returned (.bool true) ∧ Below w.heap.size w w' := by
  by_cases h : k < 2 ∨ 16 < k
  · exact pastNil_out k n w h
  · obtain ⟨m, rfl⟩ := Int.eq_ofNat_of_zero_le (show 0 ≤ k by omega)
    exact pastNil_in m n w (by omega) (by omega)
end Go.Proofs.Ytdjemmopecchmaa
