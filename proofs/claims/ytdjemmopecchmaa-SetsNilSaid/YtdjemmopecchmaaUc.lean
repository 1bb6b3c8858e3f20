/- Package sets: the chapter's example, and what isn't there; the statement SetsNil. -/
import Derived.Test.YtdjemmopecchmaaUb
namespace Go.Proofs.Ytdjemmopecchmaa
open Go.RowKit Go.Proofs.YtdjemmopecchmaaW.PrintWords Key
set_option linter.unusedVariables false
set_option linter.unusedSimpArgs false

theorem ucheck_nilA (b : Option Addr) (ru : Int) (w : World) : Calls Try.prog 128 #[.pointer none, .pointer b, .int .i64 ru] w fun e w' => e = .returned (.int .i64 1) ∧ w = w' := by
  go_enter Try.func128, Try.ntmps128
  go_wp2
  go_ret
  exact ⟨rfl, rfl⟩
theorem ucheck_nilB (a : Option Addr) (ru : Int) (w : World) : Calls Try.prog 128 #[.pointer a, .pointer none, .int .i64 ru] w fun e w' => e = .returned (.int .i64 1) ∧ w = w' := by
  cases a with
  | none =>
    go_enter Try.func128, Try.ntmps128
    go_wp2
    go_ret
    exact ⟨rfl, rfl⟩
  | some a =>
    go_enter Try.func128, Try.ntmps128
    go_wp2
    go_ret
    exact ⟨rfl, rfl⟩
theorem utrees_nil (ru : Int) (l r o : Bool) (a b : Option Addr) (hab : a = none ∨ b = none) (w : World) :
    Calls Try.prog 127 #[.agg #[.int .i64 ru, .bool l, .bool r, .bool o], .pointer a, .pointer b] w fun e w' => e = .returned (.tuple #[.pointer none, .int .i64 1]) ∧ Below w.heap.size w w' := by
  have C : ∀ W, Calls Try.prog 128 #[.pointer a, .pointer b, .int .i64 ru] W fun e w' => e = .returned (.int .i64 1) ∧ W = w' := fun W => by
    rcases hab with rfl | rfl
    · exact ucheck_nilA b ru W
    · exact ucheck_nilB a ru W
  have hB : ∀ o, Below w.heap.size w (w.alloc o) := fun o => (Below.refl _ _).alloc (Nat.le_refl _) o
  clear hab
  go_enter Try.func127, Try.ntmps127
  go_wp2_with fail
  refine (C _).mono ?_
  rintro e w3 ⟨rfl, rfl⟩
  go_wp2
  go_ret2
  exact ⟨rfl, hB _⟩
theorem uUnion_nil (ru : Int) (a b : Option Addr) (hab : a = none ∨ b = none) (w : World) :
    Calls Try.prog 67 #[.pointer a, .pointer b, .int .i64 ru] w fun e w' => e = .returned (.tuple #[.pointer none, .int .i64 1]) ∧ Below w.heap.size w w' := by
  have C := utrees_nil ru true true true a b hab w
  clear hab
  go_enter Try.func67, Try.ntmps67
  go_wp2_with fail
  refine C.mono ?_
  rintro e w3 ⟨rfl, hb⟩
  go_wp2
  go_ret2
  exact ⟨rfl, hb⟩
theorem uCommon_nil (ru : Int) (a b : Option Addr) (hab : a = none ∨ b = none) (w : World) :
    Calls Try.prog 68 #[.pointer a, .pointer b, .int .i64 ru] w fun e w' => e = .returned (.tuple #[.pointer none, .int .i64 1]) ∧ Below w.heap.size w w' := by
  have C := utrees_nil ru false false true a b hab w
  clear hab
  go_enter Try.func68, Try.ntmps68
  go_wp2_with fail
  refine C.mono ?_
  rintro e w3 ⟨rfl, hb⟩
  go_wp2
  go_ret2
  exact ⟨rfl, hb⟩
theorem uWithout_nil (a b : Option Addr) (hab : a = none ∨ b = none) (w : World) :
    Calls Try.prog 69 #[.pointer a, .pointer b] w fun e w' => e = .returned (.tuple #[.pointer none, .int .i64 1]) ∧ Below w.heap.size w w' := by
  have C := utrees_nil 1 true false false a b hab w
  clear hab
  go_enter Try.func69, Try.ntmps69
  go_wp2_with fail
  refine C.mono ?_
  rintro e w3 ⟨rfl, hb⟩
  go_wp2
  go_ret2
  exact ⟨rfl, hb⟩
theorem uSubset_nil (b : Option Addr) (w : World) :
    Calls Try.prog 70 #[.pointer none, .pointer b] w fun e w' => e = .returned (.tuple #[.bool false, .int .i64 1]) ∧ Below w.heap.size w w' := by
  have C := ucheck_nilA b 1 w
  go_enter Try.func70, Try.ntmps70
  go_wp2_with fail
  refine C.mono ?_
  rintro e w3 ⟨rfl, rfl⟩
  go_wp2
  go_ret2
  exact ⟨rfl, Below.refl _ _⟩
theorem uTouch_nil (a b : Option Addr) (hab : a = none ∨ b = none) (w : World) :
    Calls Try.prog 71 #[.pointer a, .pointer b] w fun e w' => e = .returned (.tuple #[.bool false, .int .i64 1]) ∧ Below w.heap.size w w' := by
  have C := uCommon_nil 1 a b hab w
  clear hab
  go_enter Try.func71, Try.ntmps71
  go_wp2_with fail
  refine C.mono ?_
  rintro e w3 ⟨rfl, hb⟩
  go_wp2_with fail
  refine (tLen_nil w3).mono ?_
  rintro e w4 ⟨rfl, hb4⟩
  go_wp2
  go_ret2
  exact ⟨rfl, hb.trans (hb4.mono hb.size)⟩

/-- Put of the first point of two coordinates. -/
theorem tPut2 (t : Nat) (x y : Int) (g cap : Nat) (w : World) (hT : TrOf w t 2 [] []) (hp : Ok [x, y]) (hr : RdU w (some ⟨g, 0, none⟩) [x, y]) (v : Int) (hv : U v) :
    Calls Try.prog 21 #[.pointer (some ⟨t, 0, none⟩), .slice (some ⟨g, 0, none⟩) 2 cap, .int .u64 v] w fun e w' => ∃ (t' : Nat) (N' : List Nat), e = .returned (.tuple #[.pointer (some ⟨t', 0, none⟩), .int .i64 0]) ∧ TrOf w' t' 2 [([x, y], v)] N' ∧ Below w.heap.size w w' := by
  refine (tPut_any t 2 (some ⟨g, 0, none⟩) [x, y] cap v [] [] w hT hr rfl hp hv).mono ?_
  rintro e w' ⟨t', L', N', rfl, h1, h2, h3, h4, h5⟩
  have := chg_first h2 h1.sorted
  subst this
  exact ⟨t', N', rfl, h1, h5⟩
theorem uUnion_one (a b : Nat) (p : List Int) (Na Nb : List Nat) (w : World) (hTa : TrOf w a 2 [(p, 3)] Na) (hTb : TrOf w b 2 [(p, 5)] Nb) :
    Calls Try.prog 67 #[.pointer (some ⟨a, 0, none⟩), .pointer (some ⟨b, 0, none⟩), .int .i64 5] w fun e w' => ∃ t n, e = .returned (.tuple #[.pointer (some ⟨t, 0, none⟩), .int .i64 0]) ∧ TrOf w' t 2 [(p, 8)] [n] ∧ Below w.heap.size w w' := by
  obtain ⟨ba, t1, h1, l1, o1, _⟩ := hTa.one
  obtain ⟨bb, t2, h2, l2, _, _⟩ := hTb.one
  have C := utrees_any 5 3 5 8 true true a b ba bb 2 p w t1 t2 h1 h2 l1 (by omega) (by omega) o1 (by unfold U M64; omega) uvalue5 rfl (by omega) (by omega)
  clear hTa hTb t1 h1 l1 o1 t2 h2 l2
  go_enter Try.func67, Try.ntmps67
  go_wp2_with fail
  refine C.mono ?_
  rintro e w3 ⟨t, n, rfl, hT, hb⟩
  go_wp2
  go_ret2
  exact ⟨t, n, rfl, hT, hb⟩
theorem uCommon_one (a b : Nat) (p : List Int) (Na Nb : List Nat) (w : World) (hTa : TrOf w a 2 [(p, 3)] Na) (hTb : TrOf w b 2 [(p, 5)] Nb) :
    Calls Try.prog 68 #[.pointer (some ⟨a, 0, none⟩), .pointer (some ⟨b, 0, none⟩), .int .i64 6] w fun e w' => ∃ t n, e = .returned (.tuple #[.pointer (some ⟨t, 0, none⟩), .int .i64 0]) ∧ TrOf w' t 2 [(p, 2)] [n] ∧ Below w.heap.size w w' := by
  obtain ⟨ba, t1, h1, l1, o1, _⟩ := hTa.one
  obtain ⟨bb, t2, h2, l2, _, _⟩ := hTb.one
  have C := utrees_any 6 3 5 2 false false a b ba bb 2 p w t1 t2 h1 h2 l1 (by omega) (by omega) o1 (by unfold U M64; omega) uvalue6 rfl (by omega) (by omega)
  clear hTa hTb t1 h1 l1 o1 t2 h2 l2
  go_enter Try.func68, Try.ntmps68
  go_wp2_with fail
  refine C.mono ?_
  rintro e w3 ⟨t, n, rfl, hT, hb⟩
  go_wp2
  go_ret2
  exact ⟨t, n, rfl, hT, hb⟩

set_option maxRecDepth 100000 in
set_option maxHeartbeats 3200000 in
theorem awake15 (w : World) : Calls Try.prog 66 #[] w fun e w' => e = .returned (.bool true) ∧ Below w.heap.size w w' := by
  have u3 : U 3 := by unfold U M64; omega
  have u5 : U 5 := by unfold U M64; omega
  have hp : Ok [4, 0] := fun c hc => by simp at hc; rcases hc with rfl | rfl <;> omega
  have hA : ∀ (W : World) (o : Obj), Below W.heap.size W (W.alloc o) := fun W o => (Below.refl _ _).alloc (Nat.le_refl _) o
  go_enter Try.func66, Try.ntmps66
  go_wp2_with fail
  refine (tNew_any 2 w (by omega) (by omega)).mono ?_
  rintro e w1 ⟨t, rfl, hT, ht, hb1⟩
  have HT := Lib.hid hT
  have H1 := Lib.hid hb1
  clear hT hb1 ht
  have C1 := tPut2 t 4 0 w1.heap.size 2 (w1.alloc (.cells #[.int .u64 4, .int .u64 0] 31)) (HT.out.bel (hA _ _)) hp (RdU.two (heap_alloc_new w1 _)) 3 u3
  go_wp2_with fail
  refine C1.mono ?_
  rintro e w2 ⟨a, Na, rfl, hA2, hb2⟩
  have hB2 : Below w1.heap.size w1 w2 := (hA _ _).trans (hb2.mono (by simp))
  have HT2 := Lib.hid (HT.out.bel hB2)
  have HA := Lib.hid hA2
  have H2 := Lib.hid (H1.out.trans (hB2.mono H1.out.size))
  clear C1 hA2 hb2 hB2 HT H1
  have C2 := tPut2 t 4 0 w2.heap.size 2 (w2.alloc (.cells #[.int .u64 4, .int .u64 0] 31)) (HT2.out.bel (hA _ _)) hp (RdU.two (heap_alloc_new w2 _)) 5 u5
  go_wp2_with fail
  refine C2.mono ?_
  rintro e w3 ⟨b, Nb, rfl, hB3, hb3⟩
  have hb3' : Below w2.heap.size w2 w3 := (hA _ _).trans (hb3.mono (by simp))
  have HA3 := Lib.hid (HA.out.bel hb3')
  have HB3 := Lib.hid hB3
  have H3 := Lib.hid (H2.out.trans (hb3'.mono H2.out.size))
  clear C2 hB3 hb3 hb3' HT2 HA H2
  have C3 := uUnion_one a b [4, 0] Na Nb w3 HA3.out HB3.out
  go_wp2_with fail
  refine C3.mono ?_
  rintro e w4 ⟨x, nx, rfl, hX, hb4⟩
  have HX := Lib.hid hX
  have HA4 := Lib.hid (HA3.out.bel hb4)
  have HB4 := Lib.hid (HB3.out.bel hb4)
  have H4 := Lib.hid (H3.out.trans (hb4.mono H3.out.size))
  clear C3 hX hb4 HA3 HB3 H3
  have C4 := uCommon_one a b [4, 0] Na Nb w4 HA4.out HB4.out
  go_wp2_with fail
  refine C4.mono ?_
  rintro e w5 ⟨y, ny, rfl, hY, hb5⟩
  have HX5 := Lib.hid (HX.out.bel hb5)
  have HY5 := Lib.hid hY
  have H5 := Lib.hid (H4.out.trans (hb5.mono H4.out.size))
  clear C4 hY hb5 HA4 HB4 HX H4
  have C5 := tGet_yes x 2 (some ⟨w5.heap.size, 0, none⟩) [4, 0] 2 8 _ _ (w5.alloc (.cells #[.int .u64 4, .int .u64 0] 31)) (HX5.out.bel (hA _ _)) (RdU.two (heap_alloc_new w5 _)) rfl hp (List.mem_singleton.2 rfl)
  go_wp2_with fail
  refine C5.mono ?_
  rintro e w6 ⟨rfl, hb6⟩
  have hb6' : Below w5.heap.size w5 w6 := (hA _ _).trans (hb6.mono (by simp))
  have HY6 := Lib.hid (HY5.out.bel hb6')
  have H6 := Lib.hid (H5.out.trans (hb6'.mono H5.out.size))
  clear C5 hb6 hb6' HX5 HY5 H5
  have C6 := tGet_yes y 2 (some ⟨w6.heap.size, 0, none⟩) [4, 0] 2 2 _ _ (w6.alloc (.cells #[.int .u64 4, .int .u64 0] 31)) (HY6.out.bel (hA _ _)) (RdU.two (heap_alloc_new w6 _)) rfl hp (List.mem_singleton.2 rfl)
  go_wp2_with fail
  refine C6.mono ?_
  rintro e w7 ⟨rfl, hb7⟩
  have hb7' : Below w6.heap.size w6 w7 := (hA _ _).trans (hb7.mono (by simp))
  have H7 := Lib.hid (H6.out.trans (hb7'.mono H6.out.size))
  clear C6 hb7 hb7' HY6 H6
  go_wp2
  go_ret
  exact ⟨rfl, H7.out⟩

end Go.Proofs.Ytdjemmopecchmaa
