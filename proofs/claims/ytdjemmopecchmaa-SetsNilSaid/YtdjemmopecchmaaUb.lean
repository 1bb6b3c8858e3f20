/- Package sets: two trees of one entry each. -/
import Derived.Test.YtdjemmopecchmaaUa
namespace Go.Proofs.Ytdjemmopecchmaa
open Go.RowKit Go.Proofs.YtdjemmopecchmaaW.PrintWords Key
set_option linter.unusedVariables false
set_option linter.unusedSimpArgs false

theorem tOf_some (k b : Nat) (h : Head) (w : World) (hh : HdAt w b h) (hl : h.pre.length = k) (h1 : 1 ≤ k) (h16 : k ≤ 16) :
    Calls Try.prog 84 #[.int .i64 k, .pointer (some ⟨b, 0, none⟩)] w fun e w' => ∃ t, e = .returned (.tuple #[.pointer (some ⟨t, 0, none⟩), .int .i64 0]) ∧ TrAt w' t k (some b) ∧ Below w.heap.size w w' := by
  have t1 : decide ((k : Int) < 1) = false := decide_eq_false (by omega)
  have t2 : decide (16 < (k : Int)) = false := decide_eq_false (by omega)
  have t3 : decide (16 < k) = false := decide_eq_false (by omega)
  have t4 : decide (k < 1) = false := decide_eq_false (by omega)
  have C := nK_any b h w hh
  rw [hl] at C
  have t5 : ((k : Int) != (k : Int)) = false := by simp
  go_enter Try.func84, Try.ntmps84
  go_wp2_with fail
  refine C.mono ?_
  rintro e w1 ⟨rfl, rfl⟩
  go_wp2
  go_ret2
  exact ⟨_, rfl, ⟨by first | exact heap_alloc_new _ _ | simp [ptr], h1, h16⟩, (Below.refl _ _).alloc (Nat.le_refl _) _⟩
theorem ucheck_ok (k a b : Nat) (ra rb : Option Nat) (ru : Int) (w : World) (ha : TrAt w a k ra) (hb : TrAt w b k rb) (h1 : 1 ≤ ru) (h6 : ru ≤ 6) :
    Calls Try.prog 128 #[.pointer (some ⟨a, 0, none⟩), .pointer (some ⟨b, 0, none⟩), .int .i64 ru] w fun e w' => e = .returned (.int .i64 0) ∧ w = w' := by
  have t1 : decide (ru < 1) = false := decide_eq_false (by omega)
  have t2 : decide (6 < ru) = false := decide_eq_false (by omega)
  go_enter Try.func128, Try.ntmps128
  go_wp2_with fail
  refine (tK_any a k ra _ ha).mono ?_
  rintro e w1 ⟨rfl, rfl⟩
  go_wp2_with fail
  refine (tK_any b k rb _ hb).mono ?_
  rintro e w1 ⟨rfl, rfl⟩
  go_wp2
  go_ret
  exact ⟨rfl, rfl⟩

set_option maxRecDepth 100000 in
set_option maxHeartbeats 3200000 in
theorem utrees_any (ru va vb v : Int) (l r : Bool) (a b ba bb k : Nat) (p : List Int) (w : World) (hTa : TrAt w a k (some ba)) (hTb : TrAt w b k (some bb)) (ha : HdAt w ba ⟨-1, p, va, none, 1, va, va, va⟩) (hb : HdAt w bb ⟨-1, p, vb, none, 1, vb, vb, vb⟩) (hl : p.length = k) (h1 : 1 ≤ k) (h16 : k ≤ 16) (hp : Ok p) (hv : U v)
    (hV : ∀ W, Calls Try.prog 245 #[.int .i64 ru, .int .u64 va, .int .u64 vb] W fun e w' => e = .returned (.int .u64 v) ∧ W = w') (hne : (v == va) = false) (hr1 : 1 ≤ ru) (hr6 : ru ≤ 6) :
    Calls Try.prog 127 #[.agg #[.int .i64 ru, .bool l, .bool r, .bool true], .pointer (some ⟨a, 0, none⟩), .pointer (some ⟨b, 0, none⟩)] w fun e w' => ∃ t n, e = .returned (.tuple #[.pointer (some ⟨t, 0, none⟩), .int .i64 0]) ∧ TrOf w' t k [(p, v)] [n] ∧ Below w.heap.size w w' := by
  obtain ⟨o1, ho1⟩ : ∃ o1, Obj.cells #[.int .i64 ru, .bool l, .bool r, .bool true] 189 (0, 0) = o1 := ⟨_, rfl⟩
  obtain ⟨W2, hW2⟩ : ∃ W2, w.alloc o1 = W2 := ⟨_, rfl⟩
  have hB0 : Below w.heap.size w W2 := by rw [← hW2]; exact (Below.refl _ _).alloc (Nat.le_refl _) o1
  have hs2 : W2.heap.size = w.heap.size + 1 := by rw [← hW2]; simp
  have e1 : W2.heap[w.heap.size]? = some o1 := by rw [← hW2]; exact heap_alloc_new w _
  subst ho1 hW2
  have C0 := ucheck_ok k a b (some ba) (some bb) ru _ (hTa.bel hB0) (hTb.bel hB0) hr1 hr6
  have K1 : ∀ W, Below w.heap.size w W → Calls Try.prog 96 #[.pointer (some ⟨a, 0, none⟩)] W fun e w' => e = .returned (.int .i64 k) ∧ W = w' := fun W h => tK_any a k _ W (hTa.bel h)
  have R1 : ∀ W, Below w.heap.size w W → Calls Try.prog 39 #[.pointer (some ⟨a, 0, none⟩)] W fun e w' => e = .returned (.pointer (some ⟨ba, 0, none⟩)) ∧ W = w' := fun W h => tRoot_any a k _ W (hTa.bel h)
  have R2 : ∀ W, Below w.heap.size w W → Calls Try.prog 39 #[.pointer (some ⟨b, 0, none⟩)] W fun e w' => e = .returned (.pointer (some ⟨bb, 0, none⟩)) ∧ W = w' := fun W h => tRoot_any b k _ W (hTb.bel h)
  have J1 : ∀ W, Below w.heap.size w W → Calls Try.prog 191 #[.agg #[.int .i64 ru, .bool l, .bool r, .bool true], .pointer (some ⟨ba, 0, none⟩), .pointer (some ⟨bb, 0, none⟩)] W fun e w' => ∃ n, e = .returned (.pointer (some ⟨n, 0, none⟩)) ∧ NodeOf w' k n ⟨0, key p, [(p, v)], [n]⟩ ∧ Below W.heap.size W w' :=
    fun W h => ujoin_any ru va vb v l r ba bb k p W (ha.below h) (hb.below h) hl h1 h16 hp hv hV hne
  have O1 : ∀ (n : Nat) (W2 W : World), Below W2.heap.size W2 W → NodeOf W2 k n ⟨0, key p, [(p, v)], [n]⟩ → Calls Try.prog 84 #[.int .i64 k, .pointer (some ⟨n, 0, none⟩)] W fun e w' => ∃ t, e = .returned (.tuple #[.pointer (some ⟨t, 0, none⟩), .int .i64 0]) ∧ TrAt w' t k (some n) ∧ Below W.heap.size W w' :=
    fun n W2 W h hN => tOf_some k n _ W ((hN.bel h).one rfl).1 hl h1 h16
  have c0 : (w.alloc (Obj.cells #[.int .i64 ru, .bool l, .bool r, .bool true] 189 (0, 0))).cell? ⟨w.heap.size, 0, none⟩ = some (.int .i64 ru) := cell_of_block e1 0
  have c1 : (w.alloc (Obj.cells #[.int .i64 ru, .bool l, .bool r, .bool true] 189 (0, 0))).cell? ⟨w.heap.size, 1, none⟩ = some (.bool l) := cell_of_block e1 1
  have c2 : (w.alloc (Obj.cells #[.int .i64 ru, .bool l, .bool r, .bool true] 189 (0, 0))).cell? ⟨w.heap.size, 2, none⟩ = some (.bool r) := cell_of_block e1 2
  have c3 : (w.alloc (Obj.cells #[.int .i64 ru, .bool l, .bool r, .bool true] 189 (0, 0))).cell? ⟨w.heap.size, 3, none⟩ = some (.bool true) := cell_of_block e1 3
  clear ha hb hTa hTb e1 hs2 hV
  go_enter Try.func127, Try.ntmps127
  go_wp2_with fail
  refine C0.mono ?_
  rintro e w3 ⟨rfl, rfl⟩
  clear C0
  go_wp2_with fail
  go_region_held3 (fun w' => w'.cell? ⟨w.heap.size, 0, none⟩ = some (.int .i64 ru) ∧ w'.cell? ⟨w.heap.size, 1, none⟩ = some (.bool l) ∧ w'.cell? ⟨w.heap.size, 2, none⟩ = some (.bool r) ∧ w'.cell? ⟨w.heap.size, 3, none⟩ = some (.bool true)) (first | go_keep | exact ⟨n0, n1, n2, n3⟩ | exact ⟨m0, m1, m2, m3⟩)
    (first
      | (go_at_call 96; refine (K1 _ (by (repeat (first | exact hB0 | apply below_drewN | apply Below.drew)))).mono ?_; rintro e w4 ⟨rfl, rfl⟩)
      | (go_at_call 39; refine (R1 _ (by (repeat (first | exact hB0 | apply below_drewN | apply Below.drew)))).mono ?_; rintro e w5 ⟨rfl, rfl⟩)
      | (go_at_call 39; refine (R2 _ (by (repeat (first | exact hB0 | apply below_drewN | apply Below.drew)))).mono ?_; rintro e w6 ⟨rfl, rfl⟩)
      | (go_at_call 191; refine (J1 _ (by (repeat (first | exact hB0 | apply below_drewN | apply Below.drew)))).mono ?_; rintro e w7 ⟨n, rfl, hN, hb7⟩; have n0 := pw_cell_below hb7 c0; have n1 := pw_cell_below hb7 c1; have n2 := pw_cell_below hb7 c2; have n3 := pw_cell_below hb7 c3)
      | (go_at_call 84; refine (O1 n w7 _ (by (repeat (first | exact Below.refl _ _ | apply below_drewN | apply Below.drew))) hN).mono ?_; rintro e w8 ⟨t, rfl, hT, hb8⟩; have m0 := pw_cell_below hb8 n0; have m1 := pw_cell_below hb8 n1; have m2 := pw_cell_below hb8 n2; have m3 := pw_cell_below hb8 n3))
  all_goals
    go_wp2
    go_ret2
    have hb7' : Below w.heap.size w w7 := Below.trans (b := _) (by (repeat (first | exact hB0 | apply below_drewN | apply Below.drew))) (Below.mono hb7 (Nat.le_of_lt (by first | simp | omega)))
    have hb8' : Below w7.heap.size w7 w8 := Below.trans (b := _) (by (repeat (first | exact Below.refl _ _ | apply below_drewN | apply Below.drew))) hb8
    exact ⟨t, n, rfl, ⟨some n, hT, _, hN.bel hb8', rfl, rfl⟩, hb7'.trans (hb8'.mono hb7'.size)⟩
end Go.Proofs.Ytdjemmopecchmaa
