/- Trees in memory; the small walks over package tree. -/
import Derived.Test.YtdjemmopecchmaaNo
namespace Go.Proofs.Ytdjemmopecchmaa
open Go.RowKit Go.Proofs.YtdjemmopecchmaaW.PrintWords Key
set_option linter.unusedVariables false
set_option linter.unusedSimpArgs false

/-- a tree's cells -/
def TrAt (w : World) (t k : Nat) (r : Option Nat) : Prop := w.heap[t]? = some (.cells #[.int .i64 k, ptr r] 147 (0, 0)) ∧ 1 ≤ k ∧ k ≤ 16
theorem TrAt.bel {w w' : World} {t k : Nat} {r : Option Nat} (h : TrAt w t k r) (hb : Below w.heap.size w w') : TrAt w' t k r :=
  ⟨by rw [hb.block t (Array.getElem?_eq_some_iff.1 h.1).1]; exact h.1, h.2⟩
theorem TrAt.lt {w : World} {t k : Nat} {r : Option Nat} (h : TrAt w t k r) : t < w.heap.size := (Array.getElem?_eq_some_iff.1 h.1).1
theorem TrAt.cells {w : World} {t k : Nat} {r : Option Nat} (h : TrAt w t k r) : w.cell? ⟨t, 0, none⟩ = some (.int .i64 k) ∧ w.cell? ⟨t, 1, none⟩ = some (ptr r) := ⟨cell_of_block h.1 0, cell_of_block h.1 1⟩
/-- a root, or none: what it holds -/
def RootOf (w : World) (k : Nat) (r : Option Nat) (L : List Ent) (N : List Nat) : Prop :=
  match r with
  | none => L = [] ∧ N = []
  | some b => ∃ K, NodeOf w k b K ∧ K.L = L ∧ K.N = N
theorem RootOf.bel {w w' : World} {k : Nat} {r : Option Nat} {L : List Ent} {N : List Nat} (h : RootOf w k r L N) (hb : Below w.heap.size w w') : RootOf w' k r L N := by
  cases r with
  | none => exact h
  | some b => obtain ⟨K, h1, h2⟩ := h; exact ⟨K, h1.bel hb, h2⟩
/-- a tree: its entries, its nodes -/
def TrOf (w : World) (t k : Nat) (L : List Ent) (N : List Nat) : Prop := ∃ r, TrAt w t k r ∧ RootOf w k r L N
theorem TrOf.bel {w w' : World} {t k : Nat} {L : List Ent} {N : List Nat} (h : TrOf w t k L N) (hb : Below w.heap.size w w') : TrOf w' t k L N := by
  obtain ⟨r, h1, h2⟩ := h; exact ⟨r, h1.bel hb, h2.bel hb⟩
theorem TrOf.sorted {w : World} {t k : Nat} {L : List Ent} {N : List Nat} (h : TrOf w t k L N) : SortL L := by
  obtain ⟨r, _, h2⟩ := h
  cases r with
  | none => obtain ⟨rfl, _⟩ := h2; exact List.Pairwise.nil
  | some b => obtain ⟨K, h1, rfl, _⟩ := h2; exact h1.sorted
theorem TrOf.mem {w : World} {t k : Nat} {L : List Ent} {N : List Nat} (h : TrOf w t k L N) : ∀ e ∈ L, e.1.length = k ∧ Ok e.1 ∧ U e.2 := by
  obtain ⟨r, _, h2⟩ := h
  cases r with
  | none => obtain ⟨rfl, _⟩ := h2; simp
  | some b => obtain ⟨K, h1, rfl, _⟩ := h2; exact fun e he => ⟨(h1.mem e he).1, (h1.mem e he).2.1, (h1.mem e he).2.2.1⟩

theorem tK_any (t k : Nat) (r : Option Nat) (w : World) (h : TrAt w t k r) :
    Calls Try.prog 96 #[.pointer (some ⟨t, 0, none⟩)] w fun e w' => e = .returned (.int .i64 k) ∧ w = w' := by
  obtain ⟨c0, c1⟩ := h.cells
  go_enter Try.func96, Try.ntmps96
  go_wp2
  go_ret
  exact ⟨rfl, rfl⟩
theorem tK_nil (w : World) : Calls Try.prog 96 #[.pointer none] w fun e w' => e = .returned (.int .i64 0) ∧ w = w' := by
  go_enter Try.func96, Try.ntmps96
  go_wp2
  go_ret
  exact ⟨rfl, rfl⟩
theorem tRoot_any (t k : Nat) (r : Option Nat) (w : World) (h : TrAt w t k r) :
    Calls Try.prog 39 #[.pointer (some ⟨t, 0, none⟩)] w fun e w' => e = .returned (ptr r) ∧ w = w' := by
  obtain ⟨c0, c1⟩ := h.cells
  go_enter Try.func39, Try.ntmps39
  go_wp2
  go_ret
  exact ⟨rfl, rfl⟩
theorem tRoot_nil (w : World) : Calls Try.prog 39 #[.pointer none] w fun e w' => e = .returned (.pointer none) ∧ w = w' := by
  go_enter Try.func39, Try.ntmps39
  go_wp2
  go_ret
  exact ⟨rfl, rfl⟩
theorem tcheck_any (t k : Nat) (r : Option Nat) (A : Option Addr) (n cap : Nat) (w : World) (h : TrAt w t k r) :
    Calls Try.prog 85 #[.pointer (some ⟨t, 0, none⟩), .slice A n cap] w fun e w' => e = .returned (.int .i64 (if n = k then 0 else 2)) ∧ w = w' := by
  obtain ⟨c0, c1⟩ := h.cells
  by_cases hn : n = k
  · subst hn
    rw [if_pos rfl]
    go_enter Try.func85, Try.ntmps85
    go_wp2
    go_ret
    exact ⟨rfl, rfl⟩
  · rw [if_neg hn]
    have hn' : ¬ ((n : Int) = (k : Int)) := by omega
    go_enter Try.func85, Try.ntmps85
    go_wp2
    go_ret
    exact ⟨rfl, rfl⟩
theorem tcheck_nil (v : Value) (w : World) : Calls Try.prog 85 #[.pointer none, v] w fun e w' => e = .returned (.int .i64 1) ∧ w = w' := by
  go_enter Try.func85, Try.ntmps85
  go_wp2
  go_ret
  exact ⟨rfl, rfl⟩
theorem sums_bound {w : World} {k b : Nat} {K : K4} (h : NodeOf w k b K) (hL : K.L.length < 4294967296) : (sums K.L).c = K.L.length := sums_c (by simp only [M64]; omega)
theorem Try.fieldC (c sm mn mx : Int) : ∀ w, Sem.run Try.prog (Instr.field 131 (.agg #[.int .u64 c, .int .u64 sm, .int .u64 mn, .int .u64 mx]) 0) w = .ok (.int .u64 c) w := fun w => by kernel_rfl
set_option maxRecDepth 100000 in
theorem tLen_any (t k : Nat) (L : List Ent) (N : List Nat) (w : World) (h : TrOf w t k L N) (hL : L.length < 4294967296) :
    Calls Try.prog 25 #[.pointer (some ⟨t, 0, none⟩)] w fun e w' => e = .returned (.int .i64 L.length) ∧ Below w.heap.size w w' := by
  obtain ⟨r, h1, h2⟩ := h
  cases r with
  | none =>
    obtain ⟨rfl, rfl⟩ := h2
    have hF := Try.fieldC
    go_enter Try.func25, Try.ntmps25
    go_wp2_with (first
      | (go_at_call 39; refine (tRoot_any t k none _ h1).mono ?_; rintro e w1 ⟨rfl, rfl⟩)
      | (go_at_call 93; refine (nSums_nil _).mono ?_; rintro e w2 ⟨rfl, hb⟩))
    go_ret
    exact ⟨rfl, hb⟩
  | some b =>
    obtain ⟨K, hK, rfl, rfl⟩ := h2
    obtain ⟨g, hg, q1, q2, q3, q4, q5, _⟩ := hK.hd
    rw [sums_bound hK hL] at q5
    have HQ := Lib.hid q5
    have hw : IntKind.i64.wrap (K.L.length : Int) = (K.L.length : Int) := by simp [IntKind.wrap, IntKind.bits, IntKind.signed]; omega
    clear q1 q2 q3 q4 q5
    have hF := Try.fieldC
    go_enter Try.func25, Try.ntmps25
    go_wp2_with (first
      | (go_at_call 39; refine (tRoot_any t k (some b) _ h1).mono ?_; rintro e w1 ⟨rfl, rfl⟩)
      | (go_at_call 93; refine (nSums_any b g _ hg).mono ?_; rintro e w2 ⟨rfl, hb⟩; rw [HQ.out]))
    go_ret
    exact ⟨rfl, hb⟩
set_option maxRecDepth 100000 in
theorem tLen_nil (w : World) : Calls Try.prog 25 #[.pointer none] w fun e w' => e = .returned (.int .i64 0) ∧ Below w.heap.size w w' := by
  have hF := Try.fieldC
  go_enter Try.func25, Try.ntmps25
  go_wp2_with (first
    | (go_at_call 39; refine (tRoot_nil _).mono ?_; rintro e w1 ⟨rfl, rfl⟩)
    | (go_at_call 93; refine (nSums_nil _).mono ?_; rintro e w2 ⟨rfl, hb⟩))
  go_ret
  exact ⟨rfl, hb⟩
theorem tNew_any (k : Nat) (w : World) (h1 : 1 ≤ k) (h16 : k ≤ 16) :
    Calls Try.prog 19 #[.int .i64 k] w fun e w' => ∃ t, e = .returned (.tuple #[.pointer (some ⟨t, 0, none⟩), .int .i64 0]) ∧ TrOf w' t k [] [] ∧ t = w.heap.size ∧ Below w.heap.size w w' := by
  have hOf : Calls Try.prog 84 #[.int .i64 k, .pointer none] w fun e w' => ∃ t, e = .returned (.tuple #[.pointer (some ⟨t, 0, none⟩), .int .i64 0]) ∧ TrOf w' t k [] [] ∧ t = w.heap.size ∧ Below w.heap.size w w' := by
    have h1' : ¬ ((k : Int) < 1) := by omega
    have h2' : ¬ ((16 : Int) < (k : Int)) := by omega
    go_enter Try.func84, Try.ntmps84
    go_wp2
    go_ret2
    exact ⟨_, rfl, ⟨none, ⟨heap_alloc_new _ _, h1, h16⟩, rfl, rfl⟩, rfl, (Below.refl _ _).alloc (Nat.le_refl _) _⟩
  go_enter Try.func19, Try.ntmps19
  go_wp2_with (go_at_call 84; refine hOf.mono ?_; rintro e w1 ⟨t, rfl, hT, rfl, hb⟩)
  go_ret2
  exact ⟨_, rfl, hT, rfl, hb⟩
theorem tNew_bad (k : Int) (w : World) (h1 : k < 1 ∨ 16 < k) :
    Calls Try.prog 19 #[.int .i64 k] w fun e w' => e = .returned (.tuple #[.pointer none, .int .i64 3]) ∧ w = w' := by
  have hOf : Calls Try.prog 84 #[.int .i64 k, .pointer none] w fun e w' => e = .returned (.tuple #[.pointer none, .int .i64 3]) ∧ w = w' := by
    rcases h1 with h1 | h1
    · go_enter Try.func84, Try.ntmps84
      go_wp2
      go_ret2
      exact ⟨rfl, rfl⟩
    · have h1' : ¬ (k < 1) := by omega
      go_enter Try.func84, Try.ntmps84
      go_wp2
      go_ret2
      exact ⟨rfl, rfl⟩
  go_enter Try.func19, Try.ntmps19
  go_wp2_with (go_at_call 84; refine hOf.mono ?_; rintro e w1 ⟨rfl, rfl⟩)
  go_ret2
  exact ⟨rfl, rfl⟩
end Go.Proofs.Ytdjemmopecchmaa
