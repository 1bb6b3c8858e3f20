/- Walks over package node: Kid, From, UpTo, Leaf. -/
import Derived.Test.YtdjemmopecchmaaNp
namespace Go.Proofs.Ytdjemmopecchmaa
open Go.RowKit Go.Proofs.YtdjemmopecchmaaW.PrintWords Key
set_option linter.unusedVariables false
set_option linter.unusedSimpArgs false

theorem SM.get {w : World} {s k : Nat} {M : List (Nat × Nat)} (h : SM w s k M) (a : Int) : Calls Try.prog 164 #[.pointer (some ⟨s, 0, none⟩), .int .i64 a] w fun e w' => e = .returned (.tuple #[ptr (lk M a), .bool (lk M a).isSome]) ∧ Below w.heap.size w w' := by
  have := sGet_any s k _ a _ w h.1 (rising_layout k M h.2.1) (full_layout k M) h.len.1
  rwa [pairs_layout k M h.2.1 h.2.2.1] at this
theorem SM.from {w : World} {s k : Nat} {M : List (Nat × Nat)} (h : SM w s k M) (a : Int) : Calls Try.prog 212 #[.pointer (some ⟨s, 0, none⟩), .int .i64 a] w fun e w' => e = .returned (resF (fromM M a)) ∧ Below w.heap.size w w' :=
  sFrom_any s k _ a _ M w h.1 (rising_layout k M h.2.1) (full_layout k M) (pairs_layout k M h.2.1 h.2.2.1) h.len.1
theorem SM.upTo {w : World} {s k : Nat} {M : List (Nat × Nat)} (h : SM w s k M) (a : Int) : Calls Try.prog 232 #[.pointer (some ⟨s, 0, none⟩), .int .i64 a] w fun e w' => e = .returned (resF (upToM M a)) ∧ Below w.heap.size w w' :=
  sUpTo_any s k _ a _ M w h.1 (rising_layout k M h.2.1) (full_layout k M) (pairs_layout k M h.2.1 h.2.2.1) h.len.1
theorem SM.all {w : World} {s k : Nat} {M : List (Nat × Nat)} (h : SM w s k M) : Calls Try.prog 211 #[.pointer (some ⟨s, 0, none⟩)] w fun e w' => ∃ v, e = .returned v ∧ w'.ownsRow w.heap.size 58 1 v M.length (ptrs (M.map (·.2))) ∧ Below w.heap.size w w' :=
  sAll_any s k _ _ M w h.1 (full_layout k M) (pairs_layout k M h.2.1 h.2.2.1) h.len.1

theorem nKid_any (b s k : Nat) (h : Head) (M : List (Nat × Nat)) (a : Int) (w : World) (hh : HdAt w b h) (hs : h.s = some s) (hM : SM w s k M) :
    Calls Try.prog 102 #[.pointer (some ⟨b, 0, none⟩), .int .i64 a] w fun e w' => e = .returned (ptr (lk M a)) ∧ Below w.heap.size w w' := by
  go_enter Try.func102, Try.ntmps102
  go_wp2_with (first
    | (go_at_call 163; refine (nslots_any b h _ hh).mono ?_; rintro e w1 ⟨rfl, rfl⟩; rw [hs])
    | (go_at_call 164; refine (hM.get a).mono ?_; rintro e w2 ⟨rfl, hb2⟩))
  go_ret
  exact ⟨rfl, hb2⟩
theorem nKid_leaf (b : Nat) (h : Head) (a : Int) (w : World) (hh : HdAt w b h) (hs : h.s = none) :
    Calls Try.prog 102 #[.pointer (some ⟨b, 0, none⟩), .int .i64 a] w fun e w' => e = .returned (.pointer none) ∧ w = w' := by
  go_enter Try.func102, Try.ntmps102
  go_wp2_with (first
    | (go_at_call 163; refine (nslots_any b h _ hh).mono ?_; rintro e w1 ⟨rfl, rfl⟩; rw [hs])
    | (go_at_call 164; refine (sGet_nil a _).mono ?_; rintro e w2 ⟨rfl, rfl⟩))
  go_ret
  exact ⟨rfl, rfl⟩
theorem nKid_nil (a : Int) (w : World) : Calls Try.prog 102 #[.pointer none, .int .i64 a] w fun e w' => e = .returned (.pointer none) ∧ w = w' := by
  go_enter Try.func102, Try.ntmps102
  go_wp2_with (first
    | (go_at_call 163; refine (nslots_nil _).mono ?_; rintro e w1 ⟨rfl, rfl⟩)
    | (go_at_call 164; refine (sGet_nil a _).mono ?_; rintro e w2 ⟨rfl, rfl⟩))
  go_ret
  exact ⟨rfl, rfl⟩
def resN : Option (Nat × Nat) → Value
  | some p => .tuple #[.int .i64 p.1, .pointer (some ⟨p.2, 0, none⟩)]
  | none => .tuple #[.int .i64 0, .pointer none]
theorem nFrom_any (b s k : Nat) (h : Head) (M : List (Nat × Nat)) (a : Int) (w : World) (hh : HdAt w b h) (hs : h.s = some s) (hM : SM w s k M) :
    Calls Try.prog 157 #[.pointer (some ⟨b, 0, none⟩), .int .i64 a] w fun e w' => e = .returned (resN (fromM M a)) ∧ Below w.heap.size w w' := by
  cases hfm : fromM M a with
  | none =>
    go_enter Try.func157, Try.ntmps157
    go_wp2_with (first
      | (go_at_call 163; refine (nslots_any b h _ hh).mono ?_; rintro e w1 ⟨rfl, rfl⟩; rw [hs])
      | (go_at_call 212; refine (hM.from a).mono ?_; rintro e w2 ⟨rfl, hb2⟩; rw [hfm]; simp only [resF]))
    go_ret2
    exact ⟨rfl, hb2⟩
  | some q =>
    go_enter Try.func157, Try.ntmps157
    go_wp2_with (first
      | (go_at_call 163; refine (nslots_any b h _ hh).mono ?_; rintro e w1 ⟨rfl, rfl⟩; rw [hs])
      | (go_at_call 212; refine (hM.from a).mono ?_; rintro e w2 ⟨rfl, hb2⟩; rw [hfm]; simp only [resF]))
    go_ret2
    exact ⟨rfl, hb2⟩
theorem nUpTo_any (b s k : Nat) (h : Head) (M : List (Nat × Nat)) (a : Int) (w : World) (hh : HdAt w b h) (hs : h.s = some s) (hM : SM w s k M) :
    Calls Try.prog 195 #[.pointer (some ⟨b, 0, none⟩), .int .i64 a] w fun e w' => e = .returned (resN (upToM M a)) ∧ Below w.heap.size w w' := by
  cases hfm : upToM M a with
  | none =>
    go_enter Try.func195, Try.ntmps195
    go_wp2_with (first
      | (go_at_call 163; refine (nslots_any b h _ hh).mono ?_; rintro e w1 ⟨rfl, rfl⟩; rw [hs])
      | (go_at_call 232; refine (hM.upTo a).mono ?_; rintro e w2 ⟨rfl, hb2⟩; rw [hfm]; simp only [resF]))
    go_ret2
    exact ⟨rfl, hb2⟩
  | some q =>
    go_enter Try.func195, Try.ntmps195
    go_wp2_with (first
      | (go_at_call 163; refine (nslots_any b h _ hh).mono ?_; rintro e w1 ⟨rfl, rfl⟩; rw [hs])
      | (go_at_call 232; refine (hM.upTo a).mono ?_; rintro e w2 ⟨rfl, hb2⟩; rw [hfm]; simp only [resF]))
    go_ret2
    exact ⟨rfl, hb2⟩
end Go.Proofs.Ytdjemmopecchmaa
