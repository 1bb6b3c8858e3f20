/- tree.Get. -/
import Derived.Test.YtdjemmopecchmaaTw
namespace Go.Proofs.Ytdjemmopecchmaa
open Go.RowKit Go.Proofs.YtdjemmopecchmaaW.PrintWords Key
set_option linter.unusedVariables false
set_option linter.unusedSimpArgs false

set_option maxRecDepth 100000 in
set_option maxHeartbeats 600000 in
theorem tGet_yes (t k : Nat) (A : Option Addr) (p : List Int) (cap : Nat) (v : Int) (L : List Ent) (N : List Nat) (w : World) (hT : TrOf w t k L N) (hr : RdU w A p) (hl : p.length = k) (hp : Ok p) (hm : (p, v) ∈ L) :
    Calls Try.prog 126 #[.pointer (some ⟨t, 0, none⟩), .slice A p.length cap] w fun e w' => e = .returned (.tuple #[.int .u64 v, .bool true, .int .i64 0]) ∧ Below w.heap.size w w' := by
  obtain ⟨c, P, B, hw⟩ := hT.way' hl hp
  have hs := hT.sorted
  have hk := hw.at_.2
  have C1 : ∀ W, Below w.heap.size w W → Calls Try.prog 85 #[.pointer (some ⟨t, 0, none⟩), .slice A p.length cap] W fun e w' => e = .returned (.int .i64 0) ∧ W = w' := fun W hW => tcheck_ok t k _ A p cap W (hw.at_.bel hW) hl
  have C2 : ∀ W, Below w.heap.size w W → Calls Try.prog 86 #[.pointer (some ⟨t, 0, none⟩), .slice A p.length cap] W fun e w' => ∃ v, e = .returned (.tuple #[v, ptrK B]) ∧ w'.ownsRow W.heap.size 58 1 v P.length (ptrs P) ∧ Below W.heap.size W w' :=
    fun W hW => tpath_any t k c A p cap P B W (hw.at_.bel hW) (Kd.C_below hr hW) hl hp (hw.path.bel hW) hw.len
  have C3 : ∀ (W : World) (v0 : Value) (base : Nat), Below w.heap.size w W → W.ownsRow base 58 1 v0 P.length (ptrs P) → Calls Try.prog 87 #[v0] W fun e w' => (∃ g c, e = .returned (.tuple #[.agg #[.slice (some ⟨g, 0, none⟩) p.length c, .int .u64 v], .bool true])) ∧ Below W.heap.size W w' := by
    intro W v0 base hW ho
    refine (tfound_any k p L P B base v0 W (hw.finds.bel hW) ho hw.len hk.1 hk.2).mono ?_
    rintro e w' ⟨h, hb⟩
    refine ⟨?_, hb⟩
    rcases h with ⟨g, c, v', rfl, hm'⟩ | ⟨_, hno⟩
    · have : v' = v := by
        rcases List.pairwise_iff_getElem.1 hs with hpw
        obtain ⟨i, hi, e1⟩ := List.getElem_of_mem hm
        obtain ⟨j, hj, e2⟩ := List.getElem_of_mem hm'
        rcases Nat.lt_trichotomy i j with h | h | h
        · have := hpw i j hi hj h; rw [e1, e2] at this; simp at this
        · subst h; rw [e1] at e2; simpa using e2.symm
        · have := hpw j i hj hi h; rw [e1, e2] at this; simp at this
      subst this
      exact ⟨g, c, rfl⟩
    · exact absurd rfl (hno _ hm)
  clear hw hl hs hm hr hp hT
  go_enter Try.func126, Try.ntmps126
  go_wp2_with (first
    | (go_at_call 85; refine (C1 _ (Below.refl _ _)).mono ?_; rintro e w1 ⟨rfl, rfl⟩)
    | (go_at_call 86; refine (C2 _ (Below.refl _ _)).mono ?_; rintro e w2 ⟨v0, rfl, ho, hb2⟩)
    | (go_at_call 87; refine (C3 _ _ _ hb2 ho).mono ?_; rintro e w3 ⟨⟨g, c', rfl⟩, hb3⟩))
  exact bodyPost_ret (v := .tuple #[.int .u64 v, .bool true, .int .i64 0]) (by simp [results, Try.results126, go_sem]) rfl ⟨rfl, ((hb2.trans (hb3.mono hb2.size)).alloc (hb2.trans (hb3.mono hb2.size)).size _)⟩
set_option maxRecDepth 100000 in
set_option maxHeartbeats 600000 in
theorem tGet_no (t k : Nat) (A : Option Addr) (p : List Int) (cap : Nat) (L : List Ent) (N : List Nat) (w : World) (hT : TrOf w t k L N) (hr : RdU w A p) (hl : p.length = k) (hp : Ok p) (hm : ∀ e ∈ L, e.1 ≠ p) :
    Calls Try.prog 126 #[.pointer (some ⟨t, 0, none⟩), .slice A p.length cap] w fun e w' => e = .returned (.tuple #[.int .u64 0, .bool false, .int .i64 0]) ∧ Below w.heap.size w w' := by
  obtain ⟨c, P, B, hw⟩ := hT.way' hl hp
  have hk := hw.at_.2
  have C1 : ∀ W, Below w.heap.size w W → Calls Try.prog 85 #[.pointer (some ⟨t, 0, none⟩), .slice A p.length cap] W fun e w' => e = .returned (.int .i64 0) ∧ W = w' := fun W hW => tcheck_ok t k _ A p cap W (hw.at_.bel hW) hl
  have C2 : ∀ W, Below w.heap.size w W → Calls Try.prog 86 #[.pointer (some ⟨t, 0, none⟩), .slice A p.length cap] W fun e w' => ∃ v, e = .returned (.tuple #[v, ptrK B]) ∧ w'.ownsRow W.heap.size 58 1 v P.length (ptrs P) ∧ Below W.heap.size W w' :=
    fun W hW => tpath_any t k c A p cap P B W (hw.at_.bel hW) (Kd.C_below hr hW) hl hp (hw.path.bel hW) hw.len
  have C3 : ∀ (W : World) (v0 : Value) (base : Nat), Below w.heap.size w W → W.ownsRow base 58 1 v0 P.length (ptrs P) → Calls Try.prog 87 #[v0] W fun e w' => e = .returned (.tuple #[.agg #[.slice none 0 0, .int .u64 0], .bool false]) ∧ Below W.heap.size W w' := by
    intro W v0 base hW ho
    refine (tfound_any k p L P B base v0 W (hw.finds.bel hW) ho hw.len hk.1 hk.2).mono ?_
    rintro e w' ⟨h, hb⟩
    rcases h with ⟨g, c, v', rfl, hm'⟩ | ⟨rfl, hno⟩
    · exact absurd rfl (hm _ hm')
    · exact ⟨rfl, hb⟩
  clear hw hl hm hr hp hT
  go_enter Try.func126, Try.ntmps126
  go_wp2_with (first
    | (go_at_call 85; refine (C1 _ (Below.refl _ _)).mono ?_; rintro e w1 ⟨rfl, rfl⟩)
    | (go_at_call 86; refine (C2 _ (Below.refl _ _)).mono ?_; rintro e w2 ⟨v0, rfl, ho, hb2⟩)
    | (go_at_call 87; refine (C3 _ _ _ hb2 ho).mono ?_; rintro e w3 ⟨rfl, hb3⟩))
  exact bodyPost_ret (v := .tuple #[.int .u64 0, .bool false, .int .i64 0]) (by simp [results, Try.results126, go_sem]) rfl ⟨rfl, ((hb2.trans (hb3.mono hb2.size)).alloc (hb2.trans (hb3.mono hb2.size)).size _)⟩
end Go.Proofs.Ytdjemmopecchmaa
