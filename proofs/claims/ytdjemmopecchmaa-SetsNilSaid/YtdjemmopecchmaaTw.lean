/- tree.Put and tree.Get, whole. -/
import Derived.Test.YtdjemmopecchmaaTv
namespace Go.Proofs.Ytdjemmopecchmaa
open Go.RowKit Go.Proofs.YtdjemmopecchmaaW.PrintWords Key
set_option linter.unusedVariables false
set_option linter.unusedSimpArgs false

theorem TrOf.way' {w : World} {t k : Nat} {L : List Ent} {N : List Nat} (h : TrOf w t k L N) {p : List Int} (hl : p.length = k) (hp : Ok p) : ∃ c P B, Way w t k p L N c P B := by
  obtain ⟨c, P, B, h1, h2, h3, h4, h5⟩ := h.way hl hp
  exact ⟨c, P, B, h1, h2, h3, h4, h5⟩
theorem NewTr.out {w w' : World} {t' k : Nat} {p : List Int} {E : Ent → Prop} {L : List Ent} {N : List Nat} {n : Nat} (h : NewTr w t' k p E L N n w') : ∃ (L' : List Ent) (N' F : List Nat), TrOf w' t' k L' N' ∧ Chg p E L L' ∧ F.length ≤ n ∧ (∀ n ∈ N', n ∈ F ∨ n ∈ N) ∧ w.heap.size ≤ t' ∧ Below w.heap.size w w' := by
  obtain ⟨b', K', F, h1, h2, h3, h4, h5, h6, h7⟩ := h
  exact ⟨K'.L, K'.N, F, ⟨some b', h1, K', h2, rfl, rfl⟩, h3, h4, h5, h6, h7⟩
theorem tPut_any (t k : Nat) (A : Option Addr) (p : List Int) (cap : Nat) (v : Int) (L : List Ent) (N : List Nat) (w : World) (hT : TrOf w t k L N) (hr : RdU w A p) (hl : p.length = k) (hp : Ok p) (hv : U v) :
    Calls Try.prog 21 #[.pointer (some ⟨t, 0, none⟩), .slice A p.length cap, .int .u64 v] w fun e w' => ∃ (t' : Nat) (L' : List Ent) (N' : List Nat), e = .returned (.tuple #[.pointer (some ⟨t', 0, none⟩), .int .i64 0]) ∧ TrOf w' t' k L' N' ∧ Chg p (fun e => e = (p, v)) L L' ∧
      ((p, v) ∈ L → t' = t) ∧ ((p, v) ∉ L → w.heap.size ≤ t') ∧ Below w.heap.size w w' := by
  obtain ⟨c, P, B, hw⟩ := hT.way' hl hp
  have hso := hT.sorted
  by_cases hm : (p, v) ∈ L
  · refine (tPut_same t k A p cap v L N c P B w hw hr hl hp hso hm).mono ?_
    rintro e w' ⟨rfl, hB⟩
    refine ⟨t, L, N, rfl, hT.bel hB, fun e => ?_, fun _ => rfl, fun h => absurd hm h, hB⟩
    constructor
    · intro he
      by_cases h : e.1 = p
      · left
        rcases List.pairwise_iff_getElem.1 hso with hpw
        obtain ⟨i, hi, e1⟩ := List.getElem_of_mem hm
        obtain ⟨j, hj, e2⟩ := List.getElem_of_mem he
        rcases Nat.lt_trichotomy i j with h' | h' | h'
        · have := hpw i j hi hj h'; rw [e1, e2, h] at this; simp at this
        · subst h'; rw [e1] at e2; exact e2.symm
        · have := hpw j i hj hi h'; rw [e1, e2, h] at this; simp at this
      · exact Or.inr ⟨he, h⟩
    · rintro (rfl | ⟨h, _⟩)
      · exact hm
      · exact h
  · have fin : ∀ n, (Calls Try.prog 21 #[.pointer (some ⟨t, 0, none⟩), .slice A p.length cap, .int .u64 v] w fun e w' => ∃ t', e = .returned (.tuple #[.pointer (some ⟨t', 0, none⟩), .int .i64 0]) ∧ NewTr w t' k p (fun e => e = (p, v)) L N n w') →
        Calls Try.prog 21 #[.pointer (some ⟨t, 0, none⟩), .slice A p.length cap, .int .u64 v] w fun e w' => ∃ (t' : Nat) (L' : List Ent) (N' : List Nat), e = .returned (.tuple #[.pointer (some ⟨t', 0, none⟩), .int .i64 0]) ∧ TrOf w' t' k L' N' ∧ Chg p (fun e => e = (p, v)) L L' ∧
          ((p, v) ∈ L → t' = t) ∧ ((p, v) ∉ L → w.heap.size ≤ t') ∧ Below w.heap.size w w' := by
      intro n hC
      refine hC.mono ?_
      rintro e w' ⟨t', rfl, hN⟩
      obtain ⟨L', N', F, h1, h2, h3, h4, h5, h6⟩ := hN.out
      exact ⟨t', L', N', rfl, h1, h2, fun h => absurd h hm, fun _ => h5, h6⟩
    have hh := hw.hole
    cases hh with
    | yes P0 b v1 lo c0 hP hB hs hlo hmm =>
      subst hP; subst hB
      exact fin _ (tPut_found t k A p cap v L N c P0 b lo c0 v1 w hw hr hl hp hv hm ⟨v1, hmm⟩ hs)
    | no lo c0 hs hlo hc hB hno =>
      exact fin _ (tPut_fresh t k A p cap v L N c P B lo c0 w hw hr hl hp hv hno hs hc hB)
end Go.Proofs.Ytdjemmopecchmaa
