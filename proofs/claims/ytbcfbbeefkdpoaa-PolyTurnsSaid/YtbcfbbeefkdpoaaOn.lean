/- The walks over poly's ring.on, On. -/
import Derived.Test.YtbcfbbeefkdpoaaAr
namespace Go.Proofs.Ytbcfbbeefkdpoaa
open Go.RowKit Go.Shelf Go.Proofs.YtbcfbbeefkdpoaaW.PrintWords Fl
set_option linter.unusedVariables false
set_option linter.unusedSimpArgs false
attribute [local go_sem] Oper.semAt_some run_store_float run_store_complex

def anyUp (f : Nat → Bool) : Nat → Bool
  | 0 => false
  | k + 1 => anyUp f k || f k
def onK (ps : List (Int × Int)) (z : Int × Int) (k : Nat) : Bool := onSide (sideA ps k) (sideB ps k) z
def onRing (ps : List (Int × Int)) (z : Int × Int) : Bool := anyUp (onK ps z) ps.length
theorem anyUp_true {f : Nat → Bool} {k n : Nat} (h : k < n) (hf : f k = true) : anyUp f n = true := by
  induction n with
  | zero => omega
  | succ n ih =>
    unfold anyUp
    by_cases e : k = n
    · subst e; rw [hf, Bool.or_true]
    · rw [ih (by omega), Bool.true_or]

set_option maxRecDepth 100000 in
set_option maxHeartbeats 2000000 in
theorem ringOn_any (g N a b : Nat) (ps : List (Int × Int)) (z : Int × Int) (w : World) (hg : RingAt w g ps) (hN : ps.length = N) (h1 : 1 ≤ N) (h4 : N ≤ 400) (hs : SmAll ps) (hz : CxIs a b z) (sz : Sm z) :
    Calls Try.prog 22 #[.slice (some ⟨g, 0, none⟩) N N, .complex .f64 a b] w fun e w' => e = .returned (.bool (onRing ps z)) ∧ Below w.heap.size w w' := by
  subst hN
  obtain ⟨FA, FB, hF⟩ := hg.fns
  have hgl := hg.1
  have HF := Lib.hid hF
  have HSm := Lib.hid hs
  have HZ := Lib.hid hz
  have HSz := Lib.hid sz
  clear hg hF hs hz sz
  refine (callsIn_wide (n := 3)).1 ?_
  refine callsIn_of_wp_marks Try.func22 rfl trivial ?_ rfl
  simp only [Try.ntmps22, List.size_toArray, List.length_cons, List.length_nil, Nat.reduceAdd, Nat.reduceSub, Array.replicate_succ, Array.replicate_zero, List.push_toArray, List.append_toArray, List.nil_append, List.cons_append]
  gi_wp2
  have c0 := cell_new_l w (.complex .f64 a b) 52
  have c1 := cell_new_l (w.alloc (.cells #[.complex .f64 a b] 52)) (.bool false) 4
  simp only [World.size_alloc] at c1
  have hB0 : Below w.heap.size w ((w.alloc (.cells #[.complex .f64 a b] 52)).alloc (.cells #[.bool false] 4)) := ((Below.refl _ w).alloc (Nat.le_refl _) _).alloc (by simp) _
  refine wp_sides rfl (by omega) trivial g ps.length w.heap.size (fun j => .complex .f64 (FA j) (FB j)) h1 h4 hgl (by simp; omega) rfl
    (fun j hj => cell_alloc_l _ (cell_alloc_l _ (HF.out j hj).1))
    (fun k W => (anyUp (onK ps z) k = false ∧ W.cell? ⟨w.heap.size, 0, none⟩ = some (.complex .f64 a b) ∧ W.cell? ⟨w.heap.size + 1, 0, none⟩ = some (.bool false) ∧ W.frozen? ⟨w.heap.size + 1, 0, none⟩ = false) ∧ Below w.heap.size w W)
    (fun k W => (onK ps z k = true ∧ W.cell? ⟨w.heap.size + 1, 0, none⟩ = some (.bool true)) ∧ Below w.heap.size w W)
    (OwnFrom.and (Own.from (fun s A B row hs hg hr => ⟨hs.1, cell_kept hs.2.1 hg hr, cell_kept hs.2.2.1 hg hr, (frozen_kept hs.2.2.1 hg hr).trans hs.2.2.2⟩) _) (ownFrom_below (Nat.le_refl _) (by simp; omega)))
    (OwnFrom.and (Own.from (fun s A B row hs hg hr => ⟨hs.1, cell_kept hs.2 hg hr⟩) _) (ownFrom_below (Nat.le_refl _) (by simp; omega)))
    ⟨⟨rfl, cell_alloc_l _ c0.1, c1.1, c1.2⟩, hB0⟩
    (fun k => { tmps := #[.slice (some ⟨g, 0, none⟩) ps.length ps.length, .complex .f64 a b, undef, .pointer (some ⟨w.heap.size, 0, none⟩), .pointer (some ⟨w.heap.size + 1, 0, none⟩), .complex .f64 (FA (prv ps.length k)) (FB (prv ps.length k)), .complex .f64 (FA k) (FB k),
      .slice (some ⟨g, 0, none⟩) ps.length ps.length, .func (.func 18) #[.slice (some ⟨g, 0, none⟩) ps.length ps.length] #[], .complex .f64 (FA (prv ps.length k)) (FB (prv ps.length k)), .complex .f64 (FA k) (FB k), undef, undef, undef, undef], defers := [] }) rfl ?assign ?body ?done ?stop
  case assign =>
    intro l' k W K hK
    gi_wp2
    exact hK
  case body =>
    rintro l' k W ⟨⟨h0, hc0, hc1, hf1⟩, hB⟩ hk
    have hp : prv ps.length k < ps.length := by unfold prv; split <;> omega
    have C2 := fun W => on_any (FA (prv ps.length k)) (FB (prv ps.length k)) (FA k) (FB k) a b _ _ _ W (HF.out _ hp).2 (HF.out k hk).2 HZ.out (HSm.out.getD _) (HSm.out.getD _) HSz.out
    have e : onSide (ps.getD (prv ps.length k) (0, 0)) (ps.getD k (0, 0)) z = onK ps z k := rfl
    rw [e] at C2
    have H0 := Lib.hid h0
    have hn1 : 1 ≤ 3 - 1 - 1 := by omega
    cases hon : onK ps z k with
    | true =>
      rw [hon] at C2
      have HOn := Lib.hid hon
      clear hp e h0 hon
      gi_wp2_with (refine ⟨trivial, ?_⟩; gi_at_call 25; refine (CallsIn.inRound l' (callsIn_wide.2 (C2 _))).mono ?_; rintro e w' ⟨rfl, rfl⟩)
      exact ⟨KeepsOthers.setCell _ _ _, ⟨HOn.out, World.cell?_setCell_same' _ _ _ (by rw [hc1]; rfl)⟩, hB.setCell (p := ⟨w.heap.size + 1, 0, none⟩) (by simp) _⟩
    | false =>
      rw [hon] at C2
      have HOn := Lib.hid hon
      clear hp e h0 hon
      gi_wp2_with (refine ⟨trivial, ?_⟩; gi_at_call 25; refine (CallsIn.inRound l' (callsIn_wide.2 (C2 _))).mono ?_; rintro e w' ⟨rfl, rfl⟩)
      exact ⟨KeepsOthers.refl _, Below.refl _ _, ⟨by unfold anyUp; rw [H0.out, HOn.out]; rfl, hc0, hc1, hf1⟩, hB⟩
  case done =>
    rintro D W hD ⟨⟨hne, _, hcr, hfr⟩, hB⟩ hK
    have HNe := Lib.hid hne
    clear hne
    gi_wp2
    have hK' := (KeepsOthers.setCell W ⟨w.heap.size + 1, 0, none⟩ (.bool false)).same D _ hK rfl
    refine ⟨by simp, .inl ⟨_, _, rfl, run_takeDeferred hK', ?_⟩⟩
    have hc5 := cell_kept (World.cell?_setCell_same' W ⟨w.heap.size + 1, 0, none⟩ (.bool false) (by rw [hcr]; rfl)) (grownBy_putObj' _ D (.deferred none)) (fun r e => by cases e; exact ⟨_, hK', rfl⟩)
    refine ⟨.bool false, ?_, by unfold onRing; rw [HNe.out], (hB.setCell (p := ⟨w.heap.size + 1, 0, none⟩) (by simp) _).trans (belowK_b (w := w) (Nat.le_refl _) _ D _ _ (by simp at hD; omega) hK' rfl rfl)⟩
    simp [results, Try.f22, go_sem, hc5]
  case stop =>
    rintro D k W hD hk ⟨⟨hin, hcr⟩, hB⟩ hK
    have HIn := Lib.hid hin
    clear hin
    gi_wp2
    refine ⟨by simp, .inl ⟨_, _, rfl, run_takeDeferred hK, ?_⟩⟩
    have hc5 := cell_kept hcr (grownBy_putObj' _ D (.deferred none)) (fun r e => by cases e; exact ⟨_, hK, rfl⟩)
    refine ⟨.bool true, ?_, by unfold onRing; rw [anyUp_true hk HIn.out], hB.trans (belowK_b (w := w) (Nat.le_refl _) _ D _ _ (by simp at hD; omega) hK rfl rfl)⟩
    simp [results, Try.f22, go_sem, hc5]
end Go.Proofs.Ytbcfbbeefkdpoaa
