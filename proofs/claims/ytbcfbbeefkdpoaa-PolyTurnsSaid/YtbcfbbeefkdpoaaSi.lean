/- A range over a ring's sides: the iterator's contract, and one law for the loops over it. The iterator is a bound method, so the ring stands ahead of yield among its arguments. -/
import Derived.Test.YtbcfbbeefkdpoaaOp
import Derived.RangeFuncNested
import Derived.RangeFuncBound
import Derived.RangeFuncCalls
import Derived.RangeFuncLeaves
import Derived.RangeFuncFrom
import Derived.RangeFuncBox
import Derived.Shelf.Abstract
import Derived.Shelf.RegionOpen
import Derived.OwnWalkIn
import Derived.TacticsInMore
import Derived.LoopNIn
import Derived.LoopIn
namespace Go.Proofs.Ytbcfbbeefkdpoaa
open Go.RowKit Go.Shelf Go.Proofs.YtbcfbbeefkdpoaaW.PrintWords Fl
set_option linter.unusedVariables false
set_option linter.unusedSimpArgs false
attribute [local go_sem] Oper.semAt_some

/-- The place ahead of k in a ring of N. -/
def prv (N k : Nat) : Nat := if k = 0 then N - 1 else k - 1

set_option maxRecDepth 100000 in
set_option maxHeartbeats 2000000 in
theorem sides_in (F : Fence) (n : Nat) (h18 : F.fn 18) (hro : F.round = none) (hn : 1 ≤ n) (l gr N n₀ : Nat) (hN : 1 ≤ N) (hN4 : N ≤ 400) (hb : gr < n₀) (cv : Nat → Value) (J Jx : Nat → World → Prop)
    (hY : ∀ k W, J k W → k < N → YieldAt F (n - 1) Try.prog l #[cv (prv N k), cv k] W fun e W' =>
      (e = .returned (.bool true) ∧ J (k + 1) W' ∧ Below n₀ W W') ∨ (e = .returned (.bool false) ∧ Jx k W'))
    (W : World) (hc : ∀ j, j < N → W.cell? ⟨gr, j, none⟩ = some (cv j)) (h0 : J 0 W) :
    CallsIn F n Try.prog 18 #[.slice (some ⟨gr, 0, none⟩) N N, .func (.yield l) #[] #[]] W fun e W' => (∃ v, e = .returned v) ∧ (J N W' ∨ ∃ k, k < N ∧ Jx k W') := by
  obtain ⟨M, rfl⟩ : ∃ M, N = M + 1 := ⟨N - 1, by omega⟩
  refine callsIn_of_wp Try.func18 rfl h18 ?_ hro
  simp only [Try.ntmps18, List.size_toArray, List.length_cons, List.length_nil, Nat.reduceAdd, Nat.reduceSub, Array.replicate_succ, Array.replicate_zero, List.push_toArray, List.append_toArray, List.nil_append, List.cons_append]
  have hlast := hc M (by omega)
  have HY := Lib.hid hY
  have HC := Lib.hid hc
  clear hY hc
  gi_wp2
  gi_loopw [4, 15] (fun p i wr => ∃ k : Nat, k ≤ M + 1 ∧ i = .int .i64 k ∧ p = cv (prv (M + 1) k) ∧ J k wr ∧ Below n₀ W wr)
    (fun _ i _ => (M + 1) - (intOf i).toNat)
  case atStart => exact ⟨0, Nat.zero_le _, rfl, rfl, h0, Below.refl _ _⟩
  case round =>
    obtain ⟨k, hk, rfl, rfl, hJs, hnx⟩ := hrel
    clear hlast
    by_cases hlt : k < M + 1
    · obtain ⟨fn, tmps, assign, body, hy, hR⟩ := HY.out k wr hJs hlt
      have hcx : wr.cell? ⟨gr, k, none⟩ = some (cv k) := (hnx.cell (p := ⟨gr, k, none⟩) hb).trans (HC.out k hlt)
      gi_wp2
      refine hR.mono ?_
      rintro e W3 (⟨rfl, hJ3, hk3⟩ | ⟨rfl, hJx3⟩)
      · gi_wp2
        go_roundw
        case rel => exact ⟨k + 1, by omega, by simp, by simp [prv], hJ3, hnx.trans hk3⟩
        case measure => simp [intOf]; omega
      · gi_wp2
        refine bodyPost_ret (results_none rfl _ _ _) rfl ?_
        exact ⟨⟨_, rfl⟩, .inr ⟨k, hlt, hJx3⟩⟩
    · obtain rfl : k = M + 1 := by omega
      gi_wp2
      go_end0
      exact ⟨⟨_, rfl⟩, .inl hJs⟩

/-- What a loop's body over the sides must come to. -/
def sidePost (n₀ : Nat) (I Ix : Nat → World → Prop) (k : Nat) (W : World) : Exit → Act → World → Prop
  | .normal, _, W' => KeepsOthers W W' ∧ Below n₀ W W' ∧ I (k + 1) W'
  | .ret, _, W' => KeepsOthers W W' ∧ Ix k W'
  | _, _, _ => False

/-- A loop over the sides of a ring whose cells are cv. -/
theorem wp_sides {F : Fence} {n : Nat} {g : Operand} {ps : Array Tmp} {assign body : Code} {Q : Exit → Act → World → Prop} {a : Act} {w : World}
    (hro : F.round = none) (hn : 3 ≤ n) (h18 : F.fn 18) (gr N n₀ : Nat) (cv : Nat → Value) (hN : 1 ≤ N) (hN4 : N ≤ 400) (hgr : gr < n₀) (hn0 : n₀ ≤ w.heap.size)
    (hg : a.eval g = .func (.func 18) #[.slice (some ⟨gr, 0, none⟩) N N] #[]) (hc : ∀ j, j < N → w.cell? ⟨gr, j, none⟩ = some (cv j))
    (I Ix : Nat → World → Prop) (hI : OwnFrom w.heap.size I) (hIx : OwnFrom w.heap.size Ix) (h0 : I 0 w) (a₁ : Nat → Act) (hps : ps.size = 2)
    (hassign : ∀ (l k : Nat) (W : World) (K : Act → World → Prop), K (a₁ k) W →
      assign.wpIn (F.inRound l) (n - 1 - 1) Try.prog (Exit.then K (fun _ _ _ => False)) { tmps := (ps.zip #[cv (prv N k), cv k]).foldl (fun t (p, v) => t.setIfInBounds p v) a.tmps, defers := [] } W)
    (hbody : ∀ (l k : Nat) (W : World), I k W → k < N → body.wpIn (F.inRound l) (n - 1 - 1) Try.prog (sidePost n₀ I Ix k W) (a₁ k) W)
    (hdone : ∀ (D : Nat) (W : World), w.heap.size ≤ D → I N W → W.heap[D]? = some (.deferred (some [])) → Q .normal { a with defers := { target := .collected D, args := #[] } :: a.defers } W)
    (hstop : ∀ (D k : Nat) (W : World), w.heap.size ≤ D → k < N → Ix k W → W.heap[D]? = some (.deferred (some [])) → Code.ret.wpIn F n Try.prog Q { a with defers := { target := .collected D, args := #[] } :: a.defers } W) :
    (Code.rangeFunc g ps assign body).wpIn F n Try.prog Q a w := by
  refine wpIn_rangeFunc fun fn hfn => ?_
  rw [hro]
  -- the loop's record, in each of its states
  obtain ⟨st, hst⟩ : ∃ st : LoopState → Option Code → Obj, st = fun s j => .loop { state := s, pending := j, fn, tmps := a.tmps, params := ps, assign, body, defers := w.heap.size } := ⟨_, rfl⟩
  have nc : ∀ s j, (st s j).isCells = false := fun s j => by rw [hst]; rfl
  have nw : ∀ s j, (st s j).isWalk = false := fun s j => by rw [hst]; rfl
  let W1 := (w.alloc (.deferred (some []))).alloc (st .ready none)
  have hK1 : W1.heap[w.heap.size]? = some (.deferred (some [])) := (Below.heap_alloc _ _ _ (by simp)).trans (World.alloc_heap_new w _)
  have hL1 : W1.heap[w.heap.size + 1]? = some (st .ready none) := by
    have h := World.alloc_heap_new (w.alloc (.deferred (some []))) (st .ready none)
    rwa [World.size_alloc] at h
  have hb1 : Below w.heap.size w W1 := ((Below.refl _ w).alloc (Nat.le_refl _) _).alloc (by simp) _
  have eg := enters_of (P := Try.prog) Try.func18 (by kernel_rfl) rfl
  refine ⟨w.heap.size + 1, [{ target := .collected w.heap.size, args := #[] }], W1, { target := .fn (.func 18) #[], args := #[.slice (some ⟨gr, 0, none⟩) N N, .func (.yield (w.heap.size + 1)) #[] #[]] }, W1, 18,
    #[.slice (some ⟨gr, 0, none⟩) N N, .func (.yield (w.heap.size + 1)) #[] #[]], W1, ?_, ?_, ?_, ?_, fun _ => by omega, ?_⟩
  · show _ = Result.ok _ ((w.alloc (.deferred (some []))).alloc (st .ready none))
    rw [hst]; exact run_enterLoop_outer _ _ _ _ _
  · simp only [resolve, hg]
    simp [go_sem]
  · intro f' hf'; simp [Target.leads] at hf'; subst hf'; exact h18
  · simp [invoke, go_sem, eg]
  · have step : ∀ (J : Nat → World → Prop), OwnFrom w.heap.size J → ∀ (k : Nat) (s : LoopState) (j : Option Code) (s' : LoopState) (j' : Option Code) (W : World), J k W → W.heap[w.heap.size + 1]? = some (st s j) → J k (W.putObj (w.heap.size + 1) (st s' j')) :=
      fun J hJ k s j s' j' W h hl => hJ.putObj _ h (by omega) hl (nc _ _)
    have far : ∀ (W : World) (s : LoopState) (j : Option Code), W.heap[w.heap.size]? = some (.deferred (some [])) → (W.putObj (w.heap.size + 1) (st s j)).heap[w.heap.size]? = some (.deferred (some [])) :=
      fun W s j h => (World.putObj_heap_other (by omega)).trans h
    have bel : ∀ (W : World) (s : LoopState) (j : Option Code) (s' : LoopState) (j' : Option Code), W.heap[w.heap.size + 1]? = some (st s j) → Below n₀ W (W.putObj (w.heap.size + 1) (st s' j')) :=
      fun W s j s' j' h => belowK_b hn0 W _ _ _ (by omega) h (nc _ _) (nw _ _)
    refine (sides_in F (n - 1) h18 hro (by omega) (w.heap.size + 1) gr N n₀ hN hN4 hgr cv
      (fun k W => I k W ∧ W.heap[w.heap.size + 1]? = some (st .ready none) ∧ W.heap[w.heap.size]? = some (.deferred (some [])))
      (fun k W => Ix k W ∧ W.heap[w.heap.size + 1]? = some (st .done (some .ret)) ∧ W.heap[w.heap.size]? = some (.deferred (some [])))
      ?_ W1 (fun j hj => (hb1.cell (p := ⟨gr, j, none⟩) (Nat.lt_of_lt_of_le hgr hn0)).trans (hc j hj)) ⟨hI.alloc _ (hI.alloc _ h0), hL1, hK1⟩).mono ?_
    · rintro k W ⟨hi, hl, hk⟩ hlt
      have hs : w.heap.size + 1 < W.heap.size := (Array.getElem?_eq_some_iff.1 hl).1
      have hl' : W.heap[w.heap.size + 1]? = some (.loop { state := .ready, pending := none, fn, tmps := a.tmps, params := ps, assign, body, defers := w.heap.size }) := by rw [hl, hst]
      refine ⟨fn, _, assign, body, run_yield (P := Try.prog) (args := #[cv (prv N k), cv k]) hl' (by rw [hps]; rfl), roundIn_of_wpIn hfn (hassign _ k W _ ⟨W.putObj (w.heap.size + 1) (st .busy none), by rw [hst]; exact run_beginRound hl' rfl, ?_⟩)⟩
      have hl2 : (W.putObj (w.heap.size + 1) (st .busy none)).heap[w.heap.size + 1]? = some (st .busy none) := World.putObj_heap_same hs
      refine wpIn_mono (hbody _ k _ (step I hI k _ _ _ _ W hi hl) hlt) ?_
      rintro e a3 W3 hp
      have fin : ∀ jump : Option Code, KeepsOthers (W.putObj (w.heap.size + 1) (st .busy none)) W3 →
          (Instr.endRound (w.heap.size + 1) jump).run Try.prog W3 = .ok (.bool jump.isNone) (W3.putObj (w.heap.size + 1) (st (if jump.isNone then .ready else .done) jump)) ∧
          W3.heap[w.heap.size + 1]? = some (st .busy none) ∧ W3.heap[w.heap.size]? = some (.deferred (some [])) := fun jump hk3 => by
        have hl3 := hk3.same _ _ hl2 (nc _ _)
        refine ⟨?_, hl3, hk3.same _ _ (far W _ _ hk) rfl⟩
        rw [hst] at hl3 ⊢
        exact run_endRound (P := Try.prog) jump hl3
      cases e with
      | normal =>
        obtain ⟨hk3, hb3, hi3⟩ := hp
        obtain ⟨hr, hl3, hd3⟩ := fin none hk3
        exact ⟨_, _, hr, .inl ⟨rfl, ⟨step I hI _ _ _ _ _ W3 hi3 hl3, World.putObj_heap_same (Array.getElem?_eq_some_iff.1 hl3).1, far W3 _ _ hd3⟩, ((bel W _ _ _ _ hl).trans hb3).trans (bel W3 _ _ _ _ hl3)⟩⟩
      | ret =>
        obtain ⟨hk3, hi3⟩ := hp
        obtain ⟨hr, hl3, hd3⟩ := fin (some .ret) hk3
        exact ⟨_, _, hr, .inr ⟨rfl, step Ix hIx _ _ _ _ _ W3 hi3 hl3, World.putObj_heap_same (Array.getElem?_eq_some_iff.1 hl3).1, far W3 _ _ hd3⟩⟩
      | exit id => exact hp.elim
      | goto t => exact hp.elim
      | panic ch => exact hp.elim
      | outgrown => exact hp.elim
    · rintro e W2 ⟨⟨v, rfl⟩, (⟨hi, hl, hk⟩ | ⟨k, hlt, hi, hl, hk⟩)⟩
      · have hl' := hl
        rw [hst] at hl'
        exact ⟨none, _, run_endLoop (P := Try.prog) hl' (by simp), hdone _ _ (Nat.le_refl _) (hI.putObj _ hi (by omega) hl (nc _ _)) ((World.putObj_heap_other (by omega)).trans hk)⟩
      · have hl' := hl
        rw [hst] at hl'
        exact ⟨some .ret, _, run_endLoop (P := Try.prog) hl' (by simp), hstop _ k _ (Nat.le_refl _) hlt (hIx.putObj _ hi (by omega) hl (nc _ _)) ((World.putObj_heap_other (by omega)).trans hk)⟩
end Go.Proofs.Ytbcfbbeefkdpoaa
