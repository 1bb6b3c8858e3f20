/- A region that only reads, in a round of a range over a function, walked once; the walks over poly's ring.winds. -/
import Derived.Test.YtbcfbbeefkdpoaaOn
namespace Go.Proofs.Ytbcfbbeefkdpoaa
open Go.RowKit Go.Shelf Go.Proofs.YtbcfbbeefkdpoaaW.PrintWords Fl
set_option linter.unusedVariables false
set_option linter.unusedSimpArgs false
attribute [local go_sem] Oper.semAt_some run_store_float run_store_complex

section
variable {P : Program} {n l₀ : Nat} {ops : Array Oper} {Q : Exit → Act → World → Prop}

/-- What an operation comes to outside of a round, it comes to in a round of a fence that lets all in. -/
theorem wpIn_of_wp_op {o : Oper} {a : Act} {w : World} {K : Act → World → Prop} (hd : ∀ c, o.op ≠ .defer c) (hQ : ¬ LetsOut Q) (h : o.wp P a w K Q) : o.wpIn (Fence.wide.inRound l₀) n P a w K Q := by
  refine ⟨fun _ _ => trivial, ?_⟩
  unfold Oper.wp at h
  rw [Oper.semAt_eq _ _ _ hd]
  generalize (execOp a.eval o).run P w = r at *
  cases r with
  | ok x w' =>
    cases x <;> simp only [Oper.upon, Oper.uponIn] at h ⊢ <;>
      first
        | exact h
        | exact ⟨fun e => (by cases e), CallsIn.inRound l₀ ((callsIn_wide.2 h).mono fun e w'' he => by cases e <;> first | exact he | exact absurd he hQ)⟩
        | exact ⟨fun e => (by cases e), fun c cs _ => let ⟨v, w'', r, s⟩ := h c cs; ⟨v, w'', r, stepsIn_wide.2 s⟩⟩
  | halt x w' => cases x <;> simp only [Oper.upon, Oper.uponIn] at h ⊢ <;> exact h

theorem wpOpsIn_of_wpOps (hd : ∀ o ∈ ops, ∀ c, o.op ≠ .defer c) (hQ : ¬ LetsOut Q) : ∀ (l : List Nat) (a : Act) (w : World), wpOps P ops Q l a w → wpOpsIn (Fence.wide.inRound l₀) n P ops Q l a w := by
  intro l
  induction l with
  | nil => exact fun a w h => h
  | cons i rest ih =>
    intro a w h
    simp only [wpOps, wpOpsIn] at h ⊢
    cases ho : ops[i]? with
    | none => simp only [ho] at h ⊢; exact ih a w h
    | some o =>
      simp only [ho] at h ⊢
      by_cases hw : Region.wanted o (yielded ops a.tmps) = true
      · simp only [hw, if_true] at h ⊢
        rcases h with h | ⟨_, h⟩
        · exact wpIn_of_wp_op (hd o (Array.mem_of_getElem? ho)) hQ (Oper.wp_mono (fun a w => ih a w) h)
        · exact absurd h hQ
      · simp only [hw, Bool.false_eq_true, if_false] at h ⊢
        exact ⟨fun _ _ => trivial, ih _ _ h⟩

/-- A region that draws its order and only reads, in a round. -/
theorem wpIn_round_quiet {id : Nat} {a : Act} {w : World} {l : List Oper} (hm : P.follows .mixedOrders = true) (hB : Region.lexB .any l.toArray = true) (hd : (l.all fun o => match o.op with | .defer _ => false | _ => true) = true)
    (h : wpQuiet P l.toArray (fun w' => ∃ n, w' = w.drewN n) (fun a' => ∀ w', (∃ n, w' = w.drewN n) → Q .normal a' w') l a) : (Code.region id l.toArray true).wpIn (Fence.wide.inRound l₀) n P Q a w := by
  refine wpIn_mono (Q := fun e a w => e = .normal ∧ Q .normal a w) (wpIn_region_draw fun t => ?_) (fun e a w h => by rw [h.1]; exact h.2)
  have hB' := hB
  simp only [Region.lexB, Bool.and_eq_true] at hB'
  have h1 := wpAnyQ_lex (C := fun w' => ∃ n, w' = w.drewN n) (md := .any) hB'.1 l 0 (Array.replicate l.toArray.size false) a (by simp) (by simpa using hB'.2) h
  have h2 := wpAny_of_quiet (P := P) (md := .any) (ops := l.toArray) (C := fun w' => ∃ n, w' = w.drewN n) (Q := fun a' => ∀ w', (∃ n, w' = w.drewN n) → Q .normal a' w')
    (Q' := fun e a w => e = .normal ∧ Q .normal a w) (fun _ w' hw' h => ⟨rfl, h w' hw'⟩) l.toArray.size (Array.replicate l.toArray.size false) a { w with drawn := w.drawn + 1 } ⟨1, rfl⟩ (by simpa using h1)
  have h3 := wpAny_sound l.toArray.size t _ a _ h2
  simp only [Region.schedule, hm, Bool.true_or, if_true]
  refine wpOpsIn_of_wpOps (fun o ho c e => ?_) (fun ⟨_, _, h⟩ => by cases h.1) _ _ _ h3
  have := List.all_eq_true.1 hd o (by simpa using ho)
  rw [e] at this
  cases this
end

theorem keepsN (W : World) (m : Nat) : KeepsOthers W (W.drewN m) := ⟨Nat.le_refl _, fun _ _ h _ => h⟩
def upB (f t z : Int × Int) : Bool := decide (f.2 ≤ z.2) && decide (z.2 < t.2)
def downB (f t z : Int × Int) : Bool := decide (z.2 < f.2) && decide (t.2 ≤ z.2)
def wind1 (f t z : Int × Int) : Int := if upB f t z && decide (0 < leftOf f t z) then 1 else if downB f t z && decide (leftOf f t z < 0) then -1 else 0
def windK (ps : List (Int × Int)) (z : Int × Int) (k : Nat) : Int := wind1 (sideA ps k) (sideB ps k) z
def windsOf (ps : List (Int × Int)) (z : Int × Int) : Int := addUp (windK ps z) ps.length
theorem wind1_bound (f t z : Int × Int) : -1 ≤ wind1 f t z ∧ wind1 f t z ≤ 1 := by
  unfold wind1; split <;> (try split) <;> omega

/-- What the loop's body in winds comes to: the count behind it. -/
def WStep (b : Nat) (n : Int) (W W' : World) : Prop := W'.cell? ⟨b, 0, none⟩ = some (.int .i64 n)

set_option maxRecDepth 100000 in
set_option maxHeartbeats 4000000 in
theorem winds_any (g N a b : Nat) (ps : List (Int × Int)) (z : Int × Int) (w : World) (hg : RingAt w g ps) (hN : ps.length = N) (h1 : 1 ≤ N) (h4 : N ≤ 400) (hs : SmAll ps) (hz : CxIs a b z) (sz : Sm z) :
    Calls Try.prog 21 #[.slice (some ⟨g, 0, none⟩) N N, .complex .f64 a b] w fun e w' => e = .returned (.int .i64 (windsOf ps z)) ∧ Below w.heap.size w w' := by
  subst hN
  obtain ⟨FA, FB, hF⟩ := hg.fns
  have hgl := hg.1
  have HF := Lib.hid hF
  have HSm := Lib.hid hs
  have HZ := Lib.hid hz
  have HSz := Lib.hid sz
  clear hg hF hs hz sz
  refine (callsIn_wide (n := 3)).1 ?_
  refine callsIn_of_wp_marks Try.func21 rfl trivial ?_ rfl
  simp only [Try.ntmps21, List.size_toArray, List.length_cons, List.length_nil, Nat.reduceAdd, Nat.reduceSub, Array.replicate_succ, Array.replicate_zero, List.push_toArray, List.append_toArray, List.nil_append, List.cons_append]
  gi_wp2
  have c0 := cell_new_l w (.complex .f64 a b) 52
  have c1 := cell_new_l (w.alloc (.cells #[.complex .f64 a b] 52)) (.int .i64 0) 3
  simp only [World.size_alloc] at c1
  have hB0 : Below w.heap.size w ((w.alloc (.cells #[.complex .f64 a b] 52)).alloc (.cells #[.int .i64 0] 3)) := ((Below.refl _ w).alloc (Nat.le_refl _) _).alloc (by simp) _
  refine wp_sides rfl (by omega) trivial g ps.length w.heap.size (fun j => .complex .f64 (FA j) (FB j)) h1 h4 hgl (by simp; omega) rfl
    (fun j hj => cell_alloc_l _ (cell_alloc_l _ (HF.out j hj).1))
    (fun k W => (W.cell? ⟨w.heap.size, 0, none⟩ = some (.complex .f64 a b) ∧ W.cell? ⟨w.heap.size + 1, 0, none⟩ = some (.int .i64 (addUp (windK ps z) k)) ∧ W.frozen? ⟨w.heap.size + 1, 0, none⟩ = false) ∧ Below w.heap.size w W)
    (fun k W => False)
    (OwnFrom.and (Own.from (fun s A B row hs hg hr => ⟨cell_kept hs.1 hg hr, cell_kept hs.2.1 hg hr, (frozen_kept hs.2.1 hg hr).trans hs.2.2⟩) _) (ownFrom_below (Nat.le_refl _) (by simp; omega)))
    (fun _ _ _ _ hs _ _ => hs)
    ⟨⟨cell_alloc_l _ c0.1, c1.1, c1.2⟩, hB0⟩
    (fun k => { tmps := #[.slice (some ⟨g, 0, none⟩) ps.length ps.length, .complex .f64 a b, undef, .pointer (some ⟨w.heap.size, 0, none⟩), .int .i64 0, .pointer (some ⟨w.heap.size + 1, 0, none⟩), .complex .f64 (FA (prv ps.length k)) (FB (prv ps.length k)), .complex .f64 (FA k) (FB k), undef, undef, undef,
      .slice (some ⟨g, 0, none⟩) ps.length ps.length, .func (.func 18) #[.slice (some ⟨g, 0, none⟩) ps.length ps.length] #[], .complex .f64 (FA (prv ps.length k)) (FB (prv ps.length k)), .complex .f64 (FA k) (FB k), undef, undef, undef, undef, undef, undef, undef, undef, undef, undef, undef, undef, undef, undef, undef, undef, undef, undef, undef, undef, undef, undef, undef, undef, undef, undef, undef, undef, undef, undef, undef, undef, undef, undef, undef, undef, undef, undef, undef, undef, undef, undef, undef, undef, undef, undef, undef, undef], defers := [] }) rfl ?assign ?body ?done ?stop
  case assign =>
    intro l' k W K hK
    gi_wp2
    exact hK
  case body =>
    rintro l' k W ⟨⟨hc0, hc1, hf1⟩, hB⟩ hk
    have hp : prv ps.length k < ps.length := by unfold prv; split <;> omega
    obtain ⟨m1, n1, i1, r1⟩ := csub_any _ _ _ _ _ _ (HF.out k hk).2 (HF.out _ hp).2 (HSm.out.getD k) (HSm.out.getD (prv ps.length k))
    obtain ⟨m2, n2, i2, r2⟩ := csub_any _ _ _ _ _ _ HZ.out (HF.out _ hp).2 HSz.out (HSm.out.getD (prv ps.length k))
    have sf := HSm.out.getD (prv ps.length k)
    have st := HSm.out.getD k
    have sz := HSz.out
    have sA : sideA ps k = ps.getD (prv ps.length k) (0, 0) := rfl
    have sB : sideB ps k = ps.getD k (0, 0) := rfl
    have f2 := (HF.out _ hp).2.2
    have t2 := (HF.out _ hk).2.2
    rw [← sA] at i1 i2 sf f2
    rw [← sB] at i1 st t2
    unfold Sm at sf st sz
    obtain ⟨r, ir, C1⟩ := left_any m1 n1 m2 n2 _ _ i1 i2 ⟨by dsimp only; omega, by dsimp only; omega⟩ ⟨by dsimp only; omega, by dsimp only; omega⟩ ⟨by dsimp only; omega, by dsimp only; omega⟩ ⟨by dsimp only; omega, by dsimp only; omega⟩
    have el : crs ((sideB ps k).1 - (sideA ps k).1, (sideB ps k).2 - (sideA ps k).2).1 ((sideB ps k).1 - (sideA ps k).1, (sideB ps k).2 - (sideA ps k).2).2 (z.1 - (sideA ps k).1, z.2 - (sideA ps k).2).1 (z.1 - (sideA ps k).1, z.2 - (sideA ps k).2).2 = leftOf (sideA ps k) (sideB ps k) z := rfl
    rw [el] at ir
    have q1 := fleq f2 HZ.out.2
    have q2 := fgtr t2 HZ.out.2
    have q3 := fgtr f2 HZ.out.2
    have q4 := fleq t2 HZ.out.2
    have q5 := fgtr ir is_zero
    have q6 := flss ir is_zero
    have hb0 := addUp_bound (windK ps z) 1 (fun j => wind1_bound _ _ _) k
    have hb1 : -400 ≤ addUp (windK ps z) k ∧ addUp (windK ps z) k ≤ 400 := by omega
    obtain ⟨v, hv⟩ : ∃ v, addUp (windK ps z) k = v := ⟨_, rfl⟩
    rw [hv] at hc1 hb1
    obtain ⟨hv1, hv2⟩ := hb1
    have HV := Lib.hid hv
    have hn1 : 1 ≤ 3 - 1 - 1 := by omega
    have step : ∀ (d : Int) (W' : World), windK ps z k = d → W'.cell? ⟨w.heap.size + 1, 0, none⟩ = some (.int .i64 (v + d)) → W'.cell? ⟨w.heap.size + 1, 0, none⟩ = some (.int .i64 (addUp (windK ps z) (k + 1))) := by
      intro d W' hd h
      rw [h]; unfold addUp; rw [HV.out, hd]
    have Step := Lib.hid step
    have hB1 := hB.setCell (p := ⟨w.heap.size + 1, 0, none⟩) (by simp)
    have HB1 := Lib.hid hB1
    clear hp i1 i2 sf st sz sA sB f2 t2 el hb0 hv ir step hB1
    have keep : ∀ m, KeepsOthers W (W.drewN m) := fun m => ⟨Nat.le_refl _, fun _ _ h _ => h⟩
    have Keep := Lib.hid keep
    clear keep
    have hu : upB (sideA ps k) (sideB ps k) z = (decide ((sideA ps k).2 ≤ z.2) && decide (z.2 < (sideB ps k).2)) := rfl
    have hd : downB (sideA ps k) (sideB ps k) z = (decide (z.2 < (sideA ps k).2) && decide ((sideB ps k).2 ≤ z.2)) := rfl
    have hw : windK ps z k = if upB (sideA ps k) (sideB ps k) z && decide (0 < leftOf (sideA ps k) (sideB ps k) z) then 1 else if downB (sideA ps k) (sideB ps k) z && decide (leftOf (sideA ps k) (sideB ps k) z < 0) then -1 else 0 := rfl
    by_cases u1 : (sideA ps k).2 ≤ z.2
    · have u3 : ¬ z.2 < (sideA ps k).2 := by omega
      by_cases u2 : z.2 < (sideB ps k).2
      · have u4 : ¬ (sideB ps k).2 ≤ z.2 := by omega
        by_cases x5 : 0 < leftOf (sideA ps k) (sideB ps k) z
        · have HW : Hid (windK ps z k = 1) := Lib.hid (by rw [hw, hu, hd]; simp [u1, u2, u3, u4, x5])
          rw [decide_eq_true u1] at q1
          rw [decide_eq_true u2] at q2
          rw [decide_eq_false u3] at q3
          rw [decide_eq_false u4] at q4
          rw [decide_eq_true x5] at q5
          clear hw hu hd u1 u2 u3 u4 x5 q6
          gi_wp2_with (refine ⟨trivial, ?_⟩; gi_at_call 19; refine (CallsIn.inRound l' (callsIn_wide.2 (C1 _))).mono ?_; rintro e w' ⟨rfl, rfl⟩)
          refine wpIn_round_quiet Try.mixed (by kernel_rfl) (by kernel_rfl) ?_
          repeat (first | go_big_quiet_step (fail) | quiet_step (fail))
          refine wpQuiet_nil ?_
          intro _ hw'
          obtain ⟨nq, hw''⟩ := hw'
          subst hw''
          gi_wp2
          refine ⟨(KeepsOthers.setCell W ⟨w.heap.size + 1, 0, none⟩ (.int .i64 (v + 1))).trans (keepsN _ _), pw_below_drewN ((Below.refl w.heap.size W).setCell (p := ⟨w.heap.size + 1, 0, none⟩) (by simp) _) _, ⟨?_, Step.out 1 _ HW.out ?_, ?_⟩, pw_below_drewN (HB1.out _) _⟩
          · show (W.setCell _ _).cell? _ = _
            exact (World.cell?_setCell_other W _ _ _ (by simp)).trans hc0
          · show (W.setCell _ _).cell? _ = _
            exact World.cell?_setCell_same' _ _ _ (by rw [hc1]; rfl)
          · show (W.setCell _ _).frozen? _ = false
            rw [World.frozen?_setCell]; exact hf1
        · have HW : Hid (windK ps z k = 0) := Lib.hid (by rw [hw, hu, hd]; simp [u1, u2, u3, u4, x5])
          rw [decide_eq_true u1] at q1
          rw [decide_eq_true u2] at q2
          rw [decide_eq_false u3] at q3
          rw [decide_eq_false u4] at q4
          rw [decide_eq_false x5] at q5
          clear hw hu hd u1 u2 u3 u4 x5 q6
          gi_wp2_with (refine ⟨trivial, ?_⟩; gi_at_call 19; refine (CallsIn.inRound l' (callsIn_wide.2 (C1 _))).mono ?_; rintro e w' ⟨rfl, rfl⟩)
          refine wpIn_round_quiet Try.mixed (by kernel_rfl) (by kernel_rfl) ?_
          repeat (first | go_big_quiet_step (fail) | quiet_step (fail))
          refine wpQuiet_nil ?_
          intro _ hw'
          obtain ⟨nq, hw''⟩ := hw'
          subst hw''
          gi_wp2
          exact ⟨Keep.out _, pw_below_drewN (Below.refl w.heap.size W) _, ⟨hc0, Step.out 0 _ HW.out (by rw [Int.add_zero]; exact hc1), hf1⟩, pw_below_drewN hB _⟩
      · have u4 : (sideB ps k).2 ≤ z.2 := by omega
        have HW : Hid (windK ps z k = 0) := Lib.hid (by rw [hw, hu, hd]; simp [u1, u2, u3, u4])
        rw [decide_eq_true u1] at q1
        rw [decide_eq_false u2] at q2
        rw [decide_eq_false u3] at q3
        rw [decide_eq_true u4] at q4
        clear hw hu hd u1 u2 u3 u4 q5 q6
        gi_wp2_with (refine ⟨trivial, ?_⟩; gi_at_call 19; refine (CallsIn.inRound l' (callsIn_wide.2 (C1 _))).mono ?_; rintro e w' ⟨rfl, rfl⟩)
        refine wpIn_round_quiet Try.mixed (by kernel_rfl) (by kernel_rfl) ?_
        repeat (first | go_big_quiet_step (fail) | quiet_step (fail))
        refine wpQuiet_nil ?_
        intro _ hw'
        obtain ⟨nq, hw''⟩ := hw'
        subst hw''
        gi_wp2
        exact ⟨Keep.out _, pw_below_drewN (Below.refl w.heap.size W) _, ⟨hc0, Step.out 0 _ HW.out (by rw [Int.add_zero]; exact hc1), hf1⟩, pw_below_drewN hB _⟩
    · have u3 : z.2 < (sideA ps k).2 := by omega
      by_cases u2 : z.2 < (sideB ps k).2
      · have u4 : ¬ (sideB ps k).2 ≤ z.2 := by omega
        have HW : Hid (windK ps z k = 0) := Lib.hid (by rw [hw, hu, hd]; simp [u1, u2, u3, u4])
        rw [decide_eq_false u1] at q1
        rw [decide_eq_true u2] at q2
        rw [decide_eq_true u3] at q3
        rw [decide_eq_false u4] at q4
        clear hw hu hd u1 u2 u3 u4 q5 q6
        gi_wp2_with (refine ⟨trivial, ?_⟩; gi_at_call 19; refine (CallsIn.inRound l' (callsIn_wide.2 (C1 _))).mono ?_; rintro e w' ⟨rfl, rfl⟩)
        refine wpIn_round_quiet Try.mixed (by kernel_rfl) (by kernel_rfl) ?_
        repeat (first | go_big_quiet_step (fail) | quiet_step (fail))
        refine wpQuiet_nil ?_
        intro _ hw'
        obtain ⟨nq, hw''⟩ := hw'
        subst hw''
        gi_wp2
        exact ⟨Keep.out _, pw_below_drewN (Below.refl w.heap.size W) _, ⟨hc0, Step.out 0 _ HW.out (by rw [Int.add_zero]; exact hc1), hf1⟩, pw_below_drewN hB _⟩
      · have u4 : (sideB ps k).2 ≤ z.2 := by omega
        by_cases x6 : leftOf (sideA ps k) (sideB ps k) z < 0
        · have HW : Hid (windK ps z k = -1) := Lib.hid (by rw [hw, hu, hd]; simp [u1, u2, u3, u4, x6])
          rw [decide_eq_false u1] at q1
          rw [decide_eq_false u2] at q2
          rw [decide_eq_true u3] at q3
          rw [decide_eq_true u4] at q4
          rw [decide_eq_true x6] at q6
          clear hw hu hd u1 u2 u3 u4 x6 q5
          gi_wp2_with (refine ⟨trivial, ?_⟩; gi_at_call 19; refine (CallsIn.inRound l' (callsIn_wide.2 (C1 _))).mono ?_; rintro e w' ⟨rfl, rfl⟩)
          refine wpIn_round_quiet Try.mixed (by kernel_rfl) (by kernel_rfl) ?_
          repeat (first | go_big_quiet_step (fail) | quiet_step (fail))
          refine wpQuiet_nil ?_
          intro _ hw'
          obtain ⟨nq, hw''⟩ := hw'
          subst hw''
          gi_wp2
          refine ⟨(KeepsOthers.setCell W ⟨w.heap.size + 1, 0, none⟩ (.int .i64 (v - 1))).trans (keepsN _ _), pw_below_drewN ((Below.refl w.heap.size W).setCell (p := ⟨w.heap.size + 1, 0, none⟩) (by simp) _) _, ⟨?_, Step.out (-1) _ HW.out ?_, ?_⟩, pw_below_drewN (HB1.out _) _⟩
          · show (W.setCell _ _).cell? _ = _
            exact (World.cell?_setCell_other W _ _ _ (by simp)).trans hc0
          · show (W.setCell _ _).cell? _ = _
            exact World.cell?_setCell_same' _ _ _ (by rw [hc1]; rfl)
          · show (W.setCell _ _).frozen? _ = false
            rw [World.frozen?_setCell]; exact hf1
        · have HW : Hid (windK ps z k = 0) := Lib.hid (by rw [hw, hu, hd]; simp [u1, u2, u3, u4, x6])
          rw [decide_eq_false u1] at q1
          rw [decide_eq_false u2] at q2
          rw [decide_eq_true u3] at q3
          rw [decide_eq_true u4] at q4
          rw [decide_eq_false x6] at q6
          clear hw hu hd u1 u2 u3 u4 x6 q5
          gi_wp2_with (refine ⟨trivial, ?_⟩; gi_at_call 19; refine (CallsIn.inRound l' (callsIn_wide.2 (C1 _))).mono ?_; rintro e w' ⟨rfl, rfl⟩)
          refine wpIn_round_quiet Try.mixed (by kernel_rfl) (by kernel_rfl) ?_
          repeat (first | go_big_quiet_step (fail) | quiet_step (fail))
          refine wpQuiet_nil ?_
          intro _ hw'
          obtain ⟨nq, hw''⟩ := hw'
          subst hw''
          gi_wp2
          exact ⟨Keep.out _, pw_below_drewN (Below.refl w.heap.size W) _, ⟨hc0, Step.out 0 _ HW.out (by rw [Int.add_zero]; exact hc1), hf1⟩, pw_below_drewN hB _⟩
  case done =>
    rintro D W hD ⟨⟨hcz, hcr, hfr⟩, hB⟩ hK
    have hcw : W.cell? ⟨w.heap.size + 1, 0, none⟩ = some (.int .i64 (windsOf ps z)) := hcr
    clear hcr
    gi_wp2
    refine ⟨by simp, .inl ⟨_, _, rfl, run_takeDeferred hK, ?_⟩⟩
    exact ⟨_, results_tmp rfl _ _ _, rfl, hB.trans (belowK_b (w := w) (Nat.le_refl _) W D _ _ (by simp at hD; omega) hK rfl rfl)⟩
  case stop =>
    intro D k W _ _ h _
    exact h.elim
end Go.Proofs.Ytbcfbbeefkdpoaa
