/- The walk over poly.Area. -/
import Derived.Test.YtbcfbbeefkdpoaaSi
import Derived.OneCell
namespace Go.Proofs.Ytbcfbbeefkdpoaa
open Go.RowKit Go.Shelf Go.Proofs.YtbcfbbeefkdpoaaW.PrintWords Fl
set_option linter.unusedVariables false
set_option linter.unusedSimpArgs false
attribute [local go_sem] Oper.semAt_some run_store_float run_store_complex

theorem cell_new_l (W : World) (v : Value) (t : TypeId) : (W.alloc (.cells #[v] t)).cell? ⟨W.heap.size, 0, none⟩ = some v ∧ (W.alloc (.cells #[v] t)).frozen? ⟨W.heap.size, 0, none⟩ = false :=
  ⟨cell_of_one (World.alloc_heap_new W _), free_of_one (World.alloc_heap_new W _)⟩
theorem cell_alloc_l {W : World} {a : Addr} {v : Value} (o : Obj) (h : W.cell? a = some v) : (W.alloc o).cell? a = some v := cell_kept h (World.grownBy_alloc W o none) (fun r e => by cases e)
theorem frozen_alloc_l {W : World} {a : Addr} {v : Value} (o : Obj) (h : W.cell? a = some v) (hf : W.frozen? a = false) : (W.alloc o).frozen? a = false := (frozen_kept h (World.grownBy_alloc W o none) (fun r e => by cases e)).trans hf

theorem RingAt.fns {w : World} {g : Nat} {ps : List (Int × Int)} (h : RingAt w g ps) : ∃ A B : Nat → Nat, ∀ j, j < ps.length → w.cell? ⟨g, j, none⟩ = some (.complex .f64 (A j) (B j)) ∧ CxIs (A j) (B j) (ps.getD j (0, 0)) := by
  have hex : ∀ j, ∃ ab : Nat × Nat, j < ps.length → w.cell? ⟨g, j, none⟩ = some (.complex .f64 ab.1 ab.2) ∧ CxIs ab.1 ab.2 (ps.getD j (0, 0)) := by
    intro j
    by_cases hj : j < ps.length
    · obtain ⟨v, hv, a, b, rfl, hc⟩ := h.2 j ps[j] (List.getElem?_eq_getElem hj)
      exact ⟨(a, b), fun _ => ⟨hv, by rw [List.getD_eq_getElem?_getD, List.getElem?_eq_getElem hj]; exact hc⟩⟩
    · exact ⟨(0, 0), fun h => absurd h hj⟩
  obtain ⟨f, hf⟩ := Classical.axiomOfChoice hex
  exact ⟨fun j => (f j).1, fun j => (f j).2, hf⟩

/-- The side that ends at k. -/
def sideA (ps : List (Int × Int)) (k : Nat) : Int × Int := ps.getD (prv ps.length k) (0, 0)
def sideB (ps : List (Int × Int)) (k : Nat) : Int × Int := ps.getD k (0, 0)
/-- What a number of sides adds up to. -/
def addUp (f : Nat → Int) : Nat → Int
  | 0 => 0
  | k + 1 => addUp f k + f k
def cr2 (ps : List (Int × Int)) (k : Nat) : Int := crs (sideA ps k).1 (sideA ps k).2 (sideB ps k).1 (sideB ps k).2
def areaOf (ps : List (Int × Int)) : Int := addUp (cr2 ps) ps.length
def SmAll (ps : List (Int × Int)) : Prop := ∀ p ∈ ps, Sm p

theorem SmAll.getD {ps : List (Int × Int)} (h : SmAll ps) (k : Nat) : Sm (ps.getD k (0, 0)) := by
  rw [List.getD_eq_getElem?_getD]
  cases e : ps[k]? with
  | none => exact ⟨by decide, by decide, by decide, by decide⟩
  | some p => exact h p (List.mem_of_getElem? e)

theorem addUp_bound (f : Nat → Int) (B : Int) (h : ∀ k, -B ≤ f k ∧ f k ≤ B) : ∀ n : Nat, -(n * B) ≤ addUp f n ∧ addUp f n ≤ n * B := by
  intro n
  induction n with
  | zero => simp [addUp]
  | succ n ih =>
    have := h n
    simp only [addUp, Int.natCast_succ, Int.add_mul, Int.one_mul]
    omega
theorem crs_bound {p q : Int × Int} (hp : Sm p) (hq : Sm q) : -2199023255552 ≤ crs p.1 p.2 q.1 q.2 ∧ crs p.1 p.2 q.1 q.2 ≤ 2199023255552 := by
  unfold Sm at hp hq
  have := crossBound p.1 p.2 q.1 q.2 0 (by omega) (by omega) (by omega) (by omega)
  unfold crs
  omega
theorem part_bound {ps : List (Int × Int)} (hs : SmAll ps) (k : Nat) (hk : k ≤ 400) : -879609302220800 ≤ addUp (cr2 ps) k ∧ addUp (cr2 ps) k ≤ 879609302220800 := by
  have := addUp_bound (cr2 ps) 2199023255552 (fun j => crs_bound (hs.getD _) (hs.getD _)) k
  omega

theorem okPt_sm {xs : List Int} (h : okPt xs = true) (hn : Nat0 xs) : Sm (pt xs) := by
  unfold okPt at h
  simp at h
  obtain ⟨⟨h1, h2⟩, h3⟩ := h
  match xs, h1 with
  | [x, y], _ =>
    have a := hn x (by simp)
    have b := hn y (by simp)
    exact ⟨a, h2, b, h3⟩
theorem okRing_sm {l : List (List Int)} (h : okRing l = true) (hn : Nats l) : SmAll (l.map pt) := by
  intro p hp
  obtain ⟨xs, hx, rfl⟩ := List.mem_map.1 hp
  unfold okRing at h
  simp only [Bool.and_eq_true, List.all_eq_true] at h
  exact okPt_sm (h.2 xs hx) (hn xs hx)
theorem okRing_len {l : List (List Int)} (h : okRing l = true) : 3 ≤ l.length ∧ l.length ≤ 400 := by
  unfold okRing at h
  simp only [Bool.and_eq_true, decide_eq_true_eq] at h
  exact ⟨h.1.1, h.1.2⟩

theorem open_any (A : Option Addr) (c : Nat) (l : List (List Int)) (w : World) (hr : RR w A l) (hn : Nats l) :
    Calls Try.prog 17 #[.slice A l.length c] w fun e w' => OpenPost l w e w' ∧ Below w.heap.size w w' := by
  by_cases h : 3 ≤ l.length ∧ l.length ≤ 400
  · exact open_long A c l w h.1 h.2 hr hn
  · exact open_short A c l w (by omega) hr.2.1
theorem open_yes (A : Option Addr) (c : Nat) (l : List (List Int)) (w : World) (hr : RR w A l) (hn : Nats l) (hok : okRing l = true) :
    Calls Try.prog 17 #[.slice A l.length c] w fun e w' => ∃ g, e = .returned (.tuple #[.slice (some ⟨g, 0, none⟩) l.length l.length, .int .i64 0]) ∧ RingAt w' g (l.map pt) ∧ Below w.heap.size w w' := by
  refine (open_any A c l w hr hn).mono ?_
  rintro e w' ⟨⟨_, g, he, hg⟩ | ⟨h, _⟩, hb⟩
  · exact ⟨g, he, hg, hb⟩
  · rw [hok] at h; exact absurd h (by decide)
theorem open_no (A : Option Addr) (c : Nat) (l : List (List Int)) (w : World) (hr : RR w A l) (hn : Nats l) (hok : okRing l = false) :
    Calls Try.prog 17 #[.slice A l.length c] w fun e w' => e = .returned (.tuple #[.slice none 0 0, .int .i64 9]) ∧ Below w.heap.size w w' := by
  refine (open_any A c l w hr hn).mono ?_
  rintro e w' ⟨⟨h, _⟩ | ⟨_, he⟩, hb⟩
  · rw [hok] at h; exact absurd h (by decide)
  · exact ⟨he, hb⟩

theorem area_no (A : Option Addr) (c : Nat) (l : List (List Int)) (w : World) (hr : RR w A l) (hn : Nats l) (hok : okRing l = false) :
    Calls Try.prog 10 #[.slice A l.length c] w fun e w' => e = .returned (.tuple #[.int .i64 0, .int .i64 9]) ∧ Below w.heap.size w w' := by
  have C1 := open_no A c l w hr hn hok
  clear hr hn hok
  go_enter Try.func10, Try.ntmps10
  go_wp2_with (go_at_call 17; refine C1.mono ?_; rintro e w' ⟨rfl, hb⟩)
  go_ret2
  exact ⟨rfl, hb⟩

theorem Try.mixed : Try.prog.follows .mixedOrders = true := by kernel_rfl

set_option maxRecDepth 100000 in
set_option maxHeartbeats 2000000 in
theorem area_yes (A : Option Addr) (c : Nat) (l : List (List Int)) (w : World) (hr : RR w A l) (hn : Nats l) (hok : okRing l = true) :
    Calls Try.prog 10 #[.slice A l.length c] w fun e w' => e = .returned (.tuple #[.int .i64 (areaOf (l.map pt)), .int .i64 0]) ∧ Below w.heap.size w w' := by
  have C1 := open_yes A c l w hr hn hok
  have hlen := okRing_len hok
  have hsm := okRing_sm hok hn
  have HLen := Lib.hid hlen
  have HSm := Lib.hid hsm
  have HLt : l.length ≤ 400 := hlen.2
  have HLo : 1 ≤ l.length := by omega
  clear hr hn hok hlen hsm
  refine (callsIn_wide (n := 3)).1 ?_
  refine callsIn_of_wp_marks Try.func10 rfl trivial ?_ rfl
  simp only [Try.ntmps10, List.size_toArray, List.length_cons, List.length_nil, Nat.reduceAdd, Nat.reduceSub, Array.replicate_succ, Array.replicate_zero, List.push_toArray, List.append_toArray, List.nil_append, List.cons_append]
  gi_wp2_with (refine ⟨trivial, ?_⟩; gi_at_call 17; refine (callsIn_wide.2 C1).mono ?_; rintro e w1 ⟨g, rfl, hg, hb⟩; have HG := Lib.hid hg; clear hg C1)
  obtain ⟨FA, FB, hF⟩ := HG.out.fns
  have hgl := HG.out.1
  have hz := hb.size
  have hs := cell_new_l w1 (.float .f64 0) 50
  have hF2 : ∀ j, j < l.length → w1.cell? ⟨g, j, none⟩ = some (.complex .f64 (FA j) (FB j)) ∧ CxIs (FA j) (FB j) ((l.map pt).getD j (0, 0)) := fun j hj => hF j (by simpa using hj)
  have HF := Lib.hid hF2
  clear hF hF2
  have hB0 : Below w.heap.size w (w1.alloc (.cells #[.float .f64 0] 50)) := hb.alloc hz _
  refine wp_sides rfl (by omega) trivial g l.length w1.heap.size (fun j => .complex .f64 (FA j) (FB j)) HLo HLt hgl (by simp) rfl
    (fun j hj => cell_alloc_l _ (HF.out j hj).1)
    (fun k W => (∃ r, W.cell? ⟨w1.heap.size, 0, none⟩ = some (.float .f64 r) ∧ W.frozen? ⟨w1.heap.size, 0, none⟩ = false ∧ Is r (addUp (cr2 (l.map pt)) k)) ∧ Below w.heap.size w W)
    (fun _ _ => False)
    (OwnFrom.and (Own.from (fun s A B row hs hg hr => by obtain ⟨r, h1, h2, h3⟩ := hs; exact ⟨r, cell_kept h1 hg hr, (frozen_kept h1 hg hr).trans h2, h3⟩) _) (ownFrom_below (Nat.le_refl _) (by simp; omega)))
    (fun _ _ _ _ hs _ _ => hs)
    ⟨⟨0, hs.1, hs.2, is_zero⟩, hB0⟩
    (fun k => { tmps := #[.slice A l.length c, undef, .int .i64 0, .int .i64 0, .slice (some ⟨g, 0, none⟩) l.length l.length, .int .i64 0, .pointer (some ⟨w1.heap.size, 0, none⟩), .complex .f64 (FA (prv l.length k)) (FB (prv l.length k)), .complex .f64 (FA k) (FB k),
      .tuple #[.slice (some ⟨g, 0, none⟩) l.length l.length, .int .i64 0], .slice A l.length c, .tuple #[.slice (some ⟨g, 0, none⟩) l.length l.length, .int .i64 0], .slice (some ⟨g, 0, none⟩) l.length l.length, .int .i64 0, .int .i64 0, .bool false, undef, .slice (some ⟨g, 0, none⟩) l.length l.length,
      .func (.func 18) #[.slice (some ⟨g, 0, none⟩) l.length l.length] #[], .complex .f64 (FA (prv l.length k)) (FB (prv l.length k)), .complex .f64 (FA k) (FB k), undef, undef, undef, undef, undef, undef, undef], defers := [] }) rfl ?assign ?body ?done ?stop
  case assign =>
    intro l' k W K hK
    gi_wp2
    exact hK
  case body =>
    rintro l' k W ⟨⟨r, h1, h2, h3⟩, hB⟩ hk
    have hp : prv l.length k < l.length := by unfold prv; split <;> omega
    obtain ⟨q, hq, C2⟩ := left_any (FA (prv l.length k)) (FB (prv l.length k)) (FA k) (FB k) _ _ (HF.out _ hp).2 (HF.out k hk).2 (by have := (HSm.out.getD (prv l.length k)); unfold Sm at this; omega) (by have := (HSm.out.getD (prv l.length k)); unfold Sm at this; omega) (by have := (HSm.out.getD k); unfold Sm at this; omega) (by have := (HSm.out.getD k); unfold Sm at this; omega)
    have hb1 := part_bound HSm.out k (by omega)
    have hb2 := part_bound HSm.out (k + 1) (by omega)
    have hq' : Is q (cr2 (l.map pt) k) := by unfold cr2 sideA sideB; rw [List.length_map]; exact hq
    have hsum : addUp (cr2 (l.map pt)) (k + 1) = addUp (cr2 (l.map pt)) k + cr2 (l.map pt) k := rfl
    rw [hsum] at hb2
    obtain ⟨z, e1, h4⟩ := is_add h3 hq' (by omega) (by omega)
    have radd : ∀ t w, (binOp .add t (.float .f64 r) (.float .f64 q)).run Try.prog w = .ok (.float .f64 z) w := fun t w => run_float_arith w .add t .f64 _ _ _ e1
    have H4 := Lib.hid h4
    have mx := Try.mixed
    have hn1 : 1 ≤ 3 - 1 - 1 := by omega
    clear hp hq hb1 hb2 hq' hsum e1 h3 h4
    gi_wp2
    gi_region_with_o ((refine ⟨trivial, ?_⟩; gi_at_call 19; refine (CallsIn.inRound l' (callsIn_wide.2 (C2 _))).mono ?_; rintro e w' ⟨rfl, rfl⟩))
    all_goals gi_wp2
    all_goals
      refine ⟨(KeepsOthers.setCell _ _ _).trans (KeepsOthers.drew _), ((Below.refl w1.heap.size W).setCell (p := ⟨w1.heap.size, 0, none⟩) (Nat.le_refl _) _).drew, ⟨z, ?_, ?_, H4.out⟩, (hB.setCell (p := ⟨w1.heap.size, 0, none⟩) hz _).drew⟩
      · exact World.cell?_setCell_same' _ _ _ (by rw [h1]; rfl)
      · show (W.setCell _ _).frozen? _ = false
        rw [World.frozen?_setCell]; exact h2
  case done =>
    rintro D W hD ⟨⟨r, h1, h2, h3⟩, hB⟩ hK
    have hi := is_toInt h3
    have hb1 := part_bound HSm.out l.length (by omega)
    have eA : addUp (cr2 (l.map pt)) l.length = areaOf (l.map pt) := by unfold areaOf; rw [List.length_map]
    have hcv : floatToIntVal .f64 r .i64 = some (areaOf (l.map pt)) := by
      unfold floatToIntVal
      have : (FloatKind.f64.decode r).toInt .zero = some (addUp (cr2 (l.map pt)) l.length) := hi
      rw [this, eA]
      rw [eA] at hb1
      simp only []
      rw [if_pos (by rw [show IntKind.i64.min = -9223372036854775808 by decide, show IntKind.i64.max = 9223372036854775807 by decide]; omega)]
    have rcv : ∀ w, (convert 50 2 (.float .f64 r)).run Try.prog w = .ok (.int .i64 (areaOf (l.map pt))) w := fun w => run_convert_float_int w 50 2 .f64 .i64 r _ (by rw [Try.underlying50]; rfl) Try.underlying2 hcv
    clear hi hb1 eA hcv h3
    gi_wp2
    refine ⟨by simp, .inl ⟨_, _, rfl, run_takeDeferred hK, ?_⟩⟩
    exact ⟨_, results_tmp2 rfl _ _ _, rfl, hB.trans (belowK_b (w := w) (Nat.le_refl _) W D _ _ (by simp at hD; omega) hK rfl rfl)⟩
  case stop =>
    intro D k W _ _ h _
    exact h.elim
end Go.Proofs.Ytbcfbbeefkdpoaa
