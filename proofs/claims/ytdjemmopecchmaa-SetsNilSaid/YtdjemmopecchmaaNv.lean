/- node.Without, by heads. -/
import Derived.Test.YtdjemmopecchmaaNu
namespace Go.Proofs.Ytdjemmopecchmaa
open Go.RowKit Go.Proofs.YtdjemmopecchmaaW.PrintWords Key
set_option linter.unusedVariables false
set_option linter.unusedSimpArgs false

theorem own_some {w : World} {base e sz n : Nat} {v : Value} {xs : List Value} (h : w.ownsRow base e sz v n xs) (hn : 0 < n) : ∃ g c, v = .slice (some ⟨g, 0, none⟩) n c ∧ base ≤ g := by
  obtain ⟨A, c, rfl⟩ := own_slice h
  rcases h.2 with ⟨h', h''⟩ | ⟨g', cap', cur, h', _⟩
  · omega
  · simp only [Value.slice.injEq] at h'
    obtain ⟨rfl, _⟩ := h'
    exact ⟨g', c, rfl, own_base h g' rfl⟩
theorem SM.length {w : World} {s k : Nat} {M : List (Nat × Nat)} (h : SM w s k M) :
    Calls Try.prog 214 #[.pointer (some ⟨s, 0, none⟩)] w fun e w' => e = .returned (.int .i64 M.length) ∧ w = w' := sLen_any s k _ _ w h.1
theorem SM.del {w : World} {s k : Nat} {M : List (Nat × Nat)} (h : SM w s k M) (m a : Nat) (hm : m < M.length) (ha : M[m].1 = a) :
    Calls Try.prog 213 #[.pointer (some ⟨s, 0, none⟩), .int .i64 a] w fun e w' => ∃ s', e = .returned (.tuple #[.pointer (some ⟨s', 0, none⟩), .int .i64 0]) ∧ SM w' s' k (delM M a) ∧ w.heap.size ≤ s' ∧ Below w.heap.size w w' := sDel_any s k m a M w h hm ha
set_option maxRecDepth 100000 in
set_option maxHeartbeats 1600000 in
theorem nWithout_one (b lv s k m a : Nat) (h : Head) (M : List (Nat × Nat)) (x : Nat × Nat) (w : World) (hh : HdAt w b h) (hs : h.s = some s) (hM : SM w s k M) (hm : m < M.length) (ha : M[m].1 = a) (hx : delM M a = [x]) :
    Calls Try.prog 159 #[.pointer (some ⟨b, 0, none⟩), .int .i64 a] w fun e w' => e = .returned (.tuple #[.pointer (some ⟨x.2, 0, none⟩), .int .i64 0]) ∧ Below w.heap.size w w' := by
  obtain ⟨A, cap, c0, c1, c2, c3, c4, c5, c6, c7, hcp, hr⟩ := hh.cells
  rw [hs] at c3
  have HX := Lib.hid hx
  have HA := Lib.hid ha
  clear hs hx ha c4 c5 c6 c7 c2
  go_enter Try.func159, Try.ntmps159
  go_wp2_with (first
    | (go_at_call 213; refine (SM.del hM m a hm HA.out).mono ?_; rintro e w2 ⟨s', rfl, hM2, hs2, hb2⟩; rw [HX.out] at hM2)
    | (go_at_call 214; refine (SM.length hM2).mono ?_; rintro e w3 ⟨rfl, rfl⟩; rw [show (([x] : List (Nat × Nat)).length : Int) = 1 from rfl])
    | (go_at_call 211; refine (SM.all hM2).mono ?_; rintro e w4 ⟨v, rfl, ho, hb4⟩; obtain ⟨g, c, rfl, _⟩ := own_some ho (by simp); have h0 : w4.cell? ⟨g, 0, none⟩ = some (.pointer (some ⟨x.2, 0, none⟩)) := (by have := ho.cellAt 0 (by simp); simpa [ptrs] using this); rw [show ([x] : List (Nat × Nat)).length = 1 from rfl]))
  go_ret2
  exact ⟨rfl, hb2.trans (hb4.mono hb2.size)⟩
set_option maxRecDepth 100000 in
set_option maxHeartbeats 1600000 in
theorem nWithout_hd (b lv s k m a : Nat) (h : Head) (M : List (Nat × Nat)) (S : Nat × Nat → S4) (w : World) (hh : HdAt w b h) (hlv : h.lv = lv) (hs : h.s = some s) (hM : SM w s k M) (hm : m < M.length) (ha : M[m].1 = a) (hne : ¬ (delM M a).length = 1)
    (hS : ∀ x ∈ delM M a, Tells w x.2 (S x)) :
    Calls Try.prog 159 #[.pointer (some ⟨b, 0, none⟩), .int .i64 a] w fun e w' => ∃ b' s', e = .returned (.tuple #[.pointer (some ⟨b', 0, none⟩), .int .i64 0]) ∧
      HdAt w' b' ⟨lv, h.pre, 0, some s', (foldS ((delM M a).map S)).c, (foldS ((delM M a).map S)).sm, (foldS ((delM M a).map S)).mn, (foldS ((delM M a).map S)).mx⟩ ∧
      SM w' s' k (delM M a) ∧ w.heap.size ≤ b' ∧ Below w.heap.size w w' := by
  obtain ⟨A, cap, c0, c1, c2, c3, c4, c5, c6, c7, hcp, hr⟩ := hh.cells
  rw [hs] at c3
  rw [hlv] at c0
  have HA := Lib.hid ha
  have hne' : ¬ (((delM M a).length : Int) = 1) := by omega
  clear hs ha c4 c5 c6 c7 c2 hne hlv
  go_enter Try.func159, Try.ntmps159
  go_wp2_with (first
    | (go_at_call 213; refine (SM.del hM m a hm HA.out).mono ?_; rintro e w2 ⟨s', rfl, hM2, hs2, hb2⟩)
    | (go_at_call 214; refine (SM.length hM2).mono ?_; rintro e w3 ⟨rfl, rfl⟩))
  have q0 := pw_cell_below hb2 c0
  have q1 := pw_cell_below hb2 c1
  have hS2 : ∀ x ∈ delM M a, Tells w2 x.2 (S x) := fun x hx => (hS x hx).bel hb2
  have hr' := Kd.C_below hr hb2
  clear c0 c1 c3 hS
  go_region_held3 (fun w' => w'.cell? ⟨b, 0, none⟩ = some (.int .i64 lv) ∧ w'.cell? ⟨b, 1, none⟩ = some (.slice A h.pre.length cap)) (first | go_keep | exact ⟨r0, r1⟩)
    (first
      | (go_at_call 155; refine (nmade_any lv A h.pre cap s' k (delM M a) S _ (Kd.C_below hr' (by (repeat (first | exact Below.refl _ _ | apply below_drewN | apply Below.drew)))) hcp (hM2.below (by (repeat (first | exact Below.refl _ _ | apply below_drewN | apply Below.drew)))) (fun x hx => (hS2 x hx).bel (by (repeat (first | exact Below.refl _ _ | apply below_drewN | apply Below.drew))))).mono ?_; rintro e w3 ⟨b', rfl, hH, hb', hb3⟩; have r0 := pw_cell_below hb3 q0; have r1 := pw_cell_below hb3 q1))
  all_goals
    go_wp2
    go_ret2
    have hb3' : Below w2.heap.size w2 w3 := Below.trans (b := _) (by (repeat (first | exact Below.refl _ _ | apply below_drewN | apply Below.drew))) hb3
    exact ⟨b', s', rfl, hH, hM2.below hb3', Nat.le_trans hb2.size hb', hb2.trans (hb3'.mono hb2.size)⟩
end Go.Proofs.Ytdjemmopecchmaa
