/- node.With, by heads. -/
import Derived.Test.YtdjemmopecchmaaNm
namespace Go.Proofs.Ytdjemmopecchmaa
open Go.RowKit Go.Proofs.YtdjemmopecchmaaW.PrintWords Key
set_option linter.unusedVariables false
set_option linter.unusedSimpArgs false

theorem SM.put {w : World} {s k : Nat} {M : List (Nat × Nat)} (h : SM w s k M) (a b : Nat) (ha : a < 2 ^ k) :
    Calls Try.prog 152 #[.pointer (some ⟨s, 0, none⟩), .int .i64 a, .pointer (some ⟨b, 0, none⟩)] w fun e w' => ∃ s', e = .returned (.tuple #[.pointer (some ⟨s', 0, none⟩), .int .i64 0]) ∧ SM w' s' k (putM M a b) ∧ w.heap.size ≤ s' ∧ Below w.heap.size w w' := sPut_any s k a b M w h ha
set_option maxRecDepth 100000 in
set_option maxHeartbeats 1600000 in
theorem nWith_hd (b b2 lv s k : Nat) (h g : Head) (M : List (Nat × Nat)) (S : Nat × Nat → S4) (w : World) (hh : HdAt w b h) (hg : HdAt w b2 g) (hlv : h.lv = lv) (hlv2 : lv < 64) (hs : h.s = some s) (hM : SM w s k M)
    (hl : g.pre.length = h.pre.length) (hk : h.pre.length = k) (ho : Ok h.pre) (ho2 : Ok g.pre) (hgl : g.lv < lv) (hc : (parts h.pre g.pre : Int) - 1 ≤ lv)
    (hS : ∀ x ∈ putM M (addr g.pre lv) b2, Tells w x.2 (S x)) :
    Calls Try.prog 156 #[.pointer (some ⟨b, 0, none⟩), .pointer (some ⟨b2, 0, none⟩)] w fun e w' => ∃ b' s', e = .returned (.tuple #[.pointer (some ⟨b', 0, none⟩), .int .i64 0]) ∧
      HdAt w' b' ⟨lv, h.pre, 0, some s', (foldS ((putM M (addr g.pre lv) b2).map S)).c, (foldS ((putM M (addr g.pre lv) b2).map S)).sm, (foldS ((putM M (addr g.pre lv) b2).map S)).mn, (foldS ((putM M (addr g.pre lv) b2).map S)).mx⟩ ∧
      SM w' s' k (putM M (addr g.pre lv) b2) ∧ w.heap.size ≤ b' ∧ Below w.heap.size w w' := by
  obtain ⟨A, cap, c0, c1, c2, c3, c4, c5, c6, c7, hcp, hr⟩ := hh.cells
  obtain ⟨A2, cap2, d0, d1, d2, d3, d4, d5, d6, d7, hcp2, hr2⟩ := hg.cells
  have hk1 : 1 ≤ h.pre.length := by have := hM.2.2.2.1; omega
  have hk16 : h.pre.length ≤ 16 := by have := hM.2.2.2.2; omega
  have ha : addr g.pre lv < 2 ^ k := by have := addr_lt g.pre lv; rw [hl, hk] at this; exact this
  have C1 : ∀ W, Below w.heap.size w W → Calls Try.prog 145 #[.pointer (some ⟨b, 0, none⟩), .slice A2 h.pre.length cap2] W fun e w' => e = .returned (.bool true) ∧ w' = W := fun W hB => by
    have := nCovers_any b h A2 g.pre cap2 W (hh.below hB) ho hk1 hk16 (Kd.C_below hr2 hB) ho2 hl.symm true (by simp; rw [hlv]; exact hc)
    rw [hl] at this
    exact this.mono (fun _ _ q => ⟨q.1, q.2.symm⟩)
  have C2 : ∀ W, Below w.heap.size w W → Calls Try.prog 153 #[.pointer (some ⟨b2, 0, none⟩), .int .i64 lv] W fun e w' => e = .returned (.int .i64 (addr g.pre lv)) ∧ w' = W := fun W hB =>
    (nat_any b2 lv g W (hg.below hB) ho2 (by omega) (by omega) hlv2).mono (fun _ _ q => ⟨q.1, q.2.symm⟩)
  rw [hlv] at c0
  rw [hs] at c3
  rw [hl] at d1
  have hgl' : ¬ ((lv : Int) ≤ g.lv) := by omega
  have HK := Lib.hid hk
  have HC := Lib.hid hc
  have HLV := Lib.hid hlv
  have HS := Lib.hid hs
  have HL := Lib.hid hl
  clear hk hc hlv hs hl c2 c4 c5 c6 c7 d2 d3 d4 d5 d6 d7
  go_enter Try.func156, Try.ntmps156
  go_wp2_with fail
  go_quiet (fail)
  go_wp2_with fail
  go_quiet ((go_at_call 145; exact (C1 _ (by (repeat (first | exact Below.refl _ _ | apply below_drewN | apply Below.drew)))).mono (fun _ _ q => ⟨q.1, _, q.2⟩)))
  go_wp2_with fail
  go_region_held3 (fun w' => w'.cell? ⟨b, 3, none⟩ = some (ptr (some s)) ∧ w'.cell? ⟨b, 0, none⟩ = some (.int .i64 lv)) (first | go_keep | exact ⟨k3, k0⟩)
    (first
      | (go_at_call 153; refine (C2 _ (by (repeat (first | exact Below.refl _ _ | apply below_drewN | apply Below.drew)))).mono ?_; rintro e w1 ⟨rfl, rfl⟩)
      | (go_at_call 152; refine (SM.put (hM.below (by (repeat (first | exact Below.refl _ _ | apply below_drewN | apply Below.drew)))) (addr g.pre lv) b2 ha).mono ?_; rintro e w2 ⟨s', rfl, hM2, hs2, hb2⟩; have k3 := pw_cell_below hb2 c3; have k0 := pw_cell_below hb2 c0))
  all_goals
    have hbb : Below w.heap.size w w2 := by
      refine Below.trans (b := _) ?_ hb2
      (repeat (first | exact Below.refl _ _ | apply below_drewN | apply Below.drew))
    have q1 := pw_cell_below hbb c1
    have hS2 : ∀ x ∈ putM M (addr g.pre lv) b2, Tells w2 x.2 (S x) := fun x hx => (hS x hx).bel hbb
    have hr' := Kd.C_below hr hbb
    clear k3 c0 c1 c3 d0 d1 C1 C2 hS
    go_wp2_with fail
    go_region_held3 (fun w' => w'.cell? ⟨b, 0, none⟩ = some (.int .i64 lv) ∧ w'.cell? ⟨b, 1, none⟩ = some (.slice A h.pre.length cap)) (first | go_keep | exact ⟨r0, r1⟩)
      (first
        | (go_at_call 155; refine (nmade_any lv A h.pre cap s' k (putM M (addr g.pre lv) b2) S _ (Kd.C_below hr' (by (repeat (first | exact Below.refl _ _ | apply below_drewN | apply Below.drew)))) hcp (hM2.below (by (repeat (first | exact Below.refl _ _ | apply below_drewN | apply Below.drew)))) (fun x hx => (hS2 x hx).bel (by (repeat (first | exact Below.refl _ _ | apply below_drewN | apply Below.drew))))).mono ?_; rintro e w3 ⟨b', rfl, hH, hb', hb3⟩; have r0 := pw_cell_below hb3 k0; have r1 := pw_cell_below hb3 q1))
    all_goals
      go_wp2
      go_ret2
      have hb3' : Below w2.heap.size w2 w3 := Below.trans (b := _) (by (repeat (first | exact Below.refl _ _ | apply below_drewN | apply Below.drew))) hb3
      exact ⟨b', s', rfl, hH, hM2.below hb3', Nat.le_trans hbb.size hb', hbb.trans (hb3'.mono hbb.size)⟩
end Go.Proofs.Ytdjemmopecchmaa
