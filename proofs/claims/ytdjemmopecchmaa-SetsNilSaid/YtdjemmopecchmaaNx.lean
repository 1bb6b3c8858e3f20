/- node.Pair, by heads. -/
import Derived.Test.YtdjemmopecchmaaNv
namespace Go.Proofs.Ytdjemmopecchmaa
open Go.RowKit Go.Proofs.YtdjemmopecchmaaW.PrintWords Key
set_option linter.unusedVariables false
set_option linter.unusedSimpArgs false

def pairTo (a1 b1 a2 b2 : Nat) : Nat → List (Nat × Nat)
  | 0 => []
  | 1 => putM [] a1 b1
  | _ => putM (putM [] a1 b1) a2 b2
set_option maxRecDepth 100000 in
set_option maxHeartbeats 1600000 in
theorem nPair_hd (b1 b2 lv k : Nat) (g1 g2 : Head) (S : Nat × Nat → S4) (w : World) (hg1 : HdAt w b1 g1) (hg2 : HdAt w b2 g2) (hl : g2.pre.length = g1.pre.length) (hk : g1.pre.length = k) (hk1 : 1 ≤ k) (hk16 : k ≤ 16) (ho1 : Ok g1.pre) (ho2 : Ok g2.pre)
    (hp : parts g1.pre g2.pre = lv + 1) (hlv1 : g1.lv < lv) (hlv2 : g2.lv < lv) (hS : ∀ x ∈ pairTo (addr g1.pre lv) b1 (addr g2.pre lv) b2 2, Tells w x.2 (S x)) :
    Calls Try.prog 89 #[.pointer (some ⟨b1, 0, none⟩), .pointer (some ⟨b2, 0, none⟩)] w fun e w' => ∃ b' s', e = .returned (.tuple #[.pointer (some ⟨b', 0, none⟩), .int .i64 0]) ∧
      HdAt w' b' ⟨lv, cut g1.pre (lv + 1), 0, some s', (foldS ((pairTo (addr g1.pre lv) b1 (addr g2.pre lv) b2 2).map S)).c, (foldS ((pairTo (addr g1.pre lv) b1 (addr g2.pre lv) b2 2).map S)).sm, (foldS ((pairTo (addr g1.pre lv) b1 (addr g2.pre lv) b2 2).map S)).mn, (foldS ((pairTo (addr g1.pre lv) b1 (addr g2.pre lv) b2 2).map S)).mx⟩ ∧
      SM w' s' k (pairTo (addr g1.pre lv) b1 (addr g2.pre lv) b2 2) ∧ w.heap.size ≤ b' ∧ Below w.heap.size w w' := by
  have hlv64 : lv < 64 := by have := parts_le64 g1.pre g2.pre hl.symm ho1 ho2; omega
  obtain ⟨A, cap, c0, c1, c2, c3, c4, c5, c6, c7, hcp, hr⟩ := hg1.cells
  obtain ⟨A2, cap2, d0, d1, d2, d3, d4, d5, d6, d7, hcp2, hr2⟩ := hg2.cells
  have ha1 : addr g1.pre lv < 2 ^ k := by have := addr_lt g1.pre lv; rw [hk] at this; exact this
  have ha2 : addr g2.pre lv < 2 ^ k := by have := addr_lt g2.pre lv; rw [hl, hk] at this; exact this
  have hll : g1.pre.length = g2.pre.length := hl.symm
  have C1 : ∀ W, Below w.heap.size w W → Calls Try.prog 150 #[.slice A g1.pre.length cap, .slice A2 g2.pre.length cap2] W fun e w' => e = .returned (.tuple #[.int .i64 lv, .int .i64 0]) ∧ w' = W := fun W hB => by
    have := zPart_any A A2 g1.pre g2.pre cap cap2 W (Kd.C_below hr hB) (Kd.C_below hr2 hB) ho1 ho2 (by omega) (by omega) hll
    rw [hp] at this
    refine this.mono (fun _ _ q => ⟨?_, q.2.symm⟩)
    rw [q.1]
    simp
  have C2 : ∀ W, Below w.heap.size w W → Calls Try.prog 153 #[.pointer (some ⟨b1, 0, none⟩), .int .i64 lv] W fun e w' => e = .returned (.int .i64 (addr g1.pre lv)) ∧ w' = W := fun W hB =>
    (nat_any b1 lv g1 W (hg1.below hB) ho1 (by omega) (by omega) hlv64).mono (fun _ _ q => ⟨q.1, q.2.symm⟩)
  have C3 : ∀ W, Below w.heap.size w W → Calls Try.prog 153 #[.pointer (some ⟨b2, 0, none⟩), .int .i64 lv] W fun e w' => e = .returned (.int .i64 (addr g2.pre lv)) ∧ w' = W := fun W hB =>
    (nat_any b2 lv g2 W (hg2.below hB) ho2 (by omega) (by omega) hlv64).mono (fun _ _ q => ⟨q.1, q.2.symm⟩)
  have C4 : ∀ W, Below w.heap.size w W → Calls Try.prog 151 #[.int .i64 g1.pre.length] W fun e w' => ∃ s, e = .returned (.tuple #[.pointer (some ⟨s, 0, none⟩), .int .i64 0]) ∧ SM w' s k [] ∧ Below W.heap.size W w' := fun W hB => by
    rw [hk]; exact sNew_any k W hk1 hk16
  have hmx : ¬ ((lv : Int) ≤ max g1.lv g2.lv) := by omega
  have HL := Lib.hid hl
  have HLL := Lib.hid hll
  have HK := Lib.hid hk
  have HP := Lib.hid hp
  clear hl hll hk hp c2 c3 c4 c5 c6 c7 d2 d3 d4 d5 d6 d7
  go_enter Try.func89, Try.ntmps89
  go_wp2_with fail
  go_quiet ((go_at_call 150; exact (C1 _ (by (repeat (first | exact Below.refl _ _ | apply below_drewN | apply Below.drew)))).mono (fun _ _ q => ⟨q.1, _, q.2⟩)))
  go_wp2_with fail
  go_quiet (fail)
  go_wp2_with (go_at_call 151; refine (C4 _ (by (repeat (first | exact Below.refl _ _ | apply below_drewN | apply Below.drew)))).mono ?_; rintro e w1 ⟨s1, rfl, hM1, hb1⟩)
  have hbb : Below w.heap.size w w1 := Below.trans (b := _) (by (repeat (first | exact Below.refl _ _ | apply below_drewN | apply Below.drew))) (hb1.mono (by simp))
  have HB := Lib.hid hbb
  have hz := hbb.size
  clear hbb
  go_loopg [8, 59] 2 (fun q sl i wr => ∃ m sm : Nat, m ≤ 2 ∧ q + m = 2 ∧ i = .int .i64 m ∧ sl = .pointer (some ⟨sm, 0, none⟩) ∧ SM wr sm k (pairTo (addr g1.pre lv) b1 (addr g2.pre lv) b2 m) ∧ wr.cell? ⟨w1.heap.size, 0, none⟩ = some (.pointer (some ⟨b1, 0, none⟩)) ∧ wr.cell? ⟨w1.heap.size, 1, none⟩ = some (.pointer (some ⟨b2, 0, none⟩)) ∧ Below w.heap.size w wr)
  case atStart => exact ⟨0, s1, by omega, by omega, rfl, rfl, hM1.below ((Below.refl _ _).alloc (Nat.le_refl _) _), cell_of_block (heap_alloc_new _ _) 0, cell_of_block (heap_alloc_new _ _) 1, HB.out.alloc hz _⟩
  case round =>
    obtain ⟨m, sm, hm, hq, rfl, rfl, hM, e0, e1, hy⟩ := hrel
    have HG := Lib.hid hq
    clear hq
    by_cases h0 : m = 0
    · subst h0
      go_wp2_with (first
        | (go_at_call 153; refine (C2 _ hy).mono ?_; rintro e w2 ⟨rfl, rfl⟩)
        | (go_at_call 152; refine (SM.put hM (addr g1.pre lv) b1 ha1).mono ?_; rintro e w3 ⟨s3, rfl, hM3, hs3, hb3⟩))
      go_roundg (gk - 1)
      case measure => have := HG.out; omega
      case rel => exact ⟨1, s3, by omega, by have := HG.out; omega, by go_num, rfl, hM3, pw_cell_below hb3 e0, pw_cell_below hb3 e1, hy.trans (hb3.mono hy.size)⟩
    · by_cases h1 : m = 1
      · subst h1
        go_wp2_with (first
          | (go_at_call 153; refine (C3 _ hy).mono ?_; rintro e w2 ⟨rfl, rfl⟩)
          | (go_at_call 152; refine (SM.put hM (addr g2.pre lv) b2 ha2).mono ?_; rintro e w3 ⟨s3, rfl, hM3, hs3, hb3⟩))
        go_roundg (gk - 1)
        case measure => have := HG.out; omega
        case rel => exact ⟨2, s3, by omega, by have := HG.out; omega, by go_num, rfl, hM3, pw_cell_below hb3 e0, pw_cell_below hb3 e1, hy.trans (hb3.mono hy.size)⟩
      · obtain rfl : m = 2 := by omega
        clear h0 h1
        have C5 : Calls Try.prog 154 #[.slice A g1.pre.length cap, .int .i64 lv] wr fun e w' => ∃ g c', e = .returned (.tuple #[.slice (some ⟨g, 0, none⟩) g1.pre.length c', .int .i64 0]) ∧ w'.ownsRow wr.heap.size 31 1 (.slice (some ⟨g, 0, none⟩) g1.pre.length c') g1.pre.length (nums .u64 (cut g1.pre (lv + 1))) ∧ Below wr.heap.size wr w' := by
          have := zCut_any A g1.pre cap (lv + 1) wr (Kd.C_below hr hy) ho1 (by have := HK.out; omega) (by have := HK.out; omega) (by omega)
          rw [show (((lv + 1 : Nat) : Int) - 1) = lv by omega] at this
          exact this
        have c1' := pw_cell_below hy c1
        go_wp2_with (first
          | (go_at_call 154; refine C5.mono ?_; rintro e w4 ⟨g, c', rfl, ho4, hb4⟩)
          | (go_at_call 155; rw [← cut_length g1.pre (lv + 1)] at ho4 ⊢; obtain ⟨hrd, hlen, hcap4⟩ := own_rdU ho4; refine (nmade_any lv _ (cut g1.pre (lv + 1)) c' sm k _ S _ hrd hcap4 (hM.below hb4) (fun x hx => ((hS x hx).bel hy).bel hb4)).mono ?_; rintro e w5 ⟨b', rfl, hH, hb', hb5⟩))
        go_ret2
        have hy4 := hy.trans (hb4.mono hy.size)
        exact ⟨b', sm, rfl, hH, (hM.below hb4).below hb5, Nat.le_trans hy4.size hb', hy4.trans (hb5.mono hy4.size)⟩
end Go.Proofs.Ytdjemmopecchmaa
