/- Package past: the chapter's example (pantilelaw22.awake). -/
import Derived.Test.YtdjemmopecchmaaPd
namespace Go.Proofs.Ytdjemmopecchmaa
open Go.RowKit Go.Proofs.YtdjemmopecchmaaW.PrintWords Key
set_option linter.unusedVariables false
set_option linter.unusedSimpArgs false

/-- A row of one number in a block. -/
theorem RdU.one {w : World} {g : Nat} {x : Int} {t : TypeId} (h : w.heap[g]? = some (.cells #[.int .u64 x] t (0, 0))) : RdU w (some ⟨g, 0, none⟩) [x] := by
  refine ⟨rfl, by simp, fun _ => ⟨_, rfl, fun j p hj => ?_⟩⟩
  have hj0 : j = 0 := by
    have := (List.getElem?_eq_some_iff.1 hj).1
    simpa using this
  subst hj0
  obtain rfl : x = p := by simpa using hj
  refine ⟨[.int .u64 x], rfl, rfl, fun i u hu => ?_⟩
  have hi : i = 0 := by
    cases i with
    | zero => rfl
    | succ i => simp at hu
  subst hi
  obtain rfl : Value.int .u64 x = u := by simpa using hu
  have hsz : (Kd.int .u64).sz = 1 := rfl
  rw [hsz]
  show w.cell? ⟨g, 0, none⟩ = _
  unfold World.cell?; simp only [h]; rfl

theorem TrOf.at_ {w : World} {t k : Nat} {L : List Ent} {N : List Nat} (h : TrOf w t k L N) : ∃ r, TrAt w t k r := by obtain ⟨r, h1, _⟩ := h; exact ⟨r, h1⟩
theorem TrOf.lt {w : World} {t k : Nat} {L : List Ent} {N : List Nat} (h : TrOf w t k L N) : t < w.heap.size := by obtain ⟨r, h1, _⟩ := h; exact h1.lt

/-- Put of a new point of one coordinate. -/
theorem tPut1 (t : Nat) (x : Int) (g cap : Nat) (L : List Ent) (N : List Nat) (w : World) (hT : TrOf w t 1 L N) (hx0 : 0 ≤ x) (hx1 : x < 18446744073709551616) (hr : RdU w (some ⟨g, 0, none⟩) [x]) (v : Int) (hv : U v) (hno : ∀ e ∈ L, e.1 ≠ [x]) :
    Calls Try.prog 21 #[.pointer (some ⟨t, 0, none⟩), .slice (some ⟨g, 0, none⟩) 1 cap, .int .u64 v] w fun e w' => ∃ (t' : Nat) (L' : List Ent) (N' : List Nat), e = .returned (.tuple #[.pointer (some ⟨t', 0, none⟩), .int .i64 0]) ∧ TrOf w' t' 1 L' N' ∧ Chg [x] (fun e => e = ([x], v)) L L' ∧ w.heap.size ≤ t' ∧ Below w.heap.size w w' := by
  refine (tPut_any t 1 (some ⟨g, 0, none⟩) [x] cap v L N w hT hr rfl (fun c hc => by simp at hc; subst hc; exact ⟨hx0, hx1⟩) hv).mono ?_
  rintro e w' ⟨t', L', N', rfl, h1, h2, h3, h4, h5⟩
  exact ⟨t', L', N', rfl, h1, h2, h4 (fun h => hno _ h rfl), h5⟩

set_option maxRecDepth 100000 in
set_option maxHeartbeats 3200000 in
theorem awake22 (w : World) : Calls Try.prog 18 #[] w fun e w' => e = .returned (.bool true) ∧ Below w.heap.size w w' := by
  have u1 : U 1 := by unfold U M64; omega
  have u2 : U 2 := by unfold U M64; omega
  have u3 : U 3 := by unfold U M64; omega
  go_enter Try.func18, Try.ntmps18
  go_wp2_with fail
  refine (tNew_any 1 w (by omega) (by omega)).mono ?_
  rintro e w1 ⟨t, rfl, hT, ht, hb1⟩
  have HT := Lib.hid hT
  have hz1 := hb1.size
  have H1 := Lib.hid hb1
  have HTE := Lib.hid ht
  clear hT hb1 ht
  -- the first Put
  have C1 := tPut1 t 1 w1.heap.size 1 [] [] (w1.alloc (.cells #[.int .u64 1] 31)) (HT.out.bel ((Below.refl _ _).alloc (Nat.le_refl _) _)) (by omega) (by omega) (RdU.one (heap_alloc_new w1 _)) 1 u1 (by simp)
  go_wp2_with fail
  refine C1.mono ?_
  rintro e w2 ⟨a, La, Na, rfl, hA, _, ha, hb2⟩
  have hlt : t < a := Nat.lt_of_lt_of_le HT.out.lt (Nat.le_trans (by simp) ha)
  have hB2 : Below w1.heap.size w1 w2 := ((Below.refl _ _).alloc (Nat.le_refl _) _).trans (hb2.mono (by simp))
  have HA := Lib.hid hA
  have HTA := Lib.hid hlt
  have H2 := Lib.hid hB2
  clear C1 hA hb2 ha hlt hB2
  have C2 := tPut1 t 2 w2.heap.size 1 [] [] (w2.alloc (.cells #[.int .u64 2] 31)) ((HT.out.bel H2.out).bel ((Below.refl _ _).alloc (Nat.le_refl _) _)) (by omega) (by omega) (RdU.one (heap_alloc_new w2 _)) 2 u2 (by simp)
  go_wp2_with fail
  refine C2.mono ?_
  rintro e w3 ⟨b, Lb, Nb, rfl, hB, _, hb, hb3⟩
  have hlt : a < b := Nat.lt_of_lt_of_le HA.out.lt (Nat.le_trans (by simp) hb)
  have hB3 : Below w2.heap.size w2 w3 := ((Below.refl _ _).alloc (Nat.le_refl _) _).trans (hb3.mono (by simp))
  have HB := Lib.hid hB
  have HAB := Lib.hid hlt
  have H3 := Lib.hid hB3
  clear C2 hB hb3 hb hlt hB3
  have C3 := tPut1 t 3 w3.heap.size 1 [] [] (w3.alloc (.cells #[.int .u64 3] 31)) (((HT.out.bel H2.out).bel H3.out).bel ((Below.refl _ _).alloc (Nat.le_refl _) _)) (by omega) (by omega) (RdU.one (heap_alloc_new w3 _)) 3 u3 (by simp)
  go_wp2_with fail
  refine C3.mono ?_
  rintro e w4 ⟨c, Lc, Nc, rfl, hC, _, hc, hb4⟩
  have hlt : b < c := Nat.lt_of_lt_of_le HB.out.lt (Nat.le_trans (by simp) hc)
  have hB4 : Below w3.heap.size w3 w4 := ((Below.refl _ _).alloc (Nat.le_refl _) _).trans (hb4.mono (by simp))
  have HC := Lib.hid hC
  have HBC := Lib.hid hlt
  have H4 := Lib.hid hB4
  clear C3 hC hb4 hc hlt hB4
  -- the past
  have C4 := qNew_any t w4
  go_wp2_with fail
  refine C4.mono ?_
  rintro e w5 ⟨q, rfl, hP, hq, hb5⟩
  clear C4
  have T5 : TrOf w5 t 1 [] [] := (((HT.out.bel H2.out).bel H3.out).bel H4.out).bel hb5
  have A5 : TrOf w5 a 1 La Na := ((HA.out.bel H3.out).bel H4.out).bel hb5
  have B5 : TrOf w5 b 1 Lb Nb := (HB.out.bel H4.out).bel hb5
  have C5 : TrOf w5 c 1 Lc Nc := HC.out.bel hb5
  obtain ⟨rt, t5⟩ := T5.at_
  obtain ⟨ra, a5⟩ := A5.at_
  have D1 := qDo_new q 0 1 [t] a ra rt w5 hP (by simp) a5 t5 (by have := HTA.out; simp; omega)
  have HQ := Lib.hid hq
  have H5 := Lib.hid hb5
  have O5 := Lib.hid hP.other
  clear hq hb5 hP
  go_wp2_with fail
  refine D1.mono ?_
  rintro e w6 ⟨rfl, hP6, hk6⟩
  have hP6' : PastAt w6 q [t, a] 1 := hP6
  have A6 := A5.keep hk6 O5.out
  have B6 := B5.keep hk6 O5.out
  have C6 := C5.keep hk6 O5.out
  obtain ⟨ra6, a6⟩ := A6.at_
  obtain ⟨rb6, b6⟩ := B6.at_
  have D2 := qDo_new q 1 1 [t, a] b rb6 ra6 w6 hP6' (by simp) b6 a6 (by have := HAB.out; simp; omega)
  have K6 := Lib.hid hk6
  have O6 := Lib.hid hP6'.other
  clear D1 hP6 hP6' hk6 a5 t5 a6 b6
  go_wp2_with fail
  refine D2.mono ?_
  rintro e w7 ⟨rfl, hP7, hk7⟩
  have hP7' : PastAt w7 q [t, a, b] (1 + 1) := hP7
  have A7 := A6.keep hk7 O6.out
  have C7 := C6.keep hk7 O6.out
  have D3 := qUndo_yes q 1 [t, a, b] w7 hP7'
  have K7 := Lib.hid hk7
  have O7 := Lib.hid hP7'.other
  clear D2 hP7 hP7' hk7
  go_wp2_with fail
  refine D3.mono ?_
  rintro e w8 ⟨rfl, hP8, hk8⟩
  have A8 := A7.keep hk8 O7.out
  have C8 := C7.keep hk8 O7.out
  obtain ⟨ra8, a8⟩ := A8.at_
  obtain ⟨rc8, c8⟩ := C8.at_
  have D4 := qDo_new q 1 1 [t, a, b] c rc8 ra8 w8 hP8 (by simp) c8 a8 (by have := HAB.out; have := HBC.out; simp; omega)
  have K8 := Lib.hid hk8
  have O8 := Lib.hid hP8.other
  clear D3 hP8 hk8 a8 c8
  go_wp2_with fail
  refine D4.mono ?_
  rintro e w9 ⟨rfl, hP9, hk9⟩
  have hP9' : PastAt w9 q [t, a, c] 2 := hP9
  have C9 := C8.keep hk9 O8.out
  have D5 := qLen_any q 2 [t, a, c] w9 hP9'
  have HP9 := Lib.hid hP9'
  have K9 := Lib.hid hk9
  clear D4 hP9 hP9' hk9
  go_wp2_with fail
  refine D5.mono ?_
  rintro e w10 ⟨rfl, hb10⟩
  have D6 := qNow_any q 2 [t, a, c] w10 (HP9.out.bel hb10) (by simp)
  have HB10 := Lib.hid hb10
  clear D5 hb10
  go_wp2_with fail
  refine D6.mono ?_
  rintro e w11 ⟨rfl, hb11⟩
  have D7 := qRedo_no q 2 [t, a, c] w11 ((HP9.out.bel HB10.out).bel hb11) (by simp)
  have heq := eql_same w11 c
  have HB11 := Lib.hid hb11
  clear D6 hb11
  go_wp2_with fail
  refine D7.mono ?_
  rintro e w12 ⟨rfl, hb12⟩
  clear D7 heq
  go_wp2
  go_ret
  have kk : Keep q w5 w12 := ((((K6.out.trans K7.out).trans K8.out).trans K9.out).trans (Keep.of_below HB10.out)).trans ((Keep.of_below HB11.out).trans (Keep.of_below hb12))
  have s5 : w4.heap.size ≤ w5.heap.size := H5.out.size
  have hq5 : w4.heap.size ≤ q := HQ.out
  have s4 : w.heap.size ≤ w4.heap.size := Nat.le_trans (Nat.le_trans (Nat.le_trans hz1 H2.out.size) H3.out.size) H4.out.size
  have b5 : Below w.heap.size w w5 := (((H1.out.trans (H2.out.mono hz1)).trans (H3.out.mono (Nat.le_trans hz1 H2.out.size))).trans (H4.out.mono (Nat.le_trans (Nat.le_trans hz1 H2.out.size) H3.out.size))).trans (H5.out.mono (Nat.le_trans (Nat.le_trans (Nat.le_trans hz1 H2.out.size) H3.out.size) H4.out.size))
  exact ⟨by simp, b5.trans (kk.below (Nat.le_trans s4 hq5) (Nat.le_trans s4 s5))⟩
end Go.Proofs.Ytdjemmopecchmaa
