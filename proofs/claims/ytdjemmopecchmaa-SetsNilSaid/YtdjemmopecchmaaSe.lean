/- The walk over slots: Del. -/
import Derived.Test.YtdjemmopecchmaaSd
import Derived.Deep.RegionHeld3
namespace Go.Proofs.Ytdjemmopecchmaa
open Go.RowKit Go.Proofs.YtdjemmopecchmaaW.PrintWords Key
set_option linter.unusedVariables false
set_option linter.unusedSimpArgs false

/-- without an address -/
def delM (M : List (Nat × Nat)) (a : Nat) : List (Nat × Nat) := M.filter fun p => decide (p.1 ≠ a)
theorem delM_sorted {M : List (Nat × Nat)} (h : Sorted M) (a : Nat) : Sorted (delM M a) := List.Pairwise.filter _ h
theorem delM_under {k : Nat} {M : List (Nat × Nat)} (h : Under k M) (a : Nat) : Under k (delM M a) := fun p hp => h p (List.mem_filter.1 hp).1
theorem sorted_ne {M : List (Nat × Nat)} (hs : Sorted M) {m : Nat} (hm : m < M.length) (i : Nat) (hi : i < M.length) (hne : i ≠ m) : M[i].1 ≠ M[m].1 := by
  have h := List.pairwise_iff_getElem.1 hs
  rcases Nat.lt_or_gt_of_ne hne with hlt | hgt
  · have := h i m hi hm hlt; omega
  · have := h m i hm hi hgt; omega
theorem delM_erase {M : List (Nat × Nat)} (hs : Sorted M) (m : Nat) (hm : m < M.length) : delM M M[m].1 = M.eraseIdx m := by
  have e : M = M.take m ++ M[m] :: M.drop (m + 1) := by rw [← List.drop_eq_getElem_cons hm, List.take_append_drop]
  unfold delM
  rw [List.eraseIdx_eq_take_drop_succ]
  have h1 : ∀ p ∈ M.take m, p.1 ≠ M[m].1 := by
    intro p hp
    obtain ⟨j, hj, rfl⟩ := List.getElem_of_mem hp
    rw [List.length_take] at hj
    rw [List.getElem_take]
    exact sorted_ne hs hm j (by omega) (by omega)
  have h2 : ∀ p ∈ M.drop (m + 1), p.1 ≠ M[m].1 := by
    intro p hp
    obtain ⟨j, hj, rfl⟩ := List.getElem_of_mem hp
    rw [List.length_drop] at hj
    rw [List.getElem_drop]
    exact sorted_ne hs hm (m + 1 + j) (by omega) (by omega)
  conv => lhs; arg 2; rw [e]
  rw [List.filter_append, List.filter_cons_of_neg (by simp), List.filter_eq_self.2 (fun p hp => by simpa using h1 p hp), List.filter_eq_self.2 (fun p hp => by simpa using h2 p hp)]

set_option maxRecDepth 100000 in
set_option maxHeartbeats 1600000 in
theorem sDel_any (s k m a : Nat) (M : List (Nat × Nat)) (w : World) (hs : SM w s k M) (hm : m < M.length) (ha : M[m].1 = a) :
    Calls Try.prog 213 #[.pointer (some ⟨s, 0, none⟩), .int .i64 a] w fun e w' => ∃ s', e = .returned (.tuple #[.pointer (some ⟨s', 0, none⟩), .int .i64 0]) ∧ SM w' s' k (delM M a) ∧ w.heap.size ≤ s' ∧ Below w.heap.size w w' := by
  obtain ⟨hl1, hl2⟩ := hs.len
  obtain ⟨hsl, hso, hun, hk1, hk16⟩ := hs
  have hlk : lk (pairs (layout k M)) a = some M[m].2 := by rw [pairs_layout k M hso hun, ← ha]; exact lk_of_mem hso (List.getElem_mem hm)
  have hfl := filter_has (layout k M) (full_layout k M)
  rw [pairs_layout k M hso hun] at hfl
  have hde := delM_erase hso m hm
  rw [ha] at hde
  have hua := hun _ (List.getElem_mem hm)
  rw [ha] at hua
  have hPM := delM_sorted hso a
  have hPU := delM_under hun a
  have hma : ∀ i (h : i < (M.map cellOf).length), i ≠ m → (M.map cellOf)[i].a ≠ a := by
    intro i h hi; simp only [List.getElem_map, cellOf]; rw [← ha]; exact sorted_ne hso hm i (by simpa using h) hi
  have hmm : ∀ h : m < (M.map cellOf).length, (M.map cellOf)[m].a = a := by intro h; simp only [List.getElem_map, cellOf]; exact ha
  have HFL := Lib.hid hfl
  have HLK := Lib.hid hlk
  have HE := Lib.hid hde
  have HUA := Lib.hid hua
  have HMA := Lib.hid hma
  have HMM := Lib.hid hmm
  clear hfl hlk hua hma ha hde hmm
  have hslt : s < w.heap.size := World.block_lt_of_cell? w _ hsl.head.1
  obtain ⟨W, hW⟩ : ∃ W, W = w.alloc (Obj.cells #[.int .i64 a] 3) := ⟨_, rfl⟩
  have hBW : Below w.heap.size w W := by rw [hW]; exact (Below.refl _ _).alloc (Nat.le_refl _) _
  have hq : W.cell? ⟨w.heap.size, 0, none⟩ = some (.int .i64 a) := by rw [hW]; exact cell_of_block (heap_alloc_new _ _) 0
  have hslW := hsl.below hBW
  have hWs : W.heap.size = w.heap.size + 1 := by rw [hW]; simp
  go_enter Try.func213, Try.ntmps213
  go_wp2_with fail
  rw [← hW]
  have HW := Lib.hid hW
  have HWS := Lib.hid hWs
  clear hW hWs
  refine (scheck_any s k M.length a _ W hslW hk16 HUA.out).mono ?_
  rintro e w' ⟨rfl, rfl⟩
  go_wp2_with fail
  refine (sGet_any s k M.length a _ W hslW (rising_layout k M hso) (full_layout k M) hl1).mono ?_
  rintro e w1 ⟨rfl, hb1⟩
  rw [HLK.out]
  have hq1 := pw_cell_below hb1 hq
  have hsl1 := hslW.below hb1
  have hk0 := hsl1.head.1
  have hqlt : w.heap.size < w1.heap.size := by have := hb1.size; rw [HWS.out] at this; omega
  have hB1 : Below w.heap.size w w1 := hBW.trans (hb1.mono (by rw [HWS.out]; omega))
  clear hq
  go_wp2_with fail
  have hmm' : m < (M.map cellOf).length := by simpa using hm
  have hl2' : (M.map cellOf).length ≤ 65536 := by simpa using hl2
  have hkept : ∀ {W3 : World} (v3 : Value), W3.ownsRow w1.heap.size 270 3 v3 ((M.map cellOf).length - 1) (flat ((M.map cellOf).eraseIdx m)) → W3.ownsRow 0 270 3 v3 (delM M a).length (flat ((delM M a).map cellOf)) := by
    intro W3 v3 h
    rw [HE.out]
    have e : (M.eraseIdx m).length = (M.map cellOf).length - 1 := by rw [List.length_eraseIdx, if_pos hm, List.length_map]
    have e2 : (M.eraseIdx m).map cellOf = (M.map cellOf).eraseIdx m := by
      rw [List.eraseIdx_eq_take_drop_succ, List.eraseIdx_eq_take_drop_succ, List.map_append, List.map_take, List.map_drop]
    rw [e, e2]
    exact own_lower h (Nat.zero_le _)
  have hs1 : s < w1.heap.size := Nat.lt_trans hslt hqlt
  go_region_held3 (fun w' => w'.cell? ⟨s, 0, none⟩ = some (.int .i64 k)) (first | go_keep | assumption)
    (first
      | (go_at_call 204; refine (sthings_any s k M.length _ _ ?_ hl1).mono ?_; (exact hsl1); rintro e w2 ⟨v, rfl, ho, hb2⟩; have hk2 := pw_cell_below hb2 hk0; have hq2 := pw_cell_below hb2 hq1; rw [HFL.out] at ho; have hov : ∀ k, v.ownBlock = some k → w.heap.size ≠ k := fun k hk => Nat.ne_of_lt (Nat.lt_of_lt_of_le hqlt (own_base ho k hk)); have ho2 : w2.ownsRow w1.heap.size 270 3 v (M.map cellOf).length (flat (M.map cellOf)) := by (rw [List.length_map] at ho ⊢; exact ho))
      | (go_at_call 235; refine (delfunc_any w1.heap.size _ a w.heap.size (M.map cellOf) m _ ho2 hl2' hq2 hov hb2.size hmm' (HMM.out _) HMA.out).mono ?_; rintro e w3 ⟨v3, rfl, ho3, hb3⟩; have hk3 := (hb3.cell (p := ⟨s, 0, none⟩) hs1).trans hk2)
      | (go_at_call 208; refine (sKept_any k v3 (delM M a) _ hk16 hPM hPU (hkept _ ho3)).mono ?_; rintro e w4 ⟨s', rfl, hsl4, hle, hb4⟩; have hk4 := pw_cell_below hb4 hk3))
  all_goals
    have hz2 : w1.heap.size ≤ w2.heap.size := hb2.size
    have hz3 : w2.heap.size ≤ w3.heap.size := hb3.size
    have hz1 := hB1.size
    have hb2' : Below w1.heap.size w1 w2 := (Below.refl w1.heap.size w1).drew.trans hb2
    have HB := Lib.hid (hB1.trans ((hb2'.mono hz1 : Below w.heap.size w1 w2)))
    have HB3 : Hid (Below w.heap.size w w3) := HB.out.trans (hb3.mono hz1)
    have HB4 : Hid (Below w.heap.size w w4) := HB3.out.trans (hb4.mono HB3.out.size)
    have HLE : Hid (w.heap.size ≤ s') := Nat.le_trans HB3.out.size hle
    clear hkept hPM hPU
    go_wp2
    go_ret2
    exact ⟨s', rfl, ⟨hsl4, delM_sorted hso a, delM_under hun a, hk1, hk16⟩, HLE.out, HB4.out⟩
end Go.Proofs.Ytdjemmopecchmaa
