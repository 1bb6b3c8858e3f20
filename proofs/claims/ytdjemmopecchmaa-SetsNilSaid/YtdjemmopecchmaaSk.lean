/- The walk over slots.kept. -/
import Derived.Test.YtdjemmopecchmaaSn
import Derived.Deep.RegionHeld3
namespace Go.Proofs.Ytdjemmopecchmaa
open Go.RowKit Go.Proofs.YtdjemmopecchmaaW.PrintWords Key
set_option linter.unusedVariables false
set_option linter.unusedSimpArgs false

theorem set_block {w : World} {b : Nat} {cs : Array Value} {t : TypeId} {fr : Nat × Nat} (h : w.heap[b]? = some (.cells cs t fr)) (j : Nat) (u : Value) :
    (w.setCell ⟨b, j, none⟩ u).heap[b]? = some (.cells (cs.setIfInBounds j u) t fr) := by
  simp only [World.setCell, Array.getElem?_modify, if_true, h]
  rfl
theorem free_block {w : World} {b : Nat} {cs : Array Value} {t : TypeId} (h : w.heap[b]? = some (.cells cs t (0, 0))) (j : Nat) : w.frozen? ⟨b, j, none⟩ = false := by
  unfold World.frozen?; simp only [h]; simp

def zcell : Cell := ⟨0, none, false⟩
theorem made_flat (n : Nat) : (madeCells (Value.agg #[.int .i64 0, .pointer none, .bool false]).cells (n * 3)).toList = flat (List.replicate n zcell) := by
  apply List.ext_getElem?
  intro i
  have hz : (Value.agg #[.int .i64 0, .pointer none, .bool false]).cells = #[.int .i64 0, .pointer none, .bool false] := rfl
  by_cases h : i < n * 3
  · have hi : i / 3 < (List.replicate n zcell).length := by simp; omega
    have e : i = i / 3 * 3 + i % 3 := by omega
    have hr := flat_get (List.replicate n zcell) (i / 3) (i % 3) hi (by omega)
    rw [← e] at hr
    rw [hr]
    simp only [madeCells, hz, Array.toList_map, List.getElem?_map, Array.getElem?_toList]
    simp only [Array.toList_range, List.getElem?_range h, Option.map_some, List.getElem_replicate]
    have h3 : i % 3 = 0 ∨ i % 3 = 1 ∨ i % 3 = 2 := by omega
    rcases h3 with h3 | h3 | h3 <;> (simp [h3, Cell.row, zcell]; exact ⟨i, by simp [h], by simp [h3, ptr]⟩)
  · rw [List.getElem?_eq_none (by rw [Array.length_toList, size_madeCells]; omega), List.getElem?_eq_none (by rw [flat_length]; simp; omega)]

/-- the cells of dense slots whose first m addresses are filled in -/
def fillTo (n m : Nat) : List Cell := (List.range n).map fun i => ⟨if i < m then i else 0, none, false⟩
theorem fillTo_zero (n : Nat) : fillTo n 0 = List.replicate n zcell := by
  apply List.ext_getElem (by simp [fillTo])
  intro i h1 h2
  simp [fillTo, zcell]
theorem flat_set (cs : List Cell) (i : Nat) (hi : i < cs.length) (c : Cell) (l : List Value)
    (h : ∀ j, j < 3 → l[i * 3 + j]? = c.row[j]?) (ho : ∀ q, q < cs.length → q ≠ i → ∀ j, j < 3 → l[q * 3 + j]? = (flat cs)[q * 3 + j]?) (hl : l.length = cs.length * 3) : l = flat (cs.set i c) := by
  apply List.ext_getElem?
  intro p
  by_cases hp : p < cs.length * 3
  · have e : p = p / 3 * 3 + p % 3 := by omega
    have hq : p / 3 < (cs.set i c).length := by simp; omega
    have hr := flat_get (cs.set i c) (p / 3) (p % 3) hq (by omega)
    rw [← e] at hr
    rw [hr, List.getElem_set]
    by_cases hqi : i = p / 3
    · rw [if_pos hqi]
      have := h (p % 3) (by omega)
      rw [hqi, ← e] at this
      exact this
    · rw [if_neg hqi]
      have := ho (p / 3) (by omega) (by omega) (p % 3) (by omega)
      rw [← e] at this
      rw [this]
      have hr2 := flat_get cs (p / 3) (p % 3) (by omega) (by omega)
      rw [← e] at hr2
      exact hr2
  · rw [List.getElem?_eq_none (by omega), List.getElem?_eq_none (by rw [flat_length]; simp; omega)]
theorem flat_set_addr (cs : List Cell) (i : Nat) (hi : i < cs.length) (a : Nat) : (flat cs).set (i * 3) (.int .i64 a) = flat (cs.set i ⟨a, cs[i].x, cs[i].has⟩) := by
  apply flat_set cs i hi _ _ ?_ ?_ (by simp [flat_length])
  · intro j hj
    have hr := flat_get cs i j hi hj
    have h3 : j = 0 ∨ j = 1 ∨ j = 2 := by omega
    rcases h3 with rfl | rfl | rfl
    · rw [List.getElem?_set, if_pos (by omega), if_pos (by rw [flat_length]; omega)]; rfl
    · rw [List.getElem?_set_ne (by omega), hr]; rfl
    · rw [List.getElem?_set_ne (by omega), hr]; rfl
  · intro q hq hne j hj
    rw [List.getElem?_set_ne (by omega)]
theorem flat_set_row (cs : List Cell) (i : Nat) (hi : i < cs.length) (c : Cell) : (((flat cs).set (i * 3) (.int .i64 c.a)).set (i * 3 + 1) (ptr c.x)).set (i * 3 + 2) (.bool c.has) = flat (cs.set i c) := by
  apply flat_set cs i hi _ _ ?_ ?_ (by simp [flat_length])
  · intro j hj
    have hl := flat_length cs
    have h3 : j = 0 ∨ j = 1 ∨ j = 2 := by omega
    rcases h3 with rfl | rfl | rfl
    · rw [List.getElem?_set_ne (by omega), List.getElem?_set_ne (by omega), List.getElem?_set, if_pos (by omega), if_pos (by omega)]; rfl
    · rw [List.getElem?_set_ne (by omega), List.getElem?_set, if_pos (by omega), if_pos (by simp; omega)]; rfl
    · rw [List.getElem?_set, if_pos (by omega), if_pos (by simp; omega)]; rfl
  · intro q hq hne j hj
    rw [List.getElem?_set_ne (by omega), List.getElem?_set_ne (by omega), List.getElem?_set_ne (by omega)]
theorem fillTo_step (n m : Nat) (h : m < n) : (flat (fillTo n m)).set (m * 3) (.int .i64 m) = flat (fillTo n (m + 1)) := by
  have hl : (fillTo n m).length = n := by simp [fillTo]
  rw [flat_set_addr _ _ (by omega)]
  congr 1
  apply List.ext_getElem (by simp [fillTo])
  intro i h1 h2
  rw [List.getElem_set]
  simp only [fillTo, List.getElem_map, List.getElem_range]
  by_cases hi : m = i
  · subst hi; simp
  · rw [if_neg hi]
    by_cases hlt : i < m
    · simp [hlt, show i < m + 1 by omega]
    · simp [hlt, show ¬ i < m + 1 by omega]
theorem lk_append (M N : List (Nat × Nat)) (a : Int) : lk (M ++ N) a = (lk M a).or (lk N a) := by
  unfold lk; rw [List.find?_append]; cases M.find? _ <;> simp
theorem dense_step (n : Nat) (M : List (Nat × Nat)) (hs : Sorted M) (m : Nat) (h : m < M.length) (hn : M[m].1 < n) :
    ((List.range n).map (denseCell (M.take m))).set M[m].1 (cellOf M[m]) = (List.range n).map (denseCell (M.take (m + 1))) := by
  have ht : M.take (m + 1) = M.take m ++ [M[m]] := List.take_succ_eq_append_getElem h
  have hno : lk (M.take m) M[m].1 = none := by
    cases hl : lk (M.take m) M[m].1 with
    | none => rfl
    | some b =>
      obtain ⟨q, hq, hmem⟩ := lk_mem hl
      obtain ⟨i, hi, he⟩ := List.getElem_of_mem hmem
      rw [List.length_take] at hi
      rw [List.getElem_take] at he
      have := List.pairwise_iff_getElem.1 hs i m (by omega) h (by omega)
      rw [he] at this
      simp at this; omega
  apply List.ext_getElem (by simp)
  intro i h1 h2
  rw [List.getElem_set]
  simp only [List.getElem_map, List.getElem_range]
  have hl1 : lk (M.take (m + 1)) i = (lk (M.take m) i).or (if (M[m].1 : Int) = (i : Int) then some M[m].2 else none) := by
    rw [ht, lk_append, lk_cons]; simp [lk]
  by_cases hi : M[m].1 = i
  · subst hi
    rw [if_pos rfl]
    unfold denseCell
    rw [hl1, hno]; simp [cellOf]
  · rw [if_neg hi]
    unfold denseCell
    rw [hl1, if_neg (by omega)]; simp
theorem fill_dense (n : Nat) : fillTo n n = (List.range n).map (denseCell []) := by
  apply List.ext_getElem (by simp [fillTo])
  intro i h1 h2
  simp only [fillTo, List.length_map, List.length_range] at h1
  simp [fillTo, denseCell, lk, h1]

theorem own_far {w : World} {base e sz n g cap : Nat} {xs : List Value} (h : w.ownsRow base e sz (.slice (some ⟨g, 0, none⟩) n cap) n xs) {p : Addr} (hp : p.block ≠ g) (u : Value) : (w.setCell p u).ownsRow base e sz (.slice (some ⟨g, 0, none⟩) n cap) n xs :=
  own_move h (fun k hk => by
    have : g = k := by simpa [Value.ownBlock] using hk
    subst this
    exact Below.heap_setCell w p u _ (fun e => hp e.symm))
set_option maxRecDepth 100000 in
set_option maxHeartbeats 800000 in
theorem sKept_any (k : Nat) (v : Value) (M : List (Nat × Nat)) (w : World) (hk : k ≤ 16) (hs : Sorted M) (hu : Under k M) (ho : w.ownsRow 0 270 3 v M.length (flat (M.map cellOf))) :
    Calls Try.prog 208 #[.int .i64 k, v] w fun e w' => ∃ s, e = .returned (.pointer (some ⟨s, 0, none⟩)) ∧ SlAt w' s k M.length (layout k M) ∧ w.heap.size ≤ s ∧ Below w.heap.size w w' := by
  obtain ⟨A, c, rfl⟩ := own_slice ho
  have hml : M.length ≤ 65536 := Nat.le_trans (sorted_len hs hu) (Nat.pow_le_pow_right (by omega) hk)
  by_cases hd : isDense k M.length = true
  · have hk6 : k ≤ 6 := by unfold isDense at hd; simp at hd; omega
    have hp : (2 : Nat) ^ k ≤ 2 ^ 6 := Nat.pow_le_pow_right (by omega) hk6
    have HL : Hid (layout k M = denseCells k M) := by unfold Hid layout; rw [if_pos hd]
    have HD := Lib.hid hd
    clear hd
    go_enter Try.func208, Try.ntmps208
    obtain ⟨N, hN⟩ : ∃ N : Nat, N = 2 ^ k := ⟨_, rfl⟩
    have hw : wrap64 (2 ^ k) = (N : Int) := by
      have e : (2 : Int) ^ k = ((2 ^ k : Nat) : Int) := by simp
      rw [e, ← hN]; unfold wrap64; omega
    have hN64 : N ≤ 64 := by omega
    have hN0 : 0 < N := by have := Nat.two_pow_pos k; omega
    have HN := Lib.hid hN
    clear hN hp
    obtain ⟨i0, hi, hz0, hz1, hz2⟩ := info_parts Try.infoCell
    go_wp2_with (first | (go_at_call 215; refine (sDense0_any k _ _ hml).mono ?_; rintro e w' ⟨rfl, rfl⟩; rw [HD.out]) | (at_make; go_must (refine wpList_make_full _ rfl _ _ _ rfl w.heap.size 270 i0 _ 3 Try.underlying264 hi hz0 hz1 .i64 .i64 _ _ N rfl rfl hw hw (by rw [hz2]; omega) (by unfold maxLen; omega) (by simp) ?_; intro w2 ho2 hg2; have hB2 : Below w.heap.size w w2 := ((Below.refl w.heap.size w).alloc (Nat.le_refl _) _).grown hg2 (by simp) (by simp); have hbk : w2.heap[w.heap.size]? = some (.cells #[.int .i64 k, .int .i64 M.length, .slice A M.length c] 266 (0, 0)) := (hg2.block _ (by simp) (by simp)).trans (heap_alloc_new _ _); have c2 : w2.cell? ⟨w.heap.size, 2, none⟩ = some (.slice A M.length c) := cell_of_block hbk 2; have f2 := free_block hbk 2)))
    have hsz : (w.alloc (.cells #[.int .i64 k, .int .i64 M.length, .slice A M.length c] 266)).heap.size = w.heap.size + 1 := by simp
    rw [hsz, made_flat, ← fillTo_zero] at ho2
    clear hsz
    go_loopg [32] N (fun q i wr => ∃ m : Nat, m ≤ N ∧ q + m = N ∧ i = .int .i64 m ∧ wr.ownsRow w.heap.size 270 3 (.slice (some ⟨w.heap.size + 1, 0, none⟩) N N) N (flat (fillTo N m)) ∧
      wr.heap[w.heap.size]? = some (.cells #[.int .i64 k, .int .i64 M.length, .slice (some ⟨w.heap.size + 1, 0, none⟩) N N] 266 (0, 0)) ∧ Below w.heap.size w wr)
    case atStart => exact ⟨0, by omega, by omega, rfl, own_far ho2 (by simp) _, set_block hbk 2 _, hB2.setCell (Nat.le_refl _) _⟩
    case round =>
      obtain ⟨m, hm, hq, rfl, hx, hkb, hy⟩ := hrel
      have HG := Lib.hid hq
      clear hq ho2 c2 f2
      have c2 : wr.cell? ⟨w.heap.size, 2, none⟩ = some (.slice (some ⟨w.heap.size + 1, 0, none⟩) N N) := cell_of_block hkb 2
      by_cases hlt : m < N
      · obtain ⟨d0, _, _⟩ := own_cells hx m (by simp [fillTo]; omega)
        have f0 := hx.frozenAt (m * 3)
        have hst := hx.stored (m * 3) (.int .i64 m)
        rw [fillTo_step N m hlt] at hst
        go_wp2
        go_roundg (gk - 1)
        case measure => have := HG.out; omega
        case rel => exact ⟨m + 1, by omega, by have := HG.out; omega, by go_num, hst.1, by rw [Below.heap_setCell _ _ _ _ (by simp)]; exact hkb, hy.setCell (by simp) _⟩
      · have e : m = N := by omega
        subst e
        rw [fill_dense] at hx
        clear hlt hm
        go_wp2_with fail
        go_loopg [46] (M.length) (fun q i wr => ∃ j : Nat, j ≤ M.length ∧ q + j = M.length ∧ i = .int .i64 j ∧ wr.ownsRow w.heap.size 270 3 (.slice (some ⟨w.heap.size + 1, 0, none⟩) m m) m (flat ((List.range m).map (denseCell (M.take j)))) ∧
          wr.heap[w.heap.size]? = some (.cells #[.int .i64 k, .int .i64 M.length, .slice (some ⟨w.heap.size + 1, 0, none⟩) m m] 266 (0, 0)) ∧ Below w.heap.size w wr)
        case atStart => exact ⟨0, by omega, by omega, rfl, hx, hkb, hy⟩
        case round =>
          clear hx hkb hy c2
          obtain ⟨j, hj, hq, rfl, hx, hkb, hy⟩ := hrel
          have HG2 := Lib.hid hq
          clear hq
          have c2 : wr.cell? ⟨w.heap.size, 2, none⟩ = some (.slice (some ⟨w.heap.size + 1, 0, none⟩) m m) := cell_of_block hkb 2
          have hlt64 : w.heap.size + 1 < wr.heap.size := by
            rcases hx.2 with ⟨h', _⟩ | ⟨g', cap', cur, h', _, hh, _⟩
            · simp at h'
            · simp only [Value.slice.injEq, Option.some.injEq, Addr.mk.injEq, and_true, true_and] at h'
              rw [h'.1]; exact (Array.getElem?_eq_some_iff.1 hh).1
          by_cases hlt : j < M.length
          · have hA : ∃ g, A = some ⟨g, 0, none⟩ := by
              rcases ho.2 with ⟨h', h''⟩ | ⟨g', cap', cur, h', _⟩
              · omega
              · simp only [Value.slice.injEq] at h'; exact ⟨g', h'.1⟩
            obtain ⟨g, rfl⟩ := hA
            have hjl : j < (M.map cellOf).length := by simpa using hlt
            obtain ⟨d0, d1, d2⟩ := own_cells (cs := M.map cellOf) (pw_own_below ho hy) j hjl
            simp only [List.getElem_map, cellOf, ptr, Option.map_some] at d0 d1 d2
            have hun : M[j].1 < m := by rw [HN.out]; exact hu _ (List.getElem_mem hlt)
            have hrow := flat_set_row ((List.range m).map (denseCell (M.take j))) M[j].1 (by simp; exact hun) (cellOf M[j])
            rw [dense_step m M hs j hlt hun] at hrow
            have HRW : Hid (_ = _) := hrow
            clear hrow
            obtain ⟨e0, e1, e2⟩ := own_cells hx M[j].1 (by simp; exact hun)
            have f0 := hx.frozenAt (M[j].1 * 3)
            have f1 := hx.frozenAt (M[j].1 * 3 + 1)
            have f2 := hx.frozenAt (M[j].1 * 3 + 2)
            have hun0 : (0 : Int) ≤ (M[j].1 : Int) := by omega
            have hun1 : (M[j].1 : Int) < (m : Int) := by omega
            go_wp2_with fail
            obtain ⟨W, hW⟩ : ∃ W, W = wr.alloc (Obj.cells #[.int .i64 M[j].1, .pointer (some ⟨M[j].2, 0, none⟩), .bool true] 270) := ⟨_, rfl⟩
            have hB : Below wr.heap.size wr W := by rw [hW]; exact (Below.refl _ _).alloc (Nat.le_refl _) _
            have w0 : W.cell? ⟨wr.heap.size, 0, none⟩ = some (.int .i64 M[j].1) := by rw [hW]; exact cell_of_block (heap_alloc_new _ _) 0
            have w1 : W.cell? ⟨wr.heap.size, 1, none⟩ = some (.pointer (some ⟨M[j].2, 0, none⟩)) := by rw [hW]; exact cell_of_block (heap_alloc_new _ _) 1
            have w2 : W.cell? ⟨wr.heap.size, 2, none⟩ = some (.bool true) := by rw [hW]; exact cell_of_block (heap_alloc_new _ _) 2
            rw [← hW]
            have HW := Lib.hid hW
            have c2W := pw_cell_below hB c2
            have e0W := pw_cell_below hB e0
            have e1W := pw_cell_below hB e1
            have e2W := pw_cell_below hB e2
            have f0W := (hB.frozen (p := ⟨w.heap.size + 1, M[j].1 * 3, none⟩) hlt64).trans f0
            have f1W := (hB.frozen (p := ⟨w.heap.size + 1, M[j].1 * 3 + 1, none⟩) hlt64).trans f1
            have f2W := (hB.frozen (p := ⟨w.heap.size + 1, M[j].1 * 3 + 2, none⟩) hlt64).trans f2
            clear hW c2 e0 e1 e2 f0 f1 f2 d0 d1 d2
            go_region
            go_wp2
            go_roundg (gk - 1)
            case measure => have := HG2.out; omega
            case rel =>
              refine ⟨j + 1, by omega, by have := HG2.out; omega, by go_num, ?_, ?_, ?_⟩
              · rw [← HRW.out]
                exact ((((pw_own_below hx hB).stored (M[j].1 * 3) (.int .i64 M[j].1)).1.stored (M[j].1 * 3 + 1) (ptr (some M[j].2))).1.stored (M[j].1 * 3 + 2) (.bool true)).1.drew
              · show ((((W.setCell _ _).setCell _ _).setCell _ _).heap)[w.heap.size]? = _
                rw [Below.heap_setCell _ _ _ _ (by simp), Below.heap_setCell _ _ _ _ (by simp), Below.heap_setCell _ _ _ _ (by simp), hB.block _ (by omega)]
                exact hkb
              · exact ((((hy.trans (hB.mono (by omega))).setCell (by simp) _).setCell (by simp) _).setCell (by simp) _).drew
          · go_wp2
            go_ret
            have e : j = M.length := by omega
            subst e
            rw [List.take_length] at hx
            refine ⟨_, rfl, ?_, Nat.le_refl _, hy⟩
            rw [HL.out]
            have hdl : (denseCells k M).length = m := by simp [denseCells]; exact HN.out.symm
            refine ⟨some ⟨w.heap.size + 1, 0, none⟩, m, ?_, ?_⟩
            · rw [hdl]; exact hkb
            · rw [hdl]; unfold denseCells; rw [← HN.out]; exact own_lower hx (Nat.zero_le _)
  · have hd' : isDense k M.length = false := by simpa using hd
    have HL : Hid (layout k M = M.map cellOf) := by unfold Hid layout; rw [if_neg hd]
    have HD := Lib.hid hd'
    clear hd hd'
    go_enter Try.func208, Try.ntmps208
    go_wp2_with (go_at_call 215; refine (sDense0_any k _ _ hml).mono ?_; rintro e w' ⟨rfl, rfl⟩; rw [HD.out])
    go_ret
    refine ⟨_, rfl, ?_, Nat.le_refl _, (Below.refl _ _).alloc (Nat.le_refl _) _⟩
    rw [HL.out]
    refine ⟨A, c, ?_, ?_⟩
    · rw [List.length_map]; exact heap_alloc_new _ _
    · rw [List.length_map]; exact ho.alloc _
end Go.Proofs.Ytdjemmopecchmaa
