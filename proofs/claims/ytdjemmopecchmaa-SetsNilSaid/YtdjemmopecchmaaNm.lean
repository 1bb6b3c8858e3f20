/- node.made: a node of kids, with their sums. -/
import Derived.Test.YtdjemmopecchmaaNl
import Derived.StillTailTactics
namespace Go.Proofs.Ytdjemmopecchmaa
open Go.RowKit Go.Proofs.YtdjemmopecchmaaW.PrintWords Key
set_option linter.unusedVariables false
set_option linter.unusedSimpArgs false

def foldS : List S4 → S4
  | [] => ⟨0, 0, 0, 0⟩
  | x :: r => r.foldl S4.add x
theorem foldS_snoc {l : List S4} (h : l ≠ []) (x : S4) : foldS (l ++ [x]) = (foldS l).add x := by
  cases l with
  | nil => exact absurd rfl h
  | cons y l => simp [foldS, List.foldl_append]
theorem foldS_one (x : S4) : foldS ([] ++ [x]) = x := rfl
theorem foldS_sums (M : List (Nat × Nat)) (g : Nat × Nat → List Ent) (h : ∀ x ∈ M, g x ≠ []) : foldS (M.map fun x => sums (g x)) = sums (M.flatMap g) := by
  have key : ∀ (M : List (Nat × Nat)) (A : List Ent), A ≠ [] → (∀ x ∈ M, g x ≠ []) → (M.map fun x => sums (g x)).foldl S4.add (sums A) = sums (A ++ M.flatMap g) := by
    intro M
    induction M with
    | nil => intro A _ _; simp
    | cons x M ih =>
      intro A hA hM
      simp only [List.map_cons, List.foldl_cons, List.flatMap_cons]
      rw [← sums_append hA (hM x (by simp)), ih _ (by simp [hA]) (fun y hy => hM y (List.mem_cons_of_mem _ hy)), List.append_assoc]
  cases M with
  | nil => rfl
  | cons x M =>
    simp only [List.map_cons, List.flatMap_cons, foldS]
    exact key M _ (h x (by simp)) (fun y hy => h y (List.mem_cons_of_mem _ hy))

/-- the sums that a node's head tells -/
def Tells (w : World) (b : Nat) (x : S4) : Prop := ∃ g : Head, HdAt w b g ∧ g.c = x.c ∧ g.sm = x.sm ∧ g.mn = x.mn ∧ g.mx = x.mx
theorem Tells.bel {w w' : World} {b : Nat} {x : S4} (h : Tells w b x) (hb : Below w.heap.size w w') : Tells w' b x := by
  obtain ⟨g, hg, h1⟩ := h; exact ⟨g, hg.below hb, h1⟩
theorem Tells.cells {w : World} {b : Nat} {x : S4} (h : Tells w b x) : b < w.heap.size ∧ w.cell? ⟨b, 4, none⟩ = some (.int .u64 x.c) ∧ w.cell? ⟨b, 5, none⟩ = some (.int .u64 x.sm) ∧ w.cell? ⟨b, 6, none⟩ = some (.int .u64 x.mn) ∧ w.cell? ⟨b, 7, none⟩ = some (.int .u64 x.mx) := by
  obtain ⟨g, hg, h1, h2, h3, h4⟩ := h
  obtain ⟨A, cap, c0, c1, c2, c3, c4, c5, c6, c7, hc, hr⟩ := hg.cells
  rw [h1] at c4; rw [h2] at c5; rw [h3] at c6; rw [h4] at c7
  exact ⟨hg.lt, c4, c5, c6, c7⟩

theorem wrap_u64 (x : Int) : IntKind.u64.wrap x = x % M64 := by
  simp [IntKind.wrap, IntKind.bits, IntKind.signed, M64]
theorem min_if (a b : Int) : min a b = if b < a then b else a := by
  rw [Int.min_def]; split <;> split <;> omega
theorem max_if (a b : Int) : max a b = if a < b then b else a := by
  rw [Int.max_def]; split <;> split <;> omega
set_option maxRecDepth 100000 in
set_option maxHeartbeats 1600000 in
theorem nmade_any (lv : Int) (A : Option Addr) (pre : List Int) (cap s k : Nat) (M : List (Nat × Nat)) (S : Nat × Nat → S4) (w : World) (hr : RdU w A pre) (hcap : pre.length ≤ cap) (hM : SM w s k M) (hk : ∀ x ∈ M, Tells w x.2 (S x)) :
    Calls Try.prog 155 #[.int .i64 lv, .slice A pre.length cap, .pointer (some ⟨s, 0, none⟩)] w fun e w' => ∃ b, e = .returned (.pointer (some ⟨b, 0, none⟩)) ∧
      HdAt w' b ⟨lv, pre, 0, some s, (foldS (M.map S)).c, (foldS (M.map S)).sm, (foldS (M.map S)).mn, (foldS (M.map S)).mx⟩ ∧ w.heap.size ≤ b ∧ Below w.heap.size w w' := by
  have hml := hM.len.2
  go_enter Try.func155, Try.ntmps155
  go_wp2_with fail
  have hb0 : ∀ o, Below w.heap.size w (w.alloc o) := fun o => (Below.refl _ _).alloc (Nat.le_refl _) o
  go_at_call 211
  refine (SM.all (hM.below (hb0 _))).mono ?_
  rintro e w1 ⟨v, rfl, ho, hb1⟩
  have hbk : w1.heap[w.heap.size]? = some (.cells #[.int .i64 lv, .slice A pre.length cap, .int .u64 0, .pointer (some ⟨s, 0, none⟩), .int .u64 0, .int .u64 0, .int .u64 0, .int .u64 0] 207 (0, 0)) := (hb1.block _ (by simp)).trans (heap_alloc_new w _)
  have hbW : Below w.heap.size w w1 := (hb0 _).trans (hb1.mono (by simp))
  obtain ⟨A', c', rfl⟩ := own_slice ho
  have hnil : 0 < M.length → ∃ g, A' = some ⟨g, 0, none⟩ ∧ w.heap.size < g := by
    intro hp
    rcases ho.2 with ⟨h', h''⟩ | ⟨g', cap', cur, h', _⟩
    · omega
    · simp only [Value.slice.injEq] at h'
      refine ⟨g', h'.1, ?_⟩
      rw [h'.1] at ho
      have := own_base ho g' rfl
      simp at this; omega
  have HO := Lib.hid ho
  clear ho
  go_wp2_with fail
  go_loopg [19] (M.length) (fun q i wr => ∃ m : Nat, m ≤ M.length ∧ q + m = M.length ∧ i = .int .i64 m ∧ wr.ownsRow w.heap.size 58 1 (.slice A' M.length c') M.length (ptrs (M.map (·.2))) ∧
    wr.heap[w.heap.size]? = some (.cells #[.int .i64 lv, .slice A pre.length cap, .int .u64 0, .pointer (some ⟨s, 0, none⟩), .int .u64 (foldS ((M.take m).map S)).c, .int .u64 (foldS ((M.take m).map S)).sm, .int .u64 (foldS ((M.take m).map S)).mn, .int .u64 (foldS ((M.take m).map S)).mx] 207 (0, 0)) ∧ Below w.heap.size w wr)
  case atStart => exact ⟨0, by omega, by omega, rfl, own_lower HO.out (by simp), hbk, hbW⟩
  case round =>
    obtain ⟨m, hm, hq, rfl, hx, hkb, hy⟩ := hrel
    have HG := Lib.hid hq
    clear hq HO hbk
    by_cases hlt : m < M.length
    · obtain ⟨g, rfl, hgb⟩ := hnil (by omega)
      have hTl := (hk _ (List.getElem_mem hlt)).bel hy
      obtain ⟨hxl, c4, c5, c6, c7⟩ := hTl.cells
      have hl0 : w.heap.size < wr.heap.size := (Array.getElem?_eq_some_iff.1 hkb).1
      have hv0 : wr.cell? ⟨g, m, none⟩ = some (.pointer (some ⟨M[m].2, 0, none⟩)) := by
        have := hx.cellAt m (by omega)
        rw [this]; simp [ptrs, hlt]
      have hMx : ¬ M[m].2 = w.heap.size := by have := (hk _ (List.getElem_mem hlt)).cells.1; omega
      have hMx' : ¬ w.heap.size = M[m].2 := fun e => hMx e.symm
      have a4 := cell_al c4
      have a5 := cell_al c5
      have a6 := cell_al c6
      have a7 := cell_al c7
      have hkb' : ∀ o, (wr.alloc o).heap[w.heap.size]? = some (.cells #[.int .i64 lv, .slice A pre.length cap, .int .u64 0, .pointer (some ⟨s, 0, none⟩), .int .u64 (foldS ((M.take m).map S)).c, .int .u64 (foldS ((M.take m).map S)).sm, .int .u64 (foldS ((M.take m).map S)).mn, .int .u64 (foldS ((M.take m).map S)).mx] 207 (0, 0)) := fun o => (((Below.refl _ _).alloc (Nat.le_refl _) o).block _ hl0).trans hkb
      have hne1 : ¬ w.heap.size = wr.heap.size := by omega
      have hne2 : ¬ wr.heap.size = w.heap.size := by omega
      have hgne : ¬ w.heap.size = g := by omega
      have HT : Hid ((M.take (m + 1)).map S = (M.take m).map S ++ [S M[m]]) := by unfold Hid; rw [List.take_succ_eq_append_getElem hlt, List.map_append]; rfl
      obtain ⟨W, hW⟩ : ∃ W, wr.alloc (.cells #[.int .u64 (S M[m]).c, .int .u64 (S M[m]).sm, .int .u64 (S M[m]).mn, .int .u64 (S M[m]).mx] 131) = W := ⟨_, rfl⟩
      have w0 : W.cell? ⟨wr.heap.size, 0, none⟩ = some (.int .u64 (S M[m]).c) := by rw [← hW]; exact cell_of_block (heap_alloc_new _ _) 0
      have w1' : W.cell? ⟨wr.heap.size, 1, none⟩ = some (.int .u64 (S M[m]).sm) := by rw [← hW]; exact cell_of_block (heap_alloc_new _ _) 1
      have w2 : W.cell? ⟨wr.heap.size, 2, none⟩ = some (.int .u64 (S M[m]).mn) := by rw [← hW]; exact cell_of_block (heap_alloc_new _ _) 2
      have w3 : W.cell? ⟨wr.heap.size, 3, none⟩ = some (.int .u64 (S M[m]).mx) := by rw [← hW]; exact cell_of_block (heap_alloc_new _ _) 3
      have kb' : W.heap[w.heap.size]? = some (.cells #[.int .i64 lv, .slice A pre.length cap, .int .u64 0, .pointer (some ⟨s, 0, none⟩), .int .u64 (foldS ((M.take m).map S)).c, .int .u64 (foldS ((M.take m).map S)).sm, .int .u64 (foldS ((M.take m).map S)).mn, .int .u64 (foldS ((M.take m).map S)).mx] 207 (0, 0)) := by rw [← hW]; exact hkb' _
      have n4 := cell_of_block kb' 4
      have n5 := cell_of_block kb' 5
      have n6 := cell_of_block kb' 6
      have n7 := cell_of_block kb' 7
      simp only [List.getElem?_toArray, List.getElem?_cons_succ, List.getElem?_cons_zero] at n4 n5 n6 n7
      have g4 := free_block kb' 4
      have g5 := free_block kb' 5
      have g6 := free_block kb' 6
      have g7 := free_block kb' 7
      have hl1 : w.heap.size < W.heap.size := (Array.getElem?_eq_some_iff.1 kb').1
      have hBW : Below wr.heap.size wr W := by rw [← hW]; exact (Below.refl _ _).alloc (Nat.le_refl _) _
      clear hkb'
      by_cases hm0 : m = 0
      · subst hm0
        go_wp2
        go_roundg (gk - 1)
        case measure => have := HG.out; omega
        case rel =>
          refine ⟨1, by omega, by have := HG.out; omega, by go_num, ?_, ?_, ?_⟩
          · exact own_far (own_far (own_far (own_far (pw_own_below hx hBW) hgne _) hgne _) hgne _) hgne _
          · rw [HT.out]
            simp only [List.take_zero, List.map_nil, foldS_one]
            exact set_block (set_block (set_block (set_block kb' 4 _) 5 _) 6 _) 7 _
          · exact ((((hy.trans (hBW.mono (by omega))).setCell (by simp) _).setCell (by simp) _).setCell (by simp) _).setCell (by simp) _
      · have hm1 : ¬ ((m : Int) = 0) := by omega
        go_wp2_with fail
        go_still_tail 36, (by kernel_rfl)
        change wpList _ _ _ _ _ W.drew
        go_wp2
        go_roundg (gk - 1)
        case measure => have := HG.out; omega
        case rel =>
          refine ⟨m + 1, by omega, by have := HG.out; omega, by go_num, ?_, ?_, ?_⟩
          · exact (own_far (own_far (own_far (own_far (pw_own_below hx hBW) hgne _) hgne _) hgne _) hgne _).drew
          · rw [HT.out, foldS_snoc (by intro h; have := congrArg List.length h; rw [List.length_map, List.length_take, List.length_nil] at this; omega)]
            rw [wrap_u64, wrap_u64, min_if, max_if, ← List.map_take]
            exact set_block (set_block (set_block (set_block kb' 4 _) 5 _) 6 _) 7 _
          · exact (((((hy.trans (hBW.mono (by omega))).setCell (by simp) _).setCell (by simp) _).setCell (by simp) _).setCell (by simp) _).drew
    · go_wp2
      go_ret
      have e : m = M.length := by omega
      subst e
      rw [List.take_length] at hkb
      exact ⟨_, rfl, ⟨A, cap, hkb, hcap, Kd.C_below hr hy⟩, Nat.le_refl _, hy⟩
end Go.Proofs.Ytdjemmopecchmaa
