/- The walks over slots: Del (with slices.DeleteFunc at cells). -/
import Derived.Test.YtdjemmopecchmaaSp
namespace Go.Proofs.Ytdjemmopecchmaa
open Go.RowKit Go.Proofs.YtdjemmopecchmaaW.PrintWords Key
set_option linter.unusedVariables false
set_option linter.unusedSimpArgs false

theorem delcmp_any (c a q : Nat) (x h : Value) (w : World) (hq : w.cell? ⟨q, 0, none⟩ = some (.int .i64 a)) (hx : x.oneCell' = true) (hh : h.oneCell' = true) (r : Bool) (hr : r = true ↔ c = a) :
    Calls Try.prog 236 #[.agg #[.int .i64 c, x, h], .pointer (some ⟨q, 0, none⟩)] w fun e w' => e = .returned (.bool r) ∧ Below w.heap.size w w' := by
  have he : r = ((c : Int) == (a : Int)) := by
    rw [Bool.eq_iff_iff, hr]; simp; omega
  have HE := Lib.hid he
  have hqa : ∀ o, (w.alloc o).cell? ⟨q, 0, none⟩ = some (.int .i64 a) := fun o => pw_cell_below ((Below.refl _ _).alloc (Nat.le_refl _) o) hq
  clear he hr
  go_enter Try.func236, Try.ntmps236
  go_wp2
  go_ret
  exact ⟨by rw [HE.out]; rfl, (Below.refl _ _).alloc (Nat.le_refl _) _⟩

/-- the first cell of an address; -1: there is none -/
def idx (cs : List Cell) (a : Nat) : Int := match cs.findIdx? (fun c => decide (c.a = a)) with | some i => (i : Int) | none => -1

set_option maxRecDepth 100000 in
set_option maxHeartbeats 800000 in
theorem idxfunc_any (v : Value) (a q : Nat) (cs : List Cell) (m : Nat) (w : World) (ho : w.ownsRow 0 270 3 v cs.length (flat cs)) (hlen : cs.length ≤ 65536) (hq : w.cell? ⟨q, 0, none⟩ = some (.int .i64 a))
    (hm : m < cs.length) (hma : cs[m].a = a) (hno : ∀ i (h : i < cs.length), i < m → cs[i].a ≠ a) :
    Calls Try.prog 247 #[v, .func (.func 236) #[] #[.pointer (some ⟨q, 0, none⟩)]] w fun e w' => e = .returned (.int .i64 m) ∧ Below w.heap.size w w' := by
  obtain ⟨A, cap, rfl⟩ := own_slice ho
  have hA : ∃ g, A = some ⟨g, 0, none⟩ := by
    rcases ho.2 with ⟨h', h''⟩ | ⟨g', cap', cur, h', _⟩
    · omega
    · simp only [Value.slice.injEq] at h'; exact ⟨g', h'.1⟩
  obtain ⟨g, rfl⟩ := hA
  have HN := Lib.hid hno
  have HMA := Lib.hid hma
  clear hno hma
  go_enter Try.func247, Try.ntmps247
  go_wp2_with fail
  go_loopg [8] m (fun k i wr => ∃ j : Nat, j ≤ m ∧ k + j = m ∧ i = .int .i64 j ∧ Below w.heap.size w wr)
  case atStart => exact ⟨0, by omega, by omega, rfl, Below.refl _ _⟩
  case round =>
    obtain ⟨j, hj, hk, rfl, hb⟩ := hrel
    have HK := Lib.hid hk
    clear hk
    have hlt : j < cs.length := by omega
    obtain ⟨d0, d1, d2⟩ := own_cells (pw_own_below ho hb) j hlt
    have hqr := pw_cell_below hb hq
    rcases Nat.lt_or_eq_of_le hj with hjm | hjm
    · have hne := HN.out j hlt hjm
      go_wp2_with (go_at_call 236; refine (delcmp_any cs[j].a a q _ _ _ (by assumption) rfl rfl false (by simp; exact hne)).mono ?_; rintro e w' ⟨rfl, hb2⟩)
      go_roundg (gk - 1)
      case measure => have := HK.out; omega
      case rel => exact ⟨j + 1, by omega, by have := HK.out; omega, by go_num, hb.trans (hb2.mono hb.size)⟩
    · subst hjm
      go_wp2_with (go_at_call 236; refine (delcmp_any _ a q _ _ _ (by assumption) rfl rfl true ⟨fun _ => HMA.out, fun _ => rfl⟩).mono ?_; rintro e w' ⟨rfl, hb2⟩)
      go_ret
      exact ⟨rfl, hb.trans (hb2.mono hb.size)⟩

/-- the cells on the way: m is left out, up to j -/
def delTo (cs : List Cell) (m j : Nat) : List Cell := (cs.eraseIdx m).take (j - 1) ++ cs.drop (j - 1)
theorem delTo_length (cs : List Cell) (m j : Nat) (hm : m < cs.length) (h1 : m + 1 ≤ j) (hj : j ≤ cs.length) : (delTo cs m j).length = cs.length := by
  simp [delTo, List.length_eraseIdx, hm]; omega
theorem delTo_start (cs : List Cell) (m : Nat) (hm : m < cs.length) : delTo cs m (m + 1) = cs := by
  unfold delTo
  rw [Nat.add_sub_cancel, List.eraseIdx_eq_take_drop_succ, List.take_append_of_le_length (by simp; omega), List.take_take, Nat.min_self, List.take_append_drop]
theorem erase_get (cs : List Cell) (m j : Nat) (hm : m < j) (hj : j < cs.length) : (cs.eraseIdx m)[j - 1]? = some cs[j] := by
  rw [List.getElem?_eraseIdx, if_neg (by omega), show j - 1 + 1 = j by omega, List.getElem?_eq_getElem hj]
theorem delTo_step (cs : List Cell) (m j : Nat) (h1 : m + 1 ≤ j) (hj : j < cs.length) : (delTo cs m j).set (j - 1) cs[j] = delTo cs m (j + 1) := by
  unfold delTo
  have hel : (cs.eraseIdx m).length = cs.length - 1 := by rw [List.length_eraseIdx, if_pos (by omega)]
  have hl : ((cs.eraseIdx m).take (j - 1)).length = j - 1 := by rw [List.length_take, hel]; omega
  rw [List.set_append_right _ _ (by omega), hl, Nat.sub_self, List.drop_eq_getElem_cons (show j - 1 < cs.length by omega), List.set_cons_zero]
  have ht : (cs.eraseIdx m).take (j + 1 - 1) = (cs.eraseIdx m).take (j - 1) ++ [cs[j]] := by
    have hlt : j - 1 < (cs.eraseIdx m).length := by omega
    have hg := erase_get cs m j (by omega) hj
    rw [List.getElem?_eq_getElem hlt] at hg
    rw [show j + 1 - 1 = j - 1 + 1 by omega, List.take_succ_eq_append_getElem hlt, Option.some.inj hg]
  rw [ht, List.append_assoc, show j - 1 + 1 = j + 1 - 1 by omega]
  rfl
theorem delTo_get (cs : List Cell) (m j : Nat) (h1 : m + 1 ≤ j) (hj : j < cs.length) (i : Nat) (hi : j - 1 ≤ i) (hic : i < cs.length) : (delTo cs m j)[i]? = some cs[i] := by
  unfold delTo
  have hel : (cs.eraseIdx m).length = cs.length - 1 := by rw [List.length_eraseIdx, if_pos (by omega)]
  have hl : ((cs.eraseIdx m).take (j - 1)).length = j - 1 := by rw [List.length_take, hel]; omega
  rw [List.getElem?_append_right (by omega), hl, List.getElem?_drop, show j - 1 + (i - (j - 1)) = i by omega, List.getElem?_eq_getElem hic]
theorem delTo_end (cs : List Cell) (m : Nat) (hm : m < cs.length) : (flat (delTo cs m cs.length)).take ((cs.length - 1) * 3) = flat (cs.eraseIdx m) := by
  have hel : (cs.eraseIdx m).length = cs.length - 1 := by rw [List.length_eraseIdx, if_pos hm]
  rw [← flat_take]
  unfold delTo
  rw [List.take_append_of_le_length (by simp [hel]), List.take_take, Nat.min_self, List.take_of_length_le (by omega)]

def zrow : List Value := [.int .i64 0, .pointer none, .bool false]
theorem run_clear_one {P : Program} (w : World) (t e ty : TypeId) (z : Value) (ht : P.underlying t = some (.slice e)) (hv : ∀ w, (zeroValue e).run P w = .ok z w) (g o c : Nat) (cur : Array Value) (hg : w.heap[g]? = some (.cells cur e (0, 0))) (hfit : o + z.cells.size ≤ cur.size) (h1 : ∀ u ∈ z.cells.toList, u.oneCell' = true) (hz : (Builtin.zeroCells z.cells 1) = z.cells) :
    (Builtin.clear_ #[t] ty #[.slice (some ⟨g, o, none⟩) 1 c]).run P w = .ok (.tuple #[]) (w.setRow g (cur.toList.take o ++ z.cells.toList ++ cur.toList.drop (o + z.cells.toList.length)).toArray) := by
  have hst := run_storeCells_at P g o e z.cells.toList 0 cur w hg (by simpa using hfit) h1
  simp [Builtin.clear_, run_underlying ht, hv, hz, hst]

set_option maxRecDepth 100000 in
set_option maxHeartbeats 1600000 in
theorem delfunc_any (B : Nat) (v : Value) (a q : Nat) (cs : List Cell) (m : Nat) (w : World) (ho : w.ownsRow B 270 3 v cs.length (flat cs)) (hlen : cs.length ≤ 65536) (hq : w.cell? ⟨q, 0, none⟩ = some (.int .i64 a)) (hqg : ∀ k, v.ownBlock = some k → q ≠ k) (hB : B ≤ w.heap.size)
    (hm : m < cs.length) (hma : cs[m].a = a) (hno : ∀ i (h : i < cs.length), i ≠ m → cs[i].a ≠ a) :
    Calls Try.prog 235 #[v, .func (.func 236) #[] #[.pointer (some ⟨q, 0, none⟩)]] w fun e w' => ∃ v', e = .returned v' ∧ w'.ownsRow B 270 3 v' (cs.length - 1) (flat (cs.eraseIdx m)) ∧ Below B w w' := by
  obtain ⟨A, cap, rfl⟩ := own_slice ho
  have hA : ∃ g, A = some ⟨g, 0, none⟩ := by
    rcases ho.2 with ⟨h', h''⟩ | ⟨g', cap', cur, h', _⟩
    · omega
    · simp only [Value.slice.injEq] at h'; exact ⟨g', h'.1⟩
  obtain ⟨g, rfl⟩ := hA
  have hqg' : q ≠ g := hqg g rfl
  have hgB : B ≤ g := own_base ho g rfl
  have hgl := own_lt ho g rfl
  have HN := Lib.hid hno
  have HMA := Lib.hid hma
  have hne : ((m : Int) == -1) = false := beq_eq_false_iff_ne.2 (by omega)
  go_enter Try.func235, Try.ntmps235
  go_wp2_with fail
  refine (idxfunc_any _ a q cs m w (own_lower ho (Nat.zero_le _)) hlen hq hm hma (fun i h hi => hno i h (by omega))).mono ?_
  rintro e w1 ⟨rfl, hb1⟩
  have ho1 := pw_own_below ho hb1
  have hq1 := pw_cell_below hb1 hq
  clear hno hma hq ho
  go_wp2_with fail
  go_loopg [5, 6] (cs.length - (m + 1)) (fun k i j wr => ∃ jj : Nat, m + 1 ≤ jj ∧ jj ≤ cs.length ∧ k + jj = cs.length ∧ i = .int .i64 ((jj : Int) - 1) ∧ j = .int .i64 jj ∧ wr.ownsRow B 270 3 (.slice (some ⟨g, 0, none⟩) cs.length cap) cs.length (flat (delTo cs m jj)) ∧ wr.cell? ⟨q, 0, none⟩ = some (.int .i64 a) ∧ Below B w wr ∧ g < wr.heap.size)
  case atStart => exact ⟨m + 1, Nat.le_refl _, by omega, by omega, by go_num, by go_num, by rw [delTo_start cs m hm]; exact ho1, hq1, hb1.mono hB, by have := hb1.size; omega⟩
  case round =>
    obtain ⟨j, hj1, hj2, hk, rfl, rfl, hx, hqr, hy, hgr⟩ := hrel
    have HK := Lib.hid hk
    clear hk hq1 ho1
    obtain ⟨i, hi⟩ : ∃ i : Nat, j = i + 1 := ⟨j - 1, by omega⟩
    subst hi
    have hii : ((i + 1 : Nat) : Int) - 1 = (i : Int) := by omega
    rw [hii]
    clear hii
    by_cases hlt : i + 1 < cs.length
    · have hdl := delTo_length cs m (i + 1) hm hj1 hj2
      have hlt' : i + 1 < (delTo cs m (i + 1)).length := by omega
      have hil' : i < (delTo cs m (i + 1)).length := by omega
      have hge : (delTo cs m (i + 1))[i + 1] = cs[i + 1] := by
        have := delTo_get cs m (i + 1) hj1 hlt (i + 1) (by omega) hlt
        rw [List.getElem?_eq_getElem hlt'] at this
        exact Option.some.inj this
      obtain ⟨d0, d1, d2⟩ := own_cells hx (i + 1) hlt'
      obtain ⟨e0, e1, e2⟩ := own_cells hx i hil'
      have f0 := hx.frozenAt (i * 3)
      have f1 := hx.frozenAt (i * 3 + 1)
      have f2 := hx.frozenAt (i * 3 + 2)
      have hst := (((hx.stored (i * 3) (.int .i64 cs[i + 1].a)).1.stored (i * 3 + 1) (ptr cs[i + 1].x)).1.stored (i * 3 + 2) (.bool cs[i + 1].has)).1
      have hrow := flat_set_row (delTo cs m (i + 1)) i hil' cs[i + 1]
      have hstep := delTo_step cs m (i + 1) hj1 hlt
      simp only [Nat.add_sub_cancel] at hstep
      rw [hstep] at hrow
      rw [hrow] at hst
      have HST := Lib.hid hst
      rw [hge] at d0 d1 d2
      have hnea := HN.out (i + 1) hlt (by omega)
      clear hst hrow hstep hge
      go_wp2_with fail
      obtain ⟨W, hW⟩ : ∃ W, W = wr.alloc (Obj.cells #[.int .i64 cs[i + 1].a, ptr cs[i + 1].x, .bool cs[i + 1].has] 270) := ⟨_, rfl⟩
      have hBW : Below wr.heap.size wr W := by rw [hW]; exact (Below.refl _ _).alloc (Nat.le_refl _) _
      have hnew : W.heap[wr.heap.size]? = some (.cells #[.int .i64 cs[i + 1].a, ptr cs[i + 1].x, .bool cs[i + 1].has] 270 (0, 0)) := by rw [hW]; exact heap_alloc_new _ _
      have hWs : W.heap.size = wr.heap.size + 1 := by rw [hW]; simp
      rw [← hW]
      have HW := Lib.hid hW
      have HWS := Lib.hid hWs
      have HNE := Lib.hid hnew
      clear hW hWs hnew d0 d1 d2
      refine (delcmp_any cs[i + 1].a a q _ _ W (pw_cell_below hBW hqr) rfl rfl false ⟨fun h => by simp at h, fun h => absurd h hnea⟩).mono ?_
      rintro e w2 ⟨rfl, hb2⟩
      have hnew2 : w2.heap[wr.heap.size]? = some (.cells #[.int .i64 cs[i + 1].a, ptr cs[i + 1].x, .bool cs[i + 1].has] 270 (0, 0)) := (hb2.block _ (by rw [HWS.out]; omega)).trans HNE.out
      have n0 : w2.cell? ⟨wr.heap.size, 0, none⟩ = some (.int .i64 cs[i + 1].a) := cell_of_block hnew2 0
      have n1 : w2.cell? ⟨wr.heap.size, 1, none⟩ = some (ptr cs[i + 1].x) := cell_of_block hnew2 1
      have n2 : w2.cell? ⟨wr.heap.size, 2, none⟩ = some (.bool cs[i + 1].has) := cell_of_block hnew2 2
      have e0' := pw_cell_below hb2 (pw_cell_below hBW e0)
      have e1' := pw_cell_below hb2 (pw_cell_below hBW e1)
      have e2' := pw_cell_below hb2 (pw_cell_below hBW e2)
      have hgW : g < W.heap.size := by rw [HWS.out]; omega
      have f0' := (hb2.frozen (p := ⟨g, i * 3, none⟩) hgW).trans ((hBW.frozen (p := ⟨g, i * 3, none⟩) hgr).trans f0)
      have f1' := (hb2.frozen (p := ⟨g, i * 3 + 1, none⟩) hgW).trans ((hBW.frozen (p := ⟨g, i * 3 + 1, none⟩) hgr).trans f1)
      have f2' := (hb2.frozen (p := ⟨g, i * 3 + 2, none⟩) hgW).trans ((hBW.frozen (p := ⟨g, i * 3 + 2, none⟩) hgr).trans f2)
      have HE := Lib.hid (And.intro hqr hnew2)
      clear e0 e1 e2 f0 f1 f2 hqr hnew2
      go_wp2
      go_roundg (gk - 1)
      case measure => have := HK.out; omega
      case rel =>
        refine ⟨i + 2, by omega, by omega, by have := HK.out; omega, by go_num, by go_num, ?_, ?_, ?_, ?_⟩
        · have hx2 := pw_own_below (pw_own_below hx hBW) hb2
          have hst2 := (((hx2.stored (i * 3) (.int .i64 cs[i + 1].a)).1.stored (i * 3 + 1) (ptr cs[i + 1].x)).1.stored (i * 3 + 2) (.bool cs[i + 1].has)).1
          have hrow := flat_set_row (delTo cs m (i + 1)) i hil' cs[i + 1]
          have hstep := delTo_step cs m (i + 1) hj1 hlt
          simp only [Nat.add_sub_cancel] at hstep
          rw [hstep] at hrow
          rw [hrow] at hst2
          exact hst2
        · rw [World.cell?_of_block (w := w2) (by rw [Below.heap_setCell _ _ _ _ (by simpa using hqg'), Below.heap_setCell _ _ _ _ (by simpa using hqg'), Below.heap_setCell _ _ _ _ (by simpa using hqg')])]
          exact pw_cell_below hb2 (pw_cell_below hBW HE.out.1)
        · have hB2 : Below B w w2 := (hy.trans (hBW.mono (by omega))).trans (hb2.mono (by rw [HWS.out]; have := hy.size; omega))
          exact ((hB2.setCell hgB _).setCell hgB _).setCell hgB _
        · have := hb2.size; rw [HWS.out] at this; simp [World.setCell]; omega
    · have he : i + 1 = cs.length := by omega
      have HX : Hid (wr.ownsRow B 270 3 (.slice (some ⟨g, 0, none⟩) cs.length cap) cs.length (flat (delTo cs m cs.length))) := by unfold Hid; rw [← he] at hx ⊢; exact hx
      clear hx
      obtain ⟨hl, h'⟩ := HX.out
      rcases h' with ⟨h', _⟩ | ⟨g', cap', cur, h', hBg, hg, hnc, hcm, hcs, htake⟩
      · simp at h'
      simp only [Value.slice.injEq, Option.some.injEq, Addr.mk.injEq, and_true, true_and] at h'
      obtain ⟨rfl, rfl⟩ := h'
      have hce : ¬ cap = i := by omega
      have hclr : ∀ c, (Builtin.clear_ #[264] 0 #[.slice (some ⟨g, i * 3, none⟩) 1 c]).run Try.prog wr = .ok (.tuple #[]) (wr.setRow g (cur.toList.take (i * 3) ++ zrow ++ cur.toList.drop (i * 3 + 3)).toArray) := fun c =>
        run_clear_one wr 264 270 0 (.agg #[.int .i64 0, .pointer none, .bool false]) Try.underlying264 (fun w => by kernel_rfl) g (i * 3) c cur hg (by simp [Value.cells, hcs]; omega) (by simp [Value.cells, Value.oneCell']) (by kernel_rfl)
      have hlen1 : cs.length - i = 1 := by omega
      have HRES : Hid ((wr.setRow g (cur.toList.take (i * 3) ++ zrow ++ cur.toList.drop (i * 3 + 3)).toArray).ownsRow B 270 3 (.slice (some ⟨g, 0, none⟩) i cap) (cs.length - 1) (flat (cs.eraseIdx m))) := by
        have hel : (cs.eraseIdx m).length = cs.length - 1 := by rw [List.length_eraseIdx, if_pos hm]
        have e3 : i = cs.length - 1 := by omega
        unfold Hid
        rw [← e3]
        refine ⟨by rw [flat_length, hel, e3], .inr ⟨g, cap, _, rfl, hgB, setRow_heap wr g cur _ _ _ hg, by omega, hcm, by simp [hcs, zrow]; omega, ?_⟩⟩
        rw [← delTo_end cs m hm, ← htake, List.append_assoc, List.take_append_of_le_length (by simp [hcs]; omega), List.take_take, List.take_take]
        congr 1
        omega
      have HB2 : Hid (Below B w (wr.setRow g (cur.toList.take (i * 3) ++ zrow ++ cur.toList.drop (i * 3 + 3)).toArray)) := below_setRow hy hgB _
      clear hl htake hg hcs hcm
      go_wp2
      go_ret
      have HA : Hid (cur.toList.take (i * 3) ++ (zrow ++ cur.toList.drop (i * 3 + 3)) = cur.toList.take (i * 3) ++ zrow ++ cur.toList.drop (i * 3 + 3)) := (List.append_assoc _ _ _).symm
      first
        | exact ⟨_, rfl, HRES.out, HB2.out⟩
        | (refine ⟨_, rfl, ?_, ?_⟩
           · rw [HA.out]; exact HRES.out
           · rw [HA.out]; exact HB2.out)
end Go.Proofs.Ytdjemmopecchmaa
