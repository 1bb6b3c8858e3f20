/- The walks over package slots: what is read. -/
import Derived.Test.YtdjemmopecchmaaSl
import Derived.Test.YtdjemmopecchmaaAp
namespace Go.Proofs.Ytdjemmopecchmaa
open Go.RowKit Go.Proofs.YtdjemmopecchmaaW.PrintWords Key
set_option linter.unusedVariables false
set_option linter.unusedSimpArgs false

theorem SlAt.head {w : World} {s k n : Nat} {cs : List Cell} (h : SlAt w s k n cs) : w.cell? ⟨s, 0, none⟩ = some (.int .i64 k) ∧ w.cell? ⟨s, 1, none⟩ = some (.int .i64 n) := by
  obtain ⟨A, cap, h1, _⟩ := h
  exact ⟨by rw [cell_of_block h1]; rfl, by rw [cell_of_block h1]; rfl⟩
theorem SlAt.cells {w : World} {s k n : Nat} {cs : List Cell} (h : SlAt w s k n cs) : ∃ A cap, w.cell? ⟨s, 2, none⟩ = some (.slice A cs.length cap) ∧ w.ownsRow 0 270 3 (.slice A cs.length cap) cs.length (flat cs) ∧
    (0 < cs.length → ∃ g, A = some ⟨g, 0, none⟩) := by
  obtain ⟨A, cap, h1, h2⟩ := h
  refine ⟨A, cap, by rw [cell_of_block h1]; rfl, h2, fun hp => ?_⟩
  rcases h2.2 with ⟨h', h''⟩ | ⟨g', cap', cur, h', _⟩
  · omega
  · simp only [Value.slice.injEq] at h'; exact ⟨g', h'.1⟩

theorem sLen_any (s k n : Nat) (cs : List Cell) (w : World) (hs : SlAt w s k n cs) :
    Calls Try.prog 214 #[.pointer (some ⟨s, 0, none⟩)] w fun e w' => e = .returned (.int .i64 n) ∧ w = w' := by
  obtain ⟨_, h1⟩ := hs.head
  go_enter Try.func214, Try.ntmps214
  go_wp2
  go_ret
  exact ⟨rfl, rfl⟩
theorem sLen_nil (w : World) : Calls Try.prog 214 #[.pointer none] w fun e w' => e = .returned (.int .i64 0) ∧ w = w' := by
  go_enter Try.func214, Try.ntmps214
  go_wp2
  go_ret
  exact ⟨rfl, rfl⟩

theorem dense_val (k n : Nat) (hk : k ≤ 6) (hn : n ≤ 65536) : decide (wrap64 (2 ^ k) < 2 * (n : Int)) = isDense k n := by
  have h0 : (2 : Nat) ^ k ≤ 2 ^ 6 := Nat.pow_le_pow_right (by omega) hk
  have h1 : (0 : Nat) < 2 ^ k := Nat.two_pow_pos k
  have e : (2 : Int) ^ k = ((2 ^ k : Nat) : Int) := by simp
  rw [e]
  unfold isDense wrap64
  generalize 2 ^ k = t at *
  simp only [hk, decide_true, Bool.true_and]
  congr 1
  apply propext
  omega
theorem sDense0_any (k n : Nat) (w : World) (hn : n ≤ 65536) :
    Calls Try.prog 215 #[.int .i64 k, .int .i64 n] w fun e w' => e = .returned (.bool (isDense k n)) ∧ w = w' := by
  by_cases hk : k ≤ 6
  · have HD := Lib.hid (dense_val k n hk hn)
    go_enter Try.func215, Try.ntmps215
    go_wp2
    go_ret
    exact ⟨by rw [← HD.out]; rfl, rfl⟩
  · go_enter Try.func215, Try.ntmps215
    go_wp2
    go_ret
    exact ⟨by simp [isDense, hk], rfl⟩

set_option maxRecDepth 100000 in
set_option maxHeartbeats 400000 in
theorem sGet_any (s k n : Nat) (a : Int) (cs : List Cell) (w : World) (hs : SlAt w s k n cs) (hr : Rising cs) (hf : Full cs) (hlen : cs.length ≤ 65536) :
    Calls Try.prog 164 #[.pointer (some ⟨s, 0, none⟩), .int .i64 a] w fun e w' => e = .returned (.tuple #[ptr (lk (pairs cs) a), .bool (lk (pairs cs) a).isSome]) ∧ Below w.heap.size w w' := by
  have HR := Lib.hid hr
  have HF := Lib.hid hf
  go_enter Try.func164, Try.ntmps164
  go_wp2_with fail
  refine (sfind_any s k n a cs w hs hr hlen).mono ?_
  rintro e w1 ⟨⟨at_, r, rfl, hP, hq⟩, hb⟩
  have HP := Lib.hid hP
  have HQ := Lib.hid hq
  clear hP hq hr hf
  cases r with
  | true =>
    obtain ⟨hlt, ha, hh⟩ := HQ.out.1 rfl
    obtain ⟨b, hx⟩ := HF.out _ (List.getElem_mem hlt) hh
    have HL : Hid (lk (pairs cs) a = some b) := HP.out.lk_has hlt ha hh hx
    obtain ⟨A, cap, c2, h2, hg⟩ := (hs.below hb).cells
    obtain ⟨g, rfl⟩ := hg (by omega)
    obtain ⟨_, d1, _⟩ := own_cells h2 at_ hlt
    rw [hx] at d1
    clear ha hh hx
    go_wp2
    go_ret2
    exact ⟨by rw [HL.out]; rfl, hb⟩
  | false =>
    have HL : Hid (lk (pairs cs) a = none) := HP.out.lk_none HR.out (fun hn ha => by
      cases hh : cs[at_].has with
      | false => rfl
      | true => exact absurd (HQ.out.2 ⟨hn, ha, hh⟩) (by simp))
    go_wp2
    go_ret2
    exact ⟨by rw [HL.out]; rfl, hb⟩
theorem sGet_nil (a : Int) (w : World) :
    Calls Try.prog 164 #[.pointer none, .int .i64 a] w fun e w' => e = .returned (.tuple #[.pointer none, .bool false]) ∧ w = w' := by
  go_enter Try.func164, Try.ntmps164
  go_wp2
  go_ret2
  exact ⟨rfl, rfl⟩

theorem Try.infoCell : (Try.prog.info? 270).map (fun i => (i.zero, i.size, i.bytes)) = some (some (.agg #[.int .i64 0, .pointer none, .bool false]), 3, 24) := by kernel_rfl
set_option maxRecDepth 100000 in
set_option maxHeartbeats 400000 in
theorem sthings_any (s k n : Nat) (cs : List Cell) (w : World) (hs : SlAt w s k n cs) (hlen : cs.length ≤ 65536) :
    Calls Try.prog 204 #[.pointer (some ⟨s, 0, none⟩)] w fun e w' => ∃ v, e = .returned v ∧ w'.ownsRow w.heap.size 270 3 v (cs.filter (·.has)).length (flat (cs.filter (·.has))) ∧ Below w.heap.size w w' := by
  obtain ⟨A, cap, c2, h2, hg⟩ := hs.cells
  go_enter Try.func204, Try.ntmps204
  go_wp2_with fail
  go_loopg [3, 11] (cs.length) (fun q v i wr => ∃ m : Nat, m ≤ cs.length ∧ q + m = cs.length ∧ i = .int .i64 m ∧ wr.ownsRow w.heap.size 270 3 v ((cs.take m).filter (·.has)).length (flat ((cs.take m).filter (·.has))) ∧ Below w.heap.size w wr)
  case atStart => exact ⟨0, by omega, by omega, rfl, own_nil _ _ _ _, Below.refl _ _⟩
  case round =>
    obtain ⟨m, hm, hq, rfl, ho, hb⟩ := hrel
    have HG := Lib.hid hq
    clear hq
    by_cases hlt : m < cs.length
    · obtain ⟨g, rfl⟩ := hg (by omega)
      obtain ⟨d0, d1, d2⟩ := own_cells (pw_own_below h2 hb) m hlt
      have htk : cs.take (m + 1) = cs.take m ++ [cs[m]] := List.take_succ_eq_append_getElem hlt
      have HT : Hid (((cs.take (m + 1)).filter (·.has)) = ((cs.take m).filter (·.has)) ++ (if cs[m].has then [cs[m]] else [])) := by
        unfold Hid; rw [htk, List.filter_append]; cases h : cs[m].has <;> simp [h]
      have hl3 := List.length_filter_le (fun c : Cell => c.has) (cs.take m)
      rw [List.length_take] at hl3
      clear htk
      cases hh : cs[m].has with
      | true =>
        rw [hh] at d2
        go_wp2_with (at_builtin; go_must (refine app_row w.heap.size rfl _ _ 264 270 (.agg #[.int .i64 0, .pointer none, .bool false]) 3 24 rfl Try.underlying264 Try.infoCell rfl (by omega) (by omega) _ _ _ _ rfl rfl _ (by simp) rfl (by simp [Value.oneCell']) (ho.alloc _) (hb.alloc hb.size _) (by simp; have := hb.size; omega) (by omega) ?_; intro v1 w1 ho1 hb1 _))
        go_roundg (gk - 1)
        case measure => have := HG.out; omega
        case rel =>
          refine ⟨m + 1, by omega, by have := HG.out; omega, by go_num, ?_, hb1⟩
          rw [HT.out, hh, if_pos rfl, flat_append, List.length_append]
          have e : flat [cs[m]] = [.int .i64 cs[m].a, ptr cs[m].x, .bool true] := by simp [flat, Cell.row, hh]
          rw [e]
          exact ho1
      | false =>
        rw [hh] at d2
        go_wp2
        go_roundg (gk - 1)
        case measure => have := HG.out; omega
        case rel =>
          refine ⟨m + 1, by omega, by have := HG.out; omega, by go_num, ?_, hb.alloc hb.size _⟩
          rw [HT.out, hh, if_neg (by simp), List.append_nil]
          exact ho.alloc _
    · go_wp2
      go_ret
      have e : m = cs.length := by omega
      subst e
      rw [List.take_length] at ho
      exact ⟨_, rfl, ho, hb⟩

/-- the things, one cell each -/
theorem filter_has (cs : List Cell) (hf : Full cs) : cs.filter (·.has) = (pairs cs).map cellOf := by
  induction cs with
  | nil => rfl
  | cons c cs ih =>
    have ih' := ih (fun d hd => hf d (by simp [hd]))
    cases hh : c.has with
    | true =>
      obtain ⟨b, hx⟩ := hf c (by simp) hh
      rw [List.filter_cons_of_pos (by simpa using hh), ih', pairs_cons_has hh hx, List.map_cons]
      congr 1
      cases c; simp at hh hx; subst hh hx; rfl
    | false => rw [List.filter_cons_of_neg (by simp [hh]), ih', pairs_cons_not hh]
def ptrs (l : List Nat) : List Value := l.map fun b => .pointer (some ⟨b, 0, none⟩)
def ints (l : List Nat) : List Value := l.map fun (n : Nat) => .int .i64 (n : Int)
theorem Try.infoPtr : (Try.prog.info? 58).map (fun i => (i.zero, i.size, i.bytes)) = some (some (.pointer none), 1, 8) := by kernel_rfl
theorem Try.infoInt : (Try.prog.info? 3).map (fun i => (i.zero, i.size, i.bytes)) = some (some (.int .i64 0), 1, 8) := by kernel_rfl
theorem map_get {α : Type} (M : List (Nat × Nat)) (f : Nat × Nat → α) (m : Nat) (h : m < M.length) : (M.take (m + 1)).map f = (M.take m).map f ++ [f M[m]] := by
  rw [List.take_succ_eq_append_getElem h, List.map_append]; rfl

theorem own_lower {w : World} {b b' : Nat} {e : TypeId} {size n : Nat} {v : Value} {xs : List Value} (h : w.ownsRow b e size v n xs) (hb : b' ≤ b) : w.ownsRow b' e size v n xs := by
  obtain ⟨h1, h2⟩ := h
  refine ⟨h1, ?_⟩
  rcases h2 with h2 | ⟨g, cap, cur, e1, e2, r⟩
  · exact .inl h2
  · exact .inr ⟨g, cap, cur, e1, Nat.le_trans hb e2, r⟩
set_option maxRecDepth 100000 in
set_option maxHeartbeats 400000 in
theorem sAll_any (s k n : Nat) (cs : List Cell) (M : List (Nat × Nat)) (w : World) (hs : SlAt w s k n cs) (hf : Full cs) (hM : pairs cs = M) (hlen : cs.length ≤ 65536) :
    Calls Try.prog 211 #[.pointer (some ⟨s, 0, none⟩)] w fun e w' => ∃ v, e = .returned v ∧ w'.ownsRow w.heap.size 58 1 v M.length (ptrs (M.map (·.2))) ∧ Below w.heap.size w w' := by
  have hfl := filter_has cs hf
  rw [hM] at hfl
  have HF := Lib.hid hfl
  have hml : M.length ≤ 65536 := by rw [← hM]; exact Nat.le_trans (List.length_filterMap_le _ _) hlen
  clear hM hfl hf
  go_enter Try.func211, Try.ntmps211
  go_wp2_with fail
  refine (sthings_any s k n cs w hs hlen).mono ?_
  rintro e w1 ⟨v, rfl, ho, hb⟩
  rw [HF.out, List.length_map] at ho
  obtain ⟨A, c, rfl⟩ := own_slice ho
  have hnil : 0 < M.length → ∃ g, A = some ⟨g, 0, none⟩ := by
    intro hp
    rcases ho.2 with ⟨h', h''⟩ | ⟨g', cap', cur, h', _⟩
    · omega
    · simp only [Value.slice.injEq] at h'; exact ⟨g', h'.1⟩
  go_wp2_with fail
  go_loopg [3, 11] (M.length) (fun q v i wr => ∃ m : Nat, m ≤ M.length ∧ q + m = M.length ∧ i = .int .i64 m ∧ wr.ownsRow w1.heap.size 58 1 v m (ptrs ((M.take m).map (·.2))) ∧ Below w1.heap.size w1 wr)
  case atStart => exact ⟨0, by omega, by omega, rfl, own_nil _ _ _ _, Below.refl _ _⟩
  case round =>
    obtain ⟨m, hm, hq, rfl, hx, hy⟩ := hrel
    have HG := Lib.hid hq
    clear hq
    by_cases hlt : m < M.length
    · obtain ⟨g, rfl⟩ := hnil (by omega)
      have hlt' : m < (M.map cellOf).length := by simpa using hlt
      obtain ⟨d0, d1, d2⟩ := own_cells (cs := M.map cellOf) (pw_own_below ho hy) m hlt'
      simp only [List.getElem_map, cellOf, ptr, Option.map_some] at d0 d1 d2
      have HT := Lib.hid (map_get M (·.2) m hlt)
      have hz := hy.size
      go_wp2_with (at_builtin; go_must (refine app_row (w0 := w1) w1.heap.size rfl _ _ 51 58 (.pointer none) 1 8 rfl Try.underlying51 Try.infoPtr rfl (by omega) (by omega) _ _ _ _ rfl rfl _ (by simp) rfl (by simp [Value.oneCell']) (hx.alloc _) (hy.alloc (by omega) _) (by simp; omega) (by omega) ?_; intro v1 w2 ho1 hb1 hg1))
      go_roundg (gk - 1)
      case measure => have := HG.out; omega
      case rel =>
        refine ⟨m + 1, by omega, by have := HG.out; omega, by go_num, ?_, hb1⟩
        rw [HT.out]
        simpa [ptrs] using ho1
    · go_wp2
      go_ret
      have e : m = M.length := by omega
      subst e
      rw [List.take_length] at hx
      exact ⟨_, rfl, own_lower hx hb.size, hb.trans (hy.mono hb.size)⟩
set_option maxRecDepth 100000 in
set_option maxHeartbeats 400000 in
theorem sPlaces_any (s k n : Nat) (cs : List Cell) (M : List (Nat × Nat)) (w : World) (hs : SlAt w s k n cs) (hf : Full cs) (hM : pairs cs = M) (hlen : cs.length ≤ 65536) :
    Calls Try.prog 161 #[.pointer (some ⟨s, 0, none⟩)] w fun e w' => ∃ v, e = .returned v ∧ w'.ownsRow w.heap.size 3 1 v M.length (ints (M.map (·.1))) ∧ Below w.heap.size w w' := by
  have hfl := filter_has cs hf
  rw [hM] at hfl
  have HF := Lib.hid hfl
  have hml : M.length ≤ 65536 := by rw [← hM]; exact Nat.le_trans (List.length_filterMap_le _ _) hlen
  clear hM hfl hf
  go_enter Try.func161, Try.ntmps161
  go_wp2_with fail
  refine (sthings_any s k n cs w hs hlen).mono ?_
  rintro e w1 ⟨v, rfl, ho, hb⟩
  rw [HF.out, List.length_map] at ho
  obtain ⟨A, c, rfl⟩ := own_slice ho
  have hnil : 0 < M.length → ∃ g, A = some ⟨g, 0, none⟩ := by
    intro hp
    rcases ho.2 with ⟨h', h''⟩ | ⟨g', cap', cur, h', _⟩
    · omega
    · simp only [Value.slice.injEq] at h'; exact ⟨g', h'.1⟩
  go_wp2_with fail
  go_loopg [3, 11] (M.length) (fun q v i wr => ∃ m : Nat, m ≤ M.length ∧ q + m = M.length ∧ i = .int .i64 m ∧ wr.ownsRow w1.heap.size 3 1 v m (ints ((M.take m).map (·.1))) ∧ Below w1.heap.size w1 wr)
  case atStart => exact ⟨0, by omega, by omega, rfl, own_nil _ _ _ _, Below.refl _ _⟩
  case round =>
    obtain ⟨m, hm, hq, rfl, hx, hy⟩ := hrel
    have HG := Lib.hid hq
    clear hq
    by_cases hlt : m < M.length
    · obtain ⟨g, rfl⟩ := hnil (by omega)
      have hlt' : m < (M.map cellOf).length := by simpa using hlt
      obtain ⟨d0, d1, d2⟩ := own_cells (cs := M.map cellOf) (pw_own_below ho hy) m hlt'
      simp only [List.getElem_map, cellOf, ptr, Option.map_some] at d0 d1 d2
      have HT := Lib.hid (map_get M (·.1) m hlt)
      have hz := hy.size
      go_wp2_with (at_builtin; go_must (refine app_row (w0 := w1) w1.heap.size rfl _ _ 141 3 (.int .i64 0) 1 8 rfl Try.underlying141 Try.infoInt rfl (by omega) (by omega) _ _ _ _ rfl rfl _ (by simp) rfl (by simp [Value.oneCell']) (hx.alloc _) (hy.alloc (by omega) _) (by simp; omega) (by omega) ?_; intro v1 w2 ho1 hb1 hg1))
      go_roundg (gk - 1)
      case measure => have := HG.out; omega
      case rel =>
        refine ⟨m + 1, by omega, by have := HG.out; omega, by go_num, ?_, hb1⟩
        rw [HT.out]
        simpa [ints] using ho1
    · go_wp2
      go_ret
      have e : m = M.length := by omega
      subst e
      rw [List.take_length] at hx
      exact ⟨_, rfl, own_lower hx hb.size, hb.trans (hy.mono hb.size)⟩

theorem sAll_nil (w : World) : Calls Try.prog 211 #[.pointer none] w fun e w' => e = .returned (.slice none 0 0) ∧ w = w' := by
  go_enter Try.func211, Try.ntmps211
  go_wp2
  go_ret
  exact ⟨rfl, rfl⟩
theorem sPlaces_nil (w : World) : Calls Try.prog 161 #[.pointer none] w fun e w' => e = .returned (.slice none 0 0) ∧ w = w' := by
  go_enter Try.func161, Try.ntmps161
  go_wp2
  go_ret
  exact ⟨rfl, rfl⟩
end Go.Proofs.Ytdjemmopecchmaa
