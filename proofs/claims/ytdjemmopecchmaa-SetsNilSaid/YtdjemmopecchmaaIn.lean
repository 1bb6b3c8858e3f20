/- The walk over slices.Insert at cells. -/
import Derived.Test.YtdjemmopecchmaaSb
import Derived.Lib.AppendZerosOnto
import Derived.Lib.Overlaps
import Derived.Laws.CopyRow
import Derived.Laws.CopyOwn
import Derived.Deep.RegionLaw
import Derived.Laws.Externs
namespace Go.Proofs.Ytdjemmopecchmaa
open Go.RowKit Go.Proofs.YtdjemmopecchmaaW.PrintWords Key
set_option linter.unusedVariables false
set_option linter.unusedSimpArgs false

section
variable {P : Program}
/-- copy into a row that is known whole, elements of several cells each -/
theorem run_copy_row_n (w : World) (dT sT ty elem : TypeId) (g o dLen dCap : Nat) (a : Addr) (sLen sCap : Nat) (cur : Array Value) (t : TypeId) (cs : List Value) (sz m : Nat)
    (hu : P.underlying dT = some (.slice elem)) (hs : (P.info? elem).map (·.size) = some sz)
    (hg : w.heap[g]? = some (.cells cur t (0, 0))) (hm : m = Nat.min sLen dLen) (hn : cs.length = m * sz)
    (hsrc : ∀ j v, cs[j]? = some v → w.cell? (a.add j) = some v) (hfit : o + cs.length ≤ cur.size) (h1 : ∀ v ∈ cs, v.oneCell' = true) :
    (Builtin.copy_ #[dT, sT] ty #[.slice (some ⟨g, o, none⟩) dLen dCap, .slice (some a) sLen sCap]).run P w =
      .ok (goInt m) (w.setRow g (cur.toList.take o ++ cs ++ cur.toList.drop (o + cs.length)).toArray) := by
  have hl := run_loadCells_list (P := P) w a cs hsrc
  have hst := run_storeCells_at P g o t cs 0 cur w hg (by simpa using hfit) h1
  cases hq : P.info? elem with
  | none => simp [hq] at hs
  | some i =>
    have hi : i.size = sz := by simpa [hq] using hs
    simp [Builtin.copy_, run_underlying hu, Builtin.lenOf, Builtin.firstCells, sizeOf, typeInfo, hq, hi, ← hm, ← hn, hl, hst]
theorem wp_copy_runN (w : World) {o : Oper} {a : Act} {K : Act → World → Prop} {Q : Exit → Act → World → Prop} (d s : Operand) (t t' : TypeId)
    (ho : o.op = .call { callee := .builtin .copy, args := #[d, s], argTypes := #[t, t'] }) (v u : Value) (hd : a.eval d = v) (hs : a.eval s = u) {v' : Value} {w' : World}
    (hr : (Builtin.copy_ #[t, t'] o.type #[v, u]).run P w = .ok v' w') (h : K (a.put o.dst v') w') : o.wp P a w K Q := by
  unfold Oper.wp execOp
  simp only [ho, resolve, invoke, builtin, Sem.run_bind, Sem.run_pure, Result.andThen_ok, List.map_toArray, List.map_cons, List.map_nil, hd, hs, hr]
  exact h
theorem wpList_copy_runN (w : World) {ops : Array Oper} {rest : List Oper} {o : Oper} {a : Act} {Q : Exit → Act → World → Prop} (hgd : o.guard = none) (d s : Operand) (t t' : TypeId)
    (ho : o.op = .call { callee := .builtin .copy, args := #[d, s], argTypes := #[t, t'] }) (v u : Value) (hd : a.eval d = v) (hs : a.eval s = u) {v' : Value} {w' : World}
    (hr : (Builtin.copy_ #[t, t'] o.type #[v, u]).run P w = .ok v' w') (h : wpList P ops Q rest (a.put o.dst v') w') : wpList P ops Q (o :: rest) a w :=
  wpList_plain hgd fun _ hK => wp_copy_runN w d s t t' ho v u hd hs hr (hK _ _ h)
theorem step_copy_runN {ops : Array Oper} {o : Oper} {a : Act} {w : World} {K : Act → World → Prop} {Q : Exit → Act → World → Prop} {E : Prop}
    (hg : o.guard = none) (d x : Operand) (dT sT : TypeId) (hop : o.op = Op.call { callee := Callee.builtin Builtin.copy, args := #[d, x], argTypes := #[dT, sT] })
    (v u : Value) (hd : a.eval d = v) (hx : a.eval x = u) {v' : Value} {w' : World} (hr : (Builtin.copy_ #[dT, sT] o.type #[v, u]).run P w = .ok v' w') (hK : K (a.put o.dst v') w') :
    if Region.wanted o (yielded ops a.tmps) = true then Oper.wp P o a w K Q else E := by
  have hw : Region.wanted o (yielded ops a.tmps) = true := by simp [Region.wanted, hg]
  rw [if_pos hw]
  unfold Oper.wp
  simp [execOp, hop, resolve, invoke, builtin, hd, hx, hr, Result.andThen]
  exact hK
end
theorem row_one (c : Cell) : ∀ u ∈ c.row, u.oneCell' = true := by
  intro u hu
  simp [Cell.row] at hu
  rcases hu with rfl | rfl | rfl <;> rfl
theorem flat_one (cs : List Cell) : ∀ u ∈ flat cs, u.oneCell' = true := by
  intro u hu
  simp only [flat, List.mem_flatMap] at hu
  obtain ⟨c, _, hc⟩ := hu
  exact row_one c u hc
theorem flat_take (cs : List Cell) (i : Nat) : flat (cs.take i) = (flat cs).take (i * 3) := by
  induction cs generalizing i with
  | nil => simp [flat]
  | cons c cs ih =>
    cases i with
    | zero => simp [flat]
    | succ i =>
      have hc : ∀ l, flat (c :: l) = c.row ++ flat l := fun _ => rfl
      rw [List.take_succ_cons, hc, hc, ih, List.take_append, List.take_of_length_le (l := c.row) (by simp [Cell.row]; omega)]
      congr 2
      simp [Cell.row]; omega
theorem flat_drop (cs : List Cell) (i : Nat) : flat (cs.drop i) = (flat cs).drop (i * 3) := by
  have h : flat cs = flat (cs.take i) ++ flat (cs.drop i) := by rw [← flat_append, List.take_append_drop]
  rcases Nat.lt_or_ge cs.length i with hi | hi
  · rw [List.drop_eq_nil_of_le (Nat.le_of_lt hi), List.drop_eq_nil_of_le (by rw [flat_length]; omega)]; rfl
  · have hl : (flat (cs.take i)).length = i * 3 := by rw [flat_length, List.length_take, Nat.min_eq_left hi]
    rw [h, ← hl, List.drop_left]

set_option maxRecDepth 100000 in
set_option maxHeartbeats 1600000 in
/-- at the end -/
theorem insert_end (B : Nat) (v : Value) (c : Cell) (cs : List Cell) (xb : Nat) (w : World) (ho : w.ownsRow B 270 3 v cs.length (flat cs)) (hlen : cs.length ≤ 65536) (hB : B ≤ w.heap.size)
    (hx : w.heap[xb]? = some (.cells c.row.toArray 270 (0, 0))) :
    Calls Try.prog 207 #[v, .int .i64 cs.length, .slice (some ⟨xb, 0, none⟩) 1 1] w fun e w' => ∃ v', e = .returned v' ∧ w'.ownsRow B 270 3 v' (cs.length + 1) (flat (cs ++ [c])) ∧ Below B w w' := by
  obtain ⟨A, cap, rfl⟩ := own_slice ho
  have hcap : cs.length ≤ cap := by
    rcases ho.2 with ⟨h', h''⟩ | ⟨g', cap', cur, h', _, _, h3, _⟩
    · omega
    · simp only [Value.slice.injEq] at h'; omega
  have hbe : ((cs.length : Int) == (cs.length : Int)) = true := by simp
  obtain ⟨i0, hi, hz0, hz1, hz2⟩ := info_parts Try.infoCell
  have HC := Lib.hid hcap
  rcases Nat.lt_or_eq_of_le hcap with hlt | heq
  · have hne : ¬ cap = cs.length := by omega
    clear hcap
    go_enter Try.func207, Try.ntmps207
    go_wp2_with (at_builtin; go_must (refine wpList_append_own _ rfl _ _ 264 rfl B 270 i0 _ 3 24 Try.underlying264 hi hz0 hz1 hz2 rfl (by decide) _ _ _ rfl ho ⟨xb, 0, none⟩ 1 1 c.row rfl rfl (World.news_of_block hx) (row_one c) (by unfold maxLen; omega) (by omega) hB ?_; intro v' w1 ho1 hg1 _))
    go_ret
    refine ⟨_, rfl, ?_, (Below.refl _ _).grown hg1 hB (own_base ho)⟩
    rw [flat_append]
    have e : flat [c] = c.row := by simp [flat]
    rw [e]; exact ho1
  · subst heq
    clear hcap HC
    go_enter Try.func207, Try.ntmps207
    go_wp2_with (at_builtin; go_must (refine wpList_append_own _ rfl _ _ 264 rfl B 270 i0 _ 3 24 Try.underlying264 hi hz0 hz1 hz2 rfl (by decide) _ _ _ rfl ho ⟨xb, 0, none⟩ 1 1 c.row rfl rfl (World.news_of_block hx) (row_one c) (by unfold maxLen; omega) (by omega) hB ?_; intro v' w1 ho1 hg1 _))
    go_ret
    refine ⟨_, rfl, ?_, (Below.refl _ _).grown hg1 hB (own_base ho)⟩
    rw [flat_append]
    have e : flat [c] = c.row := by simp [flat]
    rw [e]; exact ho1

theorem take_drop_row (F L R : List Value) (a b n : Nat) (hR : R.length = b) (hF : a ≤ F.length) (hn : n = F.length) (hL : L.take n = F) (hb : n + b ≤ L.length) :
    (((L.take (a + b) ++ F.drop a ++ L.drop (a + b + (F.drop a).length)).take a) ++ R ++ ((L.take (a + b) ++ F.drop a ++ L.drop (a + b + (F.drop a).length)).drop (a + R.length))).take (n + b) = F.take a ++ R ++ F.drop a := by
  subst hn hR
  have e1 : (L.take (a + R.length) ++ F.drop a ++ L.drop (a + R.length + (F.drop a).length)).take a = F.take a := by
    rw [List.append_assoc, List.take_append_of_le_length (by rw [List.length_take]; omega), List.take_take, Nat.min_eq_left (by omega)]
    conv => rhs; rw [← hL, List.take_take, Nat.min_eq_left hF]
  have e2 : (L.take (a + R.length) ++ F.drop a ++ L.drop (a + R.length + (F.drop a).length)).drop (a + R.length) = F.drop a ++ L.drop (a + R.length + (F.drop a).length) := by
    have hl : (L.take (a + R.length)).length = a + R.length := by rw [List.length_take]; omega
    rw [List.append_assoc]
    conv => lhs; arg 1; rw [← hl]
    rw [List.drop_left]
  rw [e1, e2, ← List.append_assoc]
  rw [List.take_append_of_le_length (by simp; omega)]
  rw [List.take_of_length_le (by simp; omega)]

set_option maxRecDepth 100000 in
set_option maxHeartbeats 3200000 in
/-- there is room: in place -/
theorem insert_room (B g cap : Nat) (c : Cell) (cs : List Cell) (i xb : Nat) (w : World) (ho : w.ownsRow B 270 3 (.slice (some ⟨g, 0, none⟩) cs.length cap) cs.length (flat cs)) (hlen : cs.length ≤ 65536) (hi : i < cs.length) (hroom : cs.length < cap)
    (hx : w.heap[xb]? = some (.cells c.row.toArray 270 (0, 0))) (hxg : xb ≠ g) :
    Calls Try.prog 207 #[.slice (some ⟨g, 0, none⟩) cs.length cap, .int .i64 i, .slice (some ⟨xb, 0, none⟩) 1 1] w fun e w' => ∃ v', e = .returned v' ∧ w'.ownsRow B 270 3 v' (cs.length + 1) (flat (cs.take i ++ c :: cs.drop i)) ∧ Below B w w' := by
  have hbe : ((i : Int) == (cs.length : Int)) = false := by simp; omega
  have h1 : ¬ cap = i := by omega
  have h2 : ¬ cap = i + 1 := by omega
  obtain ⟨hl, h'⟩ := ho
  rcases h' with ⟨h', _⟩ | ⟨g', cap', cur, h', hBg, hg, hnc, hcm, hcs, htake⟩
  · simp at h'
  simp only [Value.slice.injEq, Option.some.injEq, Addr.mk.injEq, and_true, true_and] at h'
  obtain ⟨rfl, rfl⟩ := h'
  have hsz : (Try.prog.info? 270).map (·.size) = some 3 := by
    obtain ⟨i0, hi0, h0, h1, h2⟩ := info_parts Try.infoCell
    rw [hi0]; simp [h1]
  have hov : ∀ lb cb, (callFunc 233 #[.slice (some ⟨xb, 0, none⟩) 1 1, .slice (some ⟨g, (i + 1) * 3, none⟩) lb cb]).run Try.prog w = .ok (.value (.bool false)) w := fun lb cb => by
    have hsa : w.shape? xb = some (270, 3) := by unfold World.shape?; rw [hx]; rfl
    have hsb : w.shape? g = some (270, cap * 3) := by unfold World.shape?; rw [hg, ← hcs]
    rw [run_callFunc_extern Try.func233 (by kernel_rfl) (by kernel_rfl) (by kernel_rfl) (e := Extern.SlicesOverlaps.overlaps #[264, 264] #[4]) (by kernel_rfl),
      Lib.run_overlaps_apart w 264 4 270 Try.underlying264 3 (fun w => by kernel_rfl) ⟨xb, 0, none⟩ ⟨g, (i + 1) * 3, none⟩ 1 1 lb cb hxg _ _ _ _ hsa hsb (by omega) (free_block hx 0) (free_block hx 3)]
    rfl
  obtain ⟨F, hF⟩ : ∃ F, F = flat cs := ⟨_, rfl⟩
  rw [← hF] at htake
  have hFl : F.length = cs.length * 3 := by rw [hF, flat_length]
  have hcl : cur.toList.length = cap * 3 := by simp [hcs]
  have hcp1 : ∀ ty dl dc sl sc, Nat.min sl dl = cs.length - i → (Builtin.copy_ #[264, 264] ty #[.slice (some ⟨g, (i + 1) * 3, none⟩) dl dc, .slice (some ⟨g, i * 3, none⟩) sl sc]).run Try.prog w.drew = .ok (goInt ((cs.length - i : Nat) : Int)) (w.drew.setRow g (cur.toList.take ((i + 1) * 3) ++ F.drop (i * 3) ++ cur.toList.drop ((i + 1) * 3 + (F.drop (i * 3)).length)).toArray) := fun ty dl dc sl sc hmin =>
    run_copy_row_n w.drew _ _ ty 270 g ((i + 1) * 3) dl dc ⟨g, i * 3, none⟩ sl sc cur 270 (F.drop (i * 3)) 3 (cs.length - i) Try.underlying264 hsz hg
      hmin.symm (by rw [List.length_drop, hFl]; omega)
      (fun j v hj => by
        rw [Go.WideShapes.add_plain]
        show w.cell? _ = _
        rw [cell_of_block hg, ← Array.getElem?_toList]
        rw [List.getElem?_drop, ← htake, List.getElem?_take] at hj
        split at hj
        · exact hj
        · cases hj)
      (by rw [List.length_drop, hFl]; omega) (fun v hv => by rw [hF] at hv; exact flat_one cs v (List.mem_of_mem_drop hv))
  obtain ⟨L1, hL1⟩ : ∃ L1, L1 = cur.toList.take ((i + 1) * 3) ++ F.drop (i * 3) ++ cur.toList.drop ((i + 1) * 3 + (F.drop (i * 3)).length) := ⟨_, rfl⟩
  rw [← hL1] at hcp1
  have hL1l : L1.length = cap * 3 := by rw [hL1]; simp [hFl, hcs]; omega
  obtain ⟨W1, hW1⟩ : ∃ W1, W1 = w.drew.setRow g L1.toArray := ⟨_, rfl⟩
  rw [← hW1] at hcp1
  have hg1 : W1.heap[g]? = some (.cells L1.toArray 270 (0, 0)) := by rw [hW1]; exact setRow_heap w.drew g cur _ _ _ hg
  have hx1 : W1.heap[xb]? = some (.cells c.row.toArray 270 (0, 0)) := by rw [hW1]; exact (setRow_other w.drew g xb _ hxg).trans hx
  have hcp2 : ∀ W, (∀ k, W.heap[k]? = W1.heap[k]?) → ∀ ty dl dc, 0 < dl → (Builtin.copy_ #[264, 264] ty #[.slice (some ⟨g, i * 3, none⟩) dl dc, .slice (some ⟨xb, 0, none⟩) 1 1]).run Try.prog W = .ok (goInt ((1 : Nat) : Int)) (W.setRow g (L1.take (i * 3) ++ c.row ++ L1.drop (i * 3 + c.row.length)).toArray) := fun W hW ty dl dc hdl =>
    run_copy_row_n W _ _ ty 270 g (i * 3) dl dc ⟨xb, 0, none⟩ 1 1 L1.toArray 270 c.row 3 1 Try.underlying264 hsz ((hW g).trans hg1)
      (by simp only [Nat.min_def]; split <;> omega) rfl (World.news_of_block ((hW xb).trans hx1)) (by simp [hL1l, Cell.row]; omega) (row_one c)
  have HF2 : Hid ((L1.take (i * 3) ++ c.row ++ L1.drop (i * 3 + c.row.length)).take ((cs.length + 1) * 3) = flat (cs.take i ++ c :: cs.drop i)) := by
    have ht := take_drop_row F cur.toList c.row (i * 3) 3 (cs.length * 3) rfl (by omega) hFl.symm htake (by omega)
    unfold Hid
    rw [flat_append, flat_take]
    have e : flat (c :: cs.drop i) = c.row ++ flat (cs.drop i) := rfl
    have e3 : (i + 1) * 3 = i * 3 + 3 := by omega
    have e4 : (cs.length + 1) * 3 = cs.length * 3 + 3 := by omega
    rw [e, flat_drop, ← hF, ← List.append_assoc, ← ht, hL1, e3, e4]
  have HW1 := Lib.hid hW1
  have HL1 := Lib.hid hL1
  have HLL := Lib.hid hL1l
  have Htk := Lib.hid htake
  have Hg1 := Lib.hid hg1
  have Hov := hov
  have e1 : ((i : Int) + 1).toNat = i + 1 := by omega
  have b1 : (0 : Int) ≤ (i : Int) + 1 := by omega
  have b2 : (i : Int) + 1 ≤ (cs.length : Int) + 1 := by omega
  have b3 : (i : Int) ≤ (cs.length : Int) + 1 := by omega
  have b0 : (0 : Int) ≤ (i : Int) := by omega
  have hw1 : IntKind.i64.wrap ((i : Int) + 1) = (i : Int) + 1 := by rw [IntKind.wrap_i64]; omega
  have hin : i ≤ cs.length := by omega
  clear hW1 hL1 hL1l htake hg1 hcs hl hF hFl hcl
  have hcpA := fun ty dc sc => hcp1 ty (cs.length - i) dc (cs.length + 1 - i) sc (by simp only [Nat.min_def]; split <;> omega)
  clear hcp1
  go_enter Try.func207, Try.ntmps207
  go_wp2_with (simp only [hov])
  go_region_law (refine step_copy_runN rfl _ _ 264 264 rfl _ _ (by simp [Act.eval, Act.put]) (by simp [Act.eval, Act.put]) (hcpA _ _ _) ?_)
  all_goals
    have hcpB := fun ty => hcp2 W1 (fun _ => rfl) ty (cs.length + 1 - i) (cap - i) (by omega)
    go_wp2
    go_ret
    refine ⟨_, rfl, ⟨by rw [flat_length]; simp; omega, .inr ⟨g, cap, (L1.take (i * 3) ++ c.row ++ L1.drop (i * 3 + c.row.length)).toArray, rfl, hBg, ?_, by omega, hcm, ?_, HF2.out⟩⟩, ?_⟩
    · rw [List.append_assoc]; exact setRow_heap W1 g L1.toArray _ _ _ Hg1.out
    · simp [HLL.out, Cell.row]; omega
    · refine below_setRow ?_ hBg _
      have hb1 : Below B w W1 := by rw [HW1.out]; exact below_setRow (Below.refl _ _).drew hBg _
      first | exact hb1 | exact hb1.drew

theorem grow_row (F R Z1 Z2 : List Value) (a b : Nat) (hR : R.length = b) (hF : a ≤ F.length) (hZ : Z1.length = F.length + b - a) :
    let ROW := F.take a ++ Z1 ++ Z2
    let L1 := ROW.take a ++ R ++ ROW.drop (a + R.length)
    (L1.take (a + b) ++ F.drop a ++ L1.drop (a + b + (F.drop a).length)).take (F.length + b) = F.take a ++ R ++ F.drop a := by
  intro ROW L1
  subst hR
  have hFl : (F.take a).length = a := by rw [List.length_take]; omega
  have e1 : ROW.take a = F.take a := by
    show (F.take a ++ Z1 ++ Z2).take a = _
    rw [List.append_assoc]
    conv => lhs; arg 1; rw [← hFl]
    rw [List.take_left]
  have e2 : L1.take (a + R.length) = F.take a ++ R := by
    show (ROW.take a ++ R ++ ROW.drop (a + R.length)).take (a + R.length) = _
    rw [e1]
    have : (F.take a ++ R).length = a + R.length := by simp; omega
    conv => lhs; arg 1; rw [← this]
    rw [List.take_left]
  rw [e2, List.take_append_of_le_length (by simp; omega), List.take_of_length_le (by simp; omega)]

set_option maxRecDepth 100000 in
set_option maxHeartbeats 3200000 in
/-- there is no room: a new row -/
theorem insert_grow (B g cap : Nat) (c : Cell) (cs : List Cell) (i xb : Nat) (w : World) (ho : w.ownsRow B 270 3 (.slice (some ⟨g, 0, none⟩) cs.length cap) cs.length (flat cs)) (hlen : cs.length ≤ 65536) (hi : i < cs.length) (hroom : cap < cs.length + 1) (hB : B ≤ w.heap.size)
    (hx : w.heap[xb]? = some (.cells c.row.toArray 270 (0, 0))) :
    Calls Try.prog 207 #[.slice (some ⟨g, 0, none⟩) cs.length cap, .int .i64 i, .slice (some ⟨xb, 0, none⟩) 1 1] w fun e w' => ∃ v', e = .returned v' ∧ w'.ownsRow B 270 3 v' (cs.length + 1) (flat (cs.take i ++ c :: cs.drop i)) ∧ Below B w w' := by
  have hbe : ((i : Int) == (cs.length : Int)) = false := by simp; omega
  obtain ⟨hl, h'⟩ := ho
  rcases h' with ⟨h', _⟩ | ⟨g', cap', cur, h', hBg, hg, hnc, hcm, hcs, htake⟩
  · simp at h'
  simp only [Value.slice.injEq, Option.some.injEq, Addr.mk.injEq, and_true, true_and] at h'
  obtain ⟨rfl, rfl⟩ := h'
  obtain rfl : cap = cs.length := by omega
  have hsz : (Try.prog.info? 270).map (·.size) = some 3 := by
    obtain ⟨i0, hi0, h0, h1, h2⟩ := info_parts Try.infoCell
    rw [hi0]; simp [h1]
  obtain ⟨i0, hi0, hz0, hz1, hz2⟩ := info_parts Try.infoCell
  obtain ⟨F, hF⟩ : ∃ F, F = flat cs := ⟨_, rfl⟩
  rw [← hF] at htake
  have hFl : F.length = cs.length * 3 := by rw [hF, flat_length]
  have hcl : cur.toList = F := by rw [← htake]; exact (List.take_of_length_le (by simp [hcs])).symm
  have hgl : g < w.heap.size := (Array.getElem?_eq_some_iff.1 hg).1
  have hxl : xb < w.heap.size := (Array.getElem?_eq_some_iff.1 hx).1
  have hold : (Builtin.firstCells i0.size i (.slice (some ⟨g, 0, none⟩) i cs.length)).run Try.prog w.drew = .ok (F.take (i * 3)).toArray w.drew := by
    rw [hz1]
    refine run_firstCells_some w.drew 3 i ⟨g, 0, none⟩ i cs.length (F.take (i * 3)) (by rw [List.length_take, hFl]; omega) (fun j v hj => ?_)
    rw [Go.WideShapes.add_plain, Nat.zero_add]
    show w.cell? _ = _
    rw [cell_of_block hg, ← Array.getElem?_toList, hcl]
    rw [List.getElem?_take] at hj
    split at hj
    · exact hj
    · cases hj
  have hik : i + (cs.length + 1 - i) = cs.length + 1 := by omega
  have hkk : (cs.length : Int) + 1 - (i : Int) = ((cs.length + 1 - i : Nat) : Int) := by omega
  have hrz : ∀ ty, (Builtin.append_ #[264, 3] ty #[.slice (some ⟨g, 0, none⟩) i cs.length, .int .i64 ((cs.length : Int) + 1 - (i : Int))]).run Try.prog w =
      .ok (.slice (some ⟨w.heap.size, 0, none⟩) (cs.length + 1) (grownCap w (cs.length + 1) cs.length 270)) (w.drew.alloc (.cells ((F.take (i * 3)).toArray ++ Builtin.zeroCells (Value.agg #[.int .i64 0, .pointer none, .bool false]).cells (cs.length + 1 - i) ++ Builtin.zeroCells (Value.agg #[.int .i64 0, .pointer none, .bool false]).cells (grownCap w (cs.length + 1) cs.length 270 - (cs.length + 1))) 270)) := fun ty => by
    have h := Lib.run_append_grow_zeros w 264 3 ty 270 i0 _ .i64 .i64 Try.underlying264 Try.underlying3 hi0 hz0 (some ⟨g, 0, none⟩) i cs.length (F.take (i * 3)) hold (cs.length + 1 - i) (by omega) (by omega) (by omega) (by omega) (by rw [hz2]; omega) (by rw [hz2, hik]; exact growslice_fits hroom (by omega))
    rw [hik] at h
    rw [hkk]
    exact h
  obtain ⟨G, hG⟩ : ∃ G, G = grownCap w (cs.length + 1) cs.length 270 := ⟨_, rfl⟩
  have hGn : cs.length + 1 ≤ G := by rw [hG]; exact grownCap_ge w _ _ _
  have hG63 : G ≤ maxLen := by rw [hG]; exact grownCap_le_maxLen w _ _ _ (by unfold maxLen; omega)
  obtain ⟨Z1, hZ1⟩ : ∃ Z1, Z1 = (Builtin.zeroCells (Value.agg #[.int .i64 0, .pointer none, .bool false]).cells (cs.length + 1 - i)).toList := ⟨_, rfl⟩
  obtain ⟨Z2, hZ2⟩ : ∃ Z2, Z2 = (Builtin.zeroCells (Value.agg #[.int .i64 0, .pointer none, .bool false]).cells (G - (cs.length + 1))).toList := ⟨_, rfl⟩
  have hZl : Z1.length = F.length + 3 - i * 3 := by rw [hZ1, hFl]; simp [Builtin.zeroCells, Value.cells]; omega
  have hZl2 : Z2.length = (G - (cs.length + 1)) * 3 := by rw [hZ2]; simp [Builtin.zeroCells, Value.cells]
  obtain ⟨ROW, hROW⟩ : ∃ ROW, ROW = F.take (i * 3) ++ Z1 ++ Z2 := ⟨_, rfl⟩
  have hRl : ROW.length = G * 3 := by rw [hROW]; simp [hZl, hZl2, hFl]; omega
  have hrow : (F.take (i * 3)).toArray ++ Builtin.zeroCells (Value.agg #[.int .i64 0, .pointer none, .bool false]).cells (cs.length + 1 - i) ++ Builtin.zeroCells (Value.agg #[.int .i64 0, .pointer none, .bool false]).cells (G - (cs.length + 1)) = ROW.toArray := by
    rw [hROW, hZ1, hZ2]; simp
  rw [← hG, hrow] at hrz
  obtain ⟨W1, hW1⟩ : ∃ W1, W1 = w.drew.alloc (.cells ROW.toArray 270) := ⟨_, rfl⟩
  rw [← hW1] at hrz
  have hg1 : W1.heap[w.heap.size]? = some (.cells ROW.toArray 270 (0, 0)) := by rw [hW1]; exact heap_alloc_new w.drew _
  have hx1 : W1.heap[xb]? = some (.cells c.row.toArray 270 (0, 0)) := by rw [hW1]; exact (Below.heap_alloc w.drew _ xb hxl).trans hx
  have hgg1 : W1.heap[g]? = some (.cells cur 270 (0, 0)) := by rw [hW1]; exact (Below.heap_alloc w.drew _ g hgl).trans hg
  obtain ⟨L1, hL1⟩ : ∃ L1, L1 = ROW.take (i * 3) ++ c.row ++ ROW.drop (i * 3 + c.row.length) := ⟨_, rfl⟩
  have hcpA : ∀ ty dc, (Builtin.copy_ #[264, 264] ty #[.slice (some ⟨w.heap.size, i * 3, none⟩) (cs.length + 1 - i) dc, .slice (some ⟨xb, 0, none⟩) 1 1]).run Try.prog W1 = .ok (goInt ((1 : Nat) : Int)) (W1.setRow w.heap.size L1.toArray) := fun ty dc => by
    rw [hL1]
    exact run_copy_row_n W1 _ _ ty 270 w.heap.size (i * 3) (cs.length + 1 - i) dc ⟨xb, 0, none⟩ 1 1 ROW.toArray 270 c.row 3 1 Try.underlying264 hsz hg1
      (by simp only [Nat.min_def]; split <;> omega) rfl (World.news_of_block hx1) (by simp [hRl, Cell.row]; omega) (row_one c)
  have hL1l : L1.length = G * 3 := by rw [hL1]; simp [hRl, Cell.row]; omega
  obtain ⟨W2, hW2⟩ : ∃ W2, W2 = W1.setRow w.heap.size L1.toArray := ⟨_, rfl⟩
  rw [← hW2] at hcpA
  have hg2 : W2.heap[w.heap.size]? = some (.cells L1.toArray 270 (0, 0)) := by rw [hW2]; exact setRow_heap W1 _ _ _ _ _ hg1
  have hgg2 : W2.heap[g]? = some (.cells cur 270 (0, 0)) := by rw [hW2]; exact (setRow_other W1 _ g _ (by omega)).trans hgg1
  have hcpB : ∀ ty dc sc, (Builtin.copy_ #[264, 264] ty #[.slice (some ⟨w.heap.size, (i + 1) * 3, none⟩) (cs.length - i) dc, .slice (some ⟨g, i * 3, none⟩) (cs.length - i) sc]).run Try.prog W2.drew = .ok (goInt ((cs.length - i : Nat) : Int)) (W2.drew.setRow w.heap.size (L1.take ((i + 1) * 3) ++ F.drop (i * 3) ++ L1.drop ((i + 1) * 3 + (F.drop (i * 3)).length)).toArray) := fun ty dc sc =>
    run_copy_row_n W2.drew _ _ ty 270 w.heap.size ((i + 1) * 3) (cs.length - i) dc ⟨g, i * 3, none⟩ (cs.length - i) sc L1.toArray 270 (F.drop (i * 3)) 3 (cs.length - i) Try.underlying264 hsz hg2
      (Nat.min_self _).symm (by rw [List.length_drop, hFl]; omega)
      (fun j v hj => by
        rw [Go.WideShapes.add_plain]
        show W2.cell? _ = _
        rw [cell_of_block hgg2, ← Array.getElem?_toList, hcl]
        rwa [List.getElem?_drop] at hj)
      (by simp [hL1l, hFl]; omega) (fun v hv => by rw [hF] at hv; exact flat_one cs v (List.mem_of_mem_drop hv))
  have HF2 : Hid ((L1.take ((i + 1) * 3) ++ F.drop (i * 3) ++ L1.drop ((i + 1) * 3 + (F.drop (i * 3)).length)).take ((cs.length + 1) * 3) = flat (cs.take i ++ c :: cs.drop i)) := by
    have ht := grow_row F c.row Z1 Z2 (i * 3) 3 rfl (by omega) hZl
    simp only at ht
    unfold Hid
    rw [flat_append, flat_take]
    have e : flat (c :: cs.drop i) = c.row ++ flat (cs.drop i) := rfl
    have e3 : (i + 1) * 3 = i * 3 + 3 := by omega
    have e4 : (cs.length + 1) * 3 = F.length + 3 := by omega
    rw [e, flat_drop, ← hF, ← List.append_assoc, ← ht, hL1, hROW, e3, e4]
  have HW1 := Lib.hid hW1
  have HW2 := Lib.hid hW2
  have HLL := Lib.hid hL1l
  have HFL := Lib.hid hFl
  have Hg2 := Lib.hid hg2
  have e1 : ((i : Int) + 1).toNat = i + 1 := by omega
  have b1 : (0 : Int) ≤ (i : Int) + 1 := by omega
  have b2 : (i : Int) + 1 ≤ (cs.length : Int) + 1 := by omega
  have b3 : (i : Int) ≤ (cs.length : Int) + 1 := by omega
  have b0 : (0 : Int) ≤ (i : Int) := by omega
  have hw1 : IntKind.i64.wrap ((i : Int) + 1) = (i : Int) + 1 := by rw [IntKind.wrap_i64]; omega
  have hin : i ≤ cs.length := by omega
  have hci : ¬ cs.length = i := by omega
  have hGi : ¬ G = i := by omega
  have hGi1 : ¬ G = i + 1 := by omega
  clear hW1 hW2 hL1 hL1l htake hg1 hcs hl hF hFl hcl hrow hROW hZ1 hZ2 hZl hZl2 hRl hG hold hkk hik hg2 hgg2 hgg1 hx1
  go_enter Try.func207, Try.ntmps207
  go_wp2_with (at_builtin; go_must (refine Lib.wpList_append_run _ rfl _ _ _ _ rfl _ _ rfl rfl _ _ (hrz _) ?_))
  go_region_law (refine step_copy_runN rfl _ _ 264 264 rfl _ _ (by simp [Act.eval, Act.put]) (by simp [Act.eval, Act.put]) (hcpB _ _ _) ?_)
  all_goals
    go_wp2
    go_ret
    refine ⟨_, rfl, ⟨by rw [flat_length]; simp; omega, .inr ⟨w.heap.size, G, (L1.take ((i + 1) * 3) ++ F.drop (i * 3) ++ L1.drop ((i + 1) * 3 + (F.drop (i * 3)).length)).toArray, rfl, hB, ?_, by omega, hG63, ?_, HF2.out⟩⟩, ?_⟩
    · first | exact setRow_heap W2.drew _ L1.toArray _ _ _ Hg2.out | (rw [List.append_assoc, List.length_drop]; exact setRow_heap W2.drew _ L1.toArray _ _ _ Hg2.out)
    · simp [HLL.out, HFL.out]; omega
    · refine below_setRow (Below.drew ?_) hB _
      rw [HW2.out]
      refine below_setRow ?_ hB _
      rw [HW1.out]
      exact (Below.refl B w).drew.alloc hB _
theorem insert_any (B : Nat) (v : Value) (c : Cell) (cs : List Cell) (i xb : Nat) (w : World) (ho : w.ownsRow B 270 3 v cs.length (flat cs)) (hlen : cs.length ≤ 65536) (hi : i ≤ cs.length) (hB : B ≤ w.heap.size)
    (hx : w.heap[xb]? = some (.cells c.row.toArray 270 (0, 0))) (hxg : ∀ k, v.ownBlock = some k → xb ≠ k) :
    Calls Try.prog 207 #[v, .int .i64 i, .slice (some ⟨xb, 0, none⟩) 1 1] w fun e w' => ∃ v', e = .returned v' ∧ w'.ownsRow B 270 3 v' (cs.length + 1) (flat (cs.take i ++ c :: cs.drop i)) ∧ Below B w w' := by
  rcases Nat.lt_or_eq_of_le hi with hlt | rfl
  · obtain ⟨A, cap, rfl⟩ := own_slice ho
    have hA : ∃ g, A = some ⟨g, 0, none⟩ := by
      rcases ho.2 with ⟨h', h''⟩ | ⟨g', cap', cur, h', _⟩
      · omega
      · simp only [Value.slice.injEq] at h'; exact ⟨g', h'.1⟩
    obtain ⟨g, rfl⟩ := hA
    by_cases hr : cs.length < cap
    · exact insert_room B g cap c cs i xb w ho hlen hlt hr hx (hxg g rfl)
    · exact insert_grow B g cap c cs i xb w ho hlen hlt (by omega) hB hx
  · rw [List.take_length, List.drop_length]
    exact insert_end B v c cs xb w ho hlen hB hx
end Go.Proofs.Ytdjemmopecchmaa
