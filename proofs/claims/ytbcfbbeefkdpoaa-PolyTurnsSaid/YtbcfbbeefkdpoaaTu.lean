/- The walk over the statement PolyTurns. -/
import Derived.Test.YtbcfbbeefkdpoaaPl
import Derived.Test.YtbcfbbeefkdpoaaSy
import Derived.Test.YtbcfbbeefkdpoaaAw
import Derived.Deep.RegionLaw
import Derived.Deep.AppendLies
namespace Go.Proofs.Ytbcfbbeefkdpoaa
open Go.RowKit Go.Proofs.YtbcfbbeefkdpoaaW.PrintWords
set_option linter.unusedVariables false
set_option linter.unusedSimpArgs false

theorem info23 : (Try.prog.info? 23).map (fun i => (i.zero, i.size, i.bytes)) = some (some (.slice none 0 0), 1, 24) := by kernel_rfl

/-- The rows of a list of points. -/
theorem RR.rows {w : World} {ad : Addr} {l : List (List Int)} (h : RR w (some ad) l) : ∃ rows : List Value, rows.length = l.length ∧ (∀ j u, rows[j]? = some u → w.cell? (ad.add j) = some u) ∧ (∀ u ∈ rows, u.oneCell' = true) ∧
    ∀ (j : Nat) (xs : List Int), l[j]? = some xs → ∃ (A : Option Addr) (c : Nat), rows[j]? = some (Value.slice A xs.length c) ∧ xs.length ≤ c ∧ RU w A xs := by
  have hex : ∀ j, ∃ v : Value, ∀ xs, l[j]? = some xs → (w.cell? (ad.add j) = some v ∧ ∃ (A : Option Addr) (c : Nat), v = Value.slice A xs.length c ∧ xs.length ≤ c ∧ RU w A xs) := by
    intro j
    by_cases hj : j < l.length
    · obtain ⟨ad', A, c, e, h1, h2, h3⟩ := PPolyTells.at_L1 h j (by omega) (by omega)
      obtain rfl := Option.some.inj e
      have e2 : PPolyTells.rd_L1 l j = l[j] := by
        rw [rd_L1_eq, Int.toNat_natCast, List.getD_eq_getElem?_getD, List.getElem?_eq_getElem hj]; rfl
      rw [e2] at h1 h2 h3
      refine ⟨.slice A l[j].length c, fun xs hx => ?_⟩
      rw [List.getElem?_eq_getElem hj] at hx
      obtain rfl := Option.some.inj hx
      exact ⟨h1, A, c, rfl, h2, h3⟩
    · exact ⟨.slice none 0 0, fun xs hx => by rw [List.getElem?_eq_none (by omega)] at hx; cases hx⟩
  obtain ⟨f, hf⟩ := Classical.axiomOfChoice hex
  refine ⟨(List.range l.length).map f, by simp, fun j u hu => ?_, fun u hu => ?_, fun j xs hx => ?_⟩
  · have hj : j < l.length := by have := (List.getElem?_eq_some_iff.1 hu).1; simpa using this
    obtain ⟨h1, _⟩ := hf j l[j] (List.getElem?_eq_getElem hj)
    rw [List.getElem?_map, List.getElem?_range hj] at hu
    obtain rfl : f j = u := by simpa using hu
    exact h1
  · obtain ⟨j, hj, rfl⟩ := List.mem_map.1 hu
    have hj' : j < l.length := List.mem_range.1 hj
    obtain ⟨_, A, c, e, _⟩ := hf j l[j] (List.getElem?_eq_getElem hj')
    rw [e]; rfl
  · have hj : j < l.length := (List.getElem?_eq_some_iff.1 hx).1
    obtain ⟨_, A, c, e, h2, h3⟩ := hf j xs hx
    exact ⟨A, c, by rw [List.getElem?_map, List.getElem?_range hj, Option.map_some, e], h2, h3⟩

/-- A row of the call's own that holds rows of points. -/
theorem RR.of_own {w : World} {base g cap : Nat} {l : List (List Int)} {rows : List Value} (ho : w.ownsRow base 23 1 (.slice (some ⟨g, 0, none⟩) l.length cap) l.length rows) (hl : l.length ≤ 9223372036854775807)
    (h : ∀ (j : Nat) (xs : List Int), l[j]? = some xs → ∃ (A : Option Addr) (c : Nat), rows[j]? = some (Value.slice A xs.length c) ∧ xs.length ≤ c ∧ RU w A xs) : RR w (some ⟨g, 0, none⟩) l :=
  RR.mk hl fun j xs hx => by
    obtain ⟨A, c, h1, h2, h3⟩ := h j xs hx
    have hj : j < l.length := (List.getElem?_eq_some_iff.1 hx).1
    exact ⟨A, c, by rw [ho.cellAt j (by omega)]; exact h1, h2, h3⟩

/-- append of nothing. -/
theorem step_append_zero {P : Program} {ops : Array Oper} {o : Oper} {a : Act} {w : World} {K : Act → World → Prop} {Q : Exit → Act → World → Prop} {E : Prop}
    (hg : o.guard = none) (s x : Operand) (t : TypeId) (hop : o.op = Op.call { callee := Callee.builtin Builtin.append, args := #[s, x], argTypes := #[t, t] })
    (base : Nat) (e : TypeId) (i : TypeInfo) (size : Nat) (ht : P.underlying t = some (.slice e)) (hi : P.info? e = some i)
    (v : Value) (n : Nat) (xs : List Value) (hs : a.eval s = v) (hown : w.ownsRow base e size v n xs) (ad : Addr) (m c : Nat) (hm0 : m = 0) (hx : a.eval x = .slice (some ad) m c)
    (hK : K (a.put o.dst v) w) : if Region.wanted o (yielded ops a.tmps) = true then Oper.wp P o a w K Q else E := by
  subst hm0
  have hw : Region.wanted o (yielded ops a.tmps) = true := by simp [Region.wanted, hg]
  rw [if_pos hw]
  have hrun : (Builtin.append_ #[t, t] o.type #[v, .slice (some ad) 0 c]).run P w = .ok v w := by
    rcases hown.2 with ⟨rfl, rfl⟩ | ⟨g, cap, cur, rfl, _, _, hnc, _⟩
    · simp [Builtin.append_, run_underlying ht, sizeOf, typeInfo, hi, Builtin.lenOf, Builtin.firstCells, loadCells, loadCellsFrom]
    · simp [Builtin.append_, run_underlying ht, sizeOf, typeInfo, hi, Builtin.lenOf, Builtin.firstCells, hnc, storeCells, loadCells, loadCellsFrom]
  unfold Oper.wp
  simp [execOp, hop, resolve, invoke, builtin, hs, hx, hrun, Result.andThen]
  exact hK

section
variable (A B : Option Addr) (c d : Nat) (l : List (List Int)) (p : List Int) (w : World)

theorem heavy_c (hr : RR w A l) (hc : l.length ≤ c) : ∃ r, ∀ W, Below w.heap.size w W → Calls Try.prog 6 #[.slice A l.length c, .int .i64 60] W fun e w' => e = .returned (.bool r) ∧ Below W.heap.size W w' := by
  obtain ⟨k, r, h⟩ := heavy_some l
  exact ⟨r, fun W hW => (PPolyTells.pantileref28_Heavy.calls k A c l 60 r W (Kd.C_below hr hW) hc h).mono fun e w' ⟨he, hd⟩ => ⟨he, hd.below⟩⟩
theorem right_c (hr : RR w A l) (hc : l.length ≤ c) : ∀ W, Below w.heap.size w W → Calls Try.prog 7 #[.slice A l.length c] W fun e w' => e = .returned (.bool (okRing l)) ∧ Below W.heap.size W w' := by
  obtain ⟨k, h⟩ := right_some l
  exact fun W hW => (PPolyTells.pantileref28_Right.calls k A c l _ W (Kd.C_below hr hW) hc h).mono fun e w' ⟨he, hd⟩ => ⟨he, hd.below⟩
theorem small_c (hr : RU w B p) (hd : p.length ≤ d) : ∀ W, Below w.heap.size w W → Calls Try.prog 8 #[.slice B p.length d] W fun e w' => e = .returned (.bool (okPt p)) ∧ Below W.heap.size W w' :=
  fun W hW => (PPolyTells.pantileref27_Small.calls B d p _ W (Kd.C_below hr hW) hd (small_some p)).mono fun e w' ⟨he, hd⟩ => ⟨he, hd.below⟩
theorem turned_c (hr : RR w A l) (hc : l.length ≤ c) (hl : l.length ≤ 400) : ∀ W, Below w.heap.size w W → Calls Try.prog 9 #[.slice A l.length c] W fun e w' => ∃ A' c', e = .returned (.slice A' l.reverse.length c') ∧ RR w' A' l.reverse ∧ Below W.heap.size W w' := by
  obtain ⟨k, h⟩ := turned_some l hl
  intro W hW
  have hF := Kd.V_mk (e := 23) (base := W.heap.size) hc (Kd.C_F (Kd.heap_slice 43 (Kd.heap_int .u64)) (Kd.C_below hr hW))
  refine (PPolyTurns.pantileref28_Turned.calls k _ A c l l.reverse W hF h).mono ?_
  rintro e w' ⟨v, rfl, hN, hb⟩
  obtain ⟨A', c', rfl, hl', hF'⟩ := Kd.N_V (base' := 0) hN
  exact ⟨A', c', rfl, Kd.F_now hF', hb⟩
end

theorem nats_mem {l m : List (List Int)} (h : Nats l) (hm : ∀ x ∈ m, x ∈ l) : Nats m := fun x hx => h x (hm x hx)
theorem okRing_perm {l m : List (List Int)} (h : okRing l = true) (hl : m.length = l.length) (hm : ∀ x ∈ m, x ∈ l) : okRing m = true := by
  unfold okRing at *
  simp only [Bool.and_eq_true, decide_eq_true_eq, List.all_eq_true] at *
  exact ⟨⟨by omega, by omega⟩, fun x hx => h.2 x (hm x hx)⟩
/- THE WALK -/
set_option maxRecDepth 100000 in
theorem turns_1 (A B : Option Addr) (c d : Nat) (l : List (List Int)) (p : List Int) (at_ : Int) (w : World) (C6 : ∀ W, Below w.heap.size w W → Calls Try.prog 6 #[.slice A l.length c, .int .i64 60] W fun e w' => e = .returned (.bool true) ∧ Below W.heap.size W w') :
    Calls Try.prog 3 #[.slice A l.length c, .slice B p.length d, .int .i64 at_] w fun e w' => e = .returned (.bool true) ∧ Below w.heap.size w w' := by
  go_enter Try.func3, Try.ntmps3
  go_wp2_with (fail)
  refine (awake_any _).mono ?_
  rintro e w1 ⟨rfl, hb1⟩
  have D6 := C6 w1 hb1
  clear C6
  go_wp2_with (fail)
  refine D6.mono ?_
  rintro e w2 ⟨rfl, hx2⟩
  have hb2 := hb1.trans (hx2.mono hb1.size)
  clear D6 hx2 hb1
  go_wp2
  go_ret
  exact ⟨rfl, hb2⟩
set_option maxRecDepth 100000 in
theorem turns_2 (A B : Option Addr) (c d : Nat) (l : List (List Int)) (p : List Int) (at_ : Int) (w : World) (C6 : ∀ W, Below w.heap.size w W → Calls Try.prog 6 #[.slice A l.length c, .int .i64 60] W fun e w' => e = .returned (.bool false) ∧ Below W.heap.size W w') (h60 : 60 < l.length) :
    Calls Try.prog 3 #[.slice A l.length c, .slice B p.length d, .int .i64 at_] w fun e w' => e = .returned (.bool true) ∧ Below w.heap.size w w' := by
  have t1 : decide (60 < (l.length : Int)) = true := decide_eq_true (by omega)
  have t2 : decide (60 < l.length) = true := decide_eq_true h60
  go_enter Try.func3, Try.ntmps3
  go_wp2_with (fail)
  refine (awake_any _).mono ?_
  rintro e w1 ⟨rfl, hb1⟩
  have D6 := C6 w1 hb1
  clear C6
  go_wp2_with (fail)
  refine D6.mono ?_
  rintro e w2 ⟨rfl, hx2⟩
  have hb2 := hb1.trans (hx2.mono hb1.size)
  clear D6 hx2 hb1
  go_wp2
  go_ret
  exact ⟨rfl, hb2⟩
set_option maxRecDepth 100000 in
theorem turns_3 (A B : Option Addr) (c d : Nat) (l : List (List Int)) (p : List Int) (at_ : Int) (w : World) (C6 : ∀ W, Below w.heap.size w W → Calls Try.prog 6 #[.slice A l.length c, .int .i64 60] W fun e w' => e = .returned (.bool false) ∧ Below W.heap.size W w') (h60 : ¬ 60 < l.length) (C7 : ∀ W, Below w.heap.size w W → Calls Try.prog 7 #[.slice A l.length c] W fun e w' => e = .returned (.bool false) ∧ Below W.heap.size W w') :
    Calls Try.prog 3 #[.slice A l.length c, .slice B p.length d, .int .i64 at_] w fun e w' => e = .returned (.bool true) ∧ Below w.heap.size w w' := by
  have t1 : decide (60 < (l.length : Int)) = false := decide_eq_false (by omega)
  have t2 : decide (60 < l.length) = false := decide_eq_false h60
  go_enter Try.func3, Try.ntmps3
  go_wp2_with (fail)
  refine (awake_any _).mono ?_
  rintro e w1 ⟨rfl, hb1⟩
  have D6 := C6 w1 hb1
  clear C6
  go_wp2_with (fail)
  refine D6.mono ?_
  rintro e w2 ⟨rfl, hx2⟩
  have hb2 := hb1.trans (hx2.mono hb1.size)
  clear D6 hx2 hb1
  have D7 := C7 w2 hb2
  clear C7
  go_wp2_with (fail)
  refine D7.mono ?_
  rintro e w3 ⟨rfl, hx3⟩
  have hb3 := hb2.trans (hx3.mono hb2.size)
  clear D7 hx3 hb2
  go_wp2
  go_ret
  exact ⟨rfl, hb3⟩
set_option maxRecDepth 100000 in
theorem turns_4 (A B : Option Addr) (c d : Nat) (l : List (List Int)) (p : List Int) (at_ : Int) (w : World) (C6 : ∀ W, Below w.heap.size w W → Calls Try.prog 6 #[.slice A l.length c, .int .i64 60] W fun e w' => e = .returned (.bool false) ∧ Below W.heap.size W w') (h60 : ¬ 60 < l.length) (C7 : ∀ W, Below w.heap.size w W → Calls Try.prog 7 #[.slice A l.length c] W fun e w' => e = .returned (.bool true) ∧ Below W.heap.size W w') (C8 : ∀ W, Below w.heap.size w W → Calls Try.prog 8 #[.slice B p.length d] W fun e w' => e = .returned (.bool false) ∧ Below W.heap.size W w') :
    Calls Try.prog 3 #[.slice A l.length c, .slice B p.length d, .int .i64 at_] w fun e w' => e = .returned (.bool true) ∧ Below w.heap.size w w' := by
  have t1 : decide (60 < (l.length : Int)) = false := decide_eq_false (by omega)
  have t2 : decide (60 < l.length) = false := decide_eq_false h60
  go_enter Try.func3, Try.ntmps3
  go_wp2_with (fail)
  refine (awake_any _).mono ?_
  rintro e w1 ⟨rfl, hb1⟩
  have D6 := C6 w1 hb1
  clear C6
  go_wp2_with (fail)
  refine D6.mono ?_
  rintro e w2 ⟨rfl, hx2⟩
  have hb2 := hb1.trans (hx2.mono hb1.size)
  clear D6 hx2 hb1
  have D7 := C7 w2 hb2
  clear C7
  go_wp2_with (fail)
  refine D7.mono ?_
  rintro e w3 ⟨rfl, hx3⟩
  have hb3 := hb2.trans (hx3.mono hb2.size)
  clear D7 hx3 hb2
  have D8 := C8 w3 hb3
  clear C8
  go_wp2_with (fail)
  refine D8.mono ?_
  rintro e w4 ⟨rfl, hx4⟩
  have hb4 := hb3.trans (hx4.mono hb3.size)
  clear D8 hx4 hb3
  go_wp2
  go_ret
  exact ⟨rfl, hb4⟩
set_option maxRecDepth 100000 in
theorem turns_5 (A B : Option Addr) (c d : Nat) (l : List (List Int)) (p : List Int) (at_ : Int) (w : World) (C6 : ∀ W, Below w.heap.size w W → Calls Try.prog 6 #[.slice A l.length c, .int .i64 60] W fun e w' => e = .returned (.bool false) ∧ Below W.heap.size W w') (h60 : ¬ 60 < l.length) (C7 : ∀ W, Below w.heap.size w W → Calls Try.prog 7 #[.slice A l.length c] W fun e w' => e = .returned (.bool true) ∧ Below W.heap.size W w') (C8 : ∀ W, Below w.heap.size w W → Calls Try.prog 8 #[.slice B p.length d] W fun e w' => e = .returned (.bool true) ∧ Below W.heap.size W w') (hat : at_ < 0) :
    Calls Try.prog 3 #[.slice A l.length c, .slice B p.length d, .int .i64 at_] w fun e w' => e = .returned (.bool true) ∧ Below w.heap.size w w' := by
  have t3 : decide (at_ < 0) = true := decide_eq_true hat
  have t1 : decide (60 < (l.length : Int)) = false := decide_eq_false (by omega)
  have t2 : decide (60 < l.length) = false := decide_eq_false h60
  go_enter Try.func3, Try.ntmps3
  go_wp2_with (fail)
  refine (awake_any _).mono ?_
  rintro e w1 ⟨rfl, hb1⟩
  have D6 := C6 w1 hb1
  clear C6
  go_wp2_with (fail)
  refine D6.mono ?_
  rintro e w2 ⟨rfl, hx2⟩
  have hb2 := hb1.trans (hx2.mono hb1.size)
  clear D6 hx2 hb1
  have D7 := C7 w2 hb2
  clear C7
  go_wp2_with (fail)
  refine D7.mono ?_
  rintro e w3 ⟨rfl, hx3⟩
  have hb3 := hb2.trans (hx3.mono hb2.size)
  clear D7 hx3 hb2
  have D8 := C8 w3 hb3
  clear C8
  go_wp2_with (fail)
  refine D8.mono ?_
  rintro e w4 ⟨rfl, hx4⟩
  have hb4 := hb3.trans (hx4.mono hb3.size)
  clear D8 hx4 hb3
  go_wp2
  go_ret
  exact ⟨rfl, hb4⟩
set_option maxRecDepth 100000 in
theorem turns_6 (A B : Option Addr) (c d : Nat) (l : List (List Int)) (p : List Int) (at_ : Int) (w : World) (C6 : ∀ W, Below w.heap.size w W → Calls Try.prog 6 #[.slice A l.length c, .int .i64 60] W fun e w' => e = .returned (.bool false) ∧ Below W.heap.size W w') (h60 : ¬ 60 < l.length) (C7 : ∀ W, Below w.heap.size w W → Calls Try.prog 7 #[.slice A l.length c] W fun e w' => e = .returned (.bool true) ∧ Below W.heap.size W w') (C8 : ∀ W, Below w.heap.size w W → Calls Try.prog 8 #[.slice B p.length d] W fun e w' => e = .returned (.bool true) ∧ Below W.heap.size W w') (hat : ¬ at_ < 0) (hat2 : l.length ≤ at_) :
    Calls Try.prog 3 #[.slice A l.length c, .slice B p.length d, .int .i64 at_] w fun e w' => e = .returned (.bool true) ∧ Below w.heap.size w w' := by
  have t3 : decide (at_ < 0) = false := decide_eq_false hat
  have t4 : decide ((l.length : Int) ≤ at_) = true := decide_eq_true hat2
  have t1 : decide (60 < (l.length : Int)) = false := decide_eq_false (by omega)
  have t2 : decide (60 < l.length) = false := decide_eq_false h60
  go_enter Try.func3, Try.ntmps3
  go_wp2_with (fail)
  refine (awake_any _).mono ?_
  rintro e w1 ⟨rfl, hb1⟩
  have D6 := C6 w1 hb1
  clear C6
  go_wp2_with (fail)
  refine D6.mono ?_
  rintro e w2 ⟨rfl, hx2⟩
  have hb2 := hb1.trans (hx2.mono hb1.size)
  clear D6 hx2 hb1
  have D7 := C7 w2 hb2
  clear C7
  go_wp2_with (fail)
  refine D7.mono ?_
  rintro e w3 ⟨rfl, hx3⟩
  have hb3 := hb2.trans (hx3.mono hb2.size)
  clear D7 hx3 hb2
  have D8 := C8 w3 hb3
  clear C8
  go_wp2_with (fail)
  refine D8.mono ?_
  rintro e w4 ⟨rfl, hx4⟩
  have hb4 := hb3.trans (hx4.mono hb3.size)
  clear D8 hx4 hb3
  go_wp2
  go_ret
  exact ⟨rfl, hb4⟩
end Go.Proofs.Ytbcfbbeefkdpoaa
