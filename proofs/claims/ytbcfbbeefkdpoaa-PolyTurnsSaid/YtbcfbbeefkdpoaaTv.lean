/- The walk over the statement PolyTurns, its last way. -/
import Derived.Test.YtbcfbbeefkdpoaaTu
namespace Go.Proofs.Ytbcfbbeefkdpoaa
open Go.RowKit Go.Proofs.YtbcfbbeefkdpoaaW.PrintWords
set_option linter.unusedVariables false
set_option linter.unusedSimpArgs false

set_option maxRecDepth 100000 in
set_option maxHeartbeats 1000000 in
theorem turns_7 (A B : Option Addr) (c d : Nat) (l : List (List Int)) (p : List Int) (m : Nat) (w : World) (hr : RR w A l) (hc : l.length ≤ c) (hc2 : c ≤ 9223372036854775807) (hn : Nats l) (hp : RU w B p) (hd : p.length ≤ d) (hpn : Nat0 p)
    (C6 : ∀ W, Below w.heap.size w W → Calls Try.prog 6 #[.slice A l.length c, .int .i64 60] W fun e w' => e = .returned (.bool false) ∧ Below W.heap.size W w') (h60 : ¬ 60 < l.length) (hok : okRing l = true) (hpk : okPt p = true) (hm : m < l.length) :
    Calls Try.prog 3 #[.slice A l.length c, .slice B p.length d, .int .i64 m] w fun e w' => e = .returned (.bool true) ∧ Below w.heap.size w w' := by
  have t1 : decide (60 < (l.length : Int)) = false := decide_eq_false (by omega)
  have t2 : decide (60 < l.length) = false := decide_eq_false h60
  have t3 : decide ((m : Int) < 0) = false := decide_eq_false (by omega)
  have t4 : decide ((l.length : Int) ≤ m) = false := decide_eq_false (by omega)
  have t5 : decide (l.length ≤ m) = false := decide_eq_false (by omega)
  have C7 := right_c A c l w hr hc
  have C8 := small_c B d p w hp hd
  have C9 := turned_c A c l w hr hc (by omega)
  rw [hok] at C7
  rw [hpk] at C8
  obtain ⟨ad, _, _, rfl, _⟩ := PPolyTells.at_L1 hr 0 (by omega) (by omega)
  have HR := Lib.hid hr
  have HN := Lib.hid hn
  have HP := Lib.hid hp
  have HPN := Lib.hid hpn
  have HOK := Lib.hid hok
  have HPK := Lib.hid hpk
  have HD := Lib.hid hd
  have HC := Lib.hid hc
  clear hr hn hp hpn hok hpk hd
  go_enter Try.func3, Try.ntmps3
  go_wp2_with (fail)
  refine (awake_any _).mono ?_
  rintro e w1 ⟨rfl, hb1⟩
  have D6 := C6 w1 hb1
  clear C6
  go_wp2_with (fail)
  refine D6.mono ?_
  rintro e w2 ⟨rfl, hx2⟩
  have hb2 := hb1.trans (hx2.mono hb1.size)
  clear D6 hx2 hb1
  have D7 := C7 w2 hb2
  clear C7
  go_wp2_with (fail)
  refine D7.mono ?_
  rintro e w3 ⟨rfl, hx3⟩
  have hb3 := hb2.trans (hx3.mono hb2.size)
  clear D7 hx3 hb2
  have D8 := C8 w3 hb3
  clear C8
  go_wp2_with (fail)
  refine D8.mono ?_
  rintro e w4 ⟨rfl, hx4⟩
  have hb4 := hb3.trans (hx4.mono hb3.size)
  clear D8 hx4 hb3
  have D9 := C9 w4 hb4
  clear C9
  go_wp2_with (fail)
  refine D9.mono ?_
  rintro e w5 ⟨A9, c9, rfl, hr9, hx5⟩
  have hb5 := hb4.trans (hx5.mono hb4.size)
  have HR9 := Lib.hid hr9
  clear D9 hx5 hb4 hr9
  obtain ⟨rows, hrl, hrc, hr1, hrr⟩ := RR.rows (Kd.C_below HR.out hb5)
  have HRL := Lib.hid hrl
  have HRC := Lib.hid hrc
  have HR1 := Lib.hid hr1
  have HRR := Lib.hid hrr
  clear hrl hrc hr1 hrr
  have hcm : ¬ c = m := by omega
  have hml : m ≤ l.length := by omega
  have hmc : m ≤ c := by omega
  obtain ⟨i0, hi, hz0, hz1, hz2⟩ := info_parts info23
  have own0 : ((w5.alloc (.cells #[] 23)).drew).ownsRow w5.heap.size 23 1 (.slice (some ⟨w5.heap.size, 0, none⟩) 0 0) 0 [] := World.ownsRow_lit (base := w5.heap.size) (e := 23) (size := 1) w5 #[] 0 (Nat.le_refl _) (by unfold maxLen; omega) rfl
  have addadd : ∀ j, (ad.add m).add j = ad.add (m + j) := by
    intro j
    unfold Addr.add
    by_cases h0 : m = 0
    · subst h0; simp
    · by_cases h1 : j = 0
      · subst h1; simp [h0]
      · simp [h0, h1, show m + j ≠ 0 by omega, Nat.add_assoc]
  have tak : Hid (∀ j u, (rows.drop m)[j]? = some u → ((w5.alloc (.cells #[] 23)).drew).cell? ((ad.add m).add j) = some u) := Lib.hid (by
    intro j u hu
    rw [addadd, List.getElem?_drop] at *
    exact pw_cell_below (w1 := (w5.alloc (.cells #[] 23)).drew) (w := w5) (((Below.refl w5.heap.size w5).alloc (Nat.le_refl _) _).drew) (HRC.out _ _ hu))
  have dlen : Hid ((rows.drop m).length = (l.length - m) * 1) := Lib.hid (by rw [List.length_drop, HRL.out, Nat.mul_one])
  have tlen : Hid ((rows.take m).length = m * 1) := Lib.hid (by rw [List.length_take, HRL.out]; omega)
  have done : Hid (∀ u ∈ rows.drop m, u.oneCell' = true) := Lib.hid (fun u hu => HR1.out u (List.mem_of_mem_drop hu))
  have tone : Hid (∀ u ∈ rows.take m, u.oneCell' = true) := Lib.hid (fun u hu => HR1.out u (List.mem_of_mem_take hu))
  have tk0 : Hid (∀ W, Below w5.heap.size w5 W → ∀ j u, (rows.take m)[j]? = some u → W.cell? (ad.add j) = some u) := Lib.hid (by
    intro W hW j u hu
    have : rows[j]? = some u := by rw [List.getElem?_take] at hu; split at hu <;> simp_all
    exact pw_cell_below hW (HRC.out _ _ this))
  clear addadd
  have hb60 : Below w5.heap.size w5 ((w5.alloc (.cells #[] 23)).drew) := ((Below.refl w5.heap.size w5).alloc (Nat.le_refl _) _).drew
  go_wp2
  by_cases h0 : m = 0
  · have H0 := Lib.hid h0
    clear h0
    go_region_law (first
      | (refine step_append_lies _ rfl (.tmp 52) (.tmp 55) 22 rfl w5.heap.size 23 i0 _ 1 24 Try.underlying22 hi hz0 hz1 hz2 rfl (by decide) (.slice (some ⟨w5.heap.size, 0, none⟩) 0 0) 0 [] (by simp [Act.eval, Act.put]) own0 (ad.add m) (l.length - m) (c - m) (rows.drop m) (by simp [Act.eval, Act.put, hcm]) dlen.out tak.out done.out (by omega) (by unfold maxLen; omega) (by omega) (by simp) (w5.heap.size + 1) (by simp) ?_; intro g1 cap1 w6 ow1 gb1 at1 lt1; have hb6 : Below w5.heap.size w5 w6 := hb60.grown gb1 (by simp) (by simp [Value.ownBlock]))
      | (refine step_append_zero rfl (.tmp 56) (.tmp 59) 22 rfl w5.heap.size 23 i0 1 Try.underlying22 hi (.slice (some ⟨g1, 0, none⟩) (0 + (l.length - m)) cap1) (0 + (l.length - m)) ([] ++ rows.drop m) (by simp [Act.eval, Act.put]) ow1 ad m c H0.out (by simp [Act.eval, Act.put]) ?_))
    have HML := Lib.hid (show (l.drop m ++ l.take m).length = l.length by simp; omega)
    have HMM := Lib.hid (show ∀ x ∈ l.drop m ++ l.take m, x ∈ l from fun x hx => (List.mem_append.1 hx).elim List.mem_of_mem_drop List.mem_of_mem_take)
    have HMA := Lib.hid (show (l.drop m ++ l.take m).map pt = (l.map pt).drop m ++ (l.map pt).take m by rw [List.map_append, List.map_drop, List.map_take])
    have HM := Lib.hid (show RR w6 (some ⟨g1, 0, none⟩) (l.drop m ++ l.take m) by
      have hlen : l.length - m + m = (l.drop m ++ l.take m).length := by simp; omega
      refine RR.of_own (base := w5.heap.size) (cap := cap1) (rows := rows.drop m ++ rows.take m) ?_ (by rw [HML.out]; omega) (fun j xs hx => ?_)
      · rw [HML.out]; have := ow1; have h0 := H0.out; rw [show 0 + (l.length - m) = l.length by omega, List.nil_append] at this; rw [show rows.take m = [] by rw [h0]; rfl, List.append_nil]; exact this
      · have hrr : ∀ (j : Nat) (xs : List Int), l[j]? = some xs → ∃ (A : Option Addr) (c : Nat), rows[j]? = some (Value.slice A xs.length c) ∧ xs.length ≤ c ∧ RU w6 A xs := by
          intro j xs hx
          obtain ⟨A, c, h1, h2, h3⟩ := HRR.out j xs hx
          exact ⟨A, c, h1, h2, Kd.C_below h3 hb6⟩
        have hdl : (rows.drop m).length = l.length - m := by rw [List.length_drop, HRL.out]
        by_cases hj : j < l.length - m
        · rw [List.getElem?_append_left (by simp; omega), List.getElem?_drop] at hx
          rw [List.getElem?_append_left (by omega), List.getElem?_drop]
          exact hrr _ _ hx
        · rw [List.getElem?_append_right (by simp; omega), List.length_drop] at hx
          rw [List.getElem?_append_right (by omega), hdl]
          have hx' : l[j - (l.length - m)]? = some xs := by
            rw [List.getElem?_take] at hx
            by_cases h : j - (l.length - m) < m
            · rw [if_pos h] at hx; exact hx
            · rw [if_neg h] at hx; cases hx
          have := (List.getElem?_eq_some_iff.1 hx').1
          obtain ⟨A, c, h1, h2⟩ := hrr _ _ hx'
          refine ⟨A, c, ?_, h2⟩
          rw [List.getElem?_take]
          have : j - (l.length - m) < m := by
            rw [List.getElem?_take] at hx
            by_cases h : j - (l.length - m) < m
            · exact h
            · rw [if_neg h] at hx; cases hx
          rw [if_pos this]; exact h1)
    have DA := area_yes (some ad) c l w6 (Kd.C_below HR.out (hb5.trans (hb6.mono hb5.size))) HN.out HOK.out
    have DA2 := fun (W : World) (hW : Below w5.heap.size w5 W) => area_yes A9 c9 l.reverse W (Kd.C_below HR9.out hW) (nats_mem HN.out (by simp)) (okRing_perm HOK.out (by simp) (by simp))
    have DA3 := fun (W : World) (hW : Below w6.heap.size w6 W) => area_yes (some ⟨g1, 0, none⟩) cap1 (l.drop m ++ l.take m) W (Kd.C_below HM.out hW) (nats_mem HN.out HMM.out) (okRing_perm HOK.out HML.out HMM.out)
    have DW := fun (W : World) (hW : Below w5.heap.size w5 W) => pWinds_yes (some ad) B c d l p W (Kd.C_below HR.out (hb5.trans (hW.mono hb5.size))) HN.out HOK.out (Kd.C_below HP.out (hb5.trans (hW.mono hb5.size))) HD.out HPN.out HPK.out
    have DW2 := fun (W : World) (hW : Below w5.heap.size w5 W) => pWinds_yes A9 B c9 d l.reverse p W (Kd.C_below HR9.out hW) (nats_mem HN.out (by simp)) (okRing_perm HOK.out (by simp) (by simp)) (Kd.C_below HP.out (hb5.trans (hW.mono hb5.size))) HD.out HPN.out HPK.out
    have DW3 := fun (W : World) (hW : Below w6.heap.size w6 W) => pWinds_yes (some ⟨g1, 0, none⟩) B cap1 d (l.drop m ++ l.take m) p W (Kd.C_below HM.out hW) (nats_mem HN.out HMM.out) (okRing_perm HOK.out HML.out HMM.out) (Kd.C_below HP.out (hb5.trans ((hb6.trans (hW.mono hb6.size)).mono hb5.size))) HD.out HPN.out HPK.out
    rw [List.length_reverse, List.map_reverse] at DA2 DW2
    rw [show (l.drop m ++ l.take m).length = l.length - m by rw [HML.out, H0.out, Nat.sub_zero], HMA.out] at DA3 DW3
    rw [area_turned] at DA2
    rw [windsAt_turned] at DW2
    rw [area_moved, List.take_append_drop] at DA3
    rw [windsAt_moved, List.take_append_drop] at DW3
    obtain ⟨a, ha⟩ : ∃ a, areaOf (l.map pt) = a := ⟨_, rfl⟩
    obtain ⟨v, hv⟩ : ∃ v, windsAt (l.map pt) (pt p) = v := ⟨_, rfl⟩
    rw [ha] at DA DA2 DA3
    rw [hv] at DW DW2 DW3
    clear ha hv
    have hab : a + -a = 0 := Int.add_right_neg a
    have hvb : v + -v = 0 := Int.add_right_neg v
    go_wp2_with (fail)
    refine DA.mono ?_
    rintro e w8 ⟨rfl, hb8⟩
    have E2 := DA2 w8 (hb6.trans (hb8.mono hb6.size))
    clear DA DA2
    go_wp2_with (fail)
    refine E2.mono ?_
    rintro e w9 ⟨rfl, hb9⟩
    have hc9 := hb8.trans (hb9.mono hb8.size)
    have E3 := DA3 w9 hc9
    clear E2 DA3 hb8 hb9
    go_wp2_with (fail)
    refine E3.mono ?_
    rintro e w10 ⟨rfl, hb10⟩
    have hc10 := hc9.trans (hb10.mono hc9.size)
    have E4 := DW w10 (hb6.trans (hc10.mono hb6.size))
    clear E3 DW hb10 hc9
    go_wp2_with (fail)
    refine E4.mono ?_
    rintro e w11 ⟨rfl, hb11⟩
    have hc11 := hc10.trans (hb11.mono hc10.size)
    have E5 := DW2 w11 (hb6.trans (hc11.mono hb6.size))
    clear E4 DW2 hb11 hc10
    go_wp2_with (fail)
    refine E5.mono ?_
    rintro e w12 ⟨rfl, hb12⟩
    have hc12 := hc11.trans (hb12.mono hc11.size)
    have E6 := DW3 w12 hc12
    clear E5 DW3 hb12 hc11
    go_wp2_with (fail)
    refine E6.mono ?_
    rintro e w13 ⟨rfl, hb13⟩
    have hc13 := hc12.trans (hb13.mono hc12.size)
    clear E6 hb13 hc12
    go_wp2
    go_ret
    exact ⟨rfl, hb5.trans ((hb6.trans (hc13.mono hb6.size)).mono hb5.size)⟩
  · have h0' : 0 < m := by omega
    go_region_law (first
      | (refine step_append_lies _ rfl (.tmp 52) (.tmp 55) 22 rfl w5.heap.size 23 i0 _ 1 24 Try.underlying22 hi hz0 hz1 hz2 rfl (by decide) (.slice (some ⟨w5.heap.size, 0, none⟩) 0 0) 0 [] (by simp [Act.eval, Act.put]) own0 (ad.add m) (l.length - m) (c - m) (rows.drop m) (by simp [Act.eval, Act.put, hcm]) dlen.out tak.out done.out (by omega) (by unfold maxLen; omega) (by omega) (by simp) (w5.heap.size + 1) (by simp) ?_; intro g1 cap1 w6 ow1 gb1 at1 lt1; have hb6 : Below w5.heap.size w5 w6 := hb60.grown gb1 (by simp) (by simp [Value.ownBlock]))
      | (refine step_append_lies _ rfl (.tmp 56) (.tmp 59) 22 rfl w5.heap.size 23 i0 _ 1 24 Try.underlying22 hi hz0 hz1 hz2 rfl (by decide) (.slice (some ⟨g1, 0, none⟩) (0 + (l.length - m)) cap1) (0 + (l.length - m)) ([] ++ rows.drop m) (by simp [Act.eval, Act.put]) ow1 ad m c (rows.take m) (by simp [Act.eval, Act.put]) tlen.out (tk0.out w6 hb6) tone.out h0' (by unfold maxLen; omega) (by omega) hb6.size w6.heap.size rfl ?_; intro g2 cap2 w7 ow2 gb2 at2 lt2; have hb7 : Below w5.heap.size w5 w7 := hb6.grown gb2 hb6.size (own_base ow1)))
    have HML := Lib.hid (show (l.drop m ++ l.take m).length = l.length by simp; omega)
    have HMM := Lib.hid (show ∀ x ∈ l.drop m ++ l.take m, x ∈ l from fun x hx => (List.mem_append.1 hx).elim List.mem_of_mem_drop List.mem_of_mem_take)
    have HMA := Lib.hid (show (l.drop m ++ l.take m).map pt = (l.map pt).drop m ++ (l.map pt).take m by rw [List.map_append, List.map_drop, List.map_take])
    have HM := Lib.hid (show RR w7 (some ⟨g2, 0, none⟩) (l.drop m ++ l.take m) by
      have hlen : l.length - m + m = (l.drop m ++ l.take m).length := by simp; omega
      refine RR.of_own (base := w5.heap.size) (cap := cap2) (rows := rows.drop m ++ rows.take m) ?_ (by rw [HML.out]; omega) (fun j xs hx => ?_)
      · rw [HML.out]; have := ow2; rw [show 0 + (l.length - m) + m = l.length by omega, List.nil_append] at this; exact this
      · have hrr : ∀ (j : Nat) (xs : List Int), l[j]? = some xs → ∃ (A : Option Addr) (c : Nat), rows[j]? = some (Value.slice A xs.length c) ∧ xs.length ≤ c ∧ RU w7 A xs := by
          intro j xs hx
          obtain ⟨A, c, h1, h2, h3⟩ := HRR.out j xs hx
          exact ⟨A, c, h1, h2, Kd.C_below h3 hb7⟩
        have hdl : (rows.drop m).length = l.length - m := by rw [List.length_drop, HRL.out]
        by_cases hj : j < l.length - m
        · rw [List.getElem?_append_left (by simp; omega), List.getElem?_drop] at hx
          rw [List.getElem?_append_left (by omega), List.getElem?_drop]
          exact hrr _ _ hx
        · rw [List.getElem?_append_right (by simp; omega), List.length_drop] at hx
          rw [List.getElem?_append_right (by omega), hdl]
          have hx' : l[j - (l.length - m)]? = some xs := by
            rw [List.getElem?_take] at hx
            by_cases h : j - (l.length - m) < m
            · rw [if_pos h] at hx; exact hx
            · rw [if_neg h] at hx; cases hx
          have := (List.getElem?_eq_some_iff.1 hx').1
          obtain ⟨A, c, h1, h2⟩ := hrr _ _ hx'
          refine ⟨A, c, ?_, h2⟩
          rw [List.getElem?_take]
          have : j - (l.length - m) < m := by
            rw [List.getElem?_take] at hx
            by_cases h : j - (l.length - m) < m
            · exact h
            · rw [if_neg h] at hx; cases hx
          rw [if_pos this]; exact h1)
    have DA := area_yes (some ad) c l w7 (Kd.C_below HR.out (hb5.trans (hb7.mono hb5.size))) HN.out HOK.out
    have DA2 := fun (W : World) (hW : Below w5.heap.size w5 W) => area_yes A9 c9 l.reverse W (Kd.C_below HR9.out hW) (nats_mem HN.out (by simp)) (okRing_perm HOK.out (by simp) (by simp))
    have DA3 := fun (W : World) (hW : Below w7.heap.size w7 W) => area_yes (some ⟨g2, 0, none⟩) cap2 (l.drop m ++ l.take m) W (Kd.C_below HM.out hW) (nats_mem HN.out HMM.out) (okRing_perm HOK.out HML.out HMM.out)
    have DW := fun (W : World) (hW : Below w5.heap.size w5 W) => pWinds_yes (some ad) B c d l p W (Kd.C_below HR.out (hb5.trans (hW.mono hb5.size))) HN.out HOK.out (Kd.C_below HP.out (hb5.trans (hW.mono hb5.size))) HD.out HPN.out HPK.out
    have DW2 := fun (W : World) (hW : Below w5.heap.size w5 W) => pWinds_yes A9 B c9 d l.reverse p W (Kd.C_below HR9.out hW) (nats_mem HN.out (by simp)) (okRing_perm HOK.out (by simp) (by simp)) (Kd.C_below HP.out (hb5.trans (hW.mono hb5.size))) HD.out HPN.out HPK.out
    have DW3 := fun (W : World) (hW : Below w7.heap.size w7 W) => pWinds_yes (some ⟨g2, 0, none⟩) B cap2 d (l.drop m ++ l.take m) p W (Kd.C_below HM.out hW) (nats_mem HN.out HMM.out) (okRing_perm HOK.out HML.out HMM.out) (Kd.C_below HP.out (hb5.trans ((hb7.trans (hW.mono hb7.size)).mono hb5.size))) HD.out HPN.out HPK.out
    rw [List.length_reverse, List.map_reverse] at DA2 DW2
    rw [HML.out, HMA.out] at DA3 DW3
    rw [area_turned] at DA2
    rw [windsAt_turned] at DW2
    rw [area_moved, List.take_append_drop] at DA3
    rw [windsAt_moved, List.take_append_drop] at DW3
    obtain ⟨a, ha⟩ : ∃ a, areaOf (l.map pt) = a := ⟨_, rfl⟩
    obtain ⟨v, hv⟩ : ∃ v, windsAt (l.map pt) (pt p) = v := ⟨_, rfl⟩
    rw [ha] at DA DA2 DA3
    rw [hv] at DW DW2 DW3
    clear ha hv
    have hab : a + -a = 0 := Int.add_right_neg a
    have hvb : v + -v = 0 := Int.add_right_neg v
    go_wp2_with (fail)
    refine DA.mono ?_
    rintro e w8 ⟨rfl, hb8⟩
    have E2 := DA2 w8 (hb7.trans (hb8.mono hb7.size))
    clear DA DA2
    go_wp2_with (fail)
    refine E2.mono ?_
    rintro e w9 ⟨rfl, hb9⟩
    have hc9 := hb8.trans (hb9.mono hb8.size)
    have E3 := DA3 w9 hc9
    clear E2 DA3 hb8 hb9
    go_wp2_with (fail)
    refine E3.mono ?_
    rintro e w10 ⟨rfl, hb10⟩
    have hc10 := hc9.trans (hb10.mono hc9.size)
    have E4 := DW w10 (hb7.trans (hc10.mono hb7.size))
    clear E3 DW hb10 hc9
    go_wp2_with (fail)
    refine E4.mono ?_
    rintro e w11 ⟨rfl, hb11⟩
    have hc11 := hc10.trans (hb11.mono hc10.size)
    have E5 := DW2 w11 (hb7.trans (hc11.mono hb7.size))
    clear E4 DW2 hb11 hc10
    go_wp2_with (fail)
    refine E5.mono ?_
    rintro e w12 ⟨rfl, hb12⟩
    have hc12 := hc11.trans (hb12.mono hc11.size)
    have E6 := DW3 w12 hc12
    clear E5 DW3 hb12 hc11
    go_wp2_with (fail)
    refine E6.mono ?_
    rintro e w13 ⟨rfl, hb13⟩
    have hc13 := hc12.trans (hb13.mono hc12.size)
    clear E6 hb13 hc12
    go_wp2
    go_ret
    exact ⟨rfl, hb5.trans ((hb7.trans (hc13.mono hb7.size)).mono hb5.size)⟩

end Go.Proofs.Ytbcfbbeefkdpoaa
