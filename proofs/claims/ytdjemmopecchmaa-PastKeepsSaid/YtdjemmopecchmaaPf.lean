/- The statement PastKeeps: its loops. -/
import Derived.Test.YtdjemmopecchmaaPe
namespace Go.Proofs.Ytdjemmopecchmaa
open Go.RowKit Go.Proofs.YtdjemmopecchmaaW.PrintWords Key
set_option linter.unusedVariables false
set_option linter.unusedSimpArgs false

/-- Entries whose points are numbers below i. -/
def Under1 (i : Nat) (L : List Ent) : Prop := ∀ e ∈ L, ∃ x : Int, e.1 = [x] ∧ x < i
theorem nodup_of {L : List Ent} (h : SortL L) : L.Nodup :=
  List.Pairwise.imp (fun hab e => Nat.ne_of_lt hab (congrArg (fun z : Ent => key z.1) e)) h
/-- One more entry. -/
theorem chg_more {p : List Int} {v : Int} {L L' : List Ent} (h : Chg p (fun e => e = (p, v)) L L') (hs : SortL L) (hs' : SortL L') (hno : ∀ e ∈ L, e.1 ≠ p) : L'.length = L.length + 1 := by
  have hp : List.Perm L' ((p, v) :: L) := by
    refine (List.perm_ext_iff_of_nodup (nodup_of hs') ?_).2 (fun e => ?_)
    · rw [List.nodup_cons]
      exact ⟨fun hm => hno _ hm rfl, nodup_of hs⟩
    · rw [h e, List.mem_cons]
      constructor
      · rintro (h1 | ⟨h1, _⟩)
        · exact .inl h1
        · exact .inr h1
      · rintro (h1 | h1)
        · exact .inl h1
        · exact .inr ⟨h1, hno e h1⟩
  rw [hp.length_eq]; rfl

/-- The trees of a past behind i puts: each has one entry more than the one ahead of it. -/
def Grown1 (w : World) (i : Nat) (l : List Nat) : Prop :=
  ∀ j (hj : j < l.length), ∃ (L : List Ent) (N : List Nat), TrOf w l[j] 1 L N ∧ L.length + (l.length - 1 - j) = i ∧ Under1 i L
theorem Grown1.keep {w w' : World} {q i : Nat} {l : List Nat} (h : Grown1 w i l) (hk : Keep q w w') (hq : Other w q) : Grown1 w' i l := fun j hj => by
  obtain ⟨L, N, h1, h2⟩ := h j hj
  exact ⟨L, N, h1.keep hk hq, h2⟩
theorem Grown1.bel {w w' : World} {i : Nat} {l : List Nat} (h : Grown1 w i l) (hb : Below w.heap.size w w') : Grown1 w' i l := fun j hj => by
  obtain ⟨L, N, h1, h2⟩ := h j hj
  exact ⟨L, N, h1.bel hb, h2⟩
/-- The row behind one more Do. -/
theorem Grown1.next {w : World} {i : Nat} {l : List Nat} {t : Nat} {L : List Ent} {N : List Nat} (h : Grown1 w i l) (h0 : 0 < l.length) (ht : TrOf w t 1 L N) (hl : L.length = i + 1) (hu : Under1 (i + 1) L) (d : Nat) (hd : d ≤ 1) :
    Grown1 w (i + 1) ((l ++ [t]).drop d) := fun j hj => by
  rw [List.length_drop, List.length_append, List.length_singleton] at hj
  by_cases e : d + j = l.length
  · refine ⟨L, N, ?_, ?_, hu⟩
    · have : ((l ++ [t]).drop d)[j]'(by simp; omega) = t := by rw [List.getElem_drop]; simp [e]
      rw [this]; exact ht
    · rw [List.length_drop, List.length_append, List.length_singleton]; omega
  · have hlt : d + j < l.length := by omega
    obtain ⟨L2, N2, h1, h2, h3⟩ := h (d + j) hlt
    refine ⟨L2, N2, ?_, ?_, fun e he => by obtain ⟨x, h4, h5⟩ := h3 e he; exact ⟨x, h4, by omega⟩⟩
    · have : ((l ++ [t]).drop d)[j]'(by simp; omega) = l[d + j] := by rw [List.getElem_drop, List.getElem_append_left hlt]
      rw [this]; exact h1
    · rw [List.length_drop, List.length_append, List.length_singleton]; omega

/-- What holds behind i rounds. -/
def Round1 (w : World) (q t i : Nat) : Prop :=
  ∃ l : List Nat, PastAt w q l (l.length - 1) ∧ l.length = min i 50 + 1 ∧ l.getLast? = some t ∧ Grown1 w i l

theorem last_get {l : List Nat} {t : Nat} (h : l.getLast? = some t) : ∃ h0 : l.length - 1 < l.length, l[l.length - 1] = t := by
  have h0 : l ≠ [] := by rintro rfl; simp at h
  have hl : 0 < l.length := List.length_pos_iff.2 h0
  refine ⟨by omega, ?_⟩
  rw [List.getLast?_eq_getElem?, List.getElem?_eq_getElem (by omega)] at h
  exact Option.some.inj h
theorem Grown1.first {w : World} {t : Nat} {N : List Nat} (ht : TrOf w t 1 [] N) : Grown1 w 0 [t] := fun j hj => by
  have h0 : j = 0 := by simpa using hj
  subst h0
  exact ⟨[], N, ht, rfl, fun e he => by simp at he⟩
theorem Round1.first {w : World} {q t : Nat} {N : List Nat} (h : PastAt w q [t] 0) (ht : TrOf w t 1 [] N) : Round1 w q t 0 := ⟨[t], h, rfl, rfl, Grown1.first ht⟩

theorem past_len {w : World} {q a : Nat} {l : List Nat} (h : PastAt w q l a) : a < l.length ∧ l.length ≤ 51 := by obtain ⟨_, _, _, _, h3⟩ := h; exact h3

set_option maxRecDepth 100000 in
set_option maxHeartbeats 1600000 in
theorem keeps_out (n : Int) (w : World) (h : n < 0 ∨ 120 < n) : Calls Try.prog 3 #[.int .i64 n] w fun e w' => e = .returned (.bool true) ∧ Below w.heap.size w w' := by
  rcases h with h | h
  · have t1 : decide (n < 0) = true := decide_eq_true h
    go_enter Try.func3, Try.ntmps3
    go_wp2_with fail
    refine (awake22 w).mono ?_
    rintro e w1 ⟨rfl, hb⟩
    go_wp2
    go_ret
    exact ⟨rfl, hb⟩
  · have t1 : decide (n < 0) = false := decide_eq_false (by omega)
    have t2 : decide (120 < n) = true := decide_eq_true h
    go_enter Try.func3, Try.ntmps3
    go_wp2_with fail
    refine (awake22 w).mono ?_
    rintro e w1 ⟨rfl, hb⟩
    go_wp2
    go_ret
    exact ⟨rfl, hb⟩

set_option maxRecDepth 100000 in
set_option maxHeartbeats 3200000 in
theorem keeps_in (m : Nat) (w : World) (h : m ≤ 120) : Calls Try.prog 3 #[.int .i64 m] w fun e w' => e = .returned (.bool true) ∧ Below w.heap.size w w' := by
  have t1 : decide ((m : Int) < 0) = false := decide_eq_false (by omega)
  have t2 : decide (120 < (m : Int)) = false := decide_eq_false (by omega)
  have t3 : decide (120 < m) = false := decide_eq_false (by omega)
  have u1 : U 1 := by unfold U M64; omega
  have HU := Lib.hid u1
  clear u1
  go_enter Try.func3, Try.ntmps3
  go_wp2_with fail
  refine (awake22 w).mono ?_
  rintro e w1 ⟨rfl, hb1⟩
  go_wp2_with fail
  refine (tNew_any 1 w1 (by omega) (by omega)).mono ?_
  rintro e w2 ⟨t0, rfl, hT, ht, hb2⟩
  have HT := Lib.hid hT
  clear hT ht
  have C2 := qNew_any t0 w2
  go_wp2_with fail
  refine C2.mono ?_
  rintro e w3 ⟨q, rfl, hP, hq, hb3⟩
  have HR := Lib.hid (Round1.first hP (HT.out.bel hb3))
  have hB3 : Below w.heap.size w w3 := (hb1.trans (hb2.mono hb1.size)).trans (hb3.mono (Nat.le_trans hb1.size hb2.size))
  have hq0 : w.heap.size ≤ q := Nat.le_trans (Nat.le_trans hb1.size hb2.size) hq
  have HB3 := Lib.hid hB3
  have HQ := Lib.hid hq0
  clear C2 hP hq hb1 hb2 hb3 hB3 hq0 HT
  go_wp2_with fail
  go_loopg [3, 7] m (fun g v3 v7 wr => ∃ (i t : Nat), v3 = .pointer (some ⟨t, 0, none⟩) ∧ v7 = .int .i64 i ∧ i ≤ m ∧ g + i = m ∧ Hid (Round1 wr q t i) ∧ Hid (Keep q w3 wr))
  case atStart => exact ⟨0, t0, rfl, rfl, Nat.zero_le _, rfl, HR, Lib.hid (Keep.refl _ _)⟩
  case round =>
    clear HR
    obtain ⟨i, t, rfl, rfl, him, hg, HRi, HK⟩ := hrel
    have HG := Lib.hid hg
    clear hg
    by_cases hlt : i < m
    · obtain ⟨l, hP, hl, hlast, hgr⟩ := HRi.out
      obtain ⟨hl0, hlt0⟩ := last_get hlast
      obtain ⟨L, N, hT, hTl, hTu⟩ := hgr (l.length - 1) hl0
      rw [hlt0] at hT
      have hW : Below wr.heap.size wr (wr.alloc (.cells #[.int .u64 i] 31)) := (Below.refl _ _).alloc (Nat.le_refl _) _
      have C1 := tPut1 t i wr.heap.size 1 L N (wr.alloc (.cells #[.int .u64 i] 31)) (hT.bel hW) (by omega) (by omega) (RdU.one (heap_alloc_new wr _)) 1 HU.out (fun e he hp => by
        obtain ⟨x, h1, h2⟩ := hTu e he
        rw [hp] at h1
        have : (i : Int) = x := by simpa using h1
        omega)
      have HP := Lib.hid hP
      have HL := Lib.hid hl
      have HLast := Lib.hid hlt0
      have HGr := Lib.hid hgr
      have HTT := Lib.hid hT
      have HTl := Lib.hid hTl
      have HTu := Lib.hid hTu
      have HWb := Lib.hid hW
      clear hP hl hlast hgr hlt0 hT hTl hTu hW
      go_wp2_with fail
      refine C1.mono ?_
      rintro e w5 ⟨t', L', N', rfl, hT', hC', ht', hb5⟩
      have hB5 : Below wr.heap.size wr w5 := HWb.out.trans (hb5.mono HWb.out.size)
      have hne : t < t' := Nat.lt_of_lt_of_le HTT.out.lt (Nat.le_trans HWb.out.size ht')
      have hlen' : L'.length = i + 1 := by
        have h1 := chg_more hC' HTT.out.sorted hT'.sorted (fun e he hp => by
          obtain ⟨x, h1, h2⟩ := HTu.out e he
          rw [hp] at h1
          have : (i : Int) = x := by simpa using h1
          omega)
        have h2 := HTl.out
        have h3 := (past_len HP.out).1
        omega
      have hu' : Under1 (i + 1) L' := by
        intro e he
        rcases (hC' e).1 he with rfl | ⟨h1, _⟩
        · exact ⟨i, rfl, by omega⟩
        · obtain ⟨x, h2, h3⟩ := HTu.out e h1; exact ⟨x, h2, by omega⟩
      have hP5 := HP.out.bel hB5
      have hl1 := past_len HP.out
      obtain ⟨r', tr'⟩ := hT'.at_
      obtain ⟨r0, tr0⟩ := (HTT.out.bel hB5).at_
      have tr0' : TrAt w5 l[l.length - 1] 1 r0 := by rw [HLast.out]; exact tr0
      have D1 := qDo_new q (l.length - 1) 1 l t' r' r0 w5 hP5 hl1.1 tr' tr0' (by rw [HLast.out]; omega)
      rw [show l.length - 1 + 1 = l.length by omega, List.take_length, show l.length - 1 + 2 - 51 = l.length - 50 by omega] at D1
      have HB5 := Lib.hid hB5
      have HT' := Lib.hid hT'
      have HLen := Lib.hid hlen'
      have HU' := Lib.hid hu'
      have HO5 := Lib.hid hP5.other
      have HL1 := Lib.hid hl1
      clear C1 hb5 hC' ht' hne hB5 hlen' hu' tr' tr0 tr0' hP5 hl1 hT'
      go_wp2_with fail
      refine D1.mono ?_
      rintro e w6 ⟨rfl, hP6, hk6⟩
      obtain ⟨l6, hl6⟩ : ∃ l6, (l ++ [t']).drop (l.length - 50) = l6 := ⟨_, rfl⟩
      have hl6l : l6.length = min (i + 1) 50 + 1 := by
        rw [← hl6, List.length_drop, List.length_append, List.length_singleton]
        have := HL.out; omega
      have hl6last : l6.getLast? = some t' := by
        rw [← hl6, List.getLast?_drop]
        have : ¬ (l ++ [t']).length ≤ l.length - 50 := by simp; omega
        rw [if_neg this, List.getLast?_concat]
      rw [hl6, show min l.length 50 = l6.length - 1 by rw [hl6l]; have := HL.out; omega] at hP6
      obtain ⟨h60, h6l⟩ := last_get hl6last
      have hT6 := HT'.out.keep hk6 HO5.out
      obtain ⟨r6, tr6⟩ := hT6.at_
      have D2 := qDo_same q (l6.length - 1) 1 l6 r6 w6 hP6 h60 (by rw [h6l]; exact tr6)
      rw [h6l] at D2
      have hG6 : Grown1 w6 (i + 1) l6 := by
        rw [← hl6]
        exact Grown1.next ((HGr.out.bel HB5.out).keep hk6 HO5.out) (by have := HL1.out; omega) hT6 HLen.out HU'.out _ (by have := HL1.out; omega)
      have HR6 := Lib.hid (show Round1 w6 q t' (i + 1) from ⟨l6, hP6, hl6l, hl6last, hG6⟩)
      have HK6 := Lib.hid hk6
      clear D1 hP6 hk6 hl6 hl6l hl6last h6l hT6 tr6 hG6
      go_wp2_with fail
      refine D2.mono ?_
      rintro e w7 ⟨rfl, hb7⟩
      have HB7 := Lib.hid hb7
      clear D2 hb7
      go_wp2
      go_roundg (gk - 1)
      case measure => have := HG.out; omega
      case rel =>
        obtain ⟨l6, p1, p2, p3, p4⟩ := HR6.out
        exact ⟨i + 1, t', rfl, by go_num, by omega, by have := HG.out; omega, Lib.hid ⟨l6, p1.bel HB7.out, p2, p3, p4.bel HB7.out⟩, Lib.hid (((HK.out.trans (Keep.of_below HB5.out)).trans HK6.out).trans (Keep.of_below HB7.out))⟩
    · obtain rfl : i = m := by omega
      obtain ⟨l, hP, hl, hlast, hgr⟩ := HRi.out
      obtain ⟨hl0, hlt0⟩ := last_get hlast
      have HP := Lib.hid hP
      have HL := Lib.hid hl
      have HLast := Lib.hid hlt0
      have HGr := Lib.hid hgr
      have HO := Lib.hid hP.other
      have h51 := (past_len hP).2
      have HGoal := Lib.hid (show Hid True from trivial)
      clear hP hl hlast hgr hlt0 HRi HG
      obtain ⟨wo, rfl⟩ : ∃ wo : World, wo = wr := ⟨_, rfl⟩
      go_wp2_with fail
      go_loopg [8] l.length (fun g v8 wq => ∃ s : Nat, v8 = .int .i64 s ∧ s ≤ l.length - 1 ∧ g + s = l.length ∧ Hid (PastAt wq q l (l.length - 1 - s)) ∧ Hid (Keep q wo wq))
      case atStart => exact ⟨0, rfl, Nat.zero_le _, by omega, HP, Lib.hid (Keep.refl _ _)⟩
      case round =>
        obtain ⟨s, rfl, hs, hgs, HPs, HKs⟩ := hrel
        have HGs := Lib.hid hgs
        clear hgs
        by_cases hsl : s < l.length - 1
        · have C1 := qUndo_yes q (l.length - 1 - s - 1) l wr (by have := HPs.out; rwa [show l.length - 1 - s - 1 + 1 = l.length - 1 - s by omega])
          go_wp2_with fail
          refine C1.mono ?_
          rintro e w8 ⟨rfl, hP8, hk8⟩
          have HP8 := Lib.hid hP8
          have HK8 := Lib.hid hk8
          clear C1 hP8 hk8
          go_wp2
          go_roundg (gk - 1)
          case measure => have := HGs.out; omega
          case rel => exact ⟨s + 1, by go_num, by omega, by have := HGs.out; omega, Lib.hid (by have := HP8.out; rwa [show l.length - 1 - s - 1 = l.length - 1 - (s + 1) by omega] at this), Lib.hid (HKs.out.trans HK8.out)⟩
        · obtain rfl : s = l.length - 1 := by omega
          have hz0 : l.length - 1 - (l.length - 1) = 0 := by omega
          have HP0 := Lib.hid (show PastAt wr q l 0 by have := HPs.out; rwa [hz0] at this)
          clear hz0 HPs HGs
          have C1 := qUndo_no q l wr HP0.out
          obtain ⟨ws, rfl⟩ : ∃ ws : World, ws = wr := ⟨_, rfl⟩
          go_wp2_with fail
          refine C1.mono ?_
          rintro e w9 ⟨rfl, hb9⟩
          have HB9 := Lib.hid hb9
          clear C1 hb9
          -- the present one's entries
          have hpos : 0 < l.length := (past_len HP0.out).1
          have hG9 := ((HGr.out.keep HKs.out HO.out).bel HB9.out) 0 hpos
          obtain ⟨L0, N0, hT0, hL0, hU0⟩ := hG9
          have hkept : l.length - 1 = min i 50 := by have := HL.out; omega
          have D1 := qNow_any q 0 l w9 (HP0.out.bel HB9.out) hpos
          have hlen0 : L0.length = i - min i 50 := by omega
          have HT0 := Lib.hid hT0
          have HLen0 := Lib.hid hlen0
          have HKept := Lib.hid hkept
          clear hT0 hL0 hU0 hlen0
          by_cases h50 : 50 < i
          · have hK : l.length - 1 = 50 := by omega
            have e1 : (((l.length - 1 : Nat) : Int) != 50) = false := by simp; omega
            have e2 : decide (50 < (i : Int)) = true := decide_eq_true (by omega)
            have e3 : decide (50 < i) = true := decide_eq_true h50
            have HK50 := Lib.hid hK
            clear hK hkept
            go_wp2_with fail
            refine D1.mono ?_
            rintro e w10 ⟨rfl, hb10⟩
            have D2 := tLen_any l[0] 1 L0 N0 w10 (HT0.out.bel hb10) (by have := HLen0.out; omega)
            have HB10 := Lib.hid hb10
            have hln : ((L0.length : Int) != (i : Int) - 50) = false := by simp; have := HLen0.out; omega
            clear D1 hb10
            go_wp2_with fail
            refine D2.mono ?_
            rintro e w11 ⟨rfl, hb11⟩
            have HP11 := Lib.hid ((HP0.out.bel HB9.out).bel (HB10.out.trans (hb11.mono HB10.out.size)))
            have HB11 := Lib.hid hb11
            clear D2 hb11
            go_wp2_with fail
            go_loopg [8] (l.length - 1) (fun g v8 wq => ∃ s : Nat, v8 = .int .i64 s ∧ s ≤ l.length - 1 ∧ g = s ∧ Hid (PastAt wq q l (l.length - 1 - s)) ∧ Hid (Keep q w11 wq))
            case atStart => exact ⟨l.length - 1, rfl, Nat.le_refl _, rfl, Lib.hid (by rw [Nat.sub_self]; exact HP11.out), Lib.hid (Keep.refl _ _)⟩
            case round =>
              obtain ⟨s, rfl, hs, hgs, HPs, HKt⟩ := hrel
              have HGs := Lib.hid hgs
              clear hgs
              by_cases hsl : 0 < s
              · have C1 := qRedo_yes q (l.length - 1 - s) l wr HPs.out (by omega)
                go_wp2_with fail
                refine C1.mono ?_
                rintro e w12 ⟨rfl, hP12, hk12⟩
                have HP12 := Lib.hid hP12
                have HK12 := Lib.hid hk12
                have hsw : ((s : Int) - 1) = ((s - 1 : Nat) : Int) := by omega
                clear C1 hP12 hk12
                go_wp2
                go_roundg (gk - 1)
                case measure => have := HGs.out; omega
                case rel => exact ⟨s - 1, by first | rfl | go_num, by omega, by have := HGs.out; omega, Lib.hid (by have := HP12.out; rwa [show l.length - 1 - s + 1 = l.length - 1 - (s - 1) by omega] at this), Lib.hid (HKt.out.trans HK12.out)⟩
              · obtain rfl : s = 0 := by omega
                have C1 := qRedo_no q (l.length - 1 - 0) l wr HPs.out (by omega)
                have HPe := Lib.hid (show PastAt wr q l (l.length - 1) from HPs.out)
                obtain ⟨wt, rfl⟩ : ∃ wt : World, wt = wr := ⟨_, rfl⟩
                go_wp2_with fail
                refine C1.mono ?_
                rintro e w13 ⟨rfl, hb13⟩
                have C2 := qNow_any q (l.length - 1) l w13 (HPe.out.bel hb13) hl0
                rw [HLast.out] at C2
                have HB13 := Lib.hid hb13
                clear C1 hb13
                go_wp2_with fail
                refine C2.mono ?_
                rintro e w14 ⟨rfl, hb14⟩
                have heq := eql_same w14 t
                have HB14 := Lib.hid hb14
                clear C2 hb14
                go_wp2
                go_ret
                have k1 : Keep q w3 w14 := ((((((HK.out.trans HKs.out).trans (Keep.of_below HB9.out)).trans (Keep.of_below HB10.out)).trans (Keep.of_below HB11.out)).trans HKt.out).trans (Keep.of_below HB13.out)).trans (Keep.of_below HB14.out)
                exact ⟨rfl, HB3.out.trans (k1.below HQ.out HB3.out.size)⟩
          · have hK : l.length - 1 = i := by omega
            have e1 : (((l.length - 1 : Nat) : Int) != (i : Int)) = false := by simp; omega
            have e1' : (l.length - 1 != i) = false := by simp; omega
            have e2 : decide (50 < (i : Int)) = false := decide_eq_false (by omega)
            have e3 : decide (50 < i) = false := decide_eq_false h50
            have HK50 := Lib.hid hK
            clear hK hkept
            go_wp2_with fail
            refine D1.mono ?_
            rintro e w10 ⟨rfl, hb10⟩
            have D2 := tLen_any l[0] 1 L0 N0 w10 (HT0.out.bel hb10) (by have := HLen0.out; omega)
            have HB10 := Lib.hid hb10
            have hln : ((L0.length : Int) != 0) = false := bne_eq_false_iff_eq.2 (by have := HLen0.out; omega)
            clear D1 hb10
            go_wp2_with fail
            refine D2.mono ?_
            rintro e w11 ⟨rfl, hb11⟩
            have HP11 := Lib.hid ((HP0.out.bel HB9.out).bel (HB10.out.trans (hb11.mono HB10.out.size)))
            have HB11 := Lib.hid hb11
            clear D2 hb11
            go_wp2_with fail
            go_loopg [8] (l.length - 1) (fun g v8 wq => ∃ s : Nat, v8 = .int .i64 s ∧ s ≤ l.length - 1 ∧ g = s ∧ Hid (PastAt wq q l (l.length - 1 - s)) ∧ Hid (Keep q w11 wq))
            case atStart => exact ⟨l.length - 1, rfl, Nat.le_refl _, rfl, Lib.hid (by rw [Nat.sub_self]; exact HP11.out), Lib.hid (Keep.refl _ _)⟩
            case round =>
              obtain ⟨s, rfl, hs, hgs, HPs, HKt⟩ := hrel
              have HGs := Lib.hid hgs
              clear hgs
              by_cases hsl : 0 < s
              · have C1 := qRedo_yes q (l.length - 1 - s) l wr HPs.out (by omega)
                go_wp2_with fail
                refine C1.mono ?_
                rintro e w12 ⟨rfl, hP12, hk12⟩
                have HP12 := Lib.hid hP12
                have HK12 := Lib.hid hk12
                have hsw : ((s : Int) - 1) = ((s - 1 : Nat) : Int) := by omega
                clear C1 hP12 hk12
                go_wp2
                go_roundg (gk - 1)
                case measure => have := HGs.out; omega
                case rel => exact ⟨s - 1, by first | rfl | go_num, by omega, by have := HGs.out; omega, Lib.hid (by have := HP12.out; rwa [show l.length - 1 - s + 1 = l.length - 1 - (s - 1) by omega] at this), Lib.hid (HKt.out.trans HK12.out)⟩
              · obtain rfl : s = 0 := by omega
                have C1 := qRedo_no q (l.length - 1 - 0) l wr HPs.out (by omega)
                have HPe := Lib.hid (show PastAt wr q l (l.length - 1) from HPs.out)
                obtain ⟨wt, rfl⟩ : ∃ wt : World, wt = wr := ⟨_, rfl⟩
                go_wp2_with fail
                refine C1.mono ?_
                rintro e w13 ⟨rfl, hb13⟩
                have C2 := qNow_any q (l.length - 1) l w13 (HPe.out.bel hb13) hl0
                rw [HLast.out] at C2
                have HB13 := Lib.hid hb13
                clear C1 hb13
                go_wp2_with fail
                refine C2.mono ?_
                rintro e w14 ⟨rfl, hb14⟩
                have heq := eql_same w14 t
                have HB14 := Lib.hid hb14
                clear C2 hb14
                go_wp2
                go_ret
                have k1 : Keep q w3 w14 := ((((((HK.out.trans HKs.out).trans (Keep.of_below HB9.out)).trans (Keep.of_below HB10.out)).trans (Keep.of_below HB11.out)).trans HKt.out).trans (Keep.of_below HB13.out)).trans (Keep.of_below HB14.out)
                exact ⟨rfl, HB3.out.trans (k1.below HQ.out HB3.out.size)⟩

theorem keeps_any (n : Int) (w : World) : Calls Try.prog 3 #[.int .i64 n] w fun e w' => e = .returned (.bool true) ∧ Below w.heap.size w w' := by
  by_cases h : n < 0 ∨ 120 < n
  · exact keeps_out n w h
  · obtain ⟨m, rfl⟩ := Int.eq_ofNat_of_zero_le (show 0 ≤ n by omega)
    exact keeps_in m w (by omega)
end Go.Proofs.Ytdjemmopecchmaa
