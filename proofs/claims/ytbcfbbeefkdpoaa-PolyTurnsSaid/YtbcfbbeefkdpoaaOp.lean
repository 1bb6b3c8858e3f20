/- The walks over plane.Number and poly.open. -/
import Derived.Test.YtbcfbbeefkdpoaaCa
import Derived.StillTailTactics
import Derived.Deep.DeepFit
namespace Go.Proofs.Ytbcfbbeefkdpoaa
open Go.RowKit Go.Proofs.YtbcfbbeefkdpoaaW.PrintWords Fl
set_option linter.unusedVariables false
set_option linter.unusedSimpArgs false
attribute [local go_sem] run_store_float run_store_complex

/-- A point that is small. -/
def okPt (xs : List Int) : Bool := decide (xs.length = 2) && decide (rd xs 0 < 1048576) && decide (rd xs 1 < 1048576)
def pt (xs : List Int) : Int × Int := (rd xs 0, rd xs 1)
def Nat0 (xs : List Int) : Prop := ∀ n ∈ xs, 0 ≤ n

abbrev RU (w : World) (A : Option Addr) (xs : List Int) : Prop := Kd.C (Kd.int .u64) w A xs.length xs

theorem RU.two {w : World} {A : Option Addr} {xs : List Int} (h : RU w A xs) (hl : xs.length = 2) : ∃ ad, A = some ad ∧ w.cell? ad = some (.int .u64 (rd xs 0)) ∧ w.cell? ⟨ad.block, ad.off + 1, none⟩ = some (.int .u64 (rd xs 1)) := by
  obtain ⟨ad, e, h0⟩ := Kd.at_int h 0 (by omega) (by omega)
  obtain ⟨ad', e', h1⟩ := Kd.at_int h 1 (by omega) (by omega)
  subst e
  obtain rfl := Option.some.inj e'
  simp only [show (1 : Int).toNat = 1 from rfl, Go.Addr.add, Nat.reduceEqDiff, ↓reduceIte] at h1
  exact ⟨ad, rfl, h0, h1⟩

def Given (p : Int × Int) (W : World) (e : Ending) (w' : World) : Prop := (∃ a b, CxIs a b p ∧ e = .returned (.tuple #[.complex .f64 a b, .int .i64 0])) ∧ Below W.heap.size W w'
def Refused (c : Int) (W : World) (e : Ending) (w' : World) : Prop := e = .returned (.tuple #[.complex .f64 0 0, .int .i64 c]) ∧ Below W.heap.size W w'

theorem number_dim (A : Option Addr) (xs : List Int) (c : Nat) (w : World) (hl : xs.length ≠ 2) (hm : xs.length ≤ 9223372036854775807) :
    Calls Try.prog 20 #[.slice A xs.length c] w (Refused 2 w) := by
  have h1 : ((xs.length : Int) != 2) = true := by simp; omega
  go_enter Try.func20, Try.ntmps20
  go_wp2
  go_ret2
  exact ⟨rfl, Below.refl _ _⟩

theorem number_two (A : Option Addr) (xs : List Int) (c : Nat) (w : World) (hr : RU w A xs) (hc : xs.length ≤ c) (hl : xs.length = 2) (hn : Nat0 xs) :
    Calls Try.prog 20 #[.slice A xs.length c] w (if okPt xs then Given (pt xs) w else Refused 3 w) := by
  have h1 : ((xs.length : Int) != 2) = false := by simp; omega
  have S : ∀ r, decide (mx (rd xs 0) (rd xs 1) < 1048576) = r → ∀ w, RU w A xs → Calls Try.prog 24 #[.slice A xs.length c] w fun e w' => e = .returned (.bool r) ∧ Below w.heap.size w w' := by
    intro r hr' w hw
    refine PPolyTells.plane_small.calls A c xs r w hw hc ?_
    unfold PPolyTells.plane_small.f
    rw [if_pos (by omega), if_pos (by omega), hr']
  have hmx : mx (rd xs 0) (rd xs 1) = if rd xs 0 < rd xs 1 then rd xs 1 else rd xs 0 := rfl
  by_cases hs : rd xs 0 < 1048576 ∧ rd xs 1 < 1048576
  · have e1 : okPt xs = true := by unfold okPt; simp [hl, hs.1, hs.2]
    have e2 : decide (mx (rd xs 0) (rd xs 1) < 1048576) = true := decide_eq_true (by rw [hmx]; split <;> omega)
    have S1 := S _ e2
    obtain ⟨ad, rfl, c0, c1⟩ := hr.two hl
    have g0 : 0 ≤ rd xs 0 := by
      obtain ⟨x, y, rfl⟩ : ∃ x y, xs = [x, y] := by match xs, hl with | [x, y], _ => exact ⟨x, y, rfl⟩
      exact hn x (by simp)
    have g1 : 0 ≤ rd xs 1 := by
      obtain ⟨x, y, rfl⟩ : ∃ x y, xs = [x, y] := by match xs, hl with | [x, y], _ => exact ⟨x, y, rfl⟩
      exact hn y (by simp)
    have i0 := is_ofInt (rd xs 0) (by omega) (by omega)
    have i1 := is_ofInt (rd xs 1) (by omega) (by omega)
    have I0 := Lib.hid i0
    have I1 := Lib.hid i1
    rw [if_pos e1]
    have HR := Lib.hid hr
    have l0 : decide (0 < xs.length) = true := decide_eq_true (by omega)
    have l1 : decide (1 < xs.length) = true := decide_eq_true (by omega)
    have l0' : (0 < xs.length) = True := eq_true (by omega)
    have l1' : (1 < xs.length) = True := eq_true (by omega)
    have l1'' : (1 < (xs.length : Int)) = True := eq_true (by omega)
    have K0 := c0
    have K1 := c1
    clear S e1 e2 hmx hs i0 i1 hl
    go_enter Try.func20, Try.ntmps20
    go_wp2_with (fail)
    refine (S1 _ hr).mono ?_
    rintro e w1 ⟨rfl, hb⟩
    have d0 := pw_cell_below hb c0
    have d1 := pw_cell_below hb c1
    clear K0 K1 c0 c1 S1 hr
    go_wp2
    go_quiet (fail)
    go_wp2
    go_ret2
    exact ⟨⟨_, _, ⟨I0.out, I1.out⟩, rfl⟩, pw_below_drewN hb _⟩
  · have e1 : okPt xs = false := by unfold okPt; simp [hl]; omega
    have e2 : decide (mx (rd xs 0) (rd xs 1) < 1048576) = false := decide_eq_false (by rw [hmx]; split <;> omega)
    have S1 := S _ e2
    rw [if_neg (by rw [e1]; decide)]
    have HR := Lib.hid hr
    clear S e1 e2 hmx hs hl
    go_enter Try.func20, Try.ntmps20
    go_wp2_with (fail)
    refine (S1 _ hr).mono ?_
    rintro e w1 ⟨rfl, hb⟩
    clear S1
    go_wp2
    go_ret2
    exact ⟨rfl, hb⟩

theorem number_ok (A : Option Addr) (xs : List Int) (c : Nat) (w : World) (hr : RU w A xs) (hc : xs.length ≤ c) (hn : Nat0 xs) (hok : okPt xs = true) :
    Calls Try.prog 20 #[.slice A xs.length c] w (Given (pt xs) w) := by
  have hl : xs.length = 2 := by unfold okPt at hok; simp at hok; exact hok.1.1
  have h := number_two A xs c w hr hc hl hn
  rw [if_pos hok] at h
  exact h
def numCode (xs : List Int) : Int := if xs.length = 2 then 3 else 2
theorem number_no (A : Option Addr) (xs : List Int) (c : Nat) (w : World) (hr : RU w A xs) (hc : xs.length ≤ c) (hn : Nat0 xs) (hok : okPt xs = false) :
    Calls Try.prog 20 #[.slice A xs.length c] w (Refused (numCode xs) w) := by
  by_cases hl : xs.length = 2
  · have h := number_two A xs c w hr hc hl hn
    rw [if_neg (by rw [hok]; decide)] at h
    unfold numCode; rw [if_pos hl]; exact h
  · unfold numCode; rw [if_neg hl]; exact number_dim A xs c w hl hr.2.1
theorem numCode_ne (xs : List Int) : numCode xs ≠ 0 := by unfold numCode; split <;> decide

abbrev RR (w : World) (A : Option Addr) (l : List (List Int)) : Prop := Kd.C (Kd.slice 43 (Kd.int .u64)) w A l.length l
def Nats (l : List (List Int)) : Prop := ∀ xs ∈ l, Nat0 xs

/-- A cell of a ring is a point. -/
def CellIs (v : Value) (p : Int × Int) : Prop := ∃ a b, v = .complex .f64 a b ∧ CxIs a b p
/-- A ring in memory. -/
def RingAt (w : World) (g : Nat) (ps : List (Int × Int)) : Prop := g < w.heap.size ∧ ∀ j p, ps[j]? = some p → ∃ v, w.cell? ⟨g, j, none⟩ = some v ∧ CellIs v p

def okRing (l : List (List Int)) : Bool := decide (3 ≤ l.length) && decide (l.length ≤ 400) && l.all okPt
def OpenPost (l : List (List Int)) (W : World) (e : Ending) (w' : World) : Prop :=
  (okRing l = true ∧ ∃ g, e = .returned (.tuple #[.slice (some ⟨g, 0, none⟩) l.length l.length, .int .i64 0]) ∧ RingAt w' g (l.map pt)) ∨
  (okRing l = false ∧ e = .returned (.tuple #[.slice none 0 0, .int .i64 9]))

theorem info52 : (Try.prog.info? 52).map (fun i => (i.zero, i.size, i.bytes)) = some (some (.complex .f64 0 0), 1, 16) := by kernel_rfl

/-- So many points of a ring are there. -/
def Filled (cs : List Value) (l : List (List Int)) (m : Nat) : Prop := cs.length = l.length ∧ ∀ j p, j < m → (l.map pt)[j]? = some p → ∃ v, cs[j]? = some v ∧ CellIs v p

theorem Filled.step {cs : List Value} {l : List (List Int)} {m : Nat} (h : Filled cs l m) (hm : m < l.length) {a b : Nat} (hab : CxIs a b (pt l[m])) : Filled (cs.set m (.complex .f64 a b)) l (m + 1) := by
  refine ⟨by simp [h.1], fun j p hj hp => ?_⟩
  by_cases e : j = m
  · subst e
    refine ⟨.complex .f64 a b, by simp [h.1, hm], a, b, rfl, ?_⟩
    simp [hm] at hp
    rw [← hp]; exact hab
  · obtain ⟨v, hv, hc⟩ := h.2 j p (by omega) hp
    exact ⟨v, by rw [List.getElem?_set]; simp [show m ≠ j from fun h => e h.symm, hv], hc⟩

theorem open_short (A : Option Addr) (c : Nat) (l : List (List Int)) (w : World) (hs : l.length < 3 ∨ 400 < l.length) (hm : l.length ≤ 9223372036854775807) :
    Calls Try.prog 17 #[.slice A l.length c] w fun e w' => OpenPost l w e w' ∧ Below w.heap.size w w' := by
  have hk : okRing l = false := by unfold okRing; simp; omega
  have HK := Lib.hid hk
  clear hk
  by_cases h1 : l.length < 3
  · have h2 : decide ((l.length : Int) < 3) = true := decide_eq_true (by omega)
    have h3 : decide (l.length < 3) = true := decide_eq_true h1
    clear hs
    go_enter Try.func17, Try.ntmps17
    go_wp2
    go_ret2
    exact ⟨.inr ⟨HK.out, rfl⟩, Below.refl _ _⟩
  · have h2 : decide ((l.length : Int) < 3) = false := decide_eq_false (by omega)
    have h3 : decide (l.length < 3) = false := decide_eq_false h1
    have h4 : decide (400 < (l.length : Int)) = true := decide_eq_true (by omega)
    have h5 : decide (400 < l.length) = true := decide_eq_true (by omega)
    clear hs
    go_enter Try.func17, Try.ntmps17
    go_wp2
    go_ret2
    exact ⟨.inr ⟨HK.out, rfl⟩, Below.refl _ _⟩

set_option maxHeartbeats 800000 in
theorem open_long (A : Option Addr) (c : Nat) (l : List (List Int)) (w : World) (h1 : 3 ≤ l.length) (h2 : l.length ≤ 400) (hr : RR w A l) (hn : Nats l) :
    Calls Try.prog 17 #[.slice A l.length c] w fun e w' => OpenPost l w e w' ∧ Below w.heap.size w w' := by
  have t1 : decide ((l.length : Int) < 3) = false := decide_eq_false (by omega)
  have t2 : decide (l.length < 3) = false := decide_eq_false (by omega)
  have t3 : decide (400 < (l.length : Int)) = false := decide_eq_false (by omega)
  have t4 : decide (400 < l.length) = false := decide_eq_false (by omega)
  obtain ⟨i0, hi, hz0, hz1, hz2⟩ := info_parts info52
  obtain ⟨ad, _, _, rfl, _⟩ := PPolyTells.at_L1 hr 0 (by omega) (by omega)
  have HR := Lib.hid hr
  have HN := Lib.hid hn
  clear hr hn
  go_enter Try.func17, Try.ntmps17
  go_wp2_with (at_make; refine wpList_make_full _ rfl _ _ _ rfl w.heap.size 52 i0 _ 1 Try.underlying47 hi hz0 hz1 .i64 .i64 _ _ l.length rfl rfl rfl rfl (by rw [hz2]; omega) (by unfold maxLen; omega) (by simp) ?_; intro w2 ho2 hg2; have hB2 : Below w.heap.size w w2 := (Below.refl w.heap.size w).grown hg2 (by simp) (by simp); clear hg2 hi hz0 hz1 hz2)
  go_loopg [22] l.length (fun q i wr => ∃ (m : Nat) (cs : List Value), m ≤ l.length ∧ q + m = l.length ∧ i = .int .i64 m ∧ wr.ownsRow w.heap.size 52 1 (.slice (some ⟨w.heap.size, 0, none⟩) l.length l.length) l.length cs ∧ Hid (Filled cs l m) ∧ Hid (∀ j, j < m → okPt (l.getD j []) = true) ∧ Below w.heap.size w wr)
  case atStart =>
    exact ⟨0, _, by omega, by omega, rfl, ho2, Lib.hid ⟨by simp [size_madeCells], fun j p hj => by omega⟩, Lib.hid (fun j hj => by omega), hB2⟩
  case round =>
    clear ho2 hB2
    obtain ⟨m, cs, hm, hq, rfl, ho, HF, HP, hb⟩ := hrel
    have HG := Lib.hid hq
    clear hq
    by_cases hlt : m < l.length
    · obtain ⟨ad', A0, c0, e', hx, hl0, hR0⟩ := PPolyTells.at_L1 (Kd.C_below HR.out hb) m (by omega) (by omega)
      obtain rfl := Option.some.inj e'
      have hmem : PPolyTells.rd_L1 l m ∈ l := by
        unfold PPolyTells.rd_L1
        rw [Int.toNat_natCast, List.getD_eq_getElem?_getD, List.getElem?_eq_getElem hlt]
        exact List.getElem_mem hlt
      have hnn := HN.out _ hmem
      cases hok : okPt (PPolyTells.rd_L1 l m) with
      | true =>
        have C1 := fun (W : World) (hW : Below wr.heap.size wr W) => number_ok A0 _ c0 W (Kd.C_below hR0 hW) hl0 hnn hok
        have HO := Lib.hid hok
        have hx' : wr.cell? (ad.add m) = some (.slice A0 (PPolyTells.rd_L1 l m).length c0) := hx
        have hlt' : decide ((m : Int) < l.length) = true := decide_eq_true (by omega)
        clear hok hnn hR0 hl0 hmem hx e'
        have HCt := Lib.hid (show cs.length = l.length from HF.out.1)
        go_wp2_with fail
        refine (C1 _ (Below.refl _ _)).mono ?_
        rintro e w1 ⟨⟨a, b, hab, rfl⟩, hb2⟩
        have HAB := Lib.hid hab
        clear hab C1
        have ho2 := pw_own_below ho hb2
        have f0 := ho2.frozenAt m
        have g0 : ∃ v, w1.cell? ⟨w.heap.size, m, none⟩ = some v := ⟨_, by rw [ho2.cellAt m (by omega), List.getElem?_eq_getElem (by have := HCt.out; omega)]⟩
        obtain ⟨v0, g0⟩ := g0
        have hst := ho2.stored m (.complex .f64 a b)
        have hb3 := hb.trans (hb2.mono hb.size)
        clear ho hb hb2
        go_wp2
        go_roundg (gk - 1)
        case measure => have := HG.out; omega
        case rel =>
          have hpt : PPolyTells.rd_L1 l m = l[m] := by
            unfold PPolyTells.rd_L1
            rw [Int.toNat_natCast, List.getD_eq_getElem?_getD, List.getElem?_eq_getElem hlt]; rfl
          refine ⟨m + 1, _, by omega, by have := HG.out; omega, by go_num, hst.1, Lib.hid (HF.out.step hlt (by rw [← hpt]; exact HAB.out)), Lib.hid (fun j hj => ?_), hb3.setCell (Nat.le_refl _) _⟩
          by_cases ej : j = m
          · subst ej; exact HO.out
          · exact HP.out j (by omega)
      | false =>
        have C1 := fun (W : World) (hW : Below wr.heap.size wr W) => number_no A0 _ c0 W (Kd.C_below hR0 hW) hl0 hnn hok
        have HO := Lib.hid (show okRing l = false by
          unfold okRing
          have : l.all okPt = false := by
            rw [List.all_eq_false]; exact ⟨_, hmem, by rw [hok]; decide⟩
          rw [this, Bool.and_false])
        have hx' : wr.cell? (ad.add m) = some (.slice A0 (PPolyTells.rd_L1 l m).length c0) := hx
        have hlt' : decide ((m : Int) < l.length) = true := decide_eq_true (by omega)
        have hne : (numCode (PPolyTells.rd_L1 l m) != 0) = true := by simp [numCode_ne]
        obtain ⟨k, hk⟩ : ∃ k, numCode (PPolyTells.rd_L1 l m) = k := ⟨_, rfl⟩
        rw [hk] at C1 hne
        clear hok hnn hR0 hl0 hmem hx e' hk
        go_wp2_with fail
        refine (C1 _ (Below.refl _ _)).mono ?_
        rintro e w1 ⟨rfl, hb2⟩
        clear C1
        go_wp2
        go_ret2
        exact ⟨.inr ⟨HO.out, rfl⟩, hb.trans (hb2.mono hb.size)⟩
    · obtain rfl : m = l.length := by omega
      have HO := Lib.hid (show okRing l = true by
        unfold okRing
        have h3 : l.all okPt = true := by
          rw [List.all_eq_true]
          intro x hx
          obtain ⟨j, hj, rfl⟩ := List.getElem_of_mem hx
          have := HP.out j hj
          rw [List.getD_eq_getElem?_getD, List.getElem?_eq_getElem hj] at this
          exact this
        simp [h1, h2, h3])
      have HR := Lib.hid (show RingAt wr w.heap.size (l.map pt) by
        refine ⟨?_, fun j p hj => ?_⟩
        · obtain ⟨ad', A0, c0, e', hx, hl0, hR0⟩ := PPolyTells.at_L1 (Kd.C_below HR.out hb) 0 (by omega) (by omega)
          rcases ho.2 with ⟨h', _⟩ | ⟨g', cap', cur, h', _, hh, _⟩
          · simp at h'
          · simp only [Value.slice.injEq, Option.some.injEq, Addr.mk.injEq, and_true, true_and] at h'
            rw [h'.1]; exact (Array.getElem?_eq_some_iff.1 hh).1
        · have hjl : j < l.length := by have := (List.getElem?_eq_some_iff.1 hj).1; simpa using this
          obtain ⟨v, hv, hc⟩ := HF.out.2 j p hjl hj
          exact ⟨v, by rw [ho.cellAt j (by omega)]; exact hv, hc⟩)
      clear ho
      go_wp2
      go_ret2
      exact ⟨.inl ⟨HO.out, _, rfl, HR.out⟩, hb⟩
end Go.Proofs.Ytbcfbbeefkdpoaa
