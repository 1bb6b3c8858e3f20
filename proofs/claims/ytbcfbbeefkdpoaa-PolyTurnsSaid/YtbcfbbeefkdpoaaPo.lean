/- The walks over poly.On, poly.Winds. -/
import Derived.Test.YtbcfbbeefkdpoaaWi
namespace Go.Proofs.Ytbcfbbeefkdpoaa
open Go.RowKit Go.Proofs.YtbcfbbeefkdpoaaW.PrintWords Fl
set_option linter.unusedVariables false
set_option linter.unusedSimpArgs false

theorem RingAt.below {w w1 : World} {g : Nat} {ps : List (Int × Int)} (h : RingAt w g ps) (hb : Below w.heap.size w w1) : RingAt w1 g ps :=
  ⟨Nat.lt_of_lt_of_le h.1 hb.size, fun j p hj => by obtain ⟨v, hv, hc⟩ := h.2 j p hj; exact ⟨v, pw_cell_below hb hv, hc⟩⟩

theorem pOn_no (A : Option Addr) (c : Nat) (l : List (List Int)) (v : Value) (w : World) (hr : RR w A l) (hn : Nats l) (hok : okRing l = false) :
    Calls Try.prog 12 #[.slice A l.length c, v] w fun e w' => e = .returned (.tuple #[.bool false, .int .i64 9]) ∧ Below w.heap.size w w' := by
  have C1 := open_no A c l w hr hn hok
  clear hr hn hok
  go_enter Try.func12, Try.ntmps12
  go_wp2_with (go_at_call 17; refine C1.mono ?_; rintro e w' ⟨rfl, hb⟩)
  go_ret2
  exact ⟨rfl, hb⟩

theorem pOn_pt (A B : Option Addr) (c d : Nat) (l : List (List Int)) (xs : List Int) (w : World) (hr : RR w A l) (hn : Nats l) (hok : okRing l = true) (hx : RU w B xs) (hd : xs.length ≤ d) (hxn : Nat0 xs) (hno : okPt xs = false) :
    Calls Try.prog 12 #[.slice A l.length c, .slice B xs.length d] w fun e w' => e = .returned (.tuple #[.bool false, .int .i64 (numCode xs)]) ∧ Below w.heap.size w w' := by
  have C1 := open_yes A c l w hr hn hok
  have C2 := fun (W : World) (hW : Below w.heap.size w W) => number_no B xs d W (Kd.C_below hx hW) hd hxn hno
  have hne : (numCode xs != 0) = true := by simp [numCode_ne]
  obtain ⟨k, hk⟩ : ∃ k, numCode xs = k := ⟨_, rfl⟩
  rw [hk] at C2 hne ⊢
  clear hr hn hok hx hd hxn hno hk
  go_enter Try.func12, Try.ntmps12
  go_wp2_with (fail)
  refine C1.mono ?_
  rintro e w1 ⟨g, rfl, hg, hb⟩
  have HG := Lib.hid hg
  have C3 := C2 w1 hb
  clear hg C1 C2
  go_wp2_with (fail)
  refine C3.mono ?_
  rintro e w2 ⟨rfl, hb2⟩
  clear C3
  go_wp2
  go_ret2
  exact ⟨rfl, hb.trans (hb2.mono hb.size)⟩

theorem pOn_yes (A B : Option Addr) (c d : Nat) (l : List (List Int)) (xs : List Int) (w : World) (hr : RR w A l) (hn : Nats l) (hok : okRing l = true) (hx : RU w B xs) (hd : xs.length ≤ d) (hxn : Nat0 xs) (hyes : okPt xs = true) :
    Calls Try.prog 12 #[.slice A l.length c, .slice B xs.length d] w fun e w' => e = .returned (.tuple #[.bool (onRing (l.map pt) (pt xs)), .int .i64 0]) ∧ Below w.heap.size w w' := by
  have C1 := open_yes A c l w hr hn hok
  have C2 := fun (W : World) (hW : Below w.heap.size w W) => number_ok B xs d W (Kd.C_below hx hW) hd hxn hyes
  have hlen := okRing_len hok
  have C3 := fun (W : World) (g a b : Nat) (hg : RingAt W g (l.map pt)) (hz : CxIs a b (pt xs)) => ringOn_any g l.length a b (l.map pt) (pt xs) W hg (by rw [List.length_map]) (by omega) (by omega) (okRing_sm hok hn) hz (okPt_sm hyes hxn)
  clear hr hn hok hx hd hxn hyes hlen
  go_enter Try.func12, Try.ntmps12
  go_wp2_with (fail)
  refine C1.mono ?_
  rintro e w1 ⟨g, rfl, hg, hb⟩
  have HG := Lib.hid hg
  have C4 := C2 w1 hb
  clear hg C1 C2
  go_wp2_with (fail)
  refine C4.mono ?_
  rintro e w2 ⟨⟨a, b, hab, rfl⟩, hb2⟩
  have C5 := C3 w2 g a b (HG.out.below hb2) hab
  clear C4 C3 hab
  go_wp2_with (go_at_call 22; refine C5.mono ?_; rintro e w3 ⟨rfl, hb3⟩)
  go_ret2
  exact ⟨rfl, (hb.trans (hb2.mono hb.size)).trans (hb3.mono (hb.trans (hb2.mono hb.size)).size)⟩

theorem pWinds_no (A : Option Addr) (c : Nat) (l : List (List Int)) (v : Value) (w : World) (hr : RR w A l) (hn : Nats l) (hok : okRing l = false) :
    Calls Try.prog 11 #[.slice A l.length c, v] w fun e w' => e = .returned (.tuple #[.int .i64 0, .int .i64 9]) ∧ Below w.heap.size w w' := by
  have C1 := pOn_no A c l v w hr hn hok
  clear hr hn hok
  go_enter Try.func11, Try.ntmps11
  go_wp2_with (go_at_call 12; refine C1.mono ?_; rintro e w' ⟨rfl, hb⟩)
  go_ret2
  exact ⟨rfl, hb⟩
theorem pWinds_pt (A B : Option Addr) (c d : Nat) (l : List (List Int)) (xs : List Int) (w : World) (hr : RR w A l) (hn : Nats l) (hok : okRing l = true) (hx : RU w B xs) (hd : xs.length ≤ d) (hxn : Nat0 xs) (hno : okPt xs = false) :
    Calls Try.prog 11 #[.slice A l.length c, .slice B xs.length d] w fun e w' => e = .returned (.tuple #[.int .i64 0, .int .i64 (numCode xs)]) ∧ Below w.heap.size w w' := by
  have C1 := pOn_pt A B c d l xs w hr hn hok hx hd hxn hno
  have hne : (numCode xs != 0) = true := by simp [numCode_ne]
  obtain ⟨k, hk⟩ : ∃ k, numCode xs = k := ⟨_, rfl⟩
  rw [hk] at C1 hne ⊢
  clear hr hn hok hx hd hxn hno hk
  go_enter Try.func11, Try.ntmps11
  go_wp2_with (go_at_call 12; refine C1.mono ?_; rintro e w' ⟨rfl, hb⟩)
  go_ret2
  exact ⟨rfl, hb⟩

/-- How often a ring winds around a point. -/
def windsAt (ps : List (Int × Int)) (z : Int × Int) : Int := if onRing ps z then 0 else windsOf ps z

theorem pWinds_yes (A B : Option Addr) (c d : Nat) (l : List (List Int)) (xs : List Int) (w : World) (hr : RR w A l) (hn : Nats l) (hok : okRing l = true) (hx : RU w B xs) (hd : xs.length ≤ d) (hxn : Nat0 xs) (hyes : okPt xs = true) :
    Calls Try.prog 11 #[.slice A l.length c, .slice B xs.length d] w fun e w' => e = .returned (.tuple #[.int .i64 (windsAt (l.map pt) (pt xs)), .int .i64 0]) ∧ Below w.heap.size w w' := by
  have C0 := pOn_yes A B c d l xs w hr hn hok hx hd hxn hyes
  cases hon : onRing (l.map pt) (pt xs) with
  | true =>
    have e : windsAt (l.map pt) (pt xs) = 0 := by unfold windsAt; rw [hon]; rfl
    rw [hon] at C0
    rw [e]
    clear hr hn hok hx hd hxn hyes hon e
    go_enter Try.func11, Try.ntmps11
    go_wp2_with (go_at_call 12; refine C0.mono ?_; rintro e w' ⟨rfl, hb⟩)
    go_ret2
    exact ⟨rfl, hb⟩
  | false =>
    have e : windsAt (l.map pt) (pt xs) = windsOf (l.map pt) (pt xs) := by unfold windsAt; rw [hon]; rfl
    rw [hon] at C0
    rw [e]
    have C1 := fun (W : World) (hW : Below w.heap.size w W) => open_yes A c l W (Kd.C_below hr hW) hn hok
    have C2 := fun (W : World) (hW : Below w.heap.size w W) => number_ok B xs d W (Kd.C_below hx hW) hd hxn hyes
    have hlen := okRing_len hok
    have C3 := fun (W : World) (g a b : Nat) (hg : RingAt W g (l.map pt)) (hz : CxIs a b (pt xs)) => winds_any g l.length a b (l.map pt) (pt xs) W hg (by rw [List.length_map]) (by omega) (by omega) (okRing_sm hok hn) hz (okPt_sm hyes hxn)
    clear hr hn hok hx hd hxn hyes hlen hon e
    go_enter Try.func11, Try.ntmps11
    go_wp2_with (fail)
    refine C0.mono ?_
    rintro e w1 ⟨rfl, hb⟩
    have C4 := C1 w1 hb
    clear C0 C1
    go_wp2_with (fail)
    refine C4.mono ?_
    rintro e w2 ⟨g, rfl, hg, hb2⟩
    have hb3 := hb.trans (hb2.mono hb.size)
    have C5 := C2 w2 hb3
    have HG := Lib.hid hg
    clear hg C4 C2
    go_wp2_with (fail)
    refine C5.mono ?_
    rintro e w3 ⟨⟨a, b, hab, rfl⟩, hb4⟩
    have C6 := C3 w3 g a b (HG.out.below hb4) hab
    have hb5 := hb3.trans (hb4.mono hb3.size)
    clear C5 C3 hab hb hb2
    go_wp2_with (fail)
    refine C6.mono ?_
    rintro e w4 ⟨rfl, hb6⟩
    clear C6
    go_wp2
    go_ret2
    exact ⟨rfl, hb5.trans (hb6.mono hb5.size)⟩
end Go.Proofs.Ytbcfbbeefkdpoaa
