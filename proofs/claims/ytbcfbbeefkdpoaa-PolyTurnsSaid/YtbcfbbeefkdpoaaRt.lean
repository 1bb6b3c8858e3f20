/- The statement PolyTurns: for every outline, every point and every place the call returns true, and its arguments read afterwards as they read before. No condition beyond the statement's own. -/
import Derived.Test.YtbcfbbeefkdpoaaRows
import Derived.Test.YtbcfbbeefkdpoaaTv
import Derived.WalkKit
import Derived.ProofKit
import Derived.OpenShut
import Derived.ShutString
import Derived.ChangeOld
import Derived.Below
import Derived.SizedLaws
import Derived.Deep.Matrix
namespace Go.Proofs.Ytbcfbbeefkdpoaa
open Go.ChangeShapes Go.WideShapes Go.RowKit Go.Proofs.YtbcfbbeefkdpoaaW.PrintWords
set_option linter.unusedVariables false
set_option linter.unusedSimpArgs false

theorem turns_any (A B : Option Addr) (c d : Nat) (l : List (List Int)) (p : List Int) (at_ : Int) (w : World) (hr : RR w A l) (hc : l.length ≤ c) (hc2 : c ≤ 9223372036854775807) (hn : Nats l) (hp : RU w B p) (hd : p.length ≤ d) (hpn : Nat0 p) :
    Calls Try.prog 3 #[.slice A l.length c, .slice B p.length d, .int .i64 at_] w fun e w' => e = .returned (.bool true) ∧ Below w.heap.size w w' := by
  obtain ⟨r, C6⟩ := heavy_c A c l w hr hc
  cases r with
  | true => exact turns_1 A B c d l p at_ w C6
  | false =>
    by_cases h60 : 60 < l.length
    · exact turns_2 A B c d l p at_ w C6 h60
    · cases hok : okRing l with
      | false =>
        have C7 := right_c A c l w hr hc
        rw [hok] at C7
        exact turns_3 A B c d l p at_ w C6 h60 C7
      | true =>
        cases hpk : okPt p with
        | false =>
          have C7 := right_c A c l w hr hc
          have C8 := small_c B d p w hp hd
          rw [hok] at C7
          rw [hpk] at C8
          exact turns_4 A B c d l p at_ w C6 h60 C7 C8
        | true =>
          by_cases ha : at_ < 0
          · have C7 := right_c A c l w hr hc
            have C8 := small_c B d p w hp hd
            rw [hok] at C7
            rw [hpk] at C8
            exact turns_5 A B c d l p at_ w C6 h60 C7 C8 ha
          · by_cases ha2 : (l.length : Int) ≤ at_
            · have C7 := right_c A c l w hr hc
              have C8 := small_c B d p w hp hd
              rw [hok] at C7
              rw [hpk] at C8
              exact turns_6 A B c d l p at_ w C6 h60 C7 C8 ha ha2
            · obtain ⟨m, rfl⟩ := Int.eq_ofNat_of_zero_le (show 0 ≤ at_ by omega)
              exact turns_7 A B c d l p m w hr hc hc2 hn hp hd hpn C6 h60 hok hpk (by omega)

/-- A row of numbers that is read. -/
theorem RU.of_cells {w : World} {A : Option Addr} {xs : List Int} (hl : xs.length ≤ 9223372036854775807) (h : 0 < xs.length → ∃ ad, A = some ad ∧ ∀ (j : Nat) (x : Int), xs[j]? = some x → w.cell? (ad.add j) = some (.int .u64 x)) : RU w A xs := by
  refine ⟨rfl, hl, fun hp => ?_⟩
  obtain ⟨ad, e, hc⟩ := h hp
  refine ⟨ad, e, fun j p hj => ⟨[.int .u64 p], rfl, rfl, fun i u hu => ?_⟩⟩
  have hi : i = 0 := by
    cases i with
    | zero => rfl
    | succ i => simp at hu
  subst hi
  obtain rfl : Value.int .u64 p = u := by simpa using hu
  have hsz : (Kd.int .u64).sz = 1 := rfl
  rw [hsz, Nat.mul_one, Nat.add_zero]
  exact hc j p hj
theorem RR.of_cells {w : World} {A : Option Addr} {l : List (List Int)} (hl : l.length ≤ 9223372036854775807) (h : 0 < l.length → ∃ ad, A = some ad ∧ ∀ (j : Nat) (xs : List Int), l[j]? = some xs → ∃ (B : Option Addr) (c : Nat), w.cell? (ad.add j) = some (Value.slice B xs.length c) ∧ xs.length ≤ c ∧ RU w B xs) : RR w A l := by
  refine ⟨rfl, hl, fun hp => ?_⟩
  obtain ⟨ad, e, hc⟩ := h hp
  refine ⟨ad, e, fun j xs hj => ?_⟩
  obtain ⟨B, c, h1, h2, h3⟩ := hc j xs hj
  refine ⟨[.slice B xs.length c], rfl, ⟨B, c, rfl, h2, h3⟩, fun i u hu => ?_⟩
  have hi : i = 0 := by
    cases i with
    | zero => rfl
    | succ i => simp at hu
  subst hi
  obtain rfl : Value.slice B xs.length c = u := by simpa using hu
  have hsz : (Kd.slice 43 (Kd.int .u64)).sz = 1 := rfl
  rw [hsz, Nat.mul_one, Nat.add_zero]
  exact h1

theorem u64_nonneg {n : Int} (h : (Lit.int .u64 n).wf = true) : 0 ≤ n := by
  simp only [Lit.wf, Bool.and_eq_true, decide_eq_true_eq] at h
  have := h.1
  rwa [show IntKind.u64.min = 0 by decide] at this

/-- What an argument of type []uint64 is. -/
def IsPt (W : World) (A : Option Addr) (len cap : Nat) : Prop := ∃ xs : List Int, len = xs.length ∧ xs.length ≤ cap ∧ Nat0 xs ∧ RU W A xs
/-- What an argument of type [][]uint64 is. -/
def IsPts (W : World) (A : Option Addr) (len cap : Nat) : Prop := ∃ l : List (List Int), len = l.length ∧ l.length ≤ cap ∧ cap ≤ 9223372036854775807 ∧ Nats l ∧ RR W A l

theorem open_pt {H : Type} {enc : TypeId × Value → H} {W : World} {held : Bool} {fuel : Nat} {A : Option Addr} {len cap : Nat} {x : DataW H × List MemPlace} (h : DataW.trod enc Try.prog W 0 (fun _ => true) held fuel 23 [.slice A len cap] = some x) : IsPt W A len cap := by
  rcases open_ints Try.underlying23 Try.underlying43 (by kernel_rfl) h with ⟨hcs, _⟩ | ⟨a, l, c, zs, hcs, _, hl, hm, hz, _, hcell, hwz⟩
  · simp at hcs
    obtain ⟨rfl, rfl, rfl⟩ := hcs
    exact ⟨[], rfl, Nat.le_refl _, fun n hn => by simp at hn, RU.of_cells (by simp) (fun h => by simp at h)⟩
  · simp at hcs
    obtain ⟨rfl, rfl, rfl⟩ := hcs
    have hz' : zs.length = cap := by simpa using hz
    unfold maxLen at hm
    refine ⟨zs.take len, by rw [List.length_take]; omega, by rw [List.length_take]; omega, fun n hn => u64_nonneg (hwz n (List.mem_of_mem_take hn)), RU.of_cells (by rw [List.length_take]; omega) (fun _ => ⟨a, rfl, fun j y hj => ?_⟩)⟩
    have hj2 : zs[j]? = some y := by
      rw [List.getElem?_take] at hj
      by_cases h : j < len
      · rw [if_pos h] at hj; exact hj
      · rw [if_neg h] at hj; cases hj
    have := hcell j (List.getElem?_eq_some_iff.1 hj2).1
    rw [List.getD_eq_getElem?_getD, hj2] at this
    exact this

theorem open_pts {H : Type} {enc : TypeId × Value → H} {W : World} {held : Bool} {fuel : Nat} {A : Option Addr} {len cap : Nat} {x : DataW H × List MemPlace} (h : DataW.trod enc Try.prog W 0 (fun _ => true) held fuel 22 [.slice A len cap] = some x) : IsPts W A len cap := by
  rcases Go.Deep.open_int_rows Try.underlying22 Try.underlying23 Try.underlying43 (by kernel_rfl) (by kernel_rfl) h with ⟨hcs, _⟩ | ⟨a, l, c, FA, FL, FC, FZ, hcs, _, hl, hm, _, hrow⟩
  · simp at hcs
    obtain ⟨rfl, rfl, rfl⟩ := hcs
    exact ⟨[], rfl, Nat.le_refl _, by omega, fun n hn => by simp at hn, RR.of_cells (by simp) (fun h => by simp at h)⟩
  · simp at hcs
    obtain ⟨rfl, rfl, rfl⟩ := hcs
    unfold maxLen at hm
    refine ⟨(List.range len).map fun r => (FZ r).take (FL r), by simp, by simpa using hl, hm, ?_, RR.of_cells (by simp; omega) (fun _ => ⟨a, rfl, fun j xs hj => ?_⟩)⟩
    · intro xs hx n hn
      obtain ⟨r, hr, rfl⟩ := List.mem_map.1 hx
      have hr' : r < len := List.mem_range.1 hr
      obtain ⟨_, _, _, _, hw, _⟩ := hrow r (by omega)
      exact u64_nonneg (hw n (List.mem_of_mem_take hn))
    · have hj' : j < len := by have := (List.getElem?_eq_some_iff.1 hj).1; simpa using this
      rw [List.getElem?_map, List.getElem?_range hj'] at hj
      obtain rfl : (FZ j).take (FL j) = xs := by simpa using hj
      obtain ⟨h1, h2, h3, h4, hw, hnil, hcell⟩ := hrow j (by omega)
      unfold maxLen at h3
      have hlen : ((FZ j).take (FL j)).length = FL j := by rw [List.length_take]; omega
      refine ⟨FA j, FC j, by rw [hlen]; exact h1, by rw [hlen]; exact h2, RU.of_cells (by rw [hlen]; omega) (fun hp => ?_)⟩
      rw [hlen] at hp
      cases hA : FA j with
      | none => have := hnil hA; omega
      | some ad =>
        refine ⟨ad, rfl, fun i y hi => ?_⟩
        have hi2 : (FZ j)[i]? = some y := by
          rw [List.getElem?_take] at hi
          by_cases h : i < FL j
          · rw [if_pos h] at hi; exact hi
          · rw [if_neg h] at hi; cases hi
        have := (hcell ad hA).2 i (by have := (List.getElem?_eq_some_iff.1 hi2).1; omega)
        rw [List.getD_eq_getElem?_getD, hi2] at this
        exact this
end Go.Proofs.Ytbcfbbeefkdpoaa
namespace Go.Proofs.Ytbcfbbeefkdpoaa.polyTurns
open Go.ChangeShapes Go.WideShapes Go.ChangeAt Go.RowKit
set_option linter.unusedVariables false
theorem own : ownKnob Try.prog.godebug = none := by kernel_rfl
theorem laidOut : laidOutB Try.prog = true := by kernel_rfl
set_option maxRecDepth 100000 in
theorem lifted (os : Os) (started : os.Started) (H : Type) (enc : TypeId × Value → H) :
    ReturnsInHanded {} Try.checked os 3 .any (Rows.polyTurnsSpec.pre6 enc Try.prog Try.f3 Rows.polyTurnsRow.domain false) (Rows.polyTurnsSpec.post enc Try.prog Try.f3 false true false false) := by
  refine returnsInHanded_of_change_sized (C := Try.checked) own started (by kernel_rfl) Try.func3
    (ChangeSpec.witness6 (enc := enc) (C := Try.checked) false ⟨#[], #[.slice none 0 0, .slice none 0 0, .int .i64 0], []⟩ 8 (by kernel_rfl) (by kernel_rfl) (by kernel_rfl) (by kernel_rfl)) ?_
  intro W base args ds gs before hval0 hW hcnd hsz0 _
  have hval : ∀ (j : Nat) t v, Try.f3.params[j]? = some t → args[j]? = some v → Value.okWide Try.prog W .any base t v := hval0
  have hW' := hW
  obtain ⟨p, q, hA0, hV, rfl, hfz, hnd⟩ := hW
  have hA : DataW.TrodAll enc Try.prog W 0 (fun _ => true) true Try.f3.params.toList args.toList ds p := hA0
  rw [Try.params3] at hA hval
  obtain ⟨v0, vs0, d0, ds0, p0, q0, hargs, rfl, rfl, h0, r0⟩ := trodAll_cons hA
  obtain ⟨v1, vs1, d1, ds1, p1, q1, rfl, rfl, rfl, h1, r1⟩ := trodAll_cons r0
  obtain ⟨v2, vs2, d2, ds2, p2, q2, rfl, rfl, rfl, h2, r2⟩ := trodAll_cons r1
  obtain ⟨rfl, rfl, rfl⟩ := trodAll_nil r2
  obtain rfl : args = #[v0, v1, v2] := by cases args; simp_all
  obtain ⟨rfl, rfl⟩ := trodVars_none hV
  obtain ⟨a0, len0, cap0, rfl⟩ := okWide_slice Try.underlying22 (hval 0 22 v0 rfl rfl)
  have k0 := h0
  have lt0 : ∀ x ∈ p0, x.block < W.heap.size := by obtain ⟨m, hm⟩ := k0; exact DataW.trod_lt m _ _ _ hm
  obtain ⟨l, rfl, hl1, hl2, hl3, hl4⟩ : IsPts W a0 len0 cap0 := by obtain ⟨fuel, hf⟩ := h0; exact open_pts hf
  obtain ⟨a1, len1, cap1, rfl⟩ := okWide_slice Try.underlying23 (hval 1 23 v1 rfl rfl)
  have k1 := h1
  have lt1 : ∀ x ∈ p1, x.block < W.heap.size := by obtain ⟨m, hm⟩ := k1; exact DataW.trod_lt m _ _ _ hm
  obtain ⟨pp, rfl, hp1, hp2, hp3⟩ : IsPt W a1 len1 cap1 := by obtain ⟨fuel, hf⟩ := h1; exact open_pt hf
  obtain ⟨a2, rfl, rfl, rfl, w2⟩ := open_int Try.underlying3 (hval 2 3 v2 rfl rfl) h2
  clear hA0 hval0 hsz0
  refine (turns_any a0 a1 cap0 cap1 l pp a2 W hl4 hl1 hl2 hl3 hp3 hp1 hp2).mono fun e W' ⟨he, bel⟩ => ?_
  subst he
  exact ⟨_, rfl, _, _, _, [], _, [], hW', trodAll_mk1 (shut_bool Try.underlying4 _), (trodAll_cons_mk (Below.trod laidOut (by kernel_rfl) (of_decide_eq_true (by kernel_rfl)) k0 bel lt0) (trodAll_cons_mk (Below.trod laidOut (by kernel_rfl) (of_decide_eq_true (by kernel_rfl)) k1 bel lt1) (trodAll_cons_mk (shut_int Try.underlying3 w2) trodAll_mk0))), rfl, bel.frame _, fun h => by cases h⟩
theorem over : Rows.polyTurnsRow.holds Try.pinned (OpenSpec.ofChange Rows.polyTurnsSpec) :=
  OpenClaim.holds_of_wide 3 Try.f3 rfl rfl rfl rfl rfl rfl rfl ⟨rfl, rfl, rfl, rfl, rfl⟩ rfl rfl rfl rfl rfl (by kernel_rfl) Try.func3 (by kernel_rfl)
    (of_decide_eq_true (by kernel_rfl)) (by unfold Func.isWrapper; first | (rw [if_pos (by decide +kernel)]; kernel_rfl) | (rw [if_neg (by decide +kernel)]; exact ⟨rfl, rfl⟩))
    (fun os started H enc _ => lifted os started H enc)
end Go.Proofs.Ytbcfbbeefkdpoaa.polyTurns
namespace Go.Proofs.Ytbcfbbeefkdpoaa
/-- PolyTurns holds. -/
theorem polyTurns_holds : Rows.PolyTurnsSaid := polyTurns.over
#print axioms polyTurns_holds
end Go.Proofs.Ytbcfbbeefkdpoaa
