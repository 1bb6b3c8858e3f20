/- The walks over package slots: from an address on, up to one, dense, check. -/
import Derived.Test.YtdjemmopecchmaaSm
namespace Go.Proofs.Ytdjemmopecchmaa
open Go.RowKit Go.Proofs.YtdjemmopecchmaaW.PrintWords Key
set_option linter.unusedVariables false
set_option linter.unusedSimpArgs false

/-- what From and UpTo give back -/
def resF : Option (Nat × Nat) → Value
  | some p => .tuple #[.int .i64 p.1, .pointer (some ⟨p.2, 0, none⟩), .bool true]
  | none => .tuple #[.int .i64 0, .pointer none, .bool false]

set_option maxRecDepth 100000 in
set_option maxHeartbeats 800000 in
theorem sFrom_any (s k n : Nat) (a : Int) (cs : List Cell) (M : List (Nat × Nat)) (w : World) (hs : SlAt w s k n cs) (hr : Rising cs) (hf : Full cs) (hM : pairs cs = M) (hlen : cs.length ≤ 65536) :
    Calls Try.prog 212 #[.pointer (some ⟨s, 0, none⟩), .int .i64 a] w fun e w' => e = .returned (resF (fromM M a)) ∧ Below w.heap.size w w' := by
  have HF := Lib.hid hf
  have HM := Lib.hid hM
  clear hf hM
  obtain ⟨A, cap, c2, h2, hg⟩ := hs.cells
  go_enter Try.func212, Try.ntmps212
  go_wp2_with fail
  refine (sfind_any s k n a cs w hs hr hlen).mono ?_
  rintro e w1 ⟨⟨at_, r, rfl, hP, hq⟩, hb⟩
  have HL : Hid (fromM M a = (pairs (cs.drop at_)).head?) := by unfold Hid; rw [← HM.out]; exact hP.from_
  have hat := hP.1
  clear hq hP hr
  go_wp2_with fail
  go_loopg [8] (cs.length - at_) (fun q v wr => ∃ m : Nat, m ≤ cs.length ∧ q + m = cs.length ∧ v = .int .i64 m ∧ fromM M a = (pairs (cs.drop m)).head? ∧ Below w.heap.size w wr)
  case atStart => exact ⟨at_, hat, by omega, rfl, HL.out, hb⟩
  case round =>
    obtain ⟨m, hm, hq, rfl, hx, hy⟩ := hrel
    have HG := Lib.hid hq
    have HX := Lib.hid hx
    clear hq hx HL
    have c2r := pw_cell_below hy c2
    by_cases hlt : m < cs.length
    · obtain ⟨g, rfl⟩ := hg (by omega)
      obtain ⟨d0, d1, d2⟩ := own_cells (pw_own_below h2 hy) m hlt
      cases hh : cs[m].has with
      | true =>
        obtain ⟨b, hxb⟩ := HF.out _ (List.getElem_mem hlt) hh
        have HR : Hid (fromM M a = some (cs[m].a, b)) := by unfold Hid; rw [HX.out, pairs_drop_has hlt hh hxb]; rfl
        rw [hh] at d2
        rw [hxb] at d1
        clear hh hxb
        go_wp2
        go_quiet (fail)
        go_wp2
        go_ret3
        exact ⟨by rw [HR.out]; rfl, pw_below_drewN (hy.alloc hy.size _) _⟩
      | false =>
        have HR : Hid (fromM M a = (pairs (cs.drop (m + 1))).head?) := by unfold Hid; rw [HX.out, pairs_drop_not hlt hh]
        rw [hh] at d2
        go_wp2
        go_roundg (gk - 1)
        case measure => have := HG.out; omega
        case rel => exact ⟨m + 1, by omega, by have := HG.out; omega, by go_num, HR.out, hy.alloc hy.size _⟩
    · have HR : Hid (fromM M a = none) := by unfold Hid; rw [HX.out, List.drop_eq_nil_of_le (by omega)]; rfl
      go_wp2
      go_ret3
      exact ⟨by rw [HR.out]; rfl, hy⟩
theorem sFrom_nil (a : Int) (w : World) : Calls Try.prog 212 #[.pointer none, .int .i64 a] w fun e w' => e = .returned (resF none) ∧ w = w' := by
  go_enter Try.func212, Try.ntmps212
  go_wp2
  go_ret3
  exact ⟨rfl, rfl⟩

theorem sDense_any (s k n : Nat) (cs : List Cell) (w : World) (hs : SlAt w s k n cs) (hn : n ≤ 65536) :
    Calls Try.prog 162 #[.pointer (some ⟨s, 0, none⟩)] w fun e w' => e = .returned (.bool (isDense k n)) ∧ ∃ n, w' = w.drewN n := by
  obtain ⟨h0, h1⟩ := hs.head
  go_enter Try.func162, Try.ntmps162
  go_wp2
  go_quiet ((go_at_call 215; exact Calls.quiet_of_same (((sDense0_any k n _ hn).mono (fun _ _ h => ⟨h.1, h.2.symm⟩)))))
  go_wp2
  go_ret
  exact ⟨rfl, _, rfl⟩
theorem sDense_nil (w : World) :
    Calls Try.prog 162 #[.pointer none] w fun e w' => e = .returned (.bool false) ∧ ∃ n, w' = w.drewN n := by
  go_enter Try.func162, Try.ntmps162
  go_wp2
  go_quiet (fail)
  go_wp2
  go_ret
  exact ⟨rfl, _, rfl⟩
theorem scheck_any (s k n : Nat) (a : Nat) (cs : List Cell) (w : World) (hs : SlAt w s k n cs) (hk : k ≤ 16) (ha : a < 2 ^ k) :
    Calls Try.prog 203 #[.pointer (some ⟨s, 0, none⟩), .int .i64 a] w fun e w' => e = .returned (.int .i64 0) ∧ w = w' := by
  obtain ⟨h0, h1⟩ := hs.head
  have hp : (2 : Nat) ^ k ≤ 2 ^ 16 := Nat.pow_le_pow_right (by omega) hk
  have hc : ((2 : Int) ^ k) = ((2 ^ k : Nat) : Int) := by simp
  have hw : wrap64 (2 ^ k) = ((2 ^ k : Nat) : Int) := by rw [hc]; unfold wrap64; omega
  have hd : decide (wrap64 (2 ^ k) ≤ (a : Int)) = false := by rw [hw]; exact decide_eq_false (by omega)
  clear hc hw
  go_enter Try.func203, Try.ntmps203
  go_wp2
  go_ret
  exact ⟨rfl, rfl⟩

set_option maxRecDepth 100000 in
set_option maxHeartbeats 800000 in
theorem sUpTo_any (s k n : Nat) (a : Int) (cs : List Cell) (M : List (Nat × Nat)) (w : World) (hs : SlAt w s k n cs) (hr : Rising cs) (hf : Full cs) (hM : pairs cs = M) (hlen : cs.length ≤ 65536) :
    Calls Try.prog 232 #[.pointer (some ⟨s, 0, none⟩), .int .i64 a] w fun e w' => e = .returned (resF (upToM M a)) ∧ Below w.heap.size w w' := by
  have HF := Lib.hid hf
  have HM := Lib.hid hM
  have HRI := Lib.hid hr
  clear hf hM
  obtain ⟨A, cap, c2, h2, hg⟩ := hs.cells
  go_enter Try.func232, Try.ntmps232
  go_wp2_with fail
  refine (sfind_any s k n a cs w hs hr hlen).mono ?_
  rintro e w1 ⟨⟨at_, r, rfl, hP, hq⟩, hb⟩
  have HP := Lib.hid hP
  have HQ := Lib.hid hq
  have hat := hP.1
  clear hq hP hr
  -- how many cells stand at or ahead of it, but for one without a thing
  have key : ∃ j : Nat, j ≤ cs.length ∧ (if r then (at_ : Int) else (at_ : Int) - 1) = (j : Int) - 1 ∧ upToM M a = (pairs (cs.take j)).getLast? := by
    cases r with
    | true =>
      obtain ⟨hlt, ha, hh⟩ := HQ.out.1 rfl
      refine ⟨at_ + 1, by omega, by simp, ?_⟩
      rw [← HM.out]
      refine HP.out.upTo HRI.out (at_ + 1) (by omega) ?_ ?_
      · intro i hi h1
        rcases Nat.lt_or_eq_of_le (Nat.le_of_lt_succ h1) with h1 | rfl
        · have := HP.out.2.1 i hi h1; omega
        · omega
      · intro i hi h1 _
        have := HRI.out at_ i hlt hi h1; omega
    | false =>
      refine ⟨at_, by omega, by simp, ?_⟩
      rw [← HM.out]
      refine HP.out.upTo HRI.out at_ (by omega) ?_ ?_
      · intro i hi h1
        have := HP.out.2.1 i hi h1; omega
      · intro i hi h1 hh
        have h3 := HP.out.2.2 i hi h1
        by_cases he : (cs[i].a : Int) = a
        · rcases Nat.lt_or_eq_of_le h1 with h1 | rfl
          · have h4 := HP.out.2.2 at_ (by omega) (Nat.le_refl _)
            have h5 := HRI.out at_ i (by omega) hi h1
            omega
          · exact absurd (HQ.out.2 ⟨hi, he, hh⟩) (by simp)
        · omega
  obtain ⟨j, hj, hje, hju⟩ := key
  have HJ := Lib.hid hju
  have HE := Lib.hid hje
  clear hju hje HQ HP HRI HM
  cases r
  all_goals
    have HE2 := HE.out
    simp only [if_true, Bool.false_eq_true, if_false] at HE2
    have HE3 := Lib.hid HE2
    clear HE2
    go_wp2_with fail
    go_loopg [8] j (fun q v wr => v = .int .i64 ((q : Int) - 1) ∧ q ≤ cs.length ∧ upToM M a = (pairs (cs.take q)).getLast? ∧ Below w.heap.size w wr)
    case atStart => exact ⟨congrArg (Value.int .i64) (by have := HE3.out; omega), hj, HJ.out, hb⟩
    case round =>
      obtain ⟨hv, hq, hx, hy⟩ := hrel
      have HX := Lib.hid hx
      clear hx HJ HE3 HE
      have c2r := pw_cell_below hy c2
      cases gk with
      | succ m =>
        have e : (((m + 1 : Nat) : Int) - 1) = (m : Int) := by omega
        rw [e] at hv
        subst hv
        clear e
        have hlt : m < cs.length := by omega
        obtain ⟨g, rfl⟩ := hg (by omega)
        obtain ⟨d0, d1, d2⟩ := own_cells (pw_own_below h2 hy) m hlt
        cases hh : cs[m].has with
        | true =>
          obtain ⟨b, hxb⟩ := HF.out _ (List.getElem_mem hlt) hh
          have HR : Hid (upToM M a = some (cs[m].a, b)) := by unfold Hid; rw [HX.out, pairs_take_has hlt hh hxb]; simp
          rw [hh] at d2
          rw [hxb] at d1
          clear hh hxb
          go_wp2
          go_quiet (fail)
          go_wp2
          go_ret3
          exact ⟨by rw [HR.out]; rfl, pw_below_drewN (hy.alloc hy.size _) _⟩
        | false =>
          have HR : Hid (upToM M a = (pairs (cs.take m)).getLast?) := by unfold Hid; rw [HX.out, pairs_take_not hlt hh]
          rw [hh] at d2
          go_wp2
          go_roundg m
          case measure => omega
          case rel => exact ⟨by first | rfl | trace_state, by omega, HR.out, hy.alloc hy.size _⟩
      | zero =>
        have HR : Hid (upToM M a = none) := by unfold Hid; rw [HX.out]; rfl
        subst hv
        go_wp2
        go_ret3
        exact ⟨by rw [HR.out]; rfl, hy⟩
theorem sUpTo_nil (a : Int) (w : World) : Calls Try.prog 232 #[.pointer none, .int .i64 a] w fun e w' => e = .returned (resF none) ∧ w = w' := by
  go_enter Try.func232, Try.ntmps232
  go_wp2
  go_ret3
  exact ⟨rfl, rfl⟩
end Go.Proofs.Ytdjemmopecchmaa
