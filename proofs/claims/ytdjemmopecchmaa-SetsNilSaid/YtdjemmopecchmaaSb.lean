/- The walks over slices.BinarySearchFunc at cells. -/
import Derived.Test.YtdjemmopecchmaaSk
namespace Go.Proofs.Ytdjemmopecchmaa
open Go.RowKit Go.Proofs.YtdjemmopecchmaaW.PrintWords Key
set_option linter.unusedVariables false
set_option linter.unusedSimpArgs false

theorem putcmp_any (a b : Nat) (x : Value) (h : Value) (w : World) (ha : a ≤ 65536) (hb : b ≤ 65536) (hx : x.oneCell' = true) (hh : h.oneCell' = true) :
    Calls Try.prog 206 #[.agg #[.int .i64 a, x, h], .int .i64 b] w fun e w' => e = .returned (.int .i64 ((a : Int) - b)) ∧ Below w.heap.size w w' := by
  go_enter Try.func206, Try.ntmps206
  go_wp2
  go_ret
  exact ⟨rfl, (Below.refl _ _).alloc (Nat.le_refl _) _⟩

set_option maxRecDepth 100000 in
set_option maxHeartbeats 800000 in
theorem bsearch_any (v : Value) (a : Nat) (cs : List Cell) (w : World) (ho : w.ownsRow 0 270 3 v cs.length (flat cs)) (hr : Rising cs) (hlen : cs.length ≤ 65536) (ha : a ≤ 65536) (hca : ∀ c ∈ cs, c.a ≤ 65536) :
    Calls Try.prog 205 #[v, .int .i64 a, .func (.func 206) #[] #[]] w fun e w' => (∃ (i : Nat) (r : Bool), e = .returned (.tuple #[.int .i64 i, .bool r]) ∧ Parts cs a i ∧ (r = true ↔ ∃ h : i < cs.length, cs[i].a = a)) ∧ Below w.heap.size w w' := by
  obtain ⟨A, cap, rfl⟩ := own_slice ho
  have hA : 0 < cs.length → ∃ g, A = some ⟨g, 0, none⟩ := by
    intro hp
    rcases ho.2 with ⟨h', h''⟩ | ⟨g', cap', cur, h', _⟩
    · omega
    · simp only [Value.slice.injEq] at h'; exact ⟨g', h'.1⟩
  have HR := Lib.hid hr
  have HC := Lib.hid hca
  clear hr hca
  go_enter Try.func205, Try.ntmps205
  go_wp2_with fail
  go_loopg [9, 10] (cs.length) (fun q vi vj wr => ∃ i j : Nat, vi = .int .i64 i ∧ vj = .int .i64 j ∧ i ≤ j ∧ j ≤ cs.length ∧ j - i = q ∧ (∀ q (h : q < cs.length), q < i → cs[q].a < a) ∧ (∀ q (h : q < cs.length), j ≤ q → a ≤ cs[q].a) ∧ Below w.heap.size w wr)
  case atStart => exact ⟨0, cs.length, rfl, rfl, by omega, Nat.le_refl _, rfl, fun q h hq => by omega, fun q h hq => by omega, Below.refl _ _⟩
  case round =>
    obtain ⟨i, j, rfl, rfl, hij, hj, hq, h6, h7, hb⟩ := hrel
    have HQ := Lib.hid hq
    have H6 := Lib.hid h6
    have H7 := Lib.hid h7
    clear hq h6 h7
    by_cases hlt : i < j
    · obtain ⟨g, rfl⟩ := hA (by omega)
      obtain ⟨m, hm⟩ : ∃ m : Nat, ((i : Int) + j) / 2 = m := ⟨(i + j) / 2, by omega⟩
      have hm1 : i ≤ m := by omega
      have hm2 : m < j := by omega
      have hm3 : m < cs.length := by omega
      obtain ⟨d0, d1, d2⟩ := own_cells (pw_own_below ho hb) m hm3
      have hcm := HC.out _ (List.getElem_mem hm3)
      by_cases hc : cs[m].a < a
      · go_wp2_with (go_at_call 206; refine (putcmp_any cs[m].a a _ _ _ hcm ha rfl rfl).mono ?_; rintro e w' ⟨rfl, hb2⟩)
        go_roundg (j - (m + 1))
        case measure => have := HQ.out; omega
        case rel =>
          refine ⟨m + 1, j, by go_num, rfl, by omega, hj, rfl, fun q h hq => ?_, H7.out, hb.trans (hb2.mono hb.size)⟩
          rcases Nat.lt_or_eq_of_le (Nat.le_of_lt_succ hq) with hq | rfl
          · have := HR.out q m h hm3 hq; omega
          · exact hc
      · go_wp2_with (go_at_call 206; refine (putcmp_any cs[m].a a _ _ _ hcm ha rfl rfl).mono ?_; rintro e w' ⟨rfl, hb2⟩)
        go_roundg (m - i)
        case measure => have := HQ.out; omega
        case rel =>
          refine ⟨i, m, rfl, rfl, by omega, by omega, rfl, H6.out, fun q h hq => ?_, hb.trans (hb2.mono hb.size)⟩
          rcases Nat.lt_or_eq_of_le hq with hq | rfl
          · have := HR.out m q hm3 h hq; omega
          · omega
    · have e : i = j := by omega
      subst e
      have hP : Parts cs a i := ⟨hj, fun q h hq => by have := H6.out q h hq; omega, fun q h hq => by have := H7.out q h hq; omega⟩
      have HP := Lib.hid hP
      clear hlt hP H6 H7
      by_cases hn : i < cs.length
      · obtain ⟨g, rfl⟩ := hA (by omega)
        obtain ⟨d0, d1, d2⟩ := own_cells (pw_own_below ho hb) i hn
        have hcm := HC.out _ (List.getElem_mem hn)
        go_wp2_with (go_at_call 206; refine (putcmp_any cs[i].a a _ _ _ hcm ha rfl rfl).mono ?_; rintro e w' ⟨rfl, hb2⟩)
        go_ret2
        refine ⟨⟨i, ((cs[i].a : Int) - a == 0), rfl, HP.out, ?_⟩, hb.trans (hb2.mono hb.size)⟩
        simp only [beq_iff_eq]
        exact ⟨fun h => ⟨hn, by omega⟩, fun ⟨_, h⟩ => by omega⟩
      · go_wp2
        go_ret2
        exact ⟨⟨i, false, rfl, HP.out, ⟨fun h => by simp at h, fun ⟨h, _⟩ => absurd h hn⟩⟩, hb⟩
end Go.Proofs.Ytdjemmopecchmaa
