/- Slots in memory; the walks over package slots. -/
import Derived.Test.YtdjemmopecchmaaProg
import Derived.Test.YtdjemmopecchmaaWWords
import Derived.Test.YtdjemmopecchmaaZb
import Derived.Test.YtdjemmopecchmaaGt
import Derived.Test.YtdjemmopecchmaaMa
import Derived.WalkKit
import Derived.WalkSpells
import Derived.WalkLawsBesides
import Derived.Deep.LoopGhost
import Derived.Deep.QuietTactic
import Derived.BigQuiet
import Derived.Lib.Hide
namespace Go.Proofs.Ytdjemmopecchmaa
open Go.RowKit Go.Proofs.YtdjemmopecchmaaW.PrintWords Key
set_option linter.unusedVariables false
set_option linter.unusedSimpArgs false

/-- a pointer to block b, or nil -/
abbrev ptr (b : Option Nat) : Value := .pointer (b.map fun b => ⟨b, 0, none⟩)
def Cell.row (c : Cell) : List Value := [.int .i64 c.a, ptr c.x, .bool c.has]
def flat (cs : List Cell) : List Value := cs.flatMap Cell.row
theorem flat_length (cs : List Cell) : (flat cs).length = cs.length * 3 := by
  induction cs with
  | nil => rfl
  | cons c cs ih => simp only [flat, List.flatMap_cons, List.length_append, List.length_cons] at *; simp only [Cell.row, List.length_cons, List.length_nil]; omega
theorem flat_append (a b : List Cell) : flat (a ++ b) = flat a ++ flat b := by simp [flat]
theorem flat_get (cs : List Cell) (i j : Nat) (hi : i < cs.length) (hj : j < 3) : (flat cs)[i * 3 + j]? = cs[i].row[j]? := by
  induction cs generalizing i with
  | nil => simp at hi
  | cons c cs ih =>
    have hc : (flat (c :: cs)) = c.row ++ flat cs := rfl
    have hl : c.row.length = 3 := rfl
    rw [hc]
    cases i with
    | zero => rw [List.getElem?_append_left (by omega)]; simp
    | succ i =>
      rw [List.getElem?_append_right (by omega), hl, show (i + 1) * 3 + j - 3 = i * 3 + j by omega]
      simpa using ih i (by simpa using hi)

/-- slots lie at block s: k bits, n things, these cells -/
def SlAt (w : World) (s : Nat) (k n : Nat) (cs : List Cell) : Prop :=
  ∃ A cap, w.heap[s]? = some (.cells #[.int .i64 k, .int .i64 n, .slice A cs.length cap] 266 (0, 0)) ∧ w.ownsRow 0 270 3 (.slice A cs.length cap) cs.length (flat cs)
theorem SlAt.below {w w' : World} {s k n : Nat} {cs : List Cell} (h : SlAt w s k n cs) (hb : Below w.heap.size w w') : SlAt w' s k n cs := by
  obtain ⟨A, cap, h1, h2⟩ := h
  exact ⟨A, cap, by rw [hb.block s (Array.getElem?_eq_some_iff.1 h1).1]; exact h1, pw_own_below h2 hb⟩
theorem cell_of_block {w : World} {b : Nat} {cs : Array Value} {t : TypeId} {fr : Nat × Nat} (h : w.heap[b]? = some (.cells cs t fr)) (j : Nat) : w.cell? ⟨b, j, none⟩ = cs[j]? := by
  unfold World.cell?; simp only [h]; rfl
theorem own_cells {w : World} {e n g cap base : Nat} {cs : List Cell} (h : w.ownsRow base e 3 (.slice (some ⟨g, 0, none⟩) n cap) n (flat cs)) (i : Nat) (hi : i < cs.length) :
    w.cell? ⟨g, i * 3, none⟩ = some (.int .i64 cs[i].a) ∧ w.cell? ⟨g, i * 3 + 1, none⟩ = some (ptr cs[i].x) ∧ w.cell? ⟨g, i * 3 + 2, none⟩ = some (.bool cs[i].has) := by
  have hl := h.1
  rw [flat_length] at hl
  refine ⟨?_, ?_, ?_⟩
  · rw [h.cellAt _ (by omega), show i * 3 = i * 3 + 0 by omega, flat_get cs i 0 hi (by omega)]; rfl
  · rw [h.cellAt _ (by omega), flat_get cs i 1 hi (by omega)]; rfl
  · rw [h.cellAt _ (by omega), flat_get cs i 2 hi (by omega)]; rfl

def findI (w0 : World) (s : Nat) (a : Int) (cs : List Cell) (g : Nat) (act : Act) (w : World) : Prop :=
  ∃ lo hi : Nat, ∃ u2 u3 u4 u5 u8 u9 u10 u11 u12 u13 u14 u15 u16 u17 u18 u19 u20 u21 u22 u23 u24 u25 u26 u27 u28 u29 u30 u31 u32 u33 u34 u35 u36 u37 u38 u39 u40 u41 u42 u43 u44 u45 u46 u47, act = { tmps := #[.pointer (some ⟨s, 0, none⟩), .int .i64 a, u2, u3, u4, u5, .int .i64 lo, .int .i64 hi, u8, u9, u10, u11, u12, u13, u14, u15, u16, u17, u18, u19, u20, u21, u22, u23, u24, u25, u26, u27, u28, u29, u30, u31, u32, u33, u34, u35, u36, u37, u38, u39, u40, u41, u42, u43, u44, u45, u46, u47], defers := [] } ∧ Below w0.heap.size w0 w ∧ lo ≤ hi ∧ hi ≤ cs.length ∧ hi - lo = g ∧
    (∀ i (h : i < cs.length), i < lo → (cs[i].a : Int) < a) ∧ (∀ i (h : i < cs.length), hi ≤ i → a < (cs[i].a : Int))

set_option maxHeartbeats 1000000 in
set_option maxRecDepth 100000 in
theorem sfind_any (s k n : Nat) (a : Int) (cs : List Cell) (w : World) (hs : SlAt w s k n cs) (hr : Rising cs) (hlen : cs.length ≤ 65536) :
    Calls Try.prog 216 #[.pointer (some ⟨s, 0, none⟩), .int .i64 a] w fun e w' => (∃ (at_ : Nat) (r : Bool), e = .returned (.tuple #[.int .i64 at_, .bool r]) ∧ Parts cs a at_ ∧ (r = true ↔ ∃ h : at_ < cs.length, (cs[at_].a : Int) = a ∧ cs[at_].has = true)) ∧ Below w.heap.size w w' := by
  have HS := Lib.hid hs
  obtain ⟨A, cap, h1, h2⟩ := hs
  have c2 : w.cell? ⟨s, 2, none⟩ = some (.slice A cs.length cap) := by rw [cell_of_block h1]; rfl
  go_enter Try.func216, Try.ntmps216
  go_wp2_with fail
  refine wp_scope_goto 0 (findI w s a cs) (by rfl) ?_ ?_
  · rintro g act wr ⟨lo, hi, u2, u3, u4, u5, u8, u9, u10, u11, u12, u13, u14, u15, u16, u17, u18, u19, u20, u21, u22, u23, u24, u25, u26, u27, u28, u29, u30, u31, u32, u33, u34, u35, u36, u37, u38, u39, u40, u41, u42, u43, u44, u45, u46, u47, rfl, hb, h3, h4, h5, h6, h7⟩
    by_cases hlt : lo < hi
    · have hnil : ∃ g, A = some ⟨g, 0, none⟩ := by
        rcases h2.2 with ⟨h', h''⟩ | ⟨g', cap', cur, h', _⟩
        · omega
        · simp only [Value.slice.injEq] at h'; exact ⟨g', h'.1⟩
      obtain ⟨gb, rfl⟩ := hnil
      have c2r : wr.cell? ⟨s, 2, none⟩ = some (.slice (some ⟨gb, 0, none⟩) cs.length cap) := pw_cell_below hb c2
      obtain ⟨m, hm⟩ : ∃ m : Nat, ((lo : Int) + hi) / 2 = m := ⟨(lo + hi) / 2, by omega⟩
      have hm1 : lo ≤ m := by omega
      have hm2 : m < hi := by omega
      have hm3 : m < cs.length := by omega
      obtain ⟨d0, d1, d2⟩ := own_cells (pw_own_below h2 (Below.mono hb (Nat.le_refl _))) m hm3
      go_wp2
      · have he : ((cs[m].a : Int) == a) = true := by assumption
        go_quiet (fail)
        go_wp2
        simp only [JumpTo]
        go_ret2
        have he' : (cs[m].a : Int) = a := by simpa using he
        refine ⟨⟨m, cs[m].has, rfl, ⟨by omega, fun i h hi => ?_, fun i h hi => ?_⟩, ⟨fun h => ⟨hm3, he', h⟩, fun h => h.2.2⟩⟩, pw_below_drewN (hb.alloc hb.size _) _⟩
        · have := hr i m h hm3 hi; omega
        · rcases Nat.lt_or_eq_of_le hi with hi | rfl
          · have := hr m i hm3 h hi; omega
          · omega
      · have he : (cs[m].a : Int) < a := by assumption
        go_step3
        refine ⟨rfl, hi - (m + 1), by omega, m + 1, hi, _, _, _, _, _, _, _, _, _, _, _, _, _, _, _, _, _, _, _, _, _, _, _, _, _, _, _, _, _, _, _, _, _, _, _, _, _, _, _, _, _, _, _, _, rfl, hb.alloc hb.size _, by omega, h4, rfl, fun i h hi => ?_, h7⟩
        rcases Nat.lt_or_eq_of_le (Nat.le_of_lt_succ hi) with hi | rfl
        · have := hr i m h hm3 hi; omega
        · exact he
      · have he : ¬ (cs[m].a : Int) < a := by first | assumption | (simp at *; omega)
        have hne : ((cs[m].a : Int) == a) = false := by assumption
        have hne' : (cs[m].a : Int) ≠ a := by simpa using hne
        go_step3
        refine ⟨rfl, m - lo, by omega, lo, m, _, _, _, _, _, _, _, _, _, _, _, _, _, _, _, _, _, _, _, _, _, _, _, _, _, _, _, _, _, _, _, _, _, _, _, _, _, _, _, _, _, _, _, _, rfl, hb.alloc hb.size _, by omega, by omega, rfl, h6, fun i h hi => ?_⟩
        rcases Nat.lt_or_eq_of_le hi with hi | rfl
        · have := hr m i hm3 h hi; omega
        · omega
    · go_wp2
      simp only [JumpTo]
      go_ret2
      have e1 : lo = hi := by omega
      subst e1
      refine ⟨⟨lo, false, rfl, ⟨h4, h6, fun i h hle => Int.le_of_lt (h7 i h hle)⟩, ⟨fun h => by simp at h, fun h => ?_⟩⟩, hb⟩
      obtain ⟨hl, he, _⟩ := h
      have := h7 lo hl (Nat.le_refl _)
      omega
  · intro go
    go_wp2_with fail
    go_quiet (fail)
    go_wp2_with fail
    go_step3
    go_step
    go_step
    exact go cs.length _ _ ⟨0, cs.length, _, _, _, _, _, _, _, _, _, _, _, _, _, _, _, _, _, _, _, _, _, _, _, _, _, _, _, _, _, _, _, _, _, _, _, _, _, _, _, _, _, _, _, _, rfl, Drawn0.below ⟨⟨nq, rfl⟩⟩, by omega, Nat.le_refl _, rfl, fun i h hi => by omega, fun i h hi => by omega⟩
end Go.Proofs.Ytdjemmopecchmaa
