/- Plain laws: what the printed reference functions give: Heavy, Right, Small, Turned. -/
import Derived.Test.YtbcfbbeefkdpoaaPPolyTurnsx1
import Derived.Test.YtbcfbbeefkdpoaaPo
namespace Go.Proofs.Ytbcfbbeefkdpoaa
open Go.RowKit Go.Proofs.YtbcfbbeefkdpoaaW.PrintWords
set_option linter.unusedVariables false
set_option linter.unusedSimpArgs false

theorem wrap_small {i : Int} (h0 : -9223372036854775808 ≤ i) (h : i ≤ 9223372036854775807) : wrap64 i = i := by unfold wrap64; omega
theorem rd_L1_eq (l : List (List Int)) (i : Int) : PPolyTells.rd_L1 l i = l.getD i.toNat [] := rfl

theorem heavy_loop (l : List (List Int)) (hl : l.length ≤ 500) (d : Nat) : ∀ (k : Nat) (i : Int), 0 ≤ i → i ≤ l.length → (l.length : Int) - i = d → d < k → ∃ r, PPolyTells.pantileref28_Heavy.l0 k l i = some r := by
  induction d with
  | zero =>
    intro k i h0 h1 hd hk
    obtain ⟨k, rfl⟩ : ∃ m, k = m + 1 := ⟨k - 1, by omega⟩
    exact ⟨false, by simp only [PPolyTells.pantileref28_Heavy.l0]; rw [if_neg (by omega)]⟩
  | succ d ih =>
    intro k i h0 h1 hd hk
    obtain ⟨k, rfl⟩ : ∃ m, k = m + 1 := ⟨k - 1, by omega⟩
    simp only [PPolyTells.pantileref28_Heavy.l0]
    rw [if_pos (by omega), if_pos h0]
    split
    · exact ⟨true, rfl⟩
    · rw [wrap_small (by omega) (by omega)]
      exact ih k (i + 1) (by omega) (by omega) (by omega) (by omega)
theorem heavy_some (l : List (List Int)) : ∃ k r, PPolyTells.pantileref28_Heavy.f k l 60 = some r := by
  unfold PPolyTells.pantileref28_Heavy.f
  by_cases h5 : (l.length : Int) > 500
  · refine ⟨1, true, ?_⟩
    have h6 : ¬ (l.length : Int) ≤ 400 := by omega
    have h7 : (l.length : Int) > 60 := by omega
    rw [if_pos h7, if_neg h6, decide_eq_true h5]
    simp only [PPolyTells.pantileref28_Heavy.j0]; rfl
  · obtain ⟨r, hr⟩ := heavy_loop l (by omega) l.length (l.length + 1) 0 (by omega) (by omega) (by omega) (by omega)
    rw [decide_eq_false h5]
    refine ⟨l.length + 2, ?_⟩
    have hj : PPolyTells.pantileref28_Heavy.j0 (l.length + 2) l false = some r := by
      simp only [PPolyTells.pantileref28_Heavy.j0]; exact hr
    have hj2 : PPolyTells.pantileref28_Heavy.j0 (l.length + 2) l true = some true := by
      simp only [PPolyTells.pantileref28_Heavy.j0]; rfl
    split
    · split
      · exact ⟨_, hj2⟩
      · exact ⟨_, hj⟩
    · exact ⟨_, hj⟩

theorem small_some (xs : List Int) : PPolyTells.pantileref27_Small.f xs = some (okPt xs) := by
  unfold PPolyTells.pantileref27_Small.f okPt
  by_cases h : xs.length = 2
  · rw [if_pos (by omega), if_pos (by omega), if_pos (show 1 < (xs.length : Int) by omega)]
    simp only [h, decide_true, Bool.true_and]
    by_cases h0 : rd xs 0 < 1048576
    · rw [if_pos h0, decide_eq_true h0, Bool.true_and]
    · rw [if_neg h0, decide_eq_false h0, Bool.false_and]
  · rw [if_neg (by omega), decide_eq_false h, Bool.false_and, Bool.false_and]

theorem right_loop (l : List (List Int)) (hl : l.length ≤ 400) (d : Nat) : ∀ (k : Nat) (i : Nat), i ≤ l.length → l.length - i = d → d < k → PPolyTells.pantileref28_Right.l0 k l i = some ((l.drop i).all okPt) := by
  induction d with
  | zero =>
    intro k i h1 hd hk
    obtain ⟨k, rfl⟩ : ∃ m, k = m + 1 := ⟨k - 1, by omega⟩
    simp only [PPolyTells.pantileref28_Right.l0]; rw [if_neg (by omega), List.drop_of_length_le (by omega)]; rfl
  | succ d ih =>
    intro k i h1 hd hk
    obtain ⟨k, rfl⟩ : ∃ m, k = m + 1 := ⟨k - 1, by omega⟩
    have hi : i < l.length := by omega
    simp only [PPolyTells.pantileref28_Right.l0]
    rw [if_pos (by omega), if_pos (by omega), small_some]
    simp only [Option.bind_some]
    have e : PPolyTells.rd_L1 l i = l[i] := by
      rw [rd_L1_eq, Int.toNat_natCast, List.getD_eq_getElem?_getD, List.getElem?_eq_getElem hi]; rfl
    rw [e, List.drop_eq_getElem_cons hi, List.all_cons]
    cases h : okPt l[i] with
    | true =>
      simp only [if_true, Bool.true_and]
      have h2 : wrap64 ((i : Int) + 1) = ((i + 1 : Nat) : Int) := by rw [wrap_small (by omega) (by omega)]; omega
      rw [h2]
      exact ih k (i + 1) (by omega) (by omega) (by omega)
    | false => simp
theorem right_some (l : List (List Int)) : ∃ k, PPolyTells.pantileref28_Right.f k l = some (okRing l) := by
  unfold PPolyTells.pantileref28_Right.f okRing
  by_cases h3 : 3 ≤ l.length
  · have h3' : ¬ (l.length : Int) < 3 := by omega
    simp only [h3', if_false]
    by_cases h4 : l.length ≤ 400
    · refine ⟨l.length + 2, ?_⟩
      rw [decide_eq_false (show ¬ (l.length : Int) > 400 by omega)]
      simp only [PPolyTells.pantileref28_Right.j0]
      have := right_loop l h4 l.length (l.length + 1) 0 (by omega) (by omega) (by omega)
      simp only [h3, h4, decide_true, Bool.true_and]
      simpa using this
    · refine ⟨1, ?_⟩
      rw [decide_eq_true (show (l.length : Int) > 400 by omega)]
      simp only [PPolyTells.pantileref28_Right.j0]
      rw [decide_eq_false h4]; simp
  · have h3' : (l.length : Int) < 3 := by omega
    refine ⟨1, ?_⟩
    rw [if_pos h3']
    simp only [PPolyTells.pantileref28_Right.j0]
    rw [decide_eq_false h3]; simp

theorem turned_loop (l : List (List Int)) (hl : l.length ≤ 400) : ∀ (i k : Nat) (acc : List (List Int)), i ≤ l.length → i < k → acc.length + i = l.length → PPolyTurns.pantileref28_Turned.l0 k l acc ((i : Int) - 1) = some (acc ++ (l.take i).reverse) := by
  intro i
  induction i with
  | zero =>
    intro k acc h1 hk ha
    obtain ⟨k, rfl⟩ : ∃ m, k = m + 1 := ⟨k - 1, by omega⟩
    simp only [PPolyTurns.pantileref28_Turned.l0]
    rw [if_neg (by omega)]; simp
  | succ i ih =>
    intro k acc h1 hk ha
    obtain ⟨k, rfl⟩ : ∃ m, k = m + 1 := ⟨k - 1, by omega⟩
    have e0 : ((i + 1 : Nat) : Int) - 1 = (i : Int) := by omega
    have hi : i < l.length := by omega
    simp only [PPolyTurns.pantileref28_Turned.l0, e0]
    rw [if_pos (by omega), if_pos (by omega), if_pos (by omega), if_pos (by omega), wrap_small (by omega) (by omega)]
    have e : PPolyTurns.rd_L1 l i = l[i] := by
      show l.getD (i : Int).toNat [] = _
      rw [Int.toNat_natCast, List.getD_eq_getElem?_getD, List.getElem?_eq_getElem hi]; rfl
    rw [e, ih k _ (by omega) (by omega) (by simp; omega), List.take_succ_eq_append_getElem hi, List.reverse_append, List.append_assoc]
    rfl
theorem turned_some (l : List (List Int)) (hl : l.length ≤ 400) : ∃ k, PPolyTurns.pantileref28_Turned.f k l = some l.reverse := by
  refine ⟨l.length + 1, ?_⟩
  unfold PPolyTurns.pantileref28_Turned.f
  rw [wrap_small (by omega) (by omega), turned_loop l hl l.length (l.length + 1) [] (Nat.le_refl _) (by omega) (by simp)]
  simp
end Go.Proofs.Ytbcfbbeefkdpoaa
