/- Plain laws: a ring's sides, the other way round, begun at another point. -/
import Derived.Test.YtbcfbbeefkdpoaaPo
namespace Go.Proofs.Ytbcfbbeefkdpoaa
set_option linter.unusedVariables false
set_option linter.unusedSimpArgs false

abbrev Pt := Int × Int
/-- Neighbours in a list. -/
def chain : List Pt → List (Pt × Pt)
  | a :: b :: r => (a, b) :: chain (b :: r)
  | _ => []
def lastOf (l : List Pt) : Pt := l.getLastD (0, 0)
/-- The sides, the one that leads to the first point ahead. -/
def sd (l : List Pt) : List (Pt × Pt) := chain (lastOf l :: l)

theorem chain_length : ∀ l : List Pt, (chain l).length = l.length - 1
  | [] => rfl
  | [_] => rfl
  | a :: b :: r => by
    have := chain_length (b :: r)
    simp only [chain, List.length_cons, this]; omega
theorem chain_get : ∀ (l : List Pt) (k : Nat), k + 1 < l.length → (chain l)[k]? = some (l.getD k (0, 0), l.getD (k + 1) (0, 0))
  | [], k, h => by simp at h
  | [_], k, h => by simp at h
  | a :: b :: r, 0, h => rfl
  | a :: b :: r, k + 1, h => by
    have := chain_get (b :: r) k (by simpa using h)
    simpa [chain] using this
theorem chain_snoc : ∀ (l : List Pt) (a b : Pt), chain (l ++ [a, b]) = chain (l ++ [a]) ++ [(a, b)]
  | [], a, b => rfl
  | [x], a, b => rfl
  | x :: y :: r, a, b => by
    have := chain_snoc (y :: r) a b
    simp only [List.cons_append] at this ⊢
    simp only [chain, this, List.cons_append]
theorem chain_append : ∀ (l r : List Pt) (a b : Pt), chain (l ++ a :: b :: r) = chain (l ++ [a]) ++ (a, b) :: chain (b :: r)
  | [], r, a, b => rfl
  | [x], r, a, b => rfl
  | x :: y :: l, r, a, b => by
    have := chain_append (y :: l) r a b
    simp only [List.cons_append] at this ⊢
    simp only [chain, this, List.cons_append]
theorem chain_reverse : ∀ l : List Pt, chain l.reverse = ((chain l).map fun s => (s.2, s.1)).reverse
  | [] => rfl
  | [_] => rfl
  | a :: b :: r => by
    have h := chain_reverse (b :: r)
    rw [List.reverse_cons] at h
    rw [List.reverse_cons, List.reverse_cons, List.append_assoc]
    show chain (r.reverse ++ [b, a]) = _
    rw [chain_snoc, h]
    simp [chain]

theorem lastOf_append (l : List Pt) (a : Pt) : lastOf (l ++ [a]) = a := by simp [lastOf]
theorem snoc_of (l : List Pt) (h : l ≠ []) : ∃ m, l = m ++ [lastOf l] := by
  refine ⟨l.dropLast, ?_⟩
  have e : lastOf l = l.getLast h := by unfold lastOf; rw [List.getLastD_eq_getLast?, List.getLast?_eq_some_getLast h]; rfl
  rw [e, List.dropLast_concat_getLast h]

theorem sd_turned (l : List Pt) : (sd l.reverse).Perm ((sd l).map fun s => (s.2, s.1)) := by
  cases l with
  | nil => exact .refl _
  | cons x r =>
    have hl : lastOf (x :: r).reverse = x := by rw [List.reverse_cons, lastOf_append]
    obtain ⟨m, hm⟩ := snoc_of (x :: r) (by simp)
    have e1 : x :: (x :: r).reverse = ((x :: r) ++ [x]).reverse := by simp
    unfold sd
    rw [hl, e1, chain_reverse]
    refine (List.reverse_perm _).trans (List.Perm.map _ ?_)
    have e2 : (x :: r) ++ [x] = m ++ [lastOf (x :: r), x] := by
      calc (x :: r) ++ [x] = (m ++ [lastOf (x :: r)]) ++ [x] := by rw [← hm]
        _ = _ := by simp
    have e3 : chain (m ++ [lastOf (x :: r)]) = chain (x :: r) := by rw [← hm]
    rw [e2, chain_snoc, e3]
    exact List.perm_append_comm
theorem sd_moved (A B : List Pt) : (sd (B ++ A)).Perm (sd (A ++ B)) := by
  cases A with
  | nil => simp
  | cons a A =>
    cases B with
    | nil => simp
    | cons b B =>
      obtain ⟨m, hm⟩ := snoc_of (a :: A) (by simp)
      obtain ⟨n, hn⟩ := snoc_of (b :: B) (by simp)
      have l1 : lastOf ((b :: B) ++ (a :: A)) = lastOf (a :: A) := by
        have : (b :: B) ++ (a :: A) = ((b :: B) ++ m) ++ [lastOf (a :: A)] := by rw [List.append_assoc, ← hm]
        rw [this, lastOf_append]
      have l2 : lastOf ((a :: A) ++ (b :: B)) = lastOf (b :: B) := by
        have : (a :: A) ++ (b :: B) = ((a :: A) ++ n) ++ [lastOf (b :: B)] := by rw [List.append_assoc, ← hn]
        rw [this, lastOf_append]
      have f1 : chain (lastOf (a :: A) :: ((b :: B) ++ (a :: A))) = (lastOf (a :: A), b) :: (chain (b :: B) ++ (lastOf (b :: B), a) :: chain (a :: A)) := by
        have e : (b :: B) ++ (a :: A) = n ++ lastOf (b :: B) :: a :: A := by
          calc (b :: B) ++ (a :: A) = (n ++ [lastOf (b :: B)]) ++ (a :: A) := by rw [← hn]
            _ = _ := by simp
        show (lastOf (a :: A), b) :: chain ((b :: B) ++ (a :: A)) = _
        rw [e, chain_append, ← hn]
      have f2 : chain (lastOf (b :: B) :: ((a :: A) ++ (b :: B))) = (lastOf (b :: B), a) :: (chain (a :: A) ++ (lastOf (a :: A), b) :: chain (b :: B)) := by
        have e : (a :: A) ++ (b :: B) = m ++ lastOf (a :: A) :: b :: B := by
          calc (a :: A) ++ (b :: B) = (m ++ [lastOf (a :: A)]) ++ (b :: B) := by rw [← hm]
            _ = _ := by simp
        show (lastOf (b :: B), a) :: chain ((a :: A) ++ (b :: B)) = _
        rw [e, chain_append, ← hm]
      unfold sd
      rw [l1, l2, f1, f2]
      exact (List.perm_append_comm (l₁ := (lastOf (a :: A), b) :: chain (b :: B)) (l₂ := (lastOf (b :: B), a) :: chain (a :: A)))

def sumOf (F : Pt × Pt → Int) (S : List (Pt × Pt)) : Int := (S.map F).foldr (· + ·) 0
theorem sumOf_cons (F : Pt × Pt → Int) (s : Pt × Pt) (S : List (Pt × Pt)) : sumOf F (s :: S) = F s + sumOf F S := rfl
theorem sumOf_perm {F : Pt × Pt → Int} {S T : List (Pt × Pt)} (h : S.Perm T) : sumOf F S = sumOf F T := by
  induction h with
  | nil => rfl
  | cons x _ ih => rw [sumOf_cons, sumOf_cons, ih]
  | swap x y l => simp only [sumOf_cons]; omega
  | trans _ _ h1 h2 => exact h1.trans h2
theorem any_perm {F : Pt × Pt → Bool} {S T : List (Pt × Pt)} (h : S.Perm T) : S.any F = T.any F := by
  induction h with
  | nil => rfl
  | cons x _ ih => rw [List.any_cons, List.any_cons, ih]
  | swap x y l => simp only [List.any_cons]; cases F x <;> cases F y <;> rfl
  | trans _ _ h1 h2 => exact h1.trans h2
theorem sumOf_swap (F G : Pt × Pt → Int) (h : ∀ a b, G (b, a) = - F (a, b)) (S : List (Pt × Pt)) : sumOf G (S.map fun s => (s.2, s.1)) = - sumOf F S := by
  induction S with
  | nil => rfl
  | cons s S ih =>
    have e : F (s.1, s.2) = F s := rfl
    rw [List.map_cons, sumOf_cons, sumOf_cons, ih, h, e]; omega
theorem any_swap (F G : Pt × Pt → Bool) (h : ∀ a b, G (b, a) = F (a, b)) (S : List (Pt × Pt)) : (S.map fun s => (s.2, s.1)).any G = S.any F := by
  induction S with
  | nil => rfl
  | cons s S ih => rw [List.map_cons, List.any_cons, List.any_cons, ih, h]

theorem lastOf_getD (l : List Pt) : lastOf l = l.getD (l.length - 1) (0, 0) := by
  unfold lastOf
  rw [List.getLastD_eq_getLast?, List.getLast?_eq_getElem?, List.getD_eq_getElem?_getD]
theorem sd_range (l : List Pt) : sd l = (List.range l.length).map fun k => (sideA l k, sideB l k) := by
  apply List.ext_getElem?
  intro k
  by_cases hk : k < l.length
  · unfold sd
    rw [chain_get _ k (by simp; omega)]
    simp only [List.getElem?_map, List.getElem?_range hk, Option.map_some]
    congr 2
    unfold sideA prv
    cases k with
    | zero => simp [lastOf_getD]
    | succ k => simp
  · rw [List.getElem?_eq_none (by unfold sd; rw [chain_length]; simp; omega), List.getElem?_eq_none (by simp; omega)]
theorem sumOf_append (F : Pt × Pt → Int) (S T : List (Pt × Pt)) : sumOf F (S ++ T) = sumOf F S + sumOf F T := by
  induction S with
  | nil => simp [sumOf]
  | cons s S ih => rw [List.cons_append, sumOf_cons, sumOf_cons, ih]; omega
theorem addUp_sum (F : Pt × Pt → Int) (g : Nat → Pt × Pt) (n : Nat) : addUp (fun k => F (g k)) n = sumOf F ((List.range n).map g) := by
  induction n with
  | zero => rfl
  | succ n ih => rw [List.range_succ, List.map_append, sumOf_append, ← ih]; simp [addUp, sumOf]
theorem anyUp_any (F : Pt × Pt → Bool) (g : Nat → Pt × Pt) (n : Nat) : anyUp (fun k => F (g k)) n = ((List.range n).map g).any F := by
  induction n with
  | zero => rfl
  | succ n ih => rw [List.range_succ, List.map_append, List.any_append, ← ih]; simp [anyUp]

def cr1 (s : Pt × Pt) : Int := crs s.1.1 s.1.2 s.2.1 s.2.2
theorem areaOf_sd (l : List Pt) : areaOf l = sumOf cr1 (sd l) := by
  rw [sd_range]; exact addUp_sum cr1 (fun k => (sideA l k, sideB l k)) _
theorem windsOf_sd (l : List Pt) (z : Pt) : windsOf l z = sumOf (fun s => wind1 s.1 s.2 z) (sd l) := by
  rw [sd_range]; exact addUp_sum (fun s => wind1 s.1 s.2 z) (fun k => (sideA l k, sideB l k)) _
theorem onRing_sd (l : List Pt) (z : Pt) : onRing l z = (sd l).any (fun s => onSide s.1 s.2 z) := by
  rw [sd_range]; exact anyUp_any (fun s => onSide s.1 s.2 z) (fun k => (sideA l k, sideB l k)) _

theorem crs_swap (a b c d : Int) : crs c d a b = - crs a b c d := by
  unfold crs
  rw [Int.mul_comm c b, Int.mul_comm d a]; omega
theorem left_swap (f t z : Pt) : leftOf t f z = - leftOf f t z := by
  unfold leftOf crs
  have e : (f.1 - t.1) * (z.2 - t.2) - (f.2 - t.2) * (z.1 - t.1) = -((t.1 - f.1) * (z.2 - f.2) - (t.2 - f.2) * (z.1 - f.1)) := by
    generalize f.1 = a; generalize f.2 = b; generalize t.1 = c; generalize t.2 = d; generalize z.1 = x; generalize z.2 = y
    simp only [Int.sub_mul, Int.mul_sub, Int.mul_comm]
    omega
  exact e
theorem betw_swap (a b x : Int) : betw b a x = betw a b x := by unfold betw; rw [Int.min_comm b a, Int.max_comm b a]
theorem onSide_swap (f t z : Pt) : onSide t f z = onSide f t z := by
  unfold onSide
  rw [left_swap, betw_swap f.1 t.1, betw_swap f.2 t.2]
  congr 2
  rw [decide_eq_decide]; omega
theorem wind1_swap (f t z : Pt) : wind1 t f z = - wind1 f t z := by
  unfold wind1 upB downB
  rw [left_swap]
  by_cases h1 : f.2 ≤ z.2 <;> by_cases h2 : z.2 < t.2 <;> by_cases h3 : 0 < leftOf f t z <;> by_cases h4 : leftOf f t z < 0 <;>
    simp [h1, h2, h3, h4, (Int.not_le (a := f.2) (b := z.2)).symm, (Int.not_lt (a := z.2) (b := t.2)).symm] <;> omega

theorem area_turned (l : List Pt) : areaOf l.reverse = - areaOf l := by
  rw [areaOf_sd, areaOf_sd, sumOf_perm (sd_turned l)]
  exact sumOf_swap cr1 cr1 (fun a b => crs_swap _ _ _ _) _
theorem area_moved (A B : List Pt) : areaOf (B ++ A) = areaOf (A ++ B) := by
  rw [areaOf_sd, areaOf_sd, sumOf_perm (sd_moved A B)]
theorem windsAt_turned (l : List Pt) (z : Pt) : windsAt l.reverse z = - windsAt l z := by
  unfold windsAt
  have h : onRing l.reverse z = onRing l z := by
    rw [onRing_sd, onRing_sd, any_perm (sd_turned l)]
    exact any_swap _ _ (fun a b => onSide_swap _ _ _) _
  rw [h]
  cases onRing l z with
  | true => rfl
  | false =>
    simp only [Bool.false_eq_true, if_false]
    rw [windsOf_sd, windsOf_sd, sumOf_perm (sd_turned l)]
    exact sumOf_swap _ _ (fun a b => wind1_swap _ _ _) _
theorem windsAt_moved (A B : List Pt) (z : Pt) : windsAt (B ++ A) z = windsAt (A ++ B) z := by
  unfold windsAt
  rw [onRing_sd, onRing_sd, any_perm (sd_moved A B), windsOf_sd, windsOf_sd, sumOf_perm (sd_moved A B)]
end Go.Proofs.Ytbcfbbeefkdpoaa
