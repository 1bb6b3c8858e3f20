/- Whole numbers as floating-point words: plain lemmas. -/
import Derived.Laws.ComplexArith
namespace Go.Proofs.Ytbcfbbeefkdpoaa
open Ieee
namespace Fl

theorem cut_zero (s : Bool) (n : Nat) : Toward.even.cut s n 0 = n := by
  simp [Toward.cut, Nat.mod_one]

theorem log2_mul (N k : Nat) (h : N ≠ 0) : (N * 2 ^ k).log2 = N.log2 + k := by
  rw [Nat.log2_eq_iff (by have := Nat.two_pow_pos k; exact Nat.mul_ne_zero h (by omega))]
  have h1 := (Nat.log2_eq_iff h).1 rfl
  rw [Nat.pow_add, show N.log2 + k + 1 = (N.log2 + 1) + k by omega, Nat.pow_add 2 (N.log2 + 1) k]
  exact ⟨Nat.mul_le_mul_right _ h1.1, (Nat.mul_lt_mul_right (Nat.two_pow_pos k)).2 h1.2⟩

theorem cut_exact (s : Bool) (S d : Nat) (h : S ≠ 0) : Toward.even.cut s (S * 2 ^ d) d = S := by
  unfold Toward.cut
  have hl := log2_mul S d h
  have hm : min d ((S * 2 ^ d).log2 + 2) = d := by rw [hl]; omega
  rw [hm]
  have hg : 1 <<< d = 2 ^ d := by rw [Nat.shiftLeft_eq, Nat.one_mul]
  have hp : 0 < 2 ^ d := Nat.two_pow_pos d
  simp only [hg, Nat.mul_div_cancel _ hp, Nat.mul_mod_left]
  have h1 : decide (2 ^ d < 2 * 0) = false := by simp
  have h2 : (2 ^ d == 2 * 0) = false := by simp
  rw [h1, h2]; simp

theorem read_word (s : Bool) (L S : Nat) (hL : L ≤ 52) (h1 : 2 ^ 52 ≤ S) (h2 : S < 9007199254740992) :
    double.read (double.word s ((L + 1022) * 2 ^ 52 + S)) = .number s S (-((52 - L : Nat) : Int)) := by
  have hsw : double.signWeight = 2 ^ 63 := rfl
  have hb : double.binade = 2 ^ 52 := rfl
  have hi : double.infRung = 2047 * 2 ^ 52 := rfl
  have hlp : double.leastPlace = -1074 := by decide
  have hr : (L + 1022) * 2 ^ 52 + S < 2 ^ 63 := by omega
  have hn : (double.word s ((L + 1022) * 2 ^ 52 + S) / 2 ^ 63 % 2 == 1) = s := by
    unfold Format.word; rw [hsw]
    cases s
    · have : ((L + 1022) * 2 ^ 52 + S) / 2 ^ 63 % 2 = 0 := by omega
      rw [if_neg (by decide), this]; rfl
    · have : (2 ^ 63 + ((L + 1022) * 2 ^ 52 + S)) / 2 ^ 63 % 2 = 1 := by omega
      rw [if_pos rfl, this]; rfl
  have hg : double.word s ((L + 1022) * 2 ^ 52 + S) % 2 ^ 63 = (L + 1022) * 2 ^ 52 + S := by
    unfold Format.word; rw [hsw]; cases s <;> simp <;> omega
  unfold Format.read
  rw [hsw, hb, hi, hlp]
  simp only [hn, hg]
  rw [if_neg (by omega), if_pos (by omega)]
  have e1 : ((L + 1022) * 2 ^ 52 + S) % 2 ^ 52 = S - 2 ^ 52 := by omega
  have e2 : ((L + 1022) * 2 ^ 52 + S) / 2 ^ 52 = L + 1023 := by omega
  rw [e1, e2]
  have e3 : 2 ^ 52 + (S - 2 ^ 52) = S := by omega
  have e4 : (-1074 : Int) + ((L + 1023 - 1 : Nat) : Int) = -((52 - L : Nat) : Int) := by omega
  rw [e3, e4]

theorem read_zero (s : Bool) : double.read (double.word s 0) = .number s 0 (-1074) := by cases s <;> decide

theorem bound (L S : Nat) (hL : L ≤ 52) (h2 : S < 9007199254740992) : (L + 1022) * 2 ^ 52 + S ≤ 2047 * 2 ^ 52 := by omega

/-- A whole number, written with k digits behind the point, is written as it is. -/
theorem read_nearest (s : Bool) (N k : Nat) (hN : N < 9007199254740992) :
    ∃ j : Nat, double.read (double.nearest s (N * 2 ^ k) (-(k : Int))) = .number s (N * 2 ^ j) (-(j : Int)) := by
  by_cases h : N = 0
  · subst h
    obtain ⟨j, hj⟩ : ∃ j : Nat, j = 1074 := ⟨_, rfl⟩
    refine ⟨j, ?_⟩
    rw [Nat.zero_mul, Nat.zero_mul]
    unfold Format.nearest
    rw [if_pos rfl]
    have e : (-(j : Int)) = -1074 := by omega
    rw [e]
    exact read_zero s
  · have h1 := (Nat.log2_eq_iff h).1 rfl
    have hL : N.log2 ≤ 52 := by
      have : N.log2 < 53 := (Nat.log2_lt h).2 (by rw [show (2 : Nat) ^ 53 = 9007199254740992 by rfl]; exact hN)
      omega
    refine ⟨52 - N.log2, ?_⟩
    have hlp : double.leastPlace = -1074 := by decide
    have hfb : double.fractionBits = 52 := rfl
    have hb : double.binade = 2 ^ 52 := rfl
    have hi : double.infRung = 2047 * 2 ^ 52 := rfl
    have hz : N * 2 ^ k ≠ 0 := Nat.mul_ne_zero h (by have := Nat.two_pow_pos k; omega)
    have hS1 : 2 ^ 52 ≤ N * 2 ^ (52 - N.log2) := by
      have : 2 ^ N.log2 * 2 ^ (52 - N.log2) ≤ N * 2 ^ (52 - N.log2) := Nat.mul_le_mul_right _ h1.1
      rw [← Nat.pow_add, show N.log2 + (52 - N.log2) = 52 by omega] at this
      exact this
    have hS2 : N * 2 ^ (52 - N.log2) < 9007199254740992 := by
      rw [show (9007199254740992 : Nat) = 2 ^ 53 by rfl]
      have : N * 2 ^ (52 - N.log2) < 2 ^ (N.log2 + 1) * 2 ^ (52 - N.log2) := (Nat.mul_lt_mul_right (Nat.two_pow_pos _)).2 h1.2
      rw [← Nat.pow_add, show N.log2 + 1 + (52 - N.log2) = 53 by omega] at this
      exact this
    unfold Format.nearest
    rw [if_neg hz, hlp, hfb, log2_mul N k h, hb, hi]
    have hlast : max (-(k : Int) + ((N.log2 + k : Nat) : Int) - (52 : Nat)) (-1074) = (N.log2 : Int) - 52 := by omega
    simp only [hlast]
    have hkept : Toward.even.cut s ((N * 2 ^ k) <<< (-(k : Int) - ((N.log2 : Int) - 52)).toNat) ((N.log2 : Int) - 52 - -(k : Int)).toNat = N * 2 ^ (52 - N.log2) := by
      by_cases hc : k + N.log2 ≤ 52
      · have e1 : (-(k : Int) - ((N.log2 : Int) - 52)).toNat = 52 - N.log2 - k := by omega
        have e2 : ((N.log2 : Int) - 52 - -(k : Int)).toNat = 0 := by omega
        rw [e1, e2, cut_zero, Nat.shiftLeft_eq, Nat.mul_assoc, ← Nat.pow_add]
        congr 2; omega
      · have e1 : (-(k : Int) - ((N.log2 : Int) - 52)).toNat = 0 := by omega
        have e2 : ((N.log2 : Int) - 52 - -(k : Int)).toNat = k + N.log2 - 52 := by omega
        rw [e1, e2, Nat.shiftLeft_zero]
        have e3 : N * 2 ^ k = N * 2 ^ (52 - N.log2) * 2 ^ (k + N.log2 - 52) := by
          rw [Nat.mul_assoc, ← Nat.pow_add]; congr 2; omega
        rw [e3, cut_exact]; omega
    rw [hkept]
    have e4 : ((N.log2 : Int) - 52 - -1074).toNat = N.log2 + 1022 := by omega
    rw [e4]
    have e5 : min ((N.log2 + 1022) * 2 ^ 52 + N * 2 ^ (52 - N.log2)) (2047 * 2 ^ 52) = (N.log2 + 1022) * 2 ^ 52 + N * 2 ^ (52 - N.log2) := Nat.min_eq_left (bound N.log2 _ hL hS2)
    rw [e5]
    exact read_word s N.log2 _ hL hS1 hS2

/-- A word is a whole number. -/
def Is (x : Nat) (n : Int) : Prop := ∃ (s : Bool) (N k : Nat), double.read x = .number s (N * 2 ^ k) (-(k : Int)) ∧ N < 9007199254740992 ∧ n = (if s then -(N : Int) else N)

theorem is_nearest (s : Bool) (N k : Nat) (hN : N < 9007199254740992) : Is (double.nearest s (N * 2 ^ k) (-(k : Int))) (if s then -(N : Int) else N) := by
  obtain ⟨j, hj⟩ := read_nearest s N k hN
  exact ⟨s, N, j, hj, hN, rfl⟩

theorem signed_eq (s : Bool) (m up : Nat) : signed s m up = (if s then -(m : Int) else m) * 2 ^ up := by
  unfold signed; rw [Nat.shiftLeft_eq]; cases s <;> simp [Int.neg_mul]

theorem two_pow_ne (k : Nat) : (2 : Int) ^ k ≠ 0 := by
  have := Nat.two_pow_pos k
  have h : ((2 ^ k : Nat) : Int) ≠ 0 := by omega
  simpa using h

theorem cast_two (k : Nat) : ((2 ^ k : Nat) : Int) = (2 : Int) ^ k := by simp

/-- A sum written with k digits. -/
theorem is_total (t : Bool) (n : Int) (k : Nat) (h1 : -9007199254740992 < n) (h2 : n < 9007199254740992) :
    Is (double.nearest (if n * 2 ^ k = 0 then t else decide (n * 2 ^ k < 0)) (n * 2 ^ k).natAbs (-(k : Int))) n := by
  have hp : (0 : Int) < 2 ^ k := by rw [← cast_two]; have := Nat.two_pow_pos k; omega
  have hab : (n * 2 ^ k).natAbs = n.natAbs * 2 ^ k := by rw [Int.natAbs_mul, ← cast_two, Int.natAbs_natCast]
  rw [hab]
  have h := is_nearest (if n * 2 ^ k = 0 then t else decide (n * 2 ^ k < 0)) n.natAbs k (by omega)
  have e : (if (if n * 2 ^ k = 0 then t else decide (n * 2 ^ k < 0)) = true then -(n.natAbs : Int) else n.natAbs) = n := by
    by_cases h0 : n = 0
    · subst h0; simp
    · have : n * 2 ^ k ≠ 0 := Int.mul_ne_zero h0 (by omega)
      rw [if_neg this]
      by_cases hs : n < 0
      · have : n * 2 ^ k < 0 := Int.mul_neg_of_neg_of_pos hs hp
        simp [this]; omega
      · have : ¬ n * 2 ^ k < 0 := by have := Int.mul_nonneg (show 0 ≤ n by omega) (Int.le_of_lt hp); omega
        simp [this]; omega
  rw [e] at h
  exact h

theorem is_add {x y : Nat} {a b : Int} (hx : Is x a) (hy : Is y b) (h1 : -9007199254740992 < a + b) (h2 : a + b < 9007199254740992) : ∃ z, double.add x y = some z ∧ Is z (a + b) := by
  obtain ⟨s, M, i, ex, hM, rfl⟩ := hx
  obtain ⟨t, N, j, ey, hN, rfl⟩ := hy
  refine ⟨_, by unfold Format.add; rw [ex, ey]; rfl, ?_⟩
  show Is (double.nearest _ _ _) _
  have hmin : min (-(i : Int)) (-(j : Int)) = -((max i j : Nat) : Int) := by omega
  simp only [hmin]
  have hi : (-(i : Int) - -((max i j : Nat) : Int)).toNat = max i j - i := by omega
  have hj : (-(j : Int) - -((max i j : Nat) : Int)).toNat = max i j - j := by omega
  rw [hi, hj, signed_eq, signed_eq]
  have e1 : (if s then -((M * 2 ^ i : Nat) : Int) else ((M * 2 ^ i : Nat) : Int)) * 2 ^ (max i j - i) = (if s then -(M : Int) else M) * 2 ^ (max i j) := by
    have : (2 : Int) ^ (max i j) = 2 ^ i * 2 ^ (max i j - i) := by rw [← Int.pow_add]; congr 1; omega
    rw [this]; cases s <;> simp [Int.mul_assoc, Int.neg_mul]
  have e2 : (if t then -((N * 2 ^ j : Nat) : Int) else ((N * 2 ^ j : Nat) : Int)) * 2 ^ (max i j - j) = (if t then -(N : Int) else N) * 2 ^ (max i j) := by
    have : (2 : Int) ^ (max i j) = 2 ^ j * 2 ^ (max i j - j) := by rw [← Int.pow_add]; congr 1; omega
    rw [this]; cases t <;> simp [Int.mul_assoc, Int.neg_mul]
  rw [e1, e2, ← Int.add_mul]
  exact is_total _ _ _ h1 h2

theorem is_opp {y : Nat} {b : Int} (hy : Is y b) : ∃ (s : Bool) (N k : Nat), (double.read y).opposite = .number s (N * 2 ^ k) (-(k : Int)) ∧ N < 9007199254740992 ∧ -b = (if s then -(N : Int) else N) := by
  obtain ⟨t, N, j, ey, hN, rfl⟩ := hy
  refine ⟨!t, N, j, by rw [ey]; rfl, hN, ?_⟩
  cases t <;> simp

theorem is_sub {x y : Nat} {a b : Int} (hx : Is x a) (hy : Is y b) (h1 : -9007199254740992 < a - b) (h2 : a - b < 9007199254740992) : ∃ z, double.sub x y = some z ∧ Is z (a - b) := by
  obtain ⟨s, M, i, ex, hM, rfl⟩ := hx
  obtain ⟨t, N, j, ey, hN, eb⟩ := is_opp hy
  refine ⟨_, by unfold Format.sub; rw [ex, ey]; rfl, ?_⟩
  show Is (double.nearest _ _ _) _
  have hmin : min (-(i : Int)) (-(j : Int)) = -((max i j : Nat) : Int) := by omega
  simp only [hmin]
  have hi : (-(i : Int) - -((max i j : Nat) : Int)).toNat = max i j - i := by omega
  have hj : (-(j : Int) - -((max i j : Nat) : Int)).toNat = max i j - j := by omega
  rw [hi, hj, signed_eq, signed_eq]
  have e1 : (if s then -((M * 2 ^ i : Nat) : Int) else ((M * 2 ^ i : Nat) : Int)) * 2 ^ (max i j - i) = (if s then -(M : Int) else M) * 2 ^ (max i j) := by
    have : (2 : Int) ^ (max i j) = 2 ^ i * 2 ^ (max i j - i) := by rw [← Int.pow_add]; congr 1; omega
    rw [this]; cases s <;> simp [Int.mul_assoc, Int.neg_mul]
  have e2 : (if t then -((N * 2 ^ j : Nat) : Int) else ((N * 2 ^ j : Nat) : Int)) * 2 ^ (max i j - j) = (if t then -(N : Int) else N) * 2 ^ (max i j) := by
    have : (2 : Int) ^ (max i j) = 2 ^ j * 2 ^ (max i j - j) := by rw [← Int.pow_add]; congr 1; omega
    rw [this]; cases t <;> simp [Int.mul_assoc, Int.neg_mul]
  rw [e1, e2, ← Int.add_mul, ← eb, ← Int.sub_eq_add_neg]
  exact is_total _ _ _ h1 h2

theorem is_mul {x y : Nat} {a b : Int} (hx : Is x a) (hy : Is y b) (h1 : -9007199254740992 < a * b) (h2 : a * b < 9007199254740992) : ∃ z, double.mul x y = some z ∧ Is z (a * b) := by
  obtain ⟨s, M, i, ex, hM, rfl⟩ := hx
  obtain ⟨t, N, j, ey, hN, rfl⟩ := hy
  refine ⟨_, by unfold Format.mul; rw [ex, ey]; rfl, ?_⟩
  show Is (double.nearest _ _ _) _
  have e1 : M * 2 ^ i * (N * 2 ^ j) = M * N * 2 ^ (i + j) := by rw [Nat.pow_add]; simp [Nat.mul_assoc, Nat.mul_left_comm]
  have e2 : -(i : Int) + -(j : Int) = -((i + j : Nat) : Int) := by omega
  rw [e1, e2]
  have e3 : (if s then -(M : Int) else M) * (if t then -(N : Int) else N) = (if (s ^^ t) then -((M * N : Nat) : Int) else ((M * N : Nat) : Int)) := by
    cases s <;> cases t <;> simp [Int.neg_mul, Int.mul_neg]
  rw [e3] at h1 h2 ⊢
  refine is_nearest _ _ _ ?_
  cases hst : (s ^^ t) <;> simp only [hst] at h1 h2 <;> simp at h1 h2 <;> omega

theorem is_order {x y : Nat} {a b : Int} (hx : Is x a) (hy : Is y b) : double.order x y = some (compare a b) := by
  obtain ⟨s, M, i, ex, hM, rfl⟩ := hx
  obtain ⟨t, N, j, ey, hN, rfl⟩ := hy
  unfold Format.order
  rw [ex, ey]
  show some _ = _
  have hmin : min (-(i : Int)) (-(j : Int)) = -((max i j : Nat) : Int) := by omega
  simp only [hmin]
  have hi : (-(i : Int) - -((max i j : Nat) : Int)).toNat = max i j - i := by omega
  have hj : (-(j : Int) - -((max i j : Nat) : Int)).toNat = max i j - j := by omega
  rw [hi, hj, signed_eq, signed_eq]
  have e1 : (if s then -((M * 2 ^ i : Nat) : Int) else ((M * 2 ^ i : Nat) : Int)) * 2 ^ (max i j - i) = (if s then -(M : Int) else M) * 2 ^ (max i j) := by
    have : (2 : Int) ^ (max i j) = 2 ^ i * 2 ^ (max i j - i) := by rw [← Int.pow_add]; congr 1; omega
    rw [this]; cases s <;> simp [Int.mul_assoc, Int.neg_mul]
  have e2 : (if t then -((N * 2 ^ j : Nat) : Int) else ((N * 2 ^ j : Nat) : Int)) * 2 ^ (max i j - j) = (if t then -(N : Int) else N) * 2 ^ (max i j) := by
    have : (2 : Int) ^ (max i j) = 2 ^ j * 2 ^ (max i j - j) := by rw [← Int.pow_add]; congr 1; omega
    rw [this]; cases t <;> simp [Int.mul_assoc, Int.neg_mul]
  rw [e1, e2]
  generalize (if s then -(M : Int) else M) = a
  generalize (if t then -(N : Int) else N) = b
  have hp : (0 : Int) < 2 ^ (max i j) := by rw [← cast_two]; have := Nat.two_pow_pos (max i j); omega
  congr 1
  rcases Int.lt_trichotomy a b with h | h | h
  · rw [Int.compare_eq_lt.2 h, Int.compare_eq_lt.2 (Int.mul_lt_mul_of_pos_right h hp)]
  · subst h; rw [Int.compare_eq_eq.2 rfl, Int.compare_eq_eq.2 rfl]
  · rw [Int.compare_eq_gt.2 h, Int.compare_eq_gt.2 (Int.mul_lt_mul_of_pos_right h hp)]

theorem is_ofInt (n : Int) (h1 : -9007199254740992 < n) (h2 : n < 9007199254740992) : Is (double.write (.number (n < 0) n.natAbs 0)) n := by
  have h := is_nearest (decide (n < 0)) n.natAbs 0 (by omega)
  have e : (if decide (n < 0) = true then -(n.natAbs : Int) else n.natAbs) = n := by
    by_cases h : n < 0 <;> simp [h] <;> omega
  rw [e] at h
  rw [Nat.pow_zero, Nat.mul_one] at h
  exact h

theorem is_toInt {x : Nat} {n : Int} (hx : Is x n) : (double.read x).toInt .zero = some n := by
  obtain ⟨s, M, i, ex, hM, rfl⟩ := hx
  rw [ex]
  show some (signed s (Toward.zero.cut s ((M * 2 ^ i) <<< (-(i : Int)).toNat) (- -(i : Int)).toNat) 0) = _
  have e1 : (-(i : Int)).toNat = 0 := by omega
  have e2 : (- -(i : Int)).toNat = i := by omega
  rw [e1, e2, Nat.shiftLeft_zero]
  have e3 : Toward.zero.cut s (M * 2 ^ i) i = M := by
    by_cases h : M = 0
    · subst h; simp [Toward.cut]
    · unfold Toward.cut
      have hl := log2_mul M i h
      have hm : min i ((M * 2 ^ i).log2 + 2) = i := by rw [hl]; omega
      rw [hm]
      have hg : 1 <<< i = 2 ^ i := by rw [Nat.shiftLeft_eq, Nat.one_mul]
      simp [hg, Nat.mul_div_cancel _ (Nat.two_pow_pos i)]
  rw [e3, signed_eq]; simp
end Fl
end Go.Proofs.Ytbcfbbeefkdpoaa
