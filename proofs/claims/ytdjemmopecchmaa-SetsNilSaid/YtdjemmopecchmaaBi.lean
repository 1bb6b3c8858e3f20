/- Plain facts: Go's operations on bits, as the walk writes them. -/
import Derived.WalkKit
import Derived.WalkLawsBesides
import Derived.Laws.BitsAllLaws
import Derived.Lib.BitFns
import Derived.Test.YtdjemmopecchmaaKey
namespace Go.Proofs.Ytdjemmopecchmaa
open Go.RowKit Key
set_option linter.unusedVariables false

theorem i64_or_nat (a b : Nat) (ha : a < 9223372036854775808) (hb : b < 9223372036854775808) : bits .or .i64 (a : Int) (b : Int) = ((a ||| b : Nat) : Int) := by
  have h : ∀ n : Int, 0 ≤ n → n < 2 ^ 63 → IntKind.i64.wrap n = n := fun n h0 h1 => by rw [IntKind.wrap_i64]; omega
  have := (bits_nat .i64 63 (by decide) h a b (by omega) (by omega))
  exact this.2
theorem bitLen_eq (x : Nat) (h : x < 2 ^ 64) : Lib.bitLen x = if x = 0 then 0 else x.log2 + 1 := by
  induction x using Nat.strongRecOn with
  | _ x ih =>
    by_cases h0 : x = 0
    · subst h0; rfl
    · rw [if_neg h0, Lib.bitLen_half x h0 h, ih (x / 2) (by omega) (by omega)]
      by_cases h1 : x / 2 = 0
      · have : x = 1 := by omega
        subst this; rfl
      · rw [if_neg h1]
        have : x.log2 = (x / 2).log2 + 1 := by rw [Nat.log2_def x, if_pos (by omega)]
        omega

theorem bit_int (c : Int) (lv : Nat) (h0 : 0 ≤ c) (h1 : c < 18446744073709551616) : wrap64 (bits BinOp.and IntKind.u64 (c / 2 ^ lv) 1) = ((bit c lv : Nat) : Int) := by
  obtain ⟨n, rfl⟩ := Int.eq_ofNat_of_zero_le h0
  have e : ((n : Int) / 2 ^ lv) = ((n / 2 ^ lv : Nat) : Int) := by simp
  have hle : n / 2 ^ lv ≤ n := Nat.div_le_self _ _
  rw [e]
  generalize hm : n / 2 ^ lv = m at *
  rw [u64_and _ _ (by omega) (by omega) (by omega) (by omega)]
  simp only [Int.toNat_natCast, Int.toNat_one, nat_mask1]
  have hb : bit (n : Int) lv = m % 2 := by unfold bit; rw [Int.toNat_natCast, hm]
  rw [hb]
  unfold wrap64
  omega
theorem addr_step (l : List Int) (k lv : Nat) (hk : k < l.length) (hok : Ok l) (h16 : l.length ≤ 16) :
    bits BinOp.or IntKind.i64 (wrap64 ((addr (l.take k) lv : Nat) * 2)) (wrap64 (bits BinOp.and IntKind.u64 (l[k] / 2 ^ lv) 1)) = ((addr (l.take (k + 1)) lv : Nat) : Int) := by
  have hb := hok l[k] (List.getElem_mem hk)
  rw [bit_int _ _ hb.1 hb.2]
  have ht : l.take (k + 1) = l.take k ++ [l[k]] := by rw [List.take_succ_eq_append_getElem hk]
  rw [ht, addr_snoc]
  have h1 := addr_lt (l.take k) lv
  rw [List.length_take, Nat.min_eq_left (by omega)] at h1
  have h2 : (2 : Nat) ^ k ≤ 2 ^ 16 := Nat.pow_le_pow_right (by omega) (by omega)
  have h3 := bit_lt l[k] lv
  have e : wrap64 ((addr (l.take k) lv : Nat) * 2) = ((addr (l.take k) lv * 2 : Nat) : Int) := by unfold wrap64; omega
  rw [e, i64_or_nat _ _ (by omega) (by omega), nat_join 1 _ _ (by simp) (by omega)]
  omega
theorem diffs_lt_n (p q : List Int) (hp : Ok p) (hq : Ok q) (n : Nat) (h1 : n ≤ p.length) (h2 : n ≤ q.length) : diffs p q n < 18446744073709551616 := by
  have : diffs p q n < 2 ^ 64 := by
    rw [diffs_lt_iff]
    intro i hi
    simp only [List.getD_eq_getElem?_getD, List.getElem?_eq_getElem (show i < p.length by omega), List.getElem?_eq_getElem (show i < q.length by omega), Option.getD_some]
    rw [Nat.div_eq_of_lt (hp.toNat _ (List.getElem_mem _)), Nat.div_eq_of_lt (hq.toNat _ (List.getElem_mem _))]
  exact this
theorem diffs_step (p q : List Int) (k : Nat) (h1 : k < p.length) (h2 : k < q.length) (hp : Ok p) (hq : Ok q) :
    bits BinOp.or IntKind.u64 ((diffs p q k : Nat) : Int) (bits BinOp.xor IntKind.u64 p[k] q[k]) = ((diffs p q (k + 1) : Nat) : Int) := by
  have a := hp _ (List.getElem_mem h1)
  have b := hq _ (List.getElem_mem h2)
  have hd := diffs_lt_n p q hp hq k (by omega) (by omega)
  have hx : p[k].toNat ^^^ q[k].toNat < 2 ^ 64 := Nat.xor_lt_two_pow (by omega) (by omega)
  rw [u64_xor _ _ a.1 (by omega) b.1 (by omega), u64_or _ _ (by omega) (by omega) (by omega) (by omega)]
  simp only [Int.toNat_natCast, diffs, List.getD_eq_getElem?_getD, List.getElem?_eq_getElem h1, List.getElem?_eq_getElem h2, Option.getD_some]
/-- the mask of 'above' -/
def mask (lv : Int) : Nat := (18446744073709551616 - 2 ^ (lv + 1).toNat) % 18446744073709551616
theorem and_mask (c : Int) (s : Nat) (h0 : 0 ≤ c) (h1 : c < 18446744073709551616) (hs : s ≤ 64) (m : Int) (hm0 : 0 ≤ m) (hm : m.toNat = 2 ^ 64 - 2 ^ s) :
    bits BinOp.and IntKind.u64 c m = cut1 c s := by
  have hp : 0 < 2 ^ s := Nat.two_pow_pos s
  have hle : 2 ^ s ≤ 2 ^ 64 := Nat.pow_le_pow_right (by omega) hs
  rw [u64_and _ _ h0 h1 hm0 (by omega), hm]
  unfold cut1
  congr 1
  apply Nat.eq_of_testBit_eq
  intro i
  have e : (2 : Nat) ^ 64 - 2 ^ s = 2 ^ s * (2 ^ (64 - s) - 1) := by
    rw [Nat.mul_sub, ← Nat.pow_add, Nat.mul_one]
    congr 2; omega
  rw [Nat.testBit_and, Nat.mul_comm, Nat.testBit_two_pow_mul, e, Nat.testBit_two_pow_mul, Nat.testBit_two_pow_sub_one]
  simp only [Nat.testBit_div_two_pow]
  by_cases h : s ≤ i
  · have h' : i ≥ s := h
    simp only [h', decide_true, Bool.true_and, show i - s + s = i by omega]
    by_cases hi : i < 64
    · simp [show i - s < 64 - s by omega]
    · have : c.toNat.testBit i = false := Nat.testBit_lt_two_pow (Nat.lt_of_lt_of_le (show c.toNat < 2 ^ 64 by omega) (Nat.pow_le_pow_right (by omega) (by omega)))
      simp [this]
  · have h' : ¬ i ≥ s := h
    simp [h']
end Go.Proofs.Ytdjemmopecchmaa
