/- Plain facts: points as keys. The bits of a point's coordinates, level by level, are the digits of one number. -/
set_option linter.unusedVariables false
set_option linter.unusedSimpArgs false
namespace Go.Proofs.Ytdjemmopecchmaa.Key

/-- the bit of a coordinate at a level -/
def bit (c : Int) (l : Nat) : Nat := c.toNat / 2 ^ l % 2
theorem bit_lt (c : Int) (l : Nat) : bit c l < 2 := Nat.mod_lt _ (by omega)

/-- the address of a point at a level -/
def addr (p : List Int) (l : Nat) : Nat := p.foldl (fun acc c => 2 * acc + bit c l) 0

theorem addr_nil (l : Nat) : addr [] l = 0 := rfl
theorem addr_snoc (p : List Int) (c : Int) (l : Nat) : addr (p ++ [c]) l = 2 * addr p l + bit c l := by simp [addr, List.foldl_append]
theorem addr_fold (p : List Int) (l : Nat) : ∀ acc, p.foldl (fun acc c => 2 * acc + bit c l) acc = acc * 2 ^ p.length + addr p l := by
  induction p with
  | nil => intro acc; simp [addr]
  | cons c p ih =>
    intro acc
    simp only [List.foldl_cons, addr, List.length_cons]
    rw [ih, ih (2 * 0 + bit c l)]
    rw [Nat.pow_succ]
    grind
theorem addr_cons (c : Int) (p : List Int) (l : Nat) : addr (c :: p) l = bit c l * 2 ^ p.length + addr p l := by
  have := addr_fold p l (2 * 0 + bit c l)
  simp only [addr, List.foldl_cons]
  rw [this]
  simp [addr]
theorem addr_lt (p : List Int) (l : Nat) : addr p l < 2 ^ p.length := by
  induction p with
  | nil => simp [addr]
  | cons c p ih =>
    rw [addr_cons, List.length_cons, Nat.pow_succ]
    have h := bit_lt c l
    have : bit c l * 2 ^ p.length ≤ 1 * 2 ^ p.length := Nat.mul_le_mul_right _ (by omega)
    omega
theorem addr_eq_iff (p q : List Int) (l : Nat) (h : p.length = q.length) : addr p l = addr q l ↔ p.map (bit · l) = q.map (bit · l) := by
  induction p generalizing q with
  | nil => cases q with
    | nil => simp
    | cons d q => simp at h
  | cons c p ih => cases q with
    | nil => simp at h
    | cons d q =>
      simp only [List.length_cons, Nat.add_right_cancel_iff] at h
      rw [addr_cons, addr_cons, h]
      have h1 := addr_lt p l
      have h2 := addr_lt q l
      rw [h] at h1
      have hb := bit_lt c l
      have hd := bit_lt d l
      simp only [List.map_cons, List.cons.injEq]
      rw [← ih q h]
      have e0 : (0 : Nat) * 2 ^ q.length = 0 := Nat.zero_mul _
      have e1 : (1 : Nat) * 2 ^ q.length = 2 ^ q.length := Nat.one_mul _
      have cb : bit c l = 0 ∨ bit c l = 1 := by omega
      have cd : bit d l = 0 ∨ bit d l = 1 := by omega
      rcases cb with cb | cb <;> rcases cd with cd | cd <;> rw [cb, cd] <;> omega

/-- how many addresses there are -/
def B (p : List Int) : Nat := 2 ^ p.length
theorem B_pos (p : List Int) : 0 < B p := Nat.two_pow_pos _
/-- the digits from level l on, m of them -/
def hi (p : List Int) (l : Nat) : Nat → Nat
  | 0 => 0
  | m + 1 => addr p l + B p * hi p (l + 1) m
/-- a point's place in z-order -/
def key (p : List Int) : Nat := hi p 0 64

theorem hi_div (p : List Int) (l m : Nat) : hi p l (m + 1) / B p = hi p (l + 1) m := by
  simp only [hi]
  rw [Nat.add_mul_div_left _ _ (B_pos p), Nat.div_eq_of_lt (show addr p l < B p from addr_lt p l), Nat.zero_add]
theorem hi_mod (p : List Int) (l m : Nat) : hi p l (m + 1) % B p = addr p l := by
  simp only [hi]
  rw [Nat.add_mul_mod_self_left]
  exact Nat.mod_eq_of_lt (addr_lt p l)
theorem key_div (p : List Int) (l : Nat) (h : l ≤ 64) : key p / B p ^ l = hi p l (64 - l) := by
  induction l with
  | zero => simp [key]
  | succ l ih =>
    rw [Nat.pow_succ, ← Nat.div_div_eq_div_mul, ih (by omega)]
    have e : 64 - l = (64 - (l + 1)) + 1 := by omega
    rw [e, hi_div]
theorem key_digit (p : List Int) (l : Nat) (h : l < 64) : key p / B p ^ l % B p = addr p l := by
  rw [key_div p l (by omega)]
  have e : 64 - l = (63 - l) + 1 := by omega
  rw [e, hi_mod]
theorem key_lt (p : List Int) : key p < B p ^ 64 := by
  have h : key p / B p ^ 64 = 0 := by rw [key_div p 64 (by omega)]; rfl
  rcases Nat.div_eq_zero_iff.1 h with h | h
  · have := Nat.pow_pos (n := 64) (B_pos p); omega
  · exact h
theorem hi_eq_iff (p q : List Int) (hl : p.length = q.length) (m : Nat) : ∀ l, hi p l m = hi q l m ↔ ∀ j, l ≤ j → j < l + m → addr p j = addr q j := by
  have hB : B p = B q := by simp [B, hl]
  induction m with
  | zero => intro l; simp [hi]; intro j h1 h2; omega
  | succ m ih =>
    intro l
    simp only [hi]
    constructor
    · intro h
      have h1 : hi p l (m + 1) % B p = hi q l (m + 1) % B q := by simp only [hi]; rw [h, hB]
      have h2 : hi p l (m + 1) / B p = hi q l (m + 1) / B q := by simp only [hi]; rw [h, hB]
      rw [hi_mod, hi_mod] at h1
      rw [hi_div, hi_div] at h2
      intro j hj hjm
      rcases Nat.eq_or_lt_of_le hj with e | e
      · exact e ▸ h1
      · exact (ih (l + 1)).1 h2 j e (by omega)
    · intro h
      rw [h l (Nat.le_refl _) (by omega), (ih (l + 1)).2 (fun j h1 h2 => h j (by omega) (by omega)), hB]

/-- coordinates that are uint64 -/
def Ok (p : List Int) : Prop := ∀ c ∈ p, 0 ≤ c ∧ c < 18446744073709551616
theorem Ok.toNat {p : List Int} (h : Ok p) : ∀ c ∈ p, c.toNat < 2 ^ 64 := fun c hc => by have := h c hc; omega

theorem bit_testBit (c : Int) (l : Nat) : bit c l = (c.toNat.testBit l).toNat := by
  rw [Nat.testBit_eq_decide_div_mod_eq, bit]
  have : c.toNat / 2 ^ l % 2 = 0 ∨ c.toNat / 2 ^ l % 2 = 1 := by omega
  rcases this with h | h <;> simp [h]
theorem bit_eq_iff (x y : Int) (l : Nat) : bit x l = bit y l ↔ x.toNat.testBit l = y.toNat.testBit l := by
  rw [bit_testBit, bit_testBit]
  cases x.toNat.testBit l <;> cases y.toNat.testBit l <;> simp
theorem coord_eq_iff (x y : Int) (l : Nat) (hx : x.toNat < 2 ^ 64) (hy : y.toNat < 2 ^ 64) : x.toNat / 2 ^ l = y.toNat / 2 ^ l ↔ ∀ j, l ≤ j → j < 64 → bit x j = bit y j := by
  constructor
  · intro h j h1 _
    rw [bit_eq_iff]
    have := congrArg (fun n => n.testBit (j - l)) h
    simp only [Nat.testBit_div_two_pow] at this
    rwa [show j - l + l = j by omega] at this
  · intro h
    apply Nat.eq_of_testBit_eq
    intro i
    simp only [Nat.testBit_div_two_pow]
    by_cases hi : i + l < 64
    · exact (bit_eq_iff x y (i + l)).1 (h (i + l) (by omega) hi)
    · rw [Nat.testBit_lt_two_pow (Nat.lt_of_lt_of_le hx (Nat.pow_le_pow_right (by omega) (by omega))), Nat.testBit_lt_two_pow (Nat.lt_of_lt_of_le hy (Nat.pow_le_pow_right (by omega) (by omega)))]

theorem map_eq_iff {α β : Type} {f g : α → β} (p q : List α) (h : p.length = q.length) : p.map f = q.map f ↔ ∀ i (h1 : i < p.length) (h2 : i < q.length), f p[i] = f q[i] := by
  constructor
  · intro e i h1 h2
    have := congrArg (fun l => l[i]?) e
    simpa [h1, h2] using this
  · intro e
    apply List.ext_getElem (by simpa using h)
    intro i h1 h2
    simpa using e i (by simpa using h1) (by simpa using h2)

theorem div_eq_iff (p q : List Int) (hl : p.length = q.length) (hp : Ok p) (hq : Ok q) (l : Nat) (h : l ≤ 64) :
    key p / B p ^ l = key q / B q ^ l ↔ ∀ i (h1 : i < p.length) (h2 : i < q.length), p[i].toNat / 2 ^ l = q[i].toNat / 2 ^ l := by
  rw [key_div p l h, key_div q l h, hi_eq_iff p q hl]
  constructor
  · intro H i h1 h2
    rw [coord_eq_iff _ _ _ (hp.toNat _ (List.getElem_mem h1)) (hq.toNat _ (List.getElem_mem h2))]
    intro j hj hj2
    have := H j hj (by omega)
    rw [addr_eq_iff p q j hl, map_eq_iff (f := (bit · j)) (g := (bit · j)) p q hl] at this
    exact this i h1 h2
  · intro H j hj hj2
    rw [addr_eq_iff p q j hl, map_eq_iff (f := (bit · j)) (g := (bit · j)) p q hl]
    intro i h1 h2
    exact (coord_eq_iff _ _ l (hp.toNat _ (List.getElem_mem h1)) (hq.toNat _ (List.getElem_mem h2))).1 (H i h1 h2) j hj (by omega)
theorem key_inj (p q : List Int) (hl : p.length = q.length) (hp : Ok p) (hq : Ok q) (h : key p = key q) : p = q := by
  have := (div_eq_iff p q hl hp hq 0 (by omega)).1 (by simpa using h)
  apply List.ext_getElem hl
  intro i h1 h2
  have h3 := this i h1 h2
  simp at h3
  have a := hp _ (List.getElem_mem h1)
  have b := hq _ (List.getElem_mem h2)
  omega

/-! ### where two part -/
/-- what all coordinates differ in -/
def diffs (p q : List Int) : Nat → Nat
  | 0 => 0
  | n + 1 => diffs p q n ||| ((p.getD n 0).toNat ^^^ (q.getD n 0).toNat)
theorem or_lt_iff (a b l : Nat) : a ||| b < 2 ^ l ↔ a < 2 ^ l ∧ b < 2 ^ l :=
  ⟨fun h => ⟨Nat.lt_of_le_of_lt Nat.left_le_or h, Nat.lt_of_le_of_lt Nat.right_le_or h⟩, fun h => Nat.or_lt_two_pow h.1 h.2⟩
theorem xor_lt_iff (a b l : Nat) : a ^^^ b < 2 ^ l ↔ a / 2 ^ l = b / 2 ^ l := by
  constructor
  · intro h
    apply Nat.eq_of_testBit_eq
    intro i
    have : (a ^^^ b).testBit (i + l) = false := Nat.testBit_lt_two_pow (Nat.lt_of_lt_of_le h (Nat.pow_le_pow_right (by omega) (by omega)))
    rw [Nat.testBit_xor] at this
    simp only [Nat.testBit_div_two_pow]
    cases h1 : a.testBit (i + l) <;> cases h2 : b.testBit (i + l) <;> simp_all
  · intro h
    apply Nat.lt_pow_two_of_testBit
    intro i hi
    rw [Nat.testBit_xor]
    have := congrArg (fun n => n.testBit (i - l)) h
    simp only [Nat.testBit_div_two_pow] at this
    rw [show i - l + l = i by omega] at this
    rw [this]; simp
theorem diffs_lt_iff (p q : List Int) (l n : Nat) : diffs p q n < 2 ^ l ↔ ∀ i, i < n → (p.getD i 0).toNat / 2 ^ l = (q.getD i 0).toNat / 2 ^ l := by
  induction n with
  | zero => simp [diffs, Nat.two_pow_pos]
  | succ n ih =>
    simp only [diffs]
    rw [or_lt_iff, ih, xor_lt_iff]
    constructor
    · rintro ⟨h1, h2⟩ i hi
      rcases Nat.lt_or_eq_of_le (Nat.le_of_lt_succ hi) with h | rfl
      · exact h1 i h
      · exact h2
    · intro h
      exact ⟨fun i hi => h i (by omega), h n (by omega)⟩
theorem diffs_lt64 (p q : List Int) (hl : p.length = q.length) (hp : Ok p) (hq : Ok q) : diffs p q p.length < 2 ^ 64 := by
  rw [diffs_lt_iff]
  intro i hi
  have h2 : i < q.length := by omega
  simp only [List.getD_eq_getElem?_getD, List.getElem?_eq_getElem hi, List.getElem?_eq_getElem h2, Option.getD_some]
  rw [Nat.div_eq_of_lt (hp.toNat _ (List.getElem_mem hi)), Nat.div_eq_of_lt (hq.toNat _ (List.getElem_mem h2))]
/-- one more than the level at which two points part: from there on all digits are the same -/
def parts (p q : List Int) : Nat := if diffs p q p.length = 0 then 0 else (diffs p q p.length).log2 + 1
theorem lt_pow_iff (m l : Nat) : m < 2 ^ l ↔ (if m = 0 then 0 else m.log2 + 1) ≤ l := by
  by_cases h : m = 0
  · simp [h, Nat.two_pow_pos]
  · rw [if_neg h, ← Nat.log2_lt h]; omega
theorem parts_le_iff (p q : List Int) (hl : p.length = q.length) (hp : Ok p) (hq : Ok q) (l : Nat) (h : l ≤ 64) : parts p q ≤ l ↔ key p / B p ^ l = key q / B q ^ l := by
  rw [parts, ← lt_pow_iff, diffs_lt_iff, div_eq_iff p q hl hp hq l h]
  constructor
  · intro H i h1 h2
    have := H i h1
    simpa only [List.getD_eq_getElem?_getD, List.getElem?_eq_getElem h1, List.getElem?_eq_getElem h2, Option.getD_some] using this
  · intro H i h1
    have h2 : i < q.length := by omega
    simpa only [List.getD_eq_getElem?_getD, List.getElem?_eq_getElem h1, List.getElem?_eq_getElem h2, Option.getD_some] using H i h1 h2
theorem parts_le64 (p q : List Int) (hl : p.length = q.length) (hp : Ok p) (hq : Ok q) : parts p q ≤ 64 := by
  rw [parts, ← lt_pow_iff]; exact diffs_lt64 p q hl hp hq

/-! ### cut -/
def cut1 (c : Int) (l : Nat) : Int := ((c.toNat / 2 ^ l * 2 ^ l : Nat) : Int)
/-- a point without its digits below l -/
def cut (p : List Int) (l : Nat) : List Int := p.map (cut1 · l)
theorem cut_length (p : List Int) (l : Nat) : (cut p l).length = p.length := by simp [cut]
theorem cut1_toNat (c : Int) (l : Nat) : (cut1 c l).toNat = c.toNat / 2 ^ l * 2 ^ l := Int.toNat_natCast _
theorem cut1_le (c : Int) (l : Nat) : (cut1 c l).toNat ≤ c.toNat := by rw [cut1_toNat]; exact Nat.div_mul_le_self _ _
theorem cut_ok {p : List Int} (h : Ok p) (l : Nat) : Ok (cut p l) := by
  intro c hc
  simp only [cut, List.mem_map] at hc
  obtain ⟨d, hd, rfl⟩ := hc
  have := h d hd
  have h2 := cut1_le d l
  have h3 : 0 ≤ cut1 d l := by unfold cut1; omega
  omega
theorem cut1_bit (c : Int) (l j : Nat) : bit (cut1 c l) j = if j < l then 0 else bit c j := by
  rw [bit_testBit, bit_testBit]
  rw [cut1_toNat, Nat.mul_comm, Nat.testBit_two_pow_mul]
  by_cases h : j < l
  · rw [if_pos h]; simp; omega
  · rw [if_neg h]
    have h1 : l ≤ j := by omega
    simp only [h1, decide_true, Bool.true_and, Nat.testBit_div_two_pow]
    rw [show j - l + l = j by omega]
theorem cut_addr (p : List Int) (l j : Nat) : addr (cut p l) j = if j < l then 0 else addr p j := by
  induction p with
  | nil => simp [cut, addr]
  | cons c p ih =>
    have : cut (c :: p) l = cut1 c l :: cut p l := rfl
    rw [this, addr_cons, addr_cons, ih, cut_length, cut1_bit]
    split <;> simp
theorem hi_zero (p : List Int) (m : Nat) : ∀ l, (∀ j, l ≤ j → j < l + m → addr p j = 0) → hi p l m = 0 := by
  induction m with
  | zero => intro l _; rfl
  | succ m ih =>
    intro l h
    simp only [hi]
    rw [h l (by omega) (by omega), ih (l + 1) (fun j h1 h2 => h j (by omega) (by omega))]
    simp
theorem cut_div (p : List Int) (l : Nat) (h : l ≤ 64) : key (cut p l) / B (cut p l) ^ l = key p / B p ^ l := by
  rw [key_div _ l h, key_div _ l h, hi_eq_iff _ _ (cut_length p l)]
  intro j h1 _
  rw [cut_addr, if_neg (by omega)]
theorem B_cut (p : List Int) (l : Nat) : B (cut p l) = B p := by simp [B, cut_length]

end Go.Proofs.Ytdjemmopecchmaa.Key
