/- The walks over poly's arithmetic on complex numbers whose parts are whole numbers: cross, between, on. -/
import Derived.Test.YtbcfbbeefkdpoaaFl
import Derived.Test.YtbcfbbeefkdpoaaPPolyTellsx1
import Derived.WalkLawsBesides
import Derived.Lib.Hide
namespace Go.Proofs.Ytbcfbbeefkdpoaa
open Go.RowKit Go.Proofs.YtbcfbbeefkdpoaaW.PrintWords Fl
set_option linter.unusedVariables false
set_option linter.unusedSimpArgs false

section
variable {P : Program} {w : World} {a : Addr} {m : Mode}
theorem run_store_float (k : FloatKind) (x : Nat) : (store a (.float k x) m).run P w = stored P w a (.float k x) m := run_store P w a _ m rfl
theorem run_store_complex (k : FloatKind) (x y : Nat) : (store a (.complex k x y) m).run P w = stored P w a (.complex k x y) m := run_store P w a _ m rfl
end

theorem crossBound (a b c d M : Int) (ha : -1048576 < a ∧ a < 1048576) (hb : -1048576 < b ∧ b < 1048576) (hc : -1048576 < c ∧ c < 1048576) (hd : -1048576 < d ∧ d < 1048576) :
    -1099511627776 ≤ a * d ∧ a * d ≤ 1099511627776 ∧ -1099511627776 ≤ b * c ∧ b * c ≤ 1099511627776 := by
  have key : ∀ x y : Int, -1048576 < x ∧ x < 1048576 → -1048576 < y ∧ y < 1048576 → -1099511627776 ≤ x * y ∧ x * y ≤ 1099511627776 := by
    intro x y hx hy
    have h : (x * y).natAbs ≤ 1048576 * 1048576 := by rw [Int.natAbs_mul]; exact Nat.mul_le_mul (by omega) (by omega)
    omega
  exact ⟨(key a d ha hd).1, (key a d ha hd).2, (key b c hb hc).1, (key b c hb hc).2⟩

theorem cross_any (a b c d : Nat) (x y u v : Int) (w : World) (ha : Is a x) (hb : Is b y) (hc : Is c u) (hd : Is d v)
    (hx : -1048576 < x ∧ x < 1048576) (hy : -1048576 < y ∧ y < 1048576) (hu : -1048576 < u ∧ u < 1048576) (hv : -1048576 < v ∧ v < 1048576) :
    ∃ r, Is r (x * v - y * u) ∧ ∀ w, Calls Try.prog 19 #[.complex .f64 a b, .complex .f64 c d] w fun e w' => e = .returned (.float .f64 r) ∧ w = w' := by
  obtain ⟨b1, b2, b3, b4⟩ := crossBound x y u v 0 hx hy hu hv
  obtain ⟨m1, e1, i1⟩ := is_mul ha hd (by omega) (by omega)
  obtain ⟨m2, e2, i2⟩ := is_mul hb hc (by omega) (by omega)
  obtain ⟨r, e3, i3⟩ := is_sub i1 i2 (by omega) (by omega)
  refine ⟨r, i3, fun w => ?_⟩
  have r1 : ∀ t w, (binOp .mul t (.float .f64 a) (.float .f64 d)).run Try.prog w = .ok (.float .f64 m1) w := fun t w => run_float_arith w .mul t .f64 _ _ _ e1
  have r2 : ∀ t w, (binOp .mul t (.float .f64 b) (.float .f64 c)).run Try.prog w = .ok (.float .f64 m2) w := fun t w => run_float_arith w .mul t .f64 _ _ _ e2
  have r3 : ∀ t w, (binOp .sub t (.float .f64 m1) (.float .f64 m2)).run Try.prog w = .ok (.float .f64 r) w := fun t w => run_float_arith w .sub t .f64 _ _ _ e3
  clear b1 b2 b3 b4 e1 e2 e3 i1 i2 i3 ha hb hc hd
  go_enter Try.func19, Try.ntmps19
  go_wp2
  go_ret
  exact ⟨rfl, rfl⟩

theorem fmin_any (a b : Nat) (x y : Int) (ha : Is a x) (hb : Is b y) : ∃ m, Is m (min x y) ∧ ∀ ts t w, (Builtin.min_ ts t #[.float .f64 a, .float .f64 b]).run Try.prog w = .ok (.float .f64 m) w := by
  have ho := is_order ha hb
  rcases Int.lt_trichotomy x y with h | h | h
  · rw [Int.compare_eq_lt.2 h] at ho
    refine ⟨a, by rw [Int.min_eq_left (by omega)]; exact ha, fun ts t w => ?_⟩
    simp [Builtin.min_, Builtin.min2, FloatKind.format, ho, go_sem]
  · subst h
    rw [Int.compare_eq_eq.2 rfl] at ho
    refine ⟨if (FloatKind.f64.decode a).neg then a else b, ?_, fun ts t w => ?_⟩
    · rw [Int.min_self]; split <;> assumption
    · simp [Builtin.min_, Builtin.min2, FloatKind.format, ho, go_sem]
  · rw [Int.compare_eq_gt.2 h] at ho
    refine ⟨b, by rw [Int.min_eq_right (by omega)]; exact hb, fun ts t w => ?_⟩
    simp [Builtin.min_, Builtin.min2, FloatKind.format, ho, go_sem]
theorem fmax_any (a b : Nat) (x y : Int) (ha : Is a x) (hb : Is b y) : ∃ m, Is m (max x y) ∧ ∀ ts t w, (Builtin.max_ ts t #[.float .f64 a, .float .f64 b]).run Try.prog w = .ok (.float .f64 m) w := by
  have ho := is_order ha hb
  rcases Int.lt_trichotomy x y with h | h | h
  · rw [Int.compare_eq_lt.2 h] at ho
    refine ⟨b, by rw [Int.max_eq_right (by omega)]; exact hb, fun ts t w => ?_⟩
    simp [Builtin.max_, Builtin.max2, FloatKind.format, ho, go_sem]
  · subst h
    rw [Int.compare_eq_eq.2 rfl] at ho
    refine ⟨if (FloatKind.f64.decode a).neg then b else a, ?_, fun ts t w => ?_⟩
    · rw [Int.max_self]; split <;> assumption
    · simp [Builtin.max_, Builtin.max2, FloatKind.format, ho, go_sem]
  · rw [Int.compare_eq_gt.2 h] at ho
    refine ⟨a, by rw [Int.max_eq_left (by omega)]; exact ha, fun ts t w => ?_⟩
    simp [Builtin.max_, Builtin.max2, FloatKind.format, ho, go_sem]

theorem ford {a b : Nat} {x y : Int} (ha : Is a x) (hb : Is b y) : FloatKind.f64.format.order a b = some (compare x y) := is_order ha hb
theorem fleq {a b : Nat} {x y : Int} (ha : Is a x) (hb : Is b y) : (FloatKind.f64.format.order a b == some .lt || FloatKind.f64.format.order a b == some .eq) = decide (x ≤ y) := by
  rw [ford ha hb]
  rcases Int.lt_trichotomy x y with h | h | h
  · rw [Int.compare_eq_lt.2 h]; simp; omega
  · subst h; rw [Int.compare_eq_eq.2 rfl]; simp
  · rw [Int.compare_eq_gt.2 h]; simp; omega
theorem fgtr {a b : Nat} {x y : Int} (ha : Is a x) (hb : Is b y) : (FloatKind.f64.format.order a b == some .gt) = decide (y < x) := by
  rw [ford ha hb]
  rcases Int.lt_trichotomy x y with h | h | h
  · rw [Int.compare_eq_lt.2 h]; simp; omega
  · subst h; rw [Int.compare_eq_eq.2 rfl]; simp
  · rw [Int.compare_eq_gt.2 h]; simp; omega
theorem flss {a b : Nat} {x y : Int} (ha : Is a x) (hb : Is b y) : (FloatKind.f64.format.order a b == some .lt) = decide (x < y) := by
  rw [ford ha hb]
  rcases Int.lt_trichotomy x y with h | h | h
  · rw [Int.compare_eq_lt.2 h]; simp; omega
  · subst h; rw [Int.compare_eq_eq.2 rfl]; simp
  · rw [Int.compare_eq_gt.2 h]; simp; omega
theorem feql {a b : Nat} {x y : Int} (ha : Is a x) (hb : Is b y) : (FloatKind.f64.format.order a b == some .eq) = decide (x = y) := by
  rw [ford ha hb]
  rcases Int.lt_trichotomy x y with h | h | h
  · rw [Int.compare_eq_lt.2 h]; simp; omega
  · subst h; rw [Int.compare_eq_eq.2 rfl]; simp
  · rw [Int.compare_eq_gt.2 h]; simp; omega

def betw (x y z : Int) : Bool := decide (min x y ≤ z) && decide (z ≤ max x y)

theorem between_any (a b c : Nat) (x y z : Int) (w : World) (ha : Is a x) (hb : Is b y) (hc : Is c z) :
    Calls Try.prog 26 #[.float .f64 a, .float .f64 b, .float .f64 c] w fun e w' => e = .returned (.bool (betw x y z)) ∧ w = w' := by
  obtain ⟨m, hm, rm⟩ := fmin_any a b x y ha hb
  obtain ⟨n, hn, rn⟩ := fmax_any a b x y ha hb
  have q1 := fleq hm hc
  have q2 := fleq hc hn
  unfold betw
  by_cases h1 : min x y ≤ z
  · by_cases h2 : z ≤ max x y
    · rw [decide_eq_true h1] at q1 ⊢
      rw [decide_eq_true h2] at q2 ⊢
      clear ha hb hc hm hn h1 h2
      go_enter Try.func26, Try.ntmps26
      go_wp2
      go_ret
      exact ⟨rfl, rfl⟩
    · rw [decide_eq_true h1] at q1 ⊢
      rw [decide_eq_false h2] at q2 ⊢
      clear ha hb hc hm hn h1 h2
      go_enter Try.func26, Try.ntmps26
      go_wp2
      go_ret
      exact ⟨rfl, rfl⟩
  · rw [decide_eq_false h1] at q1 ⊢
    clear ha hb hc hm hn h1
    go_enter Try.func26, Try.ntmps26
    go_wp2
    go_ret
    exact ⟨rfl, rfl⟩

def crs (a b c d : Int) : Int := a * d - b * c
def leftOf (f t z : Int × Int) : Int := crs (t.1 - f.1) (t.2 - f.2) (z.1 - f.1) (z.2 - f.2)
def onSide (f t z : Int × Int) : Bool := decide (leftOf f t z = 0) && betw f.1 t.1 z.1 && betw f.2 t.2 z.2
def Sm (p : Int × Int) : Prop := 0 ≤ p.1 ∧ p.1 < 1048576 ∧ 0 ≤ p.2 ∧ p.2 < 1048576
def CxIs (a b : Nat) (p : Int × Int) : Prop := Is a p.1 ∧ Is b p.2

theorem csub_any (a b c d : Nat) (p q : Int × Int) (hp : CxIs a b p) (hq : CxIs c d q) (sp : Sm p) (sq : Sm q) :
    ∃ m n, CxIs m n (p.1 - q.1, p.2 - q.2) ∧ ∀ t w, (binOp .sub t (.complex .f64 a b) (.complex .f64 c d)).run Try.prog w = .ok (.complex .f64 m n) w := by
  unfold Sm at sp sq
  obtain ⟨m, e1, i1⟩ := is_sub hp.1 hq.1 (by omega) (by omega)
  obtain ⟨n, e2, i2⟩ := is_sub hp.2 hq.2 (by omega) (by omega)
  refine ⟨m, n, ⟨i1, i2⟩, fun t w => run_complex_sum w .sub (.inr rfl) t .f64 a b c d m n ?_⟩
  have f1 : floatBits .sub .f64 a c = some m := e1
  have f2 : floatBits .sub .f64 b d = some n := e2
  simp [cSumBits, f1, f2]

theorem left_any (a b c d : Nat) (p q : Int × Int) (hp : CxIs a b p) (hq : CxIs c d q) (h1 : -1048576 < p.1 ∧ p.1 < 1048576) (h2 : -1048576 < p.2 ∧ p.2 < 1048576) (h3 : -1048576 < q.1 ∧ q.1 < 1048576) (h4 : -1048576 < q.2 ∧ q.2 < 1048576) :
    ∃ r, Is r (crs p.1 p.2 q.1 q.2) ∧ ∀ w, Calls Try.prog 19 #[.complex .f64 a b, .complex .f64 c d] w fun e w' => e = .returned (.float .f64 r) ∧ w = w' :=
  cross_any a b c d p.1 p.2 q.1 q.2 default hp.1 hp.2 hq.1 hq.2 h1 h2 h3 h4

theorem is_zero : Is 0 0 := by
  obtain ⟨j, hj⟩ : ∃ j : Nat, j = 1074 := ⟨_, rfl⟩
  have e : (-(j : Int)) = -1074 := by omega
  exact ⟨false, 0, j, by rw [Nat.zero_mul, e]; exact read_zero false, by omega, by simp⟩

theorem on_any (a b c d g h : Nat) (f t z : Int × Int) (w : World) (hf : CxIs a b f) (ht : CxIs c d t) (hz : CxIs g h z) (sf : Sm f) (st : Sm t) (sz : Sm z) :
    Calls Try.prog 25 #[.complex .f64 a b, .complex .f64 c d, .complex .f64 g h] w fun e w' => e = .returned (.bool (onSide f t z)) ∧ w = w' := by
  obtain ⟨m1, n1, i1, r1⟩ := csub_any c d a b t f ht hf st sf
  obtain ⟨m2, n2, i2, r2⟩ := csub_any g h a b z f hz hf sz sf
  unfold Sm at sf st sz
  obtain ⟨r, ir, C1⟩ := left_any m1 n1 m2 n2 _ _ i1 i2 ⟨by dsimp only; omega, by dsimp only; omega⟩ ⟨by dsimp only; omega, by dsimp only; omega⟩ ⟨by dsimp only; omega, by dsimp only; omega⟩ ⟨by dsimp only; omega, by dsimp only; omega⟩
  have q1 := feql ir is_zero
  have C2 := fun w => between_any a c g f.1 t.1 z.1 w hf.1 ht.1 hz.1
  have C3 := fun w => between_any b d h f.2 t.2 z.2 w hf.2 ht.2 hz.2
  have el : crs (t.1 - f.1, t.2 - f.2).1 (t.1 - f.1, t.2 - f.2).2 (z.1 - f.1, z.2 - f.2).1 (z.1 - f.1, z.2 - f.2).2 = leftOf f t z := rfl
  rw [el] at q1
  unfold onSide
  clear i1 i2 ir hf ht hz sf st sz el
  obtain ⟨B1, e1⟩ : ∃ B, decide (leftOf f t z = 0) = B := ⟨_, rfl⟩
  obtain ⟨B2, e2⟩ : ∃ B, betw f.1 t.1 z.1 = B := ⟨_, rfl⟩
  obtain ⟨B3, e3⟩ : ∃ B, betw f.2 t.2 z.2 = B := ⟨_, rfl⟩
  rw [e1] at q1 ⊢
  rw [e2] at C2 ⊢
  rw [e3] at C3 ⊢
  clear e1 e2 e3
  cases B1
  · go_enter Try.func25, Try.ntmps25
    go_wp2_with (go_at_call 19; refine (C1 _).mono ?_; rintro e w' ⟨rfl, rfl⟩)
    go_ret
    exact ⟨rfl, rfl⟩
  · cases B2
    · go_enter Try.func25, Try.ntmps25
      go_wp2_with (first | (go_at_call 19; refine (C1 _).mono ?_; rintro e w' ⟨rfl, rfl⟩) | (go_at_call 26; refine (C2 _).mono ?_; rintro e w' ⟨rfl, rfl⟩))
      go_ret
      exact ⟨rfl, rfl⟩
    · go_enter Try.func25, Try.ntmps25
      go_wp2_with (first | (go_at_call 19; refine (C1 _).mono ?_; rintro e w' ⟨rfl, rfl⟩) | (go_at_call 26; with_reducible (first | refine (C2 _).mono ?_ | refine (C3 _).mono ?_); rintro e w' ⟨rfl, rfl⟩))
      go_ret
      exact ⟨rfl, rfl⟩
end Go.Proofs.Ytbcfbbeefkdpoaa
