/- Plain facts: entries in z-order; sums of entries. -/
import Derived.Test.YtdjemmopecchmaaNd
namespace Go.Proofs.Ytdjemmopecchmaa
open Go.RowKit Key
set_option linter.unusedVariables false
set_option linter.unusedSimpArgs false

/-- an entry: a point, a value -/
abbrev Ent := List Int × Int
def SortL (L : List Ent) : Prop := L.Pairwise fun x y => key x.1 < key y.1
theorem sorted_ext {L : List Ent} : ∀ {L' : List Ent}, SortL L → SortL L' → (∀ e, e ∈ L ↔ e ∈ L') → L = L' := by
  induction L with
  | nil =>
    intro L' _ _ hm
    cases L' with
    | nil => rfl
    | cons y r => exact absurd ((hm y).2 (by simp)) (by simp)
  | cons x r ih =>
    intro L' h h' hm
    cases L' with
    | nil => exact absurd ((hm x).1 (by simp)) (by simp)
    | cons y r' =>
      obtain ⟨h1, h2⟩ := List.pairwise_cons.1 h
      obtain ⟨h1', h2'⟩ := List.pairwise_cons.1 h'
      have hxy : x = y := by
        rcases List.mem_cons.1 ((hm x).1 (by simp)) with e | e
        · exact e
        · rcases List.mem_cons.1 ((hm y).2 (by simp)) with e' | e'
          · exact e'.symm
          · have := h1' x e; have := h1 y e'; omega
      subst hxy
      congr 1
      apply ih h2 h2'
      intro e
      constructor
      · intro he
        rcases List.mem_cons.1 ((hm e).1 (List.mem_cons_of_mem _ he)) with e' | e'
        · subst e'; have := h1 e he; omega
        · exact e'
      · intro he
        rcases List.mem_cons.1 ((hm e).2 (List.mem_cons_of_mem _ he)) with e' | e'
        · subst e'; have := h1' e he; omega
        · exact e'

abbrev M64 : Int := 18446744073709551616
def U (v : Int) : Prop := 0 ≤ v ∧ v < M64
structure S4 where
  c : Int
  sm : Int
  mn : Int
  mx : Int
def S4.one (v : Int) : S4 := ⟨1, v, v, v⟩
def S4.add (a b : S4) : S4 := ⟨(a.c + b.c) % M64, (a.sm + b.sm) % M64, if b.mn < a.mn then b.mn else a.mn, if a.mx < b.mx then b.mx else a.mx⟩
theorem S4.add_assoc (a b c : S4) : (a.add b).add c = a.add (b.add c) := by
  simp only [S4.add, S4.mk.injEq]
  refine ⟨by simp only [M64]; omega, by simp only [M64]; omega, ?_, ?_⟩
  · split <;> split <;> (try split) <;> (try split) <;> omega
  · split <;> split <;> (try split) <;> (try split) <;> omega
def sums : List Ent → S4
  | [] => ⟨0, 0, 0, 0⟩
  | e :: r => r.foldl (fun s e => s.add (.one e.2)) (.one e.2)
theorem foldl_sums (e : Ent) (r : List Ent) : ∀ s : S4, (e :: r).foldl (fun s e => s.add (.one e.2)) s = s.add (sums (e :: r)) := by
  have key : ∀ (r : List Ent) (s t : S4), r.foldl (fun s e => s.add (.one e.2)) (s.add t) = s.add (r.foldl (fun s e => s.add (.one e.2)) t) := by
    intro r
    induction r with
    | nil => intro s t; rfl
    | cons x r ih => intro s t; simp only [List.foldl_cons]; rw [S4.add_assoc]; exact ih _ _
  intro s
  simp only [List.foldl_cons, sums]
  exact key r s _
theorem sums_append {A C : List Ent} (ha : A ≠ []) (hc : C ≠ []) : sums (A ++ C) = (sums A).add (sums C) := by
  cases A with
  | nil => exact absurd rfl ha
  | cons a A =>
    cases C with
    | nil => exact absurd rfl hc
    | cons c C =>
      simp only [List.cons_append, sums, List.foldl_append]
      exact foldl_sums c C _
theorem sums_c {L : List Ent} (h : (L.length : Int) < M64) : (sums L).c = L.length := by
  cases L with
  | nil => rfl
  | cons e r =>
    simp only [sums]
    have : ∀ (r : List Ent) (s : S4) (n : Nat), s.c = n → ((n + r.length : Nat) : Int) < M64 → (r.foldl (fun s e => s.add (.one e.2)) s).c = ((n + r.length : Nat) : Int) := by
      intro r
      induction r with
      | nil => intro s n h _; simpa using h
      | cons x r ih =>
        intro s n h hb
        simp only [List.foldl_cons, List.length_cons] at *
        rw [ih _ (n + 1) _ (by omega)]
        · congr 1; omega
        · simp only [S4.add, S4.one, h, M64] at *; omega
    rw [this r _ 1 rfl (by simpa [Nat.add_comm] using h)]
    simp [Nat.add_comm]

/-- behind a put; behind a deletion -/
def IsPut (L : List Ent) (p : List Int) (v : Int) (L' : List Ent) : Prop := ∀ e, e ∈ L' ↔ e = (p, v) ∨ (e ∈ L ∧ e.1 ≠ p)
def IsDel (L : List Ent) (p : List Int) (L' : List Ent) : Prop := ∀ e, e ∈ L' ↔ e ∈ L ∧ e.1 ≠ p

theorem mem_putM {M : List (Nat × Nat)} {a b : Nat} {x : Nat × Nat} : x ∈ putM M a b ↔ x = (a, b) ∨ (x ∈ M ∧ x.1 ≠ a) := by
  simp only [putM, List.mem_append, List.mem_cons, List.mem_filter, decide_eq_true_eq]
  constructor
  · rintro (⟨h, h'⟩ | h | ⟨h, h'⟩)
    · exact Or.inr ⟨h, by omega⟩
    · exact Or.inl h
    · exact Or.inr ⟨h, by omega⟩
  · rintro (h | ⟨h, h'⟩)
    · exact Or.inr (Or.inl h)
    · rcases Nat.lt_or_gt_of_ne h' with g | g
      · exact Or.inl ⟨h, g⟩
      · exact Or.inr (Or.inr ⟨h, g⟩)
theorem mem_delM {M : List (Nat × Nat)} {a : Nat} {x : Nat × Nat} : x ∈ delM M a ↔ x ∈ M ∧ x.1 ≠ a := by
  simp [delM, List.mem_filter]

/-- what a node holds: its level and one, the digits above, the entries, the nodes' blocks -/
structure K4 where
  lo : Nat
  pf : Nat
  L : List Ent
  N : List Nat

inductive NodeOf (w : World) (k : Nat) : Nat → K4 → Prop
  | leaf (b : Nat) (p : List Int) (v : Int) (K : K4) (hh : HdAt w b ⟨-1, p, v, none, 1, v, v, v⟩) (hl : p.length = k) (h1 : 1 ≤ k) (h16 : k ≤ 16) (hp : Ok p) (hv : U v)
      (hK : K = ⟨0, key p, [(p, v)], [b]⟩) : NodeOf w k b K
  | node (b lv h s : Nat) (M : List (Nat × Nat)) (f : Nat → K4) (pre : List Int) (K : K4) (hh : HdAt w b ⟨lv, pre, 0, some s, (sums K.L).c, (sums K.L).sm, (sums K.L).mn, (sums K.L).mx⟩)
      (hl : pre.length = k) (hp : Ok pre) (hlv : lv < 64) (hpre : key pre = h * (2 ^ k) ^ (lv + 1)) (hs : SM w s k M) (h2 : 2 ≤ M.length) (hk : ∀ x ∈ M, NodeOf w k x.2 (f x.1))
      (hf : ∀ x ∈ M, (f x.1).lo ≤ lv ∧ (f x.1).pf / (2 ^ k) ^ (lv - (f x.1).lo) = h * 2 ^ k + x.1)
      (hK : K = ⟨lv + 1, h, M.flatMap fun x => (f x.1).L, b :: M.flatMap fun x => (f x.1).N⟩) : NodeOf w k b K

theorem NodeOf.bel {w w' : World} {k b : Nat} {K : K4} (h : NodeOf w k b K) (hb : Below w.heap.size w w') : NodeOf w' k b K := by
  induction h with
  | leaf b p v K hh hl h1 h16 hp hv hK => exact .leaf b p v K (hh.below hb) hl h1 h16 hp hv hK
  | node b lv h s M f pre K hh hl hp hlv hpre hs h2 hk hf hK ih => exact .node b lv h s M f pre K (hh.below hb) hl hp hlv hpre (hs.below hb) h2 ih hf hK
theorem NodeOf.k {w : World} {k b : Nat} {K : K4} (h : NodeOf w k b K) : 1 ≤ k ∧ k ≤ 16 := by
  cases h with
  | leaf _ p v _ hh hl h1 h16 hp hv hK => exact ⟨h1, h16⟩
  | node _ lv h s M f pre _ hh hl hp hlv hpre hs h2 hk hf hK => exact ⟨hs.2.2.2.1, hs.2.2.2.2⟩
theorem NodeOf.lo {w : World} {k b : Nat} {K : K4} (h : NodeOf w k b K) : K.lo ≤ 64 := by
  cases h with
  | leaf _ p v _ hh hl h1 h16 hp hv hK => subst hK; exact Nat.zero_le _
  | node _ lv h s M f pre _ hh hl hp hlv hpre hs h2 hk hf hK => subst hK; exact hlv
theorem NodeOf.ne {w : World} {k b : Nat} {K : K4} (h : NodeOf w k b K) : K.L ≠ [] := by
  induction h with
  | leaf b p v K hh hl h1 h16 hp hv hK => subst hK; simp
  | node b lv h s M f pre K hh hl hp hlv hpre hs h2 hk hf hK ih =>
    subst hK
    cases M with
    | nil => simp at h2
    | cons x M =>
      simp only [List.flatMap_cons, ne_eq, List.append_eq_nil_iff, not_and]
      intro h
      exact absurd h (ih x (by simp))
theorem NodeOf.mem {w : World} {k b : Nat} {K : K4} (h : NodeOf w k b K) : ∀ e ∈ K.L, e.1.length = k ∧ Ok e.1 ∧ U e.2 ∧ key e.1 / (2 ^ k) ^ K.lo = K.pf := by
  induction h with
  | leaf b p v K hh hl h1 h16 hp hv hK => subst hK; intro e he; simp only [List.mem_singleton] at he; subst he; exact ⟨hl, hp, hv, by simp⟩
  | node b lv h s M f pre K hh hl hp hlv hpre hs h2 hk hf hK ih =>
    subst hK
    intro e he
    simp only [List.mem_flatMap] at he
    obtain ⟨x, hx, he⟩ := he
    obtain ⟨e1, e2, e3, e4⟩ := ih x hx e he
    obtain ⟨f1, f2⟩ := hf x hx
    refine ⟨e1, e2, e3, ?_⟩
    have hu := hs.2.2.1 x hx
    have : key e.1 / (2 ^ k) ^ lv = h * 2 ^ k + x.1 := by
      rw [← f2, ← e4, Nat.div_div_eq_div_mul, ← Nat.pow_add, show (f x.1).lo + (lv - (f x.1).lo) = lv by omega]
    show key e.1 / (2 ^ k) ^ (lv + 1) = h
    rw [Nat.pow_succ, ← Nat.div_div_eq_div_mul, this, Nat.mul_comm, Nat.mul_add_div (Nat.two_pow_pos k), Nat.div_eq_of_lt hu]; simp
/-- of a kid -/
theorem kid_addr {w : World} {k lv h : Nat} {K : K4} {a b : Nat} (hK : NodeOf w k b K) (h1 : K.lo ≤ lv) (hlv : lv < 64) (hf : K.pf / (2 ^ k) ^ (lv - K.lo) = h * 2 ^ k + a) (ha : a < 2 ^ k) :
    ∀ e ∈ K.L, key e.1 / (2 ^ k) ^ lv = h * 2 ^ k + a ∧ addr e.1 lv = a := by
  intro e he
  obtain ⟨e1, e2, e3, e4⟩ := hK.mem e he
  have : key e.1 / (2 ^ k) ^ lv = h * 2 ^ k + a := by
    rw [← hf, ← e4, Nat.div_div_eq_div_mul, ← Nat.pow_add, show K.lo + (lv - K.lo) = lv by omega]
  refine ⟨this, ?_⟩
  rw [← key_digit e.1 lv hlv]
  unfold B
  rw [e1, this, Nat.mul_comm, Nat.mul_add_mod, Nat.mod_eq_of_lt ha]
theorem flatMap_sorted {α : Type} {M : List (Nat × Nat)} (f : Nat × Nat → List α) (q : α → Nat) (r : α → α → Prop) (hs : Sorted M) (hm : ∀ x ∈ M, ∀ e ∈ f x, q e = x.1) (hr : ∀ x ∈ M, ∀ y ∈ M, ∀ e ∈ f x, ∀ g ∈ f y, q e < q g → r e g)
    (h1 : ∀ x ∈ M, (f x).Pairwise r) : (M.flatMap f).Pairwise r := by
  induction M with
  | nil => simp
  | cons x M ih =>
    obtain ⟨g1, g2⟩ := List.pairwise_cons.1 hs
    simp only [List.flatMap_cons]
    rw [List.pairwise_append]
    refine ⟨h1 x (by simp), ih g2 (fun y hy => hm y (List.mem_cons_of_mem _ hy)) (fun y hy z hz => hr y (List.mem_cons_of_mem _ hy) z (List.mem_cons_of_mem _ hz)) (fun y hy => h1 y (List.mem_cons_of_mem _ hy)), ?_⟩
    intro e he g hg
    simp only [List.mem_flatMap] at hg
    obtain ⟨y, hy, hg⟩ := hg
    apply hr x (by simp) y (List.mem_cons_of_mem _ hy) e he g hg
    rw [hm x (by simp) e he, hm y (List.mem_cons_of_mem _ hy) g hg]
    exact g1 y hy
theorem lt_of_div {a b m : Nat} (h : a / m < b / m) : a < b := by
  rcases Nat.lt_or_ge a b with h' | h'
  · exact h'
  · exact absurd (Nat.div_le_div_right (c := m) h') (by omega)
theorem NodeOf.sorted {w : World} {k b : Nat} {K : K4} (h : NodeOf w k b K) : SortL K.L := by
  induction h with
  | leaf b p v K hh hl h1 h16 hp hv hK => subst hK; simp [SortL]
  | node b lv h s M f pre K hh hl hp hlv hpre hs h2 hk hf hK ih =>
    subst hK
    refine flatMap_sorted _ (fun e => addr e.1 lv) _ hs.2.1 ?_ ?_ ih
    · intro x hx e he
      exact (kid_addr (hk x hx) (hf x hx).1 hlv (hf x hx).2 (hs.2.2.1 x hx) e he).2
    · intro x hx y hy e he g hg hlt
      obtain ⟨q1, q2⟩ := kid_addr (hk x hx) (hf x hx).1 hlv (hf x hx).2 (hs.2.2.1 x hx) e he
      obtain ⟨r1, r2⟩ := kid_addr (hk y hy) (hf y hy).1 hlv (hf y hy).2 (hs.2.2.1 y hy) g hg
      apply lt_of_div (m := (2 ^ k) ^ lv)
      rw [q1, r1]; omega
/-- the head of a node, of either kind -/
theorem NodeOf.hd {w : World} {k b : Nat} {K : K4} (h : NodeOf w k b K) : ∃ g : Head, HdAt w b g ∧ g.lv = (K.lo : Int) - 1 ∧ g.pre.length = k ∧ Ok g.pre ∧ key g.pre = K.pf * (2 ^ k) ^ K.lo ∧
    g.c = (sums K.L).c ∧ g.sm = (sums K.L).sm ∧ g.mn = (sums K.L).mn ∧ g.mx = (sums K.L).mx := by
  cases h with
  | leaf _ p v _ hh hl h1 h16 hp hv hK => subst hK; exact ⟨_, hh, rfl, hl, hp, by simp, rfl, rfl, rfl, rfl⟩
  | node _ lv h s M f pre _ hh hl hp hlv hpre hs h2 hk hf hK => refine ⟨_, hh, ?_, hl, hp, ?_, rfl, rfl, rfl, rfl⟩; (subst hK; show (lv : Int) = ((lv + 1 : Nat) : Int) - 1; omega); (subst hK; exact hpre)
theorem NodeOf.lt {w : World} {k b : Nat} {K : K4} (h : NodeOf w k b K) : b < w.heap.size := by
  obtain ⟨g, hg, _⟩ := h.hd
  exact hg.lt
/-- whether a node covers a point -/
theorem covers_iff {k : Nat} {K : K4} {pre p : List Int} {lv : Int} (h1 : lv = (K.lo : Int) - 1) (h2 : pre.length = k) (h3 : Ok pre) (h4 : key pre = K.pf * (2 ^ k) ^ K.lo) (h5 : K.lo ≤ 64) (hl : p.length = k) (hp : Ok p) :
    (parts pre p : Int) - 1 ≤ lv ↔ key p / (2 ^ k) ^ K.lo = K.pf := by
  have hh := parts_le_iff pre p (by omega) h3 hp K.lo h5
  have e : key pre / B pre ^ K.lo = K.pf := by
    unfold B; rw [h2, h4]; exact Nat.mul_div_cancel _ (Nat.pow_pos (Nat.two_pow_pos k))
  rw [e] at hh
  unfold B at hh
  rw [hl] at hh
  constructor
  · intro h; exact (hh.1 (by omega)).symm
  · intro h; have := hh.2 h.symm; omega
theorem NodeOf.out {w : World} {k b : Nat} {K : K4} (h : NodeOf w k b K) {p : List Int} (hn : key p / (2 ^ k) ^ K.lo ≠ K.pf) : ∀ e ∈ K.L, e.1 ≠ p := by
  intro e he hh
  subst hh
  exact hn (h.mem e he).2.2.2
end Go.Proofs.Ytdjemmopecchmaa
