/- Plain facts: cells of slots, and the things that they hold. -/
set_option linter.unusedVariables false
set_option linter.unusedSimpArgs false
namespace Go.Proofs.Ytdjemmopecchmaa

/-- a cell of slots -/
structure Cell where
  a : Nat
  x : Option Nat
  has : Bool
/-- what a cell holds -/
def Cell.pr (c : Cell) : Option (Nat × Nat) := if c.has then c.x.map fun b => (c.a, b) else none
/-- the things, with their addresses -/
def pairs (cs : List Cell) : List (Nat × Nat) := cs.filterMap Cell.pr
/-- whatever is there is something -/
def Full (cs : List Cell) : Prop := ∀ c ∈ cs, c.has = true → ∃ b, c.x = some b
/-- rising addresses -/
def Rising (cs : List Cell) : Prop := ∀ i j (hi : i < cs.length) (hj : j < cs.length), i < j → cs[i].a < cs[j].a
def cellOf (p : Nat × Nat) : Cell := ⟨p.1, some p.2, true⟩
/-- at an address -/
def lk (M : List (Nat × Nat)) (a : Int) : Option Nat := (M.find? fun p => decide ((p.1 : Int) = a)).map (·.2)
/-- the first one from an address on -/
def fromM (M : List (Nat × Nat)) (a : Int) : Option (Nat × Nat) := M.find? fun p => decide (a ≤ (p.1 : Int))
/-- the last one up to an address -/
def upToM (M : List (Nat × Nat)) (a : Int) : Option (Nat × Nat) := M.reverse.find? fun p => decide ((p.1 : Int) ≤ a)

theorem pairs_append (a b : List Cell) : pairs (a ++ b) = pairs a ++ pairs b := by simp [pairs, List.filterMap_append]
theorem pairs_nil : pairs [] = [] := rfl
theorem pairs_cons_has {c : Cell} {cs : List Cell} {b : Nat} (h : c.has = true) (hx : c.x = some b) : pairs (c :: cs) = (c.a, b) :: pairs cs := by
  simp [pairs, Cell.pr, h, hx]
theorem pairs_cons_not {c : Cell} {cs : List Cell} (h : c.has = false) : pairs (c :: cs) = pairs cs := by
  simp [pairs, Cell.pr, h]
theorem pairs_mem {cs : List Cell} {p : Nat × Nat} (h : p ∈ pairs cs) : ∃ i, ∃ hi : i < cs.length, cs[i].a = p.1 ∧ cs[i].has = true ∧ cs[i].x = some p.2 := by
  simp only [pairs, List.mem_filterMap] at h
  obtain ⟨c, hc, hp⟩ := h
  obtain ⟨i, hi, rfl⟩ := List.getElem_of_mem hc
  refine ⟨i, hi, ?_⟩
  unfold Cell.pr at hp
  split at hp
  · rename_i hh
    cases hx : (cs[i]).x with
    | none => rw [hx] at hp; simp at hp
    | some b => rw [hx] at hp; simp at hp; subst hp; exact ⟨rfl, hh, rfl⟩
  · cases hp
theorem pairs_split (cs : List Cell) (i : Nat) : pairs cs = pairs (cs.take i) ++ pairs (cs.drop i) := by rw [← pairs_append, List.take_append_drop]
theorem pairs_drop_has {cs : List Cell} {i : Nat} (hi : i < cs.length) {b : Nat} (h : cs[i].has = true) (hx : cs[i].x = some b) : pairs (cs.drop i) = (cs[i].a, b) :: pairs (cs.drop (i + 1)) := by
  rw [List.drop_eq_getElem_cons hi, pairs_cons_has h hx]
theorem pairs_drop_not {cs : List Cell} {i : Nat} (hi : i < cs.length) (h : cs[i].has = false) : pairs (cs.drop i) = pairs (cs.drop (i + 1)) := by
  rw [List.drop_eq_getElem_cons hi, pairs_cons_not h]
theorem pairs_take_has {cs : List Cell} {i : Nat} (hi : i < cs.length) {b : Nat} (h : cs[i].has = true) (hx : cs[i].x = some b) : pairs (cs.take (i + 1)) = pairs (cs.take i) ++ [(cs[i].a, b)] := by
  rw [List.take_succ_eq_append_getElem hi, pairs_append, pairs_cons_has h hx]; rfl
theorem pairs_take_not {cs : List Cell} {i : Nat} (hi : i < cs.length) (h : cs[i].has = false) : pairs (cs.take (i + 1)) = pairs (cs.take i) := by
  rw [List.take_succ_eq_append_getElem hi, pairs_append, pairs_cons_not h, pairs_nil, List.append_nil]

/-- a place parts the cells: those ahead of it are below an address, the others aren't -/
def Parts (cs : List Cell) (a : Int) (n : Nat) : Prop := n ≤ cs.length ∧ (∀ i (h : i < cs.length), i < n → (cs[i].a : Int) < a) ∧ (∀ i (h : i < cs.length), n ≤ i → a ≤ (cs[i].a : Int))
theorem Parts.ahead {cs : List Cell} {a : Int} {n : Nat} (h : Parts cs a n) {p : Nat × Nat} (hp : p ∈ pairs (cs.take n)) : (p.1 : Int) < a := by
  obtain ⟨i, hi, h1, _⟩ := pairs_mem hp
  simp only [List.length_take] at hi
  simp only [List.getElem_take] at h1
  have := h.2.1 i (by omega) (by omega)
  omega
theorem Parts.behind {cs : List Cell} {a : Int} {n : Nat} (h : Parts cs a n) {p : Nat × Nat} (hp : p ∈ pairs (cs.drop n)) : a ≤ (p.1 : Int) := by
  obtain ⟨i, hi, h1, _⟩ := pairs_mem hp
  simp only [List.length_drop] at hi
  simp only [List.getElem_drop] at h1
  have := h.2.2 (n + i) (by omega) (by omega)
  omega
theorem find?_none_of {α : Type} {l : List α} {q : α → Bool} (h : ∀ x ∈ l, q x = false) : l.find? q = none := by
  rw [List.find?_eq_none]; intro x hx; simp [h x hx]
theorem Parts.from_ {cs : List Cell} {a : Int} {n : Nat} (h : Parts cs a n) : fromM (pairs cs) a = (pairs (cs.drop n)).head? := by
  unfold fromM
  rw [pairs_split cs n, List.find?_append, find?_none_of (fun x hx => by have := h.ahead hx; simp; omega)]
  simp only [Option.none_or]
  cases hd : pairs (cs.drop n) with
  | nil => rfl
  | cons p r =>
    have := h.behind (p := p) (by rw [hd]; simp)
    simp [this]
theorem Parts.lk_has {cs : List Cell} {a : Int} {n : Nat} (h : Parts cs a n) (hn : n < cs.length) (ha : (cs[n].a : Int) = a) {b : Nat} (hh : cs[n].has = true) (hx : cs[n].x = some b) : lk (pairs cs) a = some b := by
  unfold lk
  rw [pairs_split cs n, List.find?_append, find?_none_of (fun x hx => by have := h.ahead hx; simp; omega), pairs_drop_has hn hh hx]
  simp [ha]
theorem Parts.lk_none {cs : List Cell} {a : Int} {n : Nat} (hr : Rising cs) (h : Parts cs a n) (hno : ∀ hn : n < cs.length, (cs[n].a : Int) = a → cs[n].has = false) : lk (pairs cs) a = none := by
  unfold lk
  rw [find?_none_of]; rfl
  intro p hp
  obtain ⟨i, hi, h1, h2, _⟩ := pairs_mem hp
  simp only [decide_eq_false_iff_not]
  intro he
  rcases Nat.lt_trichotomy i n with hlt | rfl | hgt
  · have := h.2.1 i hi hlt; omega
  · have := hno hi (by omega); rw [this] at h2; cases h2
  · have := hr n i (by omega) hi hgt
    have := h.2.2 n (by omega) (Nat.le_refl _)
    omega
theorem head?_last {α : Type} (l : List α) (q : α → Bool) (h : ∀ x ∈ l, q x = true) : l.reverse.find? q = l.getLast? := by
  rw [← List.head?_reverse]
  cases hr : l.reverse with
  | nil => rfl
  | cons x r =>
    have : x ∈ l := by rw [← List.mem_reverse, hr]; simp
    simp [h x this]
theorem Parts.upTo {cs : List Cell} {a : Int} {n : Nat} (hr : Rising cs) (h : Parts cs a n) (m : Nat) (hm : m ≤ cs.length) (h1 : ∀ i (hi : i < cs.length), i < m → (cs[i].a : Int) ≤ a) (h2 : ∀ i (hi : i < cs.length), m ≤ i → cs[i].has = true → a < (cs[i].a : Int)) :
    upToM (pairs cs) a = (pairs (cs.take m)).getLast? := by
  unfold upToM
  rw [pairs_split cs m, List.reverse_append, List.find?_append, find?_none_of (l := (pairs (cs.drop m)).reverse)]
  · simp only [Option.none_or]
    rw [head?_last]
    intro p hp
    obtain ⟨i, hi, e1, _⟩ := pairs_mem hp
    simp only [List.length_take] at hi
    simp only [List.getElem_take] at e1
    have := h1 i (by omega) (by omega)
    simp; omega
  · intro p hp
    rw [List.mem_reverse] at hp
    obtain ⟨i, hi, e1, e2, _⟩ := pairs_mem hp
    simp only [List.length_drop] at hi
    simp only [List.getElem_drop] at e1 e2
    have := h2 (m + i) (by omega) (by omega) e2
    simp; omega

/-! ### the way in which things are kept -/
def isDense (k n : Nat) : Bool := decide (k ≤ 6) && decide (2 ^ k < 2 * n)
def denseCell (M : List (Nat × Nat)) (i : Nat) : Cell := ⟨i, lk M i, (lk M i).isSome⟩
def denseCells (k : Nat) (M : List (Nat × Nat)) : List Cell := (List.range (2 ^ k)).map (denseCell M)
def layout (k : Nat) (M : List (Nat × Nat)) : List Cell := if isDense k M.length then denseCells k M else M.map cellOf
/-- rising addresses, all below a bound -/
def Sorted (M : List (Nat × Nat)) : Prop := M.Pairwise fun p q => p.1 < q.1
def Under (k : Nat) (M : List (Nat × Nat)) : Prop := ∀ p ∈ M, p.1 < 2 ^ k
theorem rising_iff (cs : List Cell) : Rising cs ↔ cs.Pairwise fun c d => c.a < d.a := by
  rw [List.pairwise_iff_getElem]
  exact Iff.rfl
theorem sorted_len {k : Nat} {M : List (Nat × Nat)} (hs : Sorted M) (hu : Under k M) : M.length ≤ 2 ^ k := by
  suffices h : ∀ (M : List (Nat × Nat)) (b : Nat), Sorted M → (∀ p ∈ M, b ≤ p.1 ∧ p.1 < 2 ^ k) → M.length + b ≤ 2 ^ k ∨ M = [] by
    rcases h M 0 hs (fun p hp => ⟨Nat.zero_le _, hu p hp⟩) with h | h
    · omega
    · subst h; simp
  intro M
  induction M with
  | nil => intro b _ _; right; rfl
  | cons p r ih =>
    intro b h1 h2
    left
    obtain ⟨h3, h4⟩ := List.pairwise_cons.1 h1
    have hp := h2 p (by simp)
    rcases ih (p.1 + 1) h4 (fun q hq => ⟨h3 q hq, (h2 q (by simp [hq])).2⟩) with h | h
    · simp only [List.length_cons]; omega
    · subst h; simp only [List.length_cons, List.length_nil]; omega
theorem pairs_map_cellOf (M : List (Nat × Nat)) : pairs (M.map cellOf) = M := by
  induction M with
  | nil => rfl
  | cons p r ih => rw [List.map_cons, pairs_cons_has (b := p.2) rfl rfl, ih]; rfl
theorem lk_cons (p : Nat × Nat) (M : List (Nat × Nat)) (a : Int) : lk (p :: M) a = if (p.1 : Int) = a then some p.2 else lk M a := by
  unfold lk
  by_cases h : (p.1 : Int) = a <;> simp [h]
theorem lk_mem {M : List (Nat × Nat)} {a : Int} {b : Nat} (h : lk M a = some b) : ∃ n : Nat, (n : Int) = a ∧ (n, b) ∈ M := by
  induction M with
  | nil => simp [lk] at h
  | cons p M ih =>
    rw [lk_cons] at h
    split at h
    · rename_i he; cases h; exact ⟨p.1, he, by simp⟩
    · obtain ⟨n, h1, h2⟩ := ih h; exact ⟨n, h1, by simp [h2]⟩
theorem lk_of_mem {M : List (Nat × Nat)} (hs : Sorted M) {n b : Nat} (h : (n, b) ∈ M) : lk M n = some b := by
  induction M with
  | nil => simp at h
  | cons p M ih =>
    obtain ⟨h3, h4⟩ := List.pairwise_cons.1 hs
    rw [lk_cons]
    rcases List.mem_cons.1 h with h | h
    · subst h; simp
    · have := h3 _ h
      rw [if_neg (by simp at this; omega)]
      exact ih h4 h
/-- the things between two addresses -/
theorem pairs_dense (M : List (Nat × Nat)) (hs : Sorted M) (n : Nat) : pairs ((List.range n).map (denseCell M)) = M.filter fun p => decide (p.1 < n) := by
  induction n with
  | zero => simp [pairs]
  | succ n ih =>
    rw [List.range_succ, List.map_append, pairs_append, ih, List.map_singleton]
    have key : ∀ (M : List (Nat × Nat)), Sorted M → M.filter (fun p => decide (p.1 < n + 1)) = M.filter (fun p => decide (p.1 < n)) ++ (match lk M n with | some b => [(n, b)] | none => []) := by
      intro M
      induction M with
      | nil => intro _; simp [lk]
      | cons p M ihM =>
        intro hs
        obtain ⟨h3, h4⟩ := List.pairwise_cons.1 hs
        rw [lk_cons]
        rcases Nat.lt_trichotomy p.1 n with h | h | h
        · rw [List.filter_cons_of_pos (by simp; omega), List.filter_cons_of_pos (by simp; omega), ihM h4, if_neg (by omega)]; rfl
        · have e : M.filter (fun p => decide (p.1 < n + 1)) = [] := by
            rw [List.filter_eq_nil_iff]; intro q hq; have := h3 q hq; simp; omega
          have e' : M.filter (fun p => decide (p.1 < n)) = [] := by
            rw [List.filter_eq_nil_iff]; intro q hq; have := h3 q hq; simp; omega
          rw [List.filter_cons_of_pos (by simp; omega), List.filter_cons_of_neg (by simp; omega), e, e', if_pos (by omega)]
          simp [← h]
        · have e : M.filter (fun p => decide (p.1 < n + 1)) = [] := by
            rw [List.filter_eq_nil_iff]; intro q hq; have := h3 q hq; simp; omega
          have e' : M.filter (fun p => decide (p.1 < n)) = [] := by
            rw [List.filter_eq_nil_iff]; intro q hq; have := h3 q hq; simp; omega
          have e2 : lk M n = none := by
            cases hl : lk M n with
            | none => rfl
            | some b =>
              obtain ⟨m, hm, hmem⟩ := lk_mem hl
              have := h3 _ hmem
              simp at this; omega
          rw [List.filter_cons_of_neg (by simp; omega), List.filter_cons_of_neg (by simp; omega), e, e', if_neg (by omega), e2]; rfl
    rw [key M hs]
    congr 1
    cases hl : lk M n with
    | none => rw [pairs_cons_not (by simp [denseCell, hl])]; rfl
    | some b => rw [pairs_cons_has (b := b) (by simp [denseCell, hl]) (by simp [denseCell, hl])]; simp [denseCell, pairs]
theorem pairs_layout (k : Nat) (M : List (Nat × Nat)) (hs : Sorted M) (hu : Under k M) : pairs (layout k M) = M := by
  unfold layout
  split
  · unfold denseCells
    rw [pairs_dense M hs, List.filter_eq_self]
    intro p hp; simp [hu p hp]
  · exact pairs_map_cellOf M
theorem rising_layout (k : Nat) (M : List (Nat × Nat)) (hs : Sorted M) : Rising (layout k M) := by
  rw [rising_iff]
  unfold layout
  split
  · unfold denseCells
    rw [List.pairwise_map]
    exact List.pairwise_lt_range.imp (fun h => h)
  · rw [List.pairwise_map]; exact hs
theorem full_layout (k : Nat) (M : List (Nat × Nat)) : Full (layout k M) := by
  intro c hc hh
  unfold layout at hc
  split at hc
  · simp only [denseCells, List.mem_map] at hc
    obtain ⟨i, _, rfl⟩ := hc
    simp only [denseCell, Option.isSome_iff_exists] at hh
    exact hh
  · simp only [List.mem_map] at hc
    obtain ⟨p, _, rfl⟩ := hc
    exact ⟨p.2, rfl⟩
theorem layout_len (k : Nat) (M : List (Nat × Nat)) (hs : Sorted M) (hu : Under k M) : (layout k M).length ≤ 2 ^ k := by
  unfold layout
  split
  · simp [denseCells]
  · simpa using sorted_len hs hu
end Go.Proofs.Ytdjemmopecchmaa
