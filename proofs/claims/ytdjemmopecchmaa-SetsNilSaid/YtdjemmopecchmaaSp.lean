/- The walks over slots: Put, New. -/
import Derived.Test.YtdjemmopecchmaaIn
namespace Go.Proofs.Ytdjemmopecchmaa
open Go.RowKit Go.Proofs.YtdjemmopecchmaaW.PrintWords Key
set_option linter.unusedVariables false
set_option linter.unusedSimpArgs false

/-- with a thing at an address -/
def putM (M : List (Nat × Nat)) (a b : Nat) : List (Nat × Nat) := M.filter (fun p => decide (p.1 < a)) ++ (a, b) :: M.filter (fun p => decide (a < p.1))
theorem putM_sorted {M : List (Nat × Nat)} (h : Sorted M) (a b : Nat) : Sorted (putM M a b) := by
  unfold Sorted putM at *
  rw [List.pairwise_append, List.pairwise_cons]
  refine ⟨h.filter _, ⟨?_, h.filter _⟩, ?_⟩
  · intro q hq; simp at hq; exact hq.2
  · intro p hp q hq
    simp at hp hq
    rcases hq with rfl | hq
    · exact hp.2
    · omega
theorem putM_under {k : Nat} {M : List (Nat × Nat)} (h : Under k M) {a b : Nat} (ha : a < 2 ^ k) : Under k (putM M a b) := by
  intro p hp
  simp only [putM, List.mem_append, List.mem_cons, List.mem_filter] at hp
  rcases hp with hp | rfl | hp
  · exact h p hp.1
  · exact ha
  · exact h p hp.1
theorem filter_split (M : List (Nat × Nat)) (hs : Sorted M) (a i : Nat) (hi : i ≤ M.length) (h1 : ∀ j (h : j < M.length), j < i → M[j].1 < a) (h2 : ∀ j (h : j < M.length), i ≤ j → a ≤ M[j].1) :
    M.filter (fun p => decide (p.1 < a)) = M.take i ∧ M.filter (fun p => decide (a < p.1)) = if h : i < M.length then (if M[i].1 = a then M.drop (i + 1) else M.drop i) else [] := by
  have e : M = M.take i ++ M.drop i := (List.take_append_drop i M).symm
  have ht1 : ∀ p ∈ M.take i, p.1 < a := by
    intro p hp
    obtain ⟨j, hj, rfl⟩ := List.getElem_of_mem hp
    rw [List.length_take] at hj
    rw [List.getElem_take]
    exact h1 j (by omega) (by omega)
  have ht2 : ∀ p ∈ M.drop i, a ≤ p.1 := by
    intro p hp
    obtain ⟨j, hj, rfl⟩ := List.getElem_of_mem hp
    rw [List.length_drop] at hj
    rw [List.getElem_drop]
    exact h2 (i + j) (by omega) (by omega)
  constructor
  · conv => lhs; rw [e, List.filter_append]
    rw [List.filter_eq_self.2 (fun p hp => by simpa using ht1 p hp), List.filter_eq_nil_iff.2 (fun p hp => by have := ht2 p hp; simp; omega), List.append_nil]
  · conv => lhs; rw [e, List.filter_append]
    rw [List.filter_eq_nil_iff.2 (fun p hp => by have := ht1 p hp; simp; omega), List.nil_append]
    by_cases hlt : i < M.length
    · rw [dif_pos hlt]
      have hd := List.drop_eq_getElem_cons hlt
      have hgt : ∀ p ∈ M.drop (i + 1), M[i].1 < p.1 := by
        intro p hp
        obtain ⟨j, hj, rfl⟩ := List.getElem_of_mem hp
        rw [List.length_drop] at hj
        rw [List.getElem_drop]
        exact List.pairwise_iff_getElem.1 hs i (i + 1 + j) hlt (by omega) (by omega)
      have ha := h2 i hlt (Nat.le_refl _)
      by_cases hia : M[i].1 = a
      · rw [if_pos hia, hd, List.filter_cons_of_neg (by simp [hia]), List.filter_eq_self]
        intro p hp; have := hgt p hp; simp; omega
      · rw [if_neg hia, List.filter_eq_self]
        intro p hp
        rw [hd] at hp
        rcases List.mem_cons.1 hp with rfl | hp
        · simp; omega
        · have := hgt p hp; simp; omega
    · rw [dif_neg hlt, List.drop_eq_nil_of_le (by omega)]; rfl
theorem parts_M {M : List (Nat × Nat)} {a i : Nat} (h : Parts (M.map cellOf) a i) : i ≤ M.length ∧ (∀ j (hj : j < M.length), j < i → M[j].1 < a) ∧ (∀ j (hj : j < M.length), i ≤ j → a ≤ M[j].1) := by
  obtain ⟨h1, h2, h3⟩ := h
  rw [List.length_map] at h1
  refine ⟨h1, fun j hj hji => ?_, fun j hj hji => ?_⟩
  · have := h2 j (by simpa using hj) hji
    simp [cellOf] at this; omega
  · have := h3 j (by simpa using hj) hji
    simp [cellOf] at this; omega
theorem put_found {M : List (Nat × Nat)} (hs : Sorted M) {a i b : Nat} (h : Parts (M.map cellOf) a i) (hi : i < M.length) (ha : M[i].1 = a) : (M.map cellOf).set i ⟨a, some b, true⟩ = (putM M a b).map cellOf := by
  obtain ⟨h1, h2, h3⟩ := parts_M h
  obtain ⟨e1, e2⟩ := filter_split M hs a i h1 h2 h3
  rw [dif_pos hi, if_pos ha] at e2
  unfold putM
  rw [e1, e2]
  have : (⟨a, some b, true⟩ : Cell) = cellOf (a, b) := rfl
  rw [this, ← List.map_set, List.set_eq_take_append_cons_drop, if_pos hi]
theorem put_new {M : List (Nat × Nat)} (hs : Sorted M) {a i b : Nat} (h : Parts (M.map cellOf) a i) (hno : ∀ hi : i < M.length, M[i].1 ≠ a) : (M.map cellOf).take i ++ ⟨a, some b, true⟩ :: (M.map cellOf).drop i = (putM M a b).map cellOf := by
  obtain ⟨h1, h2, h3⟩ := parts_M h
  obtain ⟨e1, e2⟩ := filter_split M hs a i h1 h2 h3
  unfold putM
  rw [e1, e2]
  have : (⟨a, some b, true⟩ : Cell) = cellOf (a, b) := rfl
  rw [this, ← List.map_take, ← List.map_drop, List.map_append, List.map_cons]
  by_cases hi : i < M.length
  · rw [dif_pos hi, if_neg (hno hi)]
  · rw [dif_neg hi, List.drop_eq_nil_of_le (by omega)]

theorem flat_set_x (cs : List Cell) (i : Nat) (hi : i < cs.length) (x : Option Nat) : (flat cs).set (i * 3 + 1) (ptr x) = flat (cs.set i ⟨cs[i].a, x, cs[i].has⟩) := by
  apply flat_set cs i hi _ _ ?_ ?_ (by simp [flat_length])
  · intro j hj
    have hr := flat_get cs i j hi hj
    have hl := flat_length cs
    have h3 : j = 0 ∨ j = 1 ∨ j = 2 := by omega
    rcases h3 with rfl | rfl | rfl
    · rw [List.getElem?_set_ne (by omega), hr]; rfl
    · rw [List.getElem?_set, if_pos (by omega), if_pos (by omega)]; rfl
    · rw [List.getElem?_set_ne (by omega), hr]; rfl
  · intro q hq hne j hj
    rw [List.getElem?_set_ne (by omega)]

/-- slots lie at block s: the things M, kept as they must be -/
def SM (w : World) (s k : Nat) (M : List (Nat × Nat)) : Prop := SlAt w s k M.length (layout k M) ∧ Sorted M ∧ Under k M ∧ 1 ≤ k ∧ k ≤ 16
theorem SM.below {w w' : World} {s k : Nat} {M : List (Nat × Nat)} (h : SM w s k M) (hb : Below w.heap.size w w') : SM w' s k M := ⟨h.1.below hb, h.2⟩
theorem SM.len {w : World} {s k : Nat} {M : List (Nat × Nat)} (h : SM w s k M) : (layout k M).length ≤ 65536 ∧ M.length ≤ 65536 := by
  obtain ⟨_, h1, h2, _, h4⟩ := h
  have : (2 : Nat) ^ k ≤ 2 ^ 16 := Nat.pow_le_pow_right (by omega) h4
  exact ⟨Nat.le_trans (layout_len k M h1 h2) this, Nat.le_trans (sorted_len h1 h2) this⟩

theorem sNew_any (k : Nat) (w : World) (h1 : 1 ≤ k) (h2 : k ≤ 16) :
    Calls Try.prog 151 #[.int .i64 k] w fun e w' => ∃ s, e = .returned (.tuple #[.pointer (some ⟨s, 0, none⟩), .int .i64 0]) ∧ SM w' s k [] ∧ Below w.heap.size w w' := by
  go_enter Try.func151, Try.ntmps151
  go_wp2
  go_ret2
  refine ⟨_, rfl, ⟨⟨none, 0, ?_, ?_⟩, List.Pairwise.nil, fun p hp => by simp at hp, h1, h2⟩, (Below.refl _ _).alloc (Nat.le_refl _) _⟩
  · have : (layout k []) = [] := by simp [layout, isDense]
    rw [this]; exact heap_alloc_new _ _
  · have : (layout k []) = [] := by simp [layout, isDense]
    rw [this]; exact own_nil _ _ _ _

set_option maxRecDepth 100000 in
set_option maxHeartbeats 1600000 in
theorem sPut_any (s k a b : Nat) (M : List (Nat × Nat)) (w : World) (hs : SM w s k M) (ha : a < 2 ^ k) :
    Calls Try.prog 152 #[.pointer (some ⟨s, 0, none⟩), .int .i64 a, .pointer (some ⟨b, 0, none⟩)] w fun e w' => ∃ s', e = .returned (.tuple #[.pointer (some ⟨s', 0, none⟩), .int .i64 0]) ∧ SM w' s' k (putM M a b) ∧ w.heap.size ≤ s' ∧ Below w.heap.size w w' := by
  obtain ⟨hl1, hl2⟩ := hs.len
  obtain ⟨hsl, hso, hun, hk1, hk16⟩ := hs
  have hpk : (2 : Nat) ^ k ≤ 2 ^ 16 := Nat.pow_le_pow_right (by omega) hk16
  have ha6 : a ≤ 65536 := by omega
  have hfl := filter_has (layout k M) (full_layout k M)
  rw [pairs_layout k M hso hun] at hfl
  have HFL := Lib.hid hfl
  have HPK := Lib.hid ha
  clear hfl hpk ha
  go_enter Try.func152, Try.ntmps152
  go_wp2_with (first | (go_at_call 203; refine (scheck_any s k M.length a _ _ hsl hk16 HPK.out).mono ?_; rintro e w' ⟨rfl, rfl⟩) | fail)
  refine (sthings_any s k _ _ w hsl hl1).mono ?_
  rintro e w1 ⟨v, rfl, ho, hb1⟩
  rw [HFL.out] at ho
  rw [List.length_map] at ho
  go_wp2_with fail
  have ho' : w1.ownsRow 0 270 3 v (M.map cellOf).length (flat (M.map cellOf)) := by rw [List.length_map]; exact own_lower ho (Nat.zero_le _)
  refine (bsearch_any v a (M.map cellOf) w1 ho' ?_ (by simpa using hl2) ha6 ?_).mono ?_
  · rw [rising_iff, List.pairwise_map]; exact hso
  · intro c hc
    simp only [List.mem_map] at hc
    obtain ⟨p, hp, rfl⟩ := hc
    have := hun p hp
    have hpk : (2 : Nat) ^ k ≤ 2 ^ 16 := Nat.pow_le_pow_right (by omega) hk16
    simp only [cellOf]; omega
  rintro e w2 ⟨⟨i, r, rfl, hP, hq⟩, hb2⟩
  have hsz1 := hb1.size
  have hsz2 := hb2.size
  have ho2 := pw_own_below ho hb2
  have HP := Lib.hid hP
  have HQ := Lib.hid hq
  clear hP hq ho'
  have hPM := putM_sorted hso a b
  have hPU := putM_under hun (b := b) HPK.out
  cases r with
  | true =>
    obtain ⟨hi, hia⟩ := HQ.out.1 rfl
    rw [List.length_map] at hi
    simp only [List.getElem_map, cellOf] at hia
    have HE : Hid ((M.map cellOf).set i ⟨a, some b, true⟩ = (putM M a b).map cellOf) := put_found hso HP.out hi (by omega)
    obtain ⟨A, cap, rfl⟩ := own_slice ho
    have hA : ∃ g, A = some ⟨g, 0, none⟩ := by
      rcases ho.2 with ⟨h', h''⟩ | ⟨g', cap', cur, h', _⟩
      · omega
      · simp only [Value.slice.injEq] at h'; exact ⟨g', h'.1⟩
    obtain ⟨g, rfl⟩ := hA
    have hil : i < (M.map cellOf).length := by simpa using hi
    obtain ⟨d0, d1, d2⟩ := own_cells (cs := M.map cellOf) ho2 i hil
    have f1 := ho2.frozenAt (i * 3 + 1)
    have hst := (ho2.stored (i * 3 + 1) (ptr (some b))).1
    rw [flat_set_x _ _ hil] at hst
    simp only [List.getElem_map, cellOf] at d0 d1 d2 hst
    rw [show M[i].1 = a by omega, HE.out] at hst
    have hgw : w.heap.size ≤ g := own_base ho g rfl
    have hlen2 : (putM M a b).length = M.length := by have := congrArg List.length HE.out; simpa using this.symm
    have hk0 : w2.cell? ⟨s, 0, none⟩ = some (.int .i64 k) := pw_cell_below hb2 (pw_cell_below hb1 hsl.head.1)
    have hslt : s < w.heap.size := World.block_lt_of_cell? w _ hsl.head.1
    have hsg : ¬ s = g := by omega
    have hsg' : ¬ g = s := by omega
    have HST := Lib.hid hst
    have HLN := Lib.hid hlen2
    clear hst hlen2 hia
    go_wp2_with fail
    refine (sKept_any k _ (putM M a b) _ hk16 hPM hPU ?_).mono ?_
    · rw [HLN.out]; exact own_lower HST.out (Nat.zero_le _)
    rintro e w3 ⟨s', rfl, hsl3, hle, hb3⟩
    go_wp2
    go_ret2
    refine ⟨s', rfl, ⟨hsl3, hPM, hPU, hk1, hk16⟩, ?_, ?_⟩
    · simp at hle; omega
    · have hB2 : Below w.heap.size w w2 := hb1.trans (hb2.mono hsz1)
      have hB3 := (hB2.setCell (p := ⟨g, i * 3 + 1, none⟩) hgw (.pointer (some ⟨b, 0, none⟩)))
      exact hB3.trans (hb3.mono hB3.size)
  | false =>
    have hno : ∀ hi : i < M.length, M[i].1 ≠ a := fun hi he => by
      have := HQ.out.2 ⟨by simpa using hi, by simp [cellOf, he]⟩
      simp at this
    have HE : Hid ((M.map cellOf).take i ++ ⟨a, some b, true⟩ :: (M.map cellOf).drop i = (putM M a b).map cellOf) := put_new hso HP.out hno
    have hil := HP.out.1
    have hk0 : w2.cell? ⟨s, 0, none⟩ = some (.int .i64 k) := pw_cell_below hb2 (pw_cell_below hb1 hsl.head.1)
    have ho2' : w2.ownsRow w.heap.size 270 3 v (M.map cellOf).length (flat (M.map cellOf)) := by rw [List.length_map]; exact ho2
    have hvl := own_lt ho2
    have HO := Lib.hid ho2'
    have HV := Lib.hid hvl
    clear ho2' hvl
    go_wp2_with fail
    refine (insert_any w.heap.size v ⟨a, some b, true⟩ (M.map cellOf) i _ _ (HO.out.alloc _) (by simpa using hl2) hil (by simp; omega) (heap_alloc_new _ _) (fun k hk => by have := HV.out k hk; omega)).mono ?_
    rintro e w3 ⟨v3, rfl, ho3, hb3⟩
    rw [HE.out] at ho3
    have hlen2 : (M.map cellOf).length + 1 = (putM M a b).length := by
      have := congrArg List.length HE.out
      simp at this
      rw [List.length_map] at hil
      simp; omega
    rw [hlen2] at ho3
    have hB2 : Below w.heap.size w w2 := hb1.trans (hb2.mono hsz1)
    have hB3 : Below w.heap.size w w3 := (hB2.alloc hB2.size _).trans hb3
    have hk3 : w3.cell? ⟨s, 0, none⟩ = some (.int .i64 k) := pw_cell_below hB3 hsl.head.1
    clear hk0
    go_wp2_with fail
    refine (sKept_any k _ (putM M a b) _ hk16 hPM hPU (own_lower ho3 (Nat.zero_le _))).mono ?_
    rintro e w4 ⟨s', rfl, hsl4, hle, hb4⟩
    go_wp2
    go_ret2
    exact ⟨s', rfl, ⟨hsl4, hPM, hPU, hk1, hk16⟩, Nat.le_trans hB3.size hle, hB3.trans (hb4.mono hB3.size)⟩
end Go.Proofs.Ytdjemmopecchmaa
