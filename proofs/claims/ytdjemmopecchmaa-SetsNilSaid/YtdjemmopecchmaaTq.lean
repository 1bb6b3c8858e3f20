/- tree.Put. -/
import Derived.Test.YtdjemmopecchmaaTh
namespace Go.Proofs.Ytdjemmopecchmaa
open Go.RowKit Go.Proofs.YtdjemmopecchmaaW.PrintWords Key
set_option linter.unusedVariables false
set_option linter.unusedSimpArgs false

theorem own_cap {w : World} {base e sz n c : Nat} {A : Option Addr} {xs : List Value} (h : w.ownsRow base e sz (.slice A n c) n xs) : n ≤ c := by
  rcases h.2 with ⟨h', h''⟩ | ⟨g', cap', cur, h', hc, _⟩
  · simp only [Value.slice.injEq] at h'; omega
  · simp only [Value.slice.injEq] at h'; omega
theorem tcheck_ok (t k : Nat) (r : Option Nat) (A : Option Addr) (p : List Int) (cap : Nat) (w : World) (h : TrAt w t k r) (hl : p.length = k) :
    Calls Try.prog 85 #[.pointer (some ⟨t, 0, none⟩), .slice A p.length cap] w fun e w' => e = .returned (.int .i64 0) ∧ w = w' := by
  have := tcheck_any t k r A p.length cap w h
  rwa [if_pos hl] at this
/-- what is known of the way to a point -/
structure Way (w : World) (t k : Nat) (p : List Int) (L : List Ent) (N : List Nat) (c : Option (Nat × K4)) (P : List Nat) (B : Option (Nat × K4)) : Prop where
  at_ : TrAt w t k (c.map (·.1))
  path : PathTo w k p c P B
  len : P.length ≤ 65
  finds : Finds w k p L P B
  hole : Hole w k p N L P B 64
set_option maxRecDepth 100000 in
set_option maxHeartbeats 1600000 in
theorem tPut_same (t k : Nat) (A : Option Addr) (p : List Int) (cap : Nat) (v : Int) (L : List Ent) (N : List Nat) (c : Option (Nat × K4)) (P : List Nat) (B : Option (Nat × K4)) (w : World) (hw : Way w t k p L N c P B) (hr : RdU w A p) (hl : p.length = k) (hp : Ok p) (hs : SortL L) (hm : (p, v) ∈ L) :
    Calls Try.prog 21 #[.pointer (some ⟨t, 0, none⟩), .slice A p.length cap, .int .u64 v] w fun e w' => e = .returned (.tuple #[.pointer (some ⟨t, 0, none⟩), .int .i64 0]) ∧ Below w.heap.size w w' := by
  have hk := hw.at_.2
  have C1 : ∀ W, Below w.heap.size w W → Calls Try.prog 85 #[.pointer (some ⟨t, 0, none⟩), .slice A p.length cap] W fun e w' => e = .returned (.int .i64 0) ∧ W = w' := fun W hW => tcheck_ok t k _ A p cap W (hw.at_.bel hW) hl
  have C2 : ∀ W, Below w.heap.size w W → Calls Try.prog 86 #[.pointer (some ⟨t, 0, none⟩), .slice A p.length cap] W fun e w' => ∃ v, e = .returned (.tuple #[v, ptrK B]) ∧ w'.ownsRow W.heap.size 58 1 v P.length (ptrs P) ∧ Below W.heap.size W w' :=
    fun W hW => tpath_any t k c A p cap P B W (hw.at_.bel hW) (Kd.C_below hr hW) hl hp (hw.path.bel hW) hw.len
  have C3 : ∀ (W : World) (v0 : Value) (base : Nat), Below w.heap.size w W → W.ownsRow base 58 1 v0 P.length (ptrs P) → Calls Try.prog 87 #[v0] W fun e w' => (∃ g c, e = .returned (.tuple #[.agg #[.slice (some ⟨g, 0, none⟩) p.length c, .int .u64 v], .bool true])) ∧ Below W.heap.size W w' := by
    intro W v0 base hW ho
    refine (tfound_any k p L P B base v0 W (hw.finds.bel hW) ho hw.len hk.1 hk.2).mono ?_
    rintro e w' ⟨h, hb⟩
    refine ⟨?_, hb⟩
    rcases h with ⟨g, c, v', rfl, hm'⟩ | ⟨_, hno⟩
    · have : v' = v := by
        rcases List.pairwise_iff_getElem.1 hs with hpw
        obtain ⟨i, hi, e1⟩ := List.getElem_of_mem hm
        obtain ⟨j, hj, e2⟩ := List.getElem_of_mem hm'
        rcases Nat.lt_trichotomy i j with h | h | h
        · have := hpw i j hi hj h; rw [e1, e2] at this; simp at this
        · subst h; rw [e1] at e2; simpa using e2.symm
        · have := hpw j i hj hi h; rw [e1, e2] at this; simp at this
      subst this
      exact ⟨g, c, rfl⟩
    · exact absurd rfl (hno _ hm)
  clear hw hl hs hm hr hp
  go_enter Try.func21, Try.ntmps21
  go_wp2_with (first
    | (go_at_call 85; refine (C1 _ (Below.refl _ _)).mono ?_; rintro e w1 ⟨rfl, rfl⟩)
    | (go_at_call 86; refine (C2 _ (Below.refl _ _)).mono ?_; rintro e w2 ⟨v0, rfl, ho, hb2⟩)
    | (go_at_call 87; refine (C3 _ _ _ hb2 ho).mono ?_; rintro e w3 ⟨⟨g, c', rfl⟩, hb3⟩))
  go_ret2
  exact ⟨rfl, ((hb2.trans (hb3.mono hb2.size)).alloc (hb2.trans (hb3.mono hb2.size)).size _)⟩
/-- a new tree behind a change at one point -/
def NewTr (w : World) (t' k : Nat) (p : List Int) (E : Ent → Prop) (L : List Ent) (N : List Nat) (n : Nat) (w' : World) : Prop :=
  ∃ (b' : Nat) (K' : K4) (F : List Nat), TrAt w' t' k (some b') ∧ NodeOf w' k b' K' ∧ Chg p E L K'.L ∧ F.length ≤ n ∧ (∀ n ∈ K'.N, n ∈ F ∨ n ∈ N) ∧ w.heap.size ≤ t' ∧ Below w.heap.size w w'
set_option maxRecDepth 100000 in
set_option maxHeartbeats 600000 in
theorem tPut_found (t k : Nat) (A : Option Addr) (p : List Int) (cap : Nat) (v : Int) (L : List Ent) (N : List Nat) (c : Option (Nat × K4)) (P0 : List Nat) (b lo c0 : Nat) (v1 : Int) (w : World) (hw : Way w t k p L N c (P0 ++ [b]) none) (hr : RdU w A p) (hl : p.length = k) (hp : Ok p) (hv : U v) (hm : (p, v) ∉ L) (hm1 : ∃ v', (p, v') ∈ L)
    (hS : Spine w k p N P0 L [(p, v1)] lo c0) :
    Calls Try.prog 21 #[.pointer (some ⟨t, 0, none⟩), .slice A p.length cap, .int .u64 v] w fun e w' => ∃ t', e = .returned (.tuple #[.pointer (some ⟨t', 0, none⟩), .int .i64 0]) ∧ NewTr w t' k p (fun e => e = (p, v)) L N (P0.length + 1) w' := by
  have hk := hw.at_.2
  have hlen := hw.len
  have C1 : ∀ W, Below w.heap.size w W → Calls Try.prog 85 #[.pointer (some ⟨t, 0, none⟩), .slice A p.length cap] W fun e w' => e = .returned (.int .i64 0) ∧ W = w' := fun W hW => tcheck_ok t k _ A p cap W (hw.at_.bel hW) hl
  have C2 : ∀ W, Below w.heap.size w W → Calls Try.prog 86 #[.pointer (some ⟨t, 0, none⟩), .slice A p.length cap] W fun e w' => ∃ v g c, v = .slice (some ⟨g, 0, none⟩) (P0.length + 1) c ∧ e = .returned (.tuple #[.slice (some ⟨g, 0, none⟩) (P0.length + 1) c, .pointer none]) ∧ w'.ownsRow W.heap.size 58 1 v (P0 ++ [b]).length (ptrs (P0 ++ [b])) ∧ rowP w' (some ⟨g, 0, none⟩) P0 ∧ Below W.heap.size W w' := by
    intro W hW
    refine (tpath_any t k c A p cap (P0 ++ [b]) none W (hw.at_.bel hW) (Kd.C_below hr hW) hl hp (hw.path.bel hW) hw.len).mono ?_
    rintro e w' ⟨v, rfl, ho, hb⟩
    obtain ⟨g, c, rfl, _, _⟩ := row_last ho
    have hrow := (rowP.of_own ho).take P0.length
    rw [List.take_left] at hrow
    exact ⟨_, g, c, rfl, rfl, ho, hrow, hb⟩
  have C3 : ∀ (W : World) (v0 : Value) (base : Nat), Below w.heap.size w W → W.ownsRow base 58 1 v0 (P0 ++ [b]).length (ptrs (P0 ++ [b])) → Calls Try.prog 87 #[v0] W fun e w' => (∃ g c v', e = .returned (.tuple #[.agg #[.slice (some ⟨g, 0, none⟩) p.length c, .int .u64 v'], .bool true]) ∧ ¬ v' = v) ∧ Below W.heap.size W w' := by
    intro W v0 base hW ho
    refine (tfound_any k p L _ _ base v0 W (hw.finds.bel hW) ho hw.len hk.1 hk.2).mono ?_
    rintro e w' ⟨h, hb⟩
    refine ⟨?_, hb⟩
    rcases h with ⟨g, c, v', rfl, hm'⟩ | ⟨_, hno⟩
    · exact ⟨g, c, v', rfl, fun h => hm (by rw [← h]; exact hm')⟩
    · obtain ⟨v', hv'⟩ := hm1; exact absurd rfl (hno _ hv')
  have C4 : ∀ W, Below w.heap.size w W → Calls Try.prog 88 #[.slice A p.length cap, .int .u64 v] W fun e w' => ∃ b, e = .returned (.tuple #[.pointer (some ⟨b, 0, none⟩), .int .i64 0]) ∧ Hid (NodeOf w' k b ⟨0, key p, [(p, v)], [b]⟩) ∧ Below W.heap.size W w' := by
    intro W hW
    refine (nLeaf_any k A p v cap W (Kd.C_below hr hW) hl hk.1 hk.2 hp hv).mono ?_
    rintro e w' ⟨b, h1, h2, h3, h4⟩
    exact ⟨b, h1, h2, h4⟩
  have C5 : ∀ (W : World) (A' : Option Addr) (c' bn : Nat), Below w.heap.size w W → rowP W A' P0 → Hid (NodeOf W k bn ⟨0, key p, [(p, v)], [bn]⟩) → Calls Try.prog 90 #[.pointer (some ⟨t, 0, none⟩), .slice A' P0.length c', .pointer (some ⟨bn, 0, none⟩)] W fun e w' => ∃ t', e = .returned (.pointer (some ⟨t', 0, none⟩)) ∧ NewTr w t' k p (fun e => e = (p, v)) L N (P0.length + 1) w' := by
    intro W A' c' bn hW hrow hn
    refine (tup_any t k _ p N A' c' P0 (fun e => e = (p, v)) L [(p, v1)] lo c0 bn _ W (hw.at_.bel hW) hl (fun e he => by rw [he]) hrow (by simp at hlen; omega) (hS.bel hW) hn.out (Nat.zero_le _) (fun e => ?_)).mono ?_
    · simp only [List.mem_singleton]
      constructor
      · exact Or.inl
      · rintro (h | ⟨h1, h2⟩)
        · exact h
        · exact absurd (by rw [h1]) h2
    · rintro e w' ⟨t', b', K', F, rfl, h1, h2, h3, h4, h5, h6, h7⟩
      refine ⟨t', rfl, b', K', bn :: F, h1, h2, h3, by simp [h4], fun n hn' => ?_, Nat.le_trans hW.size h6, hW.trans (h7.mono hW.size)⟩
      rcases h5 n hn' with h | h | h
      · exact Or.inl (List.mem_cons_of_mem _ h)
      · simp only [List.mem_singleton] at h; exact Or.inl (by rw [h]; simp)
      · exact Or.inr h
  have hlen' : P0.length ≤ 65 := by simp at hlen; omega
  have hz : ((P0.length : Int) + 1 - 1) = (P0.length : Int) := by omega
  clear hw hl hm hm1 hr hp hS hlen
  go_enter Try.func21, Try.ntmps21
  go_wp2_with (first
    | (go_at_call 85; refine (C1 _ (Below.refl _ _)).mono ?_; rintro e w1 ⟨rfl, rfl⟩)
    | (go_at_call 86; refine (C2 _ (Below.refl _ _)).mono ?_; rintro e w2 ⟨v0, g0, c0, hv0, rfl, ho, hrow, hb2⟩; rw [hv0] at ho; clear hv0 v0; have hcap0 : P0.length + 1 ≤ c0 := (by have := (own_cap (n := P0.length + 1) (by have := ho; rw [List.length_append] at this; exact this)); exact this))
    | (go_at_call 87; refine (C3 _ _ _ hb2 ho).mono ?_; rintro e w3 ⟨⟨g, c', v', rfl, hvv⟩, hb3⟩; have hb3w := hb2.trans (hb3.mono hb2.size))
    | (go_at_call 88; refine (C4 _ (hb3w.alloc hb3w.size _)).mono ?_; rintro e w4 ⟨bn, rfl, hn, hb4⟩; have hb4w := (hb3w.alloc hb3w.size (.cells #[.slice (some ⟨g, 0, none⟩) p.length c', .int .u64 v'] 106)).trans (hb4.mono ((hb3w.alloc hb3w.size _).size)); have ha3 := cell_of_block ((hb4.block w3.heap.size (by simp)).trans (heap_alloc_new w3 (.cells #[.slice (some ⟨g, 0, none⟩) p.length c', .int .u64 v'] 106))) 1)
    | (go_at_call 90; refine (C5 _ _ _ _ hb4w ((((hrow.bel hb3).bel ((Below.refl _ _).alloc (Nat.le_refl _) _)).bel hb4)) hn).mono ?_; rintro e w5 ⟨t', rfl, hnew⟩))
  go_ret2
  exact ⟨t', rfl, hnew⟩
end Go.Proofs.Ytdjemmopecchmaa
