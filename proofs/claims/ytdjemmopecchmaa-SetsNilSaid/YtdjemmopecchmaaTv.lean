/- tree.Put: a new point. -/
import Derived.Test.YtdjemmopecchmaaTq
namespace Go.Proofs.Ytdjemmopecchmaa
open Go.RowKit Go.Proofs.YtdjemmopecchmaaW.PrintWords Key
set_option linter.unusedVariables false
set_option linter.unusedSimpArgs false

theorem own_sl {w : World} {base e sz n : Nat} {v : Value} {xs : List Value} (h : w.ownsRow base e sz v n xs) : ∃ A c, v = .slice A n c := by
  obtain ⟨A, c, rfl⟩ := own_slice h; exact ⟨A, c, rfl⟩
set_option maxRecDepth 100000 in
set_option maxHeartbeats 600000 in
theorem tPut_fresh (t k : Nat) (A : Option Addr) (p : List Int) (cap : Nat) (v : Int) (L : List Ent) (N : List Nat) (c : Option (Nat × K4)) (P : List Nat) (B : Option (Nat × K4)) (lo c0 : Nat) (w : World) (hw : Way w t k p L N c P B) (hr : RdU w A p) (hl : p.length = k) (hp : Ok p) (hv : U v) (hm : ∀ e ∈ L, e.1 ≠ p)
    (hS : Spine w k p N P L (entsOf B) lo c0) (hc64 : c0 ≤ 64) (hB : ∀ x, B = some x → NodeOf w k x.1 x.2 ∧ key p / (2 ^ k) ^ x.2.lo ≠ x.2.pf ∧ x.2.lo ≤ c0 ∧ (∀ e ∈ x.2.L, key e.1 / (2 ^ k) ^ c0 = key p / (2 ^ k) ^ c0) ∧ ∀ n ∈ x.2.N, n ∈ N) :
    Calls Try.prog 21 #[.pointer (some ⟨t, 0, none⟩), .slice A p.length cap, .int .u64 v] w fun e w' => ∃ t', e = .returned (.tuple #[.pointer (some ⟨t', 0, none⟩), .int .i64 0]) ∧ NewTr w t' k p (fun e => e = (p, v)) L N (P.length + 2) w' := by
  have hk := hw.at_.2
  have hlen := hw.len
  have C1 : ∀ W, Below w.heap.size w W → Calls Try.prog 85 #[.pointer (some ⟨t, 0, none⟩), .slice A p.length cap] W fun e w' => e = .returned (.int .i64 0) ∧ W = w' := fun W hW => tcheck_ok t k _ A p cap W (hw.at_.bel hW) hl
  have C2 : ∀ W, Below w.heap.size w W → Calls Try.prog 86 #[.pointer (some ⟨t, 0, none⟩), .slice A p.length cap] W fun e w' => ∃ A' c, e = .returned (.tuple #[.slice A' P.length c, ptrK B]) ∧ w'.ownsRow W.heap.size 58 1 (.slice A' P.length c) P.length (ptrs P) ∧ rowP w' A' P ∧ Below W.heap.size W w' := by
    intro W hW
    refine (tpath_any t k c A p cap P B W (hw.at_.bel hW) (Kd.C_below hr hW) hl hp (hw.path.bel hW) hw.len).mono ?_
    rintro e w' ⟨v, rfl, ho, hb⟩
    obtain ⟨A', c, rfl⟩ := own_sl ho
    exact ⟨A', c, rfl, ho, rowP.of_own ho, hb⟩
  have C3 : ∀ (W : World) (v0 : Value) (base : Nat), Below w.heap.size w W → W.ownsRow base 58 1 v0 P.length (ptrs P) → Calls Try.prog 87 #[v0] W fun e w' => e = .returned (.tuple #[.agg #[.slice none 0 0, .int .u64 0], .bool false]) ∧ Below W.heap.size W w' := by
    intro W v0 base hW ho
    refine (tfound_any k p L _ _ base v0 W (hw.finds.bel hW) ho hw.len hk.1 hk.2).mono ?_
    rintro e w' ⟨h, hb⟩
    rcases h with ⟨g, c, v', rfl, hm'⟩ | ⟨rfl, hno⟩
    · exact absurd rfl (hm _ hm')
    · exact ⟨rfl, hb⟩
  have C4 : ∀ W, Below w.heap.size w W → Calls Try.prog 88 #[.slice A p.length cap, .int .u64 v] W fun e w' => ∃ b, e = .returned (.tuple #[.pointer (some ⟨b, 0, none⟩), .int .i64 0]) ∧ Hid (NodeOf w' k b ⟨0, key p, [(p, v)], [b]⟩) ∧ Below W.heap.size W w' := by
    intro W hW
    refine (nLeaf_any k A p v cap W (Kd.C_below hr hW) hl hk.1 hk.2 hp hv).mono ?_
    rintro e w' ⟨b, h1, h2, h3, h4⟩
    exact ⟨b, h1, h2, h4⟩
  have C5 : ∀ (W : World) (A' : Option Addr) (c' bn : Nat), Below w.heap.size w W → rowP W A' P → Hid (∃ Kn F0, NodeOf W k bn Kn ∧ Kn.lo ≤ c0 ∧ Chg p (fun e => e = (p, v)) (entsOf B) Kn.L ∧ List.length F0 ≤ 2 ∧ ∀ n ∈ Kn.N, n ∈ F0 ∨ n ∈ N) → Calls Try.prog 90 #[.pointer (some ⟨t, 0, none⟩), .slice A' P.length c', .pointer (some ⟨bn, 0, none⟩)] W fun e w' => ∃ t', e = .returned (.pointer (some ⟨t', 0, none⟩)) ∧ NewTr w t' k p (fun e => e = (p, v)) L N (P.length + 2) w' := by
    intro W A' c' bn hW hrow hn
    obtain ⟨Kn, F0, n1, n2, n3, n4, n5⟩ := hn.out
    refine (tup_any t k _ p N A' c' P (fun e => e = (p, v)) L _ lo c0 bn Kn W (hw.at_.bel hW) hl (fun e he => by rw [he]) hrow hlen (hS.bel hW) n1 n2 n3).mono ?_
    rintro e w' ⟨t', b', K', F, rfl, h1, h2, h3, h4, h5, h6, h7⟩
    refine ⟨t', rfl, b', K', F ++ F0, h1, h2, h3, by rw [List.length_append]; omega, fun n hn' => ?_, Nat.le_trans hW.size h6, hW.trans (h7.mono hW.size)⟩
    rcases h5 n hn' with h | h | h
    · exact Or.inl (List.mem_append_left _ h)
    · rcases n5 n h with h | h
      · exact Or.inl (List.mem_append_right _ h)
      · exact Or.inr h
    · exact Or.inr h
  have HM := Lib.hid hm
  cases B with
  | none =>
    have C6 : ∀ (W : World) (bn : Nat), Hid (NodeOf W k bn ⟨0, key p, [(p, v)], [bn]⟩) → Hid (∃ Kn F0, NodeOf W k bn Kn ∧ Kn.lo ≤ c0 ∧ Chg p (fun e => e = (p, v)) (entsOf none) Kn.L ∧ List.length F0 ≤ 2 ∧ ∀ n ∈ Kn.N, n ∈ F0 ∨ n ∈ N) := by
      intro W bn hn
      exact ⟨_, [bn], hn.out, Nat.zero_le _, fun e => by simp [entsOf], by simp, fun n hn => Or.inl hn⟩
    clear hw hl hm hr hp hS hB hv
    go_enter Try.func21, Try.ntmps21
    go_wp2_with (first
      | (go_at_call 85; refine (C1 _ (Below.refl _ _)).mono ?_; rintro e w1 ⟨rfl, rfl⟩)
      | (go_at_call 86; refine (C2 _ (Below.refl _ _)).mono ?_; rintro e w2 ⟨A', c2, rfl, ho, hrow, hb2⟩; simp only [ptrK, Option.map_none])
      | (go_at_call 87; refine (C3 _ _ _ hb2 ho).mono ?_; rintro e w3 ⟨rfl, hb3⟩; have hb3w := hb2.trans (hb3.mono hb2.size))
      | (go_at_call 88; refine (C4 _ (hb3w.alloc hb3w.size _)).mono ?_; rintro e w4 ⟨bn, rfl, hn, hb4⟩; have hb4w := (hb3w.alloc hb3w.size (.cells #[.slice none 0 0, .int .u64 0] 106)).trans (hb4.mono ((hb3w.alloc hb3w.size _).size)))
      | (go_at_call 90; refine (C5 _ _ _ _ hb4w ((((hrow.bel hb3).bel ((Below.refl _ _).alloc (Nat.le_refl _) _)).bel hb4)) (C6 _ _ hn)).mono ?_; rintro e w5 ⟨t', rfl, hnew⟩))
    go_ret2
    exact ⟨t', rfl, hnew⟩
  | some x =>
    obtain ⟨bB, KB⟩ := x
    have hx := hB _ rfl
    have C7 : ∀ (W : World) (bn : Nat), Below w.heap.size w W → Hid (NodeOf W k bn ⟨0, key p, [(p, v)], [bn]⟩) → Calls Try.prog 89 #[.pointer (some ⟨bB, 0, none⟩), .pointer (some ⟨bn, 0, none⟩)] W fun e w' => ∃ b', e = .returned (.tuple #[.pointer (some ⟨b', 0, none⟩), .int .i64 0]) ∧
        Hid (∃ Kn F0, NodeOf w' k b' Kn ∧ Kn.lo ≤ c0 ∧ Chg p (fun e => e = (p, v)) (entsOf (some (bB, KB))) Kn.L ∧ List.length F0 ≤ 2 ∧ ∀ n ∈ Kn.N, n ∈ F0 ∨ n ∈ N) ∧ Below W.heap.size W w' := by
      intro W bn hW hn
      obtain ⟨h1, h2, h3, h4, h5⟩ := hx
      dsimp only at h1 h2 h3 h4 h5
      obtain ⟨e1, he1⟩ := List.exists_mem_of_ne_nil _ h1.ne
      have m1 := h1.mem e1 he1
      have hpl := parts_le_iff e1.1 p (by omega) m1.2.1 hp
      have q1 : parts e1.1 p ≤ c0 := (hpl c0 hc64).2 (by unfold Key.B; rw [m1.1, hl]; exact h4 e1 he1)
      have q2 : ¬ parts e1.1 p ≤ KB.lo := fun hc => h2 (by
        have := (hpl KB.lo h1.lo).1 hc
        unfold Key.B at this; rw [m1.1, hl, m1.2.2.2] at this; exact this.symm)
      obtain ⟨lv, hlv⟩ : ∃ lv, parts e1.1 p = lv + 1 := ⟨parts e1.1 p - 1, by omega⟩
      have hu : key e1.1 / (2 ^ k) ^ (lv + 1) = key p / (2 ^ k) ^ (lv + 1) := by
        have := (hpl (lv + 1) (by omega)).1 (by omega)
        unfold Key.B at this; rw [m1.1, hl] at this; exact this
      have hd : Key.addr e1.1 lv ≠ Key.addr p lv := by
        intro hc
        have : parts e1.1 p ≤ lv := (hpl lv (by omega)).2 (by
          unfold Key.B; rw [m1.1, hl, key_step m1.1 lv (by omega), key_step hl lv (by omega), hu, hc])
        omega
      refine (pair_ (lv := lv) (h1.bel hW) hn.out (by omega) (by omega) (Nat.zero_le _) he1 (List.mem_singleton.2 rfl) hu hd).mono ?_
      rintro e w' ⟨b', K', rfl, r1, r2, r3, r4, r5, r6⟩
      refine ⟨b', rfl, ⟨K', [b', bn], r1, by omega, fun e => ?_, by simp, fun n hn' => ?_⟩, r6⟩
      · rw [r3 e]
        simp only [List.mem_singleton, entsOf]
        constructor
        · rintro (h | h)
          · exact Or.inr ⟨h, h1.out h2 e h⟩
          · exact Or.inl h
        · rintro (h | ⟨h, _⟩)
          · exact Or.inr h
          · exact Or.inl h
      · rcases r4 n hn' with h | h | h
        · exact Or.inl (by rw [h]; simp)
        · exact Or.inr (h5 n h)
        · simp only [List.mem_singleton] at h; exact Or.inl (by rw [h]; simp)
    clear hw hl hm hr hp hS hB hv hx
    go_enter Try.func21, Try.ntmps21
    go_wp2_with (first
      | (go_at_call 85; refine (C1 _ (Below.refl _ _)).mono ?_; rintro e w1 ⟨rfl, rfl⟩)
      | (go_at_call 86; refine (C2 _ (Below.refl _ _)).mono ?_; rintro e w2 ⟨A', c2, rfl, ho, hrow, hb2⟩; simp only [ptrK, Option.map_some])
      | (go_at_call 87; refine (C3 _ _ _ hb2 ho).mono ?_; rintro e w3 ⟨rfl, hb3⟩; have hb3w := hb2.trans (hb3.mono hb2.size))
      | (go_at_call 88; refine (C4 _ (hb3w.alloc hb3w.size _)).mono ?_; rintro e w4 ⟨bn, rfl, hn, hb4⟩; have hb4w := (hb3w.alloc hb3w.size (.cells #[.slice none 0 0, .int .u64 0] 106)).trans (hb4.mono ((hb3w.alloc hb3w.size _).size)))
      | (go_at_call 89; refine (C7 _ _ hb4w hn).mono ?_; rintro e w5 ⟨b', rfl, hn5, hb5⟩; have hb5w := hb4w.trans (hb5.mono hb4w.size))
      | (go_at_call 90; refine (C5 _ _ _ _ hb5w ((((hrow.bel hb3).bel ((Below.refl _ _).alloc (Nat.le_refl _) _)).bel hb4).bel hb5) hn5).mono ?_; rintro e w6 ⟨t', rfl, hnew⟩))
    go_ret2
    exact ⟨t', rfl, hnew⟩
end Go.Proofs.Ytdjemmopecchmaa
