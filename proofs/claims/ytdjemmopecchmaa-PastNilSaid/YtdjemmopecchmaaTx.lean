/- tree.Del. -/
import Derived.Test.YtdjemmopecchmaaTg
namespace Go.Proofs.Ytdjemmopecchmaa
open Go.RowKit Go.Proofs.YtdjemmopecchmaaW.PrintWords Key
set_option linter.unusedVariables false
set_option linter.unusedSimpArgs false

set_option maxRecDepth 100000 in
set_option maxHeartbeats 600000 in
theorem tDel_no (t k : Nat) (A : Option Addr) (p : List Int) (cap : Nat) (L : List Ent) (N : List Nat) (w : World) (hT : TrOf w t k L N) (hr : RdU w A p) (hl : p.length = k) (hp : Ok p) (hm : ∀ e ∈ L, e.1 ≠ p) :
    Calls Try.prog 97 #[.pointer (some ⟨t, 0, none⟩), .slice A p.length cap] w fun e w' => e = .returned (.tuple #[.pointer none, .int .i64 6]) ∧ Below w.heap.size w w' := by
  obtain ⟨c, P, B, hw⟩ := hT.way' hl hp
  have hk := hw.at_.2
  have C1 : ∀ W, Below w.heap.size w W → Calls Try.prog 85 #[.pointer (some ⟨t, 0, none⟩), .slice A p.length cap] W fun e w' => e = .returned (.int .i64 0) ∧ W = w' := fun W hW => tcheck_ok t k _ A p cap W (hw.at_.bel hW) hl
  have C2 : ∀ W, Below w.heap.size w W → Calls Try.prog 86 #[.pointer (some ⟨t, 0, none⟩), .slice A p.length cap] W fun e w' => ∃ v, e = .returned (.tuple #[v, ptrK B]) ∧ w'.ownsRow W.heap.size 58 1 v P.length (ptrs P) ∧ Below W.heap.size W w' :=
    fun W hW => tpath_any t k c A p cap P B W (hw.at_.bel hW) (Kd.C_below hr hW) hl hp (hw.path.bel hW) hw.len
  have C3 : ∀ (W : World) (v0 : Value) (base : Nat), Below w.heap.size w W → W.ownsRow base 58 1 v0 P.length (ptrs P) → Calls Try.prog 87 #[v0] W fun e w' => e = .returned (.tuple #[.agg #[.slice none 0 0, .int .u64 0], .bool false]) ∧ Below W.heap.size W w' := by
    intro W v0 base hW ho
    refine (tfound_any k p L P B base v0 W (hw.finds.bel hW) ho hw.len hk.1 hk.2).mono ?_
    rintro e w' ⟨h, hb⟩
    rcases h with ⟨g, c, v', rfl, hm'⟩ | ⟨rfl, hno⟩
    · exact absurd rfl (hm _ hm')
    · exact ⟨rfl, hb⟩
  clear hw hl hm hr hp hT
  go_enter Try.func97, Try.ntmps97
  go_wp2_with (first
    | (go_at_call 85; refine (C1 _ (Below.refl _ _)).mono ?_; rintro e w1 ⟨rfl, rfl⟩)
    | (go_at_call 86; refine (C2 _ (Below.refl _ _)).mono ?_; rintro e w2 ⟨v0, rfl, ho, hb2⟩)
    | (go_at_call 87; refine (C3 _ _ _ hb2 ho).mono ?_; rintro e w3 ⟨rfl, hb3⟩))
  go_ret2
  exact ⟨rfl, ((hb2.trans (hb3.mono hb2.size)).alloc (hb2.trans (hb3.mono hb2.size)).size _)⟩
set_option maxRecDepth 100000 in
set_option maxHeartbeats 600000 in
theorem tDel_yes (t k : Nat) (A : Option Addr) (p : List Int) (cap : Nat) (v : Int) (L : List Ent) (N : List Nat) (w : World) (hT : TrOf w t k L N) (hr : RdU w A p) (hl : p.length = k) (hp : Ok p) (hm : (p, v) ∈ L) :
    Calls Try.prog 97 #[.pointer (some ⟨t, 0, none⟩), .slice A p.length cap] w fun e w' => ∃ (t' : Nat) (L' : List Ent) (N' F : List Nat), e = .returned (.tuple #[.pointer (some ⟨t', 0, none⟩), .int .i64 0]) ∧ TrOf w' t' k L' N' ∧ Chg p (fun _ => False) L L' ∧ (∀ n ∈ N', n ∈ F ∨ n ∈ N) ∧ w.heap.size ≤ t' ∧ Below w.heap.size w w' := by
  obtain ⟨c, P, B, hw⟩ := hT.way' hl hp
  have hk := hw.at_.2
  have hlenP := hw.len
  have C1 : ∀ W, Below w.heap.size w W → Calls Try.prog 85 #[.pointer (some ⟨t, 0, none⟩), .slice A p.length cap] W fun e w' => e = .returned (.int .i64 0) ∧ W = w' := fun W hW => tcheck_ok t k _ A p cap W (hw.at_.bel hW) hl
  have C2 : ∀ W, Below w.heap.size w W → Calls Try.prog 86 #[.pointer (some ⟨t, 0, none⟩), .slice A p.length cap] W fun e w' => ∃ A' c, e = .returned (.tuple #[.slice A' P.length c, ptrK B]) ∧ w'.ownsRow W.heap.size 58 1 (.slice A' P.length c) P.length (ptrs P) ∧ rowP w' A' P ∧ Below W.heap.size W w' := by
    intro W hW
    refine (tpath_any t k c A p cap P B W (hw.at_.bel hW) (Kd.C_below hr hW) hl hp (hw.path.bel hW) hw.len).mono ?_
    rintro e w' ⟨v, rfl, ho, hb⟩
    obtain ⟨A', c, rfl⟩ := own_sl ho
    exact ⟨A', c, rfl, ho, rowP.of_own ho, hb⟩
  have C3 : ∀ (W : World) (v0 : Value) (base : Nat), Below w.heap.size w W → W.ownsRow base 58 1 v0 P.length (ptrs P) → Calls Try.prog 87 #[v0] W fun e w' => (∃ g c v', e = .returned (.tuple #[.agg #[.slice (some ⟨g, 0, none⟩) p.length c, .int .u64 v'], .bool true])) ∧ Below W.heap.size W w' := by
    intro W v0 base hW ho
    refine (tfound_any k p L _ _ base v0 W (hw.finds.bel hW) ho hw.len hk.1 hk.2).mono ?_
    rintro e w' ⟨h, hb⟩
    refine ⟨?_, hb⟩
    rcases h with ⟨g, c, v', rfl, hm'⟩ | ⟨_, hno⟩
    · exact ⟨g, c, v', rfl⟩
    · exact absurd rfl (hno _ hm)
  have hh := hw.hole
  cases hh with
  | no lo c0 hs hlo hc hB hno => exact absurd rfl (hno _ hm)
  | yes P0 b v1 lo c0 hP hB hs hlo hmm =>
    rcases List.eq_nil_or_concat P0 with rfl | ⟨Q, b2, rfl⟩
    · obtain rfl : P = [b] := hP
      have hL : L = [(p, v1)] := by cases hs with | nil => rfl
      obtain ⟨t0, t1⟩ := hw.at_.cells
      have hta := fun (W : World) (hW : Below w.heap.size w W) => (hw.at_.bel hW).cells.1
      have HL := Lib.hid hL
      have C9 : ∀ W : World, Below w.heap.size w W → ∃ (L' : List Ent) (N' F : List Nat), TrOf (W.alloc (.cells #[.int .i64 k, .pointer none] 147)) W.heap.size k L' N' ∧ Chg p (fun _ => False) L L' ∧ (∀ n ∈ N', n ∈ F ∨ n ∈ N) := by
        intro W hW
        refine ⟨[], [], [], ⟨none, ⟨heap_alloc_new _ _, hk⟩, rfl, rfl⟩, fun e => ?_, by simp⟩
        rw [hL]; simp only [List.mem_singleton, List.not_mem_nil, false_or, false_iff, not_and, Classical.not_not]
        intro h; rw [h]
      clear hw hl hm hr hp hT hL hs hmm
      go_enter Try.func97, Try.ntmps97
      go_wp2_with (first
        | (go_at_call 85; refine (C1 _ (Below.refl _ _)).mono ?_; rintro e w1 ⟨rfl, rfl⟩)
        | (go_at_call 86; refine (C2 _ (Below.refl _ _)).mono ?_; rintro e w2 ⟨A', c2, rfl, ho, hrow, hb2⟩)
        | (go_at_call 87; refine (C3 _ _ _ hb2 ho).mono ?_; rintro e w3 ⟨⟨g, c', v', rfl⟩, hb3⟩; have hb3w := hb2.trans (hb3.mono hb2.size); have hta3 := hta _ (hb3w.alloc hb3w.size (.cells #[.slice (some ⟨g, 0, none⟩) p.length c', .int .u64 v'] 106))))
      go_ret2
      have hb4w := hb3w.alloc hb3w.size (.cells #[.slice (some ⟨g, 0, none⟩) p.length c', .int .u64 v'] 106)
      obtain ⟨L', N', F, h1, h2, h3⟩ := C9 _ hb4w
      have e1 : (w3.alloc (.cells #[.slice (some ⟨g, 0, none⟩) p.length c', .int .u64 v'] 106)).heap.size = w3.heap.size + 1 := by simp
      rw [e1] at h1
      exact ⟨_, L', N', F, rfl, h1, h2, h3, (by have := hb3w.size; omega), hb4w.alloc hb4w.size _⟩
    · have hP' : P = Q ++ [b2, b] := by rw [hP]; simp
      rw [List.concat_eq_append] at hs
      have hQl : P.length = Q.length + 2 := by rw [hP']; simp
      obtain ⟨Lm, c1, lv, hh, s, M, f, pre, K, hsQ, hLow⟩ := hs.snoc
      have hpk : (p, v1) ∈ K.L ∧ Key.addr p lv = Key.addr p lv := (hLow.hk (p, v1)).1 (by simp)
      obtain ⟨y, hyM, hyL⟩ := hLow.q.mem.1 hpk.1
      have hya : y.1 = Key.addr p lv := (hLow.q.addr y hyM _ hyL).symm
      have C4 : ∀ W, Below w.heap.size w W → Calls Try.prog 146 #[.pointer (some ⟨b2, 0, none⟩)] W fun e w' => e = .returned (.int .i64 lv) ∧ W = w' := fun W hW => nLevel_any b2 _ W (hLow.q.hh.below hW)
      have C5 : ∀ W, Below w.heap.size w W → Calls Try.prog 158 #[.slice A p.length cap, .int .i64 lv] W fun e w' => e = .returned (.tuple #[.int .i64 (Key.addr p lv), .int .i64 0]) ∧ W = w' := fun W hW => zAddr_any A p cap lv W (Kd.C_below hr hW) hp (by omega) (by omega) hLow.q.hlv
      have C6 : ∀ W, Below w.heap.size w W → Calls Try.prog 159 #[.pointer (some ⟨b2, 0, none⟩), .int .i64 (Key.addr p lv)] W fun e w' => ∃ b', e = .returned (.tuple #[.pointer (some ⟨b', 0, none⟩), .int .i64 0]) ∧ Hid (∃ K', NodeOf w' k b' K' ∧ K'.lo ≤ c1 ∧ Chg p (fun _ => False) Lm K'.L ∧ ∀ n ∈ K'.N, n = b' ∨ n ∈ N) ∧ Below W.heap.size W w' := by
        intro W hW
        refine ((hLow.q.bel hW).without (a := Key.addr p lv) (x := y.2) (by rw [← hya]; exact hyM)).mono ?_
        rintro e w' ⟨b', K', rfl, h1, h2, h3, h4, h5, h6⟩
        refine ⟨b', rfl, ⟨K', h1, ?_, fun e => ?_, fun n hn => ?_⟩, h6⟩
        · rw [hLow.q.hK] at h2; rw [hLow.hc']; exact h2
        · rw [h3 e, hLow.hL]
          simp only [false_or]
          constructor
          · rintro ⟨q1, q2⟩; exact ⟨q1, fun h => q2 (by rw [h])⟩
          · rintro ⟨q1, q2⟩
            refine ⟨q1, fun h => q2 ?_⟩
            have := (hLow.hk e).2 ⟨by rw [hLow.hL]; exact q1, h⟩
            simp only [List.mem_singleton] at this
            rw [this]
        · rcases h4 n hn with h | h
          · exact Or.inl h
          · exact Or.inr (hLow.hN n h)
      have C7 : ∀ (W : World) (A' : Option Addr) (c' bn : Nat), Below w.heap.size w W → rowP W A' Q → Hid (∃ Kn, NodeOf W k bn Kn ∧ Kn.lo ≤ c1 ∧ Chg p (fun _ => False) Lm Kn.L ∧ ∀ n ∈ Kn.N, n = bn ∨ n ∈ N) → Calls Try.prog 90 #[.pointer (some ⟨t, 0, none⟩), .slice A' Q.length c', .pointer (some ⟨bn, 0, none⟩)] W fun e w' => ∃ t', e = .returned (.pointer (some ⟨t', 0, none⟩)) ∧ NewTr w t' k p (fun _ => False) L N (Q.length + 1) w' := by
        intro W A' c' bn hW hrow hn
        obtain ⟨Kn, n1, n2, n3, n4⟩ := hn.out
        refine (tup_any t k _ p N A' c' Q (fun _ => False) L _ lo c1 bn Kn W (hw.at_.bel hW) hl (fun e he => he.elim) hrow (by omega) (hsQ.bel hW) n1 n2 n3).mono ?_
        rintro e w' ⟨t', b', K', F, rfl, h1, h2, h3, h4, h5, h6, h7⟩
        refine ⟨t', rfl, b', K', bn :: F, h1, h2, h3, by simp [h4], fun n hn' => ?_, Nat.le_trans hW.size h6, hW.trans (h7.mono hW.size)⟩
        rcases h5 n hn' with h | h | h
        · exact Or.inl (List.mem_cons_of_mem _ h)
        · rcases n4 n h with h | h
          · exact Or.inl (by rw [h]; simp)
          · exact Or.inr h
        · exact Or.inr h
      have hrow2 : ∀ (W : World) (A' : Option Addr), rowP W A' P → ∃ g, A' = some ⟨g, 0, none⟩ ∧ W.cell? ⟨g, Q.length, none⟩ = some (.pointer (some ⟨b2, 0, none⟩)) ∧ rowP W A' Q := by
        intro W A' h
        obtain ⟨g, h1, h2⟩ := h (by rw [hP']; simp)
        refine ⟨g, h1, ?_, ?_⟩
        · have := h2 Q.length (by omega)
          rw [this]; simp [hP']
        · have := h.take Q.length
          rw [hP', List.take_left] at this
          exact this
      have hz : ((P.length : Int) - 2) = (Q.length : Int) := by omega
      have hz1 : ¬ ((P.length : Int) = 1) := by omega
      have hz2 : (Q.length : Int) < (P.length : Int) := by omega
      have hz3 : Q.length ≤ P.length := by omega
      have hq65 : Q.length ≤ 65 := by omega
      have HQ := Lib.hid hQl
      clear hw hl hm hr hp hT hs hmm hsQ hLow hpk hyL hya hyM hP hP' hQl
      go_enter Try.func97, Try.ntmps97
      go_wp2_with (first
        | (go_at_call 85; refine (C1 _ (Below.refl _ _)).mono ?_; rintro e w1 ⟨rfl, rfl⟩)
        | (go_at_call 86; refine (C2 _ (Below.refl _ _)).mono ?_; rintro e w2 ⟨A', c2, rfl, ho, hrow, hb2⟩; obtain ⟨g0, rfl, hcl, hrQ⟩ := hrow2 _ _ hrow; have hcp := own_cap ho; have hcp2 : (Q.length : Int) ≤ (c2 : Int) := (by omega))
        | (go_at_call 87; refine (C3 _ _ _ hb2 ho).mono ?_; rintro e w3 ⟨⟨g, c', v', rfl⟩, hb3⟩; have hb3w := hb2.trans (hb3.mono hb2.size); have hb4w := hb3w.alloc hb3w.size (.cells #[.slice (some ⟨g, 0, none⟩) p.length c', .int .u64 v'] 106); have hba : Below w3.heap.size w3 (w3.alloc (.cells #[.slice (some ⟨g, 0, none⟩) p.length c', .int .u64 v'] 106)) := (Below.refl _ _).alloc (Nat.le_refl _) _; have hcl4 := pw_cell_below hba (pw_cell_below hb3 hcl); have hrQ4 := (hrQ.bel hb3).bel hba)
        | (go_at_call 146; refine (C4 _ hb4w).mono ?_; rintro e w5 ⟨rfl, rfl⟩)
        | (go_at_call 158; refine (C5 _ hb4w).mono ?_; rintro e w5 ⟨rfl, rfl⟩)
        | (go_at_call 159; refine (C6 _ hb4w).mono ?_; rintro e w6 ⟨bn, rfl, hn, hb6⟩)
        | (go_at_call 90; refine (C7 _ _ _ _ (hb4w.trans (hb6.mono hb4w.size)) (hrQ4.bel hb6) hn).mono ?_; rintro e w7 ⟨t', rfl, hnew⟩))
      go_ret2
      obtain ⟨L', N', F, q1, q2, q3, q4, q5, q6⟩ := hnew.out
      exact ⟨t', L', N', F, rfl, q1, q2, q4, q5, q6⟩
end Go.Proofs.Ytdjemmopecchmaa
