/- Up a path: tree.up. -/
import Derived.Test.YtdjemmopecchmaaTf
namespace Go.Proofs.Ytdjemmopecchmaa
open Go.RowKit Go.Proofs.YtdjemmopecchmaaW.PrintWords Key
set_option linter.unusedVariables false
set_option linter.unusedSimpArgs false

/-- nodes with kids down a path, the top one first: whole entries, entries at the hole, the top's level and one, the hole's -/
inductive Spine (w : World) (k : Nat) (p : List Int) (N0 : List Nat) : List Nat → List Ent → List Ent → Nat → Nat → Prop
  | nil (L : List Ent) (c : Nat) : Spine w k p N0 [] L L c c
  | cons (b : Nat) (K : K4) (lv h s : Nat) (M : List (Nat × Nat)) (f : Nat → K4) (pre : List Int) (q : Kids w k b K lv h s M f pre) (hc : key p / (2 ^ k) ^ (lv + 1) = h) (hN : ∀ n ∈ K.N, n ∈ N0) (P : List Nat) (Lk Lh : List Ent) (lo c : Nat)
      (hk : ∀ e, e ∈ Lk ↔ e ∈ K.L ∧ Key.addr e.1 lv = Key.addr p lv) (hlo : lo ≤ lv) (r : Spine w k p N0 P Lk Lh lo c) : Spine w k p N0 (b :: P) K.L Lh (lv + 1) c
theorem Spine.bel {w w' : World} {k : Nat} {p : List Int} {N0 P : List Nat} {L Lh : List Ent} {lo c : Nat} (h : Spine w k p N0 P L Lh lo c) (hb : Below w.heap.size w w') : Spine w' k p N0 P L Lh lo c := by
  induction h with
  | nil L c => exact .nil L c
  | cons b K lv h s M f pre q hc hN P Lk Lh lo c hk hlo r ih => exact .cons b K lv h s M f pre (q.bel hb) hc hN P Lk Lh lo c hk hlo ih
/-- the lowest node of a spine -/
structure Low (w : World) (k : Nat) (p : List Int) (N0 : List Nat) (b : Nat) (Lm Lh : List Ent) (c c' lv h s : Nat) (M : List (Nat × Nat)) (f : Nat → K4) (pre : List Int) (K : K4) : Prop where
  q : Kids w k b K lv h s M f pre
  hc : key p / (2 ^ k) ^ (lv + 1) = h
  hN : ∀ n ∈ K.N, n ∈ N0
  hL : K.L = Lm
  hk : ∀ e, e ∈ Lh ↔ e ∈ K.L ∧ Key.addr e.1 lv = Key.addr p lv
  hlo : c ≤ lv
  hc' : c' = lv + 1
theorem Spine.snoc {w : World} {k : Nat} {p : List Int} {N0 : List Nat} {b : Nat} : ∀ {P : List Nat} {L Lh : List Ent} {lo c : Nat}, Spine w k p N0 (P ++ [b]) L Lh lo c →
    ∃ Lm c' lv h s M f pre K, Spine w k p N0 P L Lm lo c' ∧ Low w k p N0 b Lm Lh c c' lv h s M f pre K := by
  intro P
  induction P with
  | nil =>
    intro L Lh lo c h
    cases h with
    | cons _ K lv h s M f pre q hc hN _ Lk _ lo' _ hk hlo r =>
      cases r with
      | nil => exact ⟨K.L, lv + 1, lv, h, s, M, f, pre, K, .nil _ _, ⟨q, hc, hN, rfl, hk, hlo, rfl⟩⟩
  | cons a P ih =>
    intro L Lh lo c h
    cases h with
    | cons _ K lv h s M f pre q hc hN _ Lk _ lo' _ hk hlo r =>
      obtain ⟨Lm, c', lv2, h2, s2, M2, f2, pre2, K2, h3, h4⟩ := ih r
      exact ⟨Lm, c', lv2, h2, s2, M2, f2, pre2, K2, .cons a K lv h s M f pre q hc hN P Lk Lm lo' c' hk hlo h3, h4⟩
/-- entries behind a change at one point -/
def Chg (p : List Int) (E : Ent → Prop) (L L' : List Ent) : Prop := ∀ e, e ∈ L' ↔ E e ∨ (e ∈ L ∧ e.1 ≠ p)
def rowP (w : World) (A : Option Addr) (P : List Nat) : Prop := P ≠ [] → ∃ g, A = some ⟨g, 0, none⟩ ∧ ∀ i (h : i < P.length), w.cell? ⟨g, i, none⟩ = some (.pointer (some ⟨P[i], 0, none⟩))
theorem rowP.bel {w w' : World} {A : Option Addr} {P : List Nat} (h : rowP w A P) (hb : Below w.heap.size w w') : rowP w' A P := by
  intro hne
  obtain ⟨g, h1, h2⟩ := h hne
  exact ⟨g, h1, fun i hi => pw_cell_below hb (h2 i hi)⟩
theorem rowP.of_own {w : World} {base n cap : Nat} {A : Option Addr} {P : List Nat} (ho : w.ownsRow base 58 1 (.slice A n cap) P.length (ptrs P)) : rowP w A P := by
  intro hne
  have hp : 0 < P.length := List.length_pos_iff.2 hne
  obtain ⟨g, c, he, _⟩ := own_some ho hp
  simp only [Value.slice.injEq] at he
  obtain ⟨rfl, rfl, rfl⟩ := he
  refine ⟨g, rfl, fun i hi => ?_⟩
  have := ho.cellAt i (by omega)
  rw [this]; simp [ptrs, hi]
theorem rowP.take {w : World} {A : Option Addr} {P : List Nat} (h : rowP w A P) (m : Nat) : rowP w A (P.take m) := by
  intro hne
  obtain ⟨g, h1, h2⟩ := h (by intro he; rw [he] at hne; simp at hne)
  refine ⟨g, h1, fun i hi => ?_⟩
  rw [List.getElem_take]
  exact h2 i (by rw [List.length_take] at hi; omega)
/-- one step up -/
theorem up_step {w : World} {k : Nat} {p : List Int} {N0 : List Nat} {b : Nat} {E : Ent → Prop} {P : List Nat} {L Lh : List Ent} {lo c bn : Nat} {Kn : K4} (hl : p.length = k) (hE : ∀ e, E e → e.1 = p) (h : Spine w k p N0 (P ++ [b]) L Lh lo c)
    (hn : NodeOf w k bn Kn) (hc : Kn.lo ≤ c) (hch : Chg p E Lh Kn.L) :
    Calls Try.prog 156 #[.pointer (some ⟨b, 0, none⟩), .pointer (some ⟨bn, 0, none⟩)] w fun e w' => ∃ b' K' Lm c', e = .returned (.tuple #[.pointer (some ⟨b', 0, none⟩), .int .i64 0]) ∧ Spine w' k p N0 P L Lm lo c' ∧ NodeOf w' k b' K' ∧ K'.lo ≤ c' ∧ Chg p E Lm K'.L ∧
      (∀ n ∈ K'.N, n = b' ∨ n ∈ Kn.N ∨ n ∈ N0) ∧ w.heap.size ≤ b' ∧ Below w.heap.size w w' := by
  obtain ⟨Lm, c', lv, hh, s, M, f, pre, K, hs, hL⟩ := h.snoc
  have hup : ∀ e ∈ Kn.L, key e.1 / (2 ^ k) ^ lv = key p / (2 ^ k) ^ lv := by
    intro e he
    rcases (hch e).1 he with h | ⟨h, _⟩
    · rw [hE e h]
    · obtain ⟨h1, h2⟩ := (hL.hk e).1 h
      have hm := hL.q.node.mem e h1
      rw [key_step hm.1 lv hL.q.hlv, key_step hl lv hL.q.hlv, h2, hL.hc]
      have := hm.2.2.2
      rw [hL.q.hK] at this
      rw [this]
  have hne := hn.ne
  obtain ⟨e0, he0⟩ := List.exists_mem_of_ne_nil _ hne
  have hlen := (hn.mem e0 he0).1
  have hk1 : key e0.1 / (2 ^ k) ^ (lv + 1) = hh := by rw [← hL.hc, div_pow_add, div_pow_add, hup e0 he0]
  have ha : Key.addr e0.1 lv = Key.addr p lv := addr_of_div hlen hl lv hL.q.hlv (hup e0 he0)
  refine (hL.q.with_ hn (Nat.le_trans hc hL.hlo) he0 hk1).mono ?_
  rintro e w' ⟨b', K', rfl, hK', q1, q2, q3, q4, q5, hB⟩
  refine ⟨b', K', Lm, c', rfl, hs.bel hB, hK', ?_, ?_, ?_, q5, hB⟩
  · rw [q1, hL.q.hK, hL.hc']; exact Nat.le_refl _
  · intro e
    rw [q3 e, ha, hch e, ← hL.hL, hL.hk e]
    constructor
    · rintro ((h | ⟨⟨h1, h2⟩, h3⟩) | ⟨h1, h2⟩)
      · exact Or.inl h
      · exact Or.inr ⟨h1, h3⟩
      · exact Or.inr ⟨h1, fun hp => h2 (by rw [hp])⟩
    · rintro (h | ⟨h1, h2⟩)
      · exact Or.inl (Or.inl h)
      · by_cases h3 : Key.addr e.1 lv = Key.addr p lv
        · exact Or.inl (Or.inr ⟨⟨h1, h3⟩, h2⟩)
        · exact Or.inr ⟨h1, h3⟩
  · intro n hn'
    rcases q4 n hn' with h | h | h
    · exact Or.inl h
    · exact Or.inr (Or.inl h)
    · exact Or.inr (Or.inr (hL.hN n h))
set_option maxRecDepth 100000 in
set_option maxHeartbeats 800000 in
theorem tup_any (t k : Nat) (r : Option Nat) (p : List Int) (N0 : List Nat) (A : Option Addr) (cap : Nat) (P : List Nat) (E : Ent → Prop) (L Lh : List Ent) (lo c bn : Nat) (Kn : K4) (w : World) (ht : TrAt w t k r) (hl : p.length = k) (hE : ∀ e, E e → e.1 = p)
    (hrow : rowP w A P) (hlen : P.length ≤ 65) (hS : Spine w k p N0 P L Lh lo c) (hn : NodeOf w k bn Kn) (hc : Kn.lo ≤ c) (hch : Chg p E Lh Kn.L) :
    Calls Try.prog 90 #[.pointer (some ⟨t, 0, none⟩), .slice A P.length cap, .pointer (some ⟨bn, 0, none⟩)] w fun e w' => ∃ (t' b' : Nat) (K' : K4) (F : List Nat), e = .returned (.pointer (some ⟨t', 0, none⟩)) ∧ TrAt w' t' k (some b') ∧ NodeOf w' k b' K' ∧ Chg p E L K'.L ∧
      F.length = P.length ∧ (∀ n ∈ K'.N, n ∈ F ∨ n ∈ Kn.N ∨ n ∈ N0) ∧ w.heap.size ≤ t' ∧ Below w.heap.size w w' := by
  have HL := Lib.hid hl
  clear hl
  go_enter Try.func90, Try.ntmps90
  go_wp2_with fail
  go_loopg [2, 7] (P.length) (fun q nv i wr => ∃ (m b : Nat) (K : K4) (Lm : List Ent) (c' : Nat) (F : List Nat), q = m ∧ m ≤ P.length ∧ i = .int .i64 ((m : Int) - 1) ∧ nv = .pointer (some ⟨b, 0, none⟩) ∧ Spine wr k p N0 (P.take m) L Lm lo c' ∧ NodeOf wr k b K ∧ K.lo ≤ c' ∧ Chg p E Lm K.L ∧
    F.length + m = P.length ∧ (∀ n ∈ K.N, n ∈ F ∨ n ∈ Kn.N ∨ n ∈ N0) ∧ Below w.heap.size w wr)
  case atStart => exact ⟨P.length, bn, Kn, Lh, c, [], rfl, Nat.le_refl _, rfl, rfl, by rw [List.take_length]; exact hS, hn, hc, hch, by simp, fun n hn => Or.inr (Or.inl hn), Below.refl _ _⟩
  case round =>
    obtain ⟨m, b, K, Lm, c', F, hq, hm, rfl, rfl, hSp, hK, hlo, hC, hF, hN, hy⟩ := hrel
    have HQ := Lib.hid hq
    have HF := Lib.hid hF
    have HN := Lib.hid hN
    clear hq hF hN
    cases m with
    | zero =>
      obtain ⟨c0, c1⟩ := (ht.bel hy).cells
      go_wp2
      go_ret
      have hy' := hy.alloc hy.size (.cells #[.int .i64 k, .pointer (some ⟨b, 0, none⟩)] 147)
      cases hSp with
      | nil =>
        refine ⟨_, b, K, F, rfl, ⟨heap_alloc_new _ _, ht.2⟩, hK.bel ((Below.refl _ _).alloc (Nat.le_refl _) _), hC, by have := HF.out; omega, HN.out, hy.size, hy'⟩
    | succ m =>
      obtain ⟨g, rfl, hcell⟩ := (hrow.bel hy) (by intro he; rw [he] at hm; simp at hm)
      have hcm := hcell m (by omega)
      have hz : (((m + 1 : Nat) : Int) - 1) = (m : Int) := by omega
      rw [List.take_succ_eq_append_getElem (by omega)] at hSp
      rw [hz]
      have hm0 : (0 : Int) ≤ (m : Int) := by omega
      have hm1 : (m : Int) < (P.length : Int) := by omega
      clear hcell
      go_wp2_with (go_at_call 156; refine (up_step HL.out hE hSp hK hlo hC).mono ?_; rintro e w2 ⟨b', K', Lm', c2, rfl, hS2, hK2, hlo2, hC2, hN2, hb2, hB2⟩)
      go_roundg (gk - 1)
      case measure => have := HQ.out; omega
      case rel =>
        refine ⟨m, b', K', Lm', c2, b' :: F, by have := HQ.out; omega, by omega, by go_num, rfl, hS2, hK2, hlo2, hC2, by simp only [List.length_cons]; have := HF.out; omega, ?_, hy.trans (hB2.mono hy.size)⟩
        intro n hn'
        rcases hN2 n hn' with h | h | h
        · exact Or.inl (by rw [h]; simp)
        · rcases HN.out n h with h | h | h
          · exact Or.inl (List.mem_cons_of_mem _ h)
          · exact Or.inr (Or.inl h)
          · exact Or.inr (Or.inr h)
        · exact Or.inr (Or.inr h)
end Go.Proofs.Ytdjemmopecchmaa
