/- The hole that a path ends in. -/
import Derived.Test.YtdjemmopecchmaaTu
namespace Go.Proofs.Ytdjemmopecchmaa
open Go.RowKit Go.Proofs.YtdjemmopecchmaaW.PrintWords Key
set_option linter.unusedVariables false
set_option linter.unusedSimpArgs false

/-- a path and its spine: the point is there; it isn't -/
inductive Hole (w : World) (k : Nat) (p : List Int) (N0 : List Nat) (L : List Ent) (P : List Nat) (B : Option (Nat × K4)) (cb : Nat) : Prop
  | yes (P0 : List Nat) (b : Nat) (v : Int) (lo c0 : Nat) (hP : P = P0 ++ [b]) (hB : B = none) (hs : Spine w k p N0 P0 L [(p, v)] lo c0) (hlo : lo ≤ cb) (hm : (p, v) ∈ L)
  | no (lo c0 : Nat) (hs : Spine w k p N0 P L (entsOf B) lo c0) (hlo : lo ≤ cb) (hc : c0 ≤ 64)
      (hB : ∀ x, B = some x → NodeOf w k x.1 x.2 ∧ key p / (2 ^ k) ^ x.2.lo ≠ x.2.pf ∧ x.2.lo ≤ c0 ∧ (∀ e ∈ x.2.L, key e.1 / (2 ^ k) ^ c0 = key p / (2 ^ k) ^ c0) ∧ ∀ n ∈ x.2.N, n ∈ N0) (hm : ∀ e ∈ L, e.1 ≠ p)
theorem PathTo.hole {w : World} {k : Nat} {p : List Int} (N0 : List Nat) (hl : p.length = k) {c : Option (Nat × K4)} {P : List Nat} {B : Option (Nat × K4)} (h : PathTo w k p c P B) :
    ∀ cb : Nat, cb ≤ 64 → (∀ x, c = some x → x.2.lo ≤ cb ∧ (∀ e ∈ x.2.L, key e.1 / (2 ^ k) ^ cb = key p / (2 ^ k) ^ cb) ∧ ∀ n ∈ x.2.N, n ∈ N0) → Hole w k p N0 (entsOf c) P B cb := by
  induction h with
  | nil => intro cb h64 hb; exact .no cb cb (.nil _ cb) (Nat.le_refl _) h64 (fun x hx => by cases hx) (by simp [entsOf])
  | out b K h hn =>
    intro cb h64 hb
    obtain ⟨h1, h2, h3⟩ := hb _ rfl
    exact .no cb cb (.nil _ cb) (Nat.le_refl _) h64 (fun x hx => by cases hx; exact ⟨h, hn, h1, h2, h3⟩) (h.out hn)
  | leaf b K v h hK =>
    intro cb h64 hb
    subst hK
    exact .yes [] b v cb cb rfl rfl (.nil _ cb) (Nat.le_refl _) (by simp [entsOf])
  | node b K lv h s M f pre q hc P B r ih =>
    intro cb h64 hb
    obtain ⟨h1, h2, h3⟩ := hb _ rfl
    have h1' : K.lo ≤ cb := h1
    have hKlo : K.lo = lv + 1 := by rw [q.hK]
    have htail : ∀ x, (lk M (Key.addr p lv)).map (fun x => (x, f (Key.addr p lv))) = some x → x.2.lo ≤ lv ∧ (∀ e ∈ x.2.L, key e.1 / (2 ^ k) ^ lv = key p / (2 ^ k) ^ lv) ∧ ∀ n ∈ x.2.N, n ∈ N0 := by
      intro x hx
      obtain ⟨y, hy, rfl⟩ := Option.map_eq_some_iff.1 hx
      obtain ⟨a', ha', hmem⟩ := lk_mem hy
      have : a' = Key.addr p lv := by omega
      subst this
      refine ⟨(q.hf _ hmem).1, fun e he => ?_, fun n hn => ?_⟩
      · rw [(kid_addr (q.hk _ hmem) (q.hf _ hmem).1 q.hlv (q.hf _ hmem).2 (q.hs.2.2.1 _ hmem) e he).1, key_step hl lv q.hlv, hc]
      · apply h3
        rw [q.hK]; simp only [List.mem_cons, List.mem_flatMap]
        exact Or.inr ⟨_, hmem, hn⟩
    have hk : ∀ e, e ∈ entsOf ((lk M (Key.addr p lv)).map fun x => (x, f (Key.addr p lv))) ↔ e ∈ K.L ∧ Key.addr e.1 lv = Key.addr p lv := by
      intro e
      cases hlk : lk M (Key.addr p lv) with
      | none =>
        simp only [Option.map_none, entsOf, List.not_mem_nil, false_iff, not_and]
        exact fun he => q.none_ hlk he
      | some x =>
        obtain ⟨a', ha', hmem⟩ := lk_mem hlk
        have : a' = Key.addr p lv := by omega
        subst this
        exact q.at_ hmem
    have hlv := q.hlv
    have ih' := ih lv (by omega) htail
    cases ih' with
    | yes P0 b' v lo c0 hP hB hs hlo hm =>
      exact .yes (b :: P0) b' v (lv + 1) c0 (by rw [hP]; rfl) hB (.cons b K lv h s M f pre q hc h3 P0 _ _ lo c0 hk hlo hs) (by omega) ((hk _).1 hm).1
    | no lo c0 hs hlo hc0 hB hm =>
      exact .no (lv + 1) c0 (.cons b K lv h s M f pre q hc h3 P _ _ lo c0 hk hlo hs) (by omega) hc0 hB (fun e he hp => hm e ((hk e).2 ⟨he, by rw [hp]⟩) hp)
theorem RootOf.top {w : World} {k : Nat} {r : Option Nat} {L : List Ent} {N : List Nat} (h : RootOf w k r L N) : ∃ c : Option (Nat × K4), r = c.map (·.1) ∧ entsOf c = L ∧ (∀ x, c = some x → NodeOf w k x.1 x.2 ∧ x.2.N = N) := by
  cases r with
  | none => exact ⟨none, rfl, by rw [h.1]; rfl, fun x hx => by cases hx⟩
  | some b =>
    obtain ⟨K, h1, h2, h3⟩ := h
    exact ⟨some (b, K), rfl, h2, fun x hx => by cases hx; exact ⟨h1, h3⟩⟩
theorem key_top {k : Nat} {p : List Int} (hl : p.length = k) : key p / (2 ^ k) ^ 64 = 0 := by
  apply Nat.div_eq_of_lt
  have := key_lt p
  unfold B at this; rw [hl] at this; exact this
/-- all about the way to a point in a tree -/
theorem TrOf.way {w : World} {t k : Nat} {L : List Ent} {N : List Nat} (h : TrOf w t k L N) {p : List Int} (hl : p.length = k) (hp : Ok p) : ∃ c P B, TrAt w t k (c.map (·.1)) ∧ PathTo w k p c P B ∧ P.length ≤ 65 ∧ Finds w k p L P B ∧ Hole w k p N L P B 64 := by
  obtain ⟨r, h1, h2⟩ := h
  obtain ⟨c, rfl, hL, hc⟩ := h2.top
  have : ∃ P B, PathTo w k p c P B ∧ P.length ≤ 65 := by
    cases c with
    | none => exact ⟨[], none, .nil, by simp⟩
    | some x => exact pathTo_of hl hp 64 x.1 x.2 (hc x rfl).1 (hc x rfl).1.lo
  obtain ⟨P, B, hP, hlen⟩ := this
  refine ⟨c, P, B, h1, hP, hlen, by rw [← hL]; exact hP.finds, ?_⟩
  rw [← hL]
  refine hP.hole N hl 64 (Nat.le_refl _) (fun x hx => ?_)
  obtain ⟨h3, h4⟩ := hc x hx
  exact ⟨h3.lo, fun e he => by rw [key_top hl, key_top (h3.mem e he).1], fun n hn => by rw [← h4]; exact hn⟩
end Go.Proofs.Ytdjemmopecchmaa
