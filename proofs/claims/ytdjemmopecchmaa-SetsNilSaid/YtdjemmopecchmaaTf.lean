/- What a path finds: tree.found, tree.Get. -/
import Derived.Test.YtdjemmopecchmaaTp
namespace Go.Proofs.Ytdjemmopecchmaa
open Go.RowKit Go.Proofs.YtdjemmopecchmaaW.PrintWords Key
set_option linter.unusedVariables false
set_option linter.unusedSimpArgs false

def entsOf (c : Option (Nat × K4)) : List Ent := match c with | none => [] | some x => x.2.L
/-- a node with kids, by its head alone -/
def Inner (w : World) (b : Nat) : Prop := ∃ h s, HdAt w b h ∧ h.s = some s
/-- what a path finds -/
inductive Finds (w : World) (k : Nat) (p : List Int) (L : List Ent) (P : List Nat) (B : Option (Nat × K4)) : Prop
  | yes (P0 : List Nat) (b : Nat) (v : Int) (hP : P = P0 ++ [b]) (hB : B = none) (h : NodeOf w k b ⟨0, key p, [(p, v)], [b]⟩) (hm : (p, v) ∈ L)
  | none_ (hm : ∀ e ∈ L, e.1 ≠ p) (hP : P = [])
  | no (P0 : List Nat) (b : Nat) (hm : ∀ e ∈ L, e.1 ≠ p) (hP : P = P0 ++ [b]) (h : Inner w b)
theorem PathTo.finds {w : World} {k : Nat} {p : List Int} {c : Option (Nat × K4)} {P : List Nat} {B : Option (Nat × K4)} (h : PathTo w k p c P B) : Finds w k p (entsOf c) P B := by
  induction h with
  | nil => exact .none_ (by simp [entsOf]) rfl
  | out b K h hn => exact .none_ (h.out hn) rfl
  | leaf b K v h hK => subst hK; exact .yes [] b v rfl rfl h (by simp [entsOf])
  | node b K lv h s M f pre q hc P B r ih =>
    have hkid : ∀ e ∈ K.L, e.1 = p → e ∈ entsOf ((lk M (Key.addr p lv)).map fun x => (x, f (Key.addr p lv))) := by
      intro e he hep
      cases hlk : lk M (Key.addr p lv) with
      | none => exact absurd (by rw [hep]) (q.none_ hlk he)
      | some x =>
        obtain ⟨a', ha', hmem⟩ := lk_mem hlk
        have : a' = Key.addr p lv := by omega
        subst this
        exact (q.at_ hmem).2 ⟨he, by rw [hep]⟩
    have hno : (∀ e ∈ entsOf ((lk M (Key.addr p lv)).map fun x => (x, f (Key.addr p lv))), e.1 ≠ p) → ∀ e ∈ K.L, e.1 ≠ p := fun h e he hep => h e (hkid e he hep) hep
    cases ih with
    | yes P0 b' v hP hB h' hm =>
      refine .yes (b :: P0) b' v (by rw [hP]; rfl) hB h' ?_
      cases hlk : lk M (Key.addr p lv) with
      | none => rw [hlk] at hm; simp [entsOf] at hm
      | some x =>
        rw [hlk] at hm
        obtain ⟨a', ha', hmem⟩ := lk_mem hlk
        have : a' = Key.addr p lv := by omega
        subst this
        exact ((q.at_ hmem).1 hm).1
    | none_ hm hP => exact .no [] b (hno hm) (by rw [hP]; rfl) ⟨_, s, q.hh, rfl⟩
    | no P0 b' hm hP h' => exact .no (b :: P0) b' (hno hm) (by rw [hP]; rfl) h'
theorem Finds.bel {w w' : World} {k : Nat} {p : List Int} {L : List Ent} {P : List Nat} {B : Option (Nat × K4)} (h : Finds w k p L P B) (hb : Below w.heap.size w w') : Finds w' k p L P B := by
  cases h with
  | yes P0 b v hP hB h hm => exact .yes P0 b v hP hB (h.bel hb) hm
  | none_ hm hP => exact .none_ hm hP
  | no P0 b hm hP h => obtain ⟨g, s, h1, h2⟩ := h; exact .no P0 b hm hP ⟨g, s, h1.below hb, h2⟩

theorem leaf_head {w : World} {k b : Nat} {p : List Int} {v : Int} (h : NodeOf w k b ⟨0, key p, [(p, v)], [b]⟩) : HdAt w b ⟨-1, p, v, none, 1, v, v, v⟩ ∧ p.length = k := by
  obtain ⟨q, v', hh, h1, h2, h3, hK⟩ := h.leaf' rfl
  simp only [K4.mk.injEq, List.cons.injEq, Prod.mk.injEq, and_true] at hK
  obtain ⟨_, _, ⟨rfl, rfl⟩⟩ := hK
  exact ⟨hh, h1⟩
theorem row_last {w : World} {base : Nat} {v : Value} {P0 : List Nat} {b : Nat} (ho : w.ownsRow base 58 1 v (P0 ++ [b]).length (ptrs (P0 ++ [b]))) : ∃ g c, v = .slice (some ⟨g, 0, none⟩) (P0.length + 1) c ∧ base ≤ g ∧ w.cell? ⟨g, P0.length, none⟩ = some (.pointer (some ⟨b, 0, none⟩)) := by
  have hl : (P0 ++ [b]).length = P0.length + 1 := by simp
  obtain ⟨g, c, rfl, hg⟩ := own_some ho (by omega)
  refine ⟨g, c, by rw [hl], hg, ?_⟩
  rw [hl] at ho
  have := ho.cellAt P0.length (by omega)
  rw [this]; simp [ptrs]
/-- what found returns -/
def foundR (p : List Int) (L : List Ent) (e : Ending) : Prop :=
  (∃ g c v, e = .returned (.tuple #[.agg #[.slice (some ⟨g, 0, none⟩) p.length c, .int .u64 v], .bool true]) ∧ (p, v) ∈ L) ∨ (e = .returned (.tuple #[.agg #[.slice none 0 0, .int .u64 0], .bool false]) ∧ ∀ e ∈ L, e.1 ≠ p)
set_option maxRecDepth 100000 in
set_option maxHeartbeats 800000 in
theorem tfound_any (k : Nat) (p : List Int) (L : List Ent) (P : List Nat) (B : Option (Nat × K4)) (base : Nat) (v : Value) (w : World) (hf : Finds w k p L P B) (ho : w.ownsRow base 58 1 v P.length (ptrs P)) (hlen : P.length ≤ 65) (hk1 : 1 ≤ k) (hk16 : k ≤ 16) :
    Calls Try.prog 87 #[v] w fun e w' => foundR p L e ∧ Below w.heap.size w w' := by
  cases hf with
  | none_ hm hP =>
    subst hP
    obtain ⟨A, c, rfl⟩ := own_slice ho
    rw [show ([] : List Nat).length = 0 from rfl]
    go_enter Try.func87, Try.ntmps87
    go_wp2
    exact bodyPost_ret (v := .tuple #[.agg #[.slice none 0 0, .int .u64 0], .bool false]) (by simp [results, Try.results87, go_sem]) rfl ⟨Or.inr ⟨rfl, hm⟩, by first | exact (Below.refl _ _).alloc (Nat.le_refl _) _ | exact (((Below.refl _ _).alloc (Nat.le_refl _) _).setCell (Nat.le_refl _) _).setCell (Nat.le_refl _) _⟩
  | no P0 b hm hP h =>
    subst hP
    obtain ⟨g0, c0, rfl, hg0, hcell⟩ := row_last ho
    obtain ⟨hd, s, hh, hs⟩ := h
    have hca := cell_al hcell
    have hz : ((P0.length : Int) + 1 - 1) = (P0.length : Int) := by omega
    have hlen' : P0.length ≤ 65 := by simp at hlen; omega
    go_enter Try.func87, Try.ntmps87
    have hBa : ∀ o, Below w.heap.size w (w.alloc o) := fun o => (Below.refl _ _).alloc (Nat.le_refl _) o
    have hsz : ∀ o, w.heap.size < (w.alloc o).heap.size := fun o => by simp
    go_wp2_with (go_at_call 148; refine (nEntry_node b s hd _ (hh.below (hBa _)) hs).mono ?_; rintro e w2 ⟨rfl, hb2⟩; have hn2 : w2.heap[w.heap.size]? = some (.cells #[.slice none 0 0, .int .u64 0] 106 (0, 0)) := (hb2.block _ (hsz _)).trans (heap_alloc_new w _); have r0 : w2.cell? ⟨w.heap.size, 0, none⟩ = some (.slice none 0 0) := cell_of_block hn2 0; have r1 : w2.cell? ⟨w.heap.size, 1, none⟩ = some (.int .u64 0) := cell_of_block hn2 1; have f0 := free_block hn2 0; have f1 := free_block hn2 1)
    have hbW : Below w.heap.size w w2 := (hBa _).trans (hb2.mono (Nat.le_of_lt (hsz _)))
    exact bodyPost_ret (v := .tuple #[.agg #[.slice none 0 0, .int .u64 0], .bool false]) (by simp [results, Try.results87, go_sem, *]) rfl ⟨Or.inr ⟨rfl, hm⟩, (hbW.setCell (Nat.le_refl _) _).setCell (Nat.le_refl _) _⟩
  | yes P0 b v' hP hB h hm =>
    subst hP
    obtain ⟨g0, c0, rfl, hg0, hcell⟩ := row_last ho
    obtain ⟨hh, hpl⟩ := leaf_head h
    have hca := cell_al hcell
    have hz : ((P0.length : Int) + 1 - 1) = (P0.length : Int) := by omega
    have hlen' : P0.length ≤ 65 := by simp at hlen; omega
    have h1 : 1 ≤ p.length := by omega
    have h16 : p.length ≤ 16 := by omega
    have CE : ∀ W, Below w.heap.size w W → Calls Try.prog 148 #[.pointer (some ⟨b, 0, none⟩)] W fun e w' => ∃ g c, e = .returned (.tuple #[.agg #[.slice (some ⟨g, 0, none⟩) p.length c, .int .u64 v'], .bool true]) ∧ Below W.heap.size W w' := fun W hW =>
      (nEntry_leaf b _ W (hh.below hW) rfl h1 h16).mono (fun e w' q => by obtain ⟨g, c, h1, h2, h3⟩ := q; exact ⟨g, c, h1, h3⟩)
    have HM := Lib.hid hm
    clear hpl hh h hm ho hlen h1 h16
    go_enter Try.func87, Try.ntmps87
    have hBa : ∀ o, Below w.heap.size w (w.alloc o) := fun o => (Below.refl _ _).alloc (Nat.le_refl _) o
    have hsz : ∀ o, w.heap.size < (w.alloc o).heap.size := fun o => by simp
    go_wp2_with (go_at_call 148; refine (CE _ (hBa _)).mono ?_; rintro e w2 ⟨g, c', rfl, hb2⟩; have hn2 : w2.heap[w.heap.size]? = some (.cells #[.slice none 0 0, .int .u64 0] 106 (0, 0)) := (hb2.block _ (hsz _)).trans (heap_alloc_new w _); have r0 : w2.cell? ⟨w.heap.size, 0, none⟩ = some (.slice none 0 0) := cell_of_block hn2 0; have r1 : w2.cell? ⟨w.heap.size, 1, none⟩ = some (.int .u64 0) := cell_of_block hn2 1; have f0 := free_block hn2 0; have f1 := free_block hn2 1)
    have hbW : Below w.heap.size w w2 := (hBa _).trans (hb2.mono (Nat.le_of_lt (hsz _)))
    exact bodyPost_ret (v := .tuple #[.agg #[.slice (some ⟨g, 0, none⟩) p.length c', .int .u64 v'], .bool true]) (by simp [results, Try.results87, go_sem, *]) rfl ⟨Or.inl ⟨g, c', v', rfl, HM.out⟩, (hbW.setCell (Nat.le_refl _) _).setCell (Nat.le_refl _) _⟩
end Go.Proofs.Ytdjemmopecchmaa
