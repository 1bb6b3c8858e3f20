/- Trees stay when one block of another kind is written. -/
import Derived.Test.YtdjemmopecchmaaTx
namespace Go.Proofs.Ytdjemmopecchmaa
open Go.RowKit Go.Proofs.YtdjemmopecchmaaW.PrintWords Key
set_option linter.unusedVariables false
set_option linter.unusedSimpArgs false

/-- all blocks but one stay -/
structure Keep (q : Nat) (w w' : World) : Prop where
  os : w'.os = w.os
  tape : w'.tape = w.tape
  output : w'.output = w.output
  size : w.heap.size ≤ w'.heap.size
  block : ∀ k, k < w.heap.size → k ≠ q → w'.heap[k]? = w.heap[k]?
theorem Keep.of_below {q : Nat} {w w' : World} (h : Below w.heap.size w w') : Keep q w w' := ⟨h.os, h.tape, h.output, h.size, fun k hk _ => h.block k hk⟩
theorem Keep.refl (q : Nat) (w : World) : Keep q w w := ⟨rfl, rfl, rfl, Nat.le_refl _, fun _ _ _ => rfl⟩
theorem Keep.set (q : Nat) (w : World) (j : Nat) (u : Value) : Keep q w (w.setCell ⟨q, j, none⟩ u) := ⟨rfl, rfl, rfl, by simp, fun k hk hne => Below.heap_setCell _ _ _ _ hne⟩
theorem Keep.trans {q : Nat} {a b c : World} (h : Keep q a b) (h' : Keep q b c) : Keep q a c :=
  ⟨h'.os.trans h.os, h'.tape.trans h.tape, h'.output.trans h.output, Nat.le_trans h.size h'.size, fun k hk hq => (h'.block k (Nat.lt_of_lt_of_le hk h.size) hq).trans (h.block k hk hq)⟩
/-- what stays but for a block that is new stays -/
theorem Keep.below {q : Nat} {w w' : World} {B : Nat} (h : Keep q w w') (hq : B ≤ q) (hB : B ≤ w.heap.size) : Below B w w' := ⟨h.os, h.tape, h.output, h.size, fun k hk => h.block k (Nat.lt_of_lt_of_le hk hB) (by omega)⟩
/-- a block of another kind -/
def Other (w : World) (q : Nat) : Prop := ∀ cs t fr, w.heap[q]? = some (.cells cs t fr) → t ≠ 207 ∧ t ≠ 266 ∧ t ≠ 270 ∧ t ≠ 147 ∧ ∀ (j : Nat) (x : Int), cs[j]? ≠ some (.int .u64 x)
theorem Keep.cells {q b : Nat} {w w' : World} (h : Keep q w w') {cs : Array Value} {t : TypeId} {fr : Nat × Nat} (hb : w.heap[b]? = some (.cells cs t fr)) (hne : b ≠ q) : w'.heap[b]? = some (.cells cs t fr) := by
  rw [h.block b (Array.getElem?_eq_some_iff.1 hb).1 hne]; exact hb
theorem cell_keep {q : Nat} {w w' : World} (h : Keep q w w') (hq : Other w q) {a : Addr} {x : Int} (hc : w.cell? a = some (.int .u64 x)) : w'.cell? a = some (.int .u64 x) := by
  have hlt := World.block_lt_of_cell? w a hc
  have hne : a.block ≠ q := by
    intro e
    unfold World.cell? at hc
    rw [e] at hc
    cases hb : w.heap[q]? with
    | none => rw [hb] at hc; cases hc
    | some o =>
      rw [hb] at hc
      cases o with
      | cells cs t fr =>
        simp only at hc
        split at hc
        · cases hc
        · exact (hq _ _ _ hb).2.2.2.2 _ _ hc
      | _ => simp at hc
  unfold World.cell? at hc ⊢
  rw [h.block _ hlt hne]; exact hc
theorem RdU.keep {q : Nat} {w w' : World} (h : Keep q w w') (hq : Other w q) {A : Option Addr} {l : List Int} (hr : RdU w A l) : RdU w' A l := by
  refine ⟨hr.1, hr.2.1, fun hn => ?_⟩
  obtain ⟨ad, e, hc⟩ := hr.2.2 hn
  refine ⟨ad, e, fun j p hj => ?_⟩
  obtain ⟨c, h1, h2, h3⟩ := hc j p hj
  refine ⟨c, h1, h2, fun i u hi => ?_⟩
  have hcell := h3 i u hi
  have hu : ∃ x, u = .int .u64 x := by
    have h2' : c = [.int .u64 p] := h2
    subst h2'
    cases i with
    | zero => simp at hi; exact ⟨p, hi.symm⟩
    | succ i => simp at hi
  obtain ⟨x, rfl⟩ := hu
  exact cell_keep h hq hcell
theorem HdAt.keep {q : Nat} {w w' : World} (h : Keep q w w') (hq : Other w q) {b : Nat} {g : Head} (hh : HdAt w b g) : HdAt w' b g := by
  obtain ⟨A, cap, h1, h2, h3⟩ := hh
  exact ⟨A, cap, h.cells h1 (fun e => by subst e; exact (hq _ _ _ h1).1 rfl), h2, RdU.keep h hq h3⟩
theorem SlAt.keep {q : Nat} {w w' : World} (h : Keep q w w') (hq : Other w q) {s k n : Nat} {cs : List Cell} (hh : SlAt w s k n cs) : SlAt w' s k n cs := by
  obtain ⟨A, cap, h1, h2⟩ := hh
  refine ⟨A, cap, h.cells h1 (fun e => by subst e; exact (hq _ _ _ h1).2.1 rfl), own_move h2 (fun g hg => ?_)⟩
  rcases h2.2 with ⟨h', _⟩ | ⟨g', cap', cur, h', _, hcur, _⟩
  · rw [h'] at hg; simp [Value.ownBlock] at hg
  · have : g = g' := by rw [h'] at hg; simpa [Value.ownBlock] using hg.symm
    subst this
    exact h.block g (Array.getElem?_eq_some_iff.1 hcur).1 (fun e => by subst e; exact (hq _ _ _ hcur).2.2.1 rfl)
theorem NodeOf.keep {q : Nat} {w w' : World} (h : Keep q w w') (hq : Other w q) {k b : Nat} {K : K4} (hn : NodeOf w k b K) : NodeOf w' k b K := by
  induction hn with
  | leaf b p v K hh hl h1 h16 hp hv hK => exact .leaf b p v K (hh.keep h hq) hl h1 h16 hp hv hK
  | node b lv hh s M f pre K hd hl hp hlv hpre hs h2 hk hf hK ih => exact .node b lv hh s M f pre K (hd.keep h hq) hl hp hlv hpre ⟨hs.1.keep h hq, hs.2⟩ h2 ih hf hK
theorem TrOf.keep {q : Nat} {w w' : World} (h : Keep q w w') (hq : Other w q) {t k : Nat} {L : List Ent} {N : List Nat} (ht : TrOf w t k L N) : TrOf w' t k L N := by
  obtain ⟨r, h1, h2⟩ := ht
  refine ⟨r, ⟨h.cells h1.1 (fun e => by subst e; exact (hq _ _ _ h1.1).2.2.2.1 rfl), h1.2⟩, ?_⟩
  cases r with
  | none => exact h2
  | some b => obtain ⟨K, h3, h4⟩ := h2; exact ⟨K, h3.keep h hq, h4⟩
end Go.Proofs.Ytdjemmopecchmaa
