/- A scope with one label to which the run jumps back: the relation bears a number that every pass lowers. -/
import Derived.ScopeJumps
import Derived.Deep.LoopGhost
import Derived.WalkKit
namespace Go.Proofs.Ytdjemmopecchmaa
open Go.RowKit

/-- As Q; by a goto to label l: the relation at a smaller number. -/
def JumpTo (l : Nat) (I : Nat → Act → World → Prop) (n : Nat) (Q : Exit → Act → World → Prop) : Exit → Act → World → Prop
  | .goto l', a, w => l' = l ∧ ∃ n', n' < n ∧ I n' a w
  | e, a, w => Q e a w
/-- As Q; by a goto to label l: the relation at some number. -/
def JumpIn (l : Nat) (I : Nat → Act → World → Prop) (Q : Exit → Act → World → Prop) : Exit → Act → World → Prop := Exit.jump l (fun a w => ∃ n, I n a w) Q
section
variable {P : Program} {a : Act} {w : World} {Q : Exit → Act → World → Prop}
theorem wp_seq_lab {l : Nat} {B : Code} (h : B.wp P Q a w) : (Code.seq (.label l) B).wp P Q a w := wp_seq (wp_label h)
theorem wp_scope_goto {c B : Code} (l : Nat) (I : Nat → Act → World → Prop) (hf : findLabel c l = some (.seq .skip B))
    (pass : ∀ n a w, I n a w → B.wp P (JumpTo l I n Q) a w) (first : (∀ n a w, I n a w → B.wp P (JumpIn l I Q) a w) → c.wp P (JumpIn l I Q) a w) : (Code.scope c).wp P Q a w := by
  refine wp_scope_jumps l (fun a w => ∃ n, I n a w) (fun a w => leastOf (fun n => I n a w)) hf (first fun n a w h => Code.wp_mono ?_ (pass n a w h)) ?_
  · intro e a' w' hq
    cases e with
    | goto l' => obtain ⟨h1, n', _, h2⟩ := hq; exact ⟨h1, n', h2⟩
    | normal => exact hq
    | exit id => exact hq
    | ret => exact hq
    | panic ch => exact hq
    | outgrown => exact hq
  · intro a w hI
    refine wp_seq (wp_skip (Code.wp_mono ?_ (pass _ a w (leastOf_spec hI).1)))
    intro e a' w' hq
    cases e with
    | goto l' =>
      obtain ⟨h1, n', hlt, h2⟩ := hq
      exact ⟨h1, ⟨n', h2⟩, Nat.lt_of_le_of_lt ((leastOf_spec ⟨n', h2⟩).2 n' h2) hlt⟩
    | normal => exact hq
    | exit id => exact hq
    | ret => exact hq
    | panic ch => exact hq
    | outgrown => exact hq
end
end Go.Proofs.Ytdjemmopecchmaa
