/- node.Leaf -/
import Derived.Test.YtdjemmopecchmaaNw
namespace Go.Proofs.Ytdjemmopecchmaa
open Go.RowKit Go.Proofs.YtdjemmopecchmaaW.PrintWords Key
set_option linter.unusedVariables false
set_option linter.unusedSimpArgs false

set_option maxRecDepth 100000 in
set_option maxHeartbeats 800000 in
theorem nLeaf_any (k : Nat) (A : Option Addr) (p : List Int) (v : Int) (cap : Nat) (w : World) (hr : RdU w A p) (hl : p.length = k) (h1 : 1 ≤ k) (h16 : k ≤ 16) (hp : Ok p) (hv : U v) :
    Calls Try.prog 88 #[.slice A p.length cap, .int .u64 v] w fun e w' => ∃ b, e = .returned (.tuple #[.pointer (some ⟨b, 0, none⟩), .int .i64 0]) ∧ NodeOf w' k b ⟨0, key p, [(p, v)], [b]⟩ ∧ w.heap.size ≤ b ∧ Below w.heap.size w w' := by
  subst hl
  have HV := Lib.hid hv
  clear hv
  go_enter Try.func88, Try.ntmps88
  go_wp2_with (first
    | (go_at_call 149; refine (zRight_any A p.length cap _ true (by simp; omega)).mono ?_; rintro e w1 ⟨rfl, rfl⟩)
    | (go_at_call 117; refine (cloneU_any A p cap _ hr (by omega) (by omega)).mono ?_; rintro e w2 ⟨g, c', rfl, ho, hb2⟩))
  go_ret2
  obtain ⟨hrd, hlen, hcap⟩ := own_rdU ho
  have hba : ∀ o, Below w2.heap.size w2 (w2.alloc o) := fun o => (Below.refl w2.heap.size w2).alloc (Nat.le_refl _) o
  refine ⟨_, rfl, .leaf _ p v _ ⟨_, _, heap_alloc_new _ _, hcap, Kd.C_below hrd (hba _)⟩ rfl h1 h16 hp HV.out rfl, hb2.size, hb2.alloc hb2.size _⟩
end Go.Proofs.Ytdjemmopecchmaa
