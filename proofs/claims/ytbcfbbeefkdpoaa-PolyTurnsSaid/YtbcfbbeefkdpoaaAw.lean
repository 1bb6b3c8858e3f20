/- The walk over the chapter's example: pantilelaw28.awake. -/
import Derived.Test.YtbcfbbeefkdpoaaPo
namespace Go.Proofs.Ytbcfbbeefkdpoaa
open Go.RowKit Go.Proofs.YtbcfbbeefkdpoaaW.PrintWords Fl
set_option linter.unusedVariables false
set_option linter.unusedSimpArgs false

theorem RU.mk {w : World} {g : Nat} {xs : List Int} (hl : xs.length ≤ 9223372036854775807) (h : ∀ j x, xs[j]? = some x → w.cell? ⟨g, j, none⟩ = some (.int .u64 x)) : RU w (some ⟨g, 0, none⟩) xs := by
  refine ⟨rfl, hl, fun _ => ⟨_, rfl, fun j p hj => ⟨[.int .u64 p], rfl, ?_, fun i u hu => ?_⟩⟩⟩
  · exact rfl
  · have hi : i = 0 := by
      cases i with
      | zero => rfl
      | succ i => simp at hu
    subst hi
    obtain rfl : Value.int .u64 p = u := by simpa using hu
    have hsz : (Kd.int .u64).sz = 1 := rfl
    rw [hsz, Nat.mul_one, Nat.add_zero]
    have := h j p hj
    unfold Addr.add
    by_cases h0 : j = 0
    · subst h0; exact this
    · rw [if_neg h0]; simpa using this
theorem RR.mk {w : World} {g : Nat} {l : List (List Int)} (hl : l.length ≤ 9223372036854775807) (h : ∀ j xs, l[j]? = some xs → ∃ A c, w.cell? ⟨g, j, none⟩ = some (.slice A xs.length c) ∧ xs.length ≤ c ∧ RU w A xs) : RR w (some ⟨g, 0, none⟩) l := by
  refine ⟨rfl, hl, fun _ => ⟨_, rfl, fun j xs hj => ?_⟩⟩
  obtain ⟨A, c, h1, h2, h3⟩ := h j xs hj
  refine ⟨[.slice A xs.length c], rfl, ⟨A, c, rfl, h2, h3⟩, fun i u hu => ?_⟩
  have hi : i = 0 := by
    cases i with
    | zero => rfl
    | succ i => simp at hu
  subst hi
  obtain rfl : Value.slice A xs.length c = u := by simpa using hu
  have hsz : (Kd.slice 43 (Kd.int .u64)).sz = 1 := rfl
  rw [hsz, Nat.mul_one, Nat.add_zero]
  unfold Addr.add
  by_cases h0 : j = 0
  · subst h0; exact h1
  · rw [if_neg h0]; simpa using h1

/-- A row of two numbers in a block. -/
theorem RU.two_of {w : World} {g : Nat} {x y : Int} {t : TypeId} (h : w.heap[g]? = some (.cells #[.int .u64 x, .int .u64 y] t (0, 0))) : RU w (some ⟨g, 0, none⟩) [x, y] := by
  refine RU.mk (by simp) (fun j v hj => ?_)
  match j with
  | 0 => simp at hj; subst hj; unfold World.cell?; simp only [h]; rfl
  | 1 => simp at hj; subst hj; unfold World.cell?; simp only [h]; rfl
  | j + 2 => simp at hj

def ring4 : List (List Int) := [[0, 0], [4, 0], [4, 4], [0, 4]]
theorem ring4_nats : Nats ring4 := by
  intro xs hx n hn
  simp only [ring4, List.mem_cons, List.not_mem_nil, or_false] at hx
  rcases hx with rfl | rfl | rfl | rfl <;> simp at hn <;> omega

/-- The world in which the example's ring lies. -/
def ringWorld (w : World) : World :=
  ((((w.alloc (.cells #[.int .u64 0, .int .u64 0] 43)).alloc (.cells #[.int .u64 4, .int .u64 0] 43)).alloc (.cells #[.int .u64 4, .int .u64 4] 43)).alloc (.cells #[.int .u64 0, .int .u64 4] 43)).alloc
    (.cells #[.slice (some ⟨w.heap.size, 0, none⟩) 2 2, .slice (some ⟨w.heap.size + 1, 0, none⟩) 2 2, .slice (some ⟨w.heap.size + 1 + 1, 0, none⟩) 2 2, .slice (some ⟨w.heap.size + 1 + 1 + 1, 0, none⟩) 2 2] 23)
theorem ring4_at (w : World) : RR (ringWorld w) (some ⟨w.heap.size + 1 + 1 + 1 + 1, 0, none⟩) ring4 ∧ Below w.heap.size w (ringWorld w) := by
  have hb : Below w.heap.size w (ringWorld w) := by
    unfold ringWorld
    exact (((((Below.refl _ w).alloc (Nat.le_refl _) _).alloc (by simp) _).alloc (by simp; omega) _).alloc (by simp; omega) _).alloc (by simp; omega) _
  have h0 : (ringWorld w).heap[w.heap.size]? = some (.cells #[.int .u64 0, .int .u64 0] 43 (0, 0)) := by
    unfold ringWorld
    rw [Below.heap_alloc _ _ _ (by simp; omega), Below.heap_alloc _ _ _ (by simp; omega), Below.heap_alloc _ _ _ (by simp; omega), Below.heap_alloc _ _ _ (by simp)]
    exact World.alloc_heap_new w _
  have h1 : (ringWorld w).heap[w.heap.size + 1]? = some (.cells #[.int .u64 4, .int .u64 0] 43 (0, 0)) := by
    unfold ringWorld
    rw [Below.heap_alloc _ _ _ (by first | (simp; omega) | simp), Below.heap_alloc _ _ _ (by first | (simp; omega) | simp), Below.heap_alloc _ _ _ (by simp)]
    have := World.alloc_heap_new (w.alloc (.cells #[.int .u64 0, .int .u64 0] 43)) (.cells #[.int .u64 4, .int .u64 0] 43)
    rwa [World.size_alloc] at this
  have h2 : (ringWorld w).heap[w.heap.size + 1 + 1]? = some (.cells #[.int .u64 4, .int .u64 4] 43 (0, 0)) := by
    unfold ringWorld
    rw [Below.heap_alloc _ _ _ (by first | (simp; omega) | simp), Below.heap_alloc _ _ _ (by simp)]
    have := World.alloc_heap_new ((w.alloc (.cells #[.int .u64 0, .int .u64 0] 43)).alloc (.cells #[.int .u64 4, .int .u64 0] 43)) (.cells #[.int .u64 4, .int .u64 4] 43)
    rwa [World.size_alloc, World.size_alloc] at this
  have h3 : (ringWorld w).heap[w.heap.size + 1 + 1 + 1]? = some (.cells #[.int .u64 0, .int .u64 4] 43 (0, 0)) := by
    unfold ringWorld
    rw [Below.heap_alloc _ _ _ (by simp)]
    have := World.alloc_heap_new (((w.alloc (.cells #[.int .u64 0, .int .u64 0] 43)).alloc (.cells #[.int .u64 4, .int .u64 0] 43)).alloc (.cells #[.int .u64 4, .int .u64 4] 43)) (.cells #[.int .u64 0, .int .u64 4] 43)
    rwa [World.size_alloc, World.size_alloc, World.size_alloc] at this
  have h4 : (ringWorld w).heap[w.heap.size + 1 + 1 + 1 + 1]? = some (.cells #[.slice (some ⟨w.heap.size, 0, none⟩) 2 2, .slice (some ⟨w.heap.size + 1, 0, none⟩) 2 2, .slice (some ⟨w.heap.size + 1 + 1, 0, none⟩) 2 2, .slice (some ⟨w.heap.size + 1 + 1 + 1, 0, none⟩) 2 2] 23 (0, 0)) := by
    unfold ringWorld
    have := World.alloc_heap_new ((((w.alloc (.cells #[.int .u64 0, .int .u64 0] 43)).alloc (.cells #[.int .u64 4, .int .u64 0] 43)).alloc (.cells #[.int .u64 4, .int .u64 4] 43)).alloc (.cells #[.int .u64 0, .int .u64 4] 43))
      (.cells #[.slice (some ⟨w.heap.size, 0, none⟩) 2 2, .slice (some ⟨w.heap.size + 1, 0, none⟩) 2 2, .slice (some ⟨w.heap.size + 1 + 1, 0, none⟩) 2 2, .slice (some ⟨w.heap.size + 1 + 1 + 1, 0, none⟩) 2 2] 23)
    rwa [World.size_alloc, World.size_alloc, World.size_alloc, World.size_alloc] at this
  refine ⟨RR.mk (by decide) (fun j xs hj => ?_), hb⟩
  match j with
  | 0 =>
    obtain rfl : [0, 0] = xs := by simpa [ring4] using hj
    exact ⟨_, 2, by unfold World.cell?; simp only [h4]; rfl, Nat.le_refl _, RU.two_of h0⟩
  | 1 =>
    obtain rfl : [4, 0] = xs := by simpa [ring4] using hj
    exact ⟨_, 2, by unfold World.cell?; simp only [h4]; rfl, Nat.le_refl _, RU.two_of h1⟩
  | 2 =>
    obtain rfl : [4, 4] = xs := by simpa [ring4] using hj
    exact ⟨_, 2, by unfold World.cell?; simp only [h4]; rfl, Nat.le_refl _, RU.two_of h2⟩
  | 3 =>
    obtain rfl : [0, 4] = xs := by simpa [ring4] using hj
    exact ⟨_, 2, by unfold World.cell?; simp only [h4]; rfl, Nat.le_refl _, RU.two_of h3⟩
  | j + 4 => simp [ring4] at hj

theorem ring4_area : areaOf (ring4.map pt) = 32 := by decide
theorem ring4_winds : windsAt (ring4.map pt) (pt [1, 1]) = 1 := by decide
theorem ring4_on : onRing (ring4.map pt) (pt [4, 2]) = true := by decide

set_option maxRecDepth 100000 in
theorem awake_any (w : World) : Calls Try.prog 5 #[] w fun e w' => e = .returned (.bool true) ∧ Below w.heap.size w w' := by
  obtain ⟨hr, hb⟩ := ring4_at w
  have C1 := area_yes (some ⟨w.heap.size + 1 + 1 + 1 + 1, 0, none⟩) 4 ring4 (ringWorld w) hr ring4_nats (by decide)
  have C2 := fun (W : World) (hW : Below (ringWorld w).heap.size (ringWorld w) W) (B : Option Addr) (h : RU W B [1, 1]) => pWinds_yes (some ⟨w.heap.size + 1 + 1 + 1 + 1, 0, none⟩) B 4 2 ring4 [1, 1] W (Kd.C_below hr hW) ring4_nats (by decide) h (by decide) (by intro n hn; simp at hn; omega) (by decide)
  have C3 := fun (W : World) (hW : Below (ringWorld w).heap.size (ringWorld w) W) (B : Option Addr) (h : RU W B [4, 2]) => pOn_yes (some ⟨w.heap.size + 1 + 1 + 1 + 1, 0, none⟩) B 4 2 ring4 [4, 2] W (Kd.C_below hr hW) ring4_nats (by decide) h (by decide) (by intro n hn; simp at hn; omega) (by decide)
  rw [ring4_area] at C1
  rw [ring4_winds] at C2
  rw [ring4_on] at C3
  have eW : ringWorld w = ((((w.alloc (.cells #[.int .u64 0, .int .u64 0] 43)).alloc (.cells #[.int .u64 4, .int .u64 0] 43)).alloc (.cells #[.int .u64 4, .int .u64 4] 43)).alloc (.cells #[.int .u64 0, .int .u64 4] 43)).alloc
    (.cells #[.slice (some ⟨w.heap.size, 0, none⟩) 2 2, .slice (some ⟨w.heap.size + 1, 0, none⟩) 2 2, .slice (some ⟨w.heap.size + 1 + 1, 0, none⟩) 2 2, .slice (some ⟨w.heap.size + 1 + 1 + 1, 0, none⟩) 2 2] 23) := rfl
  obtain ⟨W5, h5⟩ : ∃ W5, ringWorld w = W5 := ⟨_, rfl⟩
  rw [h5] at hb C1 C2 C3
  rw [eW] at h5
  clear eW hr
  go_enter Try.func5, Try.ntmps5
  go_wp2_with (fail)
  refine C1.mono ?_
  rintro e w1 ⟨rfl, hb1⟩
  have D2 := C2 (w1.alloc (.cells #[.int .u64 1, .int .u64 1] 43)) (hb1.alloc hb1.size _) (some ⟨w1.heap.size, 0, none⟩) (RU.two_of (World.alloc_heap_new w1 _))
  clear C1 C2
  go_wp2_with (fail)
  refine D2.mono ?_
  rintro e w2 ⟨rfl, hb2⟩
  have hb2' : Below W5.heap.size W5 w2 := (hb1.alloc hb1.size _).trans (hb2.mono (by have := hb1.size; simp; omega))
  have D3 := C3 (w2.alloc (.cells #[.int .u64 4, .int .u64 2] 43)) (hb2'.alloc hb2'.size _) (some ⟨w2.heap.size, 0, none⟩) (RU.two_of (World.alloc_heap_new w2 _))
  clear D2 C3 hb1 hb2
  go_wp2_with (fail)
  refine D3.mono ?_
  rintro e w3 ⟨rfl, hb3⟩
  have hb3' : Below W5.heap.size W5 w3 := (hb2'.alloc hb2'.size _).trans (hb3.mono (by have := hb2'.size; simp; omega))
  clear D3
  go_wp2
  go_ret
  exact ⟨rfl, hb.trans (hb3'.mono hb.size)⟩
end Go.Proofs.Ytbcfbbeefkdpoaa
