/- Nodes in memory; the small walks over package node. -/
import Derived.Test.YtdjemmopecchmaaSe
namespace Go.Proofs.Ytdjemmopecchmaa
open Go.RowKit Go.Proofs.YtdjemmopecchmaaW.PrintWords Key
set_option linter.unusedVariables false
set_option linter.unusedSimpArgs false

/-- a node's own cells: level, prefix, value, kids, sums -/
structure Head where
  lv : Int
  pre : List Int
  v : Int
  s : Option Nat
  c : Int
  sm : Int
  mn : Int
  mx : Int
def HdAt (w : World) (b : Nat) (h : Head) : Prop :=
  ∃ A cap, w.heap[b]? = some (.cells #[.int .i64 h.lv, .slice A h.pre.length cap, .int .u64 h.v, ptr h.s, .int .u64 h.c, .int .u64 h.sm, .int .u64 h.mn, .int .u64 h.mx] 207 (0, 0)) ∧ h.pre.length ≤ cap ∧ RdU w A h.pre
theorem HdAt.below {w w' : World} {b : Nat} {h : Head} (hh : HdAt w b h) (hb : Below w.heap.size w w') : HdAt w' b h := by
  obtain ⟨A, cap, h1, h2, h3⟩ := hh
  exact ⟨A, cap, by rw [hb.block b (Array.getElem?_eq_some_iff.1 h1).1]; exact h1, h2, Kd.C_below h3 hb⟩
theorem HdAt.lt {w : World} {b : Nat} {h : Head} (hh : HdAt w b h) : b < w.heap.size := by
  obtain ⟨A, cap, h1, _⟩ := hh
  exact (Array.getElem?_eq_some_iff.1 h1).1
theorem HdAt.cells {w : World} {b : Nat} {h : Head} (hh : HdAt w b h) : ∃ A cap, w.cell? ⟨b, 0, none⟩ = some (.int .i64 h.lv) ∧ w.cell? ⟨b, 1, none⟩ = some (.slice A h.pre.length cap) ∧ w.cell? ⟨b, 2, none⟩ = some (.int .u64 h.v) ∧
    w.cell? ⟨b, 3, none⟩ = some (ptr h.s) ∧ w.cell? ⟨b, 4, none⟩ = some (.int .u64 h.c) ∧ w.cell? ⟨b, 5, none⟩ = some (.int .u64 h.sm) ∧ w.cell? ⟨b, 6, none⟩ = some (.int .u64 h.mn) ∧ w.cell? ⟨b, 7, none⟩ = some (.int .u64 h.mx) ∧
    h.pre.length ≤ cap ∧ RdU w A h.pre := by
  obtain ⟨A, cap, h1, h2, h3⟩ := hh
  exact ⟨A, cap, cell_of_block h1 0, cell_of_block h1 1, cell_of_block h1 2, cell_of_block h1 3, cell_of_block h1 4, cell_of_block h1 5, cell_of_block h1 6, cell_of_block h1 7, h2, h3⟩

theorem cell_al {w : World} {a : Addr} {v : Value} (h : w.cell? a = some v) : ∀ o, (w.alloc o).cell? a = some v := fun o => pw_cell_below ((Below.refl _ _).alloc (Nat.le_refl _) o) h

theorem nLevel_any (b : Nat) (h : Head) (w : World) (hh : HdAt w b h) :
    Calls Try.prog 146 #[.pointer (some ⟨b, 0, none⟩)] w fun e w' => e = .returned (.int .i64 h.lv) ∧ w = w' := by
  obtain ⟨A, cap, c0, c1, c2, c3, c4, c5, c6, c7, hc, hr⟩ := hh.cells
  go_enter Try.func146, Try.ntmps146
  go_wp2
  go_ret
  exact ⟨rfl, rfl⟩
theorem nLevel_nil (w : World) : Calls Try.prog 146 #[.pointer none] w fun e w' => e = .returned (.int .i64 (-1)) ∧ w = w' := by
  go_enter Try.func146, Try.ntmps146
  go_wp2
  go_ret
  exact ⟨rfl, rfl⟩
theorem nK_any (b : Nat) (h : Head) (w : World) (hh : HdAt w b h) :
    Calls Try.prog 144 #[.pointer (some ⟨b, 0, none⟩)] w fun e w' => e = .returned (.int .i64 h.pre.length) ∧ w = w' := by
  obtain ⟨A, cap, c0, c1, c2, c3, c4, c5, c6, c7, hc, hr⟩ := hh.cells
  go_enter Try.func144, Try.ntmps144
  go_wp2
  go_ret
  exact ⟨rfl, rfl⟩
theorem nslots_any (b : Nat) (h : Head) (w : World) (hh : HdAt w b h) :
    Calls Try.prog 163 #[.pointer (some ⟨b, 0, none⟩)] w fun e w' => e = .returned (ptr h.s) ∧ w = w' := by
  obtain ⟨A, cap, c0, c1, c2, c3, c4, c5, c6, c7, hc, hr⟩ := hh.cells
  go_enter Try.func163, Try.ntmps163
  go_wp2
  go_ret
  exact ⟨rfl, rfl⟩
theorem nslots_nil (w : World) : Calls Try.prog 163 #[.pointer none] w fun e w' => e = .returned (.pointer none) ∧ w = w' := by
  go_enter Try.func163, Try.ntmps163
  go_wp2
  go_ret
  exact ⟨rfl, rfl⟩
theorem nat_any (b lv : Nat) (h : Head) (w : World) (hh : HdAt w b h) (hok : Ok h.pre) (h1 : 1 ≤ h.pre.length) (h16 : h.pre.length ≤ 16) (hlv : lv < 64) :
    Calls Try.prog 153 #[.pointer (some ⟨b, 0, none⟩), .int .i64 lv] w fun e w' => e = .returned (.int .i64 (addr h.pre lv)) ∧ w = w' := by
  obtain ⟨A, cap, c0, c1, c2, c3, c4, c5, c6, c7, hc, hr⟩ := hh.cells
  go_enter Try.func153, Try.ntmps153
  go_wp2_with (go_at_call 158; refine (zAddr_any A h.pre cap lv _ hr hok h1 h16 hlv).mono ?_; rintro e w' ⟨rfl, rfl⟩)
  go_ret
  exact ⟨rfl, rfl⟩
set_option maxHeartbeats 400000 in
theorem nCovers_any (b : Nat) (h : Head) (A' : Option Addr) (p : List Int) (c' : Nat) (w : World) (hh : HdAt w b h) (hok : Ok h.pre) (h1 : 1 ≤ h.pre.length) (h16 : h.pre.length ≤ 16) (hp : RdU w A' p) (hpo : Ok p) (hl : h.pre.length = p.length) (r : Bool) (hr' : r = true ↔ (parts h.pre p : Int) - 1 ≤ h.lv) :
    Calls Try.prog 145 #[.pointer (some ⟨b, 0, none⟩), .slice A' p.length c'] w fun e w' => e = .returned (.bool r) ∧ w = w' := by
  obtain ⟨A, cap, c0, c1, c2, c3, c4, c5, c6, c7, hc, hr⟩ := hh.cells
  have HRR := Lib.hid hr'
  have HL := Lib.hid hl
  clear hr' hl
  cases r with
  | true =>
    have hd : decide ((parts h.pre p : Int) - 1 ≤ h.lv) = true := decide_eq_true (HRR.out.1 rfl)
    have hle := HRR.out.1 rfl
    go_enter Try.func145, Try.ntmps145
    go_wp2_with (go_at_call 150; refine (zPart_any A A' h.pre p cap c' _ hr hp hok hpo h1 h16 HL.out).mono ?_; rintro e w' ⟨rfl, rfl⟩)
    go_ret
    exact ⟨(by first | rfl | (simp; done) | (simp; omega)), rfl⟩
  | false =>
    have hgt : h.lv < (parts h.pre p : Int) - 1 := by
      rcases Int.lt_or_le h.lv ((parts h.pre p : Int) - 1) with h' | h'
      · exact h'
      · exact absurd (HRR.out.2 h') (by simp)
    go_enter Try.func145, Try.ntmps145
    go_wp2_with (go_at_call 150; refine (zPart_any A A' h.pre p cap c' _ hr hp hok hpo h1 h16 HL.out).mono ?_; rintro e w' ⟨rfl, rfl⟩)
    go_ret
    exact ⟨(by first | rfl | (simp; done) | (simp; omega)), rfl⟩
theorem nCovers_nil (v : Value) (w : World) : Calls Try.prog 145 #[.pointer none, v] w fun e w' => e = .returned (.bool false) ∧ w = w' := by
  go_enter Try.func145, Try.ntmps145
  go_wp2
  go_ret
  exact ⟨rfl, rfl⟩
set_option maxRecDepth 100000 in
set_option maxHeartbeats 800000 in
theorem nEntry_leaf (b : Nat) (h : Head) (w : World) (hh : HdAt w b h) (hs : h.s = none) (h1 : 1 ≤ h.pre.length) (h16 : h.pre.length ≤ 16) :
    Calls Try.prog 148 #[.pointer (some ⟨b, 0, none⟩)] w fun e w' => ∃ g c, e = .returned (.tuple #[.agg #[.slice (some ⟨g, 0, none⟩) h.pre.length c, .int .u64 h.v], .bool true]) ∧ w'.ownsRow w.heap.size 31 1 (.slice (some ⟨g, 0, none⟩) h.pre.length c) h.pre.length (nums .u64 h.pre) ∧ Below w.heap.size w w' := by
  obtain ⟨A, cap, c0, c1, c2, c3, c4, c5, c6, c7, hc, hr⟩ := hh.cells
  rw [hs] at c3
  have a1 := cell_al c1
  have a2 := cell_al c2
  have a3 := cell_al c3
  have hBa : ∀ o, Below w.heap.size w (w.alloc o) := fun o => (Below.refl _ _).alloc (Nat.le_refl _) o
  have hne1 : ¬ b = w.heap.size := Nat.ne_of_lt hh.lt
  have hne2 : ¬ w.heap.size = b := fun e => hne1 e.symm
  have hsz : ∀ o, w.heap.size < (w.alloc o).drew.heap.size := fun o => by show _ < (w.alloc o).heap.size; simp
  have hBd : ∀ o, Below w.heap.size w (w.alloc o).drew := fun o => (hBa o).drew
  have ad1 : ∀ o, (w.alloc o).drew.cell? ⟨b, 1, none⟩ = some (.slice A h.pre.length cap) := a1
  have ad2 : ∀ o, (w.alloc o).drew.cell? ⟨b, 2, none⟩ = some (.int .u64 h.v) := a2
  have hrb : ∀ {W : World}, Below w.heap.size w W → RdU W A h.pre := fun hb => Kd.C_below hr hb
  go_enter Try.func148, Try.ntmps148
  go_wp2_with fail
  go_region_held3 (fun w' => w'.cell? ⟨b, 1, none⟩ = some (.slice A h.pre.length cap) ∧ w'.cell? ⟨b, 2, none⟩ = some (.int .u64 h.v)) (first | go_keep | exact ⟨k1, k2⟩)
    (first
      | (go_at_call 117; refine (cloneU_any A h.pre cap _ (hrb ?_) h1 h16).mono ?_; (exact (hBd _)); rintro e w2 ⟨g, c', rfl, ho, hb2⟩; have k1 := pw_cell_below hb2 (ad1 _); have k2 := pw_cell_below hb2 (ad2 _); have hn2 : w2.heap[w.heap.size]? = some (.cells #[.slice none 0 0, .int .u64 0] 106 (0, 0)) := (hb2.block _ (hsz _)).trans (heap_alloc_new w _); have r0 : w2.cell? ⟨w.heap.size, 0, none⟩ = some (.slice none 0 0) := cell_of_block hn2 0; have r1 : w2.cell? ⟨w.heap.size, 1, none⟩ = some (.int .u64 0) := cell_of_block hn2 1; have f0 := free_block hn2 0; have f1 := free_block hn2 1))
  all_goals
    go_wp2
    have hbW : Below w.heap.size w w2 := (hBd _).trans (hb2.mono (Nat.le_of_lt (hsz _)))
    refine bodyPost_ret (v := .tuple #[.agg #[.slice (some ⟨g, 0, none⟩) h.pre.length c', .int .u64 h.v], .bool true]) (by simp [results, Try.results148, go_sem, *]) rfl ⟨g, c', rfl, ?_, (hbW.setCell (Nat.le_refl _) _).setCell (Nat.le_refl _) _⟩
    have hg : w.heap.size < g := Nat.lt_of_lt_of_le (hsz _) (own_base ho g rfl)
    exact own_far (own_far (own_lower ho (Nat.le_of_lt (hsz _))) (Nat.ne_of_lt hg) _) (Nat.ne_of_lt hg) _

set_option maxRecDepth 100000 in
theorem nEntry_node (b sb : Nat) (h : Head) (w : World) (hh : HdAt w b h) (hs : h.s = some sb) :
    Calls Try.prog 148 #[.pointer (some ⟨b, 0, none⟩)] w fun e w' => e = .returned (.tuple #[.agg #[.slice none 0 0, .int .u64 0], .bool false]) ∧ Below w.heap.size w w' := by
  obtain ⟨A, cap, c0, c1, c2, c3, c4, c5, c6, c7, hc, hr⟩ := hh.cells
  rw [hs] at c3
  have a3 := cell_al c3
  go_enter Try.func148, Try.ntmps148
  go_wp2
  exact bodyPost_ret (v := .tuple #[.agg #[.slice none 0 0, .int .u64 0], .bool false]) (by simp [results, Try.results148, go_sem]) rfl ⟨rfl, by first | exact (Below.refl _ _).alloc (Nat.le_refl _) _ | exact (((Below.refl _ _).alloc (Nat.le_refl _) _).setCell (Nat.le_refl _) _).setCell (Nat.le_refl _) _⟩
theorem nEntry_nil (w : World) :
    Calls Try.prog 148 #[.pointer none] w fun e w' => e = .returned (.tuple #[.agg #[.slice none 0 0, .int .u64 0], .bool false]) ∧ Below w.heap.size w w' := by
  go_enter Try.func148, Try.ntmps148
  go_wp2
  exact bodyPost_ret (v := .tuple #[.agg #[.slice none 0 0, .int .u64 0], .bool false]) (by simp [results, Try.results148, go_sem]) rfl ⟨rfl, by first | exact (Below.refl _ _).alloc (Nat.le_refl _) _ | exact (((Below.refl _ _).alloc (Nat.le_refl _) _).setCell (Nat.le_refl _) _).setCell (Nat.le_refl _) _⟩
set_option maxRecDepth 100000 in
set_option maxHeartbeats 400000 in
theorem nSums_any (b : Nat) (h : Head) (w : World) (hh : HdAt w b h) :
    Calls Try.prog 93 #[.pointer (some ⟨b, 0, none⟩)] w fun e w' => e = .returned (.agg #[.int .u64 h.c, .int .u64 h.sm, .int .u64 h.mn, .int .u64 h.mx]) ∧ Below w.heap.size w w' := by
  obtain ⟨A, cap, c0, c1, c2, c3, c4, c5, c6, c7, hc, hr⟩ := hh.cells
  have a4 := cell_al c4
  have a5 := cell_al c5
  have a6 := cell_al c6
  have a7 := cell_al c7
  go_enter Try.func93, Try.ntmps93
  go_wp2
  exact bodyPost_ret (v := .agg #[.int .u64 h.c, .int .u64 h.sm, .int .u64 h.mn, .int .u64 h.mx]) (by simp [results, Try.results93, go_sem]) rfl ⟨rfl, by first | exact (Below.refl _ _).alloc (Nat.le_refl _) _ | exact ((((((Below.refl _ _).alloc (Nat.le_refl _) _).setCell (Nat.le_refl _) _).setCell (Nat.le_refl _) _).setCell (Nat.le_refl _) _).setCell (Nat.le_refl _) _)⟩
set_option maxRecDepth 100000 in
theorem nSums_nil (w : World) :
    Calls Try.prog 93 #[.pointer none] w fun e w' => e = .returned (.agg #[.int .u64 0, .int .u64 0, .int .u64 0, .int .u64 0]) ∧ Below w.heap.size w w' := by
  go_enter Try.func93, Try.ntmps93
  go_wp2
  exact bodyPost_ret (v := .agg #[.int .u64 0, .int .u64 0, .int .u64 0, .int .u64 0]) (by simp [results, Try.results93, go_sem]) rfl ⟨rfl, by first | exact (Below.refl _ _).alloc (Nat.le_refl _) _ | exact ((((((Below.refl _ _).alloc (Nat.le_refl _) _).setCell (Nat.le_refl _) _).setCell (Nat.le_refl _) _).setCell (Nat.le_refl _) _).setCell (Nat.le_refl _) _)⟩
theorem nPrefix_any (b : Nat) (h : Head) (w : World) (hh : HdAt w b h) (h1 : 1 ≤ h.pre.length) (h16 : h.pre.length ≤ 16) :
    Calls Try.prog 182 #[.pointer (some ⟨b, 0, none⟩)] w fun e w' => ∃ g c, e = .returned (.slice (some ⟨g, 0, none⟩) h.pre.length c) ∧ w'.ownsRow w.heap.size 31 1 (.slice (some ⟨g, 0, none⟩) h.pre.length c) h.pre.length (nums .u64 h.pre) ∧ Below w.heap.size w w' := by
  obtain ⟨A, cap, c0, c1, c2, c3, c4, c5, c6, c7, hc, hr⟩ := hh.cells
  go_enter Try.func182, Try.ntmps182
  go_wp2_with (go_at_call 117; refine (cloneU_any A h.pre cap _ hr h1 h16).mono ?_; rintro e w2 ⟨g, c', rfl, ho, hb2⟩)
  go_ret
  exact ⟨g, c', rfl, ho, hb2⟩
end Go.Proofs.Ytdjemmopecchmaa
