/- Package sets: two entries at one point. -/
import Derived.Test.YtdjemmopecchmaaTw
import Derived.Test.YtdjemmopecchmaaTg
namespace Go.Proofs.Ytdjemmopecchmaa
open Go.RowKit Go.Proofs.YtdjemmopecchmaaW.PrintWords Key
set_option linter.unusedVariables false
set_option linter.unusedSimpArgs false

/-- A row of two numbers in a block. -/
theorem RdU.two {w : World} {g : Nat} {x y : Int} {t : TypeId} (h : w.heap[g]? = some (.cells #[.int .u64 x, .int .u64 y] t (0, 0))) : RdU w (some ⟨g, 0, none⟩) [x, y] := by
  refine ⟨rfl, by simp, fun _ => ⟨_, rfl, fun j p hj => ?_⟩⟩
  have hj2 : j < 2 := (List.getElem?_eq_some_iff.1 hj).1
  have hp : [x, y][j] = p := (List.getElem?_eq_some_iff.1 hj).2
  refine ⟨[.int .u64 p], rfl, rfl, fun i u hu => ?_⟩
  have hi : i = 0 := by
    cases i with
    | zero => rfl
    | succ i => simp at hu
  subst hi
  obtain rfl : Value.int .u64 p = u := by simpa using hu
  have hsz : (Kd.int .u64).sz = 1 := rfl
  rw [hsz]
  rcases (by omega : j = 0 ∨ j = 1) with rfl | rfl
  · subst hp
    show w.cell? ⟨g, 0, none⟩ = _
    unfold World.cell?; simp only [h]; rfl
  · subst hp
    show w.cell? ⟨g, 1, none⟩ = _
    unfold World.cell?; simp only [h]; rfl

/-- Of one entry it is the entry itself. -/
theorem NodeOf.one {w : World} {k b : Nat} {K : K4} {e : Ent} (h : NodeOf w k b K) (hL : K.L = [e]) :
    HdAt w b ⟨-1, e.1, e.2, none, 1, e.2, e.2, e.2⟩ ∧ e.1.length = k ∧ 1 ≤ k ∧ k ≤ 16 ∧ Ok e.1 ∧ U e.2 := by
  cases h with
  | leaf _ p v _ hh hl h1 h16 hp hv hK =>
    subst hK
    obtain rfl : (p, v) = e := by simpa using hL
    exact ⟨hh, hl, h1, h16, hp, hv⟩
  | node _ lv h s M f pre _ hh hl hp hlv hpre hs h2 hk hf hK =>
    exfalso
    subst hK
    obtain _ | ⟨x, M⟩ := M
    · simp at h2
    · obtain _ | ⟨y, M⟩ := M
      · simp at h2
      · have hx : (f x.1).L.length ≠ 0 := fun h0 => (hk x (by simp)).ne (List.length_eq_zero_iff.1 h0)
        have hy : (f y.1).L.length ≠ 0 := fun h0 => (hk y (by simp)).ne (List.length_eq_zero_iff.1 h0)
        have := congrArg List.length hL
        simp only [List.flatMap_cons, List.length_append, List.length_singleton] at this
        omega
/-- The first entry of a tree. -/
theorem chg_first {p : List Int} {v : Int} {L' : List Ent} (h : Chg p (fun e => e = (p, v)) [] L') (hs : SortL L') : L' = [(p, v)] := by
  have hp : List.Perm L' [(p, v)] := by
    refine (List.perm_ext_iff_of_nodup ?_ (by simp)).2 (fun e => ?_)
    · exact List.Pairwise.imp (fun hab e => Nat.ne_of_lt hab (congrArg (fun z : Ent => key z.1) e)) hs
    · rw [h e, List.mem_singleton]; simp
  exact List.perm_singleton.1 hp
/-- A tree of one entry. -/
theorem TrOf.one {w : World} {t k : Nat} {e : Ent} {N : List Nat} (h : TrOf w t k [e] N) : ∃ b, TrAt w t k (some b) ∧ HdAt w b ⟨-1, e.1, e.2, none, 1, e.2, e.2, e.2⟩ ∧ e.1.length = k ∧ Ok e.1 ∧ U e.2 := by
  obtain ⟨r, h1, h2⟩ := h
  cases r with
  | none => exact absurd h2.1 (by simp)
  | some b =>
    obtain ⟨K, h3, h4, _⟩ := h2
    obtain ⟨a1, a2, _, _, a3, a4⟩ := h3.one h4
    exact ⟨b, h1, a1, a2, a3, a4⟩

theorem uvalue5 (w : World) : Calls Try.prog 245 #[.int .i64 5, .int .u64 3, .int .u64 5] w fun e w' => e = .returned (.int .u64 8) ∧ w = w' := by
  go_enter Try.func245, Try.ntmps245
  go_wp2
  go_ret
  exact ⟨rfl, rfl⟩
theorem uvalue6 (w : World) : Calls Try.prog 245 #[.int .i64 6, .int .u64 3, .int .u64 5] w fun e w' => e = .returned (.int .u64 2) ∧ w = w' := by
  go_enter Try.func245, Try.ntmps245
  go_wp2
  go_ret
  exact ⟨rfl, rfl⟩

/-- What stands in the box of a joiner. -/
def JnAt (w : World) (b : Nat) (ru : Int) (l r o : Bool) : Prop := w.heap[b]? = some (.cells #[.int .i64 ru, .bool l, .bool r, .bool o] 189 (0, 0))

set_option maxRecDepth 100000 in
set_option maxHeartbeats 800000 in
theorem uentry_any (ru va vb v : Int) (l r : Bool) (a b k : Nat) (A : Option Addr) (p : List Int) (cap : Nat) (w : World) (hA : RdU w A p) (hb : HdAt w b ⟨-1, p, vb, none, 1, vb, vb, vb⟩) (hl : p.length = k) (h1 : 1 ≤ k) (h16 : k ≤ 16) (hp : Ok p) (hv : U v)
    (hV : ∀ W, Calls Try.prog 245 #[.int .i64 ru, .int .u64 va, .int .u64 vb] W fun e w' => e = .returned (.int .u64 v) ∧ W = w') (hne : (v == va) = false) :
    Calls Try.prog 228 #[.agg #[.int .i64 ru, .bool l, .bool r, .bool true], .pointer (some ⟨a, 0, none⟩), .agg #[.slice A p.length cap, .int .u64 va], .pointer (some ⟨b, 0, none⟩)] w fun e w' => ∃ n, e = .returned (.pointer (some ⟨n, 0, none⟩)) ∧ NodeOf w' k n ⟨0, key p, [(p, v)], [n]⟩ ∧ Below w.heap.size w w' := by
  subst hl
  obtain ⟨o1, ho1⟩ : ∃ o1, Obj.cells #[.int .i64 ru, .bool l, .bool r, .bool true] 189 (0, 0) = o1 := ⟨_, rfl⟩
  obtain ⟨o2, ho2⟩ : ∃ o2, Obj.cells #[.slice A p.length cap, .int .u64 va] 106 (0, 0) = o2 := ⟨_, rfl⟩
  obtain ⟨W2, hW2⟩ : ∃ W2, (w.alloc o1).alloc o2 = W2 := ⟨_, rfl⟩
  have hB0 : Below w.heap.size w W2 := by rw [← hW2]; exact ((Below.refl _ _).alloc (Nat.le_refl _) o1).alloc (by simp) o2
  have hs2 : W2.heap.size = w.heap.size + 2 := by rw [← hW2]; simp
  have e1 : W2.heap[w.heap.size]? = some o1 := by rw [← hW2]; exact (((Below.refl _ _).alloc (Nat.le_refl _) o2).block (B := (w.alloc o1).heap.size) _ (by simp)).trans (heap_alloc_new w _)
  have e2 : W2.heap[w.heap.size + 1]? = some o2 := by rw [← hW2]; have := heap_alloc_new (w.alloc o1) o2; simpa using this
  subst ho1 ho2 hW2
  have C1 := nEntry_leaf b _ _ (hb.below hB0) rfl h1 h16
  have HB0 := Lib.hid hB0
  have HE1 := Lib.hid e1
  have HE2 := Lib.hid e2
  have HS2 := Lib.hid hs2
  have HV := Lib.hid hV
  clear hB0 e1 e2 hs2 hV
  go_enter Try.func228, Try.ntmps228
  go_wp2_with fail
  refine C1.mono ?_
  rintro e w2 ⟨g, c, rfl, ho, hb2⟩
  have k1 := (hb2.block _ (by have := HS2.out; omega)).trans HE1.out
  have k2 := (hb2.block _ (by have := HS2.out; omega)).trans HE2.out
  have a0 : w2.cell? ⟨w.heap.size, 0, none⟩ = some (.int .i64 ru) := cell_of_block k1 0
  have b0 : w2.cell? ⟨w.heap.size + 1, 0, none⟩ = some (.slice A p.length cap) := cell_of_block k2 0
  have b1 : w2.cell? ⟨w.heap.size + 1, 1, none⟩ = some (.int .u64 va) := cell_of_block k2 1
  have a0' := cell_al a0
  have b0' := cell_al b0
  have b1' := cell_al b1
  have hB2 : Below w.heap.size w w2 := HB0.out.trans (hb2.mono HB0.out.size)
  have hB3 : ∀ o, Below w.heap.size w (w2.alloc o) := fun o => hB2.alloc hB2.size o
  have C2 := fun o => nLeaf_any p.length A p v cap (w2.alloc o) (Kd.C_below hA (hB3 o)) rfl h1 h16 hp hv
  have HB3 := Lib.hid hB3
  clear C1 ho hb2 k1 k2 hB2 hB3
  go_wp2_with fail
  refine (HV.out _).mono ?_
  rintro e w3 ⟨rfl, rfl⟩
  go_wp2_with fail
  refine (C2 _).mono ?_
  rintro e w4 ⟨n, rfl, hN, hn, hb4⟩
  go_wp2
  go_ret
  exact ⟨n, rfl, hN, (HB3.out _).trans (hb4.mono (HB3.out _).size)⟩
theorem parts_self (p : List Int) (hp : Ok p) : parts p p = 0 := by
  have := (parts_le_iff p p rfl hp hp 0 (by omega)).2 rfl
  omega
set_option maxRecDepth 100000 in
set_option maxHeartbeats 800000 in
theorem ujoin_any (ru va vb v : Int) (l r : Bool) (a b k : Nat) (p : List Int) (w : World) (ha : HdAt w a ⟨-1, p, va, none, 1, va, va, va⟩) (hb : HdAt w b ⟨-1, p, vb, none, 1, vb, vb, vb⟩) (hl : p.length = k) (h1 : 1 ≤ k) (h16 : k ≤ 16) (hp : Ok p) (hv : U v)
    (hV : ∀ W, Calls Try.prog 245 #[.int .i64 ru, .int .u64 va, .int .u64 vb] W fun e w' => e = .returned (.int .u64 v) ∧ W = w') (hne : (v == va) = false) :
    Calls Try.prog 191 #[.agg #[.int .i64 ru, .bool l, .bool r, .bool true], .pointer (some ⟨a, 0, none⟩), .pointer (some ⟨b, 0, none⟩)] w fun e w' => ∃ n, e = .returned (.pointer (some ⟨n, 0, none⟩)) ∧ NodeOf w' k n ⟨0, key p, [(p, v)], [n]⟩ ∧ Below w.heap.size w w' := by
  subst hl
  obtain ⟨o1, ho1⟩ : ∃ o1, Obj.cells #[.int .i64 ru, .bool l, .bool r, .bool true] 189 (0, 0) = o1 := ⟨_, rfl⟩
  obtain ⟨W2, hW2⟩ : ∃ W2, w.alloc o1 = W2 := ⟨_, rfl⟩
  have hB0 : Below w.heap.size w W2 := by rw [← hW2]; exact (Below.refl _ _).alloc (Nat.le_refl _) o1
  have hs2 : W2.heap.size = w.heap.size + 1 := by rw [← hW2]; simp
  have e1 : W2.heap[w.heap.size]? = some o1 := by rw [← hW2]; exact heap_alloc_new w _
  subst ho1 hW2
  have A2 := ha.below hB0
  have B2 := hb.below hB0
  have L1 := nLevel_any a _ _ A2
  have L2 := nLevel_any b _ _ B2
  have P2 := nPrefix_any b _ _ B2 h1 h16
  have HB0 := Lib.hid hB0
  have HE1 := Lib.hid e1
  have HS2 := Lib.hid hs2
  have HV := Lib.hid hV
  clear hB0 e1 hs2 hV
  go_enter Try.func191, Try.ntmps191
  go_wp2_with fail
  refine L1.mono ?_
  rintro e w3 ⟨rfl, rfl⟩
  go_wp2_with fail
  refine L2.mono ?_
  rintro e w3 ⟨rfl, rfl⟩
  go_wp2_with fail
  refine P2.mono ?_
  rintro e w3 ⟨g, c, rfl, ho, hb3⟩
  obtain ⟨hrd, hlen, hcap⟩ := own_rdU ho
  have C3 := nCovers_any a _ (some ⟨g, 0, none⟩) p c w3 (A2.below hb3) hp h1 h16 hrd hp rfl true (by rw [parts_self p hp]; simp)
  have D3 := nEntry_leaf a _ w3 (A2.below hb3) rfl h1 h16
  have k1 := (hb3.block _ (by have := HS2.out; omega)).trans HE1.out
  have B3 := B2.below hb3
  have hB3 : Below w.heap.size w w3 := HB0.out.trans (hb3.mono HB0.out.size)
  have HK1 := Lib.hid k1
  have HB3 := Lib.hid hB3
  clear L1 L2 P2 ho hb3 k1 hB3 A2 B2 hrd hlen hcap
  go_wp2_with fail
  refine C3.mono ?_
  rintro e w4 ⟨rfl, rfl⟩
  go_wp2_with fail
  refine D3.mono ?_
  rintro e w5 ⟨g', c', rfl, ho, hb5⟩
  obtain ⟨hrd, hlen, hcap⟩ := own_rdU ho
  have k1 := (hb5.block _ (by have := HS2.out; have := HB3.out.size; have := (Array.getElem?_eq_some_iff.1 HK1.out).1; omega)).trans HK1.out
  have a0 := cell_al (show w5.cell? ⟨w.heap.size, 0, none⟩ = some (.int .i64 ru) from cell_of_block k1 0)
  have a1 := cell_al (show w5.cell? ⟨w.heap.size, 1, none⟩ = some (.bool l) from cell_of_block k1 1)
  have a2 := cell_al (show w5.cell? ⟨w.heap.size, 2, none⟩ = some (.bool r) from cell_of_block k1 2)
  have a3 := cell_al (show w5.cell? ⟨w.heap.size, 3, none⟩ = some (.bool true) from cell_of_block k1 3)
  have hB5 : Below w.heap.size w w5 := HB3.out.trans (hb5.mono HB3.out.size)
  have hba : ∀ o, Below w5.heap.size w5 (w5.alloc o) := fun o => (Below.refl _ _).alloc (Nat.le_refl _) o
  have C5 := fun o => uentry_any ru va vb v l r a b p.length (some ⟨g', 0, none⟩) p c' (w5.alloc o) (Kd.C_below hrd (hba o)) ((B3.below hb5).below (hba o)) rfl h1 h16 hp hv HV.out hne
  have HB5 := Lib.hid (fun o => hB5.alloc hB5.size o)
  clear C3 D3 ho hb5 k1 hB5 hba B3 hrd hlen hcap
  go_wp2_with fail
  refine (C5 _).mono ?_
  rintro e w6 ⟨n, rfl, hN, hb6⟩
  go_wp2
  go_ret
  exact ⟨n, rfl, hN, (HB5.out _).trans (hb6.mono (HB5.out _).size)⟩
end Go.Proofs.Ytdjemmopecchmaa
