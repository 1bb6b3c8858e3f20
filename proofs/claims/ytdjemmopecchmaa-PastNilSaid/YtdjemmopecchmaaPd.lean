/- Package past: slices.Clone of trees; Do. -/
import Derived.Test.YtdjemmopecchmaaPc
import Derived.StillTailTactics
import Derived.LaidEqlPtr
import Derived.WalkSpells
import Derived.Deep.DeepFit
import Derived.Deep.DeepCutAuto
import Derived.Deep.RegionLaw
import Derived.Deep.RegionLawGrows
import Derived.Deep.AppendLies
namespace Go.Proofs.Ytdjemmopecchmaa
open Go.RowKit Go.Proofs.YtdjemmopecchmaaW.PrintWords Key
set_option linter.unusedVariables false
set_option linter.unusedSimpArgs false

theorem Try.infoTree : (Try.prog.info? 147).map (fun i => (i.zero, i.size, i.bytes)) = some (some (.agg #[.int .i64 0, .pointer none]), 2, 16) := by kernel_rfl
theorem Try.undTree : Try.prog.underlying 23 = some (.pointer 147) := by kernel_rfl
theorem Try.infoPT : (Try.prog.info? 23).map (fun i => (i.zero, i.size, i.bytes)) = some (some (.pointer none), 1, 8) := by kernel_rfl
theorem Try.undSlTree : Try.prog.underlying 41 = some (.slice 23) := by kernel_rfl
theorem eql_tr {w : World} {t t' k k' : Nat} {r r' : Option Nat} (h : TrAt w t k r) (h' : TrAt w t' k' r') (hne : t ≠ t') : (binOp .eql 23 (.pointer (some ⟨t, 0, none⟩)) (.pointer (some ⟨t', 0, none⟩))).run Try.prog w = .ok (.bool false) w := by
  obtain ⟨i0, hi, hz0, hz1, hz2⟩ := info_parts Try.infoTree
  exact run_eql_ptr_other w Try.undTree hi (by rw [hz1]; decide) (by simp [hne]) h.1 h'.1
theorem eql_same (w : World) (t : Nat) : (binOp .eql 23 (.pointer (some ⟨t, 0, none⟩)) (.pointer (some ⟨t, 0, none⟩))).run Try.prog w = .ok (.bool true) w := by
  obtain ⟨i0, hi, hz0, hz1, hz2⟩ := info_parts Try.infoTree
  exact run_eql_ptr_same w _ Try.undTree hi

set_option maxRecDepth 100000 in
/-- slices.Clone of a row of trees that isn't empty. -/
theorem cloneT_any (g o n c : Nat) (cs : List Value) (w : World) (hl : cs.length = n) (hn : 0 < n) (hn2 : n ≤ 100) (hcell : ∀ j u, cs[j]? = some u → w.cell? ⟨g, o + j, none⟩ = some u) (h1 : ∀ u ∈ cs, u.oneCell' = true) :
    Calls Try.prog 92 #[.slice (some ⟨g, o, none⟩) n c] w fun e w' => ∃ g2 c2, e = .returned (.slice (some ⟨g2, 0, none⟩) n c2) ∧ w'.ownsRow w.heap.size 23 1 (.slice (some ⟨g2, 0, none⟩) n c2) n cs ∧ Below w.heap.size w w' := by
  obtain ⟨i0, hi, hz0, hz1, hz2⟩ := info_parts Try.infoPT
  have own0 : (w.alloc (.cells #[] 23)).ownsRow w.heap.size 23 1 (.slice (some ⟨w.heap.size, 0, none⟩) 0 0) 0 [] := World.ownsRow_lit (base := w.heap.size) (e := 23) (size := 1) w #[] 0 (Nat.le_refl _) (by unfold maxLen; omega) rfl
  have hb0 : Below w.heap.size w (w.alloc (.cells #[] 23)) := (Below.refl _ _).alloc (Nat.le_refl _) _
  have hadd : ∀ j, (⟨g, o, none⟩ : Addr).add j = ⟨g, o + j, none⟩ := by
    intro j; unfold Addr.add; split
    · rename_i h; rw [h, Nat.add_zero]
    · rfl
  have HC := Lib.hid (show ∀ j u, cs[j]? = some u → (w.alloc (.cells #[] 23)).cell? ((⟨g, o, none⟩ : Addr).add j) = some u from fun j u hu => by rw [hadd]; exact pw_cell_below hb0 (hcell j u hu))
  have H1 := Lib.hid h1
  have HL := Lib.hid hl
  clear hcell h1 hl hadd
  go_enter Try.func92, Try.ntmps92
  have heq : ∀ w, (binOp .eql 41 (.slice (some ⟨g, o, none⟩) n c) (.slice none 0 0)).run Try.prog w = .ok (.bool false) w := fun w => Lib.run_eql_slice_nil w 41 23 (some ⟨g, o, none⟩) n c 0 0 Try.undSlTree
  go_wp2_with (at_builtin; go_must (refine wpList_append_lies _ rfl (.tmp 5) (.tmp 6) 41 rfl w.heap.size 23 i0 _ 1 8 Try.undSlTree hi hz0 hz1 hz2 rfl (by decide) (.slice (some ⟨w.heap.size, 0, none⟩) 0 0) 0 [] rfl own0 ⟨g, o, none⟩ n c cs rfl (by rw [HL.out, Nat.mul_one]) HC.out H1.out hn (by unfold maxLen; omega) (by omega) (by simp) (w.heap.size + 1) (by simp) ?_; intro g1 cap1 w1 ow1 gb1 at1 lt1; have hb1 : Below w.heap.size w w1 := hb0.grown gb1 (by simp) (by simp [Value.ownBlock])))
  go_ret
  rw [Nat.zero_add, List.nil_append] at ow1
  exact ⟨g1, cap1, by simp, ow1, hb1⟩

/-- a past whose row has grown, before it is cut -/
def Grew (q a : Nat) (l' : List Nat) (w w' : World) : Prop :=
  ∃ g c, w'.heap[q]? = some (.cells #[.slice (some ⟨g, 0, none⟩) l'.length c, .int .i64 a] 120 (0, 0)) ∧ w'.ownsRow 0 23 1 (.slice (some ⟨g, 0, none⟩) l'.length c) l'.length (ptrs l') ∧ Keep q w w' ∧ g ≠ q

set_option maxRecDepth 100000 in
set_option maxHeartbeats 3200000 in
theorem qDo_new (q a k : Nat) (l : List Nat) (t : Nat) (r r0 : Option Nat) (w : World) (h : PastAt w q l a) (ha : a < l.length) (ht : TrAt w t k r) (h0 : TrAt w l[a] k r0) (hne : l[a] ≠ t) :
    Calls Try.prog 22 #[.pointer (some ⟨q, 0, none⟩), .pointer (some ⟨t, 0, none⟩)] w fun e w' => e = .returned (.int .i64 0) ∧ PastAt w' q ((l.take (a + 1) ++ [t]).drop ((a + 2) - 51)) (min (a + 1) 50) ∧ Keep q w w' := by
  go_enter Try.func22, Try.ntmps22
  go_wp2_with fail
  go_at_call 91
  refine (qcheck_any q a k l t r r0 _ h ha ht h0).mono ?_
  rintro e w1 ⟨rfl, hb1⟩
  go_wp2_with fail
  go_at_call 24
  refine (qNow_any q a l _ (h.bel hb1) ha).mono ?_
  rintro e w2 ⟨rfl, hb2⟩
  have heq := eql_tr ((ht.bel hb1).bel hb2) ((h0.bel hb1).bel hb2) (fun e => hne e.symm)
  go_wp2_with fail
  clear heq
  have h2 := (h.bel hb1).bel hb2
  have hoth := h2.other
  obtain ⟨g, cap, hblk, hown, hal, hl51⟩ := h2
  have c0 : w2.drew.cell? ⟨q, 0, none⟩ = some (.slice (some ⟨g, 0, none⟩) l.length cap) := cell_of_block hblk 0
  have c1 : w2.drew.cell? ⟨q, 1, none⟩ = some (.int .i64 a) := cell_of_block hblk 1
  have hqlt : q < w2.heap.size := (Array.getElem?_eq_some_iff.1 hblk).1
  have hcap := own_cap hown
  have hx1 : ((a : Int) + 1) ≤ (cap : Int) := by omega
  have hx2 : a + 1 ≤ cap := by omega
  have hx3 : IntKind.i64.wrap ((a : Int) + 1) = (a : Int) + 1 := by simp [IntKind.wrap, IntKind.bits, IntKind.signed]; omega
  have hx5 : wrap64 ((a : Int) + 1) = (a : Int) + 1 := by unfold wrap64; omega
  have hx0 : (0 : Int) ≤ (a : Int) + 1 := by omega
  have hx4 : ((a : Int) + 1).toNat = a + 1 := by omega
  obtain ⟨i0, hi, hz0, hz1, hz2⟩ := info_parts Try.infoPT
  obtain ⟨W3, hW3⟩ : ∃ W3, (w2.alloc (.cells #[.pointer (some ⟨t, 0, none⟩)] 23)).drew = W3 := ⟨_, rfl⟩
  have hB3 : Below w2.heap.size w2 W3 := by rw [← hW3]; exact ((Below.refl _ _).alloc (Nat.le_refl _) _).drew
  have hz3 : W3.heap.size = w2.heap.size + 1 := by rw [← hW3]; exact World.size_alloc _ _
  have d0 : W3.cell? ⟨q, 0, none⟩ = some (.slice (some ⟨g, 0, none⟩) l.length cap) := pw_cell_below hB3 c0
  have d1 : W3.cell? ⟨q, 1, none⟩ = some (.int .i64 a) := pw_cell_below hB3 c1
  have hnew : Hid (∀ j u, ([.pointer (some ⟨t, 0, none⟩)] : List Value)[j]? = some u → W3.cell? ((⟨w2.heap.size, 0, none⟩ : Addr).add j) = some u) := Lib.hid (by
    rw [← hW3]; exact World.news_of_block (cs := #[.pointer (some ⟨t, 0, none⟩)]) (t := 23) (fr := (0, 0)) (heap_alloc_new w2 _))
  have hold : Hid (∀ b, some (⟨g, 0, none⟩ : Addr) = some b → ∀ j u, (ptrs (l.take (a + 1)))[j]? = some u → W3.cell? (b.add j) = some u) := Lib.hid (by
    intro b hb j u hj
    obtain rfl := Option.some.inj hb
    have hjl : j < a + 1 := by
      have := (List.getElem?_eq_some_iff.1 hj).1
      simp [ptrs] at this; omega
    have e : (⟨g, 0, none⟩ : Addr).add j = ⟨g, j, none⟩ := by unfold Addr.add; split <;> simp_all
    rw [e]
    refine pw_cell_below hB3 ?_
    rw [hown.cellAt j (by omega), ← hj]
    simp [ptrs, List.getElem?_take, hjl])
  have hlo : Hid ((ptrs (l.take (a + 1))).length = (a + 1) * 1) := Lib.hid (by simp [ptrs]; omega)
  have HO := Lib.hid hown
  have HB := Lib.hid hblk
  have HOth := Lib.hid hoth
  have HW := Lib.hid hW3
  clear hown h hoth hblk
  go_cut [] (fun wx => Hid (Grew q a (l.take (a + 1) ++ [t]) w2 wx))
  case first =>
   go_region_law (refine step_append_grows rfl (.tmp 33) (.tmp 35) 41 rfl 23 i0 (.pointer none) 1 8 Try.undSlTree hi hz0 hz1 hz2 rfl (by decide) (some ⟨g, 0, none⟩) (a + 1) (a + 1) (ptrs (l.take (a + 1))) (by simp [Act.eval, Act.put]) (by simp) hlo.out hold.out ⟨w2.heap.size, 0, none⟩ 1 1 [.pointer (some ⟨t, 0, none⟩)] (by simp [Act.eval, Act.put]) rfl hnew.out (by simp [Value.oneCell']) (by omega) (by unfold maxLen; omega) (by omega) ?_; intro v' w4 hown4 hgrow4; obtain ⟨g4, c4, rfl, hg4⟩ := own_some hown4 (by omega); have hb4 : Below w2.heap.size w2 w4 := hB3.grown hgrow4 hB3.size (by simp); have k4 := (hb4.block q hqlt).trans HB.out; have k0 : w4.cell? ⟨q, 0, none⟩ = some (.slice (some ⟨g, 0, none⟩) l.length cap) := cell_of_block k4 0; have k0f := free_block k4 0)
   all_goals (go_wp2; go_meet)
   all_goals
    case rel =>
      have hl2 : (l.take (a + 1) ++ [t]).length = a + 1 + 1 := by simp; omega
      have hgq : g4 ≠ q := by omega
      refine Lib.hid ⟨g4, c4, ?_, ?_, ((Keep.of_below hb4).trans (Keep.set _ _ _ _)), hgq⟩
      · rw [hl2]; exact set_block k4 0 _
      · rw [hl2]
        have e : ptrs (l.take (a + 1) ++ [t]) = ptrs (l.take (a + 1)) ++ [.pointer (some ⟨t, 0, none⟩)] := by simp [ptrs]
        rw [e]
        exact own_weaken (own_far hown4 (fun e => hgq e.symm) _) (Nat.zero_le _)
  case rest =>
    clear c0 c1 d0 d1 hnew hold hlo HO HB HOth HW hz3 hB3 hx1 hx2 hx3 hx5 hx0 hx4 hi hz0 hz1 hz2
    obtain ⟨g5, c5, hq5, hown5, hK5, hgq⟩ := hcut.out
    clear hcut
    have hln : Hid ((l.take (a + 1) ++ [t]).length = a + 2) := Lib.hid (by simp; omega)
    obtain ⟨L, hL⟩ : ∃ L, l.take (a + 1) ++ [t] = L := ⟨_, rfl⟩
    have HL := Lib.hid hL
    rw [hL] at hln hq5 hown5
    clear hL
    obtain ⟨n, hn⟩ : ∃ n, L.length = n := ⟨_, rfl⟩
    rw [hn] at hln hq5 hown5
    have hn2 : n ≤ 52 := by have := hln.out; omega
    have hn1 : 2 ≤ n := by have := hln.out; omega
    have HN := Lib.hid hn
    clear hn
    have c0 : wc.cell? ⟨q, 0, none⟩ = some (.slice (some ⟨g5, 0, none⟩) n c5) := cell_of_block hq5 0
    have c1 : wc.cell? ⟨q, 1, none⟩ = some (.int .i64 a) := cell_of_block hq5 1
    have f0 := free_block hq5 0
    have hc5 := own_cap hown5
    have hnc : ¬ c5 = 1 := by omega
    have hsz : q < wc.heap.size := (Array.getElem?_eq_some_iff.1 hq5).1
    have HQ5 := Lib.hid hq5
    have HO5 := Lib.hid hown5
    clear hq5 hown5
    have row : ∀ d m, d + m = n → ∀ j u, ((ptrs L).drop d)[j]? = some u → wc.cell? ⟨g5, d + j, none⟩ = some u := by
      intro d m hdm j u hj
      have : (ptrs L)[d + j]? = some u := by rw [List.getElem?_drop] at hj; exact hj
      have hlt : d + j < n := by
        have := (List.getElem?_eq_some_iff.1 this).1
        have e : (ptrs L).length = L.length := by simp [ptrs]
        have := HN.out
        omega
      rw [HO5.out.cellAt (d + j) (by omega)]; exact this
    have Row := Lib.hid row
    clear row
    by_cases h51 : n ≤ 51
    · have row0 : Hid (∀ j u, (ptrs L)[j]? = some u → wc.drew.cell? ⟨g5, 0 + j, none⟩ = some u) := Lib.hid (fun j u hj => Row.out 0 n (by omega) j u (by rw [List.drop_zero]; exact hj))
      have len0 : Hid ((ptrs L).length = n) := Lib.hid (by simp [ptrs]; exact HN.out)
      have one0 : Hid (∀ u ∈ ptrs L, u.oneCell' = true) := Lib.hid (fun u hu => by simp [ptrs] at hu; obtain ⟨x, _, rfl⟩ := hu; rfl)
      have hpos : 0 < n := by omega
      have h100 : n ≤ 100 := by omega
      have hc50 : ¬ c5 = 0 := by omega
      have hnn : ((n : Int) - 1) = ((n - 1 : Nat) : Int) := by omega
      have HNN := Lib.hid hnn
      clear hnn
      go_wp2_with (fail)
      have w1 : IntKind.i64.wrap ((n : Int) - 1) = (n : Int) - 1 := by simp [IntKind.wrap, IntKind.bits, IntKind.signed]; omega
      have w2' : IntKind.i64.wrap ((n : Int) - 1 - 50) = (n : Int) - 1 - 50 := by simp [IntKind.wrap, IntKind.bits, IntKind.signed]; omega
      have w3 : max ((n : Int) - 1 - 50) 0 = 0 := Int.max_eq_right (by omega)
      go_wp2_with (fail)
      go_region_with ((go_at_call 92; refine (cloneT_any g5 0 n c5 (ptrs L) _ len0.out hpos h100 row0.out one0.out).mono ?_; rintro e w6 ⟨g6, c6, rfl, ho6, hb6⟩; have hq6 := (hb6.block q hsz).trans HQ5.out; have e0 : w6.cell? ⟨q, 0, none⟩ = some (.slice (some ⟨g5, 0, none⟩) n c5) := cell_of_block hq6 0; have fe0 := free_block hq6 0))
      all_goals
        clear w1 w2' w3
        have hq7 : (w6.setCell ⟨q, 0, none⟩ (.slice (some ⟨g6, 0, none⟩) n c6)).heap[q]? = some (.cells #[.slice (some ⟨g6, 0, none⟩) n c6, .int .i64 a] 120 (0, 0)) := set_block hq6 0 _
        have z0 : (w6.setCell ⟨q, 0, none⟩ (.slice (some ⟨g6, 0, none⟩) n c6)).cell? ⟨q, 0, none⟩ = some (.slice (some ⟨g6, 0, none⟩) n c6) := cell_of_block hq7 0
        have z1 : (w6.setCell ⟨q, 0, none⟩ (.slice (some ⟨g6, 0, none⟩) n c6)).cell? ⟨q, 1, none⟩ = some (.int .i64 a) := cell_of_block hq7 1
        have zf := free_block hq7 1
        have hnn := HNN.out
        go_wp2
      all_goals
        go_ret
        have hgq6 : g6 ≠ q := by
          have h6 := own_base ho6 g6 (by simp [Value.ownBlock])
          have : wc.drew.heap.size = wc.heap.size := rfl
          omega
        have hset : ∀ (W : World) (j : Nat) (u : Value), Keep q W (W.setCell ⟨q, j, none⟩ u) := fun W j u => Keep.set q W j u
        have hK6 : Keep q w w6 := ((((Keep.of_below hb1).trans (Keep.of_below hb2)).trans hK5).trans (⟨hb6.os, hb6.tape, hb6.output, hb6.size, fun k hk _ => hb6.block k hk⟩ : Keep q wc w6))
        have ho7 := own_far (own_far ho6 (p := ⟨q, 0, none⟩) (fun e => hgq6 e.symm) (.slice (some ⟨g6, 0, none⟩) n c6)) (p := ⟨q, 1, none⟩) (fun e => hgq6 e.symm) (.int .i64 ((n - 1 : Nat) : Int))
        have hq8 := set_block hq7 1 (.int .i64 ((n - 1 : Nat) : Int))
        have hLn := hln.out
        have hLl := HN.out
        have eL : (l.take (a + 1) ++ [t]).drop (a + 2 - 51) = L := by rw [HL.out]; rw [show a + 2 - 51 = 0 by omega, List.drop_zero]
        have eA : min (a + 1) 50 = n - 1 := by omega
        rw [eL, eA]
        have hlen : L.length = n := by exact hLl
        refine ⟨by simp, ⟨g6, c6, ?_, ?_, by omega, by omega⟩, (hK6.trans (hset _ _ _)).trans (hset _ _ _)⟩
        · rw [hlen]; exact hq8
        · rw [hlen]; exact own_weaken ho7 (Nat.zero_le _)
    · have row0 : Hid (∀ j u, ((ptrs L).drop 1)[j]? = some u → wc.drew.cell? ⟨g5, 1 + j, none⟩ = some u) := Lib.hid (fun j u hj => Row.out 1 (n - 1) (by omega) j u hj)
      have len0 : Hid (((ptrs L).drop 1).length = n - 1) := Lib.hid (by simp [ptrs]; have := HN.out; omega)
      have one0 : Hid (∀ u ∈ (ptrs L).drop 1, u.oneCell' = true) := Lib.hid (fun u hu => by replace hu := List.mem_of_mem_drop hu; simp [ptrs] at hu; obtain ⟨x, _, rfl⟩ := hu; rfl)
      have hpos : 0 < n - 1 := by omega
      have h100 : n - 1 ≤ 100 := by omega
      have hc50 : ¬ c5 = 1 := by omega
      have h1n : (1 : Int) ≤ (n : Int) := by omega
      have h1n' : 1 ≤ n := by omega
      have hnn : (((n - 1 : Nat) : Int) - 1) = ((n - 1 - 1 : Nat) : Int) := by omega
      have HNN := Lib.hid hnn
      clear hnn
      go_wp2_with (fail)
      have w1 : IntKind.i64.wrap ((n : Int) - 1) = (n : Int) - 1 := by simp [IntKind.wrap, IntKind.bits, IntKind.signed]; omega
      have w2' : IntKind.i64.wrap ((n : Int) - 1 - 50) = (n : Int) - 1 - 50 := by simp [IntKind.wrap, IntKind.bits, IntKind.signed]; omega
      have w3 : max ((n : Int) - 1 - 50) 0 = 1 := by omega
      go_wp2_with (fail)
      go_region_with ((go_at_call 92; refine (cloneT_any g5 1 (n - 1) (c5 - 1) ((ptrs L).drop 1) _ len0.out hpos h100 row0.out one0.out).mono ?_; rintro e w6 ⟨g6, c6, rfl, ho6, hb6⟩; have hq6 := (hb6.block q hsz).trans HQ5.out; have e0 : w6.cell? ⟨q, 0, none⟩ = some (.slice (some ⟨g5, 0, none⟩) n c5) := cell_of_block hq6 0; have fe0 := free_block hq6 0))
      all_goals
        clear w1 w2' w3
        have hq7 : (w6.setCell ⟨q, 0, none⟩ (.slice (some ⟨g6, 0, none⟩) (n - 1) c6)).heap[q]? = some (.cells #[.slice (some ⟨g6, 0, none⟩) (n - 1) c6, .int .i64 a] 120 (0, 0)) := set_block hq6 0 _
        have z0 : (w6.setCell ⟨q, 0, none⟩ (.slice (some ⟨g6, 0, none⟩) (n - 1) c6)).cell? ⟨q, 0, none⟩ = some (.slice (some ⟨g6, 0, none⟩) (n - 1) c6) := cell_of_block hq7 0
        have z1 : (w6.setCell ⟨q, 0, none⟩ (.slice (some ⟨g6, 0, none⟩) (n - 1) c6)).cell? ⟨q, 1, none⟩ = some (.int .i64 a) := cell_of_block hq7 1
        have zf := free_block hq7 1
        have hnn := HNN.out
        go_wp2
      all_goals
        go_ret
        have hgq6 : g6 ≠ q := by
          have h6 := own_base ho6 g6 (by simp [Value.ownBlock])
          have : wc.drew.heap.size = wc.heap.size := rfl
          omega
        have hset : ∀ (W : World) (j : Nat) (u : Value), Keep q W (W.setCell ⟨q, j, none⟩ u) := fun W j u => Keep.set q W j u
        have hK6 : Keep q w w6 := ((((Keep.of_below hb1).trans (Keep.of_below hb2)).trans hK5).trans (⟨hb6.os, hb6.tape, hb6.output, hb6.size, fun k hk _ => hb6.block k hk⟩ : Keep q wc w6))
        have ho7 := own_far (own_far ho6 (p := ⟨q, 0, none⟩) (fun e => hgq6 e.symm) (.slice (some ⟨g6, 0, none⟩) (n - 1) c6)) (p := ⟨q, 1, none⟩) (fun e => hgq6 e.symm) (.int .i64 ((n - 1 - 1 : Nat) : Int))
        have hq8 := set_block hq7 1 (.int .i64 ((n - 1 - 1 : Nat) : Int))
        have hLn := hln.out
        have hLl := HN.out
        have eL : (l.take (a + 1) ++ [t]).drop (a + 2 - 51) = L.drop 1 := by rw [HL.out]; rw [show a + 2 - 51 = 1 by omega]
        have eA : min (a + 1) 50 = n - 1 - 1 := by omega
        rw [eL, eA]
        have hlen : (L.drop 1).length = n - 1 := by rw [List.length_drop, hLl]
        refine ⟨by simp, ⟨g6, c6, ?_, ?_, by omega, by omega⟩, (hK6.trans (hset _ _ _)).trans (hset _ _ _)⟩
        · rw [hlen]; exact hq8
        · rw [hlen]
          have h9 := own_weaken ho7 (Nat.zero_le _)
          have e9 : (ptrs L).drop 1 = ptrs (L.drop 1) := by simp [ptrs]
          rw [e9] at h9
          exact h9

set_option maxRecDepth 100000 in
theorem qDo_same (q a k : Nat) (l : List Nat) (r0 : Option Nat) (w : World) (h : PastAt w q l a) (ha : a < l.length) (h0 : TrAt w l[a] k r0) :
    Calls Try.prog 22 #[.pointer (some ⟨q, 0, none⟩), .pointer (some ⟨l[a], 0, none⟩)] w fun e w' => e = .returned (.int .i64 0) ∧ Below w.heap.size w w' := by
  go_enter Try.func22, Try.ntmps22
  go_wp2_with fail
  go_at_call 91
  refine (qcheck_any q a k l l[a] r0 r0 _ h ha h0 h0).mono ?_
  rintro e w1 ⟨rfl, hb1⟩
  go_wp2_with fail
  go_at_call 24
  refine (qNow_any q a l _ (h.bel hb1) ha).mono ?_
  rintro e w2 ⟨rfl, hb2⟩
  have heq := eql_same w2 l[a]
  go_wp2
  go_ret
  exact ⟨rfl, hb1.trans (hb2.mono hb1.size)⟩
theorem qcheck_nilT (v : Value) (q : Option Addr) (w : World) :
    Calls Try.prog 91 #[.pointer q, .pointer none] w fun e w' => e = .returned (.int .i64 1) ∧ w = w' := by
  cases q with
  | none =>
    go_enter Try.func91, Try.ntmps91
    go_wp2
    go_ret
    exact ⟨rfl, rfl⟩
  | some q =>
    go_enter Try.func91, Try.ntmps91
    go_wp2
    go_ret
    exact ⟨rfl, rfl⟩
theorem qcheck_nilP (t : Option Addr) (w : World) :
    Calls Try.prog 91 #[.pointer none, .pointer t] w fun e w' => e = .returned (.int .i64 1) ∧ w = w' := by
  go_enter Try.func91, Try.ntmps91
  go_wp2
  go_ret
  exact ⟨rfl, rfl⟩
end Go.Proofs.Ytdjemmopecchmaa
