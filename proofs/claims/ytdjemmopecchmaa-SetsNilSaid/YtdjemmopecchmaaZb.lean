/- The walks over package zbits: what each function gives of points that lie in memory. -/
import Derived.Test.YtdjemmopecchmaaProg
import Derived.Test.YtdjemmopecchmaaWWords
import Derived.Test.YtdjemmopecchmaaKey
import Derived.Test.YtdjemmopecchmaaBi
import Derived.Test.YtdjemmopecchmaaShelf
import Derived.StillTailTactics
import Derived.WalkKit
import Derived.WalkSpells
import Derived.WalkLawsBesides
import Derived.Deep.LoopGhost
import Derived.Deep.QuietTactic
import Derived.BigQuiet
import Derived.Lib.Hide
namespace Go.Proofs.Ytdjemmopecchmaa
open Go.RowKit Go.Proofs.YtdjemmopecchmaaW.PrintWords Key
set_option linter.unusedVariables false
set_option linter.unusedSimpArgs false

/-- a slice of coordinates that reads as a list -/
abbrev RdU (w : World) (A : Option Addr) (l : List Int) : Prop := Kd.C (Kd.int .u64) w A l.length l
theorem RdU.at {w : World} {A : Option Addr} {l : List Int} (h : RdU w A l) (i : Nat) (hi : i < l.length) : ∃ ad, A = some ad ∧ w.cell? (ad.add i) = some (.int .u64 (l.getD i 0)) := by
  obtain ⟨ad, c, e, _, hK, hc⟩ := Kd.C_get h 0 (i : Int) (by omega) (by omega)
  have hK' : c = [.int .u64 (l.getD i 0)] := hK
  subst hK'
  have := hc 0 _ rfl
  refine ⟨ad, e, ?_⟩
  simpa [Kd.int, Kd.scalar] using this

theorem zRight_any (A : Option Addr) (n c : Nat) (w : World) (r : Bool) (hr : r = true ↔ 1 ≤ n ∧ n ≤ 16) :
    Calls Try.prog 149 #[.slice A n c] w fun e w' => e = .returned (.bool r) ∧ w = w' := by
  by_cases h1 : 1 ≤ n
  · by_cases h2 : n ≤ 16
    · obtain rfl : r = true := hr.2 ⟨h1, h2⟩
      clear hr
      go_enter Try.func149, Try.ntmps149
      go_wp2
      go_ret
      exact ⟨(by first | rfl | (simp; done) | (simp; omega)), rfl⟩
    · obtain rfl : r = false := Bool.eq_false_iff.2 (fun h => h2 (hr.1 h).2)
      clear hr
      go_enter Try.func149, Try.ntmps149
      go_wp2
      go_ret
      exact ⟨(by first | rfl | (simp; done) | (simp; omega)), rfl⟩
  · obtain rfl : r = false := Bool.eq_false_iff.2 (fun h => h1 (hr.1 h).1)
    clear hr
    go_enter Try.func149, Try.ntmps149
    go_wp2
    go_ret
    exact ⟨(by first | rfl | (simp; done) | (simp; omega)), rfl⟩
theorem zlevel_any (n : Int) (w : World) (r : Bool) (hr : r = true ↔ 0 ≤ n ∧ n < 64) :
    Calls Try.prog 209 #[.int .i64 n] w fun e w' => e = .returned (.bool r) ∧ w = w' := by
  by_cases h1 : 0 ≤ n
  · by_cases h2 : n < 64
    · obtain rfl : r = true := hr.2 ⟨h1, h2⟩
      clear hr
      go_enter Try.func209, Try.ntmps209
      go_wp2
      go_ret
      exact ⟨(by first | rfl | (simp; done) | (simp; omega)), rfl⟩
    · obtain rfl : r = false := Bool.eq_false_iff.2 (fun h => h2 (hr.1 h).2)
      clear hr
      go_enter Try.func209, Try.ntmps209
      go_wp2
      go_ret
      exact ⟨(by first | rfl | (simp; done) | (simp; omega)), rfl⟩
  · obtain rfl : r = false := Bool.eq_false_iff.2 (fun h => h1 (hr.1 h).1)
    clear hr
    go_enter Try.func209, Try.ntmps209
    go_wp2
    go_ret
    exact ⟨(by first | rfl | (simp; done) | (simp; omega)), rfl⟩

theorem RdU.get {w : World} {A : Option Addr} {l : List Int} (h : RdU w A l) (i : Nat) (hi : i < l.length) : ∃ ad, A = some ad ∧ w.cell? (ad.add i) = some (.int .u64 l[i]) := by
  obtain ⟨ad, e, hc⟩ := h.at i hi
  exact ⟨ad, e, by rw [hc]; simp [List.getD_eq_getElem?_getD, hi]⟩

set_option maxHeartbeats 400000 in
theorem zAddr_any (A : Option Addr) (l : List Int) (c : Nat) (lv : Nat) (w : World) (hr : RdU w A l) (hok : Ok l) (h1 : 1 ≤ l.length) (h16 : l.length ≤ 16) (hlv : lv < 64) :
    Calls Try.prog 158 #[.slice A l.length c, .int .i64 lv] w fun e w' => e = .returned (.tuple #[.int .i64 (addr l lv), .int .i64 0]) ∧ w = w' := by
  go_enter Try.func158, Try.ntmps158
  go_wp2_with (first | (go_at_call 149; refine (zRight_any _ _ _ _ true (by simp; omega)).mono ?_; rintro e w' ⟨rfl, rfl⟩) | (go_at_call 209; refine (zlevel_any _ _ true (by simp; omega)).mono ?_; rintro e w' ⟨rfl, rfl⟩))
  go_loopg [6, 19] (l.length) (fun g o i w' => w = w' ∧ ∃ k : Nat, k ≤ l.length ∧ g + k = l.length ∧ i = .int .i64 k ∧ o = .int .i64 (addr (l.take k) lv))
  case atStart => exact ⟨rfl, 0, by omega, by omega, rfl, rfl⟩
  case round =>
    obtain ⟨rfl, k, hk, hg, rfl, rfl⟩ := hrel
    by_cases hlt : k < l.length
    · obtain ⟨ad, rfl, hc⟩ := hr.get k hlt
      have HG := Lib.hid hg
      clear hg
      go_wp2
      go_roundg (gk - 1)
      case measure => have := HG.out; omega
      case rel => exact ⟨rfl, k + 1, by omega, by have := HG.out; omega, by go_num, by rw [addr_step l k lv hlt hok h16]⟩
    · go_wp2
      go_ret2
      have : k = l.length := by omega
      subst this
      exact ⟨by simp, rfl⟩

set_option maxHeartbeats 400000 in
theorem zPart_any (A A' : Option Addr) (p q : List Int) (c c' : Nat) (w : World) (hp : RdU w A p) (hq : RdU w A' q) (okp : Ok p) (okq : Ok q) (h1 : 1 ≤ p.length) (h16 : p.length ≤ 16) (hlen : p.length = q.length) :
    Calls Try.prog 150 #[.slice A p.length c, .slice A' q.length c'] w fun e w' => e = .returned (.tuple #[.int .i64 ((parts p q : Nat) - 1), .int .i64 0]) ∧ w = w' := by
  have HL := Lib.hid hlen
  have hne : ((p.length : Int) != (q.length : Int)) = false := by simp [hlen]
  have hq1 : 1 ≤ q.length := by omega
  have hq16 : q.length ≤ 16 := by omega
  clear hlen
  go_enter Try.func150, Try.ntmps150
  go_wp2_with (first | (go_at_call 149; refine (zRight_any _ _ _ _ true (by simp; omega)).mono ?_; rintro e w' ⟨rfl, rfl⟩))
  go_loopg [6, 21] (p.length) (fun g o i w' => w = w' ∧ ∃ k : Nat, k ≤ p.length ∧ g + k = p.length ∧ i = .int .i64 k ∧ o = .int .u64 (diffs p q k))
  case atStart => exact ⟨rfl, 0, by omega, by omega, rfl, rfl⟩
  case round =>
    obtain ⟨rfl, k, hk, hg, rfl, rfl⟩ := hrel
    have HG := Lib.hid hg
    clear hg
    by_cases hlt : k < p.length
    · have hlt' : k < q.length := by have := HL.out; omega
      obtain ⟨ad, rfl, hc⟩ := hp.get k hlt
      obtain ⟨ad', rfl, hc'⟩ := hq.get k hlt'
      go_wp2
      go_roundg (gk - 1)
      case measure => have := HG.out; omega
      case rel => exact ⟨rfl, k + 1, by omega, by have := HG.out; omega, by go_num, by rw [diffs_step p q k hlt hlt' okp okq]⟩
    · have hk' : k = p.length := by omega
      subst hk'
      have hlt64 := diffs_lt64 p q HL.out okp okq
      have HD := Lib.hid hlt64
      clear hlt64
      have hb0 : Lib.bitLen (diffs p q p.length) = parts p q := bitLen_eq _ HD.out
      have hb1 := parts_le64 p q HL.out okp okq
      have HB := Lib.hid hb0
      clear hb0
      go_wp2_with (first | (go_at_call 202; refine (Try.bits_Len64 _ _ (by omega) (by have := HD.out; omega)).mono ?_; rintro e w' ⟨rfl, rfl⟩; rw [Int.toNat_natCast, HB.out]))
      go_ret2
      exact ⟨by simp, rfl⟩
/-- the mask of the bits from s on -/
def am (s : Nat) : Int := 18446744073709551616 - ((2 ^ s : Nat) : Int)
theorem am_nonneg (s : Nat) (h : s ≤ 64) : 0 ≤ am s := by
  have : (2 : Nat) ^ s ≤ 2 ^ 64 := Nat.pow_le_pow_right (by omega) h
  unfold am; omega
theorem am_toNat (s : Nat) (h : s ≤ 64) : (am s).toNat = 2 ^ 64 - 2 ^ s := by
  have : (2 : Nat) ^ s ≤ 2 ^ 64 := Nat.pow_le_pow_right (by omega) h
  unfold am; omega
theorem zabove_any (n : Nat) (w : World) (h : n ≤ 64) : Calls Try.prog 210 #[.int .i64 ((n : Int) - 1)] w fun e w' => e = .returned (.int .u64 (am n)) ∧ w = w' := by
  by_cases h64 : n = 64
  · subst h64
    go_enter Try.func210, Try.ntmps210
    go_wp2
    go_ret
    exact ⟨rfl, rfl⟩
  · have hne : (((n : Int) - 1) == 63) = false := by simp; omega
    have hp : (2 : Nat) ^ n ≤ 2 ^ 63 := Nat.pow_le_pow_right (by omega) (by omega)
    have h0 : (0 : Nat) < 2 ^ n := Nat.two_pow_pos n
    have HA : Hid (IntKind.u64.wrap (18446744073709551615 * 2 ^ n) = am n) := by
      have e2 : ((2 : Int) ^ n) = ((2 ^ n : Nat) : Int) := by simp
      unfold am Hid
      rw [e2, IntKind.wrap_u64]
      generalize 2 ^ n = t at *
      omega
    go_enter Try.func210, Try.ntmps210
    go_wp2
    go_ret
    exact ⟨by rw [← HA.out]; rfl, rfl⟩

/-- a slice of coordinates that is read: where its cells lie -/
theorem RdU.plain {w : World} {A : Option Addr} {l : List Int} (h : RdU w A l) (h1 : 1 ≤ l.length) : ∃ b o, A = some ⟨b, o, none⟩ ∧ ∀ j (hj : j < l.length), w.cell? ⟨b, o + j, none⟩ = some (.int .u64 l[j]) := by
  obtain ⟨ad, rfl, hc⟩ := h.get 0 (by omega)
  obtain ⟨b, o, spot⟩ := ad
  have hspot : spot = none := by simpa [Addr.add] using World.cell?_spot hc
  subst hspot
  refine ⟨b, o, rfl, fun j hj => ?_⟩
  obtain ⟨ad, e, hcj⟩ := h.get j hj
  cases e
  rw [← Go.WideShapes.add_plain]; exact hcj
theorem Try.infoU : (Try.prog.info? 31).map (fun i => (i.zero, i.size, i.bytes)) = some (some (.int .u64 0), 1, 8) := by kernel_rfl
theorem Try.sizeU : ∀ w, (Go.sizeOf 31).run Try.prog w = .ok 1 w := fun w => by kernel_rfl
theorem own_rdU {w : World} {base n g c : Nat} {l : List Int} (h : w.ownsRow base 31 1 (.slice (some ⟨g, 0, none⟩) n c) n (nums .u64 l)) : RdU w (some ⟨g, 0, none⟩) l ∧ l.length = n ∧ n ≤ c := by
  have hl : l.length = n := by have := h.1; simpa [nums] using this
  subst hl
  refine ⟨Kd.C_of_reads (d := 0) (own_reads' h), rfl, ?_⟩
  rcases h.2 with ⟨h', _⟩ | ⟨g', cap', cur, h', _, _, hnc, _⟩
  · simp at h'
  · simp only [Value.slice.injEq] at h'
    omega
theorem cloneU_any (A : Option Addr) (l : List Int) (c : Nat) (w : World) (hr : RdU w A l) (h1 : 1 ≤ l.length) (h16 : l.length ≤ 16) :
    Calls Try.prog 117 #[.slice A l.length c] w fun e w' => ∃ g c', e = .returned (.slice (some ⟨g, 0, none⟩) l.length c') ∧ w'.ownsRow w.heap.size 31 1 (.slice (some ⟨g, 0, none⟩) l.length c') l.length (nums .u64 l) ∧ Below w.heap.size w w' := by
  obtain ⟨b, o, rfl, hc⟩ := hr.plain h1
  obtain ⟨i0, hi, hz0, hz1, hz2⟩ := info_parts Try.infoU
  refine (Try.slices_Clone i0 _ 1 8 hi hz0 hz1 hz2 rfl (by omega) Try.sizeU b o l.length c (nums .u64 l) w (by simp [nums]) (by unfold maxLen; omega) (by omega) ?_ ?_).mono ?_
  · intro j u hj
    have hj' : j < l.length := by have := (List.getElem?_eq_some_iff.1 hj).1; simpa [nums] using this
    rw [hc j hj']
    simpa [nums, hj'] using hj
  · intro u hu
    simp only [nums, List.mem_map] at hu
    obtain ⟨x, _, rfl⟩ := hu
    rfl
  · rintro e w' ⟨v', rfl, ho, hne, hb⟩
    obtain ⟨g, cap, rfl, _⟩ := ho.form (by omega)
    exact ⟨g, cap, rfl, ho, hb⟩

/-- the cut's list on the way -/
def cutTo (p : List Int) (s k : Nat) : List Int := (cut p s).take k ++ p.drop k
theorem cutTo_length (p : List Int) (s k : Nat) (h : k ≤ p.length) : (cutTo p s k).length = p.length := by simp [cutTo, cut_length]; omega
theorem cutTo_zero (p : List Int) (s : Nat) : cutTo p s 0 = p := by simp [cutTo]
theorem cutTo_all (p : List Int) (s : Nat) : cutTo p s p.length = cut p s := by simp [cutTo, ← cut_length p s]
theorem cutTo_step (p : List Int) (s k : Nat) (h : k < p.length) : (cutTo p s k).set k (cut1 p[k] s) = cutTo p s (k + 1) := by
  have h2 : k < (cut p s).length := by rw [cut_length]; exact h
  unfold cutTo
  rw [List.set_append_right _ _ (by simp; omega)]
  simp only [List.length_take, Nat.min_eq_left (Nat.le_of_lt h2), Nat.sub_self]
  rw [List.drop_eq_getElem_cons h, List.set_cons_zero, List.take_succ_eq_append_getElem h2, List.append_assoc]
  simp [cut]
theorem cutTo_get (p : List Int) (s k : Nat) (h : k < p.length) : (nums .u64 (cutTo p s k))[k]? = some (.int .u64 p[k]) := by
  have h2 : k < (cut p s).length := by rw [cut_length]; exact h
  simp only [nums, List.getElem?_map]
  unfold cutTo
  rw [List.getElem?_append_right (by simp; omega)]
  simp only [List.length_take, Nat.min_eq_left (Nat.le_of_lt h2), Nat.sub_self]
  simp [h]

set_option maxHeartbeats 400000 in
theorem zCut_any (A : Option Addr) (p : List Int) (c : Nat) (s : Nat) (w : World) (hr : RdU w A p) (hok : Ok p) (h1 : 1 ≤ p.length) (h16 : p.length ≤ 16) (hs : s ≤ 64) :
    Calls Try.prog 154 #[.slice A p.length c, .int .i64 ((s : Int) - 1)] w fun e w' => ∃ g c', e = .returned (.tuple #[.slice (some ⟨g, 0, none⟩) p.length c', .int .i64 0]) ∧ w'.ownsRow w.heap.size 31 1 (.slice (some ⟨g, 0, none⟩) p.length c') p.length (nums .u64 (cut p s)) ∧ Below w.heap.size w w' := by
  have HS : (((s : Int) - 1) != -1) = false ∨ (((s : Int) - 1) != -1) = true ∧ 0 < s := by
    by_cases h : s = 0
    · left; simp [h]
    · right; exact ⟨by simp; omega, by omega⟩
  rcases HS with hne | ⟨hne, h0⟩
  all_goals
    go_enter Try.func154, Try.ntmps154
    go_wp2_with (first | (go_at_call 149; refine (zRight_any _ _ _ _ true (by simp; omega)).mono ?_; rintro e w' ⟨rfl, rfl⟩) | (go_at_call 209; refine (zlevel_any _ _ true (by simp; omega)).mono ?_; rintro e w' ⟨rfl, rfl⟩) | (go_at_call 117; refine (cloneU_any _ _ _ _ hr h1 h16).mono ?_; rintro e w1 ⟨g, c', rfl, hown, hbel⟩))
    go_loopg [24] (p.length) (fun q i wr => ∃ k : Nat, k ≤ p.length ∧ q + k = p.length ∧ i = .int .i64 k ∧ wr.ownsRow w.heap.size 31 1 (.slice (some ⟨g, 0, none⟩) p.length c') p.length (nums .u64 (cutTo p s k)) ∧ Below w.heap.size w wr)
    case atStart => exact ⟨0, by omega, by omega, rfl, by rw [cutTo_zero]; exact hown, hbel⟩
    case round =>
      obtain ⟨k, hk, hg, rfl, ho, hb⟩ := hrel
      have HG := Lib.hid hg
      clear hg
      by_cases hlt : k < p.length
      · have hcell : wr.cell? ⟨g, k, none⟩ = some (.int .u64 p[k]) := by rw [ho.cellAt k (by omega)]; exact cutTo_get p s k hlt
        have hfr := ho.frozenAt k
        have HA : Hid (bits BinOp.and IntKind.u64 p[k] (am s) = cut1 p[k] s) := and_mask _ s (hok _ (List.getElem_mem hlt)).1 (hok _ (List.getElem_mem hlt)).2 hs (am s) (am_nonneg s hs) (am_toNat s hs)
        have hstep := ho.stored k (.int .u64 (cut1 p[k] s))
        have HST : Hid ((nums .u64 (cutTo p s k)).set k (.int .u64 (cut1 p[k] s)) = nums .u64 (cutTo p s (k + 1))) := by
          unfold Hid nums; rw [← List.map_set, cutTo_step p s k hlt]
        go_wp2_with fail
        go_region_with (go_at_call 210; refine (zabove_any s _ hs).mono ?_; rintro e w' ⟨rfl, rfl⟩)
        all_goals
          go_wp2
          go_roundg (gk - 1)
          case measure => have := HG.out; omega
          case rel =>
            refine ⟨k + 1, by omega, by have := HG.out; omega, by go_num, ?_, ?_⟩
            · rw [HA.out, ← HST.out]; exact hstep.1.drew
            · exact (hb.setCell (own_base ho g rfl) _).drew
      · go_wp2
        go_ret2
        have : k = p.length := by have := HG.out; omega
        subst this
        exact ⟨g, c', rfl, by rw [cutTo_all] at ho; exact ho, hb⟩
end Go.Proofs.Ytdjemmopecchmaa
