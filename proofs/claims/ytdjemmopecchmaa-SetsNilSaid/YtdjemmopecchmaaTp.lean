/- The path to a point: tree.path. -/
import Derived.Test.YtdjemmopecchmaaTr
namespace Go.Proofs.Ytdjemmopecchmaa
open Go.RowKit Go.Proofs.YtdjemmopecchmaaW.PrintWords Key
set_option linter.unusedVariables false
set_option linter.unusedSimpArgs false

/-- the path to a point from a node on, and what isn't on it any more -/
inductive PathTo (w : World) (k : Nat) (p : List Int) : Option (Nat × K4) → List Nat → Option (Nat × K4) → Prop
  | nil : PathTo w k p none [] none
  | out (b : Nat) (K : K4) (h : NodeOf w k b K) (hn : key p / (2 ^ k) ^ K.lo ≠ K.pf) : PathTo w k p (some (b, K)) [] (some (b, K))
  | leaf (b : Nat) (K : K4) (v : Int) (h : NodeOf w k b K) (hK : K = ⟨0, key p, [(p, v)], [b]⟩) : PathTo w k p (some (b, K)) [b] none
  | node (b : Nat) (K : K4) (lv h s : Nat) (M : List (Nat × Nat)) (f : Nat → K4) (pre : List Int) (q : Kids w k b K lv h s M f pre) (hc : key p / (2 ^ k) ^ (lv + 1) = h) (P : List Nat) (B : Option (Nat × K4))
      (r : PathTo w k p ((lk M (Key.addr p lv)).map fun x => (x, f (Key.addr p lv))) P B) : PathTo w k p (some (b, K)) (b :: P) B
theorem PathTo.bel {w w' : World} {k : Nat} {p : List Int} {c : Option (Nat × K4)} {P : List Nat} {B : Option (Nat × K4)} (h : PathTo w k p c P B) (hb : Below w.heap.size w w') : PathTo w' k p c P B := by
  induction h with
  | nil => exact .nil
  | out b K h hn => exact .out b K (h.bel hb) hn
  | leaf b K v h hK => exact .leaf b K v (h.bel hb) hK
  | node b K lv h s M f pre q hc P B r ih => exact .node b K lv h s M f pre (q.bel hb) hc P B ih
theorem pathTo_of {w : World} {k : Nat} {p : List Int} (hl : p.length = k) (hp : Ok p) : ∀ (n b : Nat) (K : K4), NodeOf w k b K → K.lo ≤ n → ∃ P B, PathTo w k p (some (b, K)) P B ∧ P.length ≤ n + 1 := by
  intro n
  induction n with
  | zero =>
    intro b K h hn
    by_cases hc : key p / (2 ^ k) ^ K.lo = K.pf
    · obtain ⟨q, v, hh, h1, h2, h3, hK⟩ := h.leaf' (by omega)
      have : q = p := by
        apply key_inj q p (by omega) h2 hp
        rw [hK] at hc; simpa using hc.symm
      subst this
      exact ⟨[b], none, .leaf b K v h hK, by simp⟩
    · exact ⟨[], _, .out b K h hc, by simp⟩
  | succ n ih =>
    intro b K h hn
    by_cases hc : key p / (2 ^ k) ^ K.lo = K.pf
    · by_cases h0 : 0 < K.lo
      · obtain ⟨lv, hh, s, M, f, pre, q, e1, e2⟩ := h.kids h0
        have hc' : key p / (2 ^ k) ^ (lv + 1) = hh := by rw [← e1, ← e2]; exact hc
        cases hlk : lk M (Key.addr p lv) with
        | none => exact ⟨[b], none, .node b K lv hh s M f pre q hc' [] none (by rw [hlk]; exact .nil), by simp⟩
        | some x =>
          obtain ⟨a', ha', hmem⟩ := lk_mem hlk
          have : a' = Key.addr p lv := by omega
          subst this
          obtain ⟨P, B, hP, hlen⟩ := ih x (f (Key.addr p lv)) (q.hk _ hmem) (by have := (q.hf _ hmem).1; dsimp only at this; omega)
          exact ⟨b :: P, B, .node b K lv hh s M f pre q hc' P B (by rw [hlk]; exact hP), by simp; omega⟩
      · obtain ⟨q, v, hh, h1, h2, h3, hK⟩ := h.leaf' (by omega)
        have : q = p := by
          apply key_inj q p (by omega) h2 hp
          rw [hK] at hc; simpa using hc.symm
        subst this
        exact ⟨[b], none, .leaf b K v h hK, by simp⟩
    · exact ⟨[], _, .out b K h hc, by simp⟩

theorem tdown_any (b lv h s k : Nat) (K : K4) (M : List (Nat × Nat)) (f : Nat → K4) (pre : List Int) (A : Option Addr) (p : List Int) (cap : Nat) (w : World) (q : Kids w k b K lv h s M f pre) (hr : RdU w A p) (hl : p.length = k) (hp : Ok p) :
    Calls Try.prog 147 #[.pointer (some ⟨b, 0, none⟩), .slice A p.length cap] w fun e w' => e = .returned (ptr (lk M (Key.addr p lv))) ∧ Below w.heap.size w w' := by
  have hlv := q.hlv
  have h1 : 1 ≤ p.length := by have := q.hs.2.2.2.1; omega
  have h16 : p.length ≤ 16 := by have := q.hs.2.2.2.2; omega
  clear hl
  go_enter Try.func147, Try.ntmps147
  go_wp2_with (first
    | (go_at_call 146; refine (nLevel_any b _ _ q.hh).mono ?_; rintro e w1 ⟨rfl, rfl⟩)
    | (go_at_call 158; refine (zAddr_any A p cap lv _ hr hp h1 h16 hlv).mono ?_; rintro e w2 ⟨rfl, rfl⟩)
    | (go_at_call 102; refine (nKid_any b s k _ M _ _ q.hh rfl q.hs).mono ?_; rintro e w3 ⟨rfl, hb⟩))
  go_ret
  exact ⟨rfl, hb⟩
def ptrK (c : Option (Nat × K4)) : Value := .pointer (c.map fun x => ⟨x.1, 0, none⟩)
def pathI (w0 : World) (t k : Nat) (A : Option Addr) (p : List Int) (cap : Nat) (P : List Nat) (B : Option (Nat × K4)) (g : Nat) (act : Act) (w : World) : Prop :=
  ∃ (done P' : List Nat) (cur : Option (Nat × K4)) (v : Value), ∃ u2 u3 u8 u9 u10 u11 u12 u13 u14 u15 u16 u17 u18 u19 u20 u21 u22 u23 u24 u25 u26 u27 u28, act = { tmps := #[.pointer (some ⟨t, 0, none⟩), .slice A p.length cap, u2, u3, .slice none 0 0, .pointer none, v, ptrK cur, u8, u9, u10, u11, u12, u13, u14, u15, u16, u17, u18, u19, u20, u21, u22, u23, u24, u25, u26, u27, u28], defers := [] } ∧ Below w0.heap.size w0 w ∧ P = done ++ P' ∧ P'.length = g ∧
    PathTo w0 k p cur P' B ∧ w.ownsRow w0.heap.size 58 1 v done.length (ptrs done)
set_option maxHeartbeats 1000000 in
set_option maxRecDepth 100000 in
theorem tpath_any (t k : Nat) (r : Option (Nat × K4)) (A : Option Addr) (p : List Int) (cap : Nat) (P : List Nat) (B : Option (Nat × K4)) (w : World) (ht : TrAt w t k (r.map (·.1))) (hr : RdU w A p) (hl : p.length = k) (hp : Ok p) (hP : PathTo w k p r P B) (hlen : P.length ≤ 65) :
    Calls Try.prog 86 #[.pointer (some ⟨t, 0, none⟩), .slice A p.length cap] w fun e w' => ∃ v, e = .returned (.tuple #[v, ptrK B]) ∧ w'.ownsRow w.heap.size 58 1 v P.length (ptrs P) ∧ Below w.heap.size w w' := by
  obtain ⟨c0, c1⟩ := ht.cells
  have hpr : ptr (r.map (·.1)) = ptrK r := by cases r <;> rfl
  rw [hpr] at c1
  clear hpr
  have hk1 : 1 ≤ p.length := by have := ht.2.1; omega
  have hk16 : p.length ≤ 16 := by have := ht.2.2; omega
  have HL := Lib.hid hl
  clear hl
  have hcv : ∀ (W : World) (b : Nat) (K : K4) (x : Bool), Below w.heap.size w W → NodeOf W k b K → (x = true ↔ key p / (2 ^ k) ^ K.lo = K.pf) → Calls Try.prog 145 #[.pointer (some ⟨b, 0, none⟩), .slice A p.length cap] W fun e w' => e = .returned (.bool x) ∧ W = w' := by
    intro W b K x hW hK hx
    obtain ⟨g, hg, q1, q2, q3, q4, _⟩ := hK.hd
    exact nCovers_any b g A p cap W hg q3 (by have := HL.out; omega) (by have := HL.out; omega) (Kd.C_below hr hW) hp (by have := HL.out; omega) x (by rw [hx]; exact (covers_iff q1 q2 q3 q4 hK.lo HL.out hp).symm)
  have hlv : ∀ (W : World) (b : Nat) (K : K4), NodeOf W k b K → Calls Try.prog 146 #[.pointer (some ⟨b, 0, none⟩)] W fun e w' => e = .returned (.int .i64 ((K.lo : Int) - 1)) ∧ W = w' := by
    intro W b K hK
    obtain ⟨g, hg, q1, q2, q3, q4, _⟩ := hK.hd
    rw [← q1]; exact nLevel_any b g W hg
  go_enter Try.func86, Try.ntmps86
  go_wp2_with fail
  refine wp_scope_goto 0 (pathI w t k A p cap P B) (by rfl) ?_ ?_
  · rintro g act wr ⟨done, P', cur, v, u2, u3, u8, u9, u10, u11, u12, u13, u14, u15, u16, u17, u18, u19, u20, u21, u22, u23, u24, u25, u26, u27, u28, rfl, hb, hPP, hg, hT, ho⟩
    have HPP := Lib.hid hPP
    have HGG := Lib.hid hg
    clear hPP hg
    have hdl : done.length ≤ 65 := by have := congrArg List.length HPP.out; rw [List.length_append] at this; omega
    have hbs := hb.size
    cases hT with
    | nil =>
      simp only [ptrK, Option.map_none]
      go_wp2_with (go_at_call 145; refine (nCovers_nil _ _).mono ?_; rintro e w1 ⟨rfl, rfl⟩)
      simp only [JumpTo]
      go_ret2
      refine ⟨v, rfl, ?_, hb⟩
      rw [HPP.out, List.append_nil]; exact ho
    | out b K h hn =>
      simp only [ptrK, Option.map_some]
      go_wp2_with (go_at_call 145; refine (hcv _ b K false hb (h.bel hb) (by simp; exact hn)).mono ?_; rintro e w1 ⟨rfl, rfl⟩)
      simp only [JumpTo]
      go_ret2
      refine ⟨v, rfl, ?_, hb⟩
      rw [HPP.out, List.append_nil]; exact ho
    | leaf b K v' h hK =>
      simp only [ptrK, Option.map_some]
      have hc : key p / (2 ^ k) ^ K.lo = K.pf := by rw [hK]; simp
      have h1 : ∀ W, Below w.heap.size w W → Calls Try.prog 146 #[.pointer (some ⟨b, 0, none⟩)] W fun e w' => e = .returned (.int .i64 (-1)) ∧ W = w' := by
        intro W hW
        have := hlv W b K (h.bel hW)
        rw [hK] at this
        exact this
      have HKK := Lib.hid hK
      clear hK
      go_wp2_with (first
        | (go_at_call 145; refine (hcv _ b K true hb (h.bel hb) (by simp; exact hc)).mono ?_; rintro e w1 ⟨rfl, rfl⟩)
        | (at_builtin; go_must (refine app_row (w0 := w) w.heap.size rfl _ _ 51 58 (.pointer none) 1 8 rfl Try.underlying51 Try.infoPtr rfl (by omega) (by omega) v _ _ _ rfl rfl _ (by simp) rfl (by simp [Value.oneCell']) ho hb (by omega) (by omega) ?_; intro v1 w2 ho1 hb1 hg1))
        | (go_at_call 146; refine (h1 _ hb1).mono ?_; rintro e w3 ⟨rfl, rfl⟩))
      simp only [JumpTo]
      go_ret2
      refine ⟨v1, rfl, ?_, hb1⟩
      rw [HPP.out, List.length_append]
      have : ptrs (done ++ [b]) = ptrs done ++ [.pointer (some ⟨b, 0, none⟩)] := by simp [ptrs]
      rw [this]
      exact ho1
    | node b K lv h s M f pre q hc P1 B r =>
      simp only [ptrK, Option.map_some]
      have hc' : key p / (2 ^ k) ^ K.lo = K.pf := by rw [q.hK]; exact hc
      have hpk : ptr (lk M (Key.addr p lv)) = ptrK ((lk M (Key.addr p lv)).map fun x => (x, f (Key.addr p lv))) := by
        cases lk M (Key.addr p lv) <;> rfl
      have HPK := Lib.hid hpk
      have HC := Lib.hid hc
      clear hpk hc
      go_wp2_with (first
        | (go_at_call 145; refine (hcv _ b K true hb (q.bel hb).node (by simp; exact hc')).mono ?_; rintro e w1 ⟨rfl, rfl⟩)
        | (at_builtin; go_must (refine app_row (w0 := w) w.heap.size rfl _ _ 51 58 (.pointer none) 1 8 rfl Try.underlying51 Try.infoPtr rfl (by omega) (by omega) v _ _ _ rfl rfl _ (by simp) rfl (by simp [Value.oneCell']) ho hb (by omega) (by omega) ?_; intro v1 w2 ho1 hb1 hg1))
        | (go_at_call 146; refine (nLevel_any b _ _ (q.bel hb1).hh).mono ?_; rintro e w3 ⟨rfl, rfl⟩)
        | (go_at_call 147; refine (tdown_any b lv h s k K M f pre A p cap _ (q.bel hb1) (Kd.C_below hr hb1) HL.out hp).mono ?_; rintro e w4 ⟨rfl, hb4⟩; rw [HPK.out]))
      go_step3
      refine ⟨rfl, P1.length, by have := HGG.out; rw [List.length_cons] at this; omega, done ++ [b], P1, _, v1, _, _, _, _, _, _, _, _, _, _, _, _, _, _, _, _, _, _, _, _, _, _, _, rfl, hb1.trans (hb4.mono hb1.size), by rw [HPP.out]; simp, rfl, r, ?_⟩
      have : ptrs (done ++ [b]) = ptrs done ++ [.pointer (some ⟨b, 0, none⟩)] := by simp [ptrs]
      rw [this, List.length_append]
      exact pw_own_below ho1 hb4
  · intro go
    go_wp2_with fail
    go_step3
    go_step
    go_step
    exact go P.length _ _ ⟨[], P, r, _, _, _, _, _, _, _, _, _, _, _, _, _, _, _, _, _, _, _, _, _, _, _, _, rfl, Below.refl _ _, rfl, rfl, hP, own_nil _ _ _ _⟩
end Go.Proofs.Ytdjemmopecchmaa
