/- Nodes: With, Without, Pair over whole nodes. -/
import Derived.Test.YtdjemmopecchmaaNx
namespace Go.Proofs.Ytdjemmopecchmaa
open Go.RowKit Go.Proofs.YtdjemmopecchmaaW.PrintWords Key
set_option linter.unusedVariables false
set_option linter.unusedSimpArgs false

theorem hi_dvd (q : List Int) : ∀ (t m l : Nat), t ≤ m → (∀ j, l ≤ j → j < l + t → Key.addr q j = 0) → B q ^ t ∣ hi q l m := by
  intro t
  induction t with
  | zero => intro m l _ _; simp
  | succ t ih =>
    intro m l hm h
    cases m with
    | zero => omega
    | succ m =>
      simp only [hi]
      rw [h l (by omega) (by omega), Nat.zero_add, Nat.pow_succ, Nat.mul_comm]
      exact Nat.mul_dvd_mul_left _ (ih m (l + 1) (by omega) (fun j h1 h2 => h j (by omega) (by omega)))
theorem cut_mod (p : List Int) (l : Nat) (h : l ≤ 64) : key (cut p l) % B p ^ l = 0 := by
  have := hi_dvd (cut p l) l 64 0 h (fun j _ hj => by rw [cut_addr, if_pos (by omega)])
  rw [B_cut] at this
  exact Nat.mod_eq_zero_of_dvd this
theorem len2 {α : Type} {l : List α} {x y : α} (hx : x ∈ l) (hy : y ∈ l) (h : x ≠ y) : 2 ≤ l.length := by
  match l, hx, hy with
  | [], hx, _ => simp at hx
  | [z], hx, hy => simp at hx hy; exact absurd (hx.trans hy.symm) h
  | _ :: _ :: _, _, _ => simp
theorem NodeOf.tells {w : World} {k b : Nat} {K : K4} (h : NodeOf w k b K) : Tells w b (sums K.L) := by
  obtain ⟨g, hg, h1, h2, h3, h4, h5, h6, h7, h8⟩ := h.hd
  exact ⟨g, hg, h5, h6, h7, h8⟩
theorem div_pow_add (x B m n : Nat) : x / B ^ (m + n) = x / B ^ m / B ^ n := by rw [Nat.pow_add, Nat.div_div_eq_div_mul]
/-- the digits above a higher level -/
theorem NodeOf.up {w : World} {k b : Nat} {K : K4} (h : NodeOf w k b K) (l : Nat) (hl : K.lo ≤ l) : ∀ e ∈ K.L, key e.1 / (2 ^ k) ^ l = K.pf / (2 ^ k) ^ (l - K.lo) := by
  intro e he
  rw [← (h.mem e he).2.2.2, ← div_pow_add, show K.lo + (l - K.lo) = l by omega]
theorem key_step {k : Nat} {p : List Int} (hl : p.length = k) (lv : Nat) (h : lv < 64) : key p / (2 ^ k) ^ lv = key p / (2 ^ k) ^ (lv + 1) * 2 ^ k + addr p lv := by
  have := key_digit p lv h
  unfold B at this
  rw [hl] at this
  have h2 : key p / (2 ^ k) ^ (lv + 1) = key p / (2 ^ k) ^ lv / 2 ^ k := by rw [div_pow_add, Nat.pow_one]
  rw [h2, ← this, Nat.mul_comm]; exact (Nat.div_add_mod _ _).symm
/-- the head's point, as an entry's -/
theorem hd_up {k : Nat} {K : K4} {pre : List Int} (h : key pre = K.pf * (2 ^ k) ^ K.lo) (l : Nat) (hl : K.lo ≤ l) : key pre / (2 ^ k) ^ l = K.pf / (2 ^ k) ^ (l - K.lo) := by
  have e : l = K.lo + (l - K.lo) := by omega
  rw [e, div_pow_add, h, Nat.mul_div_cancel _ (Nat.pow_pos (Nat.two_pow_pos k)), ← e]
theorem addr_of_div {k : Nat} {p q : List Int} (hp : p.length = k) (hq : q.length = k) (lv : Nat) (h : lv < 64) (he : key p / (2 ^ k) ^ lv = key q / (2 ^ k) ^ lv) : addr p lv = addr q lv := by
  have h1 := key_digit p lv h
  have h2 := key_digit q lv h
  unfold B at h1 h2
  rw [hp] at h1; rw [hq] at h2
  rw [← h1, ← h2, he]

/-- what a node with kids is made of -/
structure Kids (w : World) (k b : Nat) (K : K4) (lv h s : Nat) (M : List (Nat × Nat)) (f : Nat → K4) (pre : List Int) : Prop where
  hh : HdAt w b ⟨lv, pre, 0, some s, (sums K.L).c, (sums K.L).sm, (sums K.L).mn, (sums K.L).mx⟩
  hl : pre.length = k
  hp : Ok pre
  hlv : lv < 64
  hpre : key pre = h * (2 ^ k) ^ (lv + 1)
  hs : SM w s k M
  h2 : 2 ≤ M.length
  hk : ∀ x ∈ M, NodeOf w k x.2 (f x.1)
  hf : ∀ x ∈ M, (f x.1).lo ≤ lv ∧ (f x.1).pf / (2 ^ k) ^ (lv - (f x.1).lo) = h * 2 ^ k + x.1
  hK : K = ⟨lv + 1, h, M.flatMap fun x => (f x.1).L, b :: M.flatMap fun x => (f x.1).N⟩
theorem Kids.node {w : World} {k b : Nat} {K : K4} {lv h s : Nat} {M : List (Nat × Nat)} {f : Nat → K4} {pre : List Int} (q : Kids w k b K lv h s M f pre) : NodeOf w k b K :=
  .node b lv h s M f pre K q.hh q.hl q.hp q.hlv q.hpre q.hs q.h2 q.hk q.hf q.hK
theorem Kids.bel {w w' : World} {k b : Nat} {K : K4} {lv h s : Nat} {M : List (Nat × Nat)} {f : Nat → K4} {pre : List Int} (q : Kids w k b K lv h s M f pre) (hb : Below w.heap.size w w') : Kids w' k b K lv h s M f pre :=
  ⟨q.hh.below hb, q.hl, q.hp, q.hlv, q.hpre, q.hs.below hb, q.h2, fun x hx => (q.hk x hx).bel hb, q.hf, q.hK⟩
theorem NodeOf.kids {w : World} {k b : Nat} {K : K4} (h : NodeOf w k b K) (hlo : 0 < K.lo) : ∃ lv h s M f pre, Kids w k b K lv h s M f pre ∧ K.lo = lv + 1 ∧ K.pf = h := by
  cases h with
  | leaf _ p v _ hh hl h1 h16 hp hv hK => subst hK; simp at hlo
  | node _ lv h s M f pre _ hh hl hp hlv hpre hs h2 hk hf hK =>
    exact ⟨lv, h, s, M, f, pre, ⟨hh, hl, hp, hlv, hpre, hs, h2, hk, hf, hK⟩, by subst hK; rfl, by subst hK; rfl⟩
theorem NodeOf.leaf' {w : World} {k b : Nat} {K : K4} (h : NodeOf w k b K) (hlo : K.lo = 0) : ∃ p v, HdAt w b ⟨-1, p, v, none, 1, v, v, v⟩ ∧ p.length = k ∧ Ok p ∧ U v ∧ K = ⟨0, key p, [(p, v)], [b]⟩ := by
  cases h with
  | leaf _ p v _ hh hl h1 h16 hp hv hK => exact ⟨p, v, hh, hl, hp, hv, hK⟩
  | node _ lv h s M f pre _ hh hl hp hlv hpre hs h2 hk hf hK => subst hK; simp at hlo
section
variable {w : World} {k b : Nat} {K : K4} {lv h s : Nat} {M : List (Nat × Nat)} {f : Nat → K4} {pre : List Int}
theorem Kids.mem (q : Kids w k b K lv h s M f pre) {e : Ent} : e ∈ K.L ↔ ∃ x ∈ M, e ∈ (f x.1).L := by
  rw [q.hK]; simp only [List.mem_flatMap]
theorem Kids.addr (q : Kids w k b K lv h s M f pre) : ∀ x ∈ M, ∀ e ∈ (f x.1).L, Key.addr e.1 lv = x.1 := fun x hx e he =>
  (kid_addr (q.hk x hx) (q.hf x hx).1 q.hlv (q.hf x hx).2 (q.hs.2.2.1 x hx) e he).2
/-- the kid's list at an address -/
theorem Kids.at_ (q : Kids w k b K lv h s M f pre) {a x : Nat} (hx : (a, x) ∈ M) {e : Ent} : e ∈ (f a).L ↔ e ∈ K.L ∧ Key.addr e.1 lv = a := by
  constructor
  · intro he; exact ⟨q.mem.2 ⟨_, hx, he⟩, q.addr _ hx e he⟩
  · rintro ⟨he, ha⟩
    obtain ⟨y, hy, he⟩ := q.mem.1 he
    have := q.addr _ hy e he
    rw [← ha, this]; exact he
theorem Kids.none_ (q : Kids w k b K lv h s M f pre) {a : Nat} (hn : lk M a = none) {e : Ent} (he : e ∈ K.L) : Key.addr e.1 lv ≠ a := by
  intro ha
  obtain ⟨y, hy, he⟩ := q.mem.1 he
  have := q.addr _ hy e he
  have h1 := lk_of_mem q.hs.2.1 (n := y.1) (b := y.2) hy
  rw [← this, ha, hn] at h1; cases h1
/-- one kid put at its address -/
theorem Kids.with_ (q : Kids w k b K lv h s M f pre) {b2 : Nat} {K2 : K4} (h2 : NodeOf w k b2 K2) (hlo : K2.lo ≤ lv) {e0 : Ent} (he0 : e0 ∈ K2.L) (hkey : key e0.1 / (2 ^ k) ^ (lv + 1) = h) :
    Calls Try.prog 156 #[.pointer (some ⟨b, 0, none⟩), .pointer (some ⟨b2, 0, none⟩)] w fun e w' => ∃ b' K', e = .returned (.tuple #[.pointer (some ⟨b', 0, none⟩), .int .i64 0]) ∧ NodeOf w' k b' K' ∧ K'.lo = K.lo ∧ K'.pf = K.pf ∧
      (∀ e, e ∈ K'.L ↔ e ∈ K2.L ∨ (e ∈ K.L ∧ Key.addr e.1 lv ≠ Key.addr e0.1 lv)) ∧ (∀ n ∈ K'.N, n = b' ∨ n ∈ K2.N ∨ n ∈ K.N) ∧ w.heap.size ≤ b' ∧ Below w.heap.size w w' := by
  obtain ⟨g, hg, g1, g2, g3, g4, g5, g6, g7, g8⟩ := h2.hd
  have hm := h2.mem e0 he0
  have hgk : key g.pre / (2 ^ k) ^ lv = key e0.1 / (2 ^ k) ^ lv := by rw [hd_up g4 lv hlo, h2.up lv hlo e0 he0]
  have hga : Key.addr g.pre lv = Key.addr e0.1 lv := addr_of_div g2 hm.1 lv q.hlv hgk
  have hau : Key.addr e0.1 lv < 2 ^ k := by have := addr_lt e0.1 lv; rw [hm.1] at this; exact this
  generalize hA : Key.addr e0.1 lv = a at *
  let f' : Nat → K4 := fun c => if c = a then K2 else f c
  have hf'a : f' a = K2 := by simp [f']
  have hf'n : ∀ c, c ≠ a → f' c = f c := fun c hc => by simp [f', hc]
  have hin : ∀ x ∈ putM M a b2, NodeOf w k x.2 (f' x.1) := by
    intro x hx
    rcases mem_putM.1 hx with rfl | ⟨hx, hne⟩
    · rw [hf'a]; exact h2
    · rw [hf'n _ hne]; exact q.hk x hx
  have hc := (covers_iff (k := k) (K := K) (pre := pre) (p := g.pre) (lv := lv) (by rw [q.hK]; show (lv : Int) = ((lv + 1 : Nat) : Int) - 1; omega) q.hl q.hp (by rw [q.hK]; exact q.hpre) (by rw [q.hK]; exact q.hlv) g2 g3).2 (by
    rw [q.hK]
    show key g.pre / (2 ^ k) ^ (lv + 1) = h
    rw [← hkey, div_pow_add, div_pow_add, hgk])
  refine (nWith_hd b b2 lv s k _ g M (fun x => sums (f' x.1).L) w q.hh hg rfl q.hlv rfl q.hs (by rw [g2]; exact q.hl.symm) q.hl q.hp g3 (by rw [g1]; omega) hc (by rw [hga]; exact fun x hx => (hin x hx).tells)).mono ?_
  rintro e w' ⟨b', s', rfl, hH, hM', hb', hB⟩
  rw [hga] at hH hM'
  rw [foldS_sums (putM M a b2) (fun x => (f' x.1).L) (fun x hx => (hin x hx).ne)] at hH
  have h2' : 2 ≤ (putM M a b2).length := by
    have : ∃ x ∈ M, x.1 ≠ a := by
      have hs := q.hs.2.1
      have h2 := q.h2
      have h01 := List.pairwise_iff_getElem.1 hs 0 1 (by omega) (by omega) (by omega)
      by_cases h0 : M[0].1 = a
      · exact ⟨M[1], List.getElem_mem _, by omega⟩
      · exact ⟨M[0], List.getElem_mem _, h0⟩
    obtain ⟨x, hx, hne⟩ := this
    exact len2 (mem_putM.2 (Or.inl rfl)) (mem_putM.2 (Or.inr ⟨hx, hne⟩)) (fun e => hne (by rw [← e]))
  refine ⟨b', ⟨lv + 1, h, (putM M a b2).flatMap fun x => (f' x.1).L, b' :: (putM M a b2).flatMap fun x => (f' x.1).N⟩, rfl,
    .node b' lv h s' (putM M a b2) f' pre _ hH q.hl q.hp q.hlv q.hpre hM' h2' (fun x hx => (hin x hx).bel hB) ?_ rfl, by rw [q.hK], by rw [q.hK], ?_, ?_, hb', hB⟩
  · intro x hx
    rcases mem_putM.1 hx with rfl | ⟨hx, hne⟩
    · rw [hf'a]
      refine ⟨hlo, ?_⟩
      rw [← h2.up lv hlo e0 he0, key_step hm.1 lv q.hlv, hkey, hA]
    · rw [hf'n _ hne]; exact q.hf x hx
  · intro e
    simp only [List.mem_flatMap]
    constructor
    · rintro ⟨x, hx, he⟩
      rcases mem_putM.1 hx with rfl | ⟨hx, hne⟩
      · rw [hf'a] at he; exact Or.inl he
      · rw [hf'n _ hne] at he
        exact Or.inr ⟨q.mem.2 ⟨x, hx, he⟩, by rw [q.addr x hx e he]; exact hne⟩
    · rintro (he | ⟨he, hne⟩)
      · exact ⟨(a, b2), mem_putM.2 (Or.inl rfl), by rw [hf'a]; exact he⟩
      · obtain ⟨x, hx, he⟩ := q.mem.1 he
        rw [q.addr x hx e he] at hne
        exact ⟨x, mem_putM.2 (Or.inr ⟨hx, hne⟩), by rw [hf'n _ hne]; exact he⟩
  · intro n hn
    simp only [List.mem_cons, List.mem_flatMap] at hn
    rcases hn with rfl | ⟨x, hx, hn⟩
    · exact Or.inl rfl
    · rcases mem_putM.1 hx with rfl | ⟨hx, hne⟩
      · rw [hf'a] at hn; exact Or.inr (Or.inl hn)
      · rw [hf'n _ hne] at hn
        refine Or.inr (Or.inr ?_)
        rw [q.hK]; simp only [List.mem_cons, List.mem_flatMap]
        exact Or.inr ⟨x, hx, hn⟩
/-- the kid at an address taken out -/
theorem Kids.without (q : Kids w k b K lv h s M f pre) {a x : Nat} (hx : (a, x) ∈ M) :
    Calls Try.prog 159 #[.pointer (some ⟨b, 0, none⟩), .int .i64 a] w fun e w' => ∃ b' K', e = .returned (.tuple #[.pointer (some ⟨b', 0, none⟩), .int .i64 0]) ∧ NodeOf w' k b' K' ∧ K'.lo ≤ K.lo ∧
      (∀ e, e ∈ K'.L ↔ e ∈ K.L ∧ Key.addr e.1 lv ≠ a) ∧ (∀ n ∈ K'.N, n = b' ∨ n ∈ K.N) ∧ (b' ∈ K.N ∨ w.heap.size ≤ b') ∧ Below w.heap.size w w' := by
  obtain ⟨m, hm, hme⟩ := List.getElem_of_mem hx
  have hma : M[m].1 = a := by rw [hme]
  have hmemL : ∀ e : Ent, (∃ y ∈ delM M a, e ∈ (f y.1).L) ↔ e ∈ K.L ∧ Key.addr e.1 lv ≠ a := by
    intro e
    constructor
    · rintro ⟨y, hy, he⟩
      obtain ⟨hy, hne⟩ := mem_delM.1 hy
      exact ⟨q.mem.2 ⟨y, hy, he⟩, by rw [q.addr y hy e he]; exact hne⟩
    · rintro ⟨he, hne⟩
      obtain ⟨y, hy, he⟩ := q.mem.1 he
      rw [q.addr y hy e he] at hne
      exact ⟨y, mem_delM.2 ⟨hy, hne⟩, he⟩
  have hNm : ∀ y ∈ M, ∀ n ∈ (f y.1).N, n ∈ K.N := by
    intro y hy n hn
    rw [q.hK]; simp only [List.mem_cons, List.mem_flatMap]
    exact Or.inr ⟨y, hy, hn⟩
  by_cases h1 : (delM M a).length = 1
  · obtain ⟨y, hy⟩ := List.length_eq_one_iff.1 h1
    have hyM : y ∈ M := by have : y ∈ delM M a := by rw [hy]; simp
                           exact (mem_delM.1 this).1
    refine (nWithout_one b lv s k m a _ M y w q.hh rfl q.hs hm hma hy).mono ?_
    rintro e w' ⟨rfl, hB⟩
    have hf := (q.hf y hyM).1
    have hbN : y.2 ∈ K.N := hNm y hyM _ (by
      have := q.hk y hyM
      cases this with
      | leaf _ p v _ hh hl h1 h16 hp hv hK => rw [hK]; simp
      | node _ lv h s M f pre _ hh hl hp hlv hpre hs h2 hk hf hK => rw [hK]; simp)
    refine ⟨y.2, f y.1, rfl, (q.hk y hyM).bel hB, by rw [q.hK]; show _ ≤ lv + 1; omega, ?_, fun n hn => Or.inr (hNm y hyM n hn), Or.inl hbN, hB⟩
    intro e
    rw [← hmemL e, hy]; simp
  · have hsub : ∀ y ∈ delM M a, y ∈ M := fun y hy => (mem_delM.1 hy).1
    refine (nWithout_hd b lv s k m a _ M (fun x => sums (f x.1).L) w q.hh rfl rfl q.hs hm hma h1 (fun y hy => (q.hk y (hsub y hy)).tells)).mono ?_
    rintro e w' ⟨b', s', rfl, hH, hM', hb', hB⟩
    rw [foldS_sums (delM M a) (fun x => (f x.1).L) (fun y hy => (q.hk y (hsub y hy)).ne)] at hH
    have h2' : 2 ≤ (delM M a).length := by
      have : (delM M a).length = M.length - 1 := by
        have := delM_erase q.hs.2.1 m hm
        rw [hma] at this
        rw [this, List.length_eraseIdx, if_pos hm]
      have := q.h2
      omega
    refine ⟨b', ⟨lv + 1, h, (delM M a).flatMap fun x => (f x.1).L, b' :: (delM M a).flatMap fun x => (f x.1).N⟩, rfl,
      .node b' lv h s' (delM M a) f pre _ hH q.hl q.hp q.hlv q.hpre hM' h2' (fun y hy => (q.hk y (hsub y hy)).bel hB) (fun y hy => q.hf y (hsub y hy)) rfl, by rw [q.hK]; exact Nat.le_refl _, ?_, ?_, Or.inr hb', hB⟩
    · intro e; rw [← hmemL e]; simp only [List.mem_flatMap]
    · intro n hn
      simp only [List.mem_cons, List.mem_flatMap] at hn
      rcases hn with rfl | ⟨y, hy, hn⟩
      · exact Or.inl rfl
      · exact Or.inr (hNm y (hsub y hy) n hn)
end
/-- two nodes with nothing in common joined -/
theorem pair_ {w : World} {k b1 b2 lv : Nat} {K1 K2 : K4} {e1 e2 : Ent} (h1 : NodeOf w k b1 K1) (h2 : NodeOf w k b2 K2) (hlv : lv < 64) (hl1 : K1.lo ≤ lv) (hl2 : K2.lo ≤ lv) (he1 : e1 ∈ K1.L) (he2 : e2 ∈ K2.L)
    (hu : key e1.1 / (2 ^ k) ^ (lv + 1) = key e2.1 / (2 ^ k) ^ (lv + 1)) (hd : Key.addr e1.1 lv ≠ Key.addr e2.1 lv) :
    Calls Try.prog 89 #[.pointer (some ⟨b1, 0, none⟩), .pointer (some ⟨b2, 0, none⟩)] w fun e w' => ∃ b' K', e = .returned (.tuple #[.pointer (some ⟨b', 0, none⟩), .int .i64 0]) ∧ NodeOf w' k b' K' ∧ K'.lo = lv + 1 ∧
      (∀ e, e ∈ K'.L ↔ e ∈ K1.L ∨ e ∈ K2.L) ∧ (∀ n ∈ K'.N, n = b' ∨ n ∈ K1.N ∨ n ∈ K2.N) ∧ w.heap.size ≤ b' ∧ Below w.heap.size w w' := by
  obtain ⟨hk1, hk16⟩ := h1.k
  obtain ⟨g1, hg1, q1, q2, q3, q4, _⟩ := h1.hd
  obtain ⟨g2, hg2, r1, r2, r3, r4, _⟩ := h2.hd
  have m1 := h1.mem e1 he1
  have m2 := h2.mem e2 he2
  have u1 : ∀ l, lv ≤ l → key g1.pre / (2 ^ k) ^ l = key e1.1 / (2 ^ k) ^ l := fun l hl => by rw [hd_up q4 l (by omega), h1.up l (by omega) e1 he1]
  have u2 : ∀ l, lv ≤ l → key g2.pre / (2 ^ k) ^ l = key e2.1 / (2 ^ k) ^ l := fun l hl => by rw [hd_up r4 l (by omega), h2.up l (by omega) e2 he2]
  have a1 : Key.addr g1.pre lv = Key.addr e1.1 lv := addr_of_div q2 m1.1 lv hlv (u1 lv (Nat.le_refl _))
  have a2 : Key.addr g2.pre lv = Key.addr e2.1 lv := addr_of_div r2 m2.1 lv hlv (u2 lv (Nat.le_refl _))
  have hp : parts g1.pre g2.pre = lv + 1 := by
    have hh := parts_le_iff g1.pre g2.pre (by omega) q3 r3
    have x1 := (hh (lv + 1) (by omega)).2 (by unfold B; rw [q2, r2, u1 _ (by omega), u2 _ (by omega), hu])
    have x2 : ¬ parts g1.pre g2.pre ≤ lv := by
      intro hc
      have := (hh lv (by omega)).1 hc
      unfold B at this
      rw [q2, r2, u1 _ (by omega), u2 _ (by omega)] at this
      exact hd (addr_of_div m1.1 m2.1 lv hlv this)
    omega
  have hau1 : Key.addr e1.1 lv < 2 ^ k := by have := addr_lt e1.1 lv; rw [m1.1] at this; exact this
  have hau2 : Key.addr e2.1 lv < 2 ^ k := by have := addr_lt e2.1 lv; rw [m2.1] at this; exact this
  generalize hA1 : Key.addr e1.1 lv = c1 at *
  generalize hA2 : Key.addr e2.1 lv = c2 at *
  let f : Nat → K4 := fun c => if c = c1 then K1 else K2
  have hfa : f c1 = K1 := by simp [f]
  have hfb : f c2 = K2 := by simp [f, Ne.symm hd]
  have hmem : ∀ x, x ∈ pairTo c1 b1 c2 b2 2 ↔ x = (c2, b2) ∨ x = (c1, b1) := by
    intro x
    show x ∈ putM (putM [] c1 b1) c2 b2 ↔ _
    rw [mem_putM, mem_putM]
    constructor
    · rintro (h | ⟨h | ⟨h, _⟩, _⟩)
      · exact Or.inl h
      · exact Or.inr h
      · simp at h
    · rintro (h | h)
      · exact Or.inl h
      · exact Or.inr ⟨Or.inl h, by rw [h]; exact hd⟩
  have hin : ∀ x ∈ pairTo c1 b1 c2 b2 2, NodeOf w k x.2 (f x.1) := by
    intro x hx
    rcases (hmem x).1 hx with rfl | rfl
    · rw [hfb]; exact h2
    · rw [hfa]; exact h1
  refine (nPair_hd b1 b2 lv k g1 g2 (fun x => sums (f x.1).L) w hg1 hg2 (by omega) q2 hk1 hk16 q3 r3 hp (by omega) (by omega) (by rw [a1, a2]; exact fun x hx => (hin x hx).tells)).mono ?_
  rintro e w' ⟨b', s', rfl, hH, hM', hb', hB⟩
  rw [a1, a2] at hH hM'
  rw [foldS_sums (pairTo c1 b1 c2 b2 2) (fun x => (f x.1).L) (fun x hx => (hin x hx).ne)] at hH
  have h2' : 2 ≤ (pairTo c1 b1 c2 b2 2).length := len2 ((hmem _).2 (Or.inl rfl)) ((hmem _).2 (Or.inr rfl)) (fun e => hd (Prod.mk.inj e).1.symm)
  have hcut : key (cut g1.pre (lv + 1)) = key e1.1 / (2 ^ k) ^ (lv + 1) * (2 ^ k) ^ (lv + 1) := by
    have e1' := cut_div g1.pre (lv + 1) (by omega)
    unfold B at e1'
    rw [cut_length, q2, u1 _ (by omega)] at e1'
    rw [← e1']
    have hz : key (cut g1.pre (lv + 1)) % (2 ^ k) ^ (lv + 1) = 0 := by
      have := cut_mod g1.pre (lv + 1) (by omega)
      unfold B at this; rw [q2] at this; exact this
    have := Nat.div_add_mod (key (cut g1.pre (lv + 1))) ((2 ^ k) ^ (lv + 1))
    rw [hz, Nat.add_zero, Nat.mul_comm] at this
    exact this.symm
  refine ⟨b', ⟨lv + 1, key e1.1 / (2 ^ k) ^ (lv + 1), (pairTo c1 b1 c2 b2 2).flatMap fun x => (f x.1).L, b' :: (pairTo c1 b1 c2 b2 2).flatMap fun x => (f x.1).N⟩, rfl,
    .node b' lv _ s' _ f _ _ hH (by rw [cut_length]; exact q2) (cut_ok q3 _) hlv hcut hM' h2' (fun x hx => (hin x hx).bel hB) ?_ rfl, rfl, ?_, ?_, hb', hB⟩
  · intro x hx
    rcases (hmem x).1 hx with rfl | rfl
    · rw [hfb]
      refine ⟨hl2, ?_⟩
      rw [← h2.up lv hl2 e2 he2, key_step m2.1 lv hlv, hu, hA2]
    · rw [hfa]
      refine ⟨hl1, ?_⟩
      rw [← h1.up lv hl1 e1 he1, key_step m1.1 lv hlv, hA1]
  · intro e
    simp only [List.mem_flatMap]
    constructor
    · rintro ⟨x, hx, he⟩
      rcases (hmem x).1 hx with rfl | rfl
      · rw [hfb] at he; exact Or.inr he
      · rw [hfa] at he; exact Or.inl he
    · rintro (he | he)
      · exact ⟨(c1, b1), (hmem _).2 (Or.inr rfl), by rw [hfa]; exact he⟩
      · exact ⟨(c2, b2), (hmem _).2 (Or.inl rfl), by rw [hfb]; exact he⟩
  · intro n hn
    simp only [List.mem_cons, List.mem_flatMap] at hn
    rcases hn with rfl | ⟨x, hx, hn⟩
    · exact Or.inl rfl
    · rcases (hmem x).1 hx with rfl | rfl
      · rw [hfb] at hn; exact Or.inr (Or.inr hn)
      · rw [hfa] at hn; exact Or.inr (Or.inl hn)
end Go.Proofs.Ytdjemmopecchmaa
