/- The statement SetsNil. -/
import Derived.Test.YtdjemmopecchmaaUc
namespace Go.Proofs.Ytdjemmopecchmaa
open Go.RowKit Go.Proofs.YtdjemmopecchmaaW.PrintWords Key
set_option linter.unusedVariables false
set_option linter.unusedSimpArgs false

set_option maxRecDepth 100000 in
set_option maxHeartbeats 1600000 in
theorem setsNil_any (ru : Int) (w : World) : Calls Try.prog 13 #[.int .i64 ru] w fun e w' => e = .returned (.bool true) ∧ Below w.heap.size w w' := by
  go_enter Try.func13, Try.ntmps13
  go_wp2_with fail
  refine (awake15 w).mono ?_
  rintro e w1 ⟨rfl, hb1⟩
  go_wp2_with fail
  refine (tNew_any 1 w1 (by omega) (by omega)).mono ?_
  rintro e w2 ⟨t, rfl, hT, ht, hb2⟩
  clear hT ht
  have H2 := Lib.hid (hb1.trans (hb2.mono hb1.size))
  clear hb1 hb2
  have C := uUnion_nil ru none (some ⟨t, 0, none⟩) (.inl rfl) w2
  go_wp2_with fail
  refine C.mono ?_
  rintro e w3 ⟨rfl, hb⟩
  have H3 := Lib.hid (H2.out.trans (hb.mono H2.out.size))
  clear C hb H2
  have C := uCommon_nil ru (some ⟨t, 0, none⟩) none (.inr rfl) w3
  go_wp2_with fail
  refine C.mono ?_
  rintro e w4 ⟨rfl, hb⟩
  have H4 := Lib.hid (H3.out.trans (hb.mono H3.out.size))
  clear C hb H3
  have C := uWithout_nil none none (.inr rfl) w4
  go_wp2_with fail
  refine C.mono ?_
  rintro e w5 ⟨rfl, hb⟩
  have H5 := Lib.hid (H4.out.trans (hb.mono H4.out.size))
  clear C hb H4
  have C := uSubset_nil (some ⟨t, 0, none⟩) w5
  go_wp2_with fail
  refine C.mono ?_
  rintro e w6 ⟨rfl, hb⟩
  have H6 := Lib.hid (H5.out.trans (hb.mono H5.out.size))
  clear C hb H5
  have C := uTouch_nil (some ⟨t, 0, none⟩) none (.inr rfl) w6
  go_wp2_with fail
  refine C.mono ?_
  rintro e w7 ⟨rfl, hb⟩
  have H7 := Lib.hid (H6.out.trans (hb.mono H6.out.size))
  clear C hb H6
  go_wp2
  go_ret
  exact ⟨rfl, H7.out⟩
end Go.Proofs.Ytdjemmopecchmaa
