/- WindowNone holds: for every input the law returns true. No condition. -/
import Derived.Test.YtbhhjlnjhlagdaaWindowNoneLift
import Derived.Test.YtbhhjlnjhlagdaaWindow5
namespace Go.Proofs.Ytbhhjlnjhlagdaa
open Go.ChangeShapes Go.WideShapes Go.ChangeAt Go.RowKit Go.Deep

theorem WindowNone_holds : Rows.WindowNoneSaid := lWindowNone.over fun now there up down w _ _ _ _ => by
  go_enter Try.func11, Try.ntmps11
  go_wp2_with fail
  refine (lives21 w).mono ?_
  rintro e w1 ⟨rfl, hb1⟩
  go_wp2_with fail
  refine (least_nil now up _).mono ?_
  rintro e w2 ⟨rfl, hb2⟩
  go_wp2_with fail
  refine (greatest_nil now down _).mono ?_
  rintro e w3 ⟨rfl, hb3⟩
  go_wp2_with fail
  refine (note_nil now there _).mono ?_
  rintro e w4 ⟨rfl, hb4⟩
  go_wp2_with fail
  refine (stable_nil now there up down _).mono ?_
  rintro e w5 ⟨rfl, hb5⟩
  have h12 := hb1.trans (hb2.mono hb1.size)
  have h13 := h12.trans (hb3.mono h12.size)
  have h14 := h13.trans (hb4.mono h13.size)
  have H := Lib.hid (h14.trans (hb5.mono h14.size))
  clear hb1 hb2 hb3 hb4 hb5 h12 h13 h14
  go_wp2_with (first | go_in)
  go_ret
  exact ⟨rfl, H.out⟩
end Go.Proofs.Ytbhhjlnjhlagdaa
