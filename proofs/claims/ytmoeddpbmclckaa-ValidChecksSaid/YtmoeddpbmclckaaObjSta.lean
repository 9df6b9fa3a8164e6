/- What the types of objects are. No condition. -/
import Derived.Test.YtmoeddpbmclckaaChain4
import Derived.Test.YtmoeddpbmclckaaBase
import Derived.Test.YtmoeddpbmclckaaRows
import Derived.Laws.StructEq
namespace Go.Proofs.Ytmoeddpbmclckaa
open Go.ChangeShapes Go.WideShapes Go.ChangeAt Go.RowKit Go.Deep

def objSta : Sta where
  fld := [(44, 0, 0), (44, 1, 1), (44, 2, 2), (44, 3, 3), (44, 4, 10), (44, 5, 20), (44, 6, 27), (44, 7, 35),
    (29, 0, 0), (29, 1, 1), (29, 2, 3), (29, 3, 4), (29, 4, 5), (29, 5, 6),
    (31, 0, 0), (31, 1, 1), (31, 2, 2), (31, 3, 3), (31, 4, 4), (31, 5, 6), (31, 6, 7), (31, 7, 8), (31, 8, 9),
    (33, 0, 0), (33, 1, 1), (33, 2, 3), (33, 3, 4), (33, 4, 5), (33, 5, 6),
    (35, 0, 0), (35, 1, 1), (35, 2, 2), (35, 3, 3), (35, 4, 5), (35, 5, 6), (35, 6, 7),
    (42, 0, 0), (42, 1, 1), (42, 2, 2), (42, 3, 3), (42, 4, 4), (42, 5, 5), (42, 6, 8), (42, 7, 11),
    (25, 0, 0), (25, 1, 1), (39, 0, 0), (39, 1, 1), (39, 2, 2),
    (59, 0, 0), (59, 1, 1), (59, 2, 2), (64, 0, 0), (64, 1, 1), (64, 2, 2), (54, 0, 0), (54, 1, 1), (62, 0, 0), (62, 1, 1), (62, 2, 2)]
  one := [3, 2, 4, 9, 26, 27, 36, 40, 37, 23]
  many := [(25, 2), (39, 3), (44, 47), (29, 7), (31, 10), (33, 7), (35, 8), (42, 12), (59, 3), (64, 3)]
  two := [25]
  bT := [4]
  slT := [26, 27, 36, 40, 37]

theorem objSta_ok : objSta.Ok Try.prog where
  fld := fun a o w => by kernel_rfl
  one := fun w => by kernel_rfl
  many := fun w => by kernel_rfl
  size := fun w => by kernel_rfl
  two := fun t ht a b c d w x y => by
    have : t = 25 := by simpa [objSta] using ht
    subst this
    by_cases h1 : a = c <;> by_cases h2 : b = d <;> simp [go_sem, h1, h2]
  slT := by kernel_rfl
  bT := by kernel_rfl
end Go.Proofs.Ytmoeddpbmclckaa
