/- What the types of objects are. No condition. -/
import Derived.Test.YtpbppgfogepjeaaChain4
import Derived.Test.YtpbppgfogepjeaaBase
import Derived.Test.YtpbppgfogepjeaaRows
import Derived.Laws.StructEq
namespace Go.Proofs.Ytpbppgfogepjeaa
open Go.ChangeShapes Go.WideShapes Go.ChangeAt Go.RowKit Go.Deep

def objSta : Sta where
  fld := [(44, 0, 0), (44, 1, 1), (44, 2, 2), (44, 3, 3), (44, 4, 10), (44, 5, 20), (44, 6, 27), (44, 7, 35),
    (29, 0, 0), (29, 1, 1), (29, 2, 3), (29, 3, 4), (29, 4, 5), (29, 5, 6),
    (31, 0, 0), (31, 1, 1), (31, 2, 2), (31, 3, 3), (31, 4, 4), (31, 5, 6), (31, 6, 7), (31, 7, 8), (31, 8, 9),
    (33, 0, 0), (33, 1, 1), (33, 2, 3), (33, 3, 4), (33, 4, 5), (33, 5, 6),
    (35, 0, 0), (35, 1, 1), (35, 2, 2), (35, 3, 3), (35, 4, 5), (35, 5, 6), (35, 6, 7),
    (42, 0, 0), (42, 1, 1), (42, 2, 2), (42, 3, 3), (42, 4, 4), (42, 5, 5), (42, 6, 8), (42, 7, 11),
    (25, 0, 0), (25, 1, 1), (39, 0, 0), (39, 1, 1), (39, 2, 2),
    (83, 0, 0), (83, 1, 1), (83, 2, 2), (87, 0, 0), (87, 1, 1), (87, 2, 2), (110, 0, 0), (110, 1, 1), (113, 0, 0), (113, 1, 1), (113, 2, 2), (49, 0, 0), (49, 1, 1), (49, 2, 2)]
  one := [3, 2, 4, 9, 26, 27, 36, 40, 37, 23, 22]
  many := [(25, 2), (39, 3), (44, 47), (29, 7), (31, 10), (33, 7), (35, 8), (42, 12), (83, 3), (87, 3)]
  two := [25]
  bT := [4]
  cv := [(3, 22), (2, 22)]
  stT := [9]
  slT := [26, 27, 36, 40, 37]

theorem objSta_ok : objSta.Ok Try.prog where
  fld := fun a o w => by kernel_rfl
  one := fun w => by kernel_rfl
  many := fun w => by kernel_rfl
  size := fun w => by kernel_rfl
  two := fun t ht a b c d w x y => by
    have : t = 25 := by simpa [objSta] using ht
    subst this
    by_cases h1 : a = c <;> by_cases h2 : b = d <;> simp [go_sem, h1, h2]
  slT := by kernel_rfl
  stT := by kernel_rfl
  bT := by kernel_rfl
  cv := fun n w => by kernel_rfl
end Go.Proofs.Ytpbppgfogepjeaa
