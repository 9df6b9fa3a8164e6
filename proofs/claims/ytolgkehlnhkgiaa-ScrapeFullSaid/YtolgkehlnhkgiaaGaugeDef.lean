/- What a sample's quantity is. No condition. -/
import Derived.Test.YtolgkehlnhkgiaaFloat
namespace Go.Proofs.Ytolgkehlnhkgiaa

/-- A quotient, to the nearest, of two to the even one. -/
def quoR (up down : Nat) : Nat := if down < up % down + up % down ∨ (up % down + up % down = down ∧ up / down % 2 = 1) then up / down + 1 else up / down

def quoOf (q : Nat) : Nat × Int := if 9007199254740992 < q then (0, 3) else (q, 0)

def refOf (x : Nat) : Nat × Int :=
  if expo x = 2047 ∧ frac x ≠ 0 then (0, 2) else if x = 9223372036854775808 then (0, 0) else if expo x = 2047 ∨ 9223372036854775808 ≤ x then (0, 3)
  else if expo x < 1075 then quoOf (quoR ((if expo x = 0 then frac x else frac x + 4503599627370496) * 1000) (2 ^ (1075 - (if expo x = 0 then 1 else expo x))))
  else quoOf (quoR ((frac x + 4503599627370496) * 1000 * 2 ^ (expo x - 1075)) 1)
end Go.Proofs.Ytolgkehlnhkgiaa
