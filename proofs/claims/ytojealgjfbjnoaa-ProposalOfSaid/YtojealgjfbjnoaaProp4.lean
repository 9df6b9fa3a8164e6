/- Plain laws of a row's answer, and slices of the call's own that are read. No condition. -/
import Derived.Test.YtojealgjfbjnoaaProp3
namespace Go.Proofs.Ytojealgjfbjnoaa
open Go.ChangeShapes Go.WideShapes Go.ChangeAt Go.RowKit Go.Deep

section
variable {kind target rep tol u g n : Int} {l : List UseI}

theorem rowI_err (h1 : addOf kind target ownI 0 0 0 (l.filter isHas) = none) : rowI kind target l rep tol = (0, 3) := by
  unfold rowI
  rw [show (l.filter fun x => x.ready && x.has) = l.filter isHas from rfl, h1]

theorem rowI_few (h1 : addOf kind target ownI 0 0 0 (l.filter isHas) = some (u, g, n)) (hn : n = 0) : rowI kind target l rep tol = (0, 7) := by
  unfold rowI
  rw [show (l.filter fun x => x.ready && x.has) = l.filter isHas from rfl, h1]
  exact if_pos hn

theorem rowI_zero (h1 : addOf kind target ownI 0 0 0 (l.filter isHas) = some (u, g, n)) (hn : n ≠ 0) (hg : g = 0) : rowI kind target l rep tol = (0, 5) := by
  unfold rowI
  rw [show (l.filter fun x => x.ready && x.has) = l.filter isHas from rfl, h1]
  exact (if_neg hn).trans (if_pos hg)

theorem rowI_up (h1 : addOf kind target ownI 0 0 0 (l.filter isHas) = some (u, g, n)) (hn : n ≠ 0) (hg : g ≠ 0) (hu : g < u) : rowI kind target l rep tol =
    match addOf kind target noneI u g n (l.filter isMiss ++ l.filter isUn) with
      | none => (0, 3)
      | some (u2, g2, n2) => if nearI u2 g2 tol ∨ u2 ≤ g2 then (rep, 0) else (max (needI (min n2 1000000) u2 g2) rep, 0) := by
  unfold rowI
  rw [show (l.filter fun x => x.ready && x.has) = l.filter isHas from rfl, h1]
  exact (if_neg hn).trans ((if_neg hg).trans (if_pos hu))

theorem rowI_down (h1 : addOf kind target ownI 0 0 0 (l.filter isHas) = some (u, g, n)) (hn : n ≠ 0) (hg : g ≠ 0) (hu : u < g) : rowI kind target l rep tol =
    match addOf kind target wholeI u g n (l.filter isMiss) with
      | none => (0, 3)
      | some (u2, g2, n2) => if nearI u2 g2 tol ∨ g2 ≤ u2 then (rep, 0) else (min (needI (min n2 1000000) u2 g2) rep, 0) := by
  unfold rowI
  rw [show (l.filter fun x => x.ready && x.has) = l.filter isHas from rfl, h1]
  exact (if_neg hn).trans ((if_neg hg).trans ((if_neg (by omega)).trans (if_pos hu)))

theorem rowI_same (h1 : addOf kind target ownI 0 0 0 (l.filter isHas) = some (u, g, n)) (hn : n ≠ 0) (hg : g ≠ 0) (hu : u = g) : rowI kind target l rep tol = (rep, 0) := by
  unfold rowI
  rw [show (l.filter fun x => x.ready && x.has) = l.filter isHas from rfl, h1]
  exact (if_neg hn).trans ((if_neg hg).trans ((if_neg (by omega)).trans (if_neg (by omega))))

theorem rowI_up_some {u2 g2 n2 : Int} (h1 : addOf kind target ownI 0 0 0 (l.filter isHas) = some (u, g, n)) (hn : n ≠ 0) (hg : g ≠ 0) (hu : g < u) (h2 : addOf kind target noneI u g n (l.filter isMiss ++ l.filter isUn) = some (u2, g2, n2)) :
    rowI kind target l rep tol = if nearI u2 g2 tol ∨ u2 ≤ g2 then (rep, 0) else (max (needI (min n2 1000000) u2 g2) rep, 0) := by
  rw [rowI_up h1 hn hg hu, h2]

theorem rowI_up_none (h1 : addOf kind target ownI 0 0 0 (l.filter isHas) = some (u, g, n)) (hn : n ≠ 0) (hg : g ≠ 0) (hu : g < u) (h2 : addOf kind target noneI u g n (l.filter isMiss ++ l.filter isUn) = none) :
    rowI kind target l rep tol = (0, 3) := by
  rw [rowI_up h1 hn hg hu, h2]

theorem rowI_down_some {u2 g2 n2 : Int} (h1 : addOf kind target ownI 0 0 0 (l.filter isHas) = some (u, g, n)) (hn : n ≠ 0) (hg : g ≠ 0) (hu : u < g) (h2 : addOf kind target wholeI u g n (l.filter isMiss) = some (u2, g2, n2)) :
    rowI kind target l rep tol = if nearI u2 g2 tol ∨ g2 ≤ u2 then (rep, 0) else (min (needI (min n2 1000000) u2 g2) rep, 0) := by
  rw [rowI_down h1 hn hg hu, h2]

theorem rowI_down_none (h1 : addOf kind target ownI 0 0 0 (l.filter isHas) = some (u, g, n)) (hn : n ≠ 0) (hg : g ≠ 0) (hu : u < g) (h2 : addOf kind target wholeI u g n (l.filter isMiss) = none) :
    rowI kind target l rep tol = (0, 3) := by
  rw [rowI_down h1 hn hg hu, h2]
end

/-- A slice of the call's own reads as its list. -/
theorem OwnL.reads {w : World} {B : Nat} {v : Value} {xs : List UseI} (h : OwnL w B v xs) : ∃ ao n cap, v = .slice ao n cap ∧ n = xs.length ∧ SlR (Flat UseI.cells) 5 w ao n cap xs ∧ ∀ a, ao = some a → a.block < w.heap.size := by
  obtain ⟨ao, cap, rfl, h1, _⟩ := SlR.of_owns (f := UseI.cells) (sz := 5) h rfl (fun _ => rfl)
  refine ⟨ao, _, cap, rfl, rfl, h1, fun a ha => ?_⟩
  subst ha
  exact (World.ownsRow.lt h a.block rfl).2

theorem OwnL.fr {S : Nat → Prop} {w w' : World} {B : Nat} {v : Value} {xs : List UseI} (h : OwnL w B v xs) (hf : Fr S w w') (hk : ∀ k, v.ownBlock = some k → ¬ S k) : OwnL w' B v xs := owns_fr hf h hk
end Go.Proofs.Ytojealgjfbjnoaa
