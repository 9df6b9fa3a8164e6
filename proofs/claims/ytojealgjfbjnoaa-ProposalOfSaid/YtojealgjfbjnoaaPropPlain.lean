/- The plain law of a row of uses: more use of one proposes no fewer. No condition. -/
import Derived.Test.YtojealgjfbjnoaaBase
namespace Go.Proofs.Ytojealgjfbjnoaa
structure UseI where
  pod : ByteArray
  ready : Bool
  has : Bool
  ask : Int
  use : Int
deriving Inhabited

def goalI (kind target ask : Int) : Option Int :=
  if kind ≠ 0 then some target else if 9007199254740992 < ask * target / 1000 then none else some (ask * target / 1000)

def addOf (kind target : Int) (f : UseI → Int → Int) : Int → Int → Int → List UseI → Option (Int × Int × Int)
  | u, g, n, [] => some (u, g, n)
  | u, g, n, x :: l =>
    match goalI kind target x.ask with
    | none => none
    | some q => if g + q ≤ 9007199254740992 ∧ u + f x q ≤ 9007199254740992 then addOf kind target f (u + f x q) (g + q) (n + 1) l else none

def gq (kind target : Int) (x : UseI) : Int := (goalI kind target x.ask).getD 0

def sumBy (h : UseI → Int) : List UseI → Int
  | [] => 0
  | x :: l => h x + sumBy h l

theorem addOf_some {kind target : Int} {f : UseI → Int → Int} : ∀ (l : List UseI) {u g n : Int} {s : Int × Int × Int},
    addOf kind target f u g n l = some s → s = (u + sumBy (fun x => f x (gq kind target x)) l, g + sumBy (gq kind target) l, n + l.length)
  | [], u, g, n, s, h => by
    simp [addOf] at h
    simp [sumBy, h]
  | x :: l, u, g, n, s, h => by
    simp only [addOf] at h
    split at h
    · cases h
    · rename_i q hq
      split at h
      · have e := addOf_some l h
        rw [e]
        have hg : gq kind target x = q := by simp [gq, hq]
        simp only [sumBy, hg, List.length_cons, Prod.mk.injEq]
        refine ⟨by omega, by omega, by omega⟩
      · cases h

theorem addOf_append {kind target : Int} {f : UseI → Int → Int} : ∀ (l m : List UseI) (u g n : Int),
    addOf kind target f u g n (l ++ m) = (addOf kind target f u g n l).bind fun s => addOf kind target f s.1 s.2.1 s.2.2 m
  | [], m, u, g, n => rfl
  | x :: l, m, u, g, n => by
    simp only [List.cons_append, addOf]
    split
    · rfl
    · split
      · exact addOf_append l m _ _ _
      · rfl

/-- How many are needed: rounded up, a million at most. -/
def needI (n use goal : Int) : Int := min ((n * use + goal - 1) / goal) 1000000

def nearI (use goal tol : Int) : Prop := (max use goal - min use goal) * 1000 ≤ tol * goal
instance (use goal tol : Int) : Decidable (nearI use goal tol) := by unfold nearI; infer_instance

def ownI (x : UseI) (_ : Int) : Int := x.use
def wholeI (_ : UseI) (g : Int) : Int := g
def noneI (_ : UseI) (_ : Int) : Int := 0

def rowI (kind target : Int) (l : List UseI) (rep tol : Int) : Int × Int :=
  match addOf kind target ownI 0 0 0 (l.filter fun x => x.ready && x.has) with
  | none => (0, 3)
  | some (u, g, n) =>
    if n = 0 then (0, 7) else if g = 0 then (0, 5)
    else if g < u then
      match addOf kind target noneI u g n (l.filter (fun x => x.ready && !x.has) ++ l.filter fun x => !x.ready) with
      | none => (0, 3)
      | some (u2, g2, n2) => if nearI u2 g2 tol ∨ u2 ≤ g2 then (rep, 0) else (max (needI (min n2 1000000) u2 g2) rep, 0)
    else if u < g then
      match addOf kind target wholeI u g n (l.filter fun x => x.ready && !x.has) with
      | none => (0, 3)
      | some (u2, g2, n2) => if nearI u2 g2 tol ∨ g2 ≤ u2 then (rep, 0) else (min (needI (min n2 1000000) u2 g2) rep, 0)
    else (rep, 0)

theorem needI_mono {n a b g : Int} (hn : 0 ≤ n) (hg : 0 < g) (h : a ≤ b) : needI n a g ≤ needI n b g := by
  have h1 := Int.mul_le_mul_of_nonneg_left h hn
  have h2 : (n * a + g - 1) / g ≤ (n * b + g - 1) / g := Int.ediv_le_ediv hg (by omega)
  unfold needI
  omega

theorem sumBy_zero (l : List UseI) : sumBy (fun _ => 0) l = 0 := by
  induction l with
  | nil => rfl
  | cons x l ih => simp [sumBy, ih]

theorem sumBy_nonneg {h : UseI → Int} : ∀ (l : List UseI), (∀ x ∈ l, 0 ≤ h x) → 0 ≤ sumBy h l
  | [], _ => by simp [sumBy]
  | x :: l, hh => by
    have h1 := hh x (by simp)
    have h2 := sumBy_nonneg l (fun y hy => hh y (by simp [hy]))
    simp only [sumBy]
    omega

/-- One use grows: what a filter's sum does. -/
theorem sumBy_set {h : UseI → Int} {p : UseI → Bool} (y : UseI) (d : Int) : ∀ (l : List UseI) (i : Nat) (hi : i < l.length), p y = p l[i] → h y = h l[i] + d →
    sumBy h ((l.set i y).filter p) = sumBy h (l.filter p) + (if p l[i] then d else 0) ∧ ((l.set i y).filter p).length = (l.filter p).length
  | x :: l, 0, _, hp, hh => by
    simp only [List.getElem_cons_zero] at hp hh ⊢
    simp only [List.set_cons_zero, List.filter_cons, hp]
    by_cases hx : p x = true
    · rw [if_pos hx, if_pos hx, if_pos hx]
      simp only [sumBy, List.length_cons]
      exact ⟨by omega, trivial⟩
    · rw [if_neg hx, if_neg hx, if_neg hx]
      exact ⟨by omega, rfl⟩
  | x :: l, i + 1, hi, hp, hh => by
    simp only [List.getElem_cons_succ] at hp hh ⊢
    have e := sumBy_set y d l i (by simpa using hi) hp hh
    simp only [List.set_cons_succ, List.filter_cons]
    by_cases hx : p x = true
    · rw [if_pos hx, if_pos hx]
      simp only [sumBy, List.length_cons, e.1, e.2]
      exact ⟨by omega, trivial⟩
    · rw [if_neg hx, if_neg hx]
      exact e

/-- The answer, by the sums. -/
def rowV (U G N GM LM GU LU rep tol : Int) : Int :=
  if G < U then (if nearI U (G + GM + GU) tol ∨ U ≤ G + GM + GU then rep else max (needI (min (N + LM + LU) 1000000) U (G + GM + GU)) rep)
  else if U < G then (if nearI (U + GM) (G + GM) tol ∨ G + GM ≤ U + GM then rep else min (needI (min (N + LM) 1000000) (U + GM) (G + GM)) rep)
  else rep

theorem sumBy_append {h : UseI → Int} : ∀ (l m : List UseI), sumBy h (l ++ m) = sumBy h l + sumBy h m
  | [], m => by simp [sumBy]
  | x :: l, m => by
    have := sumBy_append (h := h) l m
    simp only [List.cons_append, sumBy, this]
    omega

theorem rowI_ok {kind target rep tol n : Int} {l : List UseI} (h : rowI kind target l rep tol = (n, 0)) :
    sumBy (gq kind target) (l.filter fun x => x.ready && x.has) ≠ 0 ∧
    n = rowV (sumBy (fun x => x.use) (l.filter fun x => x.ready && x.has)) (sumBy (gq kind target) (l.filter fun x => x.ready && x.has)) (l.filter fun x => x.ready && x.has).length
      (sumBy (gq kind target) (l.filter fun x => x.ready && !x.has)) (l.filter fun x => x.ready && !x.has).length
      (sumBy (gq kind target) (l.filter fun x => !x.ready)) (l.filter fun x => !x.ready).length rep tol := by
  unfold rowI at h
  split at h
  · simp at h
  · rename_i u g cn e1
    have q1 := addOf_some _ e1
    simp only [Prod.mk.injEq, ownI, Int.zero_add] at q1
    obtain ⟨rfl, rfl, rfl⟩ := q1
    clear e1
    generalize sumBy (fun x => x.use) (l.filter fun x => x.ready && x.has) = U at h ⊢
    generalize sumBy (gq kind target) (l.filter fun x => x.ready && x.has) = G at h ⊢
    generalize ((l.filter fun x => x.ready && x.has).length : Int) = N at h ⊢
    by_cases hn : N = 0
    · simp [hn] at h
    · rw [if_neg hn] at h
      by_cases hg : G = 0
      · simp [hg] at h
      · rw [if_neg hg] at h
        refine ⟨hg, ?_⟩
        unfold rowV
        by_cases h1 : G < U
        · rw [if_pos h1] at h ⊢
          split at h
          · simp at h
          · rename_i u2 g2 n2 e2
            have q2 := addOf_some _ e2
            simp only [Prod.mk.injEq, noneI, sumBy_zero, sumBy_append, List.length_append, Int.natCast_add] at q2
            obtain ⟨rfl, rfl, rfl⟩ := q2
            simp only [Int.add_zero, ← Int.add_assoc] at h
            split at h
            · rename_i hc
              rw [if_pos hc]
              simp at h
              exact h.symm
            · rename_i hc
              rw [if_neg hc]
              simp at h
              exact h.symm
        · rw [if_neg h1] at h ⊢
          by_cases h2 : U < G
          · rw [if_pos h2] at h ⊢
            split at h
            · simp at h
            · rename_i u2 g2 n2 e2
              have q2 := addOf_some _ e2
              simp only [Prod.mk.injEq, wholeI] at q2
              obtain ⟨rfl, rfl, rfl⟩ := q2
              split at h
              · rename_i hc
                rw [if_pos hc]
                simp at h
                exact h.symm
              · rename_i hc
                rw [if_neg hc]
                simp at h
                exact h.symm
          · rw [if_neg h2] at h ⊢
            simp at h
            exact h.symm

theorem rowV_mono {U V G N GM LM GU LU rep tol : Int} (hG : 0 < G) (hN : 0 ≤ N) (hM : 0 ≤ LM) (hU : 0 ≤ LU) (hGM : 0 ≤ GM) (hGU : 0 ≤ GU) (h : U ≤ V) :
    rowV U G N GM LM GU LU rep tol ≤ rowV V G N GM LM GU LU rep tol := by
  have n1 := needI_mono (n := min (N + LM + LU) 1000000) (a := U) (b := V) (g := G + GM + GU) (by omega) (by omega) h
  have n2 := needI_mono (n := min (N + LM) 1000000) (a := U + GM) (b := V + GM) (g := G + GM) (by omega) (by omega) (by omega)
  unfold rowV
  generalize needI (min (N + LM + LU) 1000000) U (G + GM + GU) = a at *
  generalize needI (min (N + LM + LU) 1000000) V (G + GM + GU) = b at *
  generalize needI (min (N + LM) 1000000) (U + GM) (G + GM) = c at *
  generalize needI (min (N + LM) 1000000) (V + GM) (G + GM) = d at *
  repeat' split
  all_goals (try unfold nearI at *
             omega)

theorem gq_nonneg {kind target : Int} (ht : 0 ≤ target) (x : UseI) (hx : 0 ≤ x.ask) : 0 ≤ gq kind target x := by
  unfold gq goalI
  split
  · simpa using ht
  · split
    · simp
    · simp only [Option.getD_some]
      exact Int.ediv_nonneg (Int.mul_nonneg hx ht) (by decide)

/-- More use of one proposes no fewer. -/
theorem rowI_grows {kind target rep tol n w d : Int} {l : List UseI} {i : Nat} (hi : i < l.length) (ht : 0 ≤ target) (ha : ∀ x ∈ l, 0 ≤ x.ask) (hd : 0 ≤ d)
    (h : rowI kind target l rep tol = (n, 0)) (h' : rowI kind target (l.set i { l[i] with use := l[i].use + d }) rep tol = (w, 0)) : n ≤ w := by
  obtain ⟨hg, rfl⟩ := rowI_ok h
  obtain ⟨-, rfl⟩ := rowI_ok h'
  have e1 := sumBy_set (h := fun x => x.use) (p := fun x => x.ready && x.has) { l[i] with use := l[i].use + d } d l i hi rfl rfl
  have e2 := sumBy_set (h := gq kind target) (p := fun x => x.ready && x.has) { l[i] with use := l[i].use + d } 0 l i hi rfl (by simp [gq])
  have e3 := sumBy_set (h := gq kind target) (p := fun x => x.ready && !x.has) { l[i] with use := l[i].use + d } 0 l i hi rfl (by simp [gq])
  have e4 := sumBy_set (h := gq kind target) (p := fun x => !x.ready) { l[i] with use := l[i].use + d } 0 l i hi rfl (by simp [gq])
  simp only [ite_self, Int.add_zero] at e2 e3 e4
  rw [e1.1, e2.1, e2.2, e3.1, e3.2, e4.1, e4.2]
  have p : ∀ f, ∀ x ∈ l.filter f, 0 ≤ gq kind target x := fun f x hx => gq_nonneg ht x (ha x (List.mem_filter.1 hx).1)
  have g1 := sumBy_nonneg _ (p fun x => x.ready && x.has)
  refine rowV_mono (by omega) (by omega) (by omega) (by omega) (sumBy_nonneg _ (p _)) (sumBy_nonneg _ (p _)) ?_
  split <;> omega
end Go.Proofs.Ytojealgjfbjnoaa
