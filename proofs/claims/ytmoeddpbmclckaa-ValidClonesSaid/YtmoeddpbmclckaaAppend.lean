/- append of any slice that reads, nil too, onto a row of the call's own. No condition. -/
import Derived.Test.YtmoeddpbmclckaaFrame
import Derived.Test.YtmoeddpbmclckaaNameM
import Derived.Laws.AppendOwnNone
namespace Go.Proofs.Ytmoeddpbmclckaa
open Go.ChangeShapes Go.WideShapes Go.ChangeAt Go.RowKit Go.Deep

theorem SlR.allA {α : Type} {f : α → List Value} {sz : Nat} {w : World} {ad : Addr} {n cap : Nat} {xs : List α} (hf : ∀ x, (f x).length = sz) (hsz : 0 < sz) (h : SlR (Flat f) sz w (some ad) n cap xs) :
    ∀ j u, (xs.flatMap f)[j]? = some u → w.cell? (ad.add j) = some u := by
  intro j u hj
  have hlt := (List.getElem?_eq_some_iff.1 hj).1
  rw [flatMap_len hf] at hlt
  have hi : j / sz < xs.length := by rw [Nat.div_lt_iff_lt_mul hsz]; exact hlt
  have hr := Nat.mod_lt j hsz
  have e : j / sz * sz + j % sz = j := by rw [Nat.mul_comm]; exact Nat.div_add_mod j sz
  have h2 := flatMap_get hf xs (j / sz) (j % sz) hi hr
  rw [e, hj] at h2
  obtain ⟨c, _, h3, h4⟩ := h.hat ad rfl (j / sz) hi
  rw [show c = f xs[j / sz] from h4] at h3
  have h5 := h3 (j % sz) u h2.symm
  rwa [e] at h5

theorem World.grownBy_refl (w : World) (r : Option Nat) : w.grownBy w r := ⟨rfl, rfl, rfl, Nat.le_refl _, fun _ _ _ => rfl⟩

theorem wpList_append_slr {P : Program} {ops : Array Oper} {rest : List Oper} {o : Oper} {a : Act} {w : World} {Q : Exit → Act → World → Prop} {t e : TypeId} {size bytes : Nat} (E : ElemOK P t e size bytes)
    (hgd : o.guard = none) (s x : Operand) (ho : o.op = .call { callee := .builtin .append, args := #[s, x], argTypes := #[t, t] })
    (B : Nat) (v : Value) (n : Nat) (xs : List Value) (hs : a.eval s = v) (hown : w.ownsRow B e size v n xs) (hB : B ≤ w.heap.size)
    {α : Type} {f : α → List Value} (hf : ∀ x, (f x).length = size) (ao : Option Addr) (m c : Nat) (ys : List α) (hx : a.eval x = .slice ao m c) (hS : SlR (Flat f) size w ao m c ys) (h1 : ∀ y u, u ∈ f y → u.oneCell' = true)
    (h63 : n + m ≤ maxLen) (hbytes : (n + m) * bytes ≤ 140737488355328)
    (h : ∀ v' w', w'.ownsRow B e size v' (n + m) (xs ++ ys.flatMap f) → w.grownBy w' v.ownBlock → wpList P ops Q rest (a.put o.dst v') w') : wpList P ops Q (o :: rest) a w := by
  obtain ⟨i, z, hi, hz, h2, h3, h4⟩ := E.info
  cases ao with
  | none =>
    have hc := hS.hnil rfl
    have hm : m = 0 := by have := hS.hcap; omega
    subst hc hm
    have hy : ys = [] := List.eq_nil_of_length_eq_zero hS.hlen
    subst hy
    refine wpList_append_own_none hgd s x t ho B e i size E.under hi v n xs hs hown hx (h v w ?_ (World.grownBy_refl _ _))
    simpa using hown
  | some ad =>
    refine wpList_append_own _ hgd s x t ho B e i z size bytes E.under hi hz h2 h3 h4 E.pos v n xs hs hown ad m c (ys.flatMap f) hx (by rw [flatMap_len hf, hS.hlen]) (hS.allA hf E.pos) (fun u hu => ?_) h63 hbytes hB fun v' w' h1 h2 _ => h v' w' h1 h2
    obtain ⟨y, _, hu⟩ := List.mem_flatMap.1 hu
    exact h1 y u hu
end Go.Proofs.Ytmoeddpbmclckaa
