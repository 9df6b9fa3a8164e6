/- A row of operations parted in two: the first ones' ends meet in one relation. No condition. -/
import Derived.Test.YtmoeddpbmclckaaBase
import Derived.Orders
namespace Go.Proofs.Ytmoeddpbmclckaa
open Go.ChangeShapes Go.WideShapes Go.ChangeAt Go.RowKit Go.Deep

def CutPost (R : Act → World → Prop) (Q : Exit → Act → World → Prop) : Exit → Act → World → Prop
  | .normal, a, w => R a w
  | .exit i, a, w => Q (.exit i) a w
  | .goto l, a, w => Q (.goto l) a w
  | .ret, a, w => Q .ret a w
  | .panic c, a, w => Q (.panic c) a w
  | .outgrown, a, w => Q .outgrown a w

theorem CutPost.normal {R : Act → World → Prop} {Q : Exit → Act → World → Prop} {a : Act} {w : World} (h : R a w) : CutPost R Q .normal a w := h

theorem upon_cut {P : Program} {o : Oper} {a : Act} {R K : Act → World → Prop} {Q : Exit → Act → World → Prop} {r : Result Next} (h : o.upon P a K (CutPost R Q) r) : o.upon P a K Q r := by
  cases r with
  | ok n w' =>
    cases n <;> simp only [Oper.upon] at h ⊢ <;>
      first
        | exact h
        | exact Calls.mono h (fun e w'' he => by cases e <;> exact he)
  | halt x w' => cases x <;> simp only [Oper.upon] at h ⊢ <;> exact h

theorem wpList_cut {P : Program} {ops : Array Oper} {Q : Exit → Act → World → Prop} {R : Act → World → Prop} (l2 : List Oper) (h2 : ∀ a w, R a w → wpList P ops Q l2 a w) : ∀ (l1 : List Oper) (a : Act) (w : World), wpList P ops (CutPost R Q) l1 a w → wpList P ops Q (l1 ++ l2) a w
  | [], a, w, h1 => h2 a w h1
  | o :: l1, a, w, h1 => by
    rw [List.cons_append]
    unfold wpList at h1 ⊢
    split
    · rename_i hw
      rw [if_pos hw] at h1
      rcases h1 with h1 | ⟨h3, h4⟩
      · refine .inl (Oper.wp_mono (fun a w h => wpList_cut l2 h2 l1 a w h) ?_)
        unfold Oper.wp at h1 ⊢
        exact upon_cut h1
      · exact .inr ⟨h3, h4⟩
    · rename_i hw
      rw [if_neg hw] at h1
      exact wpList_cut l2 h2 l1 _ _ h1

theorem wpList_cutAt {P : Program} {ops : Array Oper} {Q : Exit → Act → World → Prop} {l : List Oper} {a : Act} {w : World} (n : Nat) (R : Act → World → Prop) (h1 : wpList P ops (CutPost R Q) (l.take n) a w) (h2 : ∀ a w, R a w → wpList P ops Q (l.drop n) a w) : wpList P ops Q l a w := by
  rw [← List.take_append_drop n l]
  exact wpList_cut _ h2 _ _ _ h1

/-- The like; the relation behind a name: the walk does not look into it. -/
theorem wpList_cutHid {P : Program} {ops : Array Oper} {Q : Exit → Act → World → Prop} {l : List Oper} {a : Act} {w : World} (n : Nat) (R : Act → World → Prop)
    (h1 : ∀ K : Act → World → Prop, (∀ a w, R a w → K a w) → wpList P ops (CutPost K Q) (l.take n) a w) (h2 : ∀ a w, R a w → wpList P ops Q (l.drop n) a w) : wpList P ops Q l a w :=
  wpList_cutAt n R (h1 R fun _ _ h => h) h2

/-- Slots of which nothing is to be known. -/
theorem junk {F : (Nat → Value) → Act} {a : Act} (h : a = F (fun n => a.tmps.getD n undef)) : ∃ f, a = F f := ⟨_, h⟩

theorem tr_and {t x : Bool} (h : x = t) : Hid (t = (true && x)) := by show t = (true && x); rw [Bool.true_and, h]
theorem tr_one {t x : Bool} (h : x = t) : Hid (t = x) := h.symm
theorem fl_and {x : Bool} : Hid (false = (false && x)) := by show false = (false && x); rw [Bool.false_and]
theorem no_left {p a b : Bool} (h : a = false) : Hid (false = (p && (a && b))) := by show _ = _; rw [h, Bool.false_and, Bool.and_false]
theorem no_right {p a b : Bool} (h : b = false) : Hid (false = (p && (a && b))) := by show _ = _; rw [h, Bool.and_false, Bool.and_false]
theorem both_and {p a b : Bool} (hp : p = true) (h : a = true) (h2 : b = true) : Hid (true = (p && (a && b))) := by show _ = _; rw [hp, h, h2]; rfl
theorem or_no {t x : Bool} (h : x = t) : Hid (t = (true && (false || x))) := by show t = _; rw [h, Bool.false_or, Bool.true_and]
theorem or_no1 {t x : Bool} (h : x = t) : Hid (t = (false || x)) := by show t = _; rw [h, Bool.false_or]
theorem or_yes {x : Bool} : Hid (true = (true && (true || x))) := by show true = _; rw [Bool.true_or, Bool.true_and]
theorem or_yes1 {x : Bool} : Hid (true = (true || x)) := by show true = _; rw [Bool.true_or]
theorem no_left1 {a b : Bool} (h : a = false) : Hid (false = (a && b)) := by show _ = _; rw [h, Bool.false_and]
theorem no_right1 {a b : Bool} (h : b = false) : Hid (false = (a && b)) := by show _ = _; rw [h, Bool.and_false]
end Go.Proofs.Ytmoeddpbmclckaa
