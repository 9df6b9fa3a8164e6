/- Chapter 35 by definition, in plain words: insertion, who goes, how many are lost. No condition. -/
import Derived.ChangeShapes
namespace Go.Proofs.Ytpbppgfogepjeaa
open Go.ChangeShapes

section ins
variable {α : Type} (lt : α → α → Bool)
def insAt (o : α) : List α → List α
  | [] => [o]
  | x :: l => if lt x o then x :: insAt o l else o :: x :: l
theorem insAt_at (o : α) : ∀ (l : List α) (j : Nat), (∀ x ∈ l.take j, lt x o = true) → (∀ x, l[j]? = some x → lt x o = false) → j ≤ l.length → l.take j ++ o :: l.drop j = insAt lt o l
  | [], j, _, _, h => by simp at h; subst h; rfl
  | x :: l, 0, _, h2, _ => by
    unfold insAt
    rw [if_neg (by simpa using h2 x rfl)]
    rfl
  | x :: l, j + 1, h1, h2, h3 => by
    unfold insAt
    rw [if_pos (h1 x (by simp)), ← insAt_at o l j (fun y hy => h1 y (by simp [hy])) (fun y hy => h2 y (by simpa using hy)) (by simpa using h3)]
    rfl
theorem insAt_perm (o : α) : ∀ l : List α, (insAt lt o l).Perm (o :: l)
  | [] => List.Perm.refl _
  | x :: l => by
    unfold insAt
    split
    · exact ((insAt_perm o l).cons x).trans (List.Perm.swap o x l)
    · exact List.Perm.refl _
theorem insAt_pw (htr : ∀ a b c, lt a b = true → lt b c = true → lt a c = true) (o : α) : ∀ l : List α, l.Pairwise (fun a b => lt a b = true) → (∀ x ∈ l, lt x o = false → lt o x = true) → (insAt lt o l).Pairwise (fun a b => lt a b = true)
  | [], _, _ => by simp [insAt]
  | x :: l, h, ht => by
    unfold insAt
    have h' := List.pairwise_cons.1 h
    split
    · rename_i hx
      refine List.pairwise_cons.2 ⟨fun y hy => ?_, insAt_pw htr o l h'.2 fun y hy => ht y (by simp [hy])⟩
      rcases List.mem_cons.1 ((insAt_perm lt o l).mem_iff.1 hy) with rfl | hy
      · exact hx
      · exact h'.1 y hy
    · rename_i hx
      have hox := ht x (by simp) (by simpa using hx)
      refine List.pairwise_cons.2 ⟨fun y hy => ?_, h⟩
      rcases List.mem_cons.1 hy with rfl | hy
      · exact hox
      · exact htr _ _ _ hox (h'.1 y hy)
theorem insAll_spec (htr : ∀ a b c, lt a b = true → lt b c = true → lt a c = true) : ∀ (L acc : List α), acc.Pairwise (fun a b => lt a b = true) → L.Pairwise (fun a b => lt a b = true ∨ lt b a = true) → (∀ a ∈ acc, ∀ b ∈ L, lt a b = true ∨ lt b a = true) →
    (L.foldl (fun s o => insAt lt o s) acc).Pairwise (fun a b => lt a b = true) ∧ (L.foldl (fun s o => insAt lt o s) acc).Perm (L ++ acc)
  | [], acc, h, _, _ => ⟨h, List.Perm.refl _⟩
  | o :: L, acc, h, hL, ha => by
    rw [List.foldl_cons]
    have hL' := List.pairwise_cons.1 hL
    have := insAll_spec htr L (insAt lt o acc) (insAt_pw lt htr o acc h fun x hx hf => (ha x hx o (by simp)).resolve_left (by rw [hf]; simp)) hL'.2 (fun a h1 b hb => by
      rcases List.mem_cons.1 ((insAt_perm lt o acc).mem_iff.1 h1) with rfl | h1
      · exact hL'.1 b hb
      · exact ha a h1 b (by simp [hb]))
    refine ⟨this.1, this.2.trans ?_⟩
    exact (List.Perm.append_left L (insAt_perm lt o acc)).trans List.perm_middle
theorem sorted_one (hirr : ∀ a b, lt a b = true → lt b a = true → False) {l m : List α} (h1 : l.Pairwise (fun a b => lt a b = true)) (h2 : m.Pairwise (fun a b => lt a b = true)) (hp : l.Perm m) : l = m :=
  List.Perm.eq_of_pairwise (le := fun a b => lt a b = true) (fun a b _ _ h3 h4 => (hirr a b h3 h4).elim) h1 h2 hp
end ins

structure Pv where
  ph : Int
  nm : ByteArray
  fr : Bool
section goes
variable {α : Type} (pv : α → Pv)
def gStep (M : Int) (s : Int × List ByteArray) (o : α) : Int × List ByteArray :=
  if M ≤ s.2.length then s else if (pv o).ph = 2 then (if s.1 ≤ 0 then s else (s.1 - 1, s.2 ++ [(pv o).nm])) else (s.1, s.2 ++ [(pv o).nm])
def oStep (s : Int × List ByteArray) (o : α) : Int × List ByteArray :=
  if (pv o).fr = true then s else if (pv o).ph ≠ 2 ∨ 0 < s.1 then ((if (pv o).ph = 2 then s.1 - 1 else s.1), s.2 ++ [(pv o).nm]) else s
def nStep (s : Int × Int × List ByteArray) (o : α) : Int × Int × List ByteArray :=
  if (pv o).fr = false ∨ s.1 ≤ 0 then s else if (pv o).ph ≠ 2 ∨ 0 < s.2.1 then (s.1 - 1, (if (pv o).ph = 2 then s.2.1 - 1 else s.2.1), s.2.2 ++ [(pv o).nm]) else s
theorem gStep_full {M : Int} {s : Int × List ByteArray} (h : M ≤ s.2.length) : ∀ l : List α, l.foldl (gStep pv M) s = s
  | [] => rfl
  | o :: l => by rw [List.foldl_cons, show gStep pv M s o = s from if_pos h]; exact gStep_full h l
theorem old_goes (M : Int) : ∀ (ys : List α) (s : Int × List ByteArray), s.2.length + ((ys.filter fun o => !(pv o).fr).length : Int) ≤ M → (ys.filter fun o => !(pv o).fr).foldl (gStep pv M) s = ys.foldl (oStep pv) s
  | [], _, _ => rfl
  | o :: ys, s, h => by
    rw [List.foldl_cons, List.filter_cons]
    cases hf : (pv o).fr
    · have hl : ((o :: ys).filter fun o => !(pv o).fr).length = (ys.filter fun o => !(pv o).fr).length + 1 := by simp [hf]
      rw [hl] at h
      have e : gStep pv M s o = oStep pv s o := by
        unfold gStep oStep
        rw [if_neg (by omega)]
        simp only [hf, Bool.false_eq_true, if_false]
        by_cases h2 : (pv o).ph = 2
        · by_cases h3 : s.1 ≤ 0
          · rw [if_pos h2, if_pos h3, if_neg (by rintro (h | h); exact h h2; omega)]
          · rw [if_pos h2, if_neg h3, if_pos (by right; omega), if_pos h2]
        · simp [h2]
      simp only [Bool.not_false, if_true, List.foldl_cons]
      rw [e]
      refine old_goes M ys _ ?_
      have : (oStep pv s o).2.length ≤ s.2.length + 1 := by
        unfold oStep
        repeat' split
        all_goals simp
      omega
    · have hl : ((o :: ys).filter fun o => !(pv o).fr).length = (ys.filter fun o => !(pv o).fr).length := by simp [hf]
      rw [hl] at h
      have e : oStep pv s o = s := by unfold oStep; rw [if_pos hf]
      rw [e]
      simp only [Bool.not_true, Bool.false_eq_true, if_false]
      exact old_goes M ys s h
theorem new_goes (M left0 : Int) (hM : M = max left0 0) (out0 : List ByteArray) : ∀ (ys : List α) (sp : Int) (out : List ByteArray),
    ys.foldl (nStep pv) (left0 - out.length, sp, out0 ++ out) = (left0 - ((ys.filter fun o => (pv o).fr).foldl (gStep pv M) (sp, out)).2.length, ((ys.filter fun o => (pv o).fr).foldl (gStep pv M) (sp, out)).1, out0 ++ ((ys.filter fun o => (pv o).fr).foldl (gStep pv M) (sp, out)).2)
  | [], _, _ => rfl
  | o :: ys, sp, out => by
    rw [List.foldl_cons, List.filter_cons]
    cases hf : (pv o).fr
    · have e : nStep pv (left0 - out.length, sp, out0 ++ out) o = (left0 - out.length, sp, out0 ++ out) := by unfold nStep; rw [if_pos (.inl hf)]
      rw [e]
      simp only [Bool.false_eq_true, if_false]
      exact new_goes M left0 hM out0 ys sp out
    · simp only [if_true, List.foldl_cons]
      by_cases hl : left0 - out.length ≤ 0
      · have e : nStep pv (left0 - out.length, sp, out0 ++ out) o = (left0 - out.length, sp, out0 ++ out) := by unfold nStep; rw [if_pos (.inr hl)]
        have e2 : gStep pv M (sp, out) o = (sp, out) := by unfold gStep; rw [if_pos (by show M ≤ (out.length : Int); omega)]
        rw [e, e2]
        exact new_goes M left0 hM out0 ys sp out
      · by_cases h2 : (pv o).ph = 2
        · by_cases h3 : sp ≤ 0
          · have e : nStep pv (left0 - out.length, sp, out0 ++ out) o = (left0 - out.length, sp, out0 ++ out) := by
              unfold nStep
              rw [if_neg (by rw [hf]; simp; omega), if_neg (by simp [h2]; omega)]
            have e2 : gStep pv M (sp, out) o = (sp, out) := by
              unfold gStep
              rw [if_neg (by show ¬ M ≤ (out.length : Int); omega), if_pos h2, if_pos h3]
            rw [e, e2]
            exact new_goes M left0 hM out0 ys sp out
          · have e : nStep pv (left0 - out.length, sp, out0 ++ out) o = (left0 - (out ++ [(pv o).nm]).length, sp - 1, out0 ++ (out ++ [(pv o).nm])) := by
              unfold nStep
              rw [if_neg (by rw [hf]; simp; omega), if_pos (by right; show 0 < sp; omega), if_pos h2]
              simp
              omega
            have e2 : gStep pv M (sp, out) o = (sp - 1, out ++ [(pv o).nm]) := by
              unfold gStep
              rw [if_neg (by show ¬ M ≤ (out.length : Int); omega), if_pos h2, if_neg h3]
            rw [e, e2]
            exact new_goes M left0 hM out0 ys (sp - 1) (out ++ [(pv o).nm])
        · have e : nStep pv (left0 - out.length, sp, out0 ++ out) o = (left0 - (out ++ [(pv o).nm]).length, sp, out0 ++ (out ++ [(pv o).nm])) := by
            unfold nStep
            rw [if_neg (by rw [hf]; simp; omega), if_pos (.inl h2), if_neg h2]
            simp
            omega
          have e2 : gStep pv M (sp, out) o = (sp, out ++ [(pv o).nm]) := by
            unfold gStep
            rw [if_neg (by show ¬ M ≤ (out.length : Int); omega), if_neg h2]
          rw [e, e2]
          exact new_goes M left0 hM out0 ys sp (out ++ [(pv o).nm])

def rdy (l : List α) : Int := ((l.filter fun o => (pv o).ph == 2).length : Int)
theorem rdy_split (ys : List α) : rdy pv (ys.filter fun o => !(pv o).fr) + rdy pv (ys.filter fun o => (pv o).fr) = rdy pv ys := by
  unfold rdy
  induction ys with
  | nil => rfl
  | cons o ys ih =>
    simp only [List.filter_cons]
    cases (pv o).fr <;> cases h : ((pv o).ph == 2) <;> simp [h] <;> simp at ih <;> omega
theorem len_split (ys : List α) : ((ys.filter fun o => !(pv o).fr).length : Int) + ((ys.filter fun o => (pv o).fr).length : Int) = ys.length := by
  induction ys with
  | nil => rfl
  | cons o ys ih =>
    simp only [List.filter_cons]
    cases (pv o).fr <;> simp <;> omega
theorem rdy_perm {l m : List α} (h : l.Perm m) : rdy pv l = rdy pv m := by
  unfold rdy
  rw [(h.filter _).length_eq]

structure StepV where
  create : Int
  names : List ByteArray
  done : Bool
def stepI (n surge away : Int) (old new : List α) : StepV :=
  let g1 := old.foldl (gStep pv old.length) (rdy pv old + rdy pv new - max (n - away) 0, [])
  let g2 := new.foldl (gStep pv (max ((new.length : Int) - n) 0)) (g1.1, [])
  ⟨max 0 (min (n - new.length) (n + surge - old.length - new.length)), g1.2 ++ g2.2, ((old.length : Int) == 0) && ((new.length : Int) == n) && (rdy pv new == n)⟩
def stepL (n surge away : Int) (ys : List α) (old now ready readyNew : Int) : StepV :=
  let c1 := if n + surge - old - now < n - now then n + surge - old - now else n - now
  let c2 := if c1 < 0 then 0 else c1
  let must := if n - away < 0 then 0 else n - away
  let s1 := ys.foldl (oStep pv) (ready - must, [])
  let s2 := ys.foldl (nStep pv) (now - n, s1.1, s1.2)
  ⟨c2, s2.2.2, (old == 0) && (now == n) && (readyNew == n)⟩
theorem step_eq (n surge away : Int) (ys : List α) : stepI pv n surge away (ys.filter fun o => !(pv o).fr) (ys.filter fun o => (pv o).fr) =
    stepL pv n surge away ys (ys.filter fun o => !(pv o).fr).length (ys.filter fun o => (pv o).fr).length (rdy pv ys) (rdy pv (ys.filter fun o => (pv o).fr)) := by
  unfold stepI stepL
  dsimp only
  rw [rdy_split]
  have hm : max (n - away) 0 = if n - away < 0 then 0 else n - away := by
    split <;> omega
  rw [hm]
  have h1 := old_goes pv ((ys.filter fun o => !(pv o).fr).length) ys (rdy pv ys - (if n - away < 0 then 0 else n - away), []) (by simp)
  rw [h1]
  obtain ⟨s1, hs1⟩ : ∃ s1, ys.foldl (oStep pv) (rdy pv ys - (if n - away < 0 then 0 else n - away), []) = s1 := ⟨_, rfl⟩
  rw [hs1]
  have h2 := new_goes pv (max (((ys.filter fun o => (pv o).fr).length : Int) - n) 0) (((ys.filter fun o => (pv o).fr).length : Int) - n) rfl s1.2 ys s1.1 []
  simp only [List.length_nil, List.append_nil] at h2
  have e0 : (((ys.filter fun o => (pv o).fr).length : Int) - n) - ((0 : Nat) : Int) = ((ys.filter fun o => (pv o).fr).length : Int) - n := by omega
  rw [e0] at h2
  rw [h2]
  congr 1
  omega

open Classical in
noncomputable def lostN (L : List α) (R : List ByteArray) : Int := ((L.filter fun o => decide ((pv o).ph = 2 ∧ (pv o).nm ∈ R)).length : Int)
open Classical in
theorem lost_le (L : List α) (R : List ByteArray) : lostN pv L R ≤ rdy pv L := by
  unfold lostN rdy
  have : (L.filter fun o => decide ((pv o).ph = 2 ∧ (pv o).nm ∈ R)) = (L.filter fun o => (pv o).ph == 2).filter fun o => decide ((pv o).nm ∈ R) := by
    rw [List.filter_filter]
    congr 1
    funext o
    by_cases h : (pv o).ph = 2 <;> simp [h]
  rw [this]
  exact Int.ofNat_le.2 (List.length_filter_le _ _)
theorem lost_nil (L : List α) : lostN pv L [] = 0 := by
  unfold lostN
  simp
theorem cons_len (p : α → Bool) (x : α) (L : List α) : ((x :: L).filter p).length = (if p x then 1 else 0) + (L.filter p).length := by
  rw [List.filter_cons]
  split <;> simp <;> omega
open Classical in
theorem lost_more : ∀ (L : List α) (R : List ByteArray) (o : α), L.Pairwise (fun a b => (pv a).nm ≠ (pv b).nm) → (∀ x ∈ L, (pv x).nm = (pv o).nm → x = o) → lostN pv L (R ++ [(pv o).nm]) ≤ lostN pv L R + (if (pv o).ph = 2 then 1 else 0)
  | [], _, _, _, _ => by unfold lostN; simp; split <;> omega
  | x :: L, R, o, hp, ho => by
    have hp' := List.pairwise_cons.1 hp
    by_cases hx : (pv x).nm = (pv o).nm
    · have hxo := ho x (by simp) hx
      subst hxo
      have e : lostN pv L (R ++ [(pv x).nm]) = lostN pv L R := by
        unfold lostN
        congr 2
        apply List.filter_congr
        intro y hy
        have : (pv y).nm ≠ (pv x).nm := fun h => hp'.1 y hy h.symm
        simp [this]
      unfold lostN at e ⊢
      rw [cons_len, cons_len, Int.natCast_add, Int.natCast_add, e]
      clear e
      by_cases h2 : (pv x).ph = 2
      · by_cases h3 : (pv x).nm ∈ R <;> simp [h2, h3] <;> omega
      · simp [h2]
    · have ih := lost_more L R o hp'.2 fun y hy => ho y (by simp [hy])
      unfold lostN at ih ⊢
      rw [cons_len, cons_len, Int.natCast_add, Int.natCast_add]
      generalize ((L.filter fun q => decide ((pv q).ph = 2 ∧ (pv q).nm ∈ R ++ [(pv o).nm])).length : Int) = A at ih ⊢
      generalize ((L.filter fun q => decide ((pv q).ph = 2 ∧ (pv q).nm ∈ R)).length : Int) = B at ih ⊢
      by_cases h2 : (pv x).ph = 2
      · by_cases h3 : (pv x).nm ∈ R <;> simp [h2, h3, hx] <;> omega
      · simp [h2]
        omega
structure LostOk (L : List α) (sp0 : Int) (sp : Int) (R : List ByteArray) : Prop where
  le : lostN pv L R + sp ≤ sp0
  low : min sp0 0 ≤ sp
theorem LostOk.start (L : List α) (sp0 : Int) : LostOk pv L sp0 sp0 [] := ⟨by rw [lost_nil]; omega, by omega⟩
theorem LostOk.more {L : List α} {sp0 sp : Int} {R : List ByteArray} (h : LostOk pv L sp0 sp R) (o : α) (hp : L.Pairwise (fun a b => (pv a).nm ≠ (pv b).nm)) (ho : ∀ x ∈ L, (pv x).nm = (pv o).nm → x = o) (hs : (pv o).ph ≠ 2 ∨ 0 < sp) :
    LostOk pv L sp0 (if (pv o).ph = 2 then sp - 1 else sp) (R ++ [(pv o).nm]) := by
  have := lost_more pv L R o hp ho
  have h1 := h.le
  have h2 := h.low
  by_cases h3 : (pv o).ph = 2
  · rw [if_pos h3] at this ⊢
    have := hs.resolve_left (fun h => h h3)
    exact ⟨by omega, by omega⟩
  · rw [if_neg h3] at this ⊢
    exact ⟨by omega, h2⟩
theorem lost_old {L : List α} (hp : L.Pairwise (fun a b => (pv a).nm ≠ (pv b).nm)) (hu : ∀ x ∈ L, ∀ y ∈ L, (pv x).nm = (pv y).nm → x = y) (sp0 : Int) : ∀ (ys : List α), (∀ y ∈ ys, y ∈ L) → ∀ s : Int × List ByteArray, LostOk pv L sp0 s.1 s.2 →
    LostOk pv L sp0 (ys.foldl (oStep pv) s).1 (ys.foldl (oStep pv) s).2
  | [], _, _, h => h
  | o :: ys, hy, s, h => by
    rw [List.foldl_cons]
    refine lost_old hp hu sp0 ys (fun y h => hy y (by simp [h])) _ ?_
    unfold oStep
    split
    · exact h
    · split
      · rename_i hs
        exact h.more pv o hp (fun x hx he => hu x hx o (hy o (by simp)) he) hs
      · exact h
theorem lost_new {L : List α} (hp : L.Pairwise (fun a b => (pv a).nm ≠ (pv b).nm)) (hu : ∀ x ∈ L, ∀ y ∈ L, (pv x).nm = (pv y).nm → x = y) (sp0 : Int) : ∀ (ys : List α), (∀ y ∈ ys, y ∈ L) → ∀ s : Int × Int × List ByteArray, LostOk pv L sp0 s.2.1 s.2.2 →
    LostOk pv L sp0 (ys.foldl (nStep pv) s).2.1 (ys.foldl (nStep pv) s).2.2
  | [], _, _, h => h
  | o :: ys, hy, s, h => by
    rw [List.foldl_cons]
    refine lost_new hp hu sp0 ys (fun y h => hy y (by simp [h])) _ ?_
    unfold nStep
    split
    · exact h
    · split
      · rename_i hs
        exact h.more pv o hp (fun x hx he => hu x hx o (hy o (by simp)) he) hs
      · exact h
theorem step_says (n surge away : Int) (L ys : List α) (hp : L.Pairwise (fun a b => (pv a).nm ≠ (pv b).nm)) (hu : ∀ x ∈ L, ∀ y ∈ L, (pv x).nm = (pv y).nm → x = y) (hy : ys.Perm L) (old now rn : Int) (hon : old + now = L.length) :
    let s := stepL pv n surge away ys old now (rdy pv L) rn
    ((L.length : Int) ≤ n + surge → (L.length : Int) + s.create ≤ n + surge) ∧ (rdy pv L < n - away ∨ n - away ≤ rdy pv L - lostN pv L s.names) := by
  refine ⟨fun h => ?_, ?_⟩
  · unfold stepL
    dsimp only
    repeat' split
    all_goals omega
  · have hm : ∀ y ∈ ys, y ∈ L := fun y h => hy.mem_iff.1 h
    have a := lost_old pv hp hu (rdy pv L - (if n - away < 0 then 0 else n - away)) ys hm (rdy pv L - (if n - away < 0 then 0 else n - away), []) (LostOk.start pv L _)
    have b := lost_new pv hp hu _ ys hm (now - n, (ys.foldl (oStep pv) (rdy pv L - (if n - away < 0 then 0 else n - away), [])).1, (ys.foldl (oStep pv) (rdy pv L - (if n - away < 0 then 0 else n - away), [])).2) a
    have c := lost_le pv L (stepL pv n surge away ys old now (rdy pv L) rn).names
    have d1 := b.le
    have d2 := b.low
    have e : (stepL pv n surge away ys old now (rdy pv L) rn).names = (ys.foldl (nStep pv) (now - n, (ys.foldl (oStep pv) (rdy pv L - (if n - away < 0 then 0 else n - away), [])).1, (ys.foldl (oStep pv) (rdy pv L - (if n - away < 0 then 0 else n - away), [])).2)).2.2 := rfl
    rw [e] at c ⊢
    generalize lostN pv L _ = z at *
    generalize (ys.foldl (nStep pv) _).2.1 = q at *
    clear e a b hm
    split at d1 <;> omega
end goes
end Go.Proofs.Ytpbppgfogepjeaa
