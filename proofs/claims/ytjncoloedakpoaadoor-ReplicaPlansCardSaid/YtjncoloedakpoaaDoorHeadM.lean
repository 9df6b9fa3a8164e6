/- A statement that lays five variables out of five fields, whose order Go leaves open: what lies behind it. Conditions are of the operations alone. || A row of operations parted in two: the first ones' ends meet in one relation. No condition. || A region whose last operations wait for all the others: the others alone, then these. No condition. -/
import Derived.Test.YtjncoloedakpoaaDoorFrame
import Derived.StillTail
import Derived.Test.YtjncoloedakpoaaDoorBase
import Derived.Orders
import Derived.Deep.Quiet
namespace Go.Proofs.YtjncoloedakpoaaDoor
open Go.ChangeShapes Go.WideShapes Go.ChangeAt Go.RowKit Go.Deep

def puts (a : Act) (u : List (Nat × Value)) : Act := u.foldl (fun a p => a.put (some p.1) p.2) a

theorem puts_eq : ∀ (u : List (Nat × Value)) (a a' : Act), a'.defers = a.defers → a'.tmps.size = a.tmps.size → (∀ p ∈ u, a'.tmps[p.1]? = some p.2) → (∀ t, (∀ p ∈ u, t ≠ p.1) → a'.tmps[t]? = a.tmps[t]?) → a' = puts a u
  | [], a, a', h1, _, _, h4 => by
    obtain ⟨x, d⟩ := a
    obtain ⟨x', d'⟩ := a'
    simp only at h1
    subst h1
    simp only [puts, List.foldl_nil, Act.mk.injEq, and_true]
    exact Array.ext_getElem? fun t => h4 t (fun p hp => by cases hp)
  | (d, v) :: u, a, a', h1, h2, h3, h4 => by
    have hv := h3 (d, v) (List.mem_cons_self ..)
    have hd : d < a'.tmps.size := (Array.getElem?_eq_some_iff.1 hv).1
    have := puts_eq u (a.put (some d) v) a' (by simpa [Act.put] using h1) (by simpa [Act.put] using h2) (fun p hp => h3 p (List.mem_cons_of_mem _ hp)) (fun t ht => by
      simp only [Act.put, Array.getElem?_setIfInBounds]
      by_cases e : d = t
      · subst e
        rw [if_pos rfl, if_pos (by omega), hv]
      · rw [if_neg e]
        exact h4 t (fun p hp => by
          rcases List.mem_cons.1 hp with rfl | hp
          · exact fun e' => e e'.symm
          · exact ht p hp))
    rw [this]
    rfl

theorem wpAny_inv {P : Program} {md : Region.Mode} {ops : Array Oper} {Q : Exit → Act → World → Prop} (Inv : Array Bool → Act → World → Prop)
    (hsz : ∀ l a w, Inv l a w → l.size = ops.size)
    (hord : ∀ i o, ops[i]? = some o → ∀ e ∈ o.after, Region.binds md e = true → e.on < i)
    (hstep : ∀ l a w i, Inv l a w → i ∈ Region.ready md ops l → wpOp P ops Q i (Inv (l.setIfInBounds i true)) a w)
    (hend : ∀ l a w, Inv l a w → (∀ i, i < ops.size → l.getD i false = true) → Q .normal a w) :
    ∀ (fuel : Nat) (l : Array Bool) (a : Act) (w : World), (∀ s : Nat, (∀ i, i < s → l.getD i false = true) → True) → ((List.range ops.size).countP (fun i => !l.getD i false)) ≤ fuel → Inv l a w → wpAny P md ops Q fuel l a w := by
  have hall : ∀ l : Array Bool, Region.ready md ops l = [] → l.size = ops.size → ∀ i, i < ops.size → l.getD i false = true := by
    intro l hr hs i
    induction i using Nat.strongRecOn with
    | _ i ih =>
      intro hi
      cases hl : l.getD i false with
      | true => rfl
      | false =>
        have hmem : i ∈ Region.ready md ops l := by
          rw [mem_ready]
          refine ⟨?_, ops[i], Array.getElem?_eq_getElem hi, fun e he hb => ?_⟩
          · have : i < l.size := by omega
            simp [this] at hl ⊢
            exact hl
          · have := hord i _ (Array.getElem?_eq_getElem hi) e he hb
            exact ih e.on this (by omega)
        rw [hr] at hmem
        cases hmem
  intro fuel
  induction fuel with
  | zero =>
    intro l a w _ hc hI
    have hs := hsz l a w hI
    have h0 : ∀ i, i < ops.size → l.getD i false = true := by
      intro i hi
      have := List.countP_eq_zero.1 (Nat.le_zero.1 hc) i (List.mem_range.2 hi)
      simpa using this
    refine ⟨?_, hend l a w hI h0⟩
    rw [List.eq_nil_iff_forall_not_mem]
    intro i hi
    obtain ⟨h1, o, ho, _⟩ := mem_ready.1 hi
    have hlt := (Array.getElem?_eq_some_iff.1 ho).1
    have h2 := h0 i hlt
    have h3 : i < l.size := by omega
    simp [h3] at h1 h2
    rw [h1] at h2
    cases h2
  | succ fuel ih =>
    intro l a w _ hc hI
    have hs := hsz l a w hI
    refine ⟨fun hr => hend l a w hI (hall l hr hs), fun i hi => ?_⟩
    refine wpOp_mono (fun a' w' h => ih _ a' w' (fun _ _ => trivial) ?_ h) (hstep l a w i hI hi)
    obtain ⟨h1, o, ho, _⟩ := mem_ready.1 hi
    have hlt := (Array.getElem?_eq_some_iff.1 ho).1
    have hls : i < l.size := by omega
    have hli : l.getD i false = false := by simp [hls] at h1 ⊢; exact h1
    have key : (List.range ops.size).countP (fun j => !(l.setIfInBounds i true).getD j false) < (List.range ops.size).countP (fun j => !l.getD j false) := by
      have hmem : i ∈ List.range ops.size := List.mem_range.2 hlt
      obtain ⟨s, t, hst⟩ := List.append_of_mem hmem
      have hle : ∀ m : List Nat, m.countP (fun j => !(l.setIfInBounds i true).getD j false) ≤ m.countP (fun j => !l.getD j false) := fun m => List.countP_mono_left fun j _ hj => by
        by_cases e : i = j
        · subst e
          rw [hli]; rfl
        · rw [getD_set_ne false e] at hj
          exact hj
      rw [hst, List.countP_append, List.countP_append, List.countP_cons, List.countP_cons]
      have h5 := hle s
      have h6 := hle t
      have h7 : (l.setIfInBounds i true).getD i false = true := by simp [hls]
      simp only [h7, hli, Bool.not_true, Bool.not_false, if_true]
      simp only [Bool.false_eq_true, if_false]
      omega
    omega
end Go.Proofs.YtjncoloedakpoaaDoor
namespace Go.Proofs.YtjncoloedakpoaaDoor
open Go.ChangeShapes Go.WideShapes Go.ChangeAt Go.RowKit Go.Deep

def CutPost (R : Act → World → Prop) (Q : Exit → Act → World → Prop) : Exit → Act → World → Prop
  | .normal, a, w => R a w
  | .exit i, a, w => Q (.exit i) a w
  | .goto l, a, w => Q (.goto l) a w
  | .ret, a, w => Q .ret a w
  | .panic c, a, w => Q (.panic c) a w
  | .outgrown, a, w => Q .outgrown a w

theorem CutPost.normal {R : Act → World → Prop} {Q : Exit → Act → World → Prop} {a : Act} {w : World} (h : R a w) : CutPost R Q .normal a w := h

theorem upon_cut {P : Program} {o : Oper} {a : Act} {R K : Act → World → Prop} {Q : Exit → Act → World → Prop} {r : Result Next} (h : o.upon P a K (CutPost R Q) r) : o.upon P a K Q r := by
  cases r with
  | ok n w' =>
    cases n <;> simp only [Oper.upon] at h ⊢ <;>
      first
        | exact h
        | exact Calls.mono h (fun e w'' he => by cases e <;> exact he)
  | halt x w' => cases x <;> simp only [Oper.upon] at h ⊢ <;> exact h

theorem wpList_cut {P : Program} {ops : Array Oper} {Q : Exit → Act → World → Prop} {R : Act → World → Prop} (l2 : List Oper) (h2 : ∀ a w, R a w → wpList P ops Q l2 a w) : ∀ (l1 : List Oper) (a : Act) (w : World), wpList P ops (CutPost R Q) l1 a w → wpList P ops Q (l1 ++ l2) a w
  | [], a, w, h1 => h2 a w h1
  | o :: l1, a, w, h1 => by
    rw [List.cons_append]
    unfold wpList at h1 ⊢
    split
    · rename_i hw
      rw [if_pos hw] at h1
      rcases h1 with h1 | ⟨h3, h4⟩
      · refine .inl (Oper.wp_mono (fun a w h => wpList_cut l2 h2 l1 a w h) ?_)
        unfold Oper.wp at h1 ⊢
        exact upon_cut h1
      · exact .inr ⟨h3, h4⟩
    · rename_i hw
      rw [if_neg hw] at h1
      exact wpList_cut l2 h2 l1 _ _ h1

theorem wpList_cutAt {P : Program} {ops : Array Oper} {Q : Exit → Act → World → Prop} {l : List Oper} {a : Act} {w : World} (n : Nat) (R : Act → World → Prop) (h1 : wpList P ops (CutPost R Q) (l.take n) a w) (h2 : ∀ a w, R a w → wpList P ops Q (l.drop n) a w) : wpList P ops Q l a w := by
  rw [← List.take_append_drop n l]
  exact wpList_cut _ h2 _ _ _ h1

theorem wpList_cutHid {P : Program} {ops : Array Oper} {Q : Exit → Act → World → Prop} {l : List Oper} {a : Act} {w : World} (n : Nat) (R : Act → World → Prop)
    (h1 : ∀ K : Act → World → Prop, (∀ a w, R a w → K a w) → wpList P ops (CutPost K Q) (l.take n) a w) (h2 : ∀ a w, R a w → wpList P ops Q (l.drop n) a w) : wpList P ops Q l a w :=
  wpList_cutAt n R (h1 R fun _ _ h => h) h2

theorem tr_and {t x : Bool} (h : x = t) : Hid (t = (true && x)) := by show t = (true && x); rw [Bool.true_and, h]
theorem tr_one {t x : Bool} (h : x = t) : Hid (t = x) := h.symm
theorem fl_and {x : Bool} : Hid (false = (false && x)) := by show false = (false && x); rw [Bool.false_and]
theorem no_left {p a b : Bool} (h : a = false) : Hid (false = (p && (a && b))) := by show _ = _; rw [h, Bool.false_and, Bool.and_false]
theorem no_right {p a b : Bool} (h : b = false) : Hid (false = (p && (a && b))) := by show _ = _; rw [h, Bool.and_false, Bool.and_false]
theorem or_no {t x : Bool} (h : x = t) : Hid (t = (true && (false || x))) := by show t = _; rw [h, Bool.false_or, Bool.true_and]
theorem or_no1 {t x : Bool} (h : x = t) : Hid (t = (false || x)) := by show t = _; rw [h, Bool.false_or]
theorem or_yes {x : Bool} : Hid (true = (true && (true || x))) := by show true = _; rw [Bool.true_or, Bool.true_and]
theorem or_yes1 {x : Bool} : Hid (true = (true || x)) := by show true = _; rw [Bool.true_or]
end Go.Proofs.YtjncoloedakpoaaDoor
namespace Go.Proofs.YtjncoloedakpoaaDoor
open Go.ChangeShapes Go.WideShapes Go.ChangeAt Go.RowKit Go.Deep

theorem wpOp_head {P : Program} {ops opsH : Array Oper} {Q : Exit → Act → World → Prop} {R : Act → World → Prop} {i : Nat} {K K' : Act → World → Prop} {a : Act} {w : World} (hop : ops[i]? = opsH[i]?)
    (hw : ∀ o, opsH[i]? = some o → Region.wanted o (yielded ops a.tmps) = Region.wanted o (yielded opsH a.tmps)) (hK : ∀ a w, K a w → K' a w) (h : wpOp P opsH (CutPost R Q) i K a w) : wpOp P ops Q i K' a w := by
  unfold wpOp at h ⊢
  rw [hop]
  cases ho : opsH[i]? with
  | none => simp only [ho] at h ⊢; exact hK _ _ h
  | some o =>
    simp only [ho] at h ⊢
    rw [hw o ho]
    split
    · rename_i hy
      rw [if_pos hy] at h
      rcases h with h | ⟨h1, h2⟩
      · refine .inl (Oper.wp_mono hK ?_)
        unfold Oper.wp at h ⊢
        exact upon_cut h
      · exact .inr ⟨h1, h2⟩
    · rename_i hy
      rw [if_neg hy] at h
      exact hK _ _ h

structure HeadOf (md : Region.Mode) (ops opsH : Array Oper) : Prop where
  le : opsH.size < ops.size
  same : ∀ (i : Nat), i < opsH.size → ops[i]? = opsH[i]?
  ord : ∀ (i : Nat) (o : Oper), opsH[i]? = some o → ∀ e ∈ o.after, Region.binds md e = true → e.on < i
  want : ∀ (i : Nat) (o : Oper) (tmps : Array Value), opsH[i]? = some o → Region.wanted o (yielded ops tmps) = Region.wanted o (yielded opsH tmps)
  sink : Region.sinkB md ops opsH.size = true
  chain : Region.chainB md ops opsH.size = true

theorem head_full {md : Region.Mode} {opsH : Array Oper} {l : Array Bool} (hs : l.size = opsH.size) (hord : ∀ i o, opsH[i]? = some o → ∀ e ∈ o.after, Region.binds md e = true → e.on < i) (hr : Region.ready md opsH l = []) :
    ∀ i, i < opsH.size → l.getD i false = true := by
  intro i
  induction i using Nat.strongRecOn with
  | _ i ih =>
    intro hi
    cases hl : l.getD i false with
    | true => rfl
    | false =>
      have hmem : i ∈ Region.ready md opsH l := by
        rw [mem_ready]
        refine ⟨getD_in (by omega) hl, opsH[i], Array.getElem?_eq_getElem hi, fun e he hb => ?_⟩
        have := hord i _ (Array.getElem?_eq_getElem hi) e he hb
        exact ih e.on this (by omega)
      rw [hr] at hmem
      cases hmem

def Ext (l : Array Bool) (n m : Nat) (L : Array Bool) : Prop := L.size = m ∧ l.size = n ∧ (∀ i, i < n → L.getD i false = l.getD i false) ∧ ∀ i, n ≤ i → i < m → L.getD i true = false

theorem Ext.set {l : Array Bool} {n m : Nat} {L : Array Bool} (h : Ext l n m L) (hnm : n < m) {i : Nat} (hi : i < n) : Ext (l.setIfInBounds i true) n m (L.setIfInBounds i true) := by
  obtain ⟨h1, h2, h3, h4⟩ := h
  refine ⟨by simp [h1], by simp [h2], fun j hj => ?_, fun j hj hm => ?_⟩
  · by_cases e : i = j
    · subst e
      have a1 : i < L.size := by omega
      have a2 : i < l.size := by omega
      simp [a1, a2]
    · rw [getD_set_ne false e, getD_set_ne false e]
      exact h3 j hj
  · rw [getD_set_ne true (by omega)]
    exact h4 j hj hm

theorem wpAny_head {P : Program} {md : Region.Mode} {ops opsH : Array Oper} {Q : Exit → Act → World → Prop} {R : Act → World → Prop} (H : HeadOf md ops opsH) (g : Nat)
    (hend : ∀ L a w, Ext (Array.replicate opsH.size true) opsH.size ops.size L → R a w → wpAny P md ops Q g L a w) :
    ∀ (f : Nat) (l L : Array Bool) (a : Act) (w : World), Ext l opsH.size ops.size L → HeadInv md ops opsH.size L → ((List.range opsH.size).countP (fun i => !l.getD i false)) = f →
      wpAny P md opsH (CutPost R Q) f l a w → wpAny P md ops Q (f + g) L a w := by
  intro f
  induction f with
  | zero =>
    intro l L a w hE _ hc h
    rw [Nat.zero_add]
    refine hend L a w ⟨hE.1, by simp, fun i hi => ?_, hE.2.2.2⟩ h.2
    rw [hE.2.2.1 i hi]
    have := List.countP_eq_zero.1 hc i (List.mem_range.2 hi)
    simp only [Bool.not_eq_true', Bool.not_eq_false] at this
    simp [hi]
    simpa using this
  | succ f ih =>
    intro l L a w hE hI hc h
    obtain ⟨u, hu, hul⟩ : ∃ u, u < opsH.size ∧ l.getD u false = false := by
      have : 0 < (List.range opsH.size).countP (fun i => !l.getD i false) := by omega
      obtain ⟨u, hu, hp⟩ := List.countP_pos_iff.1 this
      exact ⟨u, List.mem_range.1 hu, by simpa using hp⟩
    have huL : L.getD u true = false := getD_in (by rw [hE.1]; have := H.le; omega) (by rw [hE.2.2.1 u hu]; exact hul)
    have hready : ∀ i, i ∈ Region.ready md ops L → i ∈ Region.ready md opsH l := by
      intro i hi
      have hin : i < opsH.size := by
        rcases Nat.lt_or_ge i opsH.size with hlt | hge
        · exact hlt
        · exact absurd hi (tail_waits H.sink H.chain H.le hI _ u rfl hu huL i hge)
      obtain ⟨h1, o, ho, h2⟩ := mem_ready.1 hi
      rw [mem_ready]
      refine ⟨?_, o, by rw [← H.same i hin]; exact ho, fun e he hb => ?_⟩
      · have := getD_both h1
        rw [hE.2.2.1 i hin] at this
        exact getD_in (by rw [hE.2.1]; exact hin) this
      · have hlt := H.ord i o (by rw [← H.same i hin]; exact ho) e he hb
        rw [← hE.2.2.1 e.on (by omega)]
        exact h2 e he hb
    have hne : Region.ready md opsH l ≠ [] := by
      intro h0
      have := head_full hE.2.1 H.ord h0 u hu
      rw [hul] at this
      cases this
    rw [show f + 1 + g = (f + g) + 1 by omega]
    refine ⟨fun h0 => ?_, fun i hi => ?_⟩
    · obtain ⟨j, hj⟩ := List.exists_mem_of_ne_nil _ hne
      obtain ⟨h1, o, ho, h2⟩ := mem_ready.1 hj
      have hjn : j < opsH.size := (Array.getElem?_eq_some_iff.1 ho).1
      have : j ∈ Region.ready md ops L := by
        rw [mem_ready]
        refine ⟨getD_in (by rw [hE.1]; have := H.le; omega) (by rw [hE.2.2.1 j hjn]; exact getD_both h1), o, by rw [H.same j hjn]; exact ho, fun e he hb => ?_⟩
        have hlt := H.ord j o ho e he hb
        rw [hE.2.2.1 e.on (by omega)]
        exact h2 e he hb
      rw [h0] at this
      cases this
    · have hiH := hready i hi
      obtain ⟨h1, o, ho, _⟩ := mem_ready.1 hiH
      have hin : i < opsH.size := (Array.getElem?_eq_some_iff.1 ho).1
      refine wpOp_head (H.same i hin) (fun o ho => H.want i o a.tmps ho) (fun a' w' h' => ih _ _ a' w' (hE.set H.le hin) (hI.set hi hin) ?_ h') (h.2 i hiH)
      have hls : i < l.size := by rw [hE.2.1]; exact hin
      have hli : l.getD i false = false := getD_both h1
      obtain ⟨s, t, hst⟩ := List.append_of_mem (List.mem_range.2 hin)
      have hnd : (List.range opsH.size).Nodup := List.nodup_range
      have heq : ∀ m : List Nat, i ∉ m → m.countP (fun j => !(l.setIfInBounds i true).getD j false) = m.countP (fun j => !l.getD j false) := fun m hm => List.countP_congr fun j hj => by
        have e : i ≠ j := fun e => hm (e ▸ hj)
        rw [getD_set_ne false e]
      rw [hst] at hc hnd ⊢
      rw [List.nodup_append] at hnd
      have n1 : i ∉ s := fun hs => hnd.2.2 i hs i (List.mem_cons_self ..) rfl
      have n2 : i ∉ t := (List.nodup_cons.1 hnd.2.1).1
      rw [List.countP_append, List.countP_cons] at hc ⊢
      have h7 : (l.setIfInBounds i true).getD i false = true := by simp [hls]
      rw [heq s n1, heq t n2]
      simp only [h7, hli, Bool.not_true, Bool.not_false, if_true, Bool.false_eq_true, if_false] at hc ⊢
      omega
end Go.Proofs.YtjncoloedakpoaaDoor
