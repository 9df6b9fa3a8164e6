/- A statement that lays five variables out of five fields, whose order Go leaves open: what lies behind it. Conditions are of the operations alone. || A row of operations parted in two: the first ones' ends meet in one relation. No condition. || A region whose last operations wait for all the others: the others alone, then these. No condition. || A region that draws: its first operations quiet in a class of worlds, in the order of the text; the last ones behind them. No condition. || The like for operations that are written out; a class of worlds: what was there stays. No condition. -/
import Derived.Test.YtoamjihchmokcaaFrame
import Derived.StillTail
import Derived.Test.YtoamjihchmokcaaBase
import Derived.Orders
import Derived.Deep.Quiet
namespace Go.Proofs.Ytoamjihchmokcaa
open Go.ChangeShapes Go.WideShapes Go.ChangeAt Go.RowKit Go.Deep

end Go.Proofs.Ytoamjihchmokcaa
namespace Go.Proofs.Ytoamjihchmokcaa
open Go.ChangeShapes Go.WideShapes Go.ChangeAt Go.RowKit Go.Deep

def CutPost (R : Act → World → Prop) (Q : Exit → Act → World → Prop) : Exit → Act → World → Prop
  | .normal, a, w => R a w
  | .exit i, a, w => Q (.exit i) a w
  | .goto l, a, w => Q (.goto l) a w
  | .ret, a, w => Q .ret a w
  | .panic c, a, w => Q (.panic c) a w
  | .outgrown, a, w => Q .outgrown a w

theorem CutPost.normal {R : Act → World → Prop} {Q : Exit → Act → World → Prop} {a : Act} {w : World} (h : R a w) : CutPost R Q .normal a w := h

theorem upon_cut {P : Program} {o : Oper} {a : Act} {R K : Act → World → Prop} {Q : Exit → Act → World → Prop} {r : Result Next} (h : o.upon P a K (CutPost R Q) r) : o.upon P a K Q r := by
  cases r with
  | ok n w' =>
    cases n <;> simp only [Oper.upon] at h ⊢ <;>
      first
        | exact h
        | exact Calls.mono h (fun e w'' he => by cases e <;> exact he)
  | halt x w' => cases x <;> simp only [Oper.upon] at h ⊢ <;> exact h

end Go.Proofs.Ytoamjihchmokcaa
namespace Go.Proofs.Ytoamjihchmokcaa
open Go.ChangeShapes Go.WideShapes Go.ChangeAt Go.RowKit Go.Deep

theorem wpOp_head {P : Program} {ops opsH : Array Oper} {Q : Exit → Act → World → Prop} {R : Act → World → Prop} {i : Nat} {K K' : Act → World → Prop} {a : Act} {w : World} (hop : ops[i]? = opsH[i]?)
    (hw : ∀ o, opsH[i]? = some o → Region.wanted o (yielded ops a.tmps) = Region.wanted o (yielded opsH a.tmps)) (hK : ∀ a w, K a w → K' a w) (h : wpOp P opsH (CutPost R Q) i K a w) : wpOp P ops Q i K' a w := by
  unfold wpOp at h ⊢
  rw [hop]
  cases ho : opsH[i]? with
  | none => simp only [ho] at h ⊢; exact hK _ _ h
  | some o =>
    simp only [ho] at h ⊢
    rw [hw o ho]
    split
    · rename_i hy
      rw [if_pos hy] at h
      rcases h with h | ⟨h1, h2⟩
      · refine .inl (Oper.wp_mono hK ?_)
        unfold Oper.wp at h ⊢
        exact upon_cut h
      · exact .inr ⟨h1, h2⟩
    · rename_i hy
      rw [if_neg hy] at h
      exact hK _ _ h

structure HeadOf (md : Region.Mode) (ops opsH : Array Oper) : Prop where
  le : opsH.size < ops.size
  same : ∀ (i : Nat), i < opsH.size → ops[i]? = opsH[i]?
  ord : ∀ (i : Nat) (o : Oper), opsH[i]? = some o → ∀ e ∈ o.after, Region.binds md e = true → e.on < i
  want : ∀ (i : Nat) (o : Oper) (tmps : Array Value), opsH[i]? = some o → Region.wanted o (yielded ops tmps) = Region.wanted o (yielded opsH tmps)
  sink : Region.sinkB md ops opsH.size = true
  chain : Region.chainB md ops opsH.size = true

theorem head_full {md : Region.Mode} {opsH : Array Oper} {l : Array Bool} (hs : l.size = opsH.size) (hord : ∀ i o, opsH[i]? = some o → ∀ e ∈ o.after, Region.binds md e = true → e.on < i) (hr : Region.ready md opsH l = []) :
    ∀ i, i < opsH.size → l.getD i false = true := by
  intro i
  induction i using Nat.strongRecOn with
  | _ i ih =>
    intro hi
    cases hl : l.getD i false with
    | true => rfl
    | false =>
      have hmem : i ∈ Region.ready md opsH l := by
        rw [mem_ready]
        refine ⟨getD_in (by omega) hl, opsH[i], Array.getElem?_eq_getElem hi, fun e he hb => ?_⟩
        have := hord i _ (Array.getElem?_eq_getElem hi) e he hb
        exact ih e.on this (by omega)
      rw [hr] at hmem
      cases hmem

def Ext (l : Array Bool) (n m : Nat) (L : Array Bool) : Prop := L.size = m ∧ l.size = n ∧ (∀ i, i < n → L.getD i false = l.getD i false) ∧ ∀ i, n ≤ i → i < m → L.getD i true = false

theorem Ext.set {l : Array Bool} {n m : Nat} {L : Array Bool} (h : Ext l n m L) (hnm : n < m) {i : Nat} (hi : i < n) : Ext (l.setIfInBounds i true) n m (L.setIfInBounds i true) := by
  obtain ⟨h1, h2, h3, h4⟩ := h
  refine ⟨by simp [h1], by simp [h2], fun j hj => ?_, fun j hj hm => ?_⟩
  · by_cases e : i = j
    · subst e
      have a1 : i < L.size := by omega
      have a2 : i < l.size := by omega
      simp [a1, a2]
    · rw [getD_set_ne false e, getD_set_ne false e]
      exact h3 j hj
  · rw [getD_set_ne true (by omega)]
    exact h4 j hj hm

theorem wpAny_head {P : Program} {md : Region.Mode} {ops opsH : Array Oper} {Q : Exit → Act → World → Prop} {R : Act → World → Prop} (H : HeadOf md ops opsH) (g : Nat)
    (hend : ∀ L a w, Ext (Array.replicate opsH.size true) opsH.size ops.size L → R a w → wpAny P md ops Q g L a w) :
    ∀ (f : Nat) (l L : Array Bool) (a : Act) (w : World), Ext l opsH.size ops.size L → HeadInv md ops opsH.size L → ((List.range opsH.size).countP (fun i => !l.getD i false)) = f →
      wpAny P md opsH (CutPost R Q) f l a w → wpAny P md ops Q (f + g) L a w := by
  intro f
  induction f with
  | zero =>
    intro l L a w hE _ hc h
    rw [Nat.zero_add]
    refine hend L a w ⟨hE.1, by simp, fun i hi => ?_, hE.2.2.2⟩ h.2
    rw [hE.2.2.1 i hi]
    have := List.countP_eq_zero.1 hc i (List.mem_range.2 hi)
    simp only [Bool.not_eq_true', Bool.not_eq_false] at this
    simp [hi]
    simpa using this
  | succ f ih =>
    intro l L a w hE hI hc h
    obtain ⟨u, hu, hul⟩ : ∃ u, u < opsH.size ∧ l.getD u false = false := by
      have : 0 < (List.range opsH.size).countP (fun i => !l.getD i false) := by omega
      obtain ⟨u, hu, hp⟩ := List.countP_pos_iff.1 this
      exact ⟨u, List.mem_range.1 hu, by simpa using hp⟩
    have huL : L.getD u true = false := getD_in (by rw [hE.1]; have := H.le; omega) (by rw [hE.2.2.1 u hu]; exact hul)
    have hready : ∀ i, i ∈ Region.ready md ops L → i ∈ Region.ready md opsH l := by
      intro i hi
      have hin : i < opsH.size := by
        rcases Nat.lt_or_ge i opsH.size with hlt | hge
        · exact hlt
        · exact absurd hi (tail_waits H.sink H.chain H.le hI _ u rfl hu huL i hge)
      obtain ⟨h1, o, ho, h2⟩ := mem_ready.1 hi
      rw [mem_ready]
      refine ⟨?_, o, by rw [← H.same i hin]; exact ho, fun e he hb => ?_⟩
      · have := getD_both h1
        rw [hE.2.2.1 i hin] at this
        exact getD_in (by rw [hE.2.1]; exact hin) this
      · have hlt := H.ord i o (by rw [← H.same i hin]; exact ho) e he hb
        rw [← hE.2.2.1 e.on (by omega)]
        exact h2 e he hb
    have hne : Region.ready md opsH l ≠ [] := by
      intro h0
      have := head_full hE.2.1 H.ord h0 u hu
      rw [hul] at this
      cases this
    rw [show f + 1 + g = (f + g) + 1 by omega]
    refine ⟨fun h0 => ?_, fun i hi => ?_⟩
    · obtain ⟨j, hj⟩ := List.exists_mem_of_ne_nil _ hne
      obtain ⟨h1, o, ho, h2⟩ := mem_ready.1 hj
      have hjn : j < opsH.size := (Array.getElem?_eq_some_iff.1 ho).1
      have : j ∈ Region.ready md ops L := by
        rw [mem_ready]
        refine ⟨getD_in (by rw [hE.1]; have := H.le; omega) (by rw [hE.2.2.1 j hjn]; exact getD_both h1), o, by rw [H.same j hjn]; exact ho, fun e he hb => ?_⟩
        have hlt := H.ord j o ho e he hb
        rw [hE.2.2.1 e.on (by omega)]
        exact h2 e he hb
      rw [h0] at this
      cases this
    · have hiH := hready i hi
      obtain ⟨h1, o, ho, _⟩ := mem_ready.1 hiH
      have hin : i < opsH.size := (Array.getElem?_eq_some_iff.1 ho).1
      refine wpOp_head (H.same i hin) (fun o ho => H.want i o a.tmps ho) (fun a' w' h' => ih _ _ a' w' (hE.set H.le hin) (hI.set hi hin) ?_ h') (h.2 i hiH)
      have hls : i < l.size := by rw [hE.2.1]; exact hin
      have hli : l.getD i false = false := getD_both h1
      obtain ⟨s, t, hst⟩ := List.append_of_mem (List.mem_range.2 hin)
      have hnd : (List.range opsH.size).Nodup := List.nodup_range
      have heq : ∀ m : List Nat, i ∉ m → m.countP (fun j => !(l.setIfInBounds i true).getD j false) = m.countP (fun j => !l.getD j false) := fun m hm => List.countP_congr fun j hj => by
        have e : i ≠ j := fun e => hm (e ▸ hj)
        rw [getD_set_ne false e]
      rw [hst] at hc hnd ⊢
      rw [List.nodup_append] at hnd
      have n1 : i ∉ s := fun hs => hnd.2.2 i hs i (List.mem_cons_self ..) rfl
      have n2 : i ∉ t := (List.nodup_cons.1 hnd.2.1).1
      rw [List.countP_append, List.countP_cons] at hc ⊢
      have h7 : (l.setIfInBounds i true).getD i false = true := by simp [hls]
      rw [heq s n1, heq t n2]
      simp only [h7, hli, Bool.not_true, Bool.not_false, if_true, Bool.false_eq_true, if_false] at hc ⊢
      omega
end Go.Proofs.Ytoamjihchmokcaa
namespace Go.Proofs.Ytoamjihchmokcaa
open Go.ChangeShapes Go.WideShapes Go.ChangeAt Go.RowKit Go.Deep

theorem wp_region_head {P : Program} {id : Nat} {ops opsH : Array Oper} {t : List Oper} {Q : Exit → Act → World → Prop} {a : Act} {w : World} (C : World → Prop) (hm : P.follows .mixedOrders = true) (H : HeadOf .any ops opsH) (hB : Region.lexB .any opsH = true)
    (ht : ∀ j, t[j]? = ops[opsH.size + j]?) (hlen : ops.size = opsH.size + t.length)
    (hseq : Region.seqB .any ops t.length opsH.size (Array.replicate opsH.size true ++ Array.replicate t.length false) = true) (hC : C { w with drawn := w.drawn + 1 })
    (h : wpQuiet P opsH C (fun a' => ∀ w', C w' → wpList P ops Q t a' w') opsH.toList a) : (Code.region id ops true).wp P Q a w := by
  simp only [Region.lexB, Bool.and_eq_true] at hB
  refine wp_region_any hm ?_
  have hq := wpAnyQ_lex (C := C) (md := .any) hB.1 opsH.toList 0 (Array.replicate opsH.size false) a (by simp) (by simpa using hB.2) h
  have h1 := wpAny_of_quiet (Q' := CutPost (fun a' w' => wpList P ops Q t a' w') Q) (fun _ w' hw' h => h w' hw') _ _ _ _ hC hq
  have h2 := wpAny_head (Q := Q) (R := fun a' w' => wpList P ops Q t a' w') H t.length (fun L a' w' hE hR => by
    have e : L = Array.replicate opsH.size true ++ Array.replicate t.length false := by
      obtain ⟨s1, _, s3, s4⟩ := hE
      apply Array.ext
      · simp [s1, hlen]
      · intro i hi hj
        rw [Array.getElem_append]
        split
        · rename_i hlt
          have hlt' : i < opsH.size := by simpa using hlt
          have := s3 i hlt'
          simp [hi, hlt'] at this ⊢
          exact this
        · rename_i hge
          have hge' : opsH.size ≤ i := by simpa using hge
          have := s4 i hge' (by omega)
          simp [hi] at this ⊢
          exact this
    subst e
    exact wpAny_of_seq t opsH.size _ a' w' ht hseq hR) opsH.toList.length (Array.replicate opsH.size false) (Array.replicate ops.size false) a _
    ⟨by simp, by simp, fun i _ => by rw [getD_replicate_false, getD_replicate_false], fun i _ hi => getD_in (by simpa using hi) (getD_replicate_false _ _)⟩
    ⟨by simp, fun j oj _ hl => (by rw [getD_replicate_false] at hl; cases hl), fun t _ ht => getD_in (by simpa using ht) (getD_replicate_false _ _)⟩
    (by
      rw [List.countP_eq_length.2 (fun i _ => by rw [getD_replicate_false]; rfl)]
      simp) h1
  rw [hlen]
  rw [hlen] at h2
  simpa using h2

end Go.Proofs.Ytoamjihchmokcaa
namespace Go.Proofs.Ytoamjihchmokcaa
open Go.ChangeShapes Go.WideShapes Go.ChangeAt Go.RowKit Go.Deep

theorem ordLit_of {ops : Array Oper} (h : ((List.range ops.size).all fun i => match ops[i]? with | some o => o.after.toList.all (fun e => !Region.binds .any e || decide (e.on < i)) | none => true) = true) :
    ∀ i o, ops[i]? = some o → ∀ e ∈ o.after, Region.binds .any e = true → e.on < i := by
  intro i o ho e he hb
  have hi : i < ops.size := (Array.getElem?_eq_some_iff.1 ho).1
  have := List.all_eq_true.1 h i (List.mem_range.2 hi)
  simp only [ho] at this
  have := List.all_eq_true.1 this e (by simpa using he)
  simp only [hb, Bool.not_true, Bool.false_or, decide_eq_true_eq] at this
  exact this

def guardB (l : List Oper) (n : Nat) : Bool := l.all fun o => match o.guard with | some (g, _) => decide (g < n) | none => true
def ordB (ops : Array Oper) : Bool := (List.range ops.size).all fun i => match ops[i]? with | some o => o.after.toList.all (fun e => !Region.binds .any e || decide (e.on < i)) | none => true
def headB (l : List Oper) (n : Nat) : Bool :=
  decide (n < l.length) && (ordB (l.take n).toArray && (guardB (l.take n) n && (Region.sinkB .any l.toArray n && (Region.chainB .any l.toArray n && (Region.lexB .any (l.take n).toArray &&
    Region.seqB .any l.toArray (l.drop n).length n (Array.replicate n true ++ Array.replicate (l.drop n).length false))))))

theorem wanted_same {ops opsH : Array Oper} {o : Oper} {n : Nat} (hs : ∀ i, i < n → ops[i]? = opsH[i]?) (hg : (match o.guard with | some (g, _) => decide (g < n) | none => true) = true) (tmps : Array Value) :
    Region.wanted o (yielded ops tmps) = Region.wanted o (yielded opsH tmps) := by
  unfold Region.wanted
  cases hq : o.guard with
  | none => rfl
  | some p =>
    obtain ⟨g, b⟩ := p
    rw [hq] at hg
    have := hs g (by simpa using hg)
    simp only [yielded, this]

theorem wp_region_head_lit {P : Program} {id : Nat} {l : List Oper} {Q : Exit → Act → World → Prop} {a : Act} {w : World} (n : Nat) (C : World → Prop) (hm : P.follows .mixedOrders = true) (hB : headB l n = true) (hC : C { w with drawn := w.drawn + 1 })
    (h : wpQuiet P (l.take n).toArray C (fun a' => ∀ w', C w' → wpList P l.toArray Q (l.drop n) a' w') (l.take n) a) : (Code.region id l.toArray true).wp P Q a w := by
  simp only [headB, Bool.and_eq_true, decide_eq_true_eq] at hB
  obtain ⟨h1, h2, h3, h4, h5, h6, h7⟩ := hB
  have hsz : (l.take n).toArray.size = n := by simp; omega
  have hsame : ∀ i, i < n → l.toArray[i]? = (l.take n).toArray[i]? := fun i hi => by simp [hi]
  refine wp_region_head (opsH := (l.take n).toArray) (t := l.drop n) C hm ⟨by rw [hsz]; simpa using h1, fun i hi => hsame i (by omega), ordLit_of h2, fun i o tmps ho => wanted_same hsame ?_ tmps, by rw [hsz]; exact h4, by rw [hsz]; exact h5⟩ h6 ?_ ?_ ?_ hC (by simpa using h)
  · exact List.all_eq_true.1 h3 o (by
      have := (Array.getElem?_eq_some_iff.1 ho)
      obtain ⟨hlt, rfl⟩ := this
      simpa using Array.getElem_mem hlt)
  · intro j
    rw [hsz]
    simp
  · rw [hsz]; simp; omega
  · rw [hsz]; exact h7

structure BW (w : World) where
  w' : World
  h : Below w.heap.size w w'
theorem BW.cell {w : World} {p : Addr} {v : Value} (h : w.cell? p = some v) (b : BW w) : b.w'.cell? p = some v := Below.cell_some b.h h
theorem BW.call {P : Program} {f : FuncId} {args : Array Value} {w : World} {v : Value} (b : BW w) (h : Calls P f args b.w' fun e w' => e = .returned v ∧ Below b.w'.heap.size b.w' w') : Calls P f args b.w' fun e w' => e = .returned v ∧ ∃ q : BW w, w' = q.w' :=
  h.mono fun _ w' ⟨he, hb⟩ => ⟨he, ⟨w', b.h.trans (hb.mono b.h.size)⟩, rfl⟩
end Go.Proofs.Ytoamjihchmokcaa
