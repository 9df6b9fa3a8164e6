/- A region that draws: its first operations quiet in a class of worlds, in the order of the text; the last ones behind them. No condition. -/
import Derived.Test.YtmoeddpbmclckaaHead
namespace Go.Proofs.Ytmoeddpbmclckaa
open Go.ChangeShapes Go.WideShapes Go.ChangeAt Go.RowKit Go.Deep

theorem wp_region_head {P : Program} {id : Nat} {ops opsH : Array Oper} {t : List Oper} {Q : Exit → Act → World → Prop} {a : Act} {w : World} (C : World → Prop) (hm : P.follows .mixedOrders = true) (H : HeadOf .any ops opsH) (hB : Region.lexB .any opsH = true)
    (ht : ∀ j, t[j]? = ops[opsH.size + j]?) (hlen : ops.size = opsH.size + t.length)
    (hseq : Region.seqB .any ops t.length opsH.size (Array.replicate opsH.size true ++ Array.replicate t.length false) = true) (hC : C { w with drawn := w.drawn + 1 })
    (h : wpQuiet P opsH C (fun a' => ∀ w', C w' → wpList P ops Q t a' w') opsH.toList a) : (Code.region id ops true).wp P Q a w := by
  simp only [Region.lexB, Bool.and_eq_true] at hB
  refine wp_region_any hm ?_
  have hq := wpAnyQ_lex (C := C) (md := .any) hB.1 opsH.toList 0 (Array.replicate opsH.size false) a (by simp) (by simpa using hB.2) h
  have h1 := wpAny_of_quiet (Q' := CutPost (fun a' w' => wpList P ops Q t a' w') Q) (fun _ w' hw' h => h w' hw') _ _ _ _ hC hq
  have h2 := wpAny_head (Q := Q) (R := fun a' w' => wpList P ops Q t a' w') H t.length (fun L a' w' hE hR => by
    have e : L = Array.replicate opsH.size true ++ Array.replicate t.length false := by
      obtain ⟨s1, _, s3, s4⟩ := hE
      apply Array.ext
      · simp [s1, hlen]
      · intro i hi hj
        rw [Array.getElem_append]
        split
        · rename_i hlt
          have hlt' : i < opsH.size := by simpa using hlt
          have := s3 i hlt'
          simp [hi, hlt'] at this ⊢
          exact this
        · rename_i hge
          have hge' : opsH.size ≤ i := by simpa using hge
          have := s4 i hge' (by omega)
          simp [hi] at this ⊢
          exact this
    subst e
    exact wpAny_of_seq t opsH.size _ a' w' ht hseq hR) opsH.toList.length (Array.replicate opsH.size false) (Array.replicate ops.size false) a _
    ⟨by simp, by simp, fun i _ => by rw [getD_replicate_false, getD_replicate_false], fun i _ hi => getD_in (by simpa using hi) (getD_replicate_false _ _)⟩
    ⟨by simp, fun j oj _ hl => (by rw [getD_replicate_false] at hl; cases hl), fun t _ ht => getD_in (by simpa using ht) (getD_replicate_false _ _)⟩
    (by
      rw [List.countP_eq_length.2 (fun i _ => by rw [getD_replicate_false]; rfl)]
      simp) h1
  rw [hlen]
  rw [hlen] at h2
  simpa using h2

/-- The like of 'wpList_cutHid'. -/
theorem wpQuiet_cut {P : Program} {ops : Array Oper} {C : World → Prop} {Q R : Act → Prop} (l2 : List Oper) (h2 : ∀ a, R a → wpQuiet P ops C Q l2 a) : ∀ (l1 : List Oper) (a : Act), wpQuiet P ops C R l1 a → wpQuiet P ops C Q (l1 ++ l2) a
  | [], a, h1 => h2 a h1
  | o :: l1, a, h1 => by
    rw [List.cons_append]
    unfold wpQuiet at h1 ⊢
    split
    · rename_i hw
      rw [if_pos hw] at h1
      exact Oper.quiet_mono (fun a h => wpQuiet_cut l2 h2 l1 a h) h1
    · rename_i hw
      rw [if_neg hw] at h1
      exact wpQuiet_cut l2 h2 l1 _ h1
theorem wpQuiet_cutHid {P : Program} {ops : Array Oper} {C : World → Prop} {Q : Act → Prop} {l : List Oper} {a : Act} (n : Nat) (R : Act → Prop)
    (h1 : ∀ K : Act → Prop, (∀ a, R a → K a) → wpQuiet P ops C K (l.take n) a) (h2 : ∀ a, R a → wpQuiet P ops C Q (l.drop n) a) : wpQuiet P ops C Q l a := by
  rw [← List.take_append_drop n l]
  exact wpQuiet_cut _ h2 _ _ (h1 R fun _ h => h)
end Go.Proofs.Ytmoeddpbmclckaa
