/- A region that draws: its first operations quiet in a class of worlds, in the order of the text; the last ones behind them. No condition. || The like for operations that are written out; a class of worlds: what was there stays. No condition. -/
import Derived.Test.YtmoeddpbmclckaaHead
namespace Go.Proofs.Ytmoeddpbmclckaa
open Go.ChangeShapes Go.WideShapes Go.ChangeAt Go.RowKit Go.Deep

theorem wp_region_head {P : Program} {id : Nat} {ops opsH : Array Oper} {t : List Oper} {Q : Exit → Act → World → Prop} {a : Act} {w : World} (C : World → Prop) (hm : P.follows .mixedOrders = true) (H : HeadOf .any ops opsH) (hB : Region.lexB .any opsH = true)
    (ht : ∀ j, t[j]? = ops[opsH.size + j]?) (hlen : ops.size = opsH.size + t.length)
    (hseq : Region.seqB .any ops t.length opsH.size (Array.replicate opsH.size true ++ Array.replicate t.length false) = true) (hC : C { w with drawn := w.drawn + 1 })
    (h : wpQuiet P opsH C (fun a' => ∀ w', C w' → wpList P ops Q t a' w') opsH.toList a) : (Code.region id ops true).wp P Q a w := by
  simp only [Region.lexB, Bool.and_eq_true] at hB
  refine wp_region_any hm ?_
  have hq := wpAnyQ_lex (C := C) (md := .any) hB.1 opsH.toList 0 (Array.replicate opsH.size false) a (by simp) (by simpa using hB.2) h
  have h1 := wpAny_of_quiet (Q' := CutPost (fun a' w' => wpList P ops Q t a' w') Q) (fun _ w' hw' h => h w' hw') _ _ _ _ hC hq
  have h2 := wpAny_head (Q := Q) (R := fun a' w' => wpList P ops Q t a' w') H t.length (fun L a' w' hE hR => by
    have e : L = Array.replicate opsH.size true ++ Array.replicate t.length false := by
      obtain ⟨s1, _, s3, s4⟩ := hE
      apply Array.ext
      · simp [s1, hlen]
      · intro i hi hj
        rw [Array.getElem_append]
        split
        · rename_i hlt
          have hlt' : i < opsH.size := by simpa using hlt
          have := s3 i hlt'
          simp [hi, hlt'] at this ⊢
          exact this
        · rename_i hge
          have hge' : opsH.size ≤ i := by simpa using hge
          have := s4 i hge' (by omega)
          simp [hi] at this ⊢
          exact this
    subst e
    exact wpAny_of_seq t opsH.size _ a' w' ht hseq hR) opsH.toList.length (Array.replicate opsH.size false) (Array.replicate ops.size false) a _
    ⟨by simp, by simp, fun i _ => by rw [getD_replicate_false, getD_replicate_false], fun i _ hi => getD_in (by simpa using hi) (getD_replicate_false _ _)⟩
    ⟨by simp, fun j oj _ hl => (by rw [getD_replicate_false] at hl; cases hl), fun t _ ht => getD_in (by simpa using ht) (getD_replicate_false _ _)⟩
    (by
      rw [List.countP_eq_length.2 (fun i _ => by rw [getD_replicate_false]; rfl)]
      simp) h1
  rw [hlen]
  rw [hlen] at h2
  simpa using h2

/-- The like of 'wpList_cutHid'. -/
theorem wpQuiet_cut {P : Program} {ops : Array Oper} {C : World → Prop} {Q R : Act → Prop} (l2 : List Oper) (h2 : ∀ a, R a → wpQuiet P ops C Q l2 a) : ∀ (l1 : List Oper) (a : Act), wpQuiet P ops C R l1 a → wpQuiet P ops C Q (l1 ++ l2) a
  | [], a, h1 => h2 a h1
  | o :: l1, a, h1 => by
    rw [List.cons_append]
    unfold wpQuiet at h1 ⊢
    split
    · rename_i hw
      rw [if_pos hw] at h1
      exact Oper.quiet_mono (fun a h => wpQuiet_cut l2 h2 l1 a h) h1
    · rename_i hw
      rw [if_neg hw] at h1
      exact wpQuiet_cut l2 h2 l1 _ h1
theorem wpQuiet_cutHid {P : Program} {ops : Array Oper} {C : World → Prop} {Q : Act → Prop} {l : List Oper} {a : Act} (n : Nat) (R : Act → Prop)
    (h1 : ∀ K : Act → Prop, (∀ a, R a → K a) → wpQuiet P ops C K (l.take n) a) (h2 : ∀ a, R a → wpQuiet P ops C Q (l.drop n) a) : wpQuiet P ops C Q l a := by
  rw [← List.take_append_drop n l]
  exact wpQuiet_cut _ h2 _ _ (h1 R fun _ h => h)
end Go.Proofs.Ytmoeddpbmclckaa
namespace Go.Proofs.Ytmoeddpbmclckaa
open Go.ChangeShapes Go.WideShapes Go.ChangeAt Go.RowKit Go.Deep

theorem ordLit_of {ops : Array Oper} (h : ((List.range ops.size).all fun i => match ops[i]? with | some o => o.after.toList.all (fun e => !Region.binds .any e || decide (e.on < i)) | none => true) = true) :
    ∀ i o, ops[i]? = some o → ∀ e ∈ o.after, Region.binds .any e = true → e.on < i := by
  intro i o ho e he hb
  have hi : i < ops.size := (Array.getElem?_eq_some_iff.1 ho).1
  have := List.all_eq_true.1 h i (List.mem_range.2 hi)
  simp only [ho] at this
  have := List.all_eq_true.1 this e (by simpa using he)
  simp only [hb, Bool.not_true, Bool.false_or, decide_eq_true_eq] at this
  exact this

def guardB (l : List Oper) (n : Nat) : Bool := l.all fun o => match o.guard with | some (g, _) => decide (g < n) | none => true
def ordB (ops : Array Oper) : Bool := (List.range ops.size).all fun i => match ops[i]? with | some o => o.after.toList.all (fun e => !Region.binds .any e || decide (e.on < i)) | none => true
def headB (l : List Oper) (n : Nat) : Bool :=
  decide (n < l.length) && (ordB (l.take n).toArray && (guardB (l.take n) n && (Region.sinkB .any l.toArray n && (Region.chainB .any l.toArray n && (Region.lexB .any (l.take n).toArray &&
    Region.seqB .any l.toArray (l.drop n).length n (Array.replicate n true ++ Array.replicate (l.drop n).length false))))))

theorem wanted_same {ops opsH : Array Oper} {o : Oper} {n : Nat} (hs : ∀ i, i < n → ops[i]? = opsH[i]?) (hg : (match o.guard with | some (g, _) => decide (g < n) | none => true) = true) (tmps : Array Value) :
    Region.wanted o (yielded ops tmps) = Region.wanted o (yielded opsH tmps) := by
  unfold Region.wanted
  cases hq : o.guard with
  | none => rfl
  | some p =>
    obtain ⟨g, b⟩ := p
    rw [hq] at hg
    have := hs g (by simpa using hg)
    simp only [yielded, this]

theorem wp_region_head_lit {P : Program} {id : Nat} {l : List Oper} {Q : Exit → Act → World → Prop} {a : Act} {w : World} (n : Nat) (C : World → Prop) (hm : P.follows .mixedOrders = true) (hB : headB l n = true) (hC : C { w with drawn := w.drawn + 1 })
    (h : wpQuiet P (l.take n).toArray C (fun a' => ∀ w', C w' → wpList P l.toArray Q (l.drop n) a' w') (l.take n) a) : (Code.region id l.toArray true).wp P Q a w := by
  simp only [headB, Bool.and_eq_true, decide_eq_true_eq] at hB
  obtain ⟨h1, h2, h3, h4, h5, h6, h7⟩ := hB
  have hsz : (l.take n).toArray.size = n := by simp; omega
  have hsame : ∀ i, i < n → l.toArray[i]? = (l.take n).toArray[i]? := fun i hi => by simp [hi]
  refine wp_region_head (opsH := (l.take n).toArray) (t := l.drop n) C hm ⟨by rw [hsz]; simpa using h1, fun i hi => hsame i (by omega), ordLit_of h2, fun i o tmps ho => wanted_same hsame ?_ tmps, by rw [hsz]; exact h4, by rw [hsz]; exact h5⟩ h6 ?_ ?_ ?_ hC (by simpa using h)
  · exact List.all_eq_true.1 h3 o (by
      have := (Array.getElem?_eq_some_iff.1 ho)
      obtain ⟨hlt, rfl⟩ := this
      simpa using Array.getElem_mem hlt)
  · intro j
    rw [hsz]
    simp
  · rw [hsz]; simp; omega
  · rw [hsz]; exact h7

/-- The worlds in which all that was there stays. -/
structure BW (w : World) where
  w' : World
  h : Below w.heap.size w w'
theorem BW.cell {w : World} {p : Addr} {v : Value} (h : w.cell? p = some v) (b : BW w) : b.w'.cell? p = some v := Below.cell_some b.h h
theorem BW.call {P : Program} {f : FuncId} {args : Array Value} {w : World} {v : Value} (b : BW w) (h : Calls P f args b.w' fun e w' => e = .returned v ∧ Below b.w'.heap.size b.w' w') : Calls P f args b.w' fun e w' => e = .returned v ∧ ∃ q : BW w, w' = q.w' :=
  h.mono fun _ w' ⟨he, hb⟩ => ⟨he, ⟨w', b.h.trans (hb.mono b.h.size)⟩, rfl⟩
end Go.Proofs.Ytmoeddpbmclckaa
