/- The like for operations that are written out; a class of worlds: what was there stays. No condition. -/
import Derived.Test.YtmoeddpbmclckaaHead2
namespace Go.Proofs.Ytmoeddpbmclckaa
open Go.ChangeShapes Go.WideShapes Go.ChangeAt Go.RowKit Go.Deep

theorem ordLit_of {ops : Array Oper} (h : ((List.range ops.size).all fun i => match ops[i]? with | some o => o.after.toList.all (fun e => !Region.binds .any e || decide (e.on < i)) | none => true) = true) :
    ∀ i o, ops[i]? = some o → ∀ e ∈ o.after, Region.binds .any e = true → e.on < i := by
  intro i o ho e he hb
  have hi : i < ops.size := (Array.getElem?_eq_some_iff.1 ho).1
  have := List.all_eq_true.1 h i (List.mem_range.2 hi)
  simp only [ho] at this
  have := List.all_eq_true.1 this e (by simpa using he)
  simp only [hb, Bool.not_true, Bool.false_or, decide_eq_true_eq] at this
  exact this

def guardB (l : List Oper) (n : Nat) : Bool := l.all fun o => match o.guard with | some (g, _) => decide (g < n) | none => true
def ordB (ops : Array Oper) : Bool := (List.range ops.size).all fun i => match ops[i]? with | some o => o.after.toList.all (fun e => !Region.binds .any e || decide (e.on < i)) | none => true
def headB (l : List Oper) (n : Nat) : Bool :=
  decide (n < l.length) && (ordB (l.take n).toArray && (guardB (l.take n) n && (Region.sinkB .any l.toArray n && (Region.chainB .any l.toArray n && (Region.lexB .any (l.take n).toArray &&
    Region.seqB .any l.toArray (l.drop n).length n (Array.replicate n true ++ Array.replicate (l.drop n).length false))))))

theorem wanted_same {ops opsH : Array Oper} {o : Oper} {n : Nat} (hs : ∀ i, i < n → ops[i]? = opsH[i]?) (hg : (match o.guard with | some (g, _) => decide (g < n) | none => true) = true) (tmps : Array Value) :
    Region.wanted o (yielded ops tmps) = Region.wanted o (yielded opsH tmps) := by
  unfold Region.wanted
  cases hq : o.guard with
  | none => rfl
  | some p =>
    obtain ⟨g, b⟩ := p
    rw [hq] at hg
    have := hs g (by simpa using hg)
    simp only [yielded, this]

theorem wp_region_head_lit {P : Program} {id : Nat} {l : List Oper} {Q : Exit → Act → World → Prop} {a : Act} {w : World} (n : Nat) (C : World → Prop) (hm : P.follows .mixedOrders = true) (hB : headB l n = true) (hC : C { w with drawn := w.drawn + 1 })
    (h : wpQuiet P (l.take n).toArray C (fun a' => ∀ w', C w' → wpList P l.toArray Q (l.drop n) a' w') (l.take n) a) : (Code.region id l.toArray true).wp P Q a w := by
  simp only [headB, Bool.and_eq_true, decide_eq_true_eq] at hB
  obtain ⟨h1, h2, h3, h4, h5, h6, h7⟩ := hB
  have hsz : (l.take n).toArray.size = n := by simp; omega
  have hsame : ∀ i, i < n → l.toArray[i]? = (l.take n).toArray[i]? := fun i hi => by simp [hi]
  refine wp_region_head (opsH := (l.take n).toArray) (t := l.drop n) C hm ⟨by rw [hsz]; simpa using h1, fun i hi => hsame i (by omega), ordLit_of h2, fun i o tmps ho => wanted_same hsame ?_ tmps, by rw [hsz]; exact h4, by rw [hsz]; exact h5⟩ h6 ?_ ?_ ?_ hC (by simpa using h)
  · exact List.all_eq_true.1 h3 o (by
      have := (Array.getElem?_eq_some_iff.1 ho)
      obtain ⟨hlt, rfl⟩ := this
      simpa using Array.getElem_mem hlt)
  · intro j
    rw [hsz]
    simp
  · rw [hsz]; simp; omega
  · rw [hsz]; exact h7

/-- The worlds in which all that was there stays. -/
structure BW (w : World) where
  w' : World
  h : Below w.heap.size w w'
theorem BW.cell {w : World} {p : Addr} {v : Value} (h : w.cell? p = some v) (b : BW w) : b.w'.cell? p = some v := Below.cell_some b.h h
theorem BW.call {P : Program} {f : FuncId} {args : Array Value} {w : World} {v : Value} (b : BW w) (h : Calls P f args b.w' fun e w' => e = .returned v ∧ Below b.w'.heap.size b.w' w') : Calls P f args b.w' fun e w' => e = .returned v ∧ ∃ q : BW w, w' = q.w' :=
  h.mono fun _ w' ⟨he, hb⟩ => ⟨he, ⟨w', b.h.trans (hb.mono b.h.size)⟩, rfl⟩
end Go.Proofs.Ytmoeddpbmclckaa
