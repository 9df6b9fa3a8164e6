/- The plain law of a stable sort: insertion, symmetric merges, rotations. No condition. || A row of four cells that is stored whole. No condition. || A row of elements of any kind that is sorted in place: loads and stores of whole elements. No condition; no program. || Regions that draw their order, of computing operations (whole elements loaded too) and a chain of others: one walk in the text's order. No condition; no program. -/
import Derived.Test.YtpbppgfogepjeaaBase
import Derived.Test.YtpbppgfogepjeaaCutListM
import Derived.Test.YtpbppgfogepjeaaName2M
import Derived.Test.YtpbppgfogepjeaaHeadLitM
import Derived.Laws.CopyRow
import Derived.Test.YtpbppgfogepjeaaMixed2
namespace Go.Proofs.Ytpbppgfogepjeaa
def segL {α : Type} (d : List α) (a b : Nat) : List α := (d.take b).drop a

variable {α : Type} {cf : α → α → Int} {tag : α → Nat} {T : α → α → Prop}

theorem segL_len (d : List α) {a b : Nat} (hb : b ≤ d.length) : (segL d a b).length = b - a := by
  simp [segL, Nat.min_eq_left hb]

def OutInv (T : α → α → Prop) (a i : Nat) (D d : List α) : Prop :=
  ∃ S, d = D.take a ++ S ++ D.drop i ∧ S.Perm (segL D a i) ∧ S.Pairwise T

def InsInv (T : α → α → Prop) (a i : Nat) (D d : List α) (j : Nat) : Prop :=
  ∃ (S1 S2 : List α) (x : α), D[i]? = some x ∧ d = D.take a ++ (S1 ++ x :: S2) ++ D.drop (i + 1) ∧ (S1 ++ S2).Perm (segL D a i) ∧ (S1 ++ S2).Pairwise T ∧ (∀ s ∈ S2, T x s) ∧ j = a + S1.length

theorem OutInv.len {a i : Nat} {D d : List α} (h : OutInv T a i D d) (hai : a ≤ i) (hi : i ≤ D.length) : d.length = D.length := by
  obtain ⟨S, rfl, hp, _⟩ := h
  have := hp.length_eq
  rw [segL_len D hi] at this
  simp
  omega

theorem InsInv.len {a i j : Nat} {D d : List α} (h : InsInv T a i D d j) (hai : a ≤ i) : d.length = D.length ∧ j ≤ i ∧ a ≤ j ∧ i < D.length := by
  obtain ⟨S1, S2, x, hx, rfl, hp, _, _, rfl⟩ := h
  have hi := (List.getElem?_eq_some_iff.1 hx).1
  have := hp.length_eq
  rw [segL_len D (Nat.le_of_lt hi)] at this
  simp at this ⊢
  omega


def SwpInv (P X Y Z S d : List α) (i : Nat) : Prop :=
  d = P ++ (Z.take i ++ X.drop i) ++ Y ++ (X.take i ++ Z.drop i) ++ S

theorem SwpInv.len {P X Y Z S d : List α} {i : Nat} (h : SwpInv P X Y Z S d i) (hx : i ≤ X.length) (hz : i ≤ Z.length) : d.length = P.length + X.length + Y.length + Z.length + S.length := by
  rw [h]
  simp
  omega




end Go.Proofs.Ytpbppgfogepjeaa
namespace Go.Proofs.Ytpbppgfogepjeaa
open Go.ChangeShapes Go.WideShapes Go.ChangeAt Go.RowKit Go.Deep

theorem row_setCell {w : World} {b i : Nat} {cs : Array Value} {t : TypeId} {fr : Nat × Nat} (h : w.heap[b]? = some (.cells cs t fr)) (v : Value) : (w.setCell ⟨b, i, none⟩ v).heap[b]? = some (.cells (cs.setIfInBounds i v) t fr) := by
  simp [World.setCell, Array.getElem?_modify, h]

theorem row_free {w : World} {b : Nat} {t : TypeId} {cs : Array Value} (h : w.heap[b]? = some (.cells cs t (0, 0))) (j : Nat) : w.frozen? ⟨b, j, none⟩ = false := by simp [World.frozen?, h]

end Go.Proofs.Ytpbppgfogepjeaa
namespace Go.Proofs.Ytpbppgfogepjeaa
open Go.ChangeShapes Go.WideShapes Go.ChangeAt Go.RowKit Go.Deep

structure SRowK {α : Type} (enc : α → List Value) (T : TypeId) (w0 w : World) (gb : Nat) (rest : List Value) (d : List α) : Prop where
  row : w.heap[gb]? = some (.cells (d.flatMap enc ++ rest).toArray T (0, 0))
  fr : Fr (fun k => k = gb) w0 w

namespace SRowK
variable {α : Type} {enc : α → List Value} {T : TypeId} {w0 w w' : World} {gb sz : Nat} {rest : List Value} {d : List α}
theorem lt (h : SRowK enc T w0 w gb rest d) : gb < w.heap.size := (Array.getElem?_eq_some_iff.1 h.row).1
theorem at_ (h : SRowK enc T w0 w gb rest d) (hl : ∀ x, (enc x).length = sz) {i : Nat} (hi : i < d.length) : ∀ j u, (enc d[i])[j]? = some u → w.cell? ((⟨gb, i * sz, none⟩ : Addr).add j) = some u := by
  intro j u hu
  have hj : j < sz := by rw [← hl d[i]]; exact (List.getElem?_eq_some_iff.1 hu).1
  have h2 : i * sz + j < (d.flatMap enc).length := by
    rw [flatMap_len (f := enc) (sz := sz) hl]
    have : (i + 1) * sz ≤ d.length * sz := Nat.mul_le_mul_right _ hi
    rw [Nat.add_mul, Nat.one_mul] at this
    omega
  rw [Addr.add_lit, cell_of_row _ gb _ _ _ (0, 0) h.row, List.getElem?_toArray, List.getElem?_append_left h2, flatMap_get (f := enc) (sz := sz) hl d i j hi hj, hu]
theorem next (h : SRowK enc T w0 w gb rest d) (hb : Below w.heap.size w w') : SRowK enc T w0 w' gb rest d := ⟨(hb.block gb h.lt).trans h.row, h.fr.then hb⟩
theorem drewN (h : SRowK enc T w0 w gb rest d) (n : Nat) : SRowK enc T w0 (w.drewN n) gb rest d := ⟨h.row, h.fr.drewN n⟩
theorem trans {w1 w2 : World} {d' : List α} (h : SRowK enc T w0 w1 gb rest d) (k : SRowK enc T w1 w2 gb rest d') : SRowK enc T w0 w2 gb rest d' := ⟨k.row, h.fr.trans k.fr (fun _ hi => .inl hi)⟩
end SRowK

theorem BW.cells {w : World} {p : Addr} {cs : List Value} (h : ∀ j u, cs[j]? = some u → w.cell? (p.add j) = some u) (b : BW w) : ∀ j u, cs[j]? = some u → b.w'.cell? (p.add j) = some u := fun j u hu => Below.cell_some b.h (h j u hu)

section
variable {P : Program} {T : TypeId} {size : Nat}
end
end Go.Proofs.Ytpbppgfogepjeaa
namespace Go.Proofs.Ytpbppgfogepjeaa
open Go.ChangeShapes Go.WideShapes Go.ChangeAt Go.RowKit Go.Deep

section
variable {P : Program} {ops : Array Oper} {C : World → Prop}
def wpVal (P : Program) (ops : Array Oper) (C : World → Prop) (Q : Act → Prop) : List Oper → Act → Prop
  | [], a => Q a
  | o :: rest, a => ∃ v, (if Region.wanted o (yielded ops a.tmps) then ∀ w, (memOp o.op = true → C w) → (execOp a.eval o).run P w = .ok (.value v) w else v = undef) ∧ wpVal P ops C Q rest (a.put o.dst v)
theorem wpVal_one {Q : Act → Prop} {a : Act} {o : Oper} {rest : List Oper} (v : Value) (hg : o.guard = none) (h1 : ∀ w, (execOp a.eval o).run P w = .ok (.value v) w) (h : wpVal P ops C Q rest (a.put o.dst v)) : wpVal P ops C Q (o :: rest) a := by
  refine ⟨v, ?_, h⟩
  rw [if_pos (by simp [Region.wanted, hg])]
  exact fun w _ => h1 w
theorem wpVal_oneK {Q : Act → Prop} {a : Act} {o : Oper} {rest : List Oper} (hg : o.guard = none) (h : ∀ K : Act → Prop, (∀ a, wpVal P ops C Q rest a → K a) → ∃ v, (∀ w, (execOp a.eval o).run P w = .ok (.value v) w) ∧ K (a.put o.dst v)) : wpVal P ops C Q (o :: rest) a := by
  obtain ⟨v, h1, h2⟩ := h _ (fun _ h => h)
  exact wpVal_one v hg h1 h2
theorem wpVal_vals {Q : Act → Prop} : ∀ (l : List Oper) (a : Act) (N : Nat), a.tmps.size = N → (∀ o ∈ l, ∀ d, o.dst = some d → d < N) → wpVal P ops C Q l a → lateB ops l = true →
    ∃ A, Q A ∧ A.tmps.size = N ∧ A.defers = a.defers ∧ (∀ s, s ∉ dstsOf l → A.tmps[s]? = a.tmps[s]?) ∧ ∀ o ∈ l, ∃ d v, o.dst = some d ∧ A.tmps[d]? = some v ∧ YieldsC P ops C o v A
  | [], a, N, hN, _, h, _ => ⟨a, h, hN, rfl, fun _ _ => rfl, fun o ho => by cases ho⟩
  | o :: r, a, N, hN, hdN, h, hL => by
    obtain ⟨v, hy, h⟩ := h
    unfold lateB at hL
    cases hd : o.dst with
    | none => rw [hd] at hL; simp at hL
    | some d =>
      rw [hd] at hL h
      simp only [Bool.and_eq_true, Bool.not_eq_true', List.all_eq_true] at hL
      obtain ⟨hsel, ⟨hl1, hl2⟩, hL2⟩ := hL
      have hdn := hdN o (List.mem_cons_self ..) d hd
      obtain ⟨A, i1, i2, i3, i4, i5⟩ := wpVal_vals r (a.put (some d) v) N (by simp [Act.put, hN]) (fun o ho => hdN o (List.mem_cons_of_mem _ ho)) h hL2
      have hin : ∀ (l : List Nat) (t : Nat), memN l t = false → t ∉ l := fun l t h hh => by rw [memN_of hh] at h; cases h
      have hput : ∀ s, s ≠ d → (a.put (some d) v).tmps[s]? = a.tmps[s]? := fun s hs => by
        simp only [Act.put]
        rw [Array.getElem?_setIfInBounds, if_neg (fun e => hs e.symm)]
      have hy : YieldsC P ops C o v a := hy
      refine ⟨A, i1, i2, by rw [i3]; rfl, fun s hs => ?_, fun o' ho' => ?_⟩
      · unfold dstsOf at hs
        rw [List.filterMap_cons, hd] at hs
        simp only [List.mem_cons, not_or] at hs
        rw [i4 s hs.2, hput s hs.1]
      · rcases List.mem_cons.1 ho' with rfl | ho'
        · refine ⟨d, v, hd, ?_, hy.of_same hsel fun t ht => ?_⟩
          · rw [i4 d (hin _ _ hl2)]
            simp only [Act.put]
            rw [Array.getElem?_setIfInBounds, if_pos rfl, if_pos (by rw [hN]; exact hdn)]
          · have h1 : t ∉ dstsOf r := fun hh => hin _ _ (hl1 t (by simp [hh])) ht
            have h2 : t ≠ d := fun hh => hin _ _ (hl1 d (by simp)) (hh ▸ ht)
            rw [i4 t h1, hput t h2]
        · exact i5 o' ho'

def dstLt (N : Nat) (l : List Oper) : Bool := l.all fun o => match o.dst with | some d => Nat.blt d N | none => true
end
end Go.Proofs.Ytpbppgfogepjeaa
