/- Rows of a copy may be written; what was there before the copy stays, and so do the call's own variables. No program. -/
import Derived.Test.YtmoeddpbmclckaaCloneLaw
namespace Go.Proofs.Ytmoeddpbmclckaa
open Go.ChangeShapes Go.WideShapes Go.ChangeAt Go.RowKit Go.Deep

/-- n cells of a row that may be written: their block lies between B and T. -/
def WrB (B T : Nat) (w : World) (ao : Option Addr) (n : Nat) : Prop := (ao = none → n = 0) ∧ ∀ a, ao = some a → ∃ g, a = ⟨g, 0, none⟩ ∧ B ≤ g ∧ ∀ j, j < n → g < T ∧ (∃ v, w.cell? ⟨g, j, none⟩ = some v) ∧ w.frozen? ⟨g, j, none⟩ = false
theorem WrB.of {B : Nat} {w : World} {ao : Option Addr} {n : Nat} (h : WrOk B w ao n) (h0 : ao = none → n = 0) : WrB B w.heap.size w ao n := ⟨h0, fun a ha => by
  obtain ⟨g, e, hg, hc⟩ := h a ha
  exact ⟨g, e, hg, fun j hj => ⟨by obtain ⟨⟨v, hv⟩, _⟩ := hc j hj; exact blk hv, hc j hj⟩⟩⟩
theorem WrB.set {B T : Nat} {w : World} {ao : Option Addr} {n : Nat} (h : WrB B T w ao n) (p : Addr) (v : Value) : WrB B T (w.setCell p v) ao n := ⟨h.1, fun a ha => by
  obtain ⟨g, e, hg, hc⟩ := h.2 a ha
  refine ⟨g, e, hg, fun j hj => ?_⟩
  obtain ⟨ht, ⟨u, hu⟩, hf⟩ := hc j hj
  refine ⟨ht, ?_, by rw [World.frozen?_setCell]; exact hf⟩
  by_cases hp : p = ⟨g, j, none⟩
  · subst hp; exact ⟨v, World.cell?_setCell_same w _ v hu⟩
  · exact ⟨u, (World.cell?_setCell_other w _ _ v hp).trans hu⟩⟩
theorem WrB.below {B T : Nat} {w w' : World} {ao : Option Addr} {n : Nat} (h : WrB B T w ao n) (hb : Below w.heap.size w w') : WrB B T w' ao n := ⟨h.1, fun a ha => by
  obtain ⟨g, e, hg, hc⟩ := h.2 a ha
  refine ⟨g, e, hg, fun j hj => ?_⟩
  obtain ⟨ht, ⟨u, hu⟩, hf⟩ := hc j hj
  exact ⟨ht, ⟨u, Keeps.below hb _ _ hu⟩, by rw [hb.frozen (World.block_lt_of_cell? w _ hu)]; exact hf⟩⟩

/-- What was there at w5 stays; what lies at T or behind it stays as at wl; these rows may be written. -/
structure KV (w5 wl : World) (T : Nat) (R : List (Option Addr × Nat)) (wr : World) : Prop where
  a : Below w5.heap.size w5 wr
  far : ∀ (b o : Nat) (v : Value), T ≤ b → wl.cell? ⟨b, o, none⟩ = some v → wr.cell? ⟨b, o, none⟩ = some v
  rows : ∀ p ∈ R, WrB w5.heap.size T wr p.1 p.2
  size : T ≤ wr.heap.size
theorem KV.base {w5 wl wr : World} {T : Nat} {R : List (Option Addr × Nat)} (h : KV w5 wl T R wr) : KV w5 wr T R wr := ⟨h.a, fun _ _ _ _ h => h, h.rows, h.size⟩
theorem KV.set {w5 wl wr : World} {T : Nat} {R : List (Option Addr × Nat)} (h : KV w5 wl T R wr) {g n : Nat} (hm : (some ⟨g, 0, none⟩, n) ∈ R) {j : Nat} (hj : j < n) (v : Value) : KV w5 wl T R (wr.setCell ⟨g, j, none⟩ v) := by
  obtain ⟨g', e, hg, hc⟩ := (h.rows _ hm).2 _ rfl
  cases e
  refine ⟨h.a.setCell (p := ⟨g, j, none⟩) hg v, fun b o u hb hu => ?_, fun p hp => (h.rows p hp).set _ v, by rw [World.size_setCell]; exact h.size⟩
  rw [World.cell?_setCell_other _ _ _ _ (by intro e; cases e; exact absurd (hc j hj).1 (by omega))]
  exact h.far b o u hb hu
theorem KV.ext {w5 wl wr w' : World} {T : Nat} {R : List (Option Addr × Nat)} (h : KV w5 wl T R wr) (hb : Below wr.heap.size wr w') : KV w5 w' T R w' :=
  ⟨h.a.trans (Below.mono hb h.a.size), fun _ _ _ _ h => h, fun p hp => (h.rows p hp).below hb, Nat.le_trans h.size hb.size⟩
/-- Where a row has an element: its block; the cell may be written. -/
theorem KV.at_ {w5 wl wr : World} {T : Nat} {R : List (Option Addr × Nat)} (h : KV w5 wl T R wr) {ao : Option Addr} {n : Nat} (hm : (ao, n) ∈ R) (hn : 0 < n) : ∃ g, ao = some ⟨g, 0, none⟩ := by
  have hr := h.rows _ hm
  cases ao with
  | none => have := hr.1 rfl; omega
  | some a =>
    obtain ⟨g, e, _⟩ := hr.2 a rfl
    exact ⟨g, by rw [e]⟩
theorem KV.cell {w5 wl wr : World} {T : Nat} {R : List (Option Addr × Nat)} (h : KV w5 wl T R wr) {g n : Nat} (hm : (some ⟨g, 0, none⟩, n) ∈ R) {j : Nat} (hj : j < n) : (∃ v, wr.cell? ⟨g, j, none⟩ = some v) ∧ wr.frozen? ⟨g, j, none⟩ = false := by
  obtain ⟨g', e, _, hc⟩ := (h.rows _ hm).2 _ rfl
  cases e
  exact (hc j hj).2
def Rows14.list (r : Rows14) : List (Option Addr × Nat) := [(r.wL.ao, r.wL.la * 2), (r.wT.ao, r.wT.la * 2), (r.pL.ao, r.pL.la * 2), (r.pT.ao, r.pT.la * 2), (r.nL.ao, r.nL.la * 2), (r.nT.ao, r.nT.la * 2), (r.gL.ao, r.gL.la * 2), (r.gT.ao, r.gT.la * 2), (r.wS.ao, r.wS.la * 3), (r.pS.ao, r.pS.la * 3), (r.hM.ao, r.hM.la * 3), (r.hU.ao, r.hU.la * 3), (r.hD.ao, r.hD.la * 3), (r.hP.ao, r.hP.la * 3)]
theorem slr_nil {α : Type} {R : World → α → List Value → Prop} {sz : Nat} {w : World} {ao : Option Addr} {len cap : Nat} {xs : List α} (h : SlR R sz w ao len cap xs) (k : Nat) : ao = none → len * k = 0 := fun e => by
  have h1 := h.hnil e
  have h2 := h.hcap
  have : len = 0 := by omega
  rw [this, Nat.zero_mul]
theorem KV.start {w5 w : World} {r : Rows14} {o : ShapesV} (h5 : Below w5.heap.size w5 w) (hW : r.Wr w5.heap.size w) (hC : ShapesAt w (o.with r)) : KV w5 w w.heap.size r.list w := by
  refine ⟨h5, fun _ _ _ _ h => h, fun p hp => ?_, Nat.le_refl _⟩
  simp only [Rows14.list, List.mem_cons, List.not_mem_nil, or_false] at hp
  rcases hp with rfl | rfl | rfl | rfl | rfl | rfl | rfl | rfl | rfl | rfl | rfl | rfl | rfl | rfl
  · exact WrB.of hW.wL (slr_nil hC.w.L _)
  · exact WrB.of hW.wT (slr_nil hC.w.T _)
  · exact WrB.of hW.pL (slr_nil hC.p.L _)
  · exact WrB.of hW.pT (slr_nil hC.p.T _)
  · exact WrB.of hW.nL (slr_nil hC.n.L _)
  · exact WrB.of hW.nT (slr_nil hC.n.T _)
  · exact WrB.of hW.gL (slr_nil hC.g.L _)
  · exact WrB.of hW.gT (slr_nil hC.g.T _)
  · exact WrB.of hW.wS (slr_nil hC.w.S _)
  · exact WrB.of hW.pS (slr_nil hC.p.S _)
  · exact WrB.of hW.hM (slr_nil hC.h.M _)
  · exact WrB.of hW.hU (slr_nil hC.h.U _)
  · exact WrB.of hW.hD (slr_nil hC.h.D _)
  · exact WrB.of hW.hP (slr_nil hC.h.P _)
/-- Eight rows of labels, one after the other. -/
def eightL (r : Rows14) : List Value := [.slice r.wL.ao r.wL.la r.wL.ca, .slice r.wT.ao r.wT.la r.wT.ca, .slice r.pL.ao r.pL.la r.pL.ca, .slice r.pT.ao r.pT.la r.pT.ca, .slice r.nL.ao r.nL.la r.nL.ca, .slice r.nT.ao r.nT.la r.nT.ca, .slice r.gL.ao r.gL.la r.gL.ca, .slice r.gT.ao r.gT.la r.gT.ca]
def twoS (r : Rows14) : List Value := [.slice r.wS.ao r.wS.la r.wS.ca, .slice r.pS.ao r.pS.la r.pS.ca]
def twoP (r : Rows14) : List Value := [.slice r.hU.ao r.hU.la r.hU.ca, .slice r.hD.ao r.hD.la r.hD.ca]
theorem row_in {l : List Value} {R : List (Option Addr × Nat)} {sz : Nat} (h : ∀ v ∈ l, ∃ ao la ca, v = .slice ao la ca ∧ (ao, la * sz) ∈ R ∧ la ≤ 1000000) {k : Nat} (hk : k < l.length) : ∃ ao la ca, l[k]? = some (.slice ao la ca) ∧ (ao, la * sz) ∈ R ∧ la ≤ 1000000 := by
  obtain ⟨ao, la, ca, e, h1, h2⟩ := h l[k] (List.getElem_mem hk)
  exact ⟨ao, la, ca, by rw [List.getElem?_eq_getElem hk, e], h1, h2⟩
theorem eight_in (r : Rows14) (hf : r.Few) : ∀ v ∈ eightL r, ∃ ao la ca, v = .slice ao la ca ∧ (ao, la * 2) ∈ r.list ∧ la ≤ 1000000 := by
  intro v hv
  simp only [eightL, List.mem_cons, List.not_mem_nil, or_false] at hv
  rcases hv with rfl | rfl | rfl | rfl | rfl | rfl | rfl | rfl <;> refine ⟨_, _, _, rfl, by simp [Rows14.list], ?_⟩
  · exact hf.wL
  · exact hf.wT
  · exact hf.pL
  · exact hf.pT
  · exact hf.nL
  · exact hf.nT
  · exact hf.gL
  · exact hf.gT
theorem twoS_in (r : Rows14) (hf : r.Few) : ∀ v ∈ twoS r, ∃ ao la ca, v = .slice ao la ca ∧ (ao, la * 3) ∈ r.list ∧ la ≤ 1000000 := by
  intro v hv
  simp only [twoS, List.mem_cons, List.not_mem_nil, or_false] at hv
  rcases hv with rfl | rfl <;> refine ⟨_, _, _, rfl, by simp [Rows14.list], ?_⟩
  · exact hf.wS
  · exact hf.pS
theorem twoP_in (r : Rows14) (hf : r.Few) : ∀ v ∈ twoP r, ∃ ao la ca, v = .slice ao la ca ∧ (ao, la * 3) ∈ r.list ∧ la ≤ 1000000 := by
  intro v hv
  simp only [twoP, List.mem_cons, List.not_mem_nil, or_false] at hv
  rcases hv with rfl | rfl <;> refine ⟨_, _, _, rfl, by simp [Rows14.list], ?_⟩
  · exact hf.hU
  · exact hf.hD
theorem few_like {r s : Rows14} (h : r.Like s) (hf : r.Few) : s.Few :=
  ⟨h.wL.1 ▸ hf.wL, h.wT.1 ▸ hf.wT, h.pL.1 ▸ hf.pL, h.pT.1 ▸ hf.pT, h.nL.1 ▸ hf.nL, h.nT.1 ▸ hf.nT, h.gL.1 ▸ hf.gL, h.gT.1 ▸ hf.gT, h.wS.1 ▸ hf.wS, h.pS.1 ▸ hf.pS, h.hM.1 ▸ hf.hM, h.hU.1 ▸ hf.hU, h.hD.1 ▸ hf.hD, h.hP.1 ▸ hf.hP⟩
end Go.Proofs.Ytmoeddpbmclckaa
