/- No text of an object is too long, by the form's reach. Conditions: few things in each row. -/
import Derived.Test.YtpbppgfogepjeaaCloneLaw2
import Derived.Test.YtpbppgfogepjeaaAppendM
import Derived.Test.YtpbppgfogepjeaaObjBound
import Derived.Test.YtpbppgfogepjeaaObI
namespace Go.Proofs.Ytpbppgfogepjeaa
open Go.ChangeShapes Go.WideShapes Go.ChangeAt Go.RowKit Go.Deep

def BigL (xs : List Label) : Prop := xs.length ≤ 100 ∧ ∀ x ∈ xs, x.key.size ≤ 140737488351232 ∧ x.val.size ≤ 140737488351232
def BigA (xs : List Require) : Prop := xs.length ≤ 100 ∧ ∀ x ∈ xs, x.key.size ≤ 140737488351232 ∧ x.val.size ≤ 140737488351232
def BigM (xs : List Metric) : Prop := xs.length ≤ 100 ∧ ∀ x ∈ xs, x.name.size ≤ 140737488351232
structure Big (nm : ByteArray) (o : ShapesV) : Prop where
  nm : nm.size ≤ 140737488351232
  wL : BigL o.w.L.xs
  wS : BigA o.w.S.xs
  wT : BigL o.w.T.xs
  pO : o.p.owner.size ≤ 140737488351232
  pN : o.p.node.size ≤ 140737488351232
  pL : BigL o.p.L.xs
  pS : BigA o.p.S.xs
  pT : BigL o.p.T.xs
  nG : o.n.group.size ≤ 140737488351232
  nL : BigL o.n.L.xs
  nT : BigL o.n.T.xs
  gL : BigL o.g.L.xs
  gT : BigL o.g.T.xs
  hT : o.h.target.size ≤ 140737488351232
  hM : BigM o.h.M.xs
  hU : o.h.up.P.xs.length ≤ 100
  hD : o.h.down.P.xs.length ≤ 100
  hP : o.h.past.xs.length ≤ 100
theorem labels_big {xs : List Label} (h : BigL xs) : (labelsS xs).size ≤ 28147497670246700 := by
  have h2 := foldl_size (f := labS) (K := 281474976702466) xs (putS (u64 (xs.length : Int)) 1) (fun x hx out => by
    have hx := h.2 x hx
    unfold labS
    rw [ByteArray.size_append, ByteArray.size_append, textS_size, textS_size]
    omega)
  rw [putS_size] at h2
  have : labelsS xs = xs.foldl labS (putS (u64 (xs.length : Int)) 1) := rfl
  rw [this]
  have := h.1
  omega
theorem asks_big {xs : List Require} (h : BigA xs) : (asksS xs).size ≤ 28147497670247500 := by
  have h2 := foldl_size (f := askS) (K := 281474976702474) xs (putS (u64 (xs.length : Int)) 1) (fun x hx out => by
    have hx := h.2 x hx
    unfold askS
    simp only [ByteArray.size_append, textS_size, intS_size]
    omega)
  rw [putS_size] at h2
  have : asksS xs = xs.foldl askS (putS (u64 (xs.length : Int)) 1) := rfl
  rw [this]
  have := h.1
  omega
theorem big_text {kd : Int} {nm : ByteArray} {ver : Int} {o : ShapesV} (h : Big nm o) : (objS kd nm ver o).size ≤ 9223372036854775807 := by
  have hh : (headS kd nm ver).size ≤ 140737488351300 := by rw [headS_size]; have := h.nm; omega
  have w1 := labels_big h.wL; have w2 := asks_big h.wS; have w3 := labels_big h.wT
  have p1 := labels_big h.pL; have p2 := asks_big h.pS; have p3 := labels_big h.pT
  have n1 := labels_big h.nL; have n2 := labels_big h.nT; have g1 := labels_big h.gL; have g2 := labels_big h.gT
  have s1 := h.pO; have s2 := h.pN; have s3 := h.nG; have s4 := h.hT
  unfold objS
  split
  · simp only [wlS, ByteArray.size_append, intS_size, resS_size]
    omega
  split
  · simp only [podS, ByteArray.size_append, intS_size, resS_size, textS_size]
    omega
  split
  · simp only [nodeS, ByteArray.size_append, intS_size, resS_size, textS_size, truthS_size]
    omega
  split
  · simp only [groupS, ByteArray.size_append, intS_size, resS_size]
    omega
  · clear w1 w2 w3 p1 p2 p3 n1 n2 g1 g2
    have u1 := beh_size (win := o.h.up.win) (pick := o.h.up.pick) (xs := o.h.up.P.xs) (by have := h.hU; omega)
    have u2 := beh_size (win := o.h.down.win) (pick := o.h.down.pick) (xs := o.h.down.P.xs) (by have := h.hD; omega)
    have f1 := foldl_size (f := metS) (K := 140737488351300) o.h.M.xs (hpa1S (headS kd nm ver) o.h) (fun x hx out => by
      have hx := h.hM.2 x hx
      simp only [metS, ByteArray.size_append, textS_size, intS_size]
      omega)
    have m1 := h.hM.1
    have f0 : (hpa1S (headS kd nm ver) o.h).size ≤ 300000000000000 := by
      simp only [hpa1S, ByteArray.size_append, textS_size, intS_size, putS_size]
      omega
    have f2 : (hpa2S (o.h.M.xs.foldl metS (hpa1S (headS kd nm ver) o.h)) o.h).size ≤ 20000000000000000 := by
      simp only [hpa2S, ByteArray.size_append, intS_size, putS_size]
      omega
    have f3 := foldl_size (f := scS) (K := 300) o.h.past.xs (hpa2S (o.h.M.xs.foldl metS (hpa1S (headS kd nm ver) o.h)) o.h) (fun x hx out => by
      simp only [scS, ByteArray.size_append, intS_size]
      omega)
    have m2 := h.hP
    unfold hpaS
    omega

theorem bd_row {e : Sh} {α : Type} {f : α → List Value} {w : World} {ao : Option Addr} {la ca : Nat} {xs : List α} (hS : SlR (Flat f) e.size w ao la ca xs) (hb : Bd (.slice e) w [.slice ao la ca]) : ∀ x ∈ xs, Bd e w (f x) := by
  intro x hx
  obtain ⟨k, hk, rfl⟩ := List.getElem_of_mem hx
  obtain ⟨ao', la', ca', e1, _, hr⟩ := hb
  cases e1
  cases ao with
  | none => have := hS.hnil rfl; have := hS.hcap; have := hS.hlen; omega
  | some a =>
    obtain ⟨c, h1, h2, h3⟩ := hS.hat a rfl k hk
    have h3 : c = f xs[k] := h3
    obtain ⟨c', g1, g2, g3⟩ := hr a rfl k (by have := hS.hlen; omega)
    have : c' = f xs[k] := by
      rw [← h3]
      apply List.ext_getElem (by omega)
      intro j hj hj'
      have q1 := g2 j _ (List.getElem?_eq_getElem hj)
      have q2 := h2 j _ (List.getElem?_eq_getElem hj')
      exact Option.some.inj (q1.symm.trans q2)
    rwa [← this]
theorem bd_at {s e : Sh} {w : World} {cs : List Value} {i : Nat} {ao : Option Addr} {la ca : Nat} (h : Bd s w cs) (hi : leafAt s i = some (.slice e)) (hc : cs[i]? = some (.slice ao la ca)) : Bd (.slice e) w [.slice ao la ca] := by
  obtain ⟨v, e1, h1⟩ := Bd.leaf i h hi
  rw [hc] at e1
  cases e1
  exact h1
theorem bigL_of {w : World} {r : RowV Label} (hS : RowL w r) (hb : Bd (.slice shLabel) w [.slice r.ao r.la r.ca]) (hn : r.la ≤ 100) : BigL r.xs :=
  ⟨by have := hS.hlen; omega, fun x hx => ⟨bd_str (i := 0) (bd_row (e := shLabel) (f := Label.cells) hS hb x hx) rfl rfl, bd_str (i := 1) (bd_row (e := shLabel) (f := Label.cells) hS hb x hx) rfl rfl⟩⟩
theorem bigA_of {w : World} {r : RowV Require} (hS : RowS w r) (hb : Bd (.slice shRequire) w [.slice r.ao r.la r.ca]) (hn : r.la ≤ 100) : BigA r.xs :=
  ⟨by have := hS.hlen; omega, fun x hx => ⟨bd_str (i := 0) (bd_row (e := shRequire) (f := Require.cells) hS hb x hx) rfl rfl, bd_str (i := 1) (bd_row (e := shRequire) (f := Require.cells) hS hb x hx) rfl rfl⟩⟩
theorem bigM_of {w : World} {r : RowV Metric} (hS : RowM w r) (hb : Bd (.slice shMetric) w [.slice r.ao r.la r.ca]) (hn : r.la ≤ 100) : BigM r.xs :=
  ⟨by have := hS.hlen; omega, fun x hx => bd_str (i := 1) (bd_row (e := shMetric) (f := Metric.cells) hS hb x hx) rfl rfl⟩
theorem big_of {x : ObI} {w : World} (hb : Bd shObj w x.cells) (hS : ShapesAt w x.o) (f : Few30 x.o) : Big x.nm x.o := by
  have hs := f.sum
  exact ⟨bd_str (i := 1) hb (by kernel_rfl) x.h1, bigL_of hS.w.L (bd_at (i := 6) hb (by kernel_rfl) rfl) (by have := f.h0; omega), bigA_of hS.w.S (bd_at (i := 7) hb (by kernel_rfl) rfl) (by omega), bigL_of hS.w.T (bd_at (i := 8) hb (by kernel_rfl) rfl) (by have := f.h1; omega),
    bd_str (i := 10) hb (by kernel_rfl) x.h10, bd_str (i := 11) hb (by kernel_rfl) x.h11, bigL_of hS.p.L (bd_at (i := 16) hb (by kernel_rfl) rfl) (by have := f.h2; omega), bigA_of hS.p.S (bd_at (i := 17) hb (by kernel_rfl) rfl) (by omega), bigL_of hS.p.T (bd_at (i := 18) hb (by kernel_rfl) rfl) (by have := f.h3; omega),
    bd_str (i := 20) hb (by kernel_rfl) x.h20, bigL_of hS.n.L (bd_at (i := 23) hb (by kernel_rfl) rfl) (by have := f.h4; omega), bigL_of hS.n.T (bd_at (i := 24) hb (by kernel_rfl) rfl) (by have := f.h5; omega),
    bigL_of hS.g.L (bd_at (i := 32) hb (by kernel_rfl) rfl) (by have := f.h6; omega), bigL_of hS.g.T (bd_at (i := 33) hb (by kernel_rfl) rfl) (by have := f.h7; omega),
    bd_str (i := 35) hb (by kernel_rfl) x.h35, bigM_of hS.h.M (bd_at (i := 38) hb (by kernel_rfl) rfl) (by omega), by have := hS.h.U.hlen; omega, by have := hS.h.D.hlen; omega, by have := hS.h.P.hlen; omega⟩
theorem big_def {nm : ByteArray} {o : ShapesV} (kd : Int) (h : Big nm o) : Big nm (defV kd o) := by
  unfold defV
  split
  · refine ⟨h.nm, h.wL, h.wS, h.wT, h.pO, h.pN, h.pL, h.pS, h.pT, h.nG, h.nL, h.nT, h.gL, h.gT, h.hT, h.hM, ?_, ?_, h.hP⟩
    · show (rowU o.h.up).xs.length ≤ 100
      unfold rowU
      split
      · decide
      · exact h.hU
    · show (rowD o.h.down).xs.length ≤ 100
      unfold rowD
      split
      · decide
      · exact h.hD
  · split
    · exact ⟨h.nm, h.wL, h.wS, h.wT, h.pO, h.pN, h.pL, h.pS, h.pT, h.nG, h.nL, h.nT, h.gL, h.gT, h.hT, h.hM, h.hU, h.hD, h.hP⟩
    · exact h
end Go.Proofs.Ytpbppgfogepjeaa
