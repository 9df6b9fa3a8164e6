/- An object whose things are short has a short text; a copy's text is the object's. No program. -/
import Derived.Test.YtmoeddpbmclckaaRefShort
import Derived.Test.YtmoeddpbmclckaaRefSame
import Derived.Test.YtmoeddpbmclckaaCloneSpec
namespace Go.Proofs.Ytmoeddpbmclckaa
open Go.ChangeShapes Go.WideShapes Go.ChangeAt Go.RowKit Go.Deep

theorem foldl_size {α : Type} {f : ByteArray → α → ByteArray} {K : Nat} : ∀ (xs : List α) (out : ByteArray), (∀ x ∈ xs, ∀ out, (f out x).size ≤ out.size + K) → (xs.foldl f out).size ≤ out.size + xs.length * K
  | [], out, _ => by simp
  | x :: xs, out, h => by
    have h1 := h x (List.mem_cons_self ..) out
    have h2 := foldl_size xs (f out x) (fun y hy => h y (List.mem_cons_of_mem _ hy))
    rw [List.foldl_cons, List.length_cons, Nat.succ_mul]
    omega
theorem shortL_size {xs : List Label} (h : shortL xs = true) : (labelsS xs).size ≤ 1000000 := by
  unfold shortL at h
  rw [Bool.and_eq_true, List.all_eq_true] at h
  have hl := of_decide_eq_true h.2
  have h2 := foldl_size (f := labS) (K := 512) xs (putS (u64 (xs.length : Int)) 1) (fun x hx out => by
    have hx := h.1 x hx
    simp only [longL, Bool.not_eq_true', Bool.or_eq_false_iff, decide_eq_false_iff_not] at hx
    unfold labS
    rw [ByteArray.size_append, ByteArray.size_append, textS_size, textS_size]
    omega)
  rw [putS_size] at h2
  have : labelsS xs = xs.foldl labS (putS (u64 (xs.length : Int)) 1) := rfl
  rw [this]
  omega
theorem shortA_size {xs : List Require} (h : shortA xs = true) : (asksS xs).size ≤ 1000000 := by
  unfold shortA at h
  rw [Bool.and_eq_true, List.all_eq_true] at h
  have hl := of_decide_eq_true h.2
  have h2 := foldl_size (f := askS) (K := 520) xs (putS (u64 (xs.length : Int)) 1) (fun x hx out => by
    have hx := h.1 x hx
    simp only [longA, Bool.not_eq_true', Bool.or_eq_false_iff, decide_eq_false_iff_not] at hx
    unfold askS
    simp only [ByteArray.size_append, textS_size, intS_size]
    omega)
  rw [putS_size] at h2
  have : asksS xs = xs.foldl askS (putS (u64 (xs.length : Int)) 1) := rfl
  rw [this]
  omega
theorem beh_size {win pick : Int} {xs : List Policy} (h : xs.length ≤ 255) : (behS win pick xs).size ≤ 1000000 := by
  have h2 := foldl_size (f := polS) (K := 100) xs ((intS win ++ intS pick) ++ putS (u64 (xs.length : Int)) 1) (fun x hx out => by
    unfold polS
    simp only [ByteArray.size_append, truthS_size, intS_size]
    omega)
  rw [ByteArray.size_append, ByteArray.size_append, putS_size, intS_size, intS_size] at h2
  have : behS win pick xs = xs.foldl polS ((intS win ++ intS pick) ++ putS (u64 (xs.length : Int)) 1) := rfl
  rw [this]
  omega
theorem short_text {kd : Int} {nm : ByteArray} {ver : Int} {o : ShapesV} {w : World} (hS : ShapesAt w o) (h : shortO kd nm o = true) : (objS kd nm ver o).size ≤ 9223372036854775807 := by
  unfold shortO at h
  rw [Bool.and_eq_true] at h
  have hn : nm.size ≤ 255 := by
    have := h.1
    simp only [Bool.not_eq_true', decide_eq_false_iff_not] at this
    omega
  have hh : (headS kd nm ver).size ≤ 300 := by rw [headS_size]; omega
  have hk := h.2
  clear h
  unfold shortK at hk
  unfold objS
  split
  · rename_i e
    rw [if_pos e] at hk
    simp only [Bool.and_eq_true] at hk
    have l1 := shortL_size hk.1.1; have l2 := shortA_size hk.1.2; have l3 := shortL_size hk.2
    simp only [wlS, ByteArray.size_append, intS_size, resS_size]
    omega
  rename_i e
  rw [if_neg e] at hk
  split
  · rename_i e
    rw [if_pos e] at hk
    simp only [Bool.and_eq_true, decide_eq_true_eq] at hk
    have l1 := shortL_size hk.1.1.2; have l2 := shortA_size hk.1.2; have l3 := shortL_size hk.2
    have s1 := hk.1.1.1.1; have s2 := hk.1.1.1.2
    simp only [podS, ByteArray.size_append, intS_size, resS_size, textS_size]
    omega
  rename_i e
  rw [if_neg e] at hk
  split
  · rename_i e
    rw [if_pos e] at hk
    simp only [Bool.and_eq_true, decide_eq_true_eq] at hk
    have l1 := shortL_size hk.1.2; have l3 := shortL_size hk.2
    have s1 := hk.1.1
    simp only [nodeS, ByteArray.size_append, intS_size, resS_size, textS_size, truthS_size]
    omega
  rename_i e
  rw [if_neg e] at hk
  split
  · rename_i e
    rw [if_pos e] at hk
    simp only [Bool.and_eq_true] at hk
    have l1 := shortL_size hk.1; have l3 := shortL_size hk.2
    simp only [groupS, ByteArray.size_append, intS_size, resS_size]
    omega
  · rename_i e
    rw [if_neg e] at hk
    simp only [Bool.and_eq_true, decide_eq_true_eq, List.all_eq_true] at hk
    obtain ⟨hm, ⟨⟨⟨s1, s2⟩, s3⟩, s4⟩, s5⟩ := hk
    have g1 := hS.h.M.hlen; have g2 := hS.h.P.hlen; have g3 := hS.h.U.hlen; have g4 := hS.h.D.hlen
    have u1 := beh_size (win := o.h.up.win) (pick := o.h.up.pick) (xs := o.h.up.P.xs) (by omega)
    have u2 := beh_size (win := o.h.down.win) (pick := o.h.down.pick) (xs := o.h.down.P.xs) (by omega)
    have f1 := foldl_size (f := metS) (K := 300) o.h.M.xs (hpa1S (headS kd nm ver) o.h) (fun x hx out => by
      have hx := hm x hx
      simp only [longM, Bool.not_eq_true', decide_eq_false_iff_not] at hx
      simp only [metS, ByteArray.size_append, textS_size, intS_size]
      omega)
    have f0 : (hpa1S (headS kd nm ver) o.h).size ≤ 1000 := by
      simp only [hpa1S, ByteArray.size_append, textS_size, intS_size, putS_size]
      omega
    have f2 : (hpa2S (o.h.M.xs.foldl metS (hpa1S (headS kd nm ver) o.h)) o.h).size ≤ 10000000 := by
      simp only [hpa2S, ByteArray.size_append, intS_size, putS_size]
      omega
    have f3 := foldl_size (f := scS) (K := 300) o.h.past.xs (hpa2S (o.h.M.xs.foldl metS (hpa1S (headS kd nm ver) o.h)) o.h) (fun x hx out => by
      simp only [scS, ByteArray.size_append, intS_size]
      omega)
    unfold hpaS
    omega
theorem like_text {kd : Int} {nm : ByteArray} {ver : Int} {o : ShapesV} {r : Rows14} (h : o.rows.Like r) : objS kd nm ver (o.with r) = objS kd nm ver o := by
  obtain ⟨⟨a1, b1⟩, ⟨a2, b2⟩, ⟨a3, b3⟩, ⟨a4, b4⟩, ⟨a5, b5⟩, ⟨a6, b6⟩, ⟨a7, b7⟩, ⟨a8, b8⟩, ⟨a9, b9⟩, ⟨a10, b10⟩, ⟨a11, b11⟩, ⟨a12, b12⟩, ⟨a13, b13⟩, ⟨a14, b14⟩⟩ := h
  simp only [ShapesV.rows] at a1 b1 a2 b2 a3 b3 a4 b4 a5 b5 a6 b6 a7 b7 a8 b8 a9 b9 a10 b10 a11 b11 a12 b12 a13 b13 a14 b14
  simp only [objS, wlS, podS, nodeS, groupS, hpaS, hpa2S, hpa1S, ShapesV.with, a11, a14, b1, b2, b3, b4, b5, b6, b7, b8, b9, b10, b11, b12, b13, b14]
theorem same_like {kd : Int} {nm : ByteArray} {ver : Int} {o : ShapesV} {r : Rows14} (h : o.rows.Like r) : sameB kd nm ver o kd nm ver (o.with r) = true := by
  unfold sameB
  rw [like_text h, strB_is]
  unfold flatB
  rw [strB_is]
  split <;> simp

/-- The cells of a row of the call's own: there, not frozen, in a new block. -/
def WrOk (B : Nat) (w : World) (ao : Option Addr) (n : Nat) : Prop := ∀ a, ao = some a → ∃ g, a = ⟨g, 0, none⟩ ∧ B ≤ g ∧ ∀ j, j < n → (∃ v, w.cell? ⟨g, j, none⟩ = some v) ∧ w.frozen? ⟨g, j, none⟩ = false
theorem WrOk.set {B : Nat} {w : World} {ao : Option Addr} {n : Nat} (h : WrOk B w ao n) (p : Addr) (v : Value) : WrOk B (w.setCell p v) ao n := fun a ha => by
  obtain ⟨g, e, hg, hc⟩ := h a ha
  refine ⟨g, e, hg, fun j hj => ?_⟩
  obtain ⟨⟨u, hu⟩, hf⟩ := hc j hj
  refine ⟨?_, by rw [World.frozen?_setCell]; exact hf⟩
  by_cases hp : p = ⟨g, j, none⟩
  · subst hp; exact ⟨v, World.cell?_setCell_same w _ v hu⟩
  · exact ⟨u, (World.cell?_setCell_other w _ _ v hp).trans hu⟩
theorem WrOk.below {B : Nat} {w w' : World} {ao : Option Addr} {n : Nat} (h : WrOk B w ao n) (hb : Below w.heap.size w w') : WrOk B w' ao n := fun a ha => by
  obtain ⟨g, e, hg, hc⟩ := h a ha
  refine ⟨g, e, hg, fun j hj => ?_⟩
  obtain ⟨⟨u, hu⟩, hf⟩ := hc j hj
  exact ⟨⟨u, Keeps.below hb _ _ hu⟩, by rw [hb.frozen (World.block_lt_of_cell? w _ hu)]; exact hf⟩
theorem WrOk.own {B : Nat} {w : World} {e : TypeId} {sz la ca : Nat} {ao : Option Addr} {xs : List Value} (h : w.ownsRow B e sz (.slice ao la ca) la xs) : WrOk B w ao (la * sz) := fun a ha => by
  subst ha
  rcases h.2 with ⟨e1, _⟩ | ⟨g, cap, cur, e1, hg, hb, hn, _, hsz, _⟩
  · cases e1
  · cases e1
    refine ⟨g, rfl, hg, fun j hj => ?_⟩
    have hm : la * sz ≤ ca * sz := Nat.mul_le_mul_right _ hn
    have hlt : j < cur.size := by omega
    exact ⟨⟨cur[j], by simp [World.cell?, hb, hlt]⟩, by simp [World.frozen?, hb]⟩
structure Rows14.Wr (r : Rows14) (B : Nat) (w : World) : Prop where
  wL : WrOk B w r.wL.ao (r.wL.la * 2)
  wT : WrOk B w r.wT.ao (r.wT.la * 2)
  pL : WrOk B w r.pL.ao (r.pL.la * 2)
  pT : WrOk B w r.pT.ao (r.pT.la * 2)
  nL : WrOk B w r.nL.ao (r.nL.la * 2)
  nT : WrOk B w r.nT.ao (r.nT.la * 2)
  gL : WrOk B w r.gL.ao (r.gL.la * 2)
  gT : WrOk B w r.gT.ao (r.gT.la * 2)
  wS : WrOk B w r.wS.ao (r.wS.la * 3)
  pS : WrOk B w r.pS.ao (r.pS.la * 3)
  hM : WrOk B w r.hM.ao (r.hM.la * 3)
  hU : WrOk B w r.hU.ao (r.hU.la * 3)
  hD : WrOk B w r.hD.ao (r.hD.la * 3)
  hP : WrOk B w r.hP.ao (r.hP.la * 3)
theorem Rows14.Own.wr {r : Rows14} {B : Nat} {w : World} (h : r.Own B w) : r.Wr B w := ⟨WrOk.own h.wL, WrOk.own h.wT, WrOk.own h.pL, WrOk.own h.pT, WrOk.own h.nL, WrOk.own h.nT, WrOk.own h.gL, WrOk.own h.gT, WrOk.own h.wS, WrOk.own h.pS, WrOk.own h.hM, WrOk.own h.hU, WrOk.own h.hD, WrOk.own h.hP⟩
theorem Rows14.Wr.set {r : Rows14} {B : Nat} {w : World} (h : r.Wr B w) (p : Addr) (v : Value) : r.Wr B (w.setCell p v) := ⟨h.wL.set p v, h.wT.set p v, h.pL.set p v, h.pT.set p v, h.nL.set p v, h.nT.set p v, h.gL.set p v, h.gT.set p v, h.wS.set p v, h.pS.set p v, h.hM.set p v, h.hU.set p v, h.hD.set p v, h.hP.set p v⟩
theorem Rows14.Wr.below {r : Rows14} {B : Nat} {w w' : World} (h : r.Wr B w) (hb : Below w.heap.size w w') : r.Wr B w' := ⟨h.wL.below hb, h.wT.below hb, h.pL.below hb, h.pT.below hb, h.nL.below hb, h.nT.below hb, h.gL.below hb, h.gT.below hb, h.wS.below hb, h.pS.below hb, h.hM.below hb, h.hU.below hb, h.hD.below hb, h.hP.below hb⟩
theorem row_own {α : Type} {f : α → List Value} {sz B : Nat} {e : TypeId} {w : World} {r s : RowV α} (hf : ∀ x, (f x).length = sz) (h : w.ownsRow B e sz (.slice r.ao r.la r.ca) r.la (r.xs.flatMap f)) (hL : s.Like r) (hs : s.xs.length = s.la) : SlR (Flat f) sz w r.ao r.la r.ca r.xs := by
  obtain ⟨ao, cap, e1, hS, -⟩ := SlR.of_owns h (by rw [hL.2, hs, hL.1]) hf
  injection e1 with e1 e2 e3
  rw [e1, e3]
  exact hS
theorem Rows14.Own.shapes {r : Rows14} {B : Nat} {w0 w : World} {o : ShapesV} (h : r.Own B w) (hL : o.rows.Like r) (hS : ShapesAt w0 o) : ShapesAt w (o.with r) :=
  ⟨⟨row_own (fun _ => rfl) h.wL hL.wL hS.w.L.hlen, row_own (fun _ => rfl) h.wS hL.wS hS.w.S.hlen, row_own (fun _ => rfl) h.wT hL.wT hS.w.T.hlen⟩,
   ⟨row_own (fun _ => rfl) h.pL hL.pL hS.p.L.hlen, row_own (fun _ => rfl) h.pS hL.pS hS.p.S.hlen, row_own (fun _ => rfl) h.pT hL.pT hS.p.T.hlen⟩,
   ⟨row_own (fun _ => rfl) h.nL hL.nL hS.n.L.hlen, row_own (fun _ => rfl) h.nT hL.nT hS.n.T.hlen⟩,
   ⟨row_own (fun _ => rfl) h.gL hL.gL hS.g.L.hlen, row_own (fun _ => rfl) h.gT hL.gT hS.g.T.hlen⟩,
   ⟨row_own (fun _ => rfl) h.hM hL.hM hS.h.M.hlen, row_own (fun _ => rfl) h.hU hL.hU hS.h.U.hlen, row_own (fun _ => rfl) h.hD hL.hD hS.h.D.hlen, row_own (fun _ => rfl) h.hP hL.hP hS.h.P.hlen⟩⟩
end Go.Proofs.Ytmoeddpbmclckaa
