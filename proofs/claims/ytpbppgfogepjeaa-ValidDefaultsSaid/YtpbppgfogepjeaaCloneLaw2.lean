/- A copy's text is the object's; a copy's rows read. No program's function. (Parts of XCloneLaw without Short.) -/
import Derived.Test.YtpbppgfogepjeaaRefSame
import Derived.Test.YtpbppgfogepjeaaAppendM
namespace Go.Proofs.Ytpbppgfogepjeaa
open Go.ChangeShapes Go.WideShapes Go.ChangeAt Go.RowKit Go.Deep

theorem foldl_size {α : Type} {f : ByteArray → α → ByteArray} {K : Nat} : ∀ (xs : List α) (out : ByteArray), (∀ x ∈ xs, ∀ out, (f out x).size ≤ out.size + K) → (xs.foldl f out).size ≤ out.size + xs.length * K
  | [], out, _ => by simp
  | x :: xs, out, h => by
    have h1 := h x (List.mem_cons_self ..) out
    have h2 := foldl_size xs (f out x) (fun y hy => h y (List.mem_cons_of_mem _ hy))
    rw [List.foldl_cons, List.length_cons, Nat.succ_mul]
    omega
theorem beh_size {win pick : Int} {xs : List Policy} (h : xs.length ≤ 255) : (behS win pick xs).size ≤ 1000000 := by
  have h2 := foldl_size (f := polS) (K := 100) xs ((intS win ++ intS pick) ++ putS (u64 (xs.length : Int)) 1) (fun x hx out => by
    unfold polS
    simp only [ByteArray.size_append, truthS_size, intS_size]
    omega)
  rw [ByteArray.size_append, ByteArray.size_append, putS_size, intS_size, intS_size] at h2
  have : behS win pick xs = xs.foldl polS ((intS win ++ intS pick) ++ putS (u64 (xs.length : Int)) 1) := rfl
  rw [this]
  omega
theorem like_text {kd : Int} {nm : ByteArray} {ver : Int} {o : ShapesV} {r : Rows14} (h : o.rows.Like r) : objS kd nm ver (o.with r) = objS kd nm ver o := by
  obtain ⟨⟨a1, b1⟩, ⟨a2, b2⟩, ⟨a3, b3⟩, ⟨a4, b4⟩, ⟨a5, b5⟩, ⟨a6, b6⟩, ⟨a7, b7⟩, ⟨a8, b8⟩, ⟨a9, b9⟩, ⟨a10, b10⟩, ⟨a11, b11⟩, ⟨a12, b12⟩, ⟨a13, b13⟩, ⟨a14, b14⟩⟩ := h
  simp only [ShapesV.rows] at a1 b1 a2 b2 a3 b3 a4 b4 a5 b5 a6 b6 a7 b7 a8 b8 a9 b9 a10 b10 a11 b11 a12 b12 a13 b13 a14 b14
  simp only [objS, wlS, podS, nodeS, groupS, hpaS, hpa2S, hpa1S, ShapesV.with, a11, a14, b1, b2, b3, b4, b5, b6, b7, b8, b9, b10, b11, b12, b13, b14]
theorem row_own {α : Type} {f : α → List Value} {sz B : Nat} {e : TypeId} {w : World} {r s : RowV α} (hf : ∀ x, (f x).length = sz) (h : w.ownsRow B e sz (.slice r.ao r.la r.ca) r.la (r.xs.flatMap f)) (hL : s.Like r) (hs : s.xs.length = s.la) : SlR (Flat f) sz w r.ao r.la r.ca r.xs := by
  obtain ⟨ao, cap, e1, hS, -⟩ := SlR.of_owns h (by rw [hL.2, hs, hL.1]) hf
  injection e1 with e1 e2 e3
  rw [e1, e3]
  exact hS
theorem Rows14.Own.shapes {r : Rows14} {B : Nat} {w0 w : World} {o : ShapesV} (h : r.Own B w) (hL : o.rows.Like r) (hS : ShapesAt w0 o) : ShapesAt w (o.with r) :=
  ⟨⟨row_own (fun _ => rfl) h.wL hL.wL hS.w.L.hlen, row_own (fun _ => rfl) h.wS hL.wS hS.w.S.hlen, row_own (fun _ => rfl) h.wT hL.wT hS.w.T.hlen⟩,
   ⟨row_own (fun _ => rfl) h.pL hL.pL hS.p.L.hlen, row_own (fun _ => rfl) h.pS hL.pS hS.p.S.hlen, row_own (fun _ => rfl) h.pT hL.pT hS.p.T.hlen⟩,
   ⟨row_own (fun _ => rfl) h.nL hL.nL hS.n.L.hlen, row_own (fun _ => rfl) h.nT hL.nT hS.n.T.hlen⟩,
   ⟨row_own (fun _ => rfl) h.gL hL.gL hS.g.L.hlen, row_own (fun _ => rfl) h.gT hL.gT hS.g.T.hlen⟩,
   ⟨row_own (fun _ => rfl) h.hM hL.hM hS.h.M.hlen, row_own (fun _ => rfl) h.hU hL.hU hS.h.U.hlen, row_own (fun _ => rfl) h.hD hL.hD hS.h.D.hlen, row_own (fun _ => rfl) h.hP hL.hP hS.h.P.hlen⟩⟩
end Go.Proofs.Ytpbppgfogepjeaa
