/- ScrapePlays: whatever is scraped and forgotten, each answer, and what is fresh of each series at any tick, is what the document says; a copy goes on by itself. Conditions: none. -/
import Derived.Test.YtoamjihchmokcaaSplays
import Derived.Test.YtoamjihchmokcaaScrapePlaysLift
namespace Go.Proofs.Ytoamjihchmokcaa
open Go.ChangeShapes Go.WideShapes Go.ChangeAt Go.RowKit Go.Deep Go.Maps

instance : Inhabited ActV := ⟨⟨0, 0, ⟨#[]⟩, ⟨#[]⟩, 0⟩⟩

theorem slR_split {α : Type} {f : α → List Value} {P : α → Prop} {sz : Nat} {w : World} {ao : Option Addr} {n cap : Nat} {xs : List α} (h : SlR (fun w x c => Flat f w x c ∧ P x) sz w ao n cap xs) : SlR (Flat f) sz w ao n cap xs ∧ ∀ x ∈ xs, P x := by
  refine ⟨⟨h.hlen, h.hcap, h.hmax, h.hnil, fun a e i hi => ?_⟩, fun x hx => ?_⟩
  · obtain ⟨c, h1, h2, h3⟩ := h.hat a e i hi
    exact ⟨c, h1, h2, h3.1⟩
  · obtain ⟨i, hi, rfl⟩ := List.getElem_of_mem hx
    cases ao with
    | none =>
      have h1 := h.hnil rfl
      have h2 := h.hlen
      have h3 := h.hcap
      omega
    | some a =>
      obtain ⟨_, _, _, h3⟩ := h.hat a rfl i hi
      exact h3.2
theorem actV_of (w : World) (c : List Value) (h : Rel (.pair (.int .i64) (.pair (.int .i64) (.pair (.pair (.str) (.pair (.str) (.unit))) (.pair (.int .u64) (.unit))))) w c) : ∃ x : ActV, Flat ActV.cells w x c ∧ (x.s.size ≤ maxLen ∧ x.m.size ≤ maxLen ∧ x.bits < 18446744073709551616) := by
  obtain ⟨_, _, rfl, _, ⟨n1, rfl, _⟩, _, _, rfl, _, ⟨n2, rfl, _⟩, _, _, rfl, _, ⟨_, _, rfl, _, ⟨s1, rfl, h1⟩, _, _, rfl, _, ⟨s2, rfl, h2⟩, rfl⟩, _, _, rfl, _, ⟨n3, rfl, hw⟩, rfl⟩ := h
  simp [Lit.wf, IntKind.min, IntKind.max, IntKind.signed, IntKind.bits] at hw
  obtain ⟨k, rfl⟩ : ∃ k : Nat, n3 = k := ⟨n3.toNat, by omega⟩
  exact ⟨⟨n1, n2, s1, s2, k⟩, rfl, h1, h2, show k < _ by omega⟩
theorem lookV_of (w : World) (c : List Value) (h : Rel (.int .i64) w c) : ∃ x : Int, Flat (fun x : Int => [.int .i64 x]) w x c ∧ x ≤ 9223372036854775807 := by
  obtain ⟨n, rfl, h2⟩ := h
  refine ⟨n, rfl, ?_⟩
  simp [Lit.wf, IntKind.min, IntKind.max, IntKind.signed, IntKind.bits] at h2
  omega
theorem ScrapePlays_holds : Rows.ScrapePlaysSaid := lScrapePlays.over fun a b1 n1 k1 b2 n2 k2 w h0 h1 h2 => by
  obtain ⟨_, _, _, l, e1, hS⟩ := SlR.of_rel (R := fun w x c => Flat ActV.cells w x c ∧ (x.s.size ≤ maxLen ∧ x.m.size ≤ maxLen ∧ x.bits < 18446744073709551616)) h1 (fun c hc => actV_of w c hc)
  obtain ⟨_, _, _, ks, e2, hK⟩ := SlR.of_rel (R := fun w x c => Flat (fun x : Int => [.int .i64 x]) w x c ∧ x ≤ 9223372036854775807) h2 (fun c hc => lookV_of w c hc)
  simp [Value.cells] at e1 e2
  obtain ⟨rfl, rfl, rfl⟩ := e1
  obtain ⟨rfl, rfl, rfl⟩ := e2
  obtain ⟨_, _, e0, _, ⟨m0, rfl, _⟩, _, _, rfl, _, ⟨m1, rfl, _⟩, rfl⟩ := h0
  have e0 : a = #[.int .i64 m0, .int .i64 m1] := by
    have : a.toList = [.int .i64 m0, .int .i64 m1] := e0
    rw [← Array.toArray_toList (xs := a), this]
  subst e0
  exact splays_core m0 m1 l ks _ _ _ _ _ _ w (slR_split hS).1 (slR_split hS).2 (slR_split hK).1 (slR_split hK).2
end Go.Proofs.Ytoamjihchmokcaa
