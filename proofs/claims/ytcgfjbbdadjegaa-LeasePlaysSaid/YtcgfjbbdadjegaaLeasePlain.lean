/- The plain law of the leases: what an act leaves, and whom it does not let in. No program. -/
import Derived.Test.YtcgfjbbdadjegaaLease5
namespace Go.Proofs.Ytcgfjbbdadjegaa
open Go.Maps

/-- An act leaves all but one name, and keeps what is there. -/
structure OnlyAt (b b' : Bd) (s : List UInt8) : Prop where
  other : ∀ t, t ≠ s → b'.f t = b.f t
  stays : (b.f s).isSome = true → (b'.f s).isSome = true
  size : b'.n ≤ b.n + 1

theorem OnlyAt.refl (b : Bd) (s : List UInt8) : OnlyAt b b s := ⟨fun _ _ => rfl, id, by omega⟩
theorem OnlyAt.putAt (b : Bd) (s : List UInt8) (l : Lease) : OnlyAt b (b.putAt s l) s :=
  ⟨fun t h => sset_other _ _ h, fun _ => by simp [Bd.putAt, sset_same], by unfold Bd.putAt; dsimp only; split <;> omega⟩
theorem putAt_same (b : Bd) (s : List UInt8) (l : Lease) : (b.putAt s l).f s = some l := sset_same _ _ _

theorem take_cases (b : Bd) (name holder : ByteArray) (now ticks : Int) :
    ((takeOf b name holder now ticks).2.1 ≠ 0 ∧ (takeOf b name holder now ticks).2.2 = b) ∨
    ((takeOf b name holder now ticks).2.1 = 0 ∧ ∃ l : Lease, (takeOf b name holder now ticks).1 = l ∧ (takeOf b name holder now ticks).2.2 = b.putAt name.data.toList l ∧ l.holder = holder ∧ l.till = now + ticks ∧ 1 ≤ ticks ∧
      ∀ x, b.f name.data.toList = some x → x.holder ≠ holder → ¬ now < x.till) := by
  unfold takeOf
  by_cases hr : rightOf name holder now ticks = 0
  · have hg := right_range hr
    rw [if_pos hr]
    cases hf : b.f name.data.toList with
    | none =>
      dsimp only
      by_cases h5 : 512 ≤ b.n
      · rw [if_pos h5]; exact .inl ⟨(fun h => by cases h), rfl⟩
      · rw [if_neg h5]; exact .inr ⟨rfl, _, rfl, rfl, rfl, rfl, hg.2.2.1, fun x e => by cases e⟩
    | some l =>
      dsimp only
      by_cases hh : l.holder = holder
      · rw [if_pos hh]
        exact .inr ⟨rfl, _, rfl, rfl, rfl, rfl, hg.2.2.1, fun x e hx => by cases e; exact absurd hh hx⟩
      · rw [if_neg hh]
        by_cases hn : now < l.till
        · rw [if_pos hn]; exact .inl ⟨(fun h => by cases h), rfl⟩
        · rw [if_neg hn]; exact .inr ⟨rfl, _, rfl, rfl, rfl, rfl, hg.2.2.1, fun x e _ => by cases e; exact hn⟩
  · rw [if_neg hr]; exact .inl ⟨hr, rfl⟩

theorem own_cases (b : Bd) (name holder : ByteArray) (now : Int) :
    (ownOf b name holder now).2 ≠ 0 ∨ ∃ l, ownOf b name holder now = (l, 0) ∧ b.f name.data.toList = some l ∧ l.holder = holder ∧ now < l.till := by
  unfold ownOf
  cases hf : b.f name.data.toList with
  | none => exact .inl (fun h => by cases h)
  | some l =>
    dsimp only
    by_cases h : l.holder = holder ∧ now < l.till
    · rw [if_pos h]; exact .inr ⟨l, rfl, rfl, h⟩
    · rw [if_neg h]; exact .inl (fun h => by cases h)

theorem renew_cases (b : Bd) (name holder : ByteArray) (now ticks : Int) :
    ((renewOf b name holder now ticks).2.1 ≠ 0 ∧ (renewOf b name holder now ticks).2.2 = b) ∨
    ((renewOf b name holder now ticks).2.1 = 0 ∧ rightOf name holder now ticks = 0 ∧ ∃ l x : Lease, (renewOf b name holder now ticks).1 = l ∧ (renewOf b name holder now ticks).2.2 = b.putAt name.data.toList l ∧ l.holder = holder ∧ b.f name.data.toList = some x ∧ x.holder = holder) := by
  unfold renewOf
  by_cases hr : rightOf name holder now ticks = 0
  · rw [if_pos hr]
    unfold renewWith
    rcases own_cases b name holder now with h | ⟨l, h, h1, h2, _⟩
    · rw [if_neg h]; exact .inl ⟨h, rfl⟩
    · rw [h]; exact .inr ⟨rfl, hr, _, l, rfl, rfl, h2, h1, h2⟩
  · rw [if_neg hr]; exact .inl ⟨hr, rfl⟩

theorem give_cases (b : Bd) (name holder : ByteArray) (now : Int) :
    ((giveOf b name holder now).1 ≠ 0 ∧ (giveOf b name holder now).2 = b) ∨
    ((giveOf b name holder now).1 = 0 ∧ ∃ l x : Lease, (giveOf b name holder now).2 = b.putAt name.data.toList l ∧ l.holder = holder ∧ l.till = now ∧ b.f name.data.toList = some x ∧ x.holder = holder) := by
  unfold giveOf
  by_cases hr : rightOf name holder now 1 = 0
  · rw [if_pos hr]
    unfold giveWith
    rcases own_cases b name holder now with h | ⟨l, h, h1, h2, _⟩
    · rw [if_neg h]; exact .inl ⟨h, rfl⟩
    · rw [h]; exact .inr ⟨rfl, _, l, rfl, h2, rfl, h1, h2⟩
  · rw [if_neg hr]; exact .inl ⟨hr, rfl⟩

/-- What one Take, or one behind which a Renew comes, leaves. -/
structure Acted (b b' : Bd) (name holder : ByteArray) (now : Int) (l : Lease) (e : Int) : Prop where
  only : ∀ t, t ≠ name.data.toList → b'.f t = b.f t
  stays : (b.f name.data.toList).isSome = true → (b'.f name.data.toList).isSome = true
  size : b'.n ≤ b.n + 2
  good : e = 0 → b'.f name.data.toList = some l ∧ l.holder = holder
  free : e = 0 → ∀ x, b.f name.data.toList = some x → x.holder ≠ holder → ¬ now < x.till

theorem acted_take (b : Bd) (name holder : ByteArray) (now ticks : Int) : Acted b (takeOf b name holder now ticks).2.2 name holder now (takeOf b name holder now ticks).1 (takeOf b name holder now ticks).2.1 := by
  rcases take_cases b name holder now ticks with ⟨h1, h2⟩ | ⟨h1, l, h2, h3, h4, _, _, h5⟩
  · exact ⟨fun t _ => by rw [h2], fun h => by rw [h2]; exact h, by rw [h2]; omega, fun h => absurd h h1, fun h => absurd h h1⟩
  · have ho := OnlyAt.putAt b name.data.toList l
    exact ⟨fun t ht => by rw [h3]; exact ho.other t ht, fun h => by rw [h3]; exact ho.stays h, by rw [h3]; have := ho.size; omega, fun _ => ⟨by rw [h3, putAt_same, h2], by rw [h2, h4]⟩, fun _ => h5⟩

theorem acted_renew (b : Bd) (name holder : ByteArray) (now ticks : Int) :
    Acted b (renewOf (takeOf b name holder now ticks).2.2 name holder now ticks).2.2 name holder now (renewOf (takeOf b name holder now ticks).2.2 name holder now ticks).1 (renewOf (takeOf b name holder now ticks).2.2 name holder now ticks).2.1 := by
  have hA := acted_take b name holder now ticks
  have hT := take_cases b name holder now ticks
  obtain ⟨p, hp⟩ : ∃ p, takeOf b name holder now ticks = p := ⟨_, rfl⟩
  rw [hp] at hA hT ⊢
  have hs : p.2.2.n ≤ b.n + 1 := by
    rcases hT with ⟨_, h⟩ | ⟨_, l, _, h, _⟩
    · rw [h]; omega
    · rw [h]; exact (OnlyAt.putAt _ _ _).size
  rcases renew_cases p.2.2 name holder now ticks with ⟨h1, h2⟩ | ⟨h1, hr, l, x, h2, h3, h4, h5, h6⟩
  · exact ⟨fun t ht => by rw [h2]; exact hA.only t ht, fun h => by rw [h2]; exact hA.stays h, by rw [h2]; omega, fun h => absurd h h1, fun h => absurd h h1⟩
  · have ho := OnlyAt.putAt p.2.2 name.data.toList l
    refine ⟨fun t ht => by rw [h3, ho.other t ht]; exact hA.only t ht, fun h => by rw [h3]; exact ho.stays (hA.stays h), by rw [h3]; have := ho.size; omega, fun _ => ⟨by rw [h3, putAt_same, h2], by rw [h2, h4]⟩, fun _ y hy hne => ?_⟩
    rcases hT with ⟨h7, h8⟩ | ⟨h7, _, _, _, _, _, _, h8⟩
    · rw [h8, hy] at h5
      cases h5
      exact absurd h6 hne
    · exact h8 y hy hne

/-! ### what the two maps keep -/

def hOf (b : Bd) : List UInt8 → Option ByteArray := fun s => (b.f s).map Lease.holder
def uOf (b : Bd) : List UInt8 → Option Int := fun s => (b.f s).map Lease.till

theorem sync_set {α : Type} {b b' : Bd} {g : Lease → α} {s : List UInt8} {l : Lease} (ho : ∀ t, t ≠ s → b'.f t = b.f t) (hl : b'.f s = some l) : sset (fun t => (b.f t).map g) s (g l) = fun t => (b'.f t).map g := by
  funext t
  by_cases h : t = s
  · subst h; rw [sset_same, hl]; rfl
  · rw [sset_other _ _ h, ho t h]

theorem sync_keep {α : Type} {b b' : Bd} {g : Lease → α} {s : List UInt8} {x l : Lease} (ho : ∀ t, t ≠ s → b'.f t = b.f t) (hx : b.f s = some x) (hl : b'.f s = some l) (hg : g x = g l) : (fun t => (b.f t).map g) = fun t => (b'.f t).map g := by
  funext t
  by_cases h : t = s
  · subst h; rw [hx, hl]; simp [hg]
  · rw [ho t h]

theorem sync_none {α : Type} {b b' : Bd} {g : Lease → α} {s : List UInt8} (ho : ∀ t, t ≠ s → b'.f t = b.f t) (hst : (b.f s).isSome = true → (b'.f s).isSome = true) (hn : b'.f s = none) : (fun t => (b.f t).map g) = fun t => (b'.f t).map g := by
  funext t
  by_cases h : t = s
  · subst h
    rw [hn]
    cases hb : b.f t with
    | none => rfl
    | some x => rw [hb, hn] at hst; simp at hst
  · rw [ho t h]
end Go.Proofs.Ytcgfjbbdadjegaa
