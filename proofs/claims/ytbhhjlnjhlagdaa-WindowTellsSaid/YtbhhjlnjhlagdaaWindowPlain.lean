/- The plain law of the window: what the memory holds of the notes that were taken. No program. -/
import Derived.Test.YtbhhjlnjhlagdaaWindow5
namespace Go.Proofs.Ytbhhjlnjhlagdaa

structure LNote where
  at_ : Int
  n : Int
deriving Inhabited

def LNote.cells (x : LNote) : List Value := [.int .i64 x.at_, .int .i64 x.n]

/-- What a note is answered. -/
def wantOf (out : List LNote) (x : LNote) : Int :=
  if x.at_ < 0 ∨ 4611686018427387904 < x.at_ ∨ x.n < 0 then 1
  else match out.getLast? with
    | none => 0
    | some l => if x.at_ < l.at_ then 13 else 0

def accept (out : List LNote) (x : LNote) : List LNote := if wantOf out x = 0 then out ++ [x] else out

/-- What holds between the notes taken and the memory. -/
structure Mem (out : List LNote) (xs : List Note) : Prop where
  good : ∀ y ∈ out, 0 ≤ y.at_ ∧ y.at_ ≤ 4611686018427387904 ∧ 0 ≤ y.n
  last : (out = [] ∧ xs = []) ∨ ∃ o y z x, out = o ++ [y] ∧ xs = z ++ [x] ∧ x.at_ = y.at_ ∧ ∀ q ∈ out, q.at_ ≤ y.at_
  rise : xs.Pairwise fun a b => a.at_ < b.at_
  low : ∀ x ∈ xs, ∀ y ∈ out, y.at_ = x.at_ → x.low ≤ y.n ∧ y.n ≤ x.high
  lowIs : ∀ x ∈ xs, (∃ y ∈ out, y.at_ = x.at_ ∧ y.n = x.low) ∧ (∃ y ∈ out, y.at_ = x.at_ ∧ y.n = x.high)
  near : ∀ x ∈ xs, ∀ y ∈ out, y.at_ - 1800 ≤ x.at_
  all : ∀ y ∈ out, (∀ q ∈ out, q.at_ - 1800 ≤ y.at_) → ∃ x ∈ xs, x.at_ = y.at_

theorem Mem.nil : Mem [] [] := ⟨by simp, .inl ⟨rfl, rfl⟩, by simp, by simp, by simp, by simp, by simp⟩

theorem Mem.want {out : List LNote} {xs : List Note} (h : Mem out xs) (x : LNote) : (noteRes xs x.at_ x.n).1 = wantOf out x := by
  unfold noteRes wantOf
  by_cases hb : x.at_ < 0 ∨ 4611686018427387904 < x.at_ ∨ x.n < 0
  · rw [if_pos hb, if_pos hb]
  · rw [if_neg hb, if_neg hb]
    rcases h.last with ⟨rfl, rfl⟩ | ⟨o, y, z, q, rfl, rfl, hq, _⟩
    · rfl
    · simp only [List.getLast?_append, List.getLast?_singleton, Option.some_or]
      rw [hq]
      by_cases h1 : x.at_ < y.at_
      · rw [if_pos h1, if_pos h1]
      · rw [if_neg h1, if_neg h1]
        by_cases h2 : x.at_ = y.at_
        · rw [if_pos h2]
        · rw [if_neg h2]

theorem Mem.next {out : List LNote} {xs : List Note} (h : Mem out xs) (x : LNote) : Mem (accept out x) (noteRes xs x.at_ x.n).2 := by
  by_cases hw : wantOf out x = 0
  · have hacc : accept out x = out ++ [x] := if_pos hw
    rw [hacc]
    have hb : ¬ (x.at_ < 0 ∨ 4611686018427387904 < x.at_ ∨ x.n < 0) := by
      intro hb
      unfold wantOf at hw
      rw [if_pos hb] at hw
      exact absurd hw (by decide)
    have hgood : ∀ y ∈ out ++ [x], 0 ≤ y.at_ ∧ y.at_ ≤ 4611686018427387904 ∧ 0 ≤ y.n := by
      intro y hy
      rcases List.mem_append.1 hy with hy | hy
      · exact h.good y hy
      · rw [List.mem_singleton.1 hy]; omega
    rcases h.last with ⟨rfl, rfl⟩ | ⟨o, y, z, q, rfl, rfl, hq, hmax⟩
    · have e : noteRes [] x.at_ x.n = (0, [⟨x.at_, x.n, x.n⟩]) := by unfold noteRes; rw [if_neg hb]; rfl
      rw [e]
      refine ⟨hgood, .inr ⟨[], x, [], _, rfl, rfl, rfl, by simp⟩, by simp, by simp, by simp, (by simp; omega), by simp⟩
    · have hle : y.at_ ≤ x.at_ := by
        unfold wantOf at hw
        rw [if_neg hb] at hw
        simp only [List.getLast?_append, List.getLast?_singleton, Option.some_or] at hw
        by_cases h1 : x.at_ < y.at_
        · rw [if_pos h1] at hw; exact absurd hw (by decide)
        · omega
      have eL : noteRes (z ++ [q]) x.at_ x.n = if x.at_ < q.at_ then (13, z ++ [q]) else if x.at_ = q.at_ then (0, z ++ [⟨q.at_, min q.low x.n, max q.high x.n⟩]) else (0, (z ++ [q] ++ [(⟨x.at_, x.n, x.n⟩ : Note)]).filter fun x' => !decide (x'.at_ < x.at_ - 1800)) := by
        unfold noteRes
        rw [if_neg hb]
        simp
      rw [eL, if_neg (by omega)]
      have hmax' : ∀ p ∈ o ++ [y] ++ [x], p.at_ ≤ x.at_ := by
        intro p hp
        rcases List.mem_append.1 hp with hp | hp
        · have := hmax p hp; omega
        · rw [List.mem_singleton.1 hp]; exact Int.le_refl _
      have hzq : ∀ a ∈ z, a.at_ < q.at_ := fun a ha => (List.pairwise_append.1 h.rise).2.2 a ha q (by simp)
      by_cases h2 : x.at_ = q.at_
      · rw [if_pos h2]
        have hqm : q ∈ z ++ [q] := by simp
        refine ⟨hgood, .inr ⟨o ++ [y], x, z, _, rfl, rfl, by rw [h2], hmax'⟩, ?_, ?_, ?_, ?_, ?_⟩
        · have := List.pairwise_append.1 h.rise
          exact List.pairwise_append.2 ⟨this.1, by simp, fun a ha b hb => by rw [List.mem_singleton.1 hb]; exact hzq a ha⟩
        · intro a ha p hp hpa
          rcases List.mem_append.1 ha with ha | ha
          · rcases List.mem_append.1 hp with hp | hp
            · exact h.low a (by simp [ha]) p hp hpa
            · rw [List.mem_singleton.1 hp] at hpa
              have := hzq a ha
              omega
          · rw [List.mem_singleton.1 ha] at hpa ⊢
            dsimp only at hpa ⊢
            rcases List.mem_append.1 hp with hp | hp
            · have := h.low q hqm p hp hpa
              omega
            · rw [List.mem_singleton.1 hp]
              omega
        · intro a ha
          rcases List.mem_append.1 ha with ha | ha
          · obtain ⟨⟨p, hp, h3, h4⟩, ⟨p', hp', h5, h6⟩⟩ := h.lowIs a (by simp [ha])
            exact ⟨⟨p, List.mem_append_left _ hp, h3, h4⟩, ⟨p', List.mem_append_left _ hp', h5, h6⟩⟩
          · rw [List.mem_singleton.1 ha]
            dsimp only
            obtain ⟨⟨p, hp, h3, h4⟩, ⟨p', hp', h5, h6⟩⟩ := h.lowIs q hqm
            refine ⟨?_, ?_⟩
            · by_cases hm : q.low ≤ x.n
              · exact ⟨p, List.mem_append_left _ hp, h3, by omega⟩
              · exact ⟨x, by simp, h2, by omega⟩
            · by_cases hm : x.n ≤ q.high
              · exact ⟨p', List.mem_append_left _ hp', h5, by omega⟩
              · exact ⟨x, by simp, h2, by omega⟩
        · intro a ha p hp
          have hpx := hmax' p hp
          rcases List.mem_append.1 ha with ha | ha
          · have := h.near a (by simp [ha]) y (by simp)
            omega
          · rw [List.mem_singleton.1 ha]
            dsimp only
            omega
        · intro p hp hall
          rcases List.mem_append.1 hp with hp | hp
          · obtain ⟨a, ha, hpa⟩ := h.all p hp (fun r hr => hall r (List.mem_append_left _ hr))
            rcases List.mem_append.1 ha with ha | ha
            · exact ⟨a, by simp [ha], hpa⟩
            · rw [List.mem_singleton.1 ha] at hpa
              exact ⟨⟨q.at_, min q.low x.n, max q.high x.n⟩, by simp, hpa⟩
          · rw [List.mem_singleton.1 hp]
            exact ⟨⟨q.at_, min q.low x.n, max q.high x.n⟩, by simp, by dsimp only; omega⟩
      · rw [if_neg h2]
        have hlt : q.at_ < x.at_ := by omega
        have hmem : ∀ a : Note, a ∈ (z ++ [q] ++ [(⟨x.at_, x.n, x.n⟩ : Note)]).filter (fun x' => !decide (x'.at_ < x.at_ - 1800)) ↔ (a ∈ z ++ [q] ∨ a = ⟨x.at_, x.n, x.n⟩) ∧ x.at_ - 1800 ≤ a.at_ := by
          intro a
          rw [List.mem_filter, List.mem_append, List.mem_singleton]
          simp
        have hfil : (z ++ [q] ++ [(⟨x.at_, x.n, x.n⟩ : Note)]).filter (fun x' => !decide (x'.at_ < x.at_ - 1800)) = (z ++ [q]).filter (fun x' => !decide (x'.at_ < x.at_ - 1800)) ++ [⟨x.at_, x.n, x.n⟩] := by
          rw [List.filter_append]
          congr 1
          simp
          omega
        have hup : ∀ a ∈ z ++ [q], a.at_ < x.at_ := by
          intro a ha
          rcases List.mem_append.1 ha with ha | ha
          · have := hzq a ha; omega
          · rw [List.mem_singleton.1 ha]; exact hlt
        refine ⟨hgood, .inr ⟨o ++ [y], x, _, _, rfl, hfil, rfl, hmax'⟩, ?_, ?_, ?_, ?_, ?_⟩
        · refine List.Pairwise.filter _ (List.pairwise_append.2 ⟨h.rise, by simp, fun a ha b hb => ?_⟩)
          rw [List.mem_singleton.1 hb]
          exact hup a ha
        · intro a ha p hp hpa
          rcases ((hmem a).1 ha).1 with ha' | ha'
          · rcases List.mem_append.1 hp with hp | hp
            · exact h.low a ha' p hp hpa
            · rw [List.mem_singleton.1 hp] at hpa
              have := hup a ha'
              omega
          · subst ha'
            dsimp only at hpa ⊢
            rcases List.mem_append.1 hp with hp | hp
            · have := hmax p hp
              omega
            · rw [List.mem_singleton.1 hp]
              omega
        · intro a ha
          rcases ((hmem a).1 ha).1 with ha' | ha'
          · obtain ⟨⟨p, hp, h3, h4⟩, ⟨p', hp', h5, h6⟩⟩ := h.lowIs a ha'
            exact ⟨⟨p, List.mem_append_left _ hp, h3, h4⟩, ⟨p', List.mem_append_left _ hp', h5, h6⟩⟩
          · subst ha'
            exact ⟨⟨x, by simp, rfl, rfl⟩, ⟨x, by simp, rfl, rfl⟩⟩
        · intro a ha p hp
          have := hmax' p hp
          have := ((hmem a).1 ha).2
          omega
        · intro p hp hall
          have hpx := hall x (by simp)
          rcases List.mem_append.1 hp with hp | hp
          · obtain ⟨a, ha, hpa⟩ := h.all p hp (fun r hr => hall r (List.mem_append_left _ hr))
            exact ⟨a, (hmem a).2 ⟨.inl ha, by omega⟩, hpa⟩
          · rw [List.mem_singleton.1 hp]
            exact ⟨⟨x.at_, x.n, x.n⟩, (hmem _).2 ⟨.inr rfl, by dsimp only; omega⟩, rfl⟩
  · have hacc : accept out x = out := if_neg hw
    rw [hacc]
    have hw' := hw
    rw [← h.want x] at hw'
    have e : (noteRes xs x.at_ x.n).2 = xs := by
      unfold noteRes at hw' ⊢
      by_cases hb : x.at_ < 0 ∨ 4611686018427387904 < x.at_ ∨ x.n < 0
      · rw [if_pos hb]
      · rw [if_neg hb] at hw' ⊢
        cases hq : xs.getLast? with
        | none => rw [hq] at hw'; exact absurd rfl hw'
        | some l =>
          rw [hq] at hw'
          dsimp only at hw' ⊢
          by_cases h1 : x.at_ < l.at_
          · rw [if_pos h1]
          · rw [if_neg h1] at hw' ⊢
            by_cases h2 : x.at_ = l.at_
            · rw [if_pos h2] at hw'; exact absurd rfl hw'
            · rw [if_neg h2] at hw'; exact absurd rfl hw'
    rw [e]
    exact h
end Go.Proofs.Ytbhhjlnjhlagdaa
