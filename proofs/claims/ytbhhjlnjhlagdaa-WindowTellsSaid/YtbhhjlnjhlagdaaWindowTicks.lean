/- The plain law of the ticks: a map with the notes' ticks has as many entries as the memory notes. No program. -/
import Derived.Test.YtbhhjlnjhlagdaaWindowCopy
import Derived.Maps.OwnSet
namespace Go.Proofs.Ytbhhjlnjhlagdaa
open Go.ChangeMaps

/-- A map whose keys are the notes' ticks. -/
def Ticks (D : DataW Unit) (l : List LNote) : Prop := ∃ es, D = .map es ∧ (es.map (fun p => p.1)).Nodup ∧ ∀ k, k ∈ es.map (fun p => p.1) ↔ ∃ y ∈ l, k = .int .i64 y.at_

theorem Ticks.nil : Ticks (.map []) [] := ⟨[], rfl, by simp, by simp⟩

theorem Ticks.put {D : DataW Unit} {l : List LNote} (h : Ticks D l) (y : LNote) (d : DataW Unit) : Ticks (D.put (.int .i64 y.at_) d) (l ++ [y]) := by
  obtain ⟨es, rfl, hn, hm⟩ := h
  refine ⟨_, DataW.put_eq _ _ _, ?_, fun k => ?_⟩
  · have hp := (WideShapes.insert_perm ((Lit.int .i64 y.at_), d) (es.filter (notKey (.int .i64 y.at_)))).map (fun p => p.1)
    rw [show putKey (Lit.int .i64 y.at_) d es = DataW.insert ((Lit.int .i64 y.at_), d) (es.filter (notKey (.int .i64 y.at_))) from rfl]
    rw [hp.nodup_iff]
    rw [List.map_cons, List.nodup_cons]
    refine ⟨fun hc => ?_, ?_⟩
    · obtain ⟨p, hp, he⟩ := List.mem_map.1 hc
      have := (List.mem_filter.1 hp).2
      unfold notKey at this
      dsimp only at he
      rw [he] at this
      simp [Lit.sameKey] at this
    · exact List.Nodup.sublist ((List.filter_sublist).map _) hn
  · have hp := ((WideShapes.insert_perm ((Lit.int .i64 y.at_), d) (es.filter (notKey (.int .i64 y.at_)))).map (fun p => p.1)).mem_iff (a := k)
    rw [show putKey (Lit.int .i64 y.at_) d es = DataW.insert ((Lit.int .i64 y.at_), d) (es.filter (notKey (.int .i64 y.at_))) from rfl]
    rw [hp]
    rw [List.map_cons, List.mem_cons]
    have h1 : (∃ z ∈ l ++ [y], k = .int .i64 z.at_) ↔ (∃ z ∈ l, k = .int .i64 z.at_) ∨ k = .int .i64 y.at_ := by
      constructor
      · rintro ⟨z, hz, e⟩
        rcases List.mem_append.1 hz with hz | hz
        · exact .inl ⟨z, hz, e⟩
        · rw [List.mem_singleton.1 hz] at e; exact .inr e
      · rintro (⟨z, hz, e⟩ | e)
        · exact ⟨z, List.mem_append_left _ hz, e⟩
        · exact ⟨y, by simp, e⟩
    rw [h1, ← hm k]
    constructor
    · rintro (e | hk)
      · exact .inr e
      · obtain ⟨p, hp, e⟩ := List.mem_map.1 hk
        exact .inl (List.mem_map.2 ⟨p, (List.mem_filter.1 hp).1, e⟩)
    · rintro (hk | e)
      · by_cases c : k = .int .i64 y.at_
        · exact .inl c
        · obtain ⟨p, hp, e⟩ := List.mem_map.1 hk
          refine .inr (List.mem_map.2 ⟨p, List.mem_filter.2 ⟨hp, ?_⟩, e⟩)
          unfold notKey
          rw [Maps.sameKey_ne (by rw [e]; exact c)]
          rfl
      · exact .inl e

theorem Ticks.size {D : DataW Unit} {out : List LNote} {xs : List Note} (h : Ticks D (leftOf out)) (hM : Mem out xs) : Maps.size D = xs.length := by
  obtain ⟨es, rfl, hn, hm⟩ := h
  have hx : (xs.map fun x => Lit.int .i64 x.at_).Nodup := by
    unfold List.Nodup
    rw [List.pairwise_map]
    exact hM.rise.imp fun {a b} hab he => by
      injection he with _ he
      omega
  have hp : (es.map (fun p => p.1)).Perm (xs.map fun x => Lit.int .i64 x.at_) := by
    rw [List.perm_ext_iff_of_nodup hn hx]
    intro k
    rw [hm k, List.mem_map]
    constructor
    · rintro ⟨y, hy, e⟩
      obtain ⟨x, hx, hxy, _⟩ := hM.told hy
      exact ⟨x, hx, by rw [hxy, e]⟩
    · rintro ⟨x, hx, e⟩
      obtain ⟨y, hy, hyx, _⟩ := (hM.stays hx).1
      exact ⟨y, hy, by rw [hyx, e]⟩
  have := hp.length_eq
  simpa [Maps.size_eq] using this

theorem within_none {now wv : Int} {l : List LNote} (h : (withinOf now wv l).2.2 = false) : (withinOf now wv l).1 = 0 ∧ (withinOf now wv l).2.1 = 0 := by
  rcases within_spec now wv l with ⟨hs, _⟩ | ⟨lo, hi, hs, _⟩
  · rw [hs]; exact ⟨rfl, rfl⟩
  · rw [hs] at h; cases h
end Go.Proofs.Ytbhhjlnjhlagdaa
