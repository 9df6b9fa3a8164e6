/- What the form's reach says of a read argument: no string, no slice in it is long. No condition. -/
import Derived.Test.YtpbppgfogepjeaaBase
import Derived.SizedLaws
namespace Go.Proofs.Ytpbppgfogepjeaa
open Go.ChangeShapes Go.WideShapes Go.ChangeAt Go.RowKit Go.Deep

def Bd : Sh → World → List Value → Prop
  | .bool, _, cs => cs.length = 1
  | .int _, _, cs => cs.length = 1
  | .str, _, cs => ∃ s, cs = [.string s] ∧ s.size ≤ reachBytes
  | .slice e, w, cs => ∃ ao len cap, cs = [.slice ao len cap] ∧ len ≤ reachBytes ∧
      ∀ a, ao = some a → ∀ i, i < len → ∃ c, c.length = e.size ∧ (∀ j u, c[j]? = some u → w.cell? (a.add (i * e.size + j)) = some u) ∧ Bd e w c
  | .pair a b, w, cs => ∃ c1 c2, cs = c1 ++ c2 ∧ c1.length = a.size ∧ Bd a w c1 ∧ Bd b w c2
  | .unit, _, cs => cs = []

def shBy (P : Program) : Nat → TypeId → Bool
  | 0, _ => false
  | n + 1, t =>
    match P.underlying t with
    | some (.slice e) => decide (0 < P.bytesOf e) && shBy P n e
    | some (.struct fs) => fs.toList.all (fun f => shBy P n f.type)
    | _ => true

section
variable {H : Type} {enc : TypeId × Value → H} {P : Program} {w : World} {base : Nat} {spare : Nat → Bool} {held : Bool}

theorem bd_fields {rec : TypeId → Option Sh} {by_ : TypeId → Bool} {k : Nat}
    (ih : ∀ t s cs (x : DataW H × List MemPlace), rec t = some s → by_ t = true → DataW.trod enc P w base spare held k t cs = some x → (∀ m ∈ x.1.weights P t, m ≤ reachBytes) → Bd s w cs) :
    ∀ (fs : List Field) (off : Nat) (s : Sh) (cs : List Value), shFields P rec off fs = some s → (∀ f ∈ fs, by_ f.type = true) → off + s.size ≤ cs.length →
      (∀ (i : Nat) (f : Field), fs[i]? = some f → ∃ y, DataW.trod enc P w base spare held k f.type ((cs.drop f.offset).take (P.cellsOf f.type)) = some y ∧ ∀ m ∈ y.1.weights P f.type, m ≤ reachBytes) →
      Bd s w ((cs.drop off).take s.size)
  | [], off, s, cs, h, _, _, _ => by
    simp [shFields] at h
    subst h
    simp [Bd, Sh.size]
  | f :: fs, off, s, cs, h, hb, hl, hf => by
    simp only [shFields] at h
    split at h
    · rename_i s0 hs0
      split at h
      · rename_i hc
        obtain ⟨s1, hs1, rfl⟩ := Option.map_eq_some_iff.1 h
        obtain ⟨y, hy, hm⟩ := hf 0 f rfl
        have r0 := ih _ _ _ _ hs0 (hb f (List.mem_cons_self ..)) hy hm
        rw [hc.1, hc.2] at r0
        simp only [Sh.size] at hl
        have r1 := bd_fields ih fs (off + s0.size) s1 cs hs1 (fun g hg => hb g (List.mem_cons_of_mem _ hg)) (by omega) (fun i g hg => hf (i + 1) g hg)
        refine ⟨_, _, ?_, ?_, r0, r1⟩
        · simp only [Sh.size]
          rw [List.take_add, List.drop_drop]
        · simp; omega
      · cases h
    · cases h

theorem weightsAll_mem {e : TypeId} : ∀ {ds : List (DataW H)} {i : Nat} {d : DataW H}, ds[i]? = some d → ∀ m ∈ d.weights P e, m ∈ DataW.weightsAll P e ds
  | d0 :: ds, 0, d, h, m, hm => by
    simp only [List.getElem?_cons_zero, Option.some.injEq] at h
    subst h
    rw [DataW.weightsAll]
    exact List.mem_append.2 (.inl hm)
  | d0 :: ds, i + 1, d, h, m, hm => by
    simp only [List.getElem?_cons_succ] at h
    rw [DataW.weightsAll]
    exact List.mem_append.2 (.inr (weightsAll_mem h m hm))
  | [], _, _, h, _, _ => by simp at h

theorem bd_of_trod : ∀ (n : Nat) {k : Nat} {t : TypeId} {s : Sh} {cs : List Value} {x : DataW H × List MemPlace},
    shOf P n t = some s → shBy P n t = true → DataW.trod enc P w base spare held k t cs = some x → (∀ m ∈ x.1.weights P t, m ≤ reachBytes) → Bd s w cs
  | 0, _, _, _, _, _, h, _, _, _ => by simp [shOf] at h
  | n + 1, k, t, s, cs, x, h, hb, hx, hm => by
    simp only [shOf] at h
    split at h
    · rename_i ht
      simp at h; subst h
      obtain ⟨b, rfl, _⟩ := DataW.trod_bool ht hx
      rfl
    · rename_i q ht
      simp at h; subst h
      obtain ⟨b, rfl, _, hw⟩ := DataW.trod_int ht hx
      rfl
    · rename_i ht
      simp at h; subst h
      obtain ⟨b, rfl, rfl, hw⟩ := DataW.trod_string ht hx
      refine ⟨b, rfl, ?_⟩
      have := hm b.data.toList.length (by simp [DataW.weights])
      rw [Array.length_toList] at this
      exact this
    · rename_i e ht
      simp only [shBy, ht, Bool.and_eq_true, decide_eq_true_eq] at hb
      split at h
      · rename_i s0 hs0
        split at h
        · rename_i hc
          simp at h; subst h
          rcases open_slice ht hx with ⟨rfl, _⟩ | ⟨a, len, cap, m, nn, D, Pl, rfl, _, hl, hmx, hmm, rfl, hi⟩
          · exact ⟨none, 0, 0, rfl, Nat.zero_le _, fun a ha => by cases ha⟩
          · have hlm : len ≤ m := by rw [hmm]; split <;> omega
            have h1 := hm ((((List.range len).map D).length + ((List.range (m - len)).map fun j => D (len + j)).length) * P.bytesOf e) (by simp [DataW.weights, ht])
            simp only [List.length_map, List.length_range] at h1
            refine ⟨some a, len, cap, rfl, ?_, fun a' ha i hil => ?_⟩
            · have h2 : (len + (m - len)) * 1 ≤ (len + (m - len)) * P.bytesOf e := Nat.mul_le_mul_left _ hb.1
              omega
            · obtain rfl := Option.some.inj ha
              obtain ⟨c, q1, q2⟩ := hi i (by omega)
              obtain ⟨_, hlen, hcell⟩ := World.cells?_some q1
              refine ⟨c, by rw [hlen, hc], fun j u hu => ?_, bd_of_trod n hs0 hb.2 q2 (fun z hz => hm z ?_)⟩
              · have hj : j < P.cellsOf e := by rw [← hlen]; exact (List.getElem?_eq_some_iff.1 hu).1
                rw [← hc, ← Go.Deep.add_add, hcell j hj, hu]
              · simp only [DataW.weights, ht]
                refine List.mem_cons_of_mem _ (List.mem_append.2 (.inl (weightsAll_mem (i := i) (d := D i) (by simp [hil]) z hz)))
        · cases h
      · cases h
    · rename_i fs ht
      simp only [shBy, ht, List.all_eq_true] at hb
      split at h
      · rename_i s0 hs0
        split at h
        · rename_i hc
          simp at h; subst h
          obtain ⟨xs, m, rfl, rfl, hlen, hxl, hf⟩ := DataW.trod_struct ht hx
          have := bd_fields (P := P) (w := w) (enc := enc) (base := base) (spare := spare) (held := held) (k := m) (rec := shOf P n) (by_ := shBy P n) (fun t s cs x h1 h2 h3 h4 => bd_of_trod n h1 h2 h3 h4) fs.toList 0 s0 cs hs0 hb (by omega) (fun i f hi => by
            have h1 := hf i f (by simpa using hi)
            have hil : i < fs.size := by
              have := (List.getElem?_eq_some_iff.1 hi).1
              simpa using this
            rw [List.getElem?_eq_getElem (by omega)] at h1
            refine ⟨_, h1, fun z hz => hm z ?_⟩
            simp only [DataW.weights, ht]
            exact DataW.weights_mem_each (j := i) (t := f.type) (d := (xs[i]'(by omega)).1) (by rw [List.getElem?_map, hi]; rfl) (by rw [List.getElem?_map, List.getElem?_eq_getElem (by omega)]; rfl) z hz)
          rw [List.drop_zero, List.take_of_length_le (by omega)] at this
          exact this
        · cases h
      · cases h
    · cases h
end
end Go.Proofs.Ytpbppgfogepjeaa
