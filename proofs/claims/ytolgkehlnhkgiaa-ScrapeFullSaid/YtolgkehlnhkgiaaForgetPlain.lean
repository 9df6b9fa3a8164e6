/- What a map of series tells when some are struck. No condition. -/
import Derived.Test.YtolgkehlnhkgiaaBook4
import Derived.Lib.SlMapFilter
import Derived.Sort.KeysCollected
namespace Go.Proofs.Ytolgkehlnhkgiaa
open Go.ChangeShapes Go.WideShapes Go.ChangeAt Go.RowKit Go.Deep Go.Maps Go.Sort

set_option maxRecDepth 100000 in
theorem serKey_inv {v : Value} {kl : Lit} (h : keyOf Try.prog 36 v = some kl) : ∃ a b : ByteArray, v = .agg #[.string a, .string b] ∧ kl = .string (serBytes a.data.toList b.data.toList) ∧ a.size ≤ maxLen ∧ b.size ≤ maxLen := by
  have hu := Try.underlying36
  have hs := Try.underlying9
  have hk : Try.prog.keyType 36 = true := by kernel_rfl
  have hc : Try.prog.cellsOf 36 = 2 := by kernel_rfl
  have hc1 : Try.prog.cellsOf 9 = 1 := by kernel_rfl
  obtain ⟨d, hd⟩ : ∃ d, Try.prog.types.size = d + 1 := ⟨Try.prog.types.size - 1, by kernel_rfl⟩
  unfold keyOf at h
  rw [hu] at h
  simp only [hk, Value.formed, hu, Bool.true_and] at h
  rw [hd] at h
  cases v <;> simp at h
  rename_i xs
  obtain ⟨hsz, l, hl, rfl⟩ := h
  obtain ⟨ys⟩ := xs
  simp [Program.keyLits, hu, hs, hc, hc1, Value.cells] at hl
  match ys, hl with
  | [], hl => simp at hl
  | [x], hl => simp at hl
  | x :: y :: z :: r, hl => simp at hl
  | [x, y], hl =>
    cases x <;> simp at hl
    rename_i a
    by_cases ha : a.size ≤ maxLen
    · cases y <;> simp [ha] at hl
      rename_i b
      by_cases hb : b.size ≤ maxLen
      · simp [hb] at hl
        exact ⟨a, b, rfl, by rw [← hl]; rfl, ha, hb⟩
      · simp [hb] at hl
    · simp [ha] at hl

theorem serBytes_inj {a b a' b' : ByteArray} (ha : a.size ≤ maxLen) (hb : b.size ≤ maxLen) (ha' : a'.size ≤ maxLen) (hb' : b'.size ≤ maxLen) (h : serBytes a.data.toList b.data.toList = serBytes a'.data.toList b'.data.toList) : a = a' ∧ b = b' := by
  have h1 := serKey ha hb
  have h2 := serKey ha' hb'
  rw [← h] at h2
  have := serKeyed.inj h1 h2
  simp at this
  exact this

/-- How many entries a map has that tells these series. -/
theorem size_of_tells {w : World} {b n : Nat} {D : DataW Value} {E : List En} (hown : w.ownsMap Try.prog 36 heldElem b n D) (hT : Tells D (enMap E)) (hk : E.Pairwise fun x y => x.key ≠ y.key) : Maps.size D = E.length := by
  obtain ⟨es, rfl, hpw, hkeys⟩ := hown.entries serKeyed
  obtain ⟨es', hD', hko⟩ := hown.keysOf
  obtain rfl : es = es' := by simpa using hD'
  have hstr : ∀ p ∈ es, ∃ s, p.1 = .string s := fun p hp => by
    obtain ⟨v, hv⟩ := hko p hp
    obtain ⟨a, b, _, h2, _⟩ := serKey_inv hv
    exact ⟨_, h2⟩
  have h1 : (es.map (·.1)).Nodup := List.pairwise_map.2 hpw
  have h2 : (E.map fun e => Lit.string e.key).Nodup := List.pairwise_map.2 (hk.imp fun {a b} hab hh => hab (by injection hh))
  have hm : ∀ x, x ∈ es.map (·.1) ↔ x ∈ E.map fun e => Lit.string e.key := fun x => by
    have hx := (hT x).1
    rw [has_eq] at hx
    constructor
    · intro hmem
      obtain ⟨p, hp, rfl⟩ := List.mem_map.1 hmem
      obtain ⟨s, hs⟩ := hstr p hp
      have : es.any (fun q => q.1.sameKey p.1) = true := List.any_eq_true.2 ⟨p, hp, by rw [hs]; simp [Lit.sameKey]⟩
      rw [this, hs] at hx
      have hsome : (findE E s).isSome = true := by
        have : (enMap E (.string s)).isSome = true := hx.symm
        rw [enMap_str] at this
        simpa using this
      obtain ⟨e, he⟩ := Option.isSome_iff_exists.1 hsome
      rw [hs]
      exact List.mem_map.2 ⟨e, findE_mem he, by rw [findE_key he]⟩
    · intro hmem
      obtain ⟨e, he, rfl⟩ := List.mem_map.1 hmem
      have hsome : (enMap E (.string e.key)).isSome = true := by
        rw [enMap_str]
        unfold findE
        rw [Option.isSome_map, List.find?_isSome]
        exact ⟨e, he, beq_self_eq_true _⟩
      rw [hsome] at hx
      obtain ⟨p, hp, hs⟩ := List.any_eq_true.1 hx
      obtain ⟨s, hps⟩ := hstr p hp
      rw [hps] at hs
      have : s = e.key := by simpa [Lit.sameKey] using hs
      exact List.mem_map.2 ⟨p, hp, by rw [hps, this]⟩
  have := ((List.perm_ext_iff_of_nodup h1 h2).2 hm).length_eq
  rw [List.length_map, List.length_map] at this
  exact this

/-- Entries struck by a predicate on the key. -/
theorem tells_filter {es : List (Lit × DataW Value)} {f : Lit → Option Value} (hT : Tells (.map es) f) (pd : Lit → Bool) :
    Tells (Lib.deleteFuncD (fun kl _ => pd kl) (.map es)) (fun kl => if pd kl then none else f kl) := by
  intro kl
  have hsm : ∀ p ∈ es, p.1.sameKey kl = true → p.1 = kl := fun p _ h => WideAt.sameKey_eq h
  have e : ∀ (l : List (Lit × DataW Value)), (∀ p ∈ l, p.1.sameKey kl = true → p.1 = kl) → (l.filter fun p => !pd p.1).find? (fun p => p.1.sameKey kl) = if pd kl then none else l.find? (fun p => p.1.sameKey kl) := by
    intro l
    induction l with
    | nil => intro _; simp
    | cons a t ih =>
      intro h
      have ih := ih (fun p hp => h p (List.mem_cons_of_mem _ hp))
      rw [List.filter_cons]
      cases hs : a.1.sameKey kl
      · cases hp : pd a.1
        · simp only [Bool.not_false, if_true, List.find?_cons, hs]
          exact ih
        · simp only [Bool.not_true, Bool.false_eq_true, if_false, List.find?_cons, hs]
          exact ih
      · have ha := h a (List.mem_cons_self ..) hs
        cases hp : pd a.1
        · rw [ha] at hp
          simp only [Bool.not_false, if_true, List.find?_cons, hs, hp]
          simp
        · rw [ha] at hp
          simp only [Bool.not_true, Bool.false_eq_true, if_false, hp] at ih ⊢
          rw [ih]; simp
  have e := e es hsm
  have af : ∀ (l : List (Lit × DataW Value)) (q : Lit × DataW Value → Bool), l.any q = (l.find? q).isSome := fun l q => by
    induction l with
    | nil => rfl
    | cons a t ih => simp only [List.any_cons, List.find?_cons]; cases q a <;> simp [ih]
  obtain ⟨h1, h2⟩ := hT kl
  show has (.map (es.filter fun p => !pd p.1)) kl = (if pd kl then none else f kl).isSome ∧ ∀ z, DataW.atKey (.map (es.filter fun p => !pd p.1)) kl z = (((if pd kl then none else f kl)).map DataW.held).getD z
  rw [has_eq, af, e]
  rw [has_eq, af] at h1
  cases hp : pd kl
  · simp only [hp, Bool.false_eq_true, if_false] at e ⊢
    refine ⟨h1, fun z => ?_⟩
    have h2 := h2 z
    simp only [DataW.atKey] at h2 ⊢
    rw [e]; exact h2
  · simp only [hp, if_true] at e ⊢
    refine ⟨rfl, fun z => ?_⟩
    simp only [DataW.atKey]
    rw [e]; rfl
end Go.Proofs.Ytolgkehlnhkgiaa
