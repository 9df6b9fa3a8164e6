/- Strings as keys and as elements of slices. No condition. -/
import Derived.Test.YtlokeeejemndfaaMap
import Derived.Test.YtlokeeejemndfaaAppend
import Derived.Sort.KeysCollected
import Derived.Test.YtlokeeejemndfaaChecked
namespace Go.Proofs.Ytlokeeejemndfaa
open Go.ChangeShapes Go.WideShapes Go.ChangeAt Go.RowKit Go.Deep Go.Maps Go.Sort

/-- A string that Go bears. -/
abbrev SStr := {s : ByteArray // s.size ≤ maxLen}
instance : Inhabited SStr := ⟨⟨⟨#[]⟩, Nat.zero_le _⟩⟩
def cS (s : SStr) : List Value := [.string s.1]
abbrev SStr.key (s : SStr) : List UInt8 := s.1.data.toList

theorem sS_of (w : World) (c : List Value) (h : Rel .str w c) : ∃ x : SStr, Flat cS w x c := by
  obtain ⟨n, rfl, hw⟩ := h
  exact ⟨⟨n, hw⟩, rfl⟩

theorem s_one (y : SStr) (u : Value) (h : u ∈ cS y) : u.oneCell' = true := by
  simp only [cS, List.mem_cons, List.not_mem_nil, or_false] at h
  rw [h]
  rfl

/-- A list of keys as strings that Go bears. -/
theorem sstr_of : ∀ (ss : List (List UInt8)), (∀ s ∈ ss, s.length ≤ maxLen) → ∃ xs : List SStr, xs.map SStr.key = ss ∧ xs.flatMap cS = ss.map encStr
  | [], _ => ⟨[], rfl, rfl⟩
  | s :: ss, h => by
    obtain ⟨xs, h1, h2⟩ := sstr_of ss (fun x hx => h x (List.mem_cons_of_mem _ hx))
    refine ⟨⟨⟨s.toArray⟩, ?_⟩ :: xs, by rw [List.map_cons, h1], by rw [List.flatMap_cons, h2]; rfl⟩
    have := h s (List.mem_cons_self ..)
    show s.toArray.size ≤ _
    simpa using this

theorem strKeyed : Keyed Try.prog 9 := string_keyed Try.underlying9
theorem strKey {s : ByteArray} (h : s.size ≤ maxLen) : keyOf Try.prog 9 (.string s) = some (.string s.data.toList) := WideMaps.keyOf_string_mk Try.underlying9 h
theorem elemStr : ElemOK Try.prog 29 9 1 16 := .mk' Try.underlying29 (by kernel_rfl) (by decide)

theorem key_inj {x y : SStr} (h : x.key = y.key) : x = y := by
  obtain ⟨⟨⟨a⟩⟩, ha⟩ := x
  obtain ⟨⟨⟨b⟩⟩, hb⟩ := y
  simp [SStr.key] at h
  subst h
  rfl
end Go.Proofs.Ytlokeeejemndfaa
