/- Contracts of scrape's Fresh at a book, of Fresh at none. Condition: the book lies in blocks of the call's own. -/
import Derived.Test.YtojealgjfbjnoaaFresh
namespace Go.Proofs.Ytojealgjfbjnoaa
open Go.ChangeShapes Go.WideShapes Go.ChangeAt Go.RowKit Go.Deep Go.Maps

/-- What a book holds of a series. -/
def heldL (E : List En) (k : List UInt8) : List Sm := match findE E k with | some e => e.L | none => []

theorem fresh_book (B bb bm most : Nat) (age now : Int) (E : List En) (sub met : ByteArray) (w : World) (hB : BookAt w B bb bm most age E) (hsub : sub.size ≤ maxLen) (hmet : met.size ≤ maxLen) (hnow2 : now ≤ 9223372036854775807) (ha1 : 1 ≤ age) (ha2 : age ≤ 1800) :
    Calls Try.prog 9 #[.pointer (some ⟨bb, 0, none⟩), .int .i64 now, .agg #[.string sub, .string met]] w fun e w' =>
      e = .returned (.tuple #[.int .i64 (freshOf age now (heldL E (serBytes sub.data.toList met.data.toList))).1, .int .i64 (freshOf age now (heldL E (serBytes sub.data.toList met.data.toList))).2]) ∧ Below w.heap.size w w' := by
  unfold heldL
  cases hf : findE E (serBytes sub.data.toList met.data.toList) with
  | none => exact (callsIn_wide (n := 6)).1 (fresh_in bb bm most age now none [] _ _ _ sub met w hB.blk hB.map (serKey hsub hmet) (by rw [enMap_str, hf]; rfl) (.inl ⟨rfl, rfl⟩) hnow2 ha1 ha2)
  | some e => exact (callsIn_wide (n := 6)).1 (fresh_in bb bm most age now (some ⟨e.rb, 0, none⟩) e.L _ _ _ sub met w hB.blk hB.map (serKey hsub hmet) (by rw [enMap_str, hf]; rfl) (.inr ⟨e.rb, e.lb, most, rfl, hB.rings e (findE_mem hf), hB.pos e (findE_mem hf)⟩) hnow2 ha1 ha2)

/-! ### a book that isn't there -/

theorem freshNil_any (now : Int) (sub met : ByteArray) (w : World) : Calls Try.prog 9 #[.pointer none, .int .i64 now, .agg #[.string sub, .string met]] w fun e w' => e = .returned (.tuple #[.int .i64 0, .int .i64 1]) ∧ Below w.heap.size w w' := by
  go_enter Try.func9, Try.ntmps9
  go_wp2
  go_ret2
  exact ⟨rfl, ((Below.refl _ _).alloc (Nat.le_refl _) _).alloc (by simp) _⟩

end Go.Proofs.Ytojealgjfbjnoaa
