/- slices.SortFunc at one event. Condition: the row lies in a block of the call's own. -/
import Derived.Test.YtkppmdbapcfmnaaWatchCmp
import Derived.Test.YtkppmdbapcfmnaaCells
import Derived.Shelf.SlSortCmp.WholeK
import Derived.Ground.SlsfProg
import Derived.Shelf.SlGeneric
namespace Go.Proofs.Ytkppmdbapcfmnaa
open Go.ChangeShapes Go.WideShapes Go.ChangeAt Go.RowKit Go.Deep Go.Sort Go.Shelf

def kSortF_ren : Go.Shelf.Ren := ⟨fun | 6 => 18 | 15 => 31 | 14 => 30 | 28 => 50 | 29 => 51 | 20 => 42 | 21 => 43 | 22 => 44 | 23 => 45 | 24 => 46 | 25 => 47 | 26 => 48 | 27 => 49 | 46 => 61 | 47 => 62 | 48 => 63 | 49 => 64 | 50 => 65 | 57 => 69 | n => n, fun | 22 => 26 | 24 => 38 | 25 => 83 | 3 => 3 | 39 => 97 | 0 => 0 | 53 => 133 | 55 => 23 | 4 => 4 | 46 => 126 | 45 => 125 | 50 => 130 | 5 => 5 | 9 => 9 | 66 => 141 | 70 => 144 | 76 => 148 | 77 => 149 | n => n, fun | n => n⟩
theorem kSortF : Go.Proofs.SlLaysF0.n6 Try.prog kSortF_ren := {
  mixed := by kernel_rfl
  f6 := ⟨Try.f18.name, by decide, Try.func18.trans (congrArg some (by kernel_rfl))⟩
  f14 := ⟨Try.f30.name, by decide, Try.func30.trans (congrArg some (by kernel_rfl))⟩
  f15 := Try.func31.trans (congrArg some (by kernel_rfl))
  f20 := ⟨Try.f42.name, by decide, Try.func42.trans (congrArg some (by kernel_rfl))⟩
  f21 := ⟨Try.f43.name, by decide, Try.func43.trans (congrArg some (by kernel_rfl))⟩
  f22 := ⟨Try.f44.name, by decide, Try.func44.trans (congrArg some (by kernel_rfl))⟩
  f23 := ⟨Try.f45.name, by decide, Try.func45.trans (congrArg some (by kernel_rfl))⟩
  f24 := ⟨Try.f46.name, by decide, Try.func46.trans (congrArg some (by kernel_rfl))⟩
  f25 := ⟨Try.f47.name, by decide, Try.func47.trans (congrArg some (by kernel_rfl))⟩
  f26 := ⟨Try.f48.name, by decide, Try.func48.trans (congrArg some (by kernel_rfl))⟩
  f27 := ⟨Try.f49.name, by decide, Try.func49.trans (congrArg some (by kernel_rfl))⟩
  f28 := Try.func50.trans (congrArg some (by kernel_rfl))
  f29 := Try.func51.trans (congrArg some (by kernel_rfl))
  f46 := ⟨Try.f61.name, by decide, Try.func61.trans (congrArg some (by kernel_rfl))⟩
  f47 := Try.func62.trans (congrArg some (by kernel_rfl))
  f48 := Try.func63.trans (congrArg some (by kernel_rfl))
  f49 := ⟨Try.f64.name, by decide, Try.func64.trans (congrArg some (by kernel_rfl))⟩
  f50 := ⟨Try.f65.name, by decide, Try.func65.trans (congrArg some (by kernel_rfl))⟩
  f57 := ⟨Try.f69.name, by decide, Try.func69.trans (congrArg some (by kernel_rfl))⟩
  t0 := Try.underlying0
  a0 := Try.isAgg0
  z0 := Try.sizeOf0
  v0 := Try.zeroValue0
  t3 := Try.underlying3
  a3 := Try.isAgg3
  z3 := Try.sizeOf3
  v3 := Try.zeroValue3
  t4 := Try.underlying4
  a4 := Try.isAgg4
  z4 := Try.sizeOf4
  v4 := Try.zeroValue4
  t5 := Try.underlying5
  a5 := Try.isAgg5
  z5 := Try.sizeOf5
  v5 := Try.zeroValue5
  t9 := Try.underlying9
  a9 := Try.isAgg9
  z9 := Try.sizeOf9
  v9 := Try.zeroValue9
  t22 := Try.underlying26
  a22 := Try.isAgg26
  z22 := Try.sizeOf26
  v22 := Try.zeroValue26
  t25 := Try.underlying83
  a25 := Try.isAgg83
  z25 := Try.sizeOf83
  v25 := Try.zeroValue83
  t39 := Try.underlying97
  a39 := Try.isAgg97
  z39 := Try.sizeOf97
  v39 := Try.zeroValue97
  t45 := Try.underlying125
  a45 := Try.isAgg125
  z45 := Try.sizeOf125
  v45 := Try.zeroValue125
  t46 := Try.underlying126
  a46 := Try.isAgg126
  z46 := Try.sizeOf126
  v46 := Try.zeroValue126
  t50 := Try.underlying130
  a50 := Try.isAgg130
  z50 := Try.sizeOf130
  v50 := Try.zeroValue130
  t53 := Try.underlying133
  a53 := Try.isAgg133
  z53 := Try.sizeOf133
  v53 := Try.zeroValue133
  t55 := Try.underlying23
  a55 := Try.isAgg23
  z55 := Try.sizeOf23
  v55 := Try.zeroValue23
  t66 := Try.underlying141
  a66 := Try.isAgg141
  z66 := Try.sizeOf141
  v66 := Try.zeroValue141
  t70 := Try.underlying144
  a70 := Try.isAgg144
  z70 := Try.sizeOf144
  v70 := Try.zeroValue144
  t76 := Try.underlying148
  a76 := Try.isAgg148
  z76 := Try.sizeOf148
  v76 := Try.zeroValue148
  t77 := Try.underlying149
  a77 := Try.isAgg149
  z77 := Try.sizeOf149
  v77 := Try.zeroValue149 }

theorem cfEv_self (x : Ev) : cfEv x x = 0 := by
  unfold cfEv cfI cfS
  simp [less_irrefl]

theorem row_afterU {w : World} {enc : Unit → List Value} {gb n : Nat} {d : Array Unit} {os : Array Obj} : w.grownBy (sortWorldK enc 4 w gb 0 n d os) (some gb) := by
  refine ⟨rfl, rfl, rfl, by simp [sortWorldK, putRowK], fun k hk hne => ?_⟩
  unfold sortWorldK putRowK
  rw [heap_grow_old _ _ (by simpa using hk)]
  have : gb ≠ k := fun e => hne (by rw [e])
  simp [putRow, mapBlock, Sort.ahead, Array.getElem?_modify, this]

theorem sort_one (x : Ev) (rest : List Value) (gb cap : Nat) (w : World) (hrow : w.heap[gb]? = some (.cells (x.cells ++ rest).toArray 38 (0, 0))) :
    Calls Try.prog 18 #[.slice (some ⟨gb, 0, none⟩) 1 cap, .func (.func 19) #[] #[]] w fun e w' => e = .returned (.tuple #[]) ∧ (∀ j u, x.cells[j]? = some u → w'.cell? ⟨gb, j, none⟩ = some u) ∧ w.grownBy w' (some gb) := by
  have hgl : gb < w.heap.size := (Array.getElem?_eq_some_iff.1 hrow).1
  have hf : ∀ u : Unit, ((fun _ => x.cells) u : List Value).length = 4 := fun _ => rfl
  have hH : HoldsK (fun _ : Unit => x.cells) 4 w gb 0 #[()] := by
    intro j hj
    have hj : j < 4 := by simpa using hj
    refine ⟨?_, by rw [Nat.zero_add]; exact row_free hrow j⟩
    rw [cell_of_row w gb _ _ _ _ hrow, Nat.zero_add, get_flatK _ _ _ _ (by simpa using hj), List.getElem?_toArray, List.getElem?_append_left (by show j < 4; exact hj)]
    have h0 : j % 4 = j := by omega
    rw [h0]
    show _ = some (x.cells[j]!)
    rw [getElem!_pos x.cells j (by show j < 4; exact hj)]
    exact List.getElem?_eq_getElem _
  have hcmp : CmpLays Try.prog 19 #[] (fun _ : Unit => x.cells) 4 (fun _ _ => 0) gb 0 1 w := by
    intro m os dk _ a b
    have hb := folded1_any x x (sortWorldK (fun _ : Unit => x.cells) 4 w gb 0 m dk os)
    rw [cfEv_self] at hb
    simp only [Array.append_empty]
    exact hb.mono fun e w' ⟨h1, h2⟩ => ⟨h1, h2.grow⟩
  have hswo : SWO (ltOf (fun _ _ : Unit => (0 : Int))) := ⟨fun _ => rfl, (fun _ _ _ h => by cases h), fun _ _ _ _ _ => rfl⟩
  have hmain := AnyQ.slices_SortFunc kSortF 4 (fun w => by kernel_rfl) (fun w => by kernel_rfl) (fun _ : Unit => x.cells) hf (fun u v hv => by simp [Ev.cells] at hv; rcases hv with rfl | rfl | rfl | rfl <;> rfl) (fun _ _ => 0) hswo 19 #[] gb 0 cap #[()] w (enters_of Try.func19 (by kernel_rfl) rfl) hcmp hH hgl (by decide)
  refine hmain.mono ?_
  rintro e w' ⟨rfl, d', m, os, hp, hs, rfl⟩
  obtain ⟨hp1, _, hp2⟩ := hp
  have hd : d' = #[()] := by
    apply Array.ext
    · exact hp1
    · intros; rfl
  subst hd
  have hk := holdsK_sortWorldK_c (fun _ : Unit => x.cells) 4 w gb 0 #[()] #[()] m os hH hgl rfl
  refine ⟨rfl, fun j u hu => ?_, row_afterU⟩
  have := HoldsK.cells hk hf (i := 0) (by decide) j u hu
  rw [Addr.add_lit] at this
  simpa using this
end Go.Proofs.Ytkppmdbapcfmnaa
