/- slices.SortStableFunc at two objects, of which the second goes first. Condition: the row lies in a block of the call's own. -/
import Derived.Test.YteajdcldebegmaaVictimBefore
import Derived.Test.YteajdcldebegmaaCells
import Derived.Shelf.SlSortCmp.InsertionK
import Derived.Ground.SlsfProg
import Derived.Shelf.SlGeneric
import Derived.Sort.WalkA
namespace Go.Proofs.Yteajdcldebegmaa
open Go.ChangeShapes Go.WideShapes Go.ChangeAt Go.RowKit Go.Deep Go.Sort Go.Shelf

def kIns_ren : Go.Shelf.Ren := ⟨fun | 20 => 21 | n => n, fun | 24 => 48 | 22 => 22 | 3 => 3 | 25 => 56 | 4 => 4 | 0 => 0 | n => n, fun | n => n⟩
theorem kIns : Go.Proofs.SlLaysF0.n20 Try.prog kIns_ren := {
  mixed := by kernel_rfl
  f20 := ⟨Try.f21.name, by decide, Try.func21.trans (congrArg some (by kernel_rfl))⟩
  t0 := Try.underlying0
  a0 := Try.isAgg0
  z0 := Try.sizeOf0
  v0 := Try.zeroValue0
  t3 := Try.underlying3
  a3 := Try.isAgg3
  z3 := Try.sizeOf3
  v3 := Try.zeroValue3
  t4 := Try.underlying4
  a4 := Try.isAgg4
  z4 := Try.sizeOf4
  v4 := Try.zeroValue4
  t22 := Try.underlying22
  a22 := Try.isAgg22
  z22 := Try.sizeOf22
  v22 := Try.zeroValue22
  t25 := Try.underlying56
  a25 := Try.isAgg56
  z25 := Try.sizeOf56
  v25 := Try.zeroValue56 }

/-- Two objects, by one bit. -/
def selO (x y : OV) (b : Bool) : OV := if b then y else x
def encO (x y : OV) (b : Bool) : List Value := (selO x y b).cells
theorem encO_len (x y : OV) (b : Bool) : (encO x y b).length = 47 := (selO x y b).hlen
theorem encO_one (x y : OV) (b : Bool) : ∀ v ∈ encO x y b, v.oneCell' = true := List.all_eq_true.1 (selO x y b).one
def selR (rx ry : Int) (b : Bool) : Int := if b then ry else rx
def cfO (x y : OV) (rx ry : Int) (a b : Bool) : Int := befOf (selO x y a) (selO x y b) (selR rx ry a) (selR rx ry b)

theorem Dn.grow {w w' : World} (h : Dn w w') : ∃ q os, w' = Sort.grow (w.drewN q) os := by
  obtain ⟨⟨h1, h2, h3, h4, h5⟩, h6⟩ := h
  refine ⟨w'.drawn - w.drawn, w'.heap.extract w.heap.size w'.heap.size, ?_⟩
  have hh : w'.heap = w.heap ++ w'.heap.extract w.heap.size w'.heap.size := by
    apply Array.ext_getElem?
    intro i
    rw [Array.getElem?_append]
    split
    · rename_i hi; exact h5 i hi
    · rename_i hi
      rw [Array.getElem?_extract]
      by_cases hj : i < w'.heap.size
      · rw [if_pos (by omega)]; congr 1; omega
      · rw [if_neg (by omega)]; exact Array.getElem?_eq_none (by omega)
  unfold Sort.grow World.drewN
  cases w
  cases w'
  simp only [World.mk.injEq] at *
  subst h1 h2 h3
  exact ⟨hh, rfl, by omega, rfl, rfl⟩

theorem row_after {w : World} {gb n : Nat} {d : Array Bool} {enc : Bool → List Value} {os : Array Obj} : w.grownBy (sortWorldK enc 47 w gb 0 n d os) (some gb) := by
  refine ⟨rfl, rfl, rfl, by simp [sortWorldK, putRowK], fun k hk hne => ?_⟩
  unfold sortWorldK putRowK
  rw [heap_grow_old _ _ (by simpa using hk)]
  have : gb ≠ k := fun e => hne (by rw [e])
  simp [putRow, mapBlock, Sort.ahead, Array.getElem?_modify, this]

theorem ins_sorted {lt : Bool → Bool → Bool} (h : lt true false = true) : Sort.insertionSort lt #[false, true] 0 2 = #[true, false] := by
  unfold Sort.insertionSort
  rw [insOuter_go _ _ _ _ _ (by decide), insInner_go _ _ _ _ (by decide) (by exact h), insInner_stop _ _ _ _ (.inl (Nat.le_refl _)), insOuter_stop _ _ _ _ _ (by decide)]
  rfl

theorem ins_two (x y : OV) (rx ry : Int) (hx : ∀ w, Calls Try.prog 18 #[.int .i64 x.phase] w fun e w' => e = .returned (.int .i64 rx) ∧ Dn w w') (hy : ∀ w, Calls Try.prog 18 #[.int .i64 y.phase] w fun e w' => e = .returned (.int .i64 ry) ∧ Dn w w')
    (hlt : befOf y x ry rx < 0) (gb cap : Nat) (rest : List Value) (w : World) (hrow : w.heap[gb]? = some (.cells (x.cells ++ (y.cells ++ rest)).toArray 48 (0, 0))) :
    Calls Try.prog 21 #[.slice (some ⟨gb, 0, none⟩) 2 cap, .int .i64 0, .int .i64 2, .func (.func 13) #[] #[]] w fun e w' => e = .returned (.tuple #[]) ∧
      (∀ j u, y.cells[j]? = some u → w'.cell? ⟨gb, j, none⟩ = some u) ∧ (∀ j u, x.cells[j]? = some u → w'.cell? ⟨gb, 47 + j, none⟩ = some u) ∧ w.grownBy w' (some gb) := by
  have hgl : gb < w.heap.size := (Array.getElem?_eq_some_iff.1 hrow).1
  have hH : HoldsK (encO x y) 47 w gb 0 #[false, true] := by
    intro j hj
    have hj : j < 94 := by simpa using hj
    refine ⟨?_, by rw [Nat.zero_add]; exact row_free hrow j⟩
    rw [cell_of_row w gb _ _ _ _ hrow, Nat.zero_add, get_flatK _ _ _ _ (by simpa using hj), List.getElem?_toArray]
    by_cases h : j < 47
    · rw [List.getElem?_append_left (by rw [x.hlen]; exact h), show j / 47 = 0 by omega, show j % 47 = j by omega]
      show _ = some (x.cells[j]!)
      rw [getElem!_pos x.cells j (by rw [x.hlen]; exact h)]
      exact List.getElem?_eq_getElem _
    · rw [List.getElem?_append_right (by rw [x.hlen]; omega), x.hlen, List.getElem?_append_left (by rw [y.hlen]; omega), show j / 47 = 1 by omega, show j % 47 = j - 47 by omega]
      show _ = some (y.cells[j - 47]!)
      rw [getElem!_pos y.cells (j - 47) (by rw [y.hlen]; omega)]
      exact List.getElem?_eq_getElem _
  have hcmp : CmpLays Try.prog 13 #[] (encO x y) 47 (cfO x y rx ry) gb 0 2 w := by
    intro m os dk _ a b
    have hb := before_any (selO x y a) (selO x y b) (selR rx ry a) (selR rx ry b) (by cases a; exact hx; exact hy) (by cases b; exact hx; exact hy) (sortWorldK (encO x y) 47 w gb 0 m dk os)
    simp only [Array.append_empty]
    exact hb.mono fun e w' ⟨h1, h2⟩ => ⟨h1, h2.grow⟩
  refine (AnyQ.insertionSortCmpFunc kIns 47 (fun w => by kernel_rfl) (fun w => by kernel_rfl) (encO x y) (encO_len x y) (encO_one x y) (cfO x y rx ry) 13 #[] gb 0 cap 0 2 #[false, true] w (enters_of Try.func13 (by kernel_rfl) rfl) hcmp hH hgl (by decide) (by decide) (by decide)).mono ?_
  rintro e w' ⟨rfl, n, os, rfl⟩
  rw [ins_sorted (by exact decide_eq_true hlt)]
  have hk := holdsK_sortWorldK_c (encO x y) 47 w gb 0 #[false, true] #[true, false] n os hH hgl rfl
  refine ⟨rfl, fun j u hu => ?_, fun j u hu => ?_, row_after⟩
  · have := HoldsK.cells hk (encO_len x y) (i := 0) (by decide) j u hu
    rw [Addr.add_lit] at this
    simpa using this
  · have := HoldsK.cells hk (encO_len x y) (i := 1) (by decide) j u hu
    rw [Addr.add_lit] at this
    simpa using this

set_option maxRecDepth 100000 in
theorem stable_two (x y : OV) (rx ry : Int) (hx : ∀ w, Calls Try.prog 18 #[.int .i64 x.phase] w fun e w' => e = .returned (.int .i64 rx) ∧ Dn w w') (hy : ∀ w, Calls Try.prog 18 #[.int .i64 y.phase] w fun e w' => e = .returned (.int .i64 ry) ∧ Dn w w')
    (hlt : befOf y x ry rx < 0) (gb cap : Nat) (rest : List Value) (w : World) (hrow : w.heap[gb]? = some (.cells (x.cells ++ (y.cells ++ rest)).toArray 48 (0, 0))) :
    Calls Try.prog 12 #[.slice (some ⟨gb, 0, none⟩) 2 cap, .func (.func 13) #[] #[]] w fun e w' => e = .returned (.tuple #[]) ∧
      (∀ j u, y.cells[j]? = some u → w'.cell? ⟨gb, j, none⟩ = some u) ∧ (∀ j u, x.cells[j]? = some u → w'.cell? ⟨gb, 47 + j, none⟩ = some u) ∧ w.grownBy w' (some gb) := by
  have HI := Lib.hid (ins_two x y rx ry hx hy hlt gb cap rest w hrow)
  have HS : Hid (Calls Try.prog 15 #[.slice (some ⟨gb, 0, none⟩) 2 cap, .int .i64 2, .func (.func 13) #[] #[]] w fun e w' => e = .returned (.tuple #[]) ∧
      (∀ j u, y.cells[j]? = some u → w'.cell? ⟨gb, j, none⟩ = some u) ∧ (∀ j u, x.cells[j]? = some u → w'.cell? ⟨gb, 47 + j, none⟩ = some u) ∧ w.grownBy w' (some gb)) := by
    show Calls _ _ _ _ _
    clear hx hy hlt hrow
    go_enter Try.func15, Try.ntmps15
    go_wp2_with fail
    refine wp_loop_rounds 1 ?_
    rw [rounds_succ]
    go_wp2_with fail
    refine HI.out.mono ?_
    rintro e w1 ⟨rfl, h1, h2, h3⟩
    have H := Lib.hid (And.intro h1 (And.intro h2 h3))
    clear h1 h2 h3
    go_wp2_with fail
    refine wp_loop_rounds 1 ?_
    rw [rounds_succ]
    go_wp2_with fail
    go_end0
    exact ⟨rfl, H.out⟩
  clear HI hx hy hlt hrow
  go_enter Try.func12, Try.ntmps12
  go_wp2_with fail
  refine HS.out.mono ?_
  rintro e w1 ⟨rfl, h1, h2, h3⟩
  have H := Lib.hid (And.intro h1 (And.intro h2 h3))
  clear h1 h2 h3
  go_wp2_with fail
  go_end0
  exact ⟨rfl, H.out⟩
end Go.Proofs.Yteajdcldebegmaa
