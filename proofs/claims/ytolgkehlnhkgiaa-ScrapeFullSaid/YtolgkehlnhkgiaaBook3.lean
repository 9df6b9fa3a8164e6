/- A book of rings: what a map of it tells; how an entry is put in, or changed. Condition: the book lies in blocks of the call's own. -/
import Derived.Test.YtolgkehlnhkgiaaBook2
namespace Go.Proofs.Ytolgkehlnhkgiaa
open Go.ChangeShapes Go.WideShapes Go.ChangeAt Go.RowKit Go.Deep Go.Maps

def findE (E : List En) (k : List UInt8) : Option En := E.find? fun e => e.key == k
theorem enMap_str (E : List En) (k : List UInt8) : enMap E (.string k) = (findE E k).map En.ptr := rfl
theorem findE_key {E : List En} {k : List UInt8} {e : En} (h : findE E k = some e) : e.key = k := by
  have := List.find?_some h
  exact eq_of_beq this
theorem findE_mem {E : List En} {k : List UInt8} {e : En} (h : findE E k = some e) : e ∈ E := List.mem_of_find?_eq_some h

theorem enMap_new (E : List En) (e : En) (h : findE E e.key = none) : fset (enMap E) (.string e.key) e.ptr = enMap (E ++ [e]) := by
  funext kl
  cases kl with
  | string s =>
    show (if (Lit.string s).sameKey (.string e.key) = true then some e.ptr else enMap E (.string s)) = _
    rw [enMap_str, enMap_str]
    unfold findE
    rw [List.find?_append]
    by_cases hs : s = e.key
    · subst hs
      rw [if_pos (by simp [Lit.sameKey]), show List.find? (fun x => x.key == e.key) E = none from h]
      simp
    · rw [if_neg (by simp [Lit.sameKey]; exact hs)]
      have : (e.key == s) = false := beq_eq_false_iff_ne.2 (fun hh => hs hh.symm)
      simp [this]
  | _ => simp [fset, enMap, Lit.sameKey]

/-- The entry of a key holds other samples. -/
def setL (E : List En) (k : List UInt8) (L : List Sm) : List En := E.map fun e => if e.key = k then { e with L := L } else e

theorem setL_key (k : List UInt8) (L : List Sm) (e : En) : (if e.key = k then { e with L := L } else e).key = e.key := by split <;> rfl
theorem setL_ptr (k : List UInt8) (L : List Sm) (e : En) : (if e.key = k then { e with L := L } else e).ptr = e.ptr := by split <;> rfl
theorem setL_len (E : List En) (k : List UInt8) (L : List Sm) : (setL E k L).length = E.length := by simp [setL]

theorem findE_setL (E : List En) (k : List UInt8) (L : List Sm) (s : List UInt8) : findE (setL E k L) s = (findE E s).map fun e => if e.key = k then { e with L := L } else e := by
  unfold findE setL
  rw [List.find?_map]
  congr 1
  congr 1
  funext e
  show ((if e.key = k then { e with L := L } else e).key == s) = _
  rw [setL_key]

theorem enMap_setL (E : List En) (k : List UInt8) (L : List Sm) : enMap (setL E k L) = enMap E := by
  funext kl
  cases kl with
  | string s =>
    rw [enMap_str, enMap_str, findE_setL, Option.map_map]
    congr 1
    funext e
    exact setL_ptr k L e
  | _ => rfl

theorem enMap_same (E : List En) {k : List UInt8} {e : En} (h : findE E k = some e) : fset (enMap E) (.string k) e.ptr = enMap E := by
  funext kl
  cases kl with
  | string s =>
    show (if (Lit.string s).sameKey (.string k) = true then some e.ptr else enMap E (.string s)) = _
    by_cases hs : s = k
    · subst hs
      rw [if_pos (by simp [Lit.sameKey]), enMap_str, h]; rfl
    · rw [if_neg (by simp [Lit.sameKey]; exact hs)]
  | _ => simp [fset, enMap, Lit.sameKey]

theorem mem_apart {α : Type} {R : α → α → Prop} (hs : ∀ x y, R x y → R y x) {l : List α} (h : l.Pairwise R) {x y : α} (hx : x ∈ l) (hy : y ∈ l) (hne : x ≠ y) : R x y := by
  obtain ⟨i, hi, rfl⟩ := List.getElem_of_mem hx
  obtain ⟨j, hj, rfl⟩ := List.getElem_of_mem hy
  exact pair_get hs h hi hj (fun e => hne (by subst e; rfl))

/-- One entry's ring was written. -/
theorem BookAt.put {w w' : World} {B bb bm most : Nat} {age : Int} {E : List En} (h : BookAt w B bb bm most age E) {e : En} {k : List UInt8} (hf : findE E k = some e) {L : List Sm} (hR : RingIs w' e.rb e.lb most L) (hF : Fr (fun q => q = e.rb ∨ q = e.lb) w w') (hpos : ∀ x ∈ L, 0 ≤ x.at0) :
    BookAt w' B bb bm most age (setL E k L) := by
  have hem := findE_mem hf
  have hk := findE_key hf
  have hre := h.rings e hem
  have hbn := book_ne h.blk hre
  obtain ⟨⟨cs1, r1⟩, cs2, r2⟩ := ring_row hre
  have hm1 := map_ne_cells h.map r1
  have hm2 := map_ne_cells h.map r2
  refine ⟨hF.heap h.blk (fun hh => hh.elim hbn.1 hbn.2), ?_, ?_, ?_, ?_, ?_, ⟨h.base.1, h.base.2.1, ?_⟩, h.m1⟩
  · rw [setL_len, enMap_setL]
    exact h.map.fr hF (fun hh => hh.elim hm1 hm2)
  · intro x hx
    obtain ⟨y, hy, rfl⟩ := List.mem_map.1 hx
    by_cases hyk : y.key = k
    · rw [if_pos hyk]
      by_cases hye : y = e
      · subst hye; exact hR
      · exact absurd (hyk.trans hk.symm) (mem_apart (fun _ _ hh => Ne.symm hh) h.keys hy hem hye)
    · rw [if_neg hyk]
      have hye : y ≠ e := fun hh => hyk (by rw [hh]; exact hk)
      have hap := mem_apart (R := fun x y : En => x.rb ≠ y.rb ∧ x.lb ≠ y.lb) (fun _ _ hh => ⟨Ne.symm hh.1, Ne.symm hh.2⟩) h.apart hy hem hye
      have hrn := ring_ne (h.rings y hy) hre
      exact (h.rings y hy).fr hF (fun hh => hh.elim hap.1 hrn.1) (fun hh => hh.elim hrn.2 hap.2)
  · refine List.pairwise_map.2 (h.keys.imp fun {a b} hab => ?_)
    rw [setL_key, setL_key]; exact hab
  · refine List.pairwise_map.2 (h.apart.imp fun {a b} hab => ?_)
    split <;> split <;> exact hab
  · intro x hx
    obtain ⟨y, hy, rfl⟩ := List.mem_map.1 hx
    split
    · exact hpos
    · exact h.pos y hy
  · intro x hx
    obtain ⟨y, hy, rfl⟩ := List.mem_map.1 hx
    split <;> exact h.base.2.2 y hy

/-- The map's block was written. -/
theorem BookAt.turn {w w' : World} {B bb bm most : Nat} {age : Int} {E E' : List En} (h : BookAt w B bb bm most age E) (hT : Fr (fun q => q = bm) w w') (hM : MapIs w' Try.prog 36 bm E'.length (enMap E'))
    (hE : ∀ e ∈ E', RingIs w e.rb e.lb most e.L ∧ (∀ x ∈ e.L, 0 ≤ x.at0) ∧ B ≤ e.rb ∧ B ≤ e.lb) (hk : E'.Pairwise fun x y => x.key ≠ y.key) (ha : E'.Pairwise fun x y => x.rb ≠ y.rb ∧ x.lb ≠ y.lb) : BookAt w' B bb bm most age E' := by
  have hbm : bb ≠ bm := fun hh => map_ne_cells h.map h.blk hh.symm
  refine ⟨hT.heap h.blk hbm, hM, fun e he => ?_, hk, ha, fun e he => (hE e he).2.1, ⟨h.base.1, h.base.2.1, fun e he => (hE e he).2.2⟩, h.m1⟩
  obtain ⟨⟨cs1, r1⟩, cs2, r2⟩ := ring_row (hE e he).1
  exact (hE e he).1.fr hT (fun hh => map_ne_cells h.map r1 hh.symm) (fun hh => map_ne_cells h.map r2 hh.symm)

theorem putOf_pos {most : Nat} {L : List Sm} {x : Sm} (h : ∀ y ∈ L, 0 ≤ y.at0) (hx : 0 ≤ x.at0) : ∀ y ∈ (putOf most L x).2, 0 ≤ y.at0 := by
  have key : ∀ c : Bool, ∀ y ∈ (if c = true then ((13 : Int), L) else (0, (if L.length = most then L.tail else L) ++ [x])).2, 0 ≤ y.at0 := by
    intro c
    cases c
    · intro y hy
      rw [if_neg (by decide)] at hy
      rcases List.mem_append.1 hy with q | q
      · split at q
        · exact h y (List.mem_of_mem_tail q)
        · exact h y q
      · rw [List.mem_singleton.1 q]; exact hx
    · intro y hy
      exact h y hy
  exact key _
end Go.Proofs.Ytolgkehlnhkgiaa
