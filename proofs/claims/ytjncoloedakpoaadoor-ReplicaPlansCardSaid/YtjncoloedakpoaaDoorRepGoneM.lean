/- The contract of victim.Order at any objects. Condition: they lie in a row of the call's own, at most 1000. || Rows of names of the call's own; sorted objects. No condition. (Parts of XRolGoes, XRolMid, XRolSplit, for programs without chapter 35.) || Names as a map's keys. No condition. (A part of XRolGone, for programs without chapter 35.) -/
import Derived.Test.YtjncoloedakpoaaDoorStObNM
import Derived.Test.YtjncoloedakpoaaDoorObjSl
import Derived.Shelf.Abstract
import Derived.Test.YtjncoloedakpoaaDoorVicOwnM
import Derived.Test.YtjncoloedakpoaaDoorFrame
import Derived.Test.YtjncoloedakpoaaDoorValM
namespace Go.Proofs.YtjncoloedakpoaaDoor
open Go.ChangeShapes Go.WideShapes Go.ChangeAt Go.RowKit Go.Deep

def OwnOb (w : World) (B : Nat) (v : Value) (xs : List ObI) : Prop := w.ownsRow B 44 47 v xs.length (xs.flatMap ObI.cells)
theorem OwnOb.nil (w : World) (B : Nat) : OwnOb w B (.slice none 0 0) [] := World.ownsRow_nil w B _ _
theorem flat_ov (xs : List ObI) : (xs.map ObI.ov).flatMap OV.cells = xs.flatMap ObI.cells := by rw [List.flatMap_map]; rfl
theorem SlR.ov {w : World} {ao : Option Addr} {n cap : Nat} {xs : List ObI} (h : SlR (Flat ObI.cells) 47 w ao n cap xs) : SlR (Flat OV.cells) 47 w ao n cap (xs.map ObI.ov) :=
  ⟨by rw [List.length_map]; exact h.hlen, h.hcap, h.hmax, h.hnil, fun a ha i hi => by
    have hi' : i < xs.length := by simpa using hi
    obtain ⟨c, h1, h2, h3⟩ := h.hat a ha i hi'
    refine ⟨c, h1, h2, ?_⟩
    rw [List.getElem_map]
    exact h3⟩
theorem filter_ov (p : OV → Bool) (xs : List ObI) : (xs.map ObI.ov).filter p = (xs.filter fun x => p x.ov).map ObI.ov := by
  rw [List.filter_map]
  rfl

def SortedO (xs ys : List ObI) : Prop := ∃ d : List TOb, d.Perm xs.zipIdx ∧ d.Pairwise TOOb ∧ ys = d.map (·.1)
theorem zipFlat_Ob : ∀ (xs : List ObI) (k : Nat), (xs.zipIdx k).flatMap tOb = xs.flatMap ObI.cells
  | [], _ => rfl
  | x :: xs, k => by rw [List.zipIdx_cons, List.flatMap_cons, List.flatMap_cons, zipFlat_Ob xs (k + 1)]; rfl
theorem flatFst_Ob (d : List TOb) : d.flatMap tOb = (d.map (·.1)).flatMap ObI.cells := by
  induction d with
  | nil => rfl
  | cons x d ih => rw [List.flatMap_cons, List.map_cons, List.flatMap_cons, ih]; rfl

set_option maxRecDepth 100000 in
theorem sortObs_any (X : List ObI) (v : Value) (B : Nat) (w : World) (hO : OwnOb w B v X) (hl : X.length ≤ 1000000) :
    Calls Tryd.prog 48 #[v, .func (.func 49) #[] #[]] w fun e w' => e = .returned (.tuple #[]) ∧ ∃ ys, SortedO X ys ∧ ys.length = X.length ∧ OwnOb w' B v ys ∧ Fr (fun k => v.ownBlock = some k) w w' := by
  rcases hO.2 with ⟨rfl, hn0⟩ | ⟨g, cap1, cur, rfl, h1⟩
  · have hx : X = [] := List.eq_nil_of_length_eq_zero hn0
    subst hx
    refine (sortStable_nil_Ob w).mono ?_
    rintro e w2 ⟨rfl, rfl⟩
    exact ⟨rfl, [], ⟨[], List.Perm.nil, List.Pairwise.nil, rfl⟩, rfl, OwnOb.nil _ _, Fr.refl _ _⟩
  · obtain ⟨hB, hnc, hcm1, rest, hrow, hrl⟩ := owns_row hO
    rw [← zipFlat_Ob X 0] at hrow
    have hR : SRowK tOb 44 w w g rest (X.zipIdx 0) := ⟨hrow, Fr.refl _ _⟩
    refine (sortStable_Ob _ rest g X.length cap1 w hR (by simp) (by omega) (zipRise_Ob X 0)).mono ?_
    rintro e w2 ⟨rfl, d, h2, h3, h4⟩
    have hdl : d.length = X.length := by rw [h3.length_eq]; simp
    refine ⟨rfl, d.map (·.1), ⟨d, h3, h4, rfl⟩, by simp [hdl], ?_, ?_⟩
    · have hro := h2.row
      rw [flatFst_Ob] at hro
      have hll : ((d.map (·.1)).flatMap ObI.cells).length = X.length * 47 := by rw [flatMap_len (f := ObI.cells) (sz := 47) (fun _ => rfl), List.length_map, hdl]
      have hll2 : ((X.zipIdx 0).flatMap tOb).length = X.length * 47 := by rw [zipFlat_Ob, flatMap_len (f := ObI.cells) (sz := 47) (fun _ => rfl)]
      rw [zipFlat_Ob] at hll2
      unfold OwnOb
      rw [List.length_map, hdl]
      exact owns_of_row (B := B) (size := 47) hB hnc hcm1 hro hll (by
        rw [List.length_append] at hrl ⊢
        omega)
    · refine ⟨h2.fr.os, h2.fr.tape, h2.fr.output, h2.fr.size, fun k hk hs => h2.fr.block k hk (fun e => hs ?_)⟩
      rw [e]; rfl

theorem orderPred_any (x : OV) (w : World) : Calls Tryd.prog 47 #[.agg x.cells.toArray] w fun e w' => e = .returned (.bool (!(x.kind == 1))) ∧ Below w.heap.size w w' := by
  have HP := Lib.hid (opod_any x (w.alloc (.cells x.cells.toArray 44)))
  have Hc : Hid (∀ j u, x.cells[j]? = some u → (w.alloc (.cells x.cells.toArray 44)).cell? (Addr.add ⟨w.heap.size, 0, none⟩ j) = some u) := fun j u hu => (cell_new w _ _ j).trans (by simpa using hu)
  obtain ⟨kb, hkb⟩ : ∃ kb, (x.kind == 1) = kb := ⟨_, rfl⟩
  rw [hkb] at HP ⊢
  clear hkb
  go_enter Tryd.func47, Tryd.ntmps47
  go_wp2_with ((with_reducible refine at_slot 3 ?_); go_must (refine wpList_load_at aggObj rfl _ rfl ⟨w.heap.size, 0, none⟩ rfl x.cells x.hlen Hc.out ?_))
  refine HP.out.mono ?_
  rintro e w1 ⟨rfl, hb⟩
  have Hb := Lib.hid (((Below.refl _ w).alloc (Nat.le_refl _) _).trans (hb.mono (by simp)))
  clear hb HP
  go_wp2_with fail
  go_ret
  exact ⟨rfl, Hb.out⟩


set_option maxRecDepth 100000 in
theorem delete_nil (w : World) : Calls Tryd.prog 45 #[.slice none 0 0, .func (.func 47) #[] #[]] w fun e w' => e = .returned (.slice none 0 0) ∧ Below w.heap.size w w' := by
  have HE := enters_of Tryd.func47 (by kernel_rfl) rfl
  have hI := indexFunc_OV (fun o => !(o.kind == 1)) 47 HE #[] [] none 0 0 w ⟨rfl, Nat.le_refl _, Nat.zero_le _, (fun _ => rfl), (fun a ha => by cases ha)⟩ (fun o w2 _ => by
    simp only [Array.append_empty]
    exact orderPred_any o w2)
  have HI := Lib.hid hI
  clear hI HE
  go_enter Tryd.func45, Tryd.ntmps45
  go_wp2_with fail
  refine HI.out.mono ?_
  rintro e w2 ⟨rfl, hb2⟩
  have H2 := Lib.hid hb2
  clear hb2 HI
  go_wp2_with fail
  go_ret
  exact ⟨rfl, H2.out⟩

theorem order_any (xs : List ObI) (B : Nat) (v : Value) (w : World) (hO : OwnOb w B v xs) (hl : xs.length ≤ 1000) :
    Calls Tryd.prog 30 #[v] w fun e w' => ∃ v' ys, e = .returned v' ∧ SortedO (xs.filter fun x => x.kd == 1) ys ∧ OwnOb w' w.heap.size v' ys ∧ Below w.heap.size w w' := by
  obtain ⟨X, hX⟩ : ∃ X, (xs.filter fun x => x.kd == 1) = X := ⟨_, rfl⟩
  rw [hX]
  have hone : (xs.flatMap ObI.cells).all (fun u => u.oneCell') = true := by
    rw [List.all_flatMap]
    exact List.all_eq_true.2 fun x _ => x.one
  have HC := Lib.hid (clone_Obj B v xs.length (xs.flatMap ObI.cells) w hO hone (by omega))
  have HS : Hid (∀ X v B w, OwnOb w B v X → X.length ≤ 1000000 → _) := fun X v B w h1 h2 => sortObs_any X v B w h1 h2
  have HE := Lib.hid (enters_of Tryd.func47 (by kernel_rfl) rfl)
  have HN : Hid (∀ w, _) := fun w => delete_nil w
  clear hO hone
  go_enter Tryd.func30, Tryd.ntmps30
  go_wp2_with fail
  refine HC.out.mono ?_
  rintro e w1 ⟨v1, rfl, hown1, hb1⟩
  have HB1 := Lib.hid hb1
  rcases hown1.2 with ⟨rfl, hn⟩ | ⟨g, cap, cur, rfl, hbg⟩
  · have hx : xs = [] := List.eq_nil_of_length_eq_zero hn
    subst hx
    obtain rfl : X = [] := by rw [← hX]; rfl
    clear hown1 hn hb1 HC
    go_wp2_with fail
    refine (HN.out w1).mono ?_
    rintro e w2 ⟨rfl, hb2⟩
    have HB2 := Lib.hid (HB1.out.trans (hb2.mono HB1.out.size))
    have hS2 := HS.out [] (.slice none 0 0) w.heap.size w2 (OwnOb.nil _ _) (by simp)
    have HS2 := Lib.hid hS2
    clear hb2 HN HS hS2
    go_wp2_with fail
    refine HS2.out.mono ?_
    rintro e w3 ⟨rfl, ys, hys, _, hO3, hf3⟩
    have HB3 := Lib.hid (HB2.out.trans (hf3.below HB2.out.size (fun k hk => by cases hk)))
    have HY := Lib.hid hys
    have HO3 := Lib.hid hO3
    clear hf3 hys hO3
    go_wp2_with fail
    go_ret
    exact ⟨_, ys, rfl, HY.out, HO3.out, HB3.out⟩
  · obtain ⟨hB, hnc, hcm1, rest, hrow, hrl⟩ := owns_row hown1
    rw [← flat_ov] at hrow
    have hD := deleteFunc_OV (fun o => !(o.kind == 1)) 47 HE.out #[] (xs.map ObI.ov) rest g xs.length cap w1 hrow (by simp) hnc hcm1 (fun o w2 _ => by
      simp only [Array.append_empty]
      exact orderPred_any o w2)
    have hfe : (xs.map ObI.ov).filter (fun o : OV => !(!(o.kind == 1))) = (xs.filter fun x => x.kd == 1).map ObI.ov := by
      rw [filter_ov]
      congr 1
      apply List.filter_congr
      intro x _
      simp [ObI.ov]
    rw [hfe, flat_ov, List.length_map] at hD
    have hXl : X.length ≤ xs.length := by rw [← hX]; exact List.length_filter_le _ _
    rw [hX] at hD
    have HD := Lib.hid hD
    have HX := Lib.hid hXl
    have Hnc := Lib.hid hnc
    have Hcm := Lib.hid hcm1
    have Hrl : Hid (xs.length * 47 + rest.length = cap * 47) := by
      show _ = _
      rw [List.length_append, flatMap_len (f := ObI.cells) (sz := 47) (fun _ => rfl)] at hrl
      exact hrl
    have HBg := Lib.hid hB
    clear hown1 hbg hrow hrl hD hfe hX hXl hnc hcm1 hB hb1 HC HE HN
    go_wp2_with fail
    refine HD.out.mono ?_
    rintro e w2 ⟨m, rest', rfl, rfl, hrl2, hrow2, hF2⟩
    have hl1 : (X.flatMap ObI.cells).length = X.length * 47 := flatMap_len (f := ObI.cells) (sz := 47) (fun _ => rfl) X
    have hO2 : OwnOb w2 w.heap.size (.slice (some ⟨g, 0, none⟩) X.length cap) X := owns_of_row HBg.out (Nat.le_trans HX.out Hnc.out) Hcm.out hrow2 hl1 (by
      rw [List.length_append, hl1, hrl2]
      have h1 := Hrl.out
      have h2 := HX.out
      omega)
    have HB2 : Hid (Below w.heap.size w w2) := HB1.out.trans (hF2.below HB1.out.size (fun k hk => by rw [hk]; exact HBg.out))
    have hS2 := HS.out X _ w.heap.size w2 hO2 (by have := HX.out; omega)
    have HS2 := Lib.hid hS2
    clear hrl2 hrow2 hF2 hl1 hO2 hS2 HS HD
    go_wp2_with fail
    refine HS2.out.mono ?_
    rintro e w3 ⟨rfl, ys, hys, _, hO3, hf3⟩
    have HB3 := Lib.hid (HB2.out.trans (hf3.below HB2.out.size (fun k hk => by cases hk; exact HBg.out)))
    have HY := Lib.hid hys
    have HO3 := Lib.hid hO3
    clear hf3 hys hO3
    go_wp2_with fail
    go_ret
    exact ⟨_, ys, rfl, HY.out, HO3.out, HB3.out⟩
end Go.Proofs.YtjncoloedakpoaaDoor
namespace Go.Proofs.YtjncoloedakpoaaDoor
open Go.ChangeShapes Go.WideShapes Go.ChangeAt Go.RowKit Go.Deep

theorem wpList_store_new {P : Program} {ops : Array Oper} {rest : List Oper} {o : Oper} {a : Act} {Q : Exit → Act → World → Prop} {T : TypeId} {size : Nat} (A : AggOK P T size) (hgd : o.guard = none) (p x : Operand) (ho : o.op = .store T p x) (hd : o.dst = none)
    (w : World) (z cs : Array Value) (hz : z.size = size) (hp : a.eval p = .pointer (some ⟨w.heap.size, 0, none⟩)) (hx : a.eval x = .agg cs) (hs : cs.size = size) (h1 : cs.toList.all (fun u => u.oneCell') = true)
    (h : wpList P ops Q rest a (w.alloc (.cells cs T))) : wpList P ops Q (o :: rest) a (w.alloc (.cells z T)) := by
  have hst := run_store_new A w z cs hz hs h1
  refine wpList_plain hgd fun _ hK => ?_
  unfold Oper.wp execOp
  simp only [ho, hx, hp, Instr.storeAt, Instr.sureAddr, Sem.run_bind, Sem.run_pure, Result.andThen_ok, hst]
  rw [Oper.upon_skip, hd]
  exact hK _ _ h

theorem World.ownsRow.mono {W : World} {base base' : Nat} {e : TypeId} {size : Nat} {v : Value} {k : Nat} {xs : List Value} (h : W.ownsRow base e size v k xs) (hb : base' ≤ base) : W.ownsRow base' e size v k xs := by
  refine ⟨h.1, ?_⟩
  rcases h.2 with hn | ⟨g, cap, cur, hv, hbg, rest⟩
  · exact .inl hn
  · exact .inr ⟨g, cap, cur, hv, Nat.le_trans hb hbg, rest⟩

def cN (s : ByteArray) : List Value := [.string s]
def OwnN (w : World) (B : Nat) (v : Value) (xs : List ByteArray) : Prop := w.ownsRow B 9 1 v xs.length (xs.flatMap cN)
theorem OwnN.nil (w : World) (B : Nat) : OwnN w B (.slice none 0 0) [] := World.ownsRow_nil w B _ _
theorem elemName : ElemOK Tryd.prog 51 9 1 16 := .mk' Tryd.underlying51 (by kernel_rfl) (by decide)
theorem oneName (s : ByteArray) (w : World) : (Instr.buildSlice 51 1 [(0, .string s)].toArray).run Tryd.prog w = .ok (.slice (some ⟨w.heap.size, 0, none⟩) 1 1) (w.alloc (.cells #[.string s] 9)) := by kernel_rfl
theorem OwnN.first {w' : World} {B : Nat} {g' cap' : Nat} {xs : List ByteArray} {x : ByteArray} (h : w'.ownsRow B 9 1 (.slice (some ⟨g', 0, none⟩) (xs.length + 1) cap') (xs.length + 1) (xs.flatMap cN ++ (#[Value.string x]).toList)) : OwnN w' B (.slice (some ⟨g', 0, none⟩) (xs.length + 1) cap') (xs ++ [x]) := by
  unfold OwnN
  rw [List.length_append, List.flatMap_append]
  exact h
theorem OwnN.reads {w : World} {B : Nat} {v : Value} {xs : List ByteArray} (h : OwnN w B v xs) : ∃ ao cap, v = .slice ao xs.length cap ∧ SlR (Flat cN) 1 w ao xs.length cap xs := by
  obtain ⟨ao, cap, e, hS, _⟩ := SlR.of_owns (f := cN) (sz := 1) h rfl (fun _ => rfl)
  exact ⟨ao, cap, e, hS⟩
theorem SortedO.mem {xs ys : List ObI} (h : SortedO xs ys) {y : ObI} (hy : y ∈ ys) : y ∈ xs := by
  obtain ⟨d, h1, _, rfl⟩ := h
  obtain ⟨t, ht, rfl⟩ := List.mem_map.1 hy
  have := h1.mem_iff.1 ht
  exact (List.mem_zipIdx' this).2 ▸ List.getElem_mem _
theorem SortedO.length {xs ys : List ObI} (h : SortedO xs ys) : ys.length = xs.length := by
  obtain ⟨d, h1, _, rfl⟩ := h
  rw [List.length_map, h1.length_eq, List.length_zipIdx]
theorem zip_fst {α : Type} : ∀ (xs : List α) (k : Nat), (xs.zipIdx k).map (·.1) = xs
  | [], _ => rfl
  | x :: xs, k => by rw [List.zipIdx_cons, List.map_cons, zip_fst xs (k + 1)]
theorem SortedO.perm {xs ys : List ObI} (h : SortedO xs ys) : ys.Perm xs := by
  obtain ⟨d, h1, _, rfl⟩ := h
  have := h1.map (·.1)
  rwa [zip_fst] at this
end Go.Proofs.YtjncoloedakpoaaDoor
namespace Go.Proofs.YtjncoloedakpoaaDoor
open Go.ChangeShapes Go.WideShapes Go.ChangeAt Go.RowKit Go.Deep Go.Maps

theorem zeroBoolP (w : World) : (zeroValue 4).run Tryd.prog w = .ok (.bool false) w := by kernel_rfl
def goneF (A : List ByteArray) : List UInt8 → Option Bool := fun s => if A.any (fun n => n.data.toList == s) = true then some true else none
theorem goneF_nil : goneF [] = fun _ => none := by funext s; simp [goneF]
theorem goneF_snoc (A : List ByteArray) (n : ByteArray) : sset (goneF A) n.data.toList true = goneF (A ++ [n]) := by
  funext s
  unfold sset goneF
  rw [List.any_append, List.any_cons, List.any_nil, Bool.or_false]
  by_cases h : s = n.data.toList
  · subst h
    simp
  · have h2 : (n.data.toList == s) = false := by simpa using fun e => h e.symm
    rw [if_neg h, h2, Bool.or_false]
def gB (A : List ByteArray) (n : ByteArray) : Bool := A.any (fun m => m.data.toList == n.data.toList)
theorem goneF_get (A : List ByteArray) (n : ByteArray) : (byStr Value.bool (goneF A) (.string n.data.toList)).getD (.bool false) = .bool (gB A n) := by
  show ((goneF A n.data.toList).map Value.bool).getD _ = _
  unfold goneF gB
  cases A.any (fun m => m.data.toList == n.data.toList) <;> rfl
theorem gB_iff (A : List ByteArray) (n : ByteArray) : gB A n = true ↔ n ∈ A := by
  unfold gB
  rw [List.any_eq_true]
  constructor
  · rintro ⟨m, hm, e⟩
    have : m = n := bytes_inj (eq_of_beq e)
    exact this ▸ hm
  · exact fun h => ⟨n, h, by simp⟩

end Go.Proofs.YtjncoloedakpoaaDoor
