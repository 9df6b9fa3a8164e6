/- The contracts of slices.Sort and slices.Contains at names. Condition: a row of the call's own; at most 1000 names. -/
import Derived.Test.YtjncoloedakpoaaDoorRepGoneM
import Derived.Shelf.SortM.Plain
import Derived.Shelf.SortM.SortNone
import Derived.Sort.OwnSorted
import Derived.Ground.SlgmProg
import Derived.Test.YtjncoloedakpoaaDoorChecked
namespace Go.Proofs.YtjncoloedakpoaaDoor
open Go.ChangeShapes Go.WideShapes Go.ChangeAt Go.RowKit Go.Deep Go.Maps Go.Sort Go.Shelf

def kSort_ren : Go.Shelf.Ren := ⟨fun | 6 => 18 | 8 => 28 | 9 => 27 | 19 => 43 | 20 => 44 | 21 => 34 | 22 => 35 | 23 => 36 | 24 => 37 | 25 => 38 | 26 => 39 | 27 => 40 | 28 => 41 | 29 => 42 | 36 => 52 | 31 => 53 | 32 => 54 | 37 => 55 | 38 => 56 | 39 => 57 | 41 => 66 | n => n, fun | 27 => 51 | 29 => 9 | 3 => 3 | 32 => 83 | 26 => 51 | 0 => 0 | 44 => 101 | 46 => 22 | 4 => 4 | 36 => 93 | 35 => 92 | 41 => 98 | 5 => 5 | 9 => 9 | 53 => 107 | 57 => 111 | 63 => 121 | 64 => 122 | n => n, fun | n => n⟩
theorem kSort : Go.Proofs.SlLaysM.n6 Tryd.prog kSort_ren := {
  mixed := by kernel_rfl
  f6 := ⟨Tryd.f18.name, by decide, Tryd.func18.trans (congrArg some (by kernel_rfl))⟩
  f8 := Tryd.func28.trans (congrArg some (by kernel_rfl))
  f9 := ⟨Tryd.f27.name, by decide, Tryd.func27.trans (congrArg some (by kernel_rfl))⟩
  f19 := Tryd.func43.trans (congrArg some (by kernel_rfl))
  f20 := Tryd.func44.trans (congrArg some (by kernel_rfl))
  f21 := ⟨Tryd.f34.name, by decide, Tryd.func34.trans (congrArg some (by kernel_rfl))⟩
  f22 := ⟨Tryd.f35.name, by decide, Tryd.func35.trans (congrArg some (by kernel_rfl))⟩
  f23 := ⟨Tryd.f36.name, by decide, Tryd.func36.trans (congrArg some (by kernel_rfl))⟩
  f24 := ⟨Tryd.f37.name, by decide, Tryd.func37.trans (congrArg some (by kernel_rfl))⟩
  f25 := ⟨Tryd.f38.name, by decide, Tryd.func38.trans (congrArg some (by kernel_rfl))⟩
  f26 := ⟨Tryd.f39.name, by decide, Tryd.func39.trans (congrArg some (by kernel_rfl))⟩
  f27 := ⟨Tryd.f40.name, by decide, Tryd.func40.trans (congrArg some (by kernel_rfl))⟩
  f28 := ⟨Tryd.f41.name, by decide, Tryd.func41.trans (congrArg some (by kernel_rfl))⟩
  f29 := ⟨Tryd.f42.name, by decide, Tryd.func42.trans (congrArg some (by kernel_rfl))⟩
  f31 := Tryd.func53.trans (congrArg some (by kernel_rfl))
  f32 := Tryd.func54.trans (congrArg some (by kernel_rfl))
  f36 := ⟨Tryd.f52.name, by decide, Tryd.func52.trans (congrArg some (by kernel_rfl))⟩
  f37 := ⟨Tryd.f55.name, by decide, Tryd.func55.trans (congrArg some (by kernel_rfl))⟩
  f38 := ⟨Tryd.f56.name, by decide, Tryd.func56.trans (congrArg some (by kernel_rfl))⟩
  f39 := ⟨Tryd.f57.name, by decide, Tryd.func57.trans (congrArg some (by kernel_rfl))⟩
  f41 := ⟨Tryd.f66.name, by decide, Tryd.func66.trans (congrArg some (by kernel_rfl))⟩
  t0 := Tryd.underlying0
  a0 := Tryd.isAgg0
  z0 := Tryd.sizeOf0
  v0 := Tryd.zeroValue0
  t3 := Tryd.underlying3
  a3 := Tryd.isAgg3
  z3 := Tryd.sizeOf3
  v3 := Tryd.zeroValue3
  t4 := Tryd.underlying4
  a4 := Tryd.isAgg4
  z4 := Tryd.sizeOf4
  v4 := Tryd.zeroValue4
  t5 := Tryd.underlying5
  a5 := Tryd.isAgg5
  z5 := Tryd.sizeOf5
  v5 := Tryd.zeroValue5
  t9 := Tryd.underlying9
  a9 := Tryd.isAgg9
  z9 := Tryd.sizeOf9
  v9 := Tryd.zeroValue9
  t26 := Tryd.underlying51
  a26 := Tryd.isAgg51
  z26 := Tryd.sizeOf51
  v26 := Tryd.zeroValue51
  t27 := Tryd.underlying51
  a27 := Tryd.isAgg51
  z27 := Tryd.sizeOf51
  v27 := Tryd.zeroValue51
  t29 := Tryd.underlying9
  a29 := Tryd.isAgg9
  z29 := Tryd.sizeOf9
  v29 := Tryd.zeroValue9
  t32 := Tryd.underlying83
  a32 := Tryd.isAgg83
  z32 := Tryd.sizeOf83
  v32 := Tryd.zeroValue83
  t35 := Tryd.underlying92
  a35 := Tryd.isAgg92
  z35 := Tryd.sizeOf92
  v35 := Tryd.zeroValue92
  t36 := Tryd.underlying93
  a36 := Tryd.isAgg93
  z36 := Tryd.sizeOf93
  v36 := Tryd.zeroValue93
  t41 := Tryd.underlying98
  a41 := Tryd.isAgg98
  z41 := Tryd.sizeOf98
  v41 := Tryd.zeroValue98
  t44 := Tryd.underlying101
  a44 := Tryd.isAgg101
  z44 := Tryd.sizeOf101
  v44 := Tryd.zeroValue101
  t46 := Tryd.underlying22
  a46 := Tryd.isAgg22
  z46 := Tryd.sizeOf22
  v46 := Tryd.zeroValue22
  t53 := Tryd.underlying107
  a53 := Tryd.isAgg107
  z53 := Tryd.sizeOf107
  v53 := Tryd.zeroValue107
  t57 := Tryd.underlying111
  a57 := Tryd.isAgg111
  z57 := Tryd.sizeOf111
  v57 := Tryd.zeroValue111
  t63 := Tryd.underlying121
  a63 := Tryd.isAgg121
  z63 := Tryd.sizeOf121
  v63 := Tryd.zeroValue121
  t64 := Tryd.underlying122
  a64 := Tryd.isAgg122
  z64 := Tryd.sizeOf122
  v64 := Tryd.zeroValue122 }

def toL (s : ByteArray) : List UInt8 := s.data.toList
def ofL (l : List UInt8) : ByteArray := ⟨l.toArray⟩
theorem ofL_toL (s : ByteArray) : ofL (toL s) = s := rfl
theorem toL_ofL (l : List UInt8) : toL (ofL l) = l := rfl
def sortN (xs : List ByteArray) : List ByteArray := ((xs.map toL).mergeSort fun x y => decide (x ≤ y)).map ofL
theorem sortN_perm (xs : List ByteArray) : (sortN xs).Perm xs := by
  unfold sortN
  have h := (List.mergeSort_perm (xs.map toL) fun x y => decide (x ≤ y)).map ofL
  rw [List.map_map] at h
  simpa [Function.comp_def, ofL_toL] using h
theorem sortN_length (xs : List ByteArray) : (sortN xs).length = xs.length := (sortN_perm xs).length_eq
theorem sortN_le (xs : List ByteArray) : (sortN xs).Pairwise fun a b => toL a ≤ toL b := by
  unfold sortN
  rw [List.pairwise_map]
  have := List.pairwise_mergeSort (le := fun (x y : List UInt8) => decide (x ≤ y)) (fun a b c h1 h2 => by simp only [decide_eq_true_eq] at *; exact List.le_trans h1 h2) (fun a b => by simp only [Bool.or_eq_true, decide_eq_true_eq]; exact List.le_total a b) (xs.map toL)
  exact this.imp fun {a b} h => by simpa [toL_ofL] using h
theorem encN (xs : List ByteArray) : xs.flatMap cN = (xs.map toL).map encStr := by
  rw [List.map_map]
  induction xs with
  | nil => rfl
  | cons x xs ih => rw [List.flatMap_cons, ih]; rfl
theorem sortnames_any (xs : List ByteArray) (v : Value) (B : Nat) (w : World) (hO : OwnN w B v xs) (hl : xs.length ≤ 1000) :
    Calls Tryd.prog 18 #[v] w fun e w' => e = .returned (.tuple #[]) ∧ OwnN w' B v (sortN xs) ∧ w.grownBy w' v.ownBlock := by
  have hO' := hO
  rcases hO'.2 with ⟨rfl, hn0⟩ | ⟨g, cap, cur, rfl, hbase, hb, h1, h2, h3, h4⟩
  · have hx : xs = [] := List.eq_nil_of_length_eq_zero hn0
    subst hx
    refine (AnyM.slices_Sort_string_none kSort none 0 w).mono ?_
    rintro e w2 ⟨rfl, rfl⟩
    refine ⟨rfl, ?_, ⟨rfl, rfl, rfl, Nat.le_refl _, fun _ _ _ => rfl⟩⟩
    have : sortN ([] : List ByteArray) = [] := List.eq_nil_of_length_eq_zero (by rw [sortN_length]; rfl)
    rw [this]
    exact OwnN.nil _ _
  · have hlen : (xs.map toL).length = xs.length := List.length_map ..
    rw [encN, Nat.mul_one, ← hlen] at h4
    rw [← hlen] at h1
    have hH := holds_of_block hb h4
    have hc := AnyM.slices_Sort_string kSort g 0 cap (xs.map toL) w hH (Array.getElem?_eq_some_iff.1 hb).1 (by rw [hlen]; omega)
    rw [hlen] at hc
    refine hc.mono ?_
    rintro e w2 ⟨rfl, n, os, rfl⟩
    refine ⟨rfl, ?_, grownBy_sorted _⟩
    have := ownsRow_sorted (n := n) (os := os) (ts := (xs.map toL).mergeSort fun x y => decide (x ≤ y)) (List.length_mergeSort _) hbase hb h1 h2 h3
    unfold OwnN
    rw [sortN_length, encN, ← hlen]
    have e2 : (sortN xs).map toL = (xs.map toL).mergeSort fun x y => decide (x ≤ y) := by
      unfold sortN
      rw [List.map_map]
      simp [Function.comp_def, toL_ofL]
    rw [e2]
    exact this

def inB (xs : List ByteArray) (s : ByteArray) : Bool := xs.any fun x => x.toList == s.toList
theorem inB_iff (xs : List ByteArray) (s : ByteArray) : inB xs s = true ↔ s ∈ xs := by
  unfold inB
  rw [List.any_eq_true]
  constructor
  · rintro ⟨m, hm, e⟩
    have e2 := eq_of_beq e
    rw [Lib.toList_data, Lib.toList_data] at e2
    exact bytes_inj e2 ▸ hm
  · exact fun h => ⟨s, h, by simp⟩
theorem inB_get {xs : List ByteArray} {k : Nat} (h : k < xs.length) {s : ByteArray} (e : (s.toList == xs[k].toList) = true) : inB xs s = true := by
  rw [inB_iff]
  have e2 := eq_of_beq e
  rw [Lib.toList_data, Lib.toList_data] at e2
  exact bytes_inj e2 ▸ List.getElem_mem h
theorem inB_not {xs : List ByteArray} {s : ByteArray} (h : ∀ x ∈ xs, (s.toList == x.toList) = false) : inB xs s = false := by
  cases e : inB xs s
  · rfl
  · have := h s ((inB_iff xs s).1 e)
    simp at this
set_option maxRecDepth 100000 in
theorem index_any (xs : List ByteArray) (ao : Option Addr) (n cap : Nat) (s : ByteArray) (w : World) (hS : SlR (Flat cN) 1 w ao n cap xs) :
    Calls Tryd.prog 29 #[.slice ao n cap, .string s] w fun e w' => (∃ i : Int, e = .returned (.int .i64 i) ∧ decide (i ≥ 0) = inB xs s) ∧ Below w.heap.size w w' := by
  have hcm := hS.hmax
  have hlc := hS.hcap
  unfold maxLen at hcm
  have HS := Lib.hid hS
  clear hS
  go_enter Tryd.func29, Tryd.ntmps29
  go_wp2_with fail
  go_loopw [5, 8] (fun _ i wr => ∃ k : Nat, k ≤ n ∧ i = .int .i64 k ∧ Hid (∀ x ∈ xs.take k, (s.toList == x.toList) = false) ∧ Hid (Below w.heap.size w wr)) (fun _ i _ => n - (intOf i).toNat)
  case atStart => exact ⟨0, Nat.zero_le _, rfl, (fun x hx => by simp at hx), Below.refl _ _⟩
  case round =>
    obtain ⟨k, hk, rfl, hall, hb⟩ := hrel
    obtain ⟨wq, rfl⟩ : ∃ wq : World, wq = wr := ⟨_, rfl⟩
    by_cases hlt : k < n
    · have hS2 := HS.out.flatKeeps (Keeps.below hb.out)
      obtain ⟨b0, off, rfl⟩ := hS2.ptr (by decide) (by omega)
      have kx : k < xs.length := by have := hS2.hlen; omega
      have c0 := hS2.flat kx 0 _ rfl
      rw [Nat.add_zero, Nat.mul_one] at c0
      have htk : xs.take (k + 1) = xs.take k ++ [xs[k]] := List.take_succ_eq_append_getElem kx
      have Hget := Lib.hid (fun e => inB_get kx (s := s) e)
      obtain ⟨y, hy⟩ : ∃ y, xs[k] = y := ⟨_, rfl⟩
      rw [hy] at c0 htk Hget
      obtain ⟨qb, hqb⟩ : ∃ q, (s.toList == y.toList) = q := ⟨_, rfl⟩
      have Hqb := Lib.hid hqb
      have Htk := Lib.hid htk
      clear hS2 htk hy kx
      cases qb
      · go_wp2_with fail
        go_roundw
        case rel => exact ⟨k + 1, by omega, by go_num, (fun x hx => by
          rw [Htk.out] at hx
          rcases List.mem_append.1 hx with h | h
          · exact hall.out x h
          · rw [List.mem_singleton.1 h]; exact Hqb.out), hb⟩
        case measure => simp [intOf]; omega
      · go_wp2_with fail
        go_ret
        exact ⟨⟨(k : Int), rfl, by rw [Hget.out Hqb.out]; exact decide_eq_true (by omega)⟩, hb.out⟩
    · obtain rfl : k = n := by omega
      have ht : xs.take k = xs := List.take_of_length_le (by have := HS.out.hlen; omega)
      have hin : Hid (inB xs s = false) := inB_not (by have := hall.out; rwa [ht] at this)
      clear ht
      go_wp2_with fail
      go_ret
      exact ⟨⟨-1, rfl, by rw [hin.out]; rfl⟩, hb.out⟩
theorem contains_any (xs : List ByteArray) (ao : Option Addr) (n cap : Nat) (s : ByteArray) (w : World) (hS : SlR (Flat cN) 1 w ao n cap xs) :
    Calls Tryd.prog 19 #[.slice ao n cap, .string s] w fun e w' => e = .returned (.bool (inB xs s)) ∧ Below w.heap.size w w' := by
  have HI := Lib.hid (index_any xs ao n cap s w hS)
  clear hS
  go_enter Tryd.func19, Tryd.ntmps19
  go_wp2_with fail
  refine HI.out.mono ?_
  rintro e w1 ⟨⟨i, rfl, hi⟩, hb⟩
  have Hi := Lib.hid hi
  have Hb := Lib.hid hb
  obtain ⟨q, hq⟩ : ∃ q, decide (i ≥ 0) = q := ⟨_, rfl⟩
  have Hq := Lib.hid hq
  clear hi hb HI
  go_wp2_with fail
  go_ret
  exact ⟨ret_bool (by rw [← Hi.out, hq]), Hb.out⟩
end Go.Proofs.YtjncoloedakpoaaDoor
