/- slices.Sorted(maps.Keys(m)) at a map from strings to int64: a new slice of the keys, rising. Condition: the map is of at most 2^40 keys. -/
import Derived.Test.YtlokeeejemndfaaStr
import Derived.Shelf.SlIter.Nil
import Derived.Shelf.SortM.Plain
import Derived.Shelf.SortM.SortNone
import Derived.Ground.GgzProg
import Derived.Ground.SlgmProg
import Derived.Test.YtlokeeejemndfaaChecked
namespace Go.Proofs.Ytlokeeejemndfaa
open Go.ChangeShapes Go.WideShapes Go.ChangeAt Go.RowKit Go.Deep Go.Maps Go.Sort Go.Shelf

def kKeys_ren : Go.Shelf.Ren := ⟨fun | 7 => 15 | 10 => 19 | n => n, fun | 23 => 43 | 26 => 9 | 3 => 2 | 28 => 49 | 0 => 0 | 27 => 48 | 33 => 53 | 4 => 4 | n => n, fun | n => n⟩
theorem kKeys : Go.Proofs.SlLaysZ.n7 Try.prog kKeys_ren := {
  mixed := by kernel_rfl
  f7 := ⟨Try.f15.name, by decide, Try.func15.trans (congrArg some (by kernel_rfl))⟩
  f10 := ⟨Try.f19.name, by decide, Try.func19.trans (congrArg some (by kernel_rfl))⟩
  t0 := Try.underlying0
  a0 := Try.isAgg0
  z0 := Try.sizeOf0
  v0 := Try.zeroValue0
  t4 := Try.underlying4
  a4 := Try.isAgg4
  z4 := Try.sizeOf4
  v4 := Try.zeroValue4
  t23 := Try.underlying43
  a23 := Try.isAgg43
  z23 := Try.sizeOf43
  v23 := Try.zeroValue43
  t26 := Try.underlying9
  a26 := Try.isAgg9
  z26 := Try.sizeOf9
  v26 := Try.zeroValue9
  t27 := Try.underlying48
  a27 := Try.isAgg48
  z27 := Try.sizeOf48
  v27 := Try.zeroValue48
  t28 := Try.underlying49
  a28 := Try.isAgg49
  z28 := Try.sizeOf49
  v28 := Try.zeroValue49
  t33 := Try.underlying53
  a33 := Try.isAgg53
  z33 := Try.sizeOf53
  v33 := Try.zeroValue53 }
def kSorted_ren : Go.Shelf.Ren := ⟨fun | 6 => 14 | 8 => 17 | 9 => 18 | 11 => 20 | 13 => 22 | 12 => 21 | 23 => 32 | 24 => 33 | 14 => 23 | 15 => 24 | 16 => 25 | 17 => 26 | 18 => 27 | 19 => 28 | 20 => 29 | 21 => 30 | 22 => 31 | 25 => 34 | 26 => 35 | 27 => 36 | 28 => 37 | 29 => 38 | 30 => 39 | 31 => 40 | n => n, fun | 26 => 9 | 28 => 49 | 24 => 29 | 0 => 0 | 3 => 3 | 37 => 57 | 48 => 68 | 50 => 70 | 4 => 4 | 40 => 60 | 39 => 59 | 45 => 65 | 5 => 5 | 9 => 9 | 51 => 71 | 55 => 75 | 57 => 77 | 58 => 78 | 33 => 53 | n => n, fun | n => n⟩
theorem kSorted : Go.Proofs.SlLaysZ.n6 Try.prog kSorted_ren := {
  mixed := by kernel_rfl
  f6 := ⟨Try.f14.name, by decide, Try.func14.trans (congrArg some (by kernel_rfl))⟩
  f8 := ⟨Try.f17.name, by decide, Try.func17.trans (congrArg some (by kernel_rfl))⟩
  f11 := ⟨Try.f20.name, by decide, Try.func20.trans (congrArg some (by kernel_rfl))⟩
  t0 := Try.underlying0
  a0 := Try.isAgg0
  z0 := Try.sizeOf0
  v0 := Try.zeroValue0
  t24 := Try.underlying29
  a24 := Try.isAgg29
  z24 := Try.sizeOf29
  v24 := Try.zeroValue29
  t26 := Try.underlying9
  a26 := Try.isAgg9
  z26 := Try.sizeOf9
  v26 := Try.zeroValue9
  t28 := Try.underlying49
  a28 := Try.isAgg49
  z28 := Try.sizeOf49
  v28 := Try.zeroValue49
  i26 := by kernel_rfl }
def kSort_ren : Go.Shelf.Ren := ⟨fun | 6 => 18 | 8 => 22 | 9 => 21 | 19 => 32 | 20 => 33 | 21 => 23 | 22 => 24 | 23 => 25 | 24 => 26 | 25 => 27 | 26 => 28 | 27 => 29 | 28 => 30 | 29 => 31 | 36 => 34 | 31 => 35 | 32 => 36 | 37 => 37 | 38 => 38 | 39 => 39 | 41 => 40 | n => n, fun | 27 => 29 | 29 => 9 | 3 => 3 | 32 => 57 | 26 => 29 | 0 => 0 | 44 => 68 | 46 => 70 | 4 => 4 | 36 => 60 | 35 => 59 | 41 => 65 | 5 => 5 | 9 => 9 | 53 => 71 | 57 => 75 | 63 => 77 | 64 => 78 | n => n, fun | n => n⟩
theorem kSort : Go.Proofs.SlLaysM.n6 Try.prog kSort_ren := {
  mixed := by kernel_rfl
  f6 := ⟨Try.f18.name, by decide, Try.func18.trans (congrArg some (by kernel_rfl))⟩
  f8 := Try.func22.trans (congrArg some (by kernel_rfl))
  f9 := ⟨Try.f21.name, by decide, Try.func21.trans (congrArg some (by kernel_rfl))⟩
  f19 := Try.func32.trans (congrArg some (by kernel_rfl))
  f20 := Try.func33.trans (congrArg some (by kernel_rfl))
  f21 := ⟨Try.f23.name, by decide, Try.func23.trans (congrArg some (by kernel_rfl))⟩
  f22 := ⟨Try.f24.name, by decide, Try.func24.trans (congrArg some (by kernel_rfl))⟩
  f23 := ⟨Try.f25.name, by decide, Try.func25.trans (congrArg some (by kernel_rfl))⟩
  f24 := ⟨Try.f26.name, by decide, Try.func26.trans (congrArg some (by kernel_rfl))⟩
  f25 := ⟨Try.f27.name, by decide, Try.func27.trans (congrArg some (by kernel_rfl))⟩
  f26 := ⟨Try.f28.name, by decide, Try.func28.trans (congrArg some (by kernel_rfl))⟩
  f27 := ⟨Try.f29.name, by decide, Try.func29.trans (congrArg some (by kernel_rfl))⟩
  f28 := ⟨Try.f30.name, by decide, Try.func30.trans (congrArg some (by kernel_rfl))⟩
  f29 := ⟨Try.f31.name, by decide, Try.func31.trans (congrArg some (by kernel_rfl))⟩
  f31 := Try.func35.trans (congrArg some (by kernel_rfl))
  f32 := Try.func36.trans (congrArg some (by kernel_rfl))
  f36 := ⟨Try.f34.name, by decide, Try.func34.trans (congrArg some (by kernel_rfl))⟩
  f37 := ⟨Try.f37.name, by decide, Try.func37.trans (congrArg some (by kernel_rfl))⟩
  f38 := ⟨Try.f38.name, by decide, Try.func38.trans (congrArg some (by kernel_rfl))⟩
  f39 := ⟨Try.f39.name, by decide, Try.func39.trans (congrArg some (by kernel_rfl))⟩
  f41 := ⟨Try.f40.name, by decide, Try.func40.trans (congrArg some (by kernel_rfl))⟩
  t0 := Try.underlying0
  a0 := Try.isAgg0
  z0 := Try.sizeOf0
  v0 := Try.zeroValue0
  t3 := Try.underlying3
  a3 := Try.isAgg3
  z3 := Try.sizeOf3
  v3 := Try.zeroValue3
  t4 := Try.underlying4
  a4 := Try.isAgg4
  z4 := Try.sizeOf4
  v4 := Try.zeroValue4
  t5 := Try.underlying5
  a5 := Try.isAgg5
  z5 := Try.sizeOf5
  v5 := Try.zeroValue5
  t9 := Try.underlying9
  a9 := Try.isAgg9
  z9 := Try.sizeOf9
  v9 := Try.zeroValue9
  t26 := Try.underlying29
  a26 := Try.isAgg29
  z26 := Try.sizeOf29
  v26 := Try.zeroValue29
  t27 := Try.underlying29
  a27 := Try.isAgg29
  z27 := Try.sizeOf29
  v27 := Try.zeroValue29
  t29 := Try.underlying9
  a29 := Try.isAgg9
  z29 := Try.sizeOf9
  v29 := Try.zeroValue9
  t32 := Try.underlying57
  a32 := Try.isAgg57
  z32 := Try.sizeOf57
  v32 := Try.zeroValue57
  t35 := Try.underlying59
  a35 := Try.isAgg59
  z35 := Try.sizeOf59
  v35 := Try.zeroValue59
  t36 := Try.underlying60
  a36 := Try.isAgg60
  z36 := Try.sizeOf60
  v36 := Try.zeroValue60
  t41 := Try.underlying65
  a41 := Try.isAgg65
  z41 := Try.sizeOf65
  v41 := Try.zeroValue65
  t44 := Try.underlying68
  a44 := Try.isAgg68
  z44 := Try.sizeOf68
  v44 := Try.zeroValue68
  t46 := Try.underlying70
  a46 := Try.isAgg70
  z46 := Try.sizeOf70
  v46 := Try.zeroValue70
  t53 := Try.underlying71
  a53 := Try.isAgg71
  z53 := Try.sizeOf71
  v53 := Try.zeroValue71
  t57 := Try.underlying75
  a57 := Try.isAgg75
  z57 := Try.sizeOf75
  v57 := Try.zeroValue75
  t63 := Try.underlying77
  a63 := Try.isAgg77
  z63 := Try.sizeOf77
  v63 := Try.zeroValue77
  t64 := Try.underlying78
  a64 := Try.isAgg78
  z64 := Try.sizeOf78
  v64 := Try.zeroValue78 }

/-- slices.Sort's two contracts. -/
theorem kSorts (m : Nat) : AnyZ.SortsIn Try.prog kSorted_ren Fence.wide m :=
  ⟨fun blk off cap ss W hH hblk hsz => callsIn_wide.2 (AnyM.slices_Sort_string kSort blk off cap ss W hH hblk hsz),
   fun p cap W => callsIn_wide.2 (AnyM.slices_Sort_string_none kSort p cap W)⟩

/-- maps.Keys at any map, nil too. -/
theorem keys_any (mb : Option Nat) (W : World) : Calls Try.prog 15 #[.map mb] W fun e w' => e = .returned (.func (.func 19) #[] #[.pointer (some ⟨W.heap.size, 0, none⟩)]) ∧ w' = W.alloc (.cells #[.map mb] 43) :=
  (callsIn_wide (n := 5)).1 (AnyZ.keys_in kKeys Fence.wide 5 trivial rfl mb W)

/-- The keys of a map, rising. -/
def SortedKeys (f : List UInt8 → Bool) (ss : List (List UInt8)) : Prop := ss.Pairwise (fun a b => a ≤ b ∧ a ≠ b) ∧ ∀ s, s ∈ ss ↔ f s = true

theorem keys_sorted {w : World} {b n : Nat} {D : DataW Value} {f : Lit → Option Value} (hown : w.ownsMap Try.prog 9 heldElem b n D) (hT : Tells D f) {ss : List (List UInt8)} (h : ss.Perm (strKeys D)) :
    SortedKeys (fun s => (f (.string s)).isSome) (ss.mergeSort leB) ∧ ss.length = Maps.size D := by
  obtain ⟨es, rfl, hpw, _⟩ := hown.entries strKeyed
  obtain ⟨es', hD', hko⟩ := hown.keysOf
  obtain rfl : es = es' := by simpa using hD'
  have hks : ∀ p ∈ es, ∃ x, p.1 = .string x := fun p hp => by
    obtain ⟨v, hv⟩ := hko p hp
    obtain ⟨x, _, hx, _⟩ := Maps.keyOf_str Try.underlying9 hv
    exact ⟨x, hx⟩
  have hnd : (strKeys (.map es)).Nodup := by
    show (es.map fun p => strOf p.1).Nodup
    refine List.pairwise_map.2 (hpw.imp_of_mem fun {p q} hp' hq' hne e => hne ?_)
    obtain ⟨a, ha⟩ := hks p hp'
    obtain ⟨b, hb⟩ := hks q hq'
    rw [ha, hb] at e ⊢
    exact congrArg _ e
  have hmem : ∀ x, x ∈ strKeys (.map es) ↔ Maps.has (.map es) (.string x) = true := fun x => by
    rw [has_eq, List.any_eq_true]
    show x ∈ (es.map fun p => strOf p.1) ↔ _
    rw [List.mem_map]
    constructor
    · rintro ⟨p, hp', rfl⟩
      obtain ⟨a, ha⟩ := hks p hp'
      exact ⟨p, hp', by rw [ha]; simp [Lit.sameKey, strOf]⟩
    · rintro ⟨p, hp', hs⟩
      obtain ⟨a, ha⟩ := hks p hp'
      rw [ha] at hs
      exact ⟨p, hp', by rw [ha]; simpa [Lit.sameKey, strOf] using hs⟩
  have htr : ∀ a b c : List UInt8, leB a b = true → leB b c = true → leB a c = true := fun a b c h1 h2 => by simp only [leB, decide_eq_true_eq] at *; exact List.le_trans h1 h2
  have hto : ∀ a b : List UInt8, (leB a b || leB b a) = true := fun a b => by simp only [leB, Bool.or_eq_true, decide_eq_true_eq]; exact List.le_total a b
  have hnd2 : (ss.mergeSort leB).Nodup := ((List.mergeSort_perm ss leB).trans h).nodup_iff.2 hnd
  refine ⟨⟨?_, fun s => ?_⟩, by rw [h.length_eq]; simp [strKeys, Maps.size]⟩
  · refine ((List.pairwise_mergeSort htr hto ss).and hnd2).imp fun {a b} hab => ⟨by simpa [leB] using hab.1, hab.2⟩
  · rw [((List.mergeSort_perm ss leB).trans h).mem_iff, hmem, (hT _).1]

set_option maxHeartbeats 1000000 in
/-- slices.Sorted at what maps.Keys handed back. -/
theorem sorted_any (b n : Nat) (f : Lit → Option Value) (w : World) (hM : MapIs w Try.prog 9 b n f) (hn : n ≤ 1000000) :
    Calls Try.prog 14 #[.func (.func 19) #[] #[.pointer (some ⟨w.heap.size, 0, none⟩)]] (w.alloc (.cells #[.map (some b)] 43)) fun e w' => ∃ (v : Value) (xs : List SStr), e = .returned v ∧
      SortedKeys (fun s => (f (.string s)).isSome) (xs.map SStr.key) ∧ xs.length = n ∧ w'.ownsRow (w.alloc (.cells #[.map (some b)] 43)).heap.size 9 1 v n (xs.flatMap cS) ∧ Below (w.alloc (.cells #[.map (some b)] 43)).heap.size (w.alloc (.cells #[.map (some b)] 43)) w' := by
  obtain ⟨D0, hown, hsz, hT⟩ := hM
  have hbl := hown.lt
  have hseq : SeqGives Fence.wide 2 Try.prog 19 #[.pointer (some ⟨w.heap.size, 0, none⟩)] encStr (fun ss => ss.Perm (strKeys D0)) (Maps.size D0) (w.alloc (.cells #[.map (some b)] 43)) :=
    AnyZ.keys_gives (ρ := kKeys_ren) { kKeys with } Fence.wide _ trivial rfl (by omega) w.heap.size b n D0 _ (by simp) (by simp) (by
      obtain ⟨es, clock, hb, Ft, hs, hD⟩ := hown
      exact ⟨es, clock, (Below.heap_alloc _ _ b hbl).trans hb, Ft, hs, hD⟩)
  have hc := (callsIn_wide (n := 5)).1 (AnyZ.sorted_in kSorted Fence.wide 5 trivial trivial trivial trivial rfl (by omega) (kSorts _) (enters_of Try.func18 (by kernel_rfl) rfl) 19 #[.pointer (some ⟨w.heap.size, 0, none⟩)] trivial (enters_of Try.func19 (by kernel_rfl) rfl) _ _ (by unfold maxLen; omega) (by omega) _ hseq)
  refine hc.mono ?_
  rintro e w' ⟨v, ss, rfl, hS, hrow, hnil, hb⟩
  obtain ⟨k1, k2⟩ := keys_sorted hown hT hS
  obtain ⟨xs, h1, h2⟩ := sstr_of (ss.mergeSort leB) (fun s hs => strKeys_le hown Try.underlying9 s (hS.mem_iff.1 ((List.mergeSort_perm ss leB).mem_iff.1 hs)))
  have hl : ss.length = n := k2.trans hsz
  refine ⟨v, xs, rfl, by rw [h1]; exact k1, ?_, ?_, hb⟩
  · have := congrArg List.length h1
    rw [List.length_map, List.length_mergeSort] at this
    omega
  · rw [h2, ← hl]
    exact hrow
end Go.Proofs.Ytlokeeejemndfaa
