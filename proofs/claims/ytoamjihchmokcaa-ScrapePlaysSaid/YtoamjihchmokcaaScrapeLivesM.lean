/- slices.SortFunc at series, and the contract of scrape's All: all series, rising. Condition: the book lies in blocks of the call's own. || The contract of scrape's All: all series, rising. Condition: the book lies in blocks of the call's own, with at most 512 series. || A book and its model side by side: what is looked at, at the end. Conditions: the book and the model lie in blocks of the call's own. || Contracts of scrape's Fresh at a book, and the chapter's example. Condition: the book lies in blocks of the call's own. -/
import Derived.Test.YtoamjihchmokcaaCmpSM
import Derived.Shelf.SlSortCmp.WholeK
import Derived.Shelf.SlSortCmp.NoneTotal
import Derived.Ground.SlsfProg
import Derived.Shelf.SlGeneric
import Derived.Test.YtoamjihchmokcaaFrame
import Derived.Test.YtoamjihchmokcaaSerKeysM
import Derived.Test.YtoamjihchmokcaaModelM
namespace Go.Proofs.Ytoamjihchmokcaa
open Go.ChangeShapes Go.WideShapes Go.ChangeAt Go.RowKit Go.Deep Go.Sort Go.Shelf Go.Maps

def kSortF_ren : Go.Shelf.Ren := ⟨fun | 6 => 41 | 15 => 50 | 14 => 49 | 28 => 60 | 29 => 61 | 20 => 52 | 21 => 53 | 22 => 54 | 23 => 55 | 24 => 56 | 25 => 57 | 26 => 58 | 27 => 59 | 46 => 62 | 47 => 63 | 48 => 64 | 49 => 65 | 50 => 66 | 57 => 67 | n => n, fun | 22 => 47 | 24 => 33 | 25 => 74 | 3 => 3 | 39 => 103 | 0 => 0 | 53 => 119 | 55 => 34 | 4 => 4 | 46 => 112 | 45 => 111 | 50 => 116 | 5 => 5 | 9 => 9 | 66 => 121 | 70 => 125 | 76 => 127 | 77 => 128 | n => n, fun | n => n⟩
theorem kSortF : Go.Proofs.SlLaysF0.n6 Try.prog kSortF_ren := {
  mixed := by kernel_rfl
  f6 := ⟨Try.f41.name, by decide, Try.func41.trans (congrArg some (by kernel_rfl))⟩
  f14 := ⟨Try.f49.name, by decide, Try.func49.trans (congrArg some (by kernel_rfl))⟩
  f15 := Try.func50.trans (congrArg some (by kernel_rfl))
  f20 := ⟨Try.f52.name, by decide, Try.func52.trans (congrArg some (by kernel_rfl))⟩
  f21 := ⟨Try.f53.name, by decide, Try.func53.trans (congrArg some (by kernel_rfl))⟩
  f22 := ⟨Try.f54.name, by decide, Try.func54.trans (congrArg some (by kernel_rfl))⟩
  f23 := ⟨Try.f55.name, by decide, Try.func55.trans (congrArg some (by kernel_rfl))⟩
  f24 := ⟨Try.f56.name, by decide, Try.func56.trans (congrArg some (by kernel_rfl))⟩
  f25 := ⟨Try.f57.name, by decide, Try.func57.trans (congrArg some (by kernel_rfl))⟩
  f26 := ⟨Try.f58.name, by decide, Try.func58.trans (congrArg some (by kernel_rfl))⟩
  f27 := ⟨Try.f59.name, by decide, Try.func59.trans (congrArg some (by kernel_rfl))⟩
  f28 := Try.func60.trans (congrArg some (by kernel_rfl))
  f29 := Try.func61.trans (congrArg some (by kernel_rfl))
  f46 := ⟨Try.f62.name, by decide, Try.func62.trans (congrArg some (by kernel_rfl))⟩
  f47 := Try.func63.trans (congrArg some (by kernel_rfl))
  f48 := Try.func64.trans (congrArg some (by kernel_rfl))
  f49 := ⟨Try.f65.name, by decide, Try.func65.trans (congrArg some (by kernel_rfl))⟩
  f50 := ⟨Try.f66.name, by decide, Try.func66.trans (congrArg some (by kernel_rfl))⟩
  f57 := ⟨Try.f67.name, by decide, Try.func67.trans (congrArg some (by kernel_rfl))⟩
  t0 := Try.underlying0
  a0 := Try.isAgg0
  z0 := Try.sizeOf0
  v0 := Try.zeroValue0
  t3 := Try.underlying3
  a3 := Try.isAgg3
  z3 := Try.sizeOf3
  v3 := Try.zeroValue3
  t4 := Try.underlying4
  a4 := Try.isAgg4
  z4 := Try.sizeOf4
  v4 := Try.zeroValue4
  t5 := Try.underlying5
  a5 := Try.isAgg5
  z5 := Try.sizeOf5
  v5 := Try.zeroValue5
  t9 := Try.underlying9
  a9 := Try.isAgg9
  z9 := Try.sizeOf9
  v9 := Try.zeroValue9
  t22 := Try.underlying47
  a22 := Try.isAgg47
  z22 := Try.sizeOf47
  v22 := Try.zeroValue47
  t25 := Try.underlying74
  a25 := Try.isAgg74
  z25 := Try.sizeOf74
  v25 := Try.zeroValue74
  t39 := Try.underlying103
  a39 := Try.isAgg103
  z39 := Try.sizeOf103
  v39 := Try.zeroValue103
  t45 := Try.underlying111
  a45 := Try.isAgg111
  z45 := Try.sizeOf111
  v45 := Try.zeroValue111
  t46 := Try.underlying112
  a46 := Try.isAgg112
  z46 := Try.sizeOf112
  v46 := Try.zeroValue112
  t50 := Try.underlying116
  a50 := Try.isAgg116
  z50 := Try.sizeOf116
  v50 := Try.zeroValue116
  t53 := Try.underlying119
  a53 := Try.isAgg119
  z53 := Try.sizeOf119
  v53 := Try.zeroValue119
  t55 := Try.underlying34
  a55 := Try.isAgg34
  z55 := Try.sizeOf34
  v55 := Try.zeroValue34
  t66 := Try.underlying121
  a66 := Try.isAgg121
  z66 := Try.sizeOf121
  v66 := Try.zeroValue121
  t70 := Try.underlying125
  a70 := Try.isAgg125
  z70 := Try.sizeOf125
  v70 := Try.zeroValue125
  t76 := Try.underlying127
  a76 := Try.isAgg127
  z76 := Try.sizeOf127
  v76 := Try.zeroValue127
  t77 := Try.underlying128
  a77 := Try.isAgg128
  z77 := Try.sizeOf128
  v77 := Try.zeroValue128 }
instance : Inhabited Ks := ⟨⟨⟨#[]⟩, ⟨#[]⟩⟩⟩

theorem or_two (a b : Int) (k : Nat) (w : World) (h0 : w.cell? ⟨k, 0, none⟩ = some (.int .i64 a)) (h1 : w.cell? ⟨k, 1, none⟩ = some (.int .i64 b)) :
    Calls Try.prog 25 #[.slice (some ⟨k, 0, none⟩) 2 2] w fun e w' => e = .returned (.int .i64 (if a = 0 then b else a)) ∧ w' = w := by
  obtain ⟨r, hr⟩ : ∃ r, (if a = 0 then b else a) = r := ⟨_, rfl⟩
  rw [hr]
  have Hr := Lib.hid hr
  clear hr
  by_cases ha : a = 0
  · subst ha
    by_cases hb : b = 0
    · subst hb
      have e : r = 0 := by have := Hr.out; simpa using this.symm
      subst e
      go_enter Try.func25, Try.ntmps25
      go_wp2_with fail
      refine wp_loop_rounds 3 ?_
      rw [rounds_succ]
      go_wp2_with fail
      rw [rounds_succ]
      go_wp2_with fail
      rw [rounds_succ]
      go_wp2_with fail
      go_ret
      exact ⟨rfl, rfl⟩
    · have e : r = b := by have := Hr.out; simpa using this.symm
      subst e
      have hc' : (r != 0) = true := bne_iff_ne.2 hb
      have hc2 : (r == 0) = false := beq_eq_false_iff_ne.2 hb
      go_enter Try.func25, Try.ntmps25
      go_wp2_with fail
      refine wp_loop_rounds 2 ?_
      rw [rounds_succ]
      go_wp2_with fail
      rw [rounds_succ]
      go_wp2_with fail
      go_ret
      exact ⟨rfl, rfl⟩
  · have e : r = a := by have := Hr.out; rw [if_neg ha] at this; exact this.symm
    subst e
    have hc' : (r != 0) = true := bne_iff_ne.2 ha
    have hc2 : (r == 0) = false := beq_eq_false_iff_ne.2 ha
    go_enter Try.func25, Try.ntmps25
    go_wp2_with fail
    refine wp_loop_rounds 1 ?_
    rw [rounds_succ]
    go_wp2_with fail
    go_ret
    exact ⟨rfl, rfl⟩

def cfK (x y : Ks) : Int := if cfS x.a y.a = 0 then cfS x.b y.b else cfS x.a y.a
def ltB (x y : Ks) : Bool := Op.bytesLess x.a.toList y.a.toList || ((x.a.toList == y.a.toList) && Op.bytesLess x.b.toList y.b.toList)

set_option maxRecDepth 100000 in
set_option maxHeartbeats 2000000 in
theorem all1_any (x y : Ks) (w : World) :
    Calls Try.prog 24 #[.agg #[.string x.a, .string x.b], .agg #[.string y.a, .string y.b]] w fun e w' => e = .returned (.int .i64 (cfK x y)) ∧ Dn w w' := by
  obtain ⟨x0, x1⟩ := x
  obtain ⟨y0, y1⟩ := y
  have HB : Hid ((if cfS x0 y0 = 0 then cfS x1 y1 else cfS x0 y0) = cfK ⟨x0, x1⟩ ⟨y0, y1⟩) := rfl
  dsimp only
  have a0 := cell_new w #[.string x0, .string x1] 33 0
  have a1 := cell_new w #[.string x0, .string x1] 33 1
  obtain ⟨w1, hw1⟩ : ∃ w1, w.alloc (.cells #[.string x0, .string x1] 33) = w1 := ⟨_, rfl⟩
  rw [hw1, Addr.add_lit, Nat.zero_add] at a0 a1
  have b0 := cell_new w1 #[.string y0, .string y1] 33 0
  have b1 := cell_new w1 #[.string y0, .string y1] 33 1
  have hb1 : Below w1.heap.size w1 (w1.alloc (.cells #[.string y0, .string y1] 33)) := (Below.refl _ _).alloc (Nat.le_refl _) _
  have a0 := Below.cell_some hb1 a0
  have a1 := Below.cell_some hb1 a1
  have hd : Dn w (w1.alloc (.cells #[.string y0, .string y1] 33)) := by rw [← hw1]; exact ((Dn.refl w).alloc _).alloc _
  have Hd := Lib.hid hd
  clear hb1 hd
  go_enter Try.func24, Try.ntmps24
  go_upto_region 1 with fail
  obtain ⟨W, hW⟩ : ∃ W, w1.alloc (.cells #[.string y0, .string y1] 33) = W := ⟨_, rfl⟩
  obtain ⟨sa, hsa⟩ : ∃ q, w.heap.size = q := ⟨_, rfl⟩
  obtain ⟨sb, hsb⟩ : ∃ q, w1.heap.size = q := ⟨_, rfl⟩
  simp only [hW, hsa, hsb] at a0 a1 b0 b1 Hd ⊢
  simp only [Addr.add_lit, Nat.zero_add] at b0 b1
  clear hW hsa hsb hw1
  replace a0 := DW.cell a0
  replace a1 := DW.cell a1
  replace b0 := DW.cell b0
  replace b1 := DW.cell b1
  refine wp_region_head_lit 10 (fun w' => ∃ p : DW W, w' = p.w') (by kernel_rfl) (by kernel_rfl) ⟨⟨{ W with drawn := W.drawn + 1 }, Dn.drew W⟩, rfl⟩ ?_
  simp only [List.take_succ_cons, List.take_zero, List.drop_succ_cons, List.drop_zero]
  repeat (quiet_step (first
    | (go_at_call 26; exact DW.call _ ((compare_str _ _ _).mono (by rintro e w' ⟨rfl, rfl⟩; exact ⟨rfl, Dn.refl _⟩)))
    | exact rfl))
  refine wpQuiet_nil ?_
  intro w4 hw'
  obtain ⟨⟨_, hb4⟩, e4⟩ := hw'
  dsimp only at e4
  subst e4
  have Hb4 := Lib.hid (Hd.out.trans hb4)
  obtain ⟨p, hp⟩ : ∃ p, cfS x0 y0 = p := ⟨_, rfl⟩
  obtain ⟨q, hq⟩ : ∃ q, cfS x1 y1 = q := ⟨_, rfl⟩
  rw [hp, hq] at HB
  rw [hp, hq]
  clear hb4 a0 a1 b0 b1 hp hq
  go_wp2_with fail
  have k0 : (w4.alloc (.cells #[.int .i64 p, .int .i64 q] 3)).cell? ⟨w4.heap.size, 0, none⟩ = some (.int .i64 p) := cell_new w4 _ _ 0
  have k1 : (w4.alloc (.cells #[.int .i64 p, .int .i64 q] 3)).cell? ⟨w4.heap.size, 1, none⟩ = some (.int .i64 q) := cell_new w4 _ _ 1
  refine (or_two p q _ _ k0 k1).mono ?_
  rintro e w5 ⟨rfl, rfl⟩
  rw [HB.out]
  go_wp2_with fail
  go_ret
  exact ⟨rfl, Hb4.out.alloc _⟩

theorem ltK (x y : Ks) : ltOf cfK x y = ltB x y := by
  unfold ltOf cfK ltB cfS
  cases h1 : Op.bytesLess x.a.toList y.a.toList
  · cases h2 : Op.bytesLess y.a.toList x.a.toList
    · have e := less_tri h1 h2
      rw [e]
      simp only [beq_self_eq_true, Bool.true_and, Bool.false_or]
      cases h3 : Op.bytesLess x.b.toList y.b.toList
      · cases h4 : Op.bytesLess y.b.toList x.b.toList <;> simp
      · simp
    · have e : (x.a.toList == y.a.toList) = false := by
        rw [beq_eq_false_iff_ne]
        intro e
        rw [e, less_irrefl] at h2
        cases h2
      rw [e]
      simp
  · simp
theorem ltB_iff (x y : Ks) : ltB x y = true ↔ x.a.toList < y.a.toList ∨ (x.a.toList = y.a.toList ∧ x.b.toList < y.b.toList) := by
  unfold ltB
  rw [Bool.or_eq_true, Bool.and_eq_true, beq_iff_eq, bytesLess_eq, bytesLess_eq, decide_eq_true_iff, decide_eq_true_iff]
theorem ltB_no (x y : Ks) : ltB x y = false ↔ y.a.toList < x.a.toList ∨ (y.a.toList = x.a.toList ∧ y.b.toList ≤ x.b.toList) := by
  rw [← Bool.not_eq_true, ltB_iff]
  constructor
  · intro h
    rcases Classical.em (y.a.toList < x.a.toList) with h1 | h1
    · exact .inl h1
    · have h2 : ¬ x.a.toList < y.a.toList := fun h3 => h (.inl h3)
      have e := List.le_antisymm (List.not_lt.1 h2) (List.not_lt.1 h1)
      exact .inr ⟨e, List.not_lt.1 fun h3 => h (.inr ⟨e.symm, h3⟩)⟩
  · rintro (h | ⟨e, h⟩) (k | ⟨f, k⟩)
    · exact List.lt_asymm h k
    · rw [f] at h; exact List.lt_irrefl _ h
    · rw [e] at k; exact List.lt_irrefl _ k
    · exact List.not_lt.2 h k
theorem swoK : SWO (ltOf cfK) := by
  refine ⟨fun x => ?_, fun x y z h k => ?_, fun x y z h k => ?_⟩
  · rw [ltK, ltB_no]
    exact .inr ⟨rfl, List.le_refl _⟩
  · rw [ltK, ltB_iff] at *
    rcases h with h | ⟨e, h⟩
    · rcases k with k | ⟨f, k⟩
      · exact .inl (List.lt_trans h k)
      · exact .inl (f ▸ h)
    · rcases k with k | ⟨f, k⟩
      · exact .inl (e ▸ k)
      · exact .inr ⟨e.trans f, List.lt_trans h k⟩
  · rw [ltK, ltB_no] at *
    rcases h with h | ⟨e, h⟩
    · rcases k with k | ⟨f, k⟩
      · exact .inl (List.lt_trans k h)
      · exact .inl (f ▸ h)
    · rcases k with k | ⟨f, k⟩
      · exact .inl (e ▸ k)
      · exact .inr ⟨f.trans e, List.le_trans k h⟩

theorem row_afterK {w : World} {gb n : Nat} {d : Array Ks} {os : Array Obj} : w.grownBy (sortWorldK Ks.cells 2 w gb 0 n d os) (some gb) := by
  refine ⟨rfl, rfl, rfl, by simp [sortWorldK, putRowK], fun k hk hne => ?_⟩
  unfold sortWorldK putRowK
  rw [heap_grow_old _ _ (by simpa using hk)]
  have : gb ≠ k := fun e => hne (by rw [e])
  simp [putRow, mapBlock, Sort.ahead, Array.getElem?_modify, this]

theorem sortK_any (xs : List Ks) (rest : List Value) (gb n cap : Nat) (w : World) (hn : xs.length = n) (hnc : n ≤ cap) (hcm : cap ≤ maxLen) (hx : n ≤ 100000)
    (hrow : w.heap[gb]? = some (.cells (xs.flatMap Ks.cells ++ rest).toArray 33 (0, 0))) :
    Calls Try.prog 41 #[.slice (some ⟨gb, 0, none⟩) n cap, .func (.func 24) #[] #[]] w fun e w' => e = .returned (.tuple #[]) ∧
      ∃ ys, ys.Perm xs ∧ (∀ i j : Nat, i < j → (hj : j < ys.length) → (hi : i < ys.length) → ltB ys[j] ys[i] = false) ∧ SlR (Flat Ks.cells) 2 w' (some ⟨gb, 0, none⟩) n cap ys ∧ Fr (fun k => k = gb) w w' := by
  have hf : ∀ x : Ks, x.cells.length = 2 := fun _ => rfl
  have hgl : gb < w.heap.size := (Array.getElem?_eq_some_iff.1 hrow).1
  have hds : xs.toArray.size = n := by simpa using hn
  have hH : HoldsK Ks.cells 2 w gb 0 xs.toArray := by
    intro j hj
    have hj : j < n * 2 := by simpa [hn] using hj
    refine ⟨?_, by rw [Nat.zero_add]; exact row_free hrow j⟩
    rw [cell_of_row w gb _ _ _ _ hrow, Nat.zero_add, get_flatK _ _ _ _ (by simpa [hn] using hj), List.getElem?_toArray, List.getElem?_append_left (by rw [flatMap_len hf]; omega)]
    have hq : j / 2 < xs.length := by omega
    have h1 : xs.toArray[j / 2]! = xs[j / 2] := by rw [getElem!_pos xs.toArray (j / 2) (by simpa using hq)]; rfl
    have e : j = j / 2 * 2 + j % 2 := by omega
    rw [h1]
    show _ = some (xs[j / 2].cells[j % 2]!)
    rw [getElem!_pos _ _ (by rw [hf]; omega)]
    conv => lhs; rw [e]
    rw [flatMap_get hf xs (j / 2) (j % 2) hq (by omega)]
    exact List.getElem?_eq_getElem _
  have hcmp : CmpLays Try.prog 24 #[] Ks.cells 2 cfK gb 0 xs.toArray.size w := by
    intro m os dk _ a b
    have hb := all1_any a b (sortWorldK Ks.cells 2 w gb 0 m dk os)
    simp only [Array.append_empty]
    exact hb.mono fun e w' ⟨h1, h2⟩ => ⟨h1, h2.grow⟩
  have hmain := AnyQ.slices_SortFunc kSortF 2 (fun w => by kernel_rfl) (fun w => by kernel_rfl) Ks.cells hf (fun x v hv => by simp [Ks.cells] at hv; rcases hv with rfl | rfl <;> rfl) cfK swoK 24 #[] gb 0 cap xs.toArray w (enters_of Try.func24 (by kernel_rfl) rfl) hcmp hH hgl (by rw [hds]; omega)
  rw [hds] at hmain
  refine hmain.mono ?_
  rintro e w' ⟨rfl, d', m, os, hp, hs, rfl⟩
  obtain ⟨hp1, _, hp2⟩ := hp
  have hsz' : d'.size = n := hp1.trans hds
  have hk := holdsK_sortWorldK_c Ks.cells 2 w gb 0 xs.toArray d' m os hH hgl hp1
  have hpe : d'.toList.Perm xs := by
    have a1 : d'.extract 0 n = d' := by rw [← hsz']; exact Array.extract_size
    have a2 : xs.toArray.extract 0 n = xs.toArray := by rw [← hds]; exact Array.extract_size
    rw [a1, a2] at hp2
    exact hp2
  refine ⟨rfl, d'.toList, hpe, fun i j hij hj hi => ?_, ⟨by simpa using hsz', hnc, hcm, (fun h => by cases h), fun a ha i hi => ?_⟩, Fr.grown row_afterK (fun k hk => by cases hk; rfl)⟩
  · have := hs i j (Nat.zero_le _) hij (by simp at hj; omega)
    rw [ltK, getElem!_pos d' i (by simpa using hi), getElem!_pos d' j (by simpa using hj)] at this
    simpa using this
  · obtain rfl := Option.some.inj ha
    refine ⟨d'.toList[i].cells, rfl, fun j u hu => ?_, rfl⟩
    have := HoldsK.cells hk hf (i := i) (by simpa using hi) j u (by rw [getElem!_pos d' i (by simpa using hi)]; simpa using hu)
    rw [Addr.add_lit] at this ⊢
    simpa using this


theorem sortK_nil (w : World) : Calls Try.prog 41 #[.slice none 0 0, .func (.func 24) #[] #[]] w fun e w' => e = .returned (.tuple #[]) ∧ w' = w :=
  AnyF.slices_SortFunc_none kSortF none 0 _ w
end Go.Proofs.Ytoamjihchmokcaa
namespace Go.Proofs.Ytoamjihchmokcaa
open Go.ChangeShapes Go.WideShapes Go.ChangeAt Go.RowKit Go.Deep Go.Maps

structure SerAll (E : List En) (ys : List Ks) : Prop where
  len : ys.length = E.length
  rise : ∀ i j : Nat, i < j → (hj : j < ys.length) → (hi : i < ys.length) → ltB ys[i] ys[j] = true
  are : ∀ y ∈ ys, ∃ e ∈ E, e.sub = y.a ∧ e.met = y.b
theorem allK_len {E : List En} {xs : List Ks} (h : AllK E xs) (hk : E.Pairwise fun x y => x.key ≠ y.key) : xs.length = E.length := by
  have h2 : (E.map En.key).Nodup := List.pairwise_map.2 hk
  have hm : ∀ k, k ∈ xs.map Ks.key ↔ k ∈ E.map En.key := fun k => by
    rw [List.mem_map, List.mem_map]
    constructor
    · rintro ⟨x, hx, rfl⟩
      obtain ⟨e, he, h1, h2⟩ := h.are x hx
      exact ⟨e, he, by unfold En.key Ks.key; rw [h1, h2]⟩
    · rintro ⟨e, he, rfl⟩
      obtain ⟨x, hx, e2⟩ := h.all e he
      exact ⟨x, hx, e2⟩
  have := ((List.perm_ext_iff_of_nodup h.nd h2).2 hm).length_eq
  rwa [List.length_map, List.length_map] at this
theorem serAll_of {E : List En} {xs ys : List Ks} (h : AllK E xs) (hk : E.Pairwise fun x y => x.key ≠ y.key) (hp : ys.Perm xs) (hs : ∀ i j : Nat, i < j → (hj : j < ys.length) → (hi : i < ys.length) → ltB ys[j] ys[i] = false) : SerAll E ys := by
  refine ⟨hp.length_eq.trans (allK_len h hk), fun i j hij hj hi => ?_, fun y hy => h.are y (hp.mem_iff.1 hy)⟩
  have hnd : (ys.map Ks.key).Nodup := ((hp.map _).nodup_iff).2 h.nd
  have a := hs i j hij hj hi
  cases hc : ltB ys[i] ys[j]
  · exfalso
    rw [ltB_no] at a hc
    have e1 : ys[i].a.toList = ys[j].a.toList := by
      rcases a with a | ⟨e, _⟩
      · rcases hc with hc | ⟨e, _⟩
        · exact absurd hc (List.lt_asymm a)
        · exact e.symm
      · exact e
    have e2 : ys[i].b.toList = ys[j].b.toList := by
      rcases a with a | ⟨_, a⟩
      · rw [e1] at a; exact absurd a (List.lt_irrefl _)
      · rcases hc with hc | ⟨_, hc⟩
        · rw [e1] at hc; exact absurd hc (List.lt_irrefl _)
        · exact List.le_antisymm a hc
    have hne := (List.pairwise_iff_getElem.1 hnd) i j (by simpa using hi) (by simpa using hj) hij
    refine hne ?_
    rw [Lib.toList_data, Lib.toList_data] at e1 e2
    simp only [List.getElem_map]
    unfold Ks.key
    rw [e1, e2]
  · rfl

theorem sortRow_any {E : List En} {xs : List Ks} {B : Nat} {v : Value} {w1 : World} (hA : AllK E xs) (hk : E.Pairwise fun x y => x.key ≠ y.key) (hlen : E.length ≤ 512) (hown : w1.ownsRow B 33 2 v xs.length (xs.flatMap Ks.cells)) (hB : B ≤ w1.heap.size) :
    ∃ ao cap, v = .slice ao xs.length cap ∧ Calls Try.prog 41 #[v, .func (.func 24) #[] #[]] w1 fun e w' => e = .returned (.tuple #[]) ∧ ∃ ys, SerAll E ys ∧ ys.length = xs.length ∧ SlR (Flat Ks.cells) 2 w' ao xs.length cap ys ∧ Below B w1 w' := by
  have hxl := allK_len hA hk
  rcases hown.2 with ⟨rfl, h0⟩ | ⟨g, cap, cur, rfl, hbg, hg, hnc, hcm, hcs, ht⟩
  · have : xs = [] := List.eq_nil_of_length_eq_zero h0
    subst this
    refine ⟨none, 0, rfl, (sortK_nil w1).mono ?_⟩
    rintro e w' ⟨rfl, rfl⟩
    exact ⟨rfl, [], serAll_of hA hk (.refl _) (fun i j _ hj => absurd hj (Nat.not_lt_zero _)), rfl, ⟨rfl, Nat.le_refl _, Nat.zero_le _, fun _ => rfl, fun a h => (by cases h)⟩, Below.refl _ _⟩
  · refine ⟨some ⟨g, 0, none⟩, cap, rfl, (sortK_any xs (cur.toList.drop (xs.length * 2)) g xs.length cap w1 rfl hnc hcm (by omega) (by rw [hg, ← ht, List.take_append_drop])).mono ?_⟩
    rintro e w' ⟨rfl, ys, hp, hs, hS, hf⟩
    exact ⟨rfl, ys, serAll_of hA hk hp hs, hp.length_eq, hS, hf.below hB (fun k hk => by omega)⟩

set_option maxRecDepth 100000 in
set_option maxHeartbeats 1000000 in
theorem sortedFunc_any (Bm b n : Nat) (hn : n ≤ 512) (E : List En) (hE : ∀ e ∈ E, e.sub.size ≤ maxLen ∧ e.met.size ≤ maxLen) (hk : E.Pairwise fun x y => x.key ≠ y.key) (hlen : E.length ≤ 512) (w : World) (hc : w.cell? ⟨Bm, 0, none⟩ = some (.map (some b))) (hM : MapIs w Try.prog 33 b n (enMap E)) :
    Calls Try.prog 22 #[.func (.func 42) #[] #[.pointer (some ⟨Bm, 0, none⟩)], .func (.func 24) #[] #[]] w fun e w' =>
      ∃ ao cap ys, e = .returned (.slice ao ys.length cap) ∧ SerAll E ys ∧ SlR (Flat Ks.cells) 2 w' ao ys.length cap ys ∧ Below w.heap.size w w' := by
  have HC := Lib.hid (collectK_any Bm b n (by omega) E hE w hc hM)
  have Hk := Lib.hid hk
  clear hc hM hE hk
  go_enter Try.func22, Try.ntmps22
  go_wp2_with fail
  refine HC.out.mono ?_
  rintro e w1 ⟨v, xs, rfl, hA, hown, hb1⟩
  obtain ⟨ao, cap, hv, hcall⟩ := sortRow_any hA Hk.out hlen hown hb1.size
  subst hv
  have HCall := Lib.hid hcall
  have Hb1 := Lib.hid hb1
  clear hcall hown hA hb1
  go_wp2_with fail
  refine HCall.out.mono ?_
  rintro e w2 ⟨rfl, ys, hA, hyl, hS2, hb2⟩
  have HS2 := Lib.hid hS2
  have HA := Lib.hid hA
  have Hb2 := Lib.hid (Hb1.out.trans hb2)
  have Hyl := Lib.hid hyl
  clear hS2 hA hb2 hyl
  go_wp2_with fail
  go_ret
  refine ⟨ao, cap, ys, ?_, HA.out, ?_, Hb2.out⟩
  · rw [Hyl.out]; rfl
  · rw [Hyl.out]; exact HS2.out

set_option maxRecDepth 100000 in
theorem all_any (B bb bm most : Nat) (age : Int) (E : List En) (w : World) (hB : BookAt w B bb bm most age E) (hE : ∀ e ∈ E, e.sub.size ≤ maxLen ∧ e.met.size ≤ maxLen) (hlen : E.length ≤ 512) :
    Calls Try.prog 10 #[.pointer (some ⟨bb, 0, none⟩)] w fun e w' => ∃ ao cap ys, e = .returned (.slice ao ys.length cap) ∧ SerAll E ys ∧ SlR (Flat Ks.cells) 2 w' ao ys.length cap ys ∧ Below w.heap.size w w' := by
  obtain ⟨c0, c1, c2⟩ := cells3 hB.blk
  have hbA : Below w.heap.size w (w.alloc (.cells #[.map (some bm)] 53)) := (Below.refl _ _).alloc (Nat.le_refl _) _
  have HS := Lib.hid (sortedFunc_any w.heap.size bm E.length hlen E hE hB.keys hlen (w.alloc (.cells #[.map (some bm)] 53)) (cell_new w _ _ 0) (hB.map.below hbA))
  have HK := Lib.hid (keysOf_any bm w)
  have HbA := Lib.hid hbA
  clear hB hE hbA
  go_enter Try.func10, Try.ntmps10
  go_wp2_with fail
  refine HK.out.mono ?_
  rintro e w1 ⟨rfl, rfl⟩
  go_wp2_with fail
  refine HS.out.mono ?_
  rintro e w2 ⟨ao, cap, ys, rfl, hA, hS, hb⟩
  have HA := Lib.hid hA
  have HS2 := Lib.hid hS
  have Hb := Lib.hid (HbA.out.trans (hb.mono HbA.out.size))
  clear hA hS hb
  go_wp2_with fail
  go_ret
  exact ⟨ao, cap, ys, rfl, HA.out, HS2.out, Hb.out⟩
end Go.Proofs.Ytoamjihchmokcaa
namespace Go.Proofs.Ytoamjihchmokcaa
open Go.ChangeShapes Go.WideShapes Go.ChangeAt Go.RowKit Go.Deep Go.Maps

theorem PlayAt.isAny {w : World} {B bb bm pb most : Nat} {age : Int} {M : List Mo} {k : Nat} {ao : Option Addr} {n cap : Nat} (h : PlayAt w B bb bm pb most age (.slice ao n cap) M k) (ha1 : 1 ≤ age) (ha2 : age ≤ 1800) (s m : ByteArray) (hs : s.size ≤ maxLen) (hm : m.size ≤ maxLen) (now : Int) (h0 : 0 ≤ now) (h1 : now ≤ 9223372036854775807) :
    Calls Try.prog 12 #[.pointer (some ⟨bb, 0, none⟩), .slice ao n cap, .int .i64 age, .int .i64 now, .agg #[.string s, .string m]] w fun e w' => e = .returned (.bool true) ∧ Below w.heap.size w w' := by
  obtain ⟨ao', cap', e, hS⟩ := h.mod.reads
  injection e with e1 e2 e3
  subst e1 e2 e3
  have hm1 := h.book.m1
  exact is_any B bb bm most age now M s m ao _ cap w h.book hS (fun x hx => (h.mod.views x hx).reads (fun _ => rfl) rfl) (fun x hx => ⟨(h.good x hx).2.rise, Nat.le_trans (h.good x hx).2.len hm1.2, (h.good x hx).2.at_⟩) h.names hs hm h0 h1 ha1 ha2
theorem findI_in {M : List Mo} {s m : ByteArray} (h : ∃ e ∈ M.map Mo.en, e.sub = s ∧ e.met = m) : ∃ k : Nat, findI M s m = k := by
  cases hf : findM M s m with
  | some k => exact ⟨k, findI_some hf⟩
  | none =>
    obtain ⟨e, he, rfl, rfl⟩ := h
    obtain ⟨x, hx, rfl⟩ := List.mem_map.1 he
    unfold findM at hf
    rw [List.findIdx?_eq_none_iff] at hf
    have := hf x hx
    rw [serB_iff.2 ⟨rfl, rfl⟩] at this
    cases this
theorem PlayAt.findAny {w : World} {B bb bm pb most : Nat} {age : Int} {M : List Mo} {k : Nat} {ao : Option Addr} {n cap : Nat} (h : PlayAt w B bb bm pb most age (.slice ao n cap) M k) (s m : ByteArray) :
    Calls Try.prog 11 #[.slice ao n cap, .agg #[.string s, .string m]] w fun e w' => e = .returned (.int .i64 (findI M s m)) ∧ Below w.heap.size w w' := by
  obtain ⟨ao', cap', e, hS⟩ := h.mod.reads
  injection e with e1 e2 e3
  subst e1 e2 e3
  exact find_any M s m ao _ cap w hS
theorem ltB_cases {x y : Ks} (h : ltB x y = true) : (Op.bytesLess x.a.toList y.a.toList = true ∧ (x.a.toList == y.a.toList) = false) ∨ (Op.bytesLess x.a.toList y.a.toList = false ∧ (x.a.toList == y.a.toList) = true ∧ Op.bytesLess x.b.toList y.b.toList = true) := by
  unfold ltB at h
  cases h1 : Op.bytesLess x.a.toList y.a.toList
  · rw [h1] at h
    simp only [Bool.false_or, Bool.and_eq_true] at h
    exact .inr ⟨rfl, h.1, h.2⟩
  · refine .inl ⟨rfl, ?_⟩
    cases h2 : (x.a.toList == y.a.toList)
    · rfl
    · rw [eq_of_beq h2, less_irrefl] at h1
      cases h1
end Go.Proofs.Ytoamjihchmokcaa
namespace Go.Proofs.Ytoamjihchmokcaa
open Go.ChangeShapes Go.WideShapes Go.ChangeAt Go.RowKit Go.Deep Go.Maps

def sP : ByteArray := ⟨#[112]⟩
def sCpu : ByteArray := ⟨#[99, 112, 117]⟩

theorem liveKey (rb lb : Nat) (L : List Sm) : heldL ([] ++ [⟨sP, sCpu, rb, lb, L⟩]) (serBytes sP.data.toList sCpu.data.toList) = L := by
  unfold heldL
  have : findE ([] ++ [⟨sP, sCpu, rb, lb, L⟩]) (serBytes sP.data.toList sCpu.data.toList) = some ⟨sP, sCpu, rb, lb, L⟩ := by
    show List.find? _ [_] = _
    rw [List.find?_cons_of_pos]
    exact beq_self_eq_true _
  rw [this]

set_option maxRecDepth 100000 in
set_option maxHeartbeats 1600000 in
theorem lives11 (w : World) : Calls Try.prog 4 #[] w fun e w' => e = .returned (.bool true) ∧ Below w.heap.size w w' := by
  have href : refOf 4607182418800017408 = (1000, 0) := by kernel_rfl
  have hpre : preOf 5 sP sCpu 4607182418800017408 = 0 := by
    unfold preOf
    rw [if_neg (by decide), if_pos ⟨by kernel_rfl, by kernel_rfl⟩, href]
  have Href := Lib.hid href
  have Hpre := Lib.hid hpre
  clear href hpre
  go_enter Try.func4, Try.ntmps4
  go_wp2_with fail
  refine (newBook_any 4 10 w (by decide) (by decide) (by decide) (by decide)).mono ?_
  rintro e w1 ⟨bb, bm, rfl, hB1, hb1⟩
  have HB1 := Lib.hid hB1
  have Hb1 := Lib.hid hb1
  clear hB1 hb1
  go_wp2_with fail
  obtain ⟨w2, hw2⟩ : ∃ w2, w1.alloc (.cells #[.string ⟨#[112]⟩, .string ⟨#[99, 112, 117]⟩] 33) = w2 := ⟨_, rfl⟩
  have hb2 : Below w.heap.size w w2 := by rw [← hw2]; exact Hb1.out.alloc Hb1.out.size _
  have hB2 : BookAt w2 w.heap.size bb bm 4 10 [] := by rw [← hw2]; exact HB1.out.keep ((Below.refl _ _).alloc (Nat.le_refl _) _)
  obtain ⟨sb, hsb⟩ : ∃ q, w1.heap.size = q := ⟨_, rfl⟩
  have r0 : w2.heap[sb]? = some (.cells #[.string ⟨#[112]⟩, .string ⟨#[99, 112, 117]⟩] 33 (0, 0)) := by rw [← hw2, ← hsb]; exact heap_alloc_new _ _
  rw [hw2, hsb]
  have HB2 := Lib.hid hB2
  have Hb2 := Lib.hid hb2
  have Hr0 := Lib.hid r0
  have hwb := HB1.out.base
  have hlt1 := HB1.out.lt
  clear hw2 hsb hB2 hb2 r0 HB1 Hb1
  refine (scrape_new w.heap.size bb bm 4 10 [] 5 sP sCpu 4607182418800017408 w2 HB2.out (by decide) (by decide) (by decide) Hpre.out rfl (by decide)).mono ?_
  rintro e w3 ⟨rb, lb, rfl, hB3, hr, hl, hF3⟩
  have e1 : (((refOf 4607182418800017408).1 : Nat) : Int) = 1000 := by rw [Href.out]; rfl
  rw [e1] at hB3 ⊢
  have hne : sb ≠ bm := fun hh => map_ne_cells HB2.out.map Hr0.out hh.symm
  have r3 : w3.heap[sb]? = _ := hF3.heap Hr0.out hne
  have hb3 : Below w.heap.size w w3 := Hb2.out.trans (hF3.below Hb2.out.size (fun k hk => by rw [hk]; exact hwb.2.1))
  have s0 := cell_of_row w3 sb 0 _ _ _ r3
  have s1 := cell_of_row w3 sb 1 _ _ _ r3
  simp at s0 s1
  have hk := liveKey rb lb [⟨5, 1000⟩]
  have H15 := fresh_book w.heap.size bb bm 4 10 15 _ sP sCpu w3 hB3 (by decide) (by decide) (by decide) (by decide) (by decide)
  have H16 := fun wx hb => fresh_book w.heap.size bb bm 4 10 16 _ sP sCpu wx (hB3.keep hb) (by decide) (by decide) (by decide) (by decide) (by decide)
  have hE : ([] ++ [⟨⟨#[112]⟩, ⟨#[99, 112, 117]⟩, rb, lb, [⟨5, 1000⟩]⟩] : List En) = [] ++ [⟨sP, sCpu, rb, lb, [⟨5, 1000⟩]⟩] := rfl
  rw [hk] at H15
  have f15 : freshOf 10 15 [⟨5, 1000⟩] = (1000, 0) := by decide
  have f16 : freshOf 10 16 [⟨5, 1000⟩] = (0, 13) := by decide
  rw [f15] at H15
  have H16' : ∀ wx, Below w3.heap.size w3 wx → Calls Try.prog 13 #[.pointer (some ⟨bb, 0, none⟩), .int .i64 16, .agg #[.string sP, .string sCpu]] wx fun e w' => e = .returned (.tuple #[.int .i64 0, .int .i64 13]) ∧ Below wx.heap.size wx w' := fun wx hb => by
    have := H16 wx hb
    rw [hk, f16] at this
    exact this
  have HH15 := Lib.hid H15
  have HH16 := Lib.hid H16'
  have Hb3 := Lib.hid hb3
  clear H15 H16 H16' hk f15 f16 hE hb3 r3 hF3 hB3 hne e1
  go_wp2_with fail
  refine HH15.out.mono ?_
  rintro e w4 ⟨rfl, hb4⟩
  have s0 := Below.cell_some hb4 s0
  have s1 := Below.cell_some hb4 s1
  have Hb4 := Lib.hid hb4
  clear hb4
  go_wp2_with fail
  refine (HH16.out w4 Hb4.out).mono ?_
  rintro e w5 ⟨rfl, hb5⟩
  have Hb5 := Lib.hid hb5
  clear hb5
  go_wp2_with fail
  go_ret
  exact ⟨rfl, (Hb3.out.trans (Hb4.out.mono Hb3.out.size)).trans (Hb5.out.mono (Nat.le_trans Hb3.out.size Hb4.out.size))⟩


end Go.Proofs.Ytoamjihchmokcaa
