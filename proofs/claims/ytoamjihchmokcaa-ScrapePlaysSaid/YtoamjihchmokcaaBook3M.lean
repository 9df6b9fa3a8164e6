/- A book of rings as it lies: the model; scrape.New. Condition: the book lies in blocks of the call's own. || The contract of scrape's Scrape where a sample is refused ahead of the book. Condition: the names and the bits are what Go bears. || A book of rings: what a map of it tells; how an entry is put in, or changed. Condition: the book lies in blocks of the call's own. -/
import Derived.Test.YtoamjihchmokcaaNameM
import Derived.Test.YtoamjihchmokcaaRing4M
import Derived.Test.YtoamjihchmokcaaGaugeM
import Derived.Test.YtoamjihchmokcaaGauge4
namespace Go.Proofs.Ytoamjihchmokcaa
open Go.ChangeShapes Go.WideShapes Go.ChangeAt Go.RowKit Go.Deep Go.Maps

structure En where
  sub : ByteArray
  met : ByteArray
  rb : Nat
  lb : Nat
  L : List Sm

def En.key (e : En) : List UInt8 := serBytes e.sub.data.toList e.met.data.toList
def En.ptr (e : En) : Value := .pointer (some ⟨e.rb, 0, none⟩)

def enMap (E : List En) : Lit → Option Value
  | .string s => (E.find? fun e => e.key == s).map En.ptr
  | _ => none

structure BookAt (w : World) (B bb bm : Nat) (most : Nat) (age : Int) (E : List En) : Prop where
  blk : w.heap[bb]? = some (.cells #[.int .i64 most, .int .i64 age, .map (some bm)] 55 (0, 0))
  map : MapIs w Try.prog 33 bm E.length (enMap E)
  rings : ∀ e ∈ E, RingIs w e.rb e.lb most e.L
  keys : E.Pairwise fun x y => x.key ≠ y.key
  apart : E.Pairwise fun x y => x.rb ≠ y.rb ∧ x.lb ≠ y.lb
  pos : ∀ e ∈ E, ∀ x ∈ e.L, 0 ≤ x.at0
  base : B ≤ bb ∧ B ≤ bm ∧ ∀ e ∈ E, B ≤ e.rb ∧ B ≤ e.lb
  m1 : 1 ≤ most ∧ most ≤ 32

theorem BookAt.lt {w : World} {B bb bm most : Nat} {age : Int} {E : List En} (h : BookAt w B bb bm most age E) : bb < w.heap.size ∧ bm < w.heap.size := ⟨(Array.getElem?_eq_some_iff.1 h.blk).1, MapIs.lt h.map⟩

theorem BookAt.keep {w w' : World} {B bb bm most : Nat} {age : Int} {E : List En} (h : BookAt w B bb bm most age E) (hb : Below w.heap.size w w') : BookAt w' B bb bm most age E :=
  ⟨(hb.block bb h.lt.1).trans h.blk, h.map.below hb, fun e he => (h.rings e he).below hb, h.keys, h.apart, h.pos, h.base, h.m1⟩

theorem map_ne_cells {w : World} {b g n : Nat} {k : TypeId} {f : Lit → Option Value} {cs : Array Value} {t : TypeId} {fr : Nat × Nat} (hM : MapIs w Try.prog k b n f) (hg : w.heap[g]? = some (.cells cs t fr)) : b ≠ g := by
  rintro rfl
  obtain ⟨D, ⟨es, clock, h1, _⟩, _⟩ := hM
  rw [hg] at h1
  cases h1

theorem ring_row {w : World} {rb lb most : Nat} {L : List Sm} (h : RingIs w rb lb most L) : (∃ cs, w.heap[rb]? = some (.cells cs 91 (0, 0))) ∧ (∃ cs, w.heap[lb]? = some (.cells cs 64 (0, 0))) := by
  obtain ⟨f, b, h1, _⟩ := h
  exact ⟨⟨_, h1.blk⟩, ⟨_, h1.row⟩⟩

theorem ring_ne {w : World} {rb lb most rb' lb' most' : Nat} {L L' : List Sm} (h : RingIs w rb lb most L) (h' : RingIs w rb' lb' most' L') : rb ≠ lb' ∧ lb ≠ rb' := by
  obtain ⟨⟨c1, h1⟩, c2, h2⟩ := ring_row h
  obtain ⟨⟨c3, h3⟩, c4, h4⟩ := ring_row h'
  constructor
  · rintro rfl; rw [h1] at h4; simp at h4
  · rintro rfl; rw [h2] at h3; simp at h3

theorem book_ne {w : World} {bb rb lb most : Nat} {L : List Sm} {cs : Array Value} (hb : w.heap[bb]? = some (.cells cs 55 (0, 0))) (h : RingIs w rb lb most L) : bb ≠ rb ∧ bb ≠ lb := by
  obtain ⟨⟨c1, h1⟩, c2, h2⟩ := ring_row h
  constructor
  · rintro rfl; rw [hb] at h1; simp at h1
  · rintro rfl; rw [hb] at h2; simp at h2

theorem pair_get {α : Type} {R : α → α → Prop} (hs : ∀ x y, R x y → R y x) {l : List α} (h : l.Pairwise R) {i j : Nat} (hi : i < l.length) (hj : j < l.length) (hij : i ≠ j) : R l[i] l[j] := by
  rcases (show i < j ∨ j < i by omega) with q | q
  · exact List.pairwise_iff_getElem.1 h i j hi hj q
  · exact hs _ _ (List.pairwise_iff_getElem.1 h j i hj hi q)

theorem newBad_any (most age : Int) (w : World) (h : most < 1 ∨ 32 < most ∨ age < 1 ∨ 1800 < age) :
    Calls Try.prog 5 #[.agg #[.int .i64 most, .int .i64 age]] w fun e w' => e = .returned (.tuple #[.pointer none, .int .i64 1]) ∧ Below w.heap.size w w' := by
  rcases (show most < 1 ∨ (1 ≤ most ∧ 32 < most) ∨ (1 ≤ most ∧ most ≤ 32 ∧ age < 1) ∨ (1 ≤ most ∧ most ≤ 32 ∧ 1 ≤ age ∧ 1800 < age) by omega) with q | ⟨q, q2⟩ | ⟨q, q2, q3⟩ | ⟨q, q2, q3, q4⟩
  all_goals
    clear h
    go_enter Try.func5, Try.ntmps5
    go_wp2
    go_ret2
    exact ⟨rfl, (Below.refl _ _).alloc (Nat.le_refl _) _⟩

theorem newBook_any (most : Nat) (age : Int) (w : World) (h1 : 1 ≤ most) (h2 : most ≤ 32) (h3 : 1 ≤ age) (h4 : age ≤ 1800) :
    Calls Try.prog 5 #[.agg #[.int .i64 most, .int .i64 age]] w fun e w' => ∃ bb bm, e = .returned (.tuple #[.pointer (some ⟨bb, 0, none⟩), .int .i64 0]) ∧ BookAt w' w.heap.size bb bm most age [] ∧ Below w.heap.size w w' := by
  have hmm := @run_makeMap Try.prog
  have q1 : (1 : Int) ≤ (most : Int) := by omega
  have q2 : (most : Int) ≤ 32 := by omega
  go_enter Try.func5, Try.ntmps5
  go_wp2
  go_ret2
  have hblk := heap_alloc_new ((w.alloc (.cells #[.int .i64 most, .int .i64 age] 23)).alloc (.map #[] 0)) (.cells #[.int .i64 most, .int .i64 age, .map (some (w.heap.size + 1))] 55)
  rw [World.size_alloc, World.size_alloc] at hblk
  have hmap := MapIs.made (w.alloc (.cells #[.int .i64 most, .int .i64 age] 23)) Try.prog 33
  rw [World.size_alloc] at hmap
  refine ⟨w.heap.size + 1 + 1, w.heap.size + 1, rfl, ⟨hblk, ?_, (fun e he => by cases he), .nil, .nil, (fun e he => by cases he), ⟨by omega, by omega, fun e he => by cases he⟩, h1, h2⟩, (((Below.refl _ _).alloc (Nat.le_refl _) _).alloc (by simp) _).alloc (by simp; omega) _⟩
  rw [show enMap [] = fun _ => none by funext kl; cases kl <;> rfl]
  exact MapIs.below hmap ((Below.refl _ _).alloc (Nat.le_refl _) _)
end Go.Proofs.Ytoamjihchmokcaa
namespace Go.Proofs.Ytoamjihchmokcaa
open Go.ChangeShapes Go.WideShapes Go.ChangeAt Go.RowKit Go.Deep Go.Maps

def preOf (at0 : Int) (sub met : ByteArray) (bits : Nat) : Int :=
  if at0 < 0 ∨ 4611686018427387904 < at0 then 1 else if nameOf sub.data.toList = true ∧ nameOf met.data.toList = true then (refOf bits).2 else 6

set_option maxRecDepth 100000 in
set_option maxHeartbeats 1600000 in
theorem scrape_pre (p : Addr) (at0 : Int) (sub met : ByteArray) (bits : Nat) (w : World) (hbits : bits < 18446744073709551616) (h : preOf at0 sub met bits ≠ 0) :
    Calls Try.prog 6 #[.pointer (some p), .int .i64 at0, .agg #[.string sub, .string met], .int .u64 bits] w fun e w' => e = .returned (.tuple #[.int .i64 0, .int .i64 (preOf at0 sub met bits)]) ∧ Below w.heap.size w w' := by
  have k0 : (w.alloc (.cells #[.string sub, .string met] 33)).cell? ⟨w.heap.size, 0, none⟩ = some (.string sub) := cell_new w _ _ 0
  have k1 : (w.alloc (.cells #[.string sub, .string met] 33)).cell? ⟨w.heap.size, 1, none⟩ = some (.string met) := cell_new w _ _ 1
  unfold preOf at h ⊢
  by_cases h1 : at0 < 0 ∨ 4611686018427387904 < at0
  · rw [if_pos h1]
    rcases h1 with q | q
    all_goals
      clear h
      go_enter Try.func6, Try.ntmps6
      go_wp2
      go_ret2
      exact ⟨rfl, (Below.refl _ _).alloc (Nat.le_refl _) _⟩
  rw [if_neg h1] at h ⊢
  have g1 : 0 ≤ at0 := by omega
  have g2 : at0 ≤ 4611686018427387904 := by omega
  have HN : Hid (∀ (s : ByteArray) w1, Calls Try.prog 14 #[.string s] w1 fun e w' => e = .returned (.bool (nameOf s.data.toList)) ∧ w1 = w') := fun s w1 => name_any s w1
  clear h1
  cases hs : nameOf sub.data.toList
  · rw [if_neg (by simp)]
    have Hs := Lib.hid hs
    clear h hs
    go_enter Try.func6, Try.ntmps6
    go_wp2_with fail
    refine (HN.out _ _).mono ?_
    rintro e w1 ⟨he, rfl⟩
    rw [Hs.out] at he
    subst he
    go_wp2_with fail
    go_ret2
    exact ⟨rfl, (Below.refl _ _).alloc (Nat.le_refl _) _⟩
  cases hm : nameOf met.data.toList
  · rw [if_neg (by simp)]
    have Hs := Lib.hid hs
    have Hm := Lib.hid hm
    clear h hs hm
    go_enter Try.func6, Try.ntmps6
    go_wp2_with fail
    refine (HN.out _ _).mono ?_
    rintro e w1 ⟨he, rfl⟩
    rw [Hs.out] at he
    subst he
    go_wp2_with fail
    refine (HN.out _ _).mono ?_
    rintro e w1 ⟨he, rfl⟩
    rw [Hm.out] at he
    subst he
    go_wp2_with fail
    go_ret2
    exact ⟨rfl, (Below.refl _ _).alloc (Nat.le_refl _) _⟩
  rw [if_pos ⟨hs, hm⟩] at h
  rw [if_pos ⟨rfl, rfl⟩]
  have Hs := Lib.hid hs
  have Hm := Lib.hid hm
  have HG := Lib.hid (fun w1 => read_any bits w1 hbits)
  obtain ⟨⟨q, r⟩, hqr⟩ : ∃ x, refOf bits = x := ⟨_, rfl⟩
  rw [hqr] at h HG ⊢
  dsimp only at h ⊢
  have hne : (r != 0) = true := bne_iff_ne.2 h
  clear h hs hm hqr
  go_enter Try.func6, Try.ntmps6
  go_wp2_with fail
  refine (HN.out _ _).mono ?_
  rintro e w1 ⟨he, rfl⟩
  rw [Hs.out] at he
  subst he
  go_wp2_with fail
  refine (HN.out _ _).mono ?_
  rintro e w1 ⟨he, rfl⟩
  rw [Hm.out] at he
  subst he
  go_wp2_with fail
  refine (HG.out _).mono ?_
  rintro e w1 ⟨rfl, hb⟩
  have Hb := Lib.hid hb
  clear hb
  go_wp2_with fail
  go_ret2
  exact ⟨rfl, ((Below.refl _ _).alloc (Nat.le_refl _) _).trans (Hb.out.mono (by simp))⟩
end Go.Proofs.Ytoamjihchmokcaa
namespace Go.Proofs.Ytoamjihchmokcaa
open Go.ChangeShapes Go.WideShapes Go.ChangeAt Go.RowKit Go.Deep Go.Maps

def findE (E : List En) (k : List UInt8) : Option En := E.find? fun e => e.key == k
theorem enMap_str (E : List En) (k : List UInt8) : enMap E (.string k) = (findE E k).map En.ptr := rfl
theorem findE_key {E : List En} {k : List UInt8} {e : En} (h : findE E k = some e) : e.key = k := by
  have := List.find?_some h
  exact eq_of_beq this
theorem findE_mem {E : List En} {k : List UInt8} {e : En} (h : findE E k = some e) : e ∈ E := List.mem_of_find?_eq_some h

theorem enMap_new (E : List En) (e : En) (h : findE E e.key = none) : fset (enMap E) (.string e.key) e.ptr = enMap (E ++ [e]) := by
  funext kl
  cases kl with
  | string s =>
    show (if (Lit.string s).sameKey (.string e.key) = true then some e.ptr else enMap E (.string s)) = _
    rw [enMap_str, enMap_str]
    unfold findE
    rw [List.find?_append]
    by_cases hs : s = e.key
    · subst hs
      rw [if_pos (by simp [Lit.sameKey]), show List.find? (fun x => x.key == e.key) E = none from h]
      simp
    · rw [if_neg (by simp [Lit.sameKey]; exact hs)]
      have : (e.key == s) = false := beq_eq_false_iff_ne.2 (fun hh => hs hh.symm)
      simp [this]
  | _ => simp [fset, enMap, Lit.sameKey]

def setL (E : List En) (k : List UInt8) (L : List Sm) : List En := E.map fun e => if e.key = k then { e with L := L } else e

theorem setL_key (k : List UInt8) (L : List Sm) (e : En) : (if e.key = k then { e with L := L } else e).key = e.key := by split <;> rfl
theorem setL_ptr (k : List UInt8) (L : List Sm) (e : En) : (if e.key = k then { e with L := L } else e).ptr = e.ptr := by split <;> rfl
theorem setL_len (E : List En) (k : List UInt8) (L : List Sm) : (setL E k L).length = E.length := by simp [setL]

theorem findE_setL (E : List En) (k : List UInt8) (L : List Sm) (s : List UInt8) : findE (setL E k L) s = (findE E s).map fun e => if e.key = k then { e with L := L } else e := by
  unfold findE setL
  rw [List.find?_map]
  congr 1
  congr 1
  funext e
  show ((if e.key = k then { e with L := L } else e).key == s) = _
  rw [setL_key]

theorem enMap_setL (E : List En) (k : List UInt8) (L : List Sm) : enMap (setL E k L) = enMap E := by
  funext kl
  cases kl with
  | string s =>
    rw [enMap_str, enMap_str, findE_setL, Option.map_map]
    congr 1
    funext e
    exact setL_ptr k L e
  | _ => rfl

theorem enMap_same (E : List En) {k : List UInt8} {e : En} (h : findE E k = some e) : fset (enMap E) (.string k) e.ptr = enMap E := by
  funext kl
  cases kl with
  | string s =>
    show (if (Lit.string s).sameKey (.string k) = true then some e.ptr else enMap E (.string s)) = _
    by_cases hs : s = k
    · subst hs
      rw [if_pos (by simp [Lit.sameKey]), enMap_str, h]; rfl
    · rw [if_neg (by simp [Lit.sameKey]; exact hs)]
  | _ => simp [fset, enMap, Lit.sameKey]

theorem mem_apart {α : Type} {R : α → α → Prop} (hs : ∀ x y, R x y → R y x) {l : List α} (h : l.Pairwise R) {x y : α} (hx : x ∈ l) (hy : y ∈ l) (hne : x ≠ y) : R x y := by
  obtain ⟨i, hi, rfl⟩ := List.getElem_of_mem hx
  obtain ⟨j, hj, rfl⟩ := List.getElem_of_mem hy
  exact pair_get hs h hi hj (fun e => hne (by subst e; rfl))

theorem BookAt.put {w w' : World} {B bb bm most : Nat} {age : Int} {E : List En} (h : BookAt w B bb bm most age E) {e : En} {k : List UInt8} (hf : findE E k = some e) {L : List Sm} (hR : RingIs w' e.rb e.lb most L) (hF : Fr (fun q => q = e.rb ∨ q = e.lb) w w') (hpos : ∀ x ∈ L, 0 ≤ x.at0) :
    BookAt w' B bb bm most age (setL E k L) := by
  have hem := findE_mem hf
  have hk := findE_key hf
  have hre := h.rings e hem
  have hbn := book_ne h.blk hre
  obtain ⟨⟨cs1, r1⟩, cs2, r2⟩ := ring_row hre
  have hm1 := map_ne_cells h.map r1
  have hm2 := map_ne_cells h.map r2
  refine ⟨hF.heap h.blk (fun hh => hh.elim hbn.1 hbn.2), ?_, ?_, ?_, ?_, ?_, ⟨h.base.1, h.base.2.1, ?_⟩, h.m1⟩
  · rw [setL_len, enMap_setL]
    exact h.map.fr hF (fun hh => hh.elim hm1 hm2)
  · intro x hx
    obtain ⟨y, hy, rfl⟩ := List.mem_map.1 hx
    by_cases hyk : y.key = k
    · rw [if_pos hyk]
      by_cases hye : y = e
      · subst hye; exact hR
      · exact absurd (hyk.trans hk.symm) (mem_apart (fun _ _ hh => Ne.symm hh) h.keys hy hem hye)
    · rw [if_neg hyk]
      have hye : y ≠ e := fun hh => hyk (by rw [hh]; exact hk)
      have hap := mem_apart (R := fun x y : En => x.rb ≠ y.rb ∧ x.lb ≠ y.lb) (fun _ _ hh => ⟨Ne.symm hh.1, Ne.symm hh.2⟩) h.apart hy hem hye
      have hrn := ring_ne (h.rings y hy) hre
      exact (h.rings y hy).fr hF (fun hh => hh.elim hap.1 hrn.1) (fun hh => hh.elim hrn.2 hap.2)
  · refine List.pairwise_map.2 (h.keys.imp fun {a b} hab => ?_)
    rw [setL_key, setL_key]; exact hab
  · refine List.pairwise_map.2 (h.apart.imp fun {a b} hab => ?_)
    split <;> split <;> exact hab
  · intro x hx
    obtain ⟨y, hy, rfl⟩ := List.mem_map.1 hx
    split
    · exact hpos
    · exact h.pos y hy
  · intro x hx
    obtain ⟨y, hy, rfl⟩ := List.mem_map.1 hx
    split <;> exact h.base.2.2 y hy

theorem BookAt.turn {w w' : World} {B bb bm most : Nat} {age : Int} {E E' : List En} (h : BookAt w B bb bm most age E) (hT : Fr (fun q => q = bm) w w') (hM : MapIs w' Try.prog 33 bm E'.length (enMap E'))
    (hE : ∀ e ∈ E', RingIs w e.rb e.lb most e.L ∧ (∀ x ∈ e.L, 0 ≤ x.at0) ∧ B ≤ e.rb ∧ B ≤ e.lb) (hk : E'.Pairwise fun x y => x.key ≠ y.key) (ha : E'.Pairwise fun x y => x.rb ≠ y.rb ∧ x.lb ≠ y.lb) : BookAt w' B bb bm most age E' := by
  have hbm : bb ≠ bm := fun hh => map_ne_cells h.map h.blk hh.symm
  refine ⟨hT.heap h.blk hbm, hM, fun e he => ?_, hk, ha, fun e he => (hE e he).2.1, ⟨h.base.1, h.base.2.1, fun e he => (hE e he).2.2⟩, h.m1⟩
  obtain ⟨⟨cs1, r1⟩, cs2, r2⟩ := ring_row (hE e he).1
  exact (hE e he).1.fr hT (fun hh => map_ne_cells h.map r1 hh.symm) (fun hh => map_ne_cells h.map r2 hh.symm)

theorem putOf_pos {most : Nat} {L : List Sm} {x : Sm} (h : ∀ y ∈ L, 0 ≤ y.at0) (hx : 0 ≤ x.at0) : ∀ y ∈ (putOf most L x).2, 0 ≤ y.at0 := by
  have key : ∀ c : Bool, ∀ y ∈ (if c = true then ((13 : Int), L) else (0, (if L.length = most then L.tail else L) ++ [x])).2, 0 ≤ y.at0 := by
    intro c
    cases c
    · intro y hy
      rw [if_neg (by decide)] at hy
      rcases List.mem_append.1 hy with q | q
      · split at q
        · exact h y (List.mem_of_mem_tail q)
        · exact h y q
      · rw [List.mem_singleton.1 q]; exact hx
    · intro y hy
      exact h y hy
  exact key _
end Go.Proofs.Ytoamjihchmokcaa
