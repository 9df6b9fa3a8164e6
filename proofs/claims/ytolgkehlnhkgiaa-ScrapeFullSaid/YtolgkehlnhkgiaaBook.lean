/- A book of rings as it lies: the model; scrape.New. Condition: the book lies in blocks of the call's own. -/
import Derived.Test.YtolgkehlnhkgiaaBookKey
import Derived.Test.YtolgkehlnhkgiaaRing4
import Derived.Test.YtolgkehlnhkgiaaName2
import Derived.Test.YtolgkehlnhkgiaaGauge4
namespace Go.Proofs.Ytolgkehlnhkgiaa
open Go.ChangeShapes Go.WideShapes Go.ChangeAt Go.RowKit Go.Deep Go.Maps

/-- A series, where its ring lies, and what that holds. -/
structure En where
  sub : ByteArray
  met : ByteArray
  rb : Nat
  lb : Nat
  L : List Sm

def En.key (e : En) : List UInt8 := serBytes e.sub.data.toList e.met.data.toList
def En.ptr (e : En) : Value := .pointer (some ⟨e.rb, 0, none⟩)

def enMap (E : List En) : Lit → Option Value
  | .string s => (E.find? fun e => e.key == s).map En.ptr
  | _ => none

structure BookAt (w : World) (B bb bm : Nat) (most : Nat) (age : Int) (E : List En) : Prop where
  blk : w.heap[bb]? = some (.cells #[.int .i64 most, .int .i64 age, .map (some bm)] 61 (0, 0))
  map : MapIs w Try.prog 36 bm E.length (enMap E)
  rings : ∀ e ∈ E, RingIs w e.rb e.lb most e.L
  keys : E.Pairwise fun x y => x.key ≠ y.key
  apart : E.Pairwise fun x y => x.rb ≠ y.rb ∧ x.lb ≠ y.lb
  pos : ∀ e ∈ E, ∀ x ∈ e.L, 0 ≤ x.at0
  base : B ≤ bb ∧ B ≤ bm ∧ ∀ e ∈ E, B ≤ e.rb ∧ B ≤ e.lb
  m1 : 1 ≤ most ∧ most ≤ 32

theorem BookAt.lt {w : World} {B bb bm most : Nat} {age : Int} {E : List En} (h : BookAt w B bb bm most age E) : bb < w.heap.size ∧ bm < w.heap.size := ⟨(Array.getElem?_eq_some_iff.1 h.blk).1, MapIs.lt h.map⟩

theorem BookAt.keep {w w' : World} {B bb bm most : Nat} {age : Int} {E : List En} (h : BookAt w B bb bm most age E) (hb : Below w.heap.size w w') : BookAt w' B bb bm most age E :=
  ⟨(hb.block bb h.lt.1).trans h.blk, h.map.below hb, fun e he => (h.rings e he).below hb, h.keys, h.apart, h.pos, h.base, h.m1⟩

theorem map_ne_cells {w : World} {b g n : Nat} {k : TypeId} {f : Lit → Option Value} {cs : Array Value} {t : TypeId} {fr : Nat × Nat} (hM : MapIs w Try.prog k b n f) (hg : w.heap[g]? = some (.cells cs t fr)) : b ≠ g := by
  rintro rfl
  obtain ⟨D, ⟨es, clock, h1, _⟩, _⟩ := hM
  rw [hg] at h1
  cases h1

theorem ring_row {w : World} {rb lb most : Nat} {L : List Sm} (h : RingIs w rb lb most L) : (∃ cs, w.heap[rb]? = some (.cells cs 96 (0, 0))) ∧ (∃ cs, w.heap[lb]? = some (.cells cs 72 (0, 0))) := by
  obtain ⟨f, b, h1, _⟩ := h
  exact ⟨⟨_, h1.blk⟩, ⟨_, h1.row⟩⟩

theorem ring_ne {w : World} {rb lb most rb' lb' most' : Nat} {L L' : List Sm} (h : RingIs w rb lb most L) (h' : RingIs w rb' lb' most' L') : rb ≠ lb' ∧ lb ≠ rb' := by
  obtain ⟨⟨c1, h1⟩, c2, h2⟩ := ring_row h
  obtain ⟨⟨c3, h3⟩, c4, h4⟩ := ring_row h'
  constructor
  · rintro rfl; rw [h1] at h4; simp at h4
  · rintro rfl; rw [h2] at h3; simp at h3

theorem book_ne {w : World} {bb rb lb most : Nat} {L : List Sm} {cs : Array Value} (hb : w.heap[bb]? = some (.cells cs 61 (0, 0))) (h : RingIs w rb lb most L) : bb ≠ rb ∧ bb ≠ lb := by
  obtain ⟨⟨c1, h1⟩, c2, h2⟩ := ring_row h
  constructor
  · rintro rfl; rw [hb] at h1; simp at h1
  · rintro rfl; rw [hb] at h2; simp at h2

theorem pair_get {α : Type} {R : α → α → Prop} (hs : ∀ x y, R x y → R y x) {l : List α} (h : l.Pairwise R) {i j : Nat} (hi : i < l.length) (hj : j < l.length) (hij : i ≠ j) : R l[i] l[j] := by
  rcases (show i < j ∨ j < i by omega) with q | q
  · exact List.pairwise_iff_getElem.1 h i j hi hj q
  · exact hs _ _ (List.pairwise_iff_getElem.1 h j i hj hi q)

theorem newBad_any (most age : Int) (w : World) (h : most < 1 ∨ 32 < most ∨ age < 1 ∨ 1800 < age) :
    Calls Try.prog 7 #[.agg #[.int .i64 most, .int .i64 age]] w fun e w' => e = .returned (.tuple #[.pointer none, .int .i64 1]) ∧ Below w.heap.size w w' := by
  rcases (show most < 1 ∨ (1 ≤ most ∧ 32 < most) ∨ (1 ≤ most ∧ most ≤ 32 ∧ age < 1) ∨ (1 ≤ most ∧ most ≤ 32 ∧ 1 ≤ age ∧ 1800 < age) by omega) with q | ⟨q, q2⟩ | ⟨q, q2, q3⟩ | ⟨q, q2, q3, q4⟩
  all_goals
    clear h
    go_enter Try.func7, Try.ntmps7
    go_wp2
    go_ret2
    exact ⟨rfl, (Below.refl _ _).alloc (Nat.le_refl _) _⟩

theorem newBook_any (most : Nat) (age : Int) (w : World) (h1 : 1 ≤ most) (h2 : most ≤ 32) (h3 : 1 ≤ age) (h4 : age ≤ 1800) :
    Calls Try.prog 7 #[.agg #[.int .i64 most, .int .i64 age]] w fun e w' => ∃ bb bm, e = .returned (.tuple #[.pointer (some ⟨bb, 0, none⟩), .int .i64 0]) ∧ BookAt w' w.heap.size bb bm most age [] ∧ Below w.heap.size w w' := by
  have hmm := @run_makeMap Try.prog
  have q1 : (1 : Int) ≤ (most : Int) := by omega
  have q2 : (most : Int) ≤ 32 := by omega
  go_enter Try.func7, Try.ntmps7
  go_wp2
  go_ret2
  have hblk := heap_alloc_new ((w.alloc (.cells #[.int .i64 most, .int .i64 age] 29)).alloc (.map #[] 0)) (.cells #[.int .i64 most, .int .i64 age, .map (some (w.heap.size + 1))] 61)
  rw [World.size_alloc, World.size_alloc] at hblk
  have hmap := MapIs.made (w.alloc (.cells #[.int .i64 most, .int .i64 age] 29)) Try.prog 36
  rw [World.size_alloc] at hmap
  refine ⟨w.heap.size + 1 + 1, w.heap.size + 1, rfl, ⟨hblk, ?_, (fun e he => by cases he), .nil, .nil, (fun e he => by cases he), ⟨by omega, by omega, fun e he => by cases he⟩, h1, h2⟩, (((Below.refl _ _).alloc (Nat.le_refl _) _).alloc (by simp) _).alloc (by simp; omega) _⟩
  rw [show enMap [] = fun _ => none by funext kl; cases kl <;> rfl]
  exact MapIs.below hmap ((Below.refl _ _).alloc (Nat.le_refl _) _)
end Go.Proofs.Ytolgkehlnhkgiaa
