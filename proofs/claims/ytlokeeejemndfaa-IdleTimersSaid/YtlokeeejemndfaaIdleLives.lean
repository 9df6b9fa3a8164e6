/- The chapter's example (idle). No condition. -/
import Derived.Test.YtlokeeejemndfaaIdle2
namespace Go.Proofs.Ytlokeeejemndfaa
open Go.ChangeShapes Go.WideShapes Go.ChangeAt Go.RowKit Go.Deep Go.Maps Go.Sort

theorem copyNil_any (w : World) : Calls Try.prog 8 #[.pointer none] w fun e w' => e = .returned (.pointer none) ∧ w = w' := by
  go_enter Try.func8, Try.ntmps8
  go_wp2
  go_ret
  exact ⟨rfl, rfl⟩

theorem sorted_one {g : List UInt8 → Bool} {ss : List (List UInt8)} (h : SortedKeys g ss) (a : List UInt8) (ha : ∀ s, g s = true ↔ s = a) : ss = [a] := by
  obtain ⟨h1, h2⟩ := h
  cases ss with
  | nil => have := (h2 a).2 ((ha a).2 rfl); cases this
  | cons x t =>
    have hx : x = a := (ha x).1 ((h2 x).1 (List.mem_cons_self ..))
    cases t with
    | nil => rw [hx]
    | cons y t =>
      have hy : y = a := (ha y).1 ((h2 y).1 (by simp))
      have := (List.pairwise_cons.1 h1).1 y (by simp)
      exact absurd (hx.trans hy.symm) this.2

theorem sorted_none {g : List UInt8 → Bool} {ss : List (List UInt8)} (h : SortedKeys g ss) (ha : ∀ s, g s = false) : ss = [] := by
  cases ss with
  | nil => rfl
  | cons x t =>
    have := (h.2 x).1 (List.mem_cons_self ..)
    rw [ha] at this
    cases this

def strA : SStr := ⟨⟨#[97]⟩, by decide⟩
def tm1 : Tm := Tm.zero.next 5 [strA]
def tm2 : Tm := tm1.next 9 [strA]

theorem tm2_f (s : List UInt8) : tm2.f s = if s = [97] then some 5 else none := by
  have e : ∀ s : List UInt8, (s ∈ [strA].map SStr.key) ↔ s = [97] := fun s => by simp [strA]
  show nextF (nextF (fun _ => none) 5 [strA]) 9 [strA] s = _
  unfold nextF
  by_cases h : s = [97]
  · subst h; rw [if_pos ((e _).2 rfl), if_pos rfl, if_pos ((e _).2 rfl)]; rfl
  · rw [if_neg (fun hh => h ((e _).1 hh)), if_neg h]

theorem tm2_pos : ∀ s v, tm2.f s = some v → 0 ≤ v := by
  intro s v h
  rw [tm2_f] at h
  split at h
  · cases h; decide
  · cases h

theorem ripe_tm2 (now wait : Int) (xs : List SStr) (h : SortedKeys (fun s => (tm2.f s).isSome) (xs.map SStr.key)) (hn : 5 ≤ now) (hw : 0 ≤ wait) : (xs.filter (ripeB tm2.f now wait)).length = if wait ≤ now - 5 then 1 else 0 := by
  have h1 := sorted_one h [97] (fun s => by rw [tm2_f]; split <;> simp_all)
  cases xs with
  | nil => cases h1
  | cons x t =>
    cases t with
    | cons y t => simp at h1
    | nil =>
      have hx : x.key = [97] := by simpa using h1
      have hr : ripeB tm2.f now wait x = decide (wait ≤ now - 5) := by
        unfold ripeB
        rw [hx, tm2_f]
        rw [if_pos rfl]
        dsimp only [Option.getD]
        rw [decide_eq_true hn, Bool.true_and, Int.max_eq_left hw]
      by_cases q : wait ≤ now - 5
      · rw [if_pos q, List.filter_cons, hr, decide_eq_true q]; rfl
      · rw [if_neg q, List.filter_cons, hr, decide_eq_false q]; rfl

theorem sl_oneA {w : World} : SlR (Flat cS) 1 (w.alloc (.cells #[.string ⟨#[97]⟩] 9)) (some ⟨w.heap.size, 0, none⟩) 1 1 [strA] := by
  refine ⟨rfl, Nat.le_refl _, by decide, (fun h => by cases h), fun a ha i hi => ?_⟩
  obtain rfl := Option.some.inj ha
  have h0 : i = 0 := by simpa using hi
  subst h0
  refine ⟨_, rfl, fun j u hu => ?_, rfl⟩
  rw [Nat.zero_mul, Nat.zero_add, cell_new]
  simpa [cS, strA] using hu

set_option maxRecDepth 100000 in
set_option maxHeartbeats 1600000 in
theorem lives27 (w : World) : Calls Try.prog 5 #[] w fun e w' => e = .returned (.bool true) ∧ Below w.heap.size w w' := by
  go_enter Try.func5, Try.ntmps5
  go_wp2_with fail
  refine (newTimers_any w).mono ?_
  rintro e w1 ⟨rfl, hw1⟩
  have hT : TimersAt w1 (w.heap.size + 1) w.heap.size 0 Tm.zero := by rw [hw1]; exact TimersAt.made w
  have hb0 : Below w.heap.size w w1 := by rw [hw1]; exact ((Below.refl _ _).alloc (Nat.le_refl _) _).alloc (by simp) _
  have HT := Lib.hid hT
  have HB := Lib.hid hb0
  clear hw1 hT hb0
  go_wp2_with fail
  refine (look_any (w.heap.size + 1) w.heap.size 0 Tm.zero 5 [strA] _ 1 1 _ (HT.out.below ((Below.refl _ _).alloc (Nat.le_refl _) _)) sl_oneA (by decide) (by decide)).mono ?_
  rintro e w2 ⟨rfl, ⟨t2, n2, hn2, hlt2, hT2⟩, hF2⟩
  have HT2 : Hid (TimersAt w2 (w.heap.size + 1) t2 n2 tm1) := hT2
  have hs1 := HB.out.size
  have HB2 := Lib.hid ((HB.out.alloc hs1 (.cells #[.string ⟨#[97]⟩] 9)).trans (hF2.below (by simp; omega) (fun k hk => by omega)))
  have hn2' : n2 ≤ 1 := hn2
  clear hT2 hF2 hn2 HT HB hlt2
  go_wp2_with fail
  refine (look_any (w.heap.size + 1) t2 n2 tm1 9 [strA] _ 1 1 _ (HT2.out.below ((Below.refl _ _).alloc (Nat.le_refl _) _)) sl_oneA (by decide) (by decide)).mono ?_
  rintro e w3 ⟨rfl, ⟨t3, n3, hn3, hlt3, hT3⟩, hF3⟩
  have HT3 : Hid (TimersAt w3 (w.heap.size + 1) t3 n3 tm2) := hT3
  have hs2 := HB2.out.size
  have HB3 := Lib.hid ((HB2.out.alloc hs2 (.cells #[.string ⟨#[97]⟩] 9)).trans (hF3.below (by simp; omega) (fun k hk => by omega)))
  have hn3' : n3 ≤ 1 := hn3
  clear hT3 hF3 hn3 HT2 HB2 hlt3
  go_wp2_with fail
  refine (ripe_any (w.heap.size + 1) t3 n3 tm2 9 4 w3 HT3.out (by omega) tm2_pos (by omega)).mono ?_
  rintro e w4 ⟨v, xs, rfl, hK, hxl, hown, hb⟩
  obtain ⟨so, sc, rfl, hS, _⟩ := SlR.of_owns hown rfl (fun _ => rfl)
  have hl := ripe_tm2 9 4 xs hK (by decide) (by decide)
  rw [hl, if_pos (by decide)]
  have HT4 := Lib.hid (HT3.out.below hb)
  have HB4 := Lib.hid (HB3.out.trans (hb.mono HB3.out.size))
  clear hS hown hb hK hxl hl HT3 HB3
  go_wp2_with fail
  refine (ripe_any (w.heap.size + 1) t3 n3 tm2 9 5 w4 HT4.out (by omega) tm2_pos (by omega)).mono ?_
  rintro e w5 ⟨v, xs, rfl, hK, hxl, hown, hb⟩
  obtain ⟨so, sc, rfl, hS, _⟩ := SlR.of_owns hown rfl (fun _ => rfl)
  have hl := ripe_tm2 9 5 xs hK (by decide) (by decide)
  rw [hl, if_neg (by decide)]
  have HB5 := Lib.hid (HB4.out.trans (hb.mono HB4.out.size))
  clear hS hown hb hK hxl hl HT4 HB4
  go_wp2_with fail
  go_ret
  exact ⟨rfl, HB5.out⟩
end Go.Proofs.Ytlokeeejemndfaa
