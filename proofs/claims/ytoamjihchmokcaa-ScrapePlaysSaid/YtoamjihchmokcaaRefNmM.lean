/- Chapter 11's model in memory: its variable, its row, the samples' slices; what pushing a series and setting one's samples do to it. No condition. || The contract of the reference's Name, apart from the labels. No condition. -/
import Derived.Test.YtoamjihchmokcaaModelM
import Derived.Test.YtoamjihchmokcaaGaugeM
namespace Go.Proofs.Ytoamjihchmokcaa
open Go.ChangeShapes Go.WideShapes Go.ChangeAt Go.RowKit Go.Deep Go.Maps

structure ModelAt (w : World) (B pb : Nat) (mv : Value) (M : List Mo) : Prop where
  cell : w.heap[pb]? = some (.cells #[mv] 31 (0, 0))
  row : w.ownsRow B 44 3 mv M.length (M.flatMap Mo.cells)
  views : ∀ x ∈ M, ViewAt w B 64 2 x.v x.en.L.length (x.en.L.flatMap Sm.cells)
  apart : M.Pairwise fun x y => ∀ g, x.v.ownBlock = some g → y.v.ownBlock ≠ some g
  pbB : B ≤ pb
def SM (pb : Nat) (mv : Value) (M : List Mo) (q : Nat) : Prop := q = pb ∨ mv.ownBlock = some q ∨ ∃ x ∈ M, x.v.ownBlock = some q
theorem ModelAt.pbLt {w : World} {B pb : Nat} {mv : Value} {M : List Mo} (h : ModelAt w B pb mv M) : pb < w.heap.size := (Array.getElem?_eq_some_iff.1 h.cell).1
theorem ModelAt.smLt {w : World} {B pb : Nat} {mv : Value} {M : List Mo} (h : ModelAt w B pb mv M) {q : Nat} (hq : SM pb mv M q) : B ≤ q ∧ q < w.heap.size := by
  rcases hq with rfl | hq | ⟨x, hx, hq⟩
  · exact ⟨h.pbB, h.pbLt⟩
  · exact World.ownsRow.lt h.row q hq
  · exact ViewAt.lt (h.views x hx) q hq
theorem own_type {w : World} {B : Nat} {e : TypeId} {size : Nat} {v : Value} {n : Nat} {xs : List Value} (h : w.ownsRow B e size v n xs) {k : Nat} (hk : v.ownBlock = some k) : ∃ cs, w.heap[k]? = some (.cells cs e (0, 0)) := by
  rcases h.2 with ⟨rfl, _⟩ | ⟨g, cap, cur, rfl, _, hg, _⟩
  · cases hk
  · simp only [Value.ownBlock, Option.some.injEq] at hk
    subst hk
    exact ⟨_, hg⟩
theorem ViewAt.type {w : World} {B : Nat} {e : TypeId} {size : Nat} {v : Value} {n : Nat} {xs : List Value} (h : ViewAt w B e size v n xs) {k : Nat} (hk : v.ownBlock = some k) : ∃ cs, w.heap[k]? = some (.cells cs e (0, 0)) := by
  rcases h.2 with ⟨rfl, _⟩ | ⟨g, off, cap, cur, rfl, _, hg, _⟩
  · cases hk
  · simp only [Value.ownBlock, Option.some.injEq] at hk
    subst hk
    exact ⟨_, hg⟩
theorem type_ne {w : World} {a b : Nat} {ca cb : Array Value} {ta tb : TypeId} (ha : w.heap[a]? = some (.cells ca ta (0, 0))) (hb : w.heap[b]? = some (.cells cb tb (0, 0))) (ht : ta ≠ tb) : a ≠ b := by
  rintro rfl
  rw [ha] at hb
  cases hb
  exact ht rfl
theorem ModelAt.row_pb {w : World} {B pb : Nat} {mv : Value} {M : List Mo} (h : ModelAt w B pb mv M) : mv.ownBlock ≠ some pb := fun e => by
  obtain ⟨cs, hc⟩ := own_type h.row e
  exact type_ne hc h.cell (by decide) rfl
theorem ModelAt.view_pb {w : World} {B pb : Nat} {mv : Value} {M : List Mo} (h : ModelAt w B pb mv M) {x : Mo} (hx : x ∈ M) : x.v.ownBlock ≠ some pb := fun e => by
  obtain ⟨cs, hc⟩ := ViewAt.type (h.views x hx) e
  exact type_ne hc h.cell (by decide) rfl
theorem ModelAt.view_row {w : World} {B pb : Nat} {mv : Value} {M : List Mo} (h : ModelAt w B pb mv M) {x : Mo} (hx : x ∈ M) {k : Nat} (hk : mv.ownBlock = some k) : x.v.ownBlock ≠ some k := fun e => by
  obtain ⟨cs, hc⟩ := ViewAt.type (h.views x hx) e
  obtain ⟨cs2, hc2⟩ := own_type h.row hk
  exact type_ne hc hc2 (by decide) rfl
theorem ModelAt.fr {w w' : World} {B pb : Nat} {mv : Value} {M : List Mo} {S : Nat → Prop} (h : ModelAt w B pb mv M) (hf : Fr S w w') (hS : ∀ q, SM pb mv M q → ¬ S q) : ModelAt w' B pb mv M :=
  ⟨hf.heap h.cell (hS _ (.inl rfl)), owns_fr hf h.row (fun k hk => hS k (.inr (.inl hk))), fun x hx => (h.views x hx).keep (fun k hk => hf.block k (ViewAt.lt (h.views x hx) k hk).2 (hS k (.inr (.inr ⟨x, hx, hk⟩)))), h.apart, h.pbB⟩
theorem ModelAt.below {w w' : World} {B pb : Nat} {mv : Value} {M : List Mo} (h : ModelAt w B pb mv M) (hb : Below w.heap.size w w') : ModelAt w' B pb mv M := h.fr (Fr.of_below hb (fun _ => False)) (fun _ _ h => h)
theorem ModelAt.reads {w : World} {B pb : Nat} {mv : Value} {M : List Mo} (h : ModelAt w B pb mv M) : ∃ ao cap, mv = .slice ao M.length cap ∧ SlR (Flat Mo.cells) 3 w ao M.length cap M := by
  obtain ⟨ao, cap, e, hS, _⟩ := SlR.of_owns (f := Mo.cells) (sz := 3) h.row rfl (fun _ => rfl)
  exact ⟨ao, cap, e, hS⟩
theorem ModelAt.new (w : World) : ModelAt (w.alloc (.cells #[.slice none 0 0] 31)) w.heap.size w.heap.size (.slice none 0 0) [] :=
  ⟨heap_alloc_new _ _, World.ownsRow_nil _ _ _ _, fun x hx => (by cases hx), .nil, Nat.le_refl _⟩

theorem flat_set3 : ∀ (M : List Mo) (k : Nat) (hk : k < M.length) (L : List Sm) (v : Value), (M.flatMap Mo.cells).set (k * 3 + 2) v = (M.set k ⟨{ M[k].en with L := L }, v⟩).flatMap Mo.cells
  | x :: M, 0, _, L, v => rfl
  | x :: M, k + 1, hk, L, v => by
    have h := flat_set3 M k (by simpa using hk) L v
    rw [List.set_cons_succ, List.flatMap_cons, List.flatMap_cons, List.getElem_cons_succ, ← h, show (k + 1) * 3 + 2 = k * 3 + 2 + 1 + 1 + 1 by omega]
    rfl
theorem ModelAt.push {w w1 : World} {B pb : Nat} {mv : Value} {M : List Mo} (h : ModelAt w B pb mv M) (en : En) (hL : en.L = []) (W : World) (hW : Below w.heap.size w W) {g cap : Nat}
    (hrow : w1.ownsRow B 44 3 (.slice (some ⟨g, 0, none⟩) (M.length + 1) cap) (M.length + 1) (M.flatMap Mo.cells ++ [.string en.sub, .string en.met, .slice none 0 0])) (hg : W.grownBy w1 mv.ownBlock) (hnew : mv.ownBlock = some g ∨ W.heap.size ≤ g) :
    ModelAt (w1.setCell ⟨pb, 0, none⟩ (.slice (some ⟨g, 0, none⟩) (M.length + 1) cap)) B pb (.slice (some ⟨g, 0, none⟩) (M.length + 1) cap) (M ++ [⟨en, .slice none 0 0⟩]) := by
  have hf1 : Fr (fun q => mv.ownBlock = some q) w w1 := (Fr.of_below hW _).trans (Fr.grown hg (fun k hk => hk)) (fun i hi => .inl hi)
  have hpb : w1.heap[pb]? = some (.cells #[mv] 31 (0, 0)) := hf1.heap h.cell h.row_pb
  have hgp : g ≠ pb := by
    rcases hnew with e | e
    · rintro rfl; exact h.row_pb e
    · have := h.pbLt; have := hW.size; omega
  have hf2 : Fr (fun q => q = pb) w1 (w1.setCell ⟨pb, 0, none⟩ (.slice (some ⟨g, 0, none⟩) (M.length + 1) cap)) := (Fr.refl (fun q => q = pb) w1).set1 (g := pb) rfl _
  refine ⟨row_setCell hpb _, ?_, ?_, ?_, h.pbB⟩
  · have := owns_fr hf2 hrow (fun k hk => by simp only [Value.ownBlock, Option.some.injEq] at hk; rw [← hk]; exact hgp)
    rw [List.length_append, List.flatMap_append]
    exact this
  · intro x hx
    rcases List.mem_append.1 hx with hx | hx
    · refine (h.views x hx).keep fun k hk => ?_
      have hk1 := ViewAt.lt (h.views x hx) k hk
      rw [hf2.block k (Nat.lt_of_lt_of_le hk1.2 hf1.size) (fun e => h.view_pb hx (e ▸ hk))]
      exact hf1.block k hk1.2 (fun e => h.view_row hx e hk)
    · rw [List.mem_singleton.1 hx]
      show ViewAt _ _ _ _ _ en.L.length (en.L.flatMap Sm.cells)
      rw [hL]
      exact ViewAt.nil _ _ _ _
  · refine List.pairwise_append.2 ⟨h.apart, List.pairwise_singleton _ _, fun x _ y hy g _ => ?_⟩
    rw [List.mem_singleton.1 hy]
    exact fun e => by cases e
theorem ModelAt.setL {w w1 : World} {B pb : Nat} {g cap n : Nat} {M : List Mo} (h : ModelAt w B pb (.slice (some ⟨g, 0, none⟩) n cap) M) {k : Nat} (hk : k < M.length) (L : List Sm) (v : Value)
    (hf : Fr (fun q => M[k].v.ownBlock = some q) w w1) (hv : ViewAt w1 B 64 2 v L.length (L.flatMap Sm.cells)) (hnew : ∀ q, v.ownBlock = some q → M[k].v.ownBlock = some q ∨ w.heap.size ≤ q) :
    ModelAt (w1.setCell ⟨g, k * 3 + 2, none⟩ v) B pb (.slice (some ⟨g, 0, none⟩) n cap) (M.set k ⟨{ M[k].en with L := L }, v⟩) := by
  have hmk : M[k] ∈ M := List.getElem_mem hk
  have hrow := h.row
  have hgk : M[k].v.ownBlock ≠ some g := h.view_row hmk rfl
  have hgp : pb ≠ g := fun e => h.row_pb (by rw [e]; rfl)
  have hr1 := owns_fr hf hrow (fun q hq e => by simp only [Value.ownBlock, Option.some.injEq] at hq; subst hq; exact hgk e)
  have hglt := World.ownsRow.lt hrow g rfl
  have hf2 : Fr (fun q => q = g) w1 (w1.setCell ⟨g, k * 3 + 2, none⟩ v) := (Fr.refl (fun q => q = g) w1).set1 (g := g) rfl _
  have hvg : v.ownBlock ≠ some g := fun e => by
    rcases hnew g e with e | e
    · exact hgk e
    · omega
  have hne : ∀ j (hj : j < M.length), j ≠ k → ∀ q, M[j].v.ownBlock = some q → M[k].v.ownBlock ≠ some q := fun j hj hjk q hq e => by
    rcases Nat.lt_or_gt_of_ne hjk with h1 | h1
    · exact List.pairwise_iff_getElem.1 h.apart j k hj hk h1 q hq e
    · exact List.pairwise_iff_getElem.1 h.apart k j hk hj h1 q e hq
  refine ⟨hf2.heap (hf.heap h.cell (h.view_pb hmk)) hgp, ?_, ?_, ?_, h.pbB⟩
  · rcases hr1.2 with ⟨e, _⟩ | ⟨g', cap', cur, e, hb, hg, hn, hcm, hcs, ht⟩
    · cases e
    · cases e
      refine ⟨?_, .inr ⟨g, cap, _, ?_, hb, row_setCell hg v, ?_, hcm, ?_, ?_⟩⟩
      · rw [flatMap_len (f := Mo.cells) (sz := 3) (fun _ => rfl)]
      · rw [List.length_set]
      · rw [List.length_set]; exact hn
      · simpa using hcs
      · rw [← flat_set3 M k hk L v, ← ht, List.length_set, Array.toList_setIfInBounds, List.take_set]
  · intro x hx
    obtain ⟨j, hj, rfl⟩ := List.getElem_of_mem hx
    rw [List.length_set] at hj
    by_cases hjk : k = j
    · subst hjk
      rw [List.getElem_set_self]
      exact hv.keep fun q hq => hf2.block q (ViewAt.lt hv q hq).2 (fun e => hvg (e ▸ hq))
    · rw [List.getElem_set_ne hjk]
      have hmj : M[j] ∈ M := List.getElem_mem hj
      refine (h.views _ hmj).keep fun q hq => ?_
      have hq1 := ViewAt.lt (h.views _ hmj) q hq
      rw [hf2.block q (Nat.lt_of_lt_of_le hq1.2 hf.size) (fun e => h.view_row hmj (k := q) (by rw [e]; rfl) hq)]
      exact hf.block q hq1.2 (fun e => hne j hj (fun e => hjk e.symm) q hq e)
  · rw [List.pairwise_iff_getElem]
    intro i j hi hj hij q hq
    rw [List.length_set] at hi hj
    have hnq : ∀ i (hi : i < M.length), i ≠ k → ∀ q, M[i].v.ownBlock = some q → v.ownBlock ≠ some q := fun i hi hik q hq e => by
      rcases hnew q e with e2 | e2
      · exact hne i hi hik q hq e2
      · have := (ViewAt.lt (h.views _ (List.getElem_mem hi)) q hq).2
        omega
    by_cases hik : k = i
    · subst hik
      rw [List.getElem_set_self] at hq
      rw [List.getElem_set_ne (by omega)]
      exact fun e => hnq j hj (by omega) q e hq
    · rw [List.getElem_set_ne hik] at hq
      by_cases hjk : k = j
      · subst hjk
        rw [List.getElem_set_self]
        exact hnq i hi (fun e => hik e.symm) q hq
      · rw [List.getElem_set_ne hjk]
        exact List.pairwise_iff_getElem.1 h.apart i j hi hj hij q hq
end Go.Proofs.Ytoamjihchmokcaa
namespace Go.Proofs.Ytoamjihchmokcaa
open Go.ChangeShapes Go.WideShapes Go.ChangeAt Go.RowKit Go.Deep

def lowOf (c : Int) : Bool := (decide (97 ≤ c) && decide (c ≤ 122)) || (decide (48 ≤ c) && decide (c ≤ 57))
def refAt (s : ByteArray) (k : Nat) (h : k < s.size) : Bool := lowOf (s[k].toNat : Int) || (decide ((s[k].toNat : Int) = 45) && (decide (k ≠ 0) && decide (k ≠ s.size - 1)))

theorem refAt_sign {s : ByteArray} {k : Nat} {h : k < s.size} (e : refAt s k h = true) : signL s[k] = true := by
  unfold refAt lowOf at e
  unfold signL signOf
  simp at e ⊢
  omega

theorem refName_yes {s : ByteArray} (h : ∀ k, (hk : k < s.size) → refAt s k hk = true) : nameOf s.data.toList = (decide (1 ≤ (s.size : Int)) && decide ((s.size : Int) ≤ 32)) := by
  by_cases h0 : s.size = 0
  · rw [h0]
    have e : s.toList = [] := by
      rw [Lib.toList_data]
      exact List.eq_nil_of_length_eq_zero (by rw [← size_data]; exact h0)
    rw [name_empty e]
    rfl
  · by_cases h1 : 32 < (s.size : Int)
    · rw [name_long h1]
      simp; omega
    · rw [name_yes (by omega) (by omega) ?_ ?_ (fun k hk => refAt_sign (h k hk))]
      · simp; omega
      · intro e
        have := h 0 (by omega)
        unfold refAt lowOf at this
        simp at this
        omega
      · intro e
        have := h (s.size - 1) (by omega)
        unfold refAt lowOf at this
        simp at this
        omega

theorem refName_no {s : ByteArray} {k : Nat} (hk : k < s.size) (h : refAt s k hk = false) : nameOf s.data.toList = false := by
  cases hs : signL s[k]
  · exact name_sign hk hs
  · have e : (s[k].toNat : Int) = 45 ∧ (k = 0 ∨ k = s.size - 1) := by
      unfold refAt lowOf at h
      unfold signL signOf at hs
      simp at h hs
      omega
    rcases e with ⟨e, rfl | rfl⟩
    · exact name_head hk e
    · exact name_last (by omega) e

set_option maxHeartbeats 3200000 in
theorem refName_any (s : ByteArray) (hn : s.size ≤ maxLen) (w : World) : Calls Try.prog 18 #[.string s] w fun e w' => e = .returned (.bool (nameOf s.data.toList)) ∧ w' = w := by
  unfold maxLen at hn
  go_enter Try.func18, Try.ntmps18
  go_wp2_with fail
  go_loop [3] (fun i => ∃ k : Nat, k ≤ s.size ∧ i = .int .i64 k ∧ Hid (∀ j, (h : j < s.size) → j < k → refAt s j h = true)) (fun i => s.size - (intOf i).toNat)
  case atStart => exact ⟨0, Nat.zero_le _, rfl, fun j _ h => by omega⟩
  case round =>
    obtain ⟨k, hk, rfl, hall⟩ := hrel
    by_cases hlt : k < s.size
    · have hno : Hid (refAt s k hlt = false → nameOf s.data.toList = false) := fun h => refName_no hlt h
      have hyes : Hid (refAt s k hlt = true → ∀ j, (h : j < s.size) → j < k + 1 → refAt s j h = true) := fun h1 j h hj => if e : j = k then by subst e; exact h1 else hall.out j h (by omega)
      have hw : IntKind.i64.wrap ((s.size : Int) - 1) = (s.size : Int) - 1 := IntWalk.i64_in _ (by omega)
      clear hall
      by_cases g : lowOf (s[k].toNat : Int) = true
      · have hy := Lib.hid (hyes.out (by unfold refAt; rw [g]; rfl))
        clear hno hyes
        unfold lowOf at g
        rcases (show (48 ≤ (s[k].toNat : Int) ∧ (s[k].toNat : Int) ≤ 57) ∨ (97 ≤ (s[k].toNat : Int) ∧ (s[k].toNat : Int) ≤ 122) by simp at g; omega) with ⟨g1, g2⟩ | ⟨g1, g2⟩
        · have d1 : decide (97 ≤ (s[k].toNat : Int)) = false := decide_eq_false (by omega)
          have d3 : decide (48 ≤ (s[k].toNat : Int)) = true := decide_eq_true (by omega)
          have d4 : decide ((s[k].toNat : Int) ≤ 57) = true := decide_eq_true (by omega)
          clear g g1 g2
          go_wp2_with fail
          go_round
          case rel => exact ⟨k + 1, by omega, by go_num, hy.out⟩
          case measure => simp [intOf]; omega
        · have d1 : decide (97 ≤ (s[k].toNat : Int)) = true := decide_eq_true (by omega)
          have d2 : decide ((s[k].toNat : Int) ≤ 122) = true := decide_eq_true (by omega)
          clear g g1 g2
          go_wp2_with fail
          go_round
          case rel => exact ⟨k + 1, by omega, by go_num, hy.out⟩
          case measure => simp [intOf]; omega
      · have gf : lowOf (s[k].toNat : Int) = false := by simpa using g
        have HA : Hid (refAt s k hlt = (!((s[k].toNat : Int) != 45) && (!((k : Int) == 0) && !((k : Int) == (s.size : Int) - 1)))) := by
          show _ = _
          unfold refAt
          rw [gf, Bool.false_or, Bool.eq_iff_iff]
          simp
          omega
        have hc : (s[k].toNat : Int) < 48 ∨ (57 < (s[k].toNat : Int) ∧ (s[k].toNat : Int) < 97) ∨ 122 < (s[k].toNat : Int) := by unfold lowOf at g; simp at g; omega
        clear g gf
        obtain ⟨b1, h1⟩ : ∃ b, ((s[k].toNat : Int) != 45) = b := ⟨_, rfl⟩
        obtain ⟨b2, h2⟩ : ∃ b, ((k : Int) == 0) = b := ⟨_, rfl⟩
        obtain ⟨b3, h3⟩ : ∃ b, ((k : Int) == (s.size : Int) - 1) = b := ⟨_, rfl⟩
        rw [h1, h2, h3] at HA
        rcases hc with g | ⟨g1, g2⟩ | g
        rotate_left
        · have d1 : decide (97 ≤ (s[k].toNat : Int)) = false := decide_eq_false (by omega)
          have d3 : decide (48 ≤ (s[k].toNat : Int)) = true := decide_eq_true (by omega)
          have d4 : decide ((s[k].toNat : Int) ≤ 57) = false := decide_eq_false (by omega)
          obtain rfl : b1 = true := by rw [← h1]; exact bne_iff_ne.2 (by omega)
          have hbad := Lib.hid (hno.out HA.out)
          clear g1 g2 hyes hno
          go_wp2_with fail
          go_ret
          exact ⟨ret_bool hbad.out.symm, rfl⟩
        · have d1 : decide (97 ≤ (s[k].toNat : Int)) = true := decide_eq_true (by omega)
          have d2 : decide ((s[k].toNat : Int) ≤ 122) = false := decide_eq_false (by omega)
          have d3 : decide (48 ≤ (s[k].toNat : Int)) = true := decide_eq_true (by omega)
          have d4 : decide ((s[k].toNat : Int) ≤ 57) = false := decide_eq_false (by omega)
          obtain rfl : b1 = true := by rw [← h1]; exact bne_iff_ne.2 (by omega)
          have hbad := Lib.hid (hno.out HA.out)
          clear g hyes hno
          go_wp2_with fail
          go_ret
          exact ⟨ret_bool hbad.out.symm, rfl⟩
        · have d1 : decide (97 ≤ (s[k].toNat : Int)) = false := decide_eq_false (by omega)
          have d3 : decide (48 ≤ (s[k].toNat : Int)) = false := decide_eq_false (by omega)
          clear g
          rcases b1 with _ | _
          rotate_left
          · have hend : Hid ((nameOf s.data.toList = false) ∨ (refAt s k hlt = true)) := by first | exact .inl (hno.out HA.out) | exact .inr HA.out
            clear hno
            go_wp2_with fail
            first
              | (go_ret; exact ⟨ret_bool (hend.out.resolve_right (by rw [HA.out]; exact Bool.false_ne_true)).symm, rfl⟩)
              | (go_round; (case rel => exact ⟨k + 1, by omega, by go_num, hyes.out HA.out⟩); (case measure => simp [intOf]; omega))
          · skip
            rcases b2 with _ | _
            rotate_left
            · have hend : Hid ((nameOf s.data.toList = false) ∨ (refAt s k hlt = true)) := by first | exact .inl (hno.out HA.out) | exact .inr HA.out
              clear hno
              go_wp2_with fail
              first
                | (go_ret; exact ⟨ret_bool (hend.out.resolve_right (by rw [HA.out]; exact Bool.false_ne_true)).symm, rfl⟩)
                | (go_round; (case rel => exact ⟨k + 1, by omega, by go_num, hyes.out HA.out⟩); (case measure => simp [intOf]; omega))
            · skip
              rcases b3 with _ | _
              rotate_left
              · have hend : Hid ((nameOf s.data.toList = false) ∨ (refAt s k hlt = true)) := by first | exact .inl (hno.out HA.out) | exact .inr HA.out
                clear hno
                go_wp2_with fail
                first
                  | (go_ret; exact ⟨ret_bool (hend.out.resolve_right (by rw [HA.out]; exact Bool.false_ne_true)).symm, rfl⟩)
                  | (go_round; (case rel => exact ⟨k + 1, by omega, by go_num, hyes.out HA.out⟩); (case measure => simp [intOf]; omega))
              · skip
                have hend : Hid ((nameOf s.data.toList = false) ∨ (refAt s k hlt = true)) := by first | exact .inl (hno.out HA.out) | exact .inr HA.out
                clear hno
                go_wp2_with fail
                first
                  | (go_ret; exact ⟨ret_bool (hend.out.resolve_right (by rw [HA.out]; exact Bool.false_ne_true)).symm, rfl⟩)
                  | (go_round; (case rel => exact ⟨k + 1, by omega, by go_num, hyes.out HA.out⟩); (case measure => simp [intOf]; omega))
    · have He := Lib.hid (refName_yes (fun j h => hall.out j h (by omega)))
      clear hall
      by_cases h1 : 1 ≤ (s.size : Int)
      · have hd : decide (1 ≤ (s.size : Int)) = true := decide_eq_true h1
        go_wp2_with fail
        go_ret
        exact ⟨ret_bool (by rw [He.out, hd, Bool.true_and]), rfl⟩
      · have hd : decide (1 ≤ (s.size : Int)) = false := decide_eq_false h1
        go_wp2_with fail
        go_ret
        exact ⟨ret_bool (by rw [He.out, hd, Bool.false_and]), rfl⟩
end Go.Proofs.Ytoamjihchmokcaa
