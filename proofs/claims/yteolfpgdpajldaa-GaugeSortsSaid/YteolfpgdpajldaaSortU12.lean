/- gauge.Sort. Condition: the slice read. -/
import Derived.Test.YteolfpgdpajldaaSortU11
namespace Go.Proofs.Yteolfpgdpajldaa
open Go.ChangeShapes Go.WideShapes Go.ChangeAt Go.RowKit Go.Deep

set_option maxRecDepth 100000 in
theorem insertion_nilU (w : World) : Calls Try.prog 41 #[.slice none 0 0, .int .i64 0, .int .i64 0, .func (.func 12) #[] #[]] w fun e w' => e = .returned (.tuple #[]) ∧ w' = w := by
  go_enter Try.func41, Try.ntmps41
  go_wp2_with fail
  go_loopw [8, 9] (fun vi _ wr => vi = .int .i64 1 ∧ w = wr) (fun vi _ _ => (intOf vi).toNat)
  case atStart => exact ⟨rfl, rfl⟩
  case round =>
    obtain ⟨rfl, rfl⟩ := hrel
    go_wp2_with fail
    refine bodyPost_end (v := .tuple #[]) (by simp [results, Try.results41, go_sem]) rfl ?_
    exact ⟨rfl, rfl⟩

set_option maxRecDepth 100000 in
theorem stable_nilU (w : World) : Calls Try.prog 32 #[.slice none 0 0, .int .i64 0, .func (.func 12) #[] #[]] w fun e w' => e = .returned (.tuple #[]) ∧ w' = w := by
  have HI := Lib.hid (insertion_nilU w)
  go_enter Try.func32, Try.ntmps32
  go_wp2_with fail
  go_loopw [7, 8] (fun va vb wr => va = .int .i64 0 ∧ vb = .int .i64 20 ∧ w = wr) (fun _ vb _ => (intOf vb).toNat)
  case atStart => exact ⟨rfl, rfl, rfl⟩
  case round =>
    obtain ⟨rfl, rfl, rfl⟩ := hrel
    go_wp2_with fail
    refine HI.out.mono ?_
    rintro e w2 ⟨rfl, rfl⟩
    obtain ⟨wz, rfl⟩ : ∃ wz : World, wz = w2 := ⟨_, rfl⟩
    go_wp2_with fail
    go_loopw [6, 7, 8, 9] (fun v6 _ _ _ wr => v6 = .int .i64 20 ∧ wz = wr) (fun v6 _ _ _ _ => (intOf v6).toNat)
    case atStart => exact ⟨rfl, rfl⟩
    case round =>
      obtain ⟨rfl, rfl⟩ := hrel
      go_wp2_with fail
      refine bodyPost_end (v := .tuple #[]) (by simp [results, Try.results32, go_sem]) rfl ?_
      exact ⟨rfl, rfl⟩

set_option maxRecDepth 100000 in
theorem sortStable_nilU (w : World) : Calls Try.prog 11 #[.slice none 0 0, .func (.func 12) #[] #[]] w fun e w' => e = .returned (.tuple #[]) ∧ w' = w := by
  have HI := Lib.hid (stable_nilU w)
  go_enter Try.func11, Try.ntmps11
  go_wp2_with fail
  refine HI.out.mono ?_
  rintro e w4 ⟨rfl, rfl⟩
  go_wp2_with fail
  refine bodyPost_end (v := .tuple #[]) (by simp [results, Try.results11, go_sem]) rfl ?_
  exact ⟨rfl, rfl⟩

theorem zip_leU : ∀ (xs : List QWord) (k : Nat), ∀ x ∈ xs.zipIdx k, k ≤ x.2
  | [], _, _, h => by simp at h
  | x :: xs, k, y, h => by
    rw [List.zipIdx_cons, List.mem_cons] at h
    rcases h with rfl | h
    · exact Nat.le_refl _
    · exact Nat.le_of_succ_le (zip_leU xs (k + 1) y h)

theorem zip_riseU : ∀ (xs : List QWord) (k : Nat), (xs.zipIdx k).Pairwise fun x y => x.2 < y.2
  | [], _ => List.Pairwise.nil
  | x :: xs, k => by
    rw [List.zipIdx_cons]
    exact List.pairwise_cons.2 ⟨fun y hy => zip_leU xs (k + 1) y hy, zip_riseU xs (k + 1)⟩

theorem good_of (x : W64) (h : badW x = false) : GoodW x.1 := by
  obtain ⟨x, hx⟩ := x
  unfold badW refOf at h
  unfold GoodW
  dsimp only at h ⊢
  have e1 := expo_eq x
  by_cases h1 : x = 9223372036854775808
  · exact .inr h1
  · refine .inl ?_
    by_cases h2 : expo x = 2047
    · exfalso
      by_cases h3 : frac x = 0
      · rw [if_neg (fun hh => hh.2 h3), if_neg h1, if_pos (.inl h2)] at h
        exact absurd h (by decide)
      · rw [if_pos ⟨h2, h3⟩] at h
        exact absurd h (by decide)
    · by_cases h3 : 9223372036854775808 ≤ x
      · exfalso
        rw [if_neg (fun hh => h2 hh.1), if_neg h1, if_pos (.inr h3)] at h
        exact absurd h (by decide)
      · unfold expo at h2
        omega

theorem quals : ∀ (xs : List W64), (∀ x ∈ xs, badW x = false) → ∃ qs : List QWord, qs.map (·.1) = xs.map (·.1)
  | [], _ => ⟨[], rfl⟩
  | x :: xs, h => by
    obtain ⟨qs, hq⟩ := quals xs fun y hy => h y (List.mem_cons_of_mem _ hy)
    exact ⟨⟨x.1, good_of x (h x (by simp))⟩ :: qs, by simp [hq]⟩

theorem zip_flatU : ∀ (qs : List QWord) (xs : List W64) (k : Nat), qs.map (·.1) = xs.map (·.1) → (qs.zipIdx k).flatMap tU = xs.flatMap cW
  | [], [], _, _ => rfl
  | [], x :: xs, _, h => by simp at h
  | q :: qs, [], _, h => by simp at h
  | q :: qs, x :: xs, k, h => by
    simp only [List.map_cons, List.cons.injEq] at h
    rw [List.zipIdx_cons, List.flatMap_cons, List.flatMap_cons, zip_flatU qs xs (k + 1) h.2]
    simp [tU, cW, h.1]

/-- The samples that have a quantity, sorted. -/
def SortedW (xs : List W64) (ys : List Nat) : Prop := ∃ (qs : List QWord) (d : List TU), qs.map (·.1) = (xs.filter fun x => !badW x).map (·.1) ∧ d.Perm qs.zipIdx ∧ d.Pairwise TOU ∧ ys = d.map (·.1.1)

def cN (x : Nat) : List Value := [.int .u64 (x : Nat)]

theorem flat_fstU (d : List TU) : d.flatMap tU = (d.map (·.1.1)).flatMap cN := by
  induction d with
  | nil => rfl
  | cons x d ih => rw [List.flatMap_cons, List.map_cons, List.flatMap_cons, ih]; rfl

set_option maxRecDepth 100000 in
theorem deleteFunc_nilW (w : World) : Calls Try.prog 8 #[.slice none 0 0, .func (.func 10) #[] #[]] w fun e w' => e = .returned (.slice none 0 0) ∧ Below w.heap.size w w' := by
  have HI := Lib.hid (indexFunc_W [] none 0 0 w ⟨rfl, Nat.le_refl _, Nat.zero_le _, (fun _ => rfl), (fun a ha => by cases ha)⟩)
  go_enter Try.func8, Try.ntmps8
  go_wp2_with fail
  refine HI.out.mono ?_
  rintro e w2 ⟨he, hb⟩
  rw [show idxOf badW [] 0 = -1 from rfl] at he
  subst he
  have Hb := Lib.hid hb
  clear hb
  go_wp2_with fail
  go_ret
  exact ⟨rfl, Hb.out⟩

set_option maxRecDepth 100000 in
set_option maxHeartbeats 1000000 in
theorem sort_W (xs : List W64) (ao : Option Addr) (n cap : Nat) (w : World) (hS : SlR (Flat cW) 1 w ao n cap xs) (hn : n ≤ 1000000) :
    Calls Try.prog 5 #[.slice ao n cap] w fun e w' => ∃ ao' m cap' ys, e = .returned (.slice ao' m cap') ∧ SortedW xs ys ∧ SlR (Flat cN) 1 w' ao' m cap' ys ∧ Below w.heap.size w w' := by
  have HC := Lib.hid (clone_W xs ao n cap w hS hn)
  have HL := Lib.hid hS.hlen
  clear hS
  go_enter Try.func5, Try.ntmps5
  go_wp2_with fail
  refine HC.out.mono ?_
  rintro e w1 ⟨v', rfl, ho, hb⟩
  have Hb := Lib.hid hb
  clear hb
  rcases ho.2 with ⟨rfl, hn0⟩ | ⟨g, cap1, cur, rfl, h1⟩
  · subst hn0
    have hx : xs = [] := List.eq_nil_of_length_eq_zero HL.out
    subst hx
    have HJ := Lib.hid (deleteFunc_nilW w1)
    clear ho
    go_wp2_with fail
    refine HJ.out.mono ?_
    rintro e w2 ⟨rfl, hb2⟩
    have Hb2 := Lib.hid (Hb.out.trans (hb2.mono Hb.out.size))
    have HI := Lib.hid (sortStable_nilU w2)
    clear hb2
    go_wp2_with fail
    refine HI.out.mono ?_
    rintro e w3 ⟨rfl, rfl⟩
    go_wp2_with fail
    go_ret
    exact ⟨none, 0, 0, [], rfl, ⟨[], [], rfl, List.Perm.nil, List.Pairwise.nil, rfl⟩, ⟨rfl, Nat.le_refl _, Nat.zero_le _, (fun _ => rfl), (fun a ha => by cases ha)⟩, Hb2.out⟩
  · obtain ⟨hB, hnc, hcm, rest, hrow, hrl⟩ := owns_row ho
    have HD := Lib.hid (deleteFunc_W xs rest g n cap1 w1 hrow HL.out hnc hcm)
    have HB := Lib.hid hB
    clear ho h1 hrow hB hrl
    go_wp2_with fail
    refine HD.out.mono ?_
    rintro e w2 ⟨m, rest2, rfl, hm, hr2, hrow2, hfr2⟩
    obtain ⟨qs, hqs⟩ := quals (xs.filter fun x => !badW x) (fun x hx => by have := (List.mem_filter.1 hx).2; simpa using this)
    rw [← zip_flatU qs _ 0 hqs] at hrow2
    have hql : qs.length = m := by have := congrArg List.length hqs; simp only [List.length_map] at this; omega
    have hmn : m ≤ n := by rw [hm, ← HL.out]; exact List.length_filter_le _ _
    have HI := Lib.hid (sortStable_U cmpU _ rest2 g m cap1 w2 ⟨hrow2, Fr.refl _ _⟩ (by simp [hql]) (by omega) (zip_riseU qs 0))
    have HF := Lib.hid hfr2
    have HQ := Lib.hid hqs
    have HQl := Lib.hid hql
    clear hrow2 hfr2 hm hr2 hqs hql
    go_wp2_with fail
    refine HI.out.mono ?_
    rintro e w3 ⟨rfl, d, h2, h3, h4⟩
    have H2 := Lib.hid h2
    have H3 := Lib.hid h3
    have H4 := Lib.hid h4
    clear h2 h3 h4
    go_wp2_with fail
    go_ret
    have hf : ∀ x : Nat, (cN x).length = 1 := fun _ => rfl
    have hdl : d.length = m := by rw [H3.out.length_eq]; simp [HQl.out]
    obtain ⟨ys, hys⟩ : ∃ ys : List Nat, d.map (·.1.1) = ys := ⟨_, rfl⟩
    have hyl : ys.length = m := by rw [← hys, List.length_map, hdl]
    have hrow := H2.out.row
    rw [flat_fstU, hys] at hrow
    refine ⟨_, m, cap1, ys, rfl, ⟨qs, d, HQ.out, H3.out, H4.out, hys.symm⟩, ⟨hyl, by omega, hcm, (fun h => by cases h), fun a ha i hi => ?_⟩, Hb.out.trans ((HF.out.trans H2.out.fr (fun _ hi => .inl hi)).below Hb.out.size (fun k hk => by rw [hk]; exact HB.out))⟩
    obtain rfl := Option.some.inj ha
    refine ⟨cN ys[i], rfl, fun j u hu => ?_, rfl⟩
    have hj : j < 1 := (List.getElem?_eq_some_iff.1 hu).1
    rw [Addr.add_lit, Nat.zero_add, cell_of_row _ g _ _ _ (0, 0) hrow, List.getElem?_toArray, List.getElem?_append_left (by rw [flatMap_len hf]; omega), flatMap_get hf ys i j hi hj, hu]
end Go.Proofs.Yteolfpgdpajldaa
