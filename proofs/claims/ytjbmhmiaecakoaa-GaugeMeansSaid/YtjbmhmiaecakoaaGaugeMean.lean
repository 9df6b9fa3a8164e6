/- The contracts of wide's Add and Div at small numbers, and of gauge.Mean. Condition: the samples are of 64 bits, at most 50. -/
import Derived.Test.YtjbmhmiaecakoaaGauge4
import Derived.Laws.Externs
namespace Go.Proofs.Ytjbmhmiaecakoaa
open Go.ChangeShapes Go.WideShapes Go.ChangeAt Go.RowKit Go.Deep

theorem run_Add64 (x y : Int) (w : World) (hx : 0 ≤ x) (hy : 0 ≤ y) (h : x + y < 18446744073709551616) :
    (callFunc 120 #[.int .u64 x, .int .u64 y, .int .u64 0]).run Try.prog w = .ok (.value (.tuple #[.int .u64 (x + y), .int .u64 0])) w := by
  rw [run_callFunc_extern Try.func120 (by kernel_rfl) (by kernel_rfl) (by kernel_rfl) (e := add64Entry) (by kernel_rfl), run_add64 x y 0 hx hy (by omega) (by omega)]
  rw [show (x + y + 0) % 18446744073709551616 = x + y from by omega, show (x + y + 0) / 18446744073709551616 = 0 from by omega]
  rfl

set_option maxRecDepth 100000 in
set_option maxHeartbeats 1000000 in
theorem wadd_any (a b : Nat) (w : World) (h : a + b < 18446744073709551616) :
    Calls Try.prog 64 #[.agg #[.int .u64 0, .int .u64 a], .agg #[.int .u64 0, .int .u64 b]] w fun e w' => e = .returned (.tuple #[.agg #[.int .u64 0, .int .u64 ((a + b : Nat) : Int)], .bool false]) ∧ Below w.heap.size w w' := by
  have h1 : ∀ w, _ := fun w => run_Add64 (a : Int) (b : Int) w (by omega) (by omega) (by omega)
  have h2 : ∀ w, _ := fun w => run_Add64 0 0 w (by omega) (by omega) (by omega)
  rw [show (a : Int) + (b : Int) = ((a + b : Nat) : Int) from by omega] at h1
  rw [show (0 : Int) + 0 = 0 from rfl] at h2
  obtain ⟨c, hc⟩ : ∃ c, a + b = c := ⟨_, rfl⟩
  rw [hc] at h1 ⊢
  clear hc h
  go_enter Try.func64, Try.ntmps64
  go_wp2_with fail
  exact bodyPost_ret (v := .tuple #[.agg #[.int .u64 0, .int .u64 c], .bool false]) (by simp [results, Try.results64, go_sem]) rfl ⟨rfl, (((Below.refl _ _).alloc (Nat.le_refl _) _).alloc (by simp) _).alloc (by simp; omega) _⟩

theorem div64_any (a b : Nat) (w : World) (ha : a < 18446744073709551616) (hb : 0 < b) (hb2 : b < 18446744073709551616) :
    Calls Try.prog 121 #[.int .u64 0, .int .u64 a, .int .u64 b] w fun e w' => e = .returned (.tuple #[.int .u64 ((a / b : Nat) : Int), .int .u64 ((a % b : Nat) : Int)]) ∧ Below w.heap.size w w' := by
  have h1 : ((b : Int) == 0) = false := by rw [beq_eq_false_iff_ne]; omega
  have h2 : (a : Int) / (b : Int) = ((a / b : Nat) : Int) := by simp
  have h3 : (a : Int) % (b : Int) = ((a % b : Nat) : Int) := by simp
  have h4 := Nat.div_le_self a b
  have h5 := Nat.mod_lt a hb
  obtain ⟨q, hq⟩ : ∃ q, a / b = q := ⟨_, rfl⟩
  obtain ⟨r, hr⟩ : ∃ r, a % b = r := ⟨_, rfl⟩
  rw [hq] at h2 h4 ⊢
  rw [hr] at h3 h5 ⊢
  clear hq hr
  have h6 : ¬ b ≤ 0 := by omega
  have h7 : decide (b ≤ 0) = false := decide_eq_false h6
  go_enter Try.func121, Try.ntmps121
  go_wp2_with fail
  go_quiet (fail)
  go_wp2_with fail
  go_ret2
  exact ⟨by rw [← h3]; rfl, below_drewN _ _ _⟩

set_option maxRecDepth 100000 in
theorem wdiv_zero (a : Nat) (w : World) :
    Calls Try.prog 65 #[.agg #[.int .u64 0, .int .u64 a], .int .u64 0] w fun e w' => e = .returned (.tuple #[.agg #[.int .u64 0, .int .u64 0], .int .u64 0, .int .i64 5]) ∧ Below w.heap.size w w' := by
  go_enter Try.func65, Try.ntmps65
  go_wp2_with fail
  exact bodyPost_ret (v := .tuple #[.agg #[.int .u64 0, .int .u64 0], .int .u64 0, .int .i64 5]) (by simp [results, Try.results65, go_sem]) rfl ⟨rfl, ((Below.refl _ _).alloc (Nat.le_refl _) _).alloc (by simp) _⟩

set_option maxRecDepth 100000 in
set_option maxHeartbeats 1000000 in
theorem wdiv_any (a b : Nat) (w : World) (ha : a < 18446744073709551616) (hb : 0 < b) (hb2 : b < 18446744073709551616) :
    Calls Try.prog 65 #[.agg #[.int .u64 0, .int .u64 a], .int .u64 b] w fun e w' => e = .returned (.tuple #[.agg #[.int .u64 0, .int .u64 ((a / b : Nat) : Int)], .int .u64 ((a % b : Nat) : Int), .int .i64 0]) ∧ Below w.heap.size w w' := by
  have HD : Hid (∀ w1 : World, _) := fun w1 => div64_any a b w1 ha hb hb2
  have h1 : ((b : Int) == 0) = false := by rw [beq_eq_false_iff_ne]; omega
  obtain ⟨q, hq⟩ : ∃ q, a / b = q := ⟨_, rfl⟩
  obtain ⟨r, hr⟩ : ∃ r, a % b = r := ⟨_, rfl⟩
  rw [hq, hr] at HD ⊢
  clear hq hr
  go_enter Try.func65, Try.ntmps65
  go_wp2_with fail
  go_quiet (fail)
  go_wp2_with fail
  refine (HD.out _).mono ?_
  rintro e w1 ⟨rfl, hb1⟩
  have hr1 := (hb1.block (w.heap.size + 1) (by simp [World.drewN])).trans (heap_alloc3 w _ _)
  have hr0 := (hb1.block w.heap.size (by simp [World.drewN]; omega)).trans (heap_alloc2 w _ _)
  have k0 := cell_of_row w1 _ 0 _ _ _ hr1
  have k1 := cell_of_row w1 _ 1 _ _ _ hr1
  have z1 := row_free hr1
  have hz := hb1.size
  simp only [World.drewN, World.size_alloc] at hz
  have Hb1 := Lib.hid hb1
  clear hr1 hr0 hb1
  go_wp2_with fail
  refine bodyPost_ret (v := .tuple #[.agg #[.int .u64 0, .int .u64 q], .int .u64 r, .int .i64 0]) (by simp [results, Try.results65, go_sem, k0, k1]) rfl ⟨rfl, ?_⟩
  exact (((((Below.refl _ _).alloc (Nat.le_refl _) _).alloc (by simp) _).trans ((below_drewN _ _ _).trans (Hb1.out.mono (by simp [World.drewN]; omega)))).setCell (by simp) _).setCell (by simp) _

/-! ### the mean -/

def okSum (l : List Nat) : Nat := (l.map fun x => if (refOf x).2 = 0 then (refOf x).1 else 0).sum
def okCnt (l : List Nat) : Nat := (l.map fun x => if (refOf x).2 = 0 then 1 else 0).sum

theorem okSum_succ (l : List Nat) (k : Nat) (h : k < l.length) : okSum (l.take (k + 1)) = okSum (l.take k) + if (refOf l[k]).2 = 0 then (refOf l[k]).1 else 0 := by
  unfold okSum
  rw [List.take_succ_eq_append_getElem h, List.map_append, List.sum_append]
  simp only [List.map_cons, List.map_nil, List.sum_cons, List.sum_nil, Nat.add_zero]
theorem okCnt_succ (l : List Nat) (k : Nat) (h : k < l.length) : okCnt (l.take (k + 1)) = okCnt (l.take k) + if (refOf l[k]).2 = 0 then 1 else 0 := by
  unfold okCnt
  rw [List.take_succ_eq_append_getElem h, List.map_append, List.sum_append]
  simp only [List.map_cons, List.map_nil, List.sum_cons, List.sum_nil, Nat.add_zero]

theorem quoOf_le (q : Nat) : (quoOf q).1 ≤ 9007199254740992 := by unfold quoOf; split <;> simp; omega
theorem refOf_le (x : Nat) : (refOf x).1 ≤ 9007199254740992 := by
  unfold refOf
  repeat' split
  all_goals first | exact quoOf_le _ | simp

theorem row2 {w : World} {b : Nat} {t : TypeId} {a0 a1 : Value} (h : w.heap[b]? = some (.cells #[a0, a1] t (0, 0))) (x0 x1 : Value) :
    ((w.setCell ⟨b, 0, none⟩ x0).setCell ⟨b, 1, none⟩ x1).heap[b]? = some (.cells #[x0, x1] t (0, 0)) := by
  rw [row_setCell (row_setCell h x0) x1]; rfl

def U64R : World → Nat → List Value → Prop := fun _ x c => c = [.int .u64 x] ∧ x < 18446744073709551616

def meanOf (l : List Nat) : Nat × Nat := if okCnt l = 0 then (0, 0) else (okSum l / okCnt l, okCnt l)

set_option maxRecDepth 100000 in
set_option maxHeartbeats 2000000 in
theorem mean_any (l : List Nat) (ao : Option Addr) (n cap : Nat) (w : World) (hS : SlR U64R 1 w ao n cap l) (hn : n ≤ 50) :
    Calls Try.prog 26 #[.slice ao n cap] w fun e w' => e = .returned (.tuple #[.int .i64 (meanOf l).1, .int .i64 (meanOf l).2]) ∧ Below w.heap.size w w' := by
  have hcm := hS.hmax
  have hlc := hS.hcap
  unfold maxLen at hcm
  have HS := Lib.hid hS
  clear hS
  go_enter Try.func26, Try.ntmps26
  go_wp2_with fail
  go_loopw [5, 15] (fun s5 i wr => ∃ k : Nat, k ≤ n ∧ i = .int .i64 k ∧ s5 = .int .i64 (okCnt (l.take k)) ∧ okCnt (l.take k) ≤ k ∧ okSum (l.take k) ≤ 9007199254740992 * k ∧ Hid (wr.heap[w.heap.size]? = some (.cells #[.int .u64 0, .int .u64 (okSum (l.take k))] 131 (0, 0))) ∧ Below w.heap.size w wr) (fun _ i _ => n - (intOf i).toNat)
  case atStart => exact ⟨0, Nat.zero_le _, rfl, rfl, by simp [okCnt], by simp [okSum], heap_alloc_new w _, (Below.refl _ _).alloc (Nat.le_refl _) _⟩
  case round =>
    obtain ⟨k, hk, rfl, rfl, hc1, hs1, hrow, hb⟩ := hrel
    have hsz := (Array.getElem?_eq_some_iff.1 hrow.out).1
    by_cases hlt : k < n
    · have hS := HS.out.keeps (Keeps.below hb) (fun _ _ h => h)
      obtain ⟨b0, off, rfl⟩ := hS.ptr (by decide) (by omega)
      have kx : k < l.length := by have := hS.hlen; omega
      obtain ⟨c, hcl, hcc, hcr, hx⟩ := hS.cells kx
      have e1 := okSum_succ l k kx
      have e2 := okCnt_succ l k kx
      have hle := refOf_le l[k]
      obtain ⟨x, hx'⟩ : ∃ x, l[k] = x := ⟨_, rfl⟩
      rw [hx'] at hcr hx e1 e2 hle
      subst hcr
      have c0 := hcc 0 _ rfl
      rw [Nat.mul_one, Nat.add_zero] at c0
      obtain ⟨m, hm⟩ : ∃ m, refOf x = m := ⟨_, rfl⟩
      have HR := Lib.hid (read_any x wr hx)
      rw [hm] at HR e1 e2 hle
      obtain ⟨q, r⟩ := m
      dsimp only at HR e1 e2 hle
      obtain ⟨s, hs⟩ : ∃ s, okSum (l.take k) = s := ⟨_, rfl⟩
      obtain ⟨cn, hcn⟩ : ∃ cn, okCnt (l.take k) = cn := ⟨_, rfl⟩
      rw [hs] at e1 hrow hs1
      rw [hcn] at e2 hc1 ⊢
      have Hb := Lib.hid hb
      clear hcc hS hcl kx hx' hm hs hcn hb hx
      by_cases hr : r = 0
      · subst hr
        rw [if_pos rfl] at e1 e2
        have E1 := Lib.hid e1
        have E2 := Lib.hid e2
        have HA : Hid (∀ w1 : World, _) := fun w1 => wadd_any s q w1 (by omega)
        clear e1 e2
        go_wp2_with fail
        refine HR.out.mono ?_
        rintro e w2 ⟨rfl, hb2⟩
        have hr2 := (hb2.block w.heap.size hsz).trans hrow.out
        have k0 := cell_of_row w2 _ 0 _ _ _ hr2
        have k1 := cell_of_row w2 _ 1 _ _ _ hr2
        have Hr2 := Lib.hid hr2
        have Hb2 := Lib.hid (Hb.out.trans (hb2.mono Hb.out.size))
        have hz2 := hb2.size
        clear hr2 hb2
        go_wp2_with fail
        refine (HA.out w2).mono ?_
        rintro e w3 ⟨rfl, hb3⟩
        have hr3 := (hb3.block w.heap.size (by omega)).trans Hr2.out
        clear k0 k1
        have k0 := cell_of_row w3 _ 0 _ _ _ hr3
        have k1 := cell_of_row w3 _ 1 _ _ _ hr3
        have z1 := row_free hr3
        have Hr3 := Lib.hid hr3
        have Hb3 := Lib.hid (Hb2.out.trans (hb3.mono Hb2.out.size))
        clear hr3 hb3
        go_wp2_with fail
        go_roundw
        case rel => exact ⟨k + 1, by omega, by go_num, by rw [E2.out]; go_num, by rw [E2.out]; omega, by rw [E1.out]; omega, by rw [E1.out]; exact row2 Hr3.out _ _, (Hb3.out.setCell (Nat.le_refl _) _).setCell (Nat.le_refl _) _⟩
        case measure => simp [intOf]; omega
      · simp only [if_neg hr, Nat.add_zero] at e1 e2
        have E1 := Lib.hid e1
        have E2 := Lib.hid e2
        have hrb : (r == 0) = false := beq_eq_false_iff_ne.2 hr
        clear e1 e2 hr
        go_wp2_with fail
        refine HR.out.mono ?_
        rintro e w2 ⟨rfl, hb2⟩
        have hr2 := (hb2.block w.heap.size hsz).trans hrow.out
        have Hr2 := Lib.hid hr2
        have Hb2 := Lib.hid (Hb.out.trans (hb2.mono Hb.out.size))
        clear hr2 hb2
        go_wp2_with fail
        go_roundw
        case rel => exact ⟨k + 1, by omega, by go_num, by rw [E2.out], by rw [E2.out]; omega, by rw [E1.out]; omega, by rw [E1.out]; exact Hr2.out, Hb2.out⟩
        case measure => simp [intOf]; omega
    · obtain rfl : k = n := by omega
      have ht : l.take k = l := List.take_of_length_le (by have := HS.out.hlen; omega)
      rw [ht] at hrow hc1 hs1 ⊢
      have hM : Hid (meanOf l = if okCnt l = 0 then (0, 0) else (okSum l / okCnt l, okCnt l)) := rfl
      obtain ⟨s, hs⟩ : ∃ s, okSum l = s := ⟨_, rfl⟩
      obtain ⟨cn, hcn⟩ : ∃ cn, okCnt l = cn := ⟨_, rfl⟩
      rw [hs] at hrow hs1 hM
      rw [hcn] at hc1 hM ⊢
      have k0 := cell_of_row wr _ 0 _ _ _ hrow.out
      have k1 := cell_of_row wr _ 1 _ _ _ hrow.out
      have Hb := Lib.hid hb
      clear ht hs hcn hb
      by_cases h0 : cn = 0
      · subst h0
        have HM2 := Lib.hid (hM.out.trans (if_pos rfl))
        have HD := Lib.hid (wdiv_zero s wr)
        go_wp2_with fail
        refine HD.out.mono ?_
        rintro e w2 ⟨rfl, hb2⟩
        have Hb2 := Lib.hid ((Hb.out.trans (hb2.mono Hb.out.size)).alloc (by have := hb2.size; have := Hb.out.size; omega) (.cells #[.int .u64 0, .int .u64 0] 131))
        clear hb2
        go_wp2_with fail
        go_ret2
        exact ⟨by rw [HM2.out]; rfl, Hb2.out⟩
      · have HM2 := Lib.hid (hM.out.trans (if_neg h0))
        have HD := Lib.hid (wdiv_any s cn wr (by omega) (by omega) (by omega))
        have hql := Nat.div_le_self s cn
        obtain ⟨q, hq⟩ : ∃ q, s / cn = q := ⟨_, rfl⟩
        obtain ⟨r, hr⟩ : ∃ r, s % cn = r := ⟨_, rfl⟩
        rw [hq] at HD HM2 hql
        rw [hr] at HD
        clear hq hr h0 hM
        go_wp2_with fail
        refine HD.out.mono ?_
        rintro e w2 ⟨rfl, hb2⟩
        have Hb2 := Lib.hid ((Hb.out.trans (hb2.mono Hb.out.size)).alloc (by have := hb2.size; have := Hb.out.size; omega) (.cells #[.int .u64 0, .int .u64 q] 131))
        clear hb2
        go_wp2_with fail
        go_ret2
        exact ⟨by rw [HM2.out]; rfl, Hb2.out⟩
end Go.Proofs.Ytjbmhmiaecakoaa
