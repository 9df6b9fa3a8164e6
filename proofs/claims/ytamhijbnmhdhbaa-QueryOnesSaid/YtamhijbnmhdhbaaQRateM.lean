/- The contract of rate.Increase and of rate.Rate. Condition: the row reads. || The contract of rate.Rate. Condition: the row reads, its ticks are the clock's. -/
import Derived.Test.YtamhijbnmhdhbaaRateSum
namespace Go.Proofs.Ytamhijbnmhdhbaa
open Go.ChangeShapes Go.WideShapes Go.ChangeAt Go.RowKit Go.Deep

def incOf (l : List Smp) : Int × Int := if rightOf l = false then (0, 1) else if l.length < 2 then (0, 14) else sumOf (tot (stepsTo l (l.length - 1)))

theorem right_ok {l : List Smp} (h : rightOf l = true) {j : Nat} (hj : j < l.length) : okQ (l[j]!).v = true := by
  unfold rightOf at h
  have := List.all_eq_true.1 h j (List.mem_range.2 hj)
  unfold goodAt at this
  exact (Bool.and_eq_true_iff.1 this).1

set_option maxRecDepth 100000 in
set_option maxHeartbeats 2000000 in
theorem inc_any (l : List Smp) (ao : Option Addr) (n cap : Nat) (w : World) (hS : SlR (Flat Smp.cells) 2 w ao n cap l) :
    Calls Try.prog 16 #[.slice ao n cap] w fun e w' => e = .returned (.tuple #[.int .i64 (incOf l).1, .int .i64 (incOf l).2]) ∧ Below w.heap.size w w' := by
  have hcm := hS.hmax
  have hlc := hS.hcap
  unfold maxLen at hcm
  have hlen := hS.hlen
  have hb0 : Below w.heap.size w (w.alloc (.cells #[.slice ao n cap] 36)) := (Below.refl _ _).alloc (Nat.le_refl _) _
  have HR := Lib.hid (rright_any l ao n cap _ (hS.flatKeeps (Keeps.below hb0)))
  cases hr : rightOf l
  · have hi : incOf l = (0, 1) := if_pos hr
    rw [hr] at HR
    rw [hi]
    have H0 := Lib.hid hb0
    clear hS hb0 hi hr
    go_enter Try.func16, Try.ntmps16
    go_wp2_with fail
    refine HR.out.mono ?_
    rintro e w1 ⟨rfl, hb1⟩
    have H1 := Lib.hid (H0.out.trans (hb1.mono H0.out.size))
    clear hb1
    go_wp2_with fail
    go_ret2
    exact ⟨rfl, H1.out⟩
  · have hcell := cell_of_one (heap_alloc_new w (.cells #[.slice ao n cap] 36))
    rw [hr] at HR
    by_cases hn2 : n < 2
    · have hi : incOf l = (0, 14) := by unfold incOf; rw [if_neg (by rw [hr]; decide), if_pos (by omega)]
      rw [hi]
      have H0 := Lib.hid hb0
      have hd : decide ((n : Int) < 2) = true := decide_eq_true (by omega)
      clear hS hb0 hi hr hlen
      go_enter Try.func16, Try.ntmps16
      go_wp2_with fail
      refine HR.out.mono ?_
      rintro e w1 ⟨rfl, hb1⟩
      have hcell := (hb1.cell (p := ⟨w.heap.size, 0, none⟩) (by simp)).trans hcell
      have H1 := Lib.hid (H0.out.trans (hb1.mono H0.out.size))
      clear hb1
      go_wp2_with fail
      go_ret2
      exact ⟨rfl, H1.out⟩
    · have hi : Hid (incOf l = sumOf (tot (stepsTo l (n - 1)))) := by show _ = _; unfold incOf; rw [if_neg (by rw [hr]; decide), if_neg (by omega), hlen]
      have H0 := Lib.hid hb0
      have hd : decide ((n : Int) < 2) = false := decide_eq_false (by omega)
      obtain ⟨b, off, rfl⟩ := hS.ptr (by decide) (by omega)
      have hq : ∀ j, j < n → okQ (l[j]!).v = true := fun j hj => right_ok hr (by omega)
      have hc : ∀ j, j < n → w.cell? ⟨b, off + j * 2 + 1, none⟩ = some (.int .i64 (l[j]!).v) := fun j hj => by
        have kx : j < l.length := by omega
        have := hS.flat kx 1 _ rfl
        rw [getElem!_pos l j kx]
        exact this
      have hbw : b < w.heap.size := blk (hc 0 (by omega))
      have HS : Hid (∀ w1, Below (w.heap.size + 1) (w.alloc (.cells #[.slice (some ⟨b, off, none⟩) n cap] 36)) w1 → _) := fun w1 hb =>
        callsIn_wide.1 (sum_in 9 (by decide) w.heap.size b off n cap l hlc (by omega) hq w1 (by have := hb.size; rw [World.size_alloc] at this; omega) (by have := hb.size; rw [World.size_alloc] at this; omega)
          ((hb.cell (p := ⟨w.heap.size, 0, none⟩) (by show w.heap.size < w.heap.size + 1; omega)).trans hcell) (fun j hj => ((hb.cell (p := ⟨b, off + j * 2 + 1, none⟩) (by show b < w.heap.size + 1; omega)).trans (H0.out.cell (p := ⟨b, off + j * 2 + 1, none⟩) hbw)).trans (hc j hj)) (by omega))
      clear hS hb0 hr hlen hq hc
      go_enter Try.func16, Try.ntmps16
      go_wp2_with fail
      refine HR.out.mono ?_
      rintro e w1 ⟨rfl, hb1⟩
      have hcell := (hb1.cell (p := ⟨w.heap.size, 0, none⟩) (by simp)).trans hcell
      rw [World.size_alloc] at hb1
      have H1 := Lib.hid (H0.out.trans (hb1.mono (by omega)))
      have HS1 := Lib.hid (HS.out w1 hb1)
      clear hb1
      go_wp2_with fail
      refine HS1.out.mono ?_
      rintro e w2 ⟨rfl, hb2⟩
      rw [← hi.out]
      have H2 := Lib.hid (H1.out.trans (hb2.mono H1.out.size))
      clear hb2
      go_wp2_with fail
      go_ret2
      exact ⟨rfl, H2.out⟩
end Go.Proofs.Ytamhijbnmhdhbaa
namespace Go.Proofs.Ytamhijbnmhdhbaa
open Go.ChangeShapes Go.WideShapes Go.ChangeAt Go.RowKit Go.Deep

def tickOf (l : List Smp) : Int := IntKind.u64.wrap (IntKind.u64.wrap (l[l.length - 1]!).at_ - IntKind.u64.wrap (l[0]!).at_)
def rateOf (l : List Smp) : Int × Int := if (incOf l).2 = 0 then (wrap64 (IntKind.u64.wrap (Int.tdiv (IntKind.u64.wrap (incOf l).1) (tickOf l))), 0) else (0, (incOf l).2)

theorem inc_zero {l : List Smp} (h : (incOf l).2 = 0) : rightOf l = true ∧ 2 ≤ l.length := by
  unfold incOf at h
  by_cases h1 : rightOf l = false
  · rw [if_pos h1] at h; cases h
  · rw [if_neg h1] at h
    by_cases h2 : l.length < 2
    · rw [if_pos h2] at h; cases h
    · exact ⟨by cases hr : rightOf l <;> simp_all, by omega⟩
theorem right_rise {l : List Smp} (h : rightOf l = true) : ∀ j, 1 ≤ j → j < l.length → (l[0]!).at_ < (l[j]!).at_ := by
  intro j h1 hj
  induction j with
  | zero => omega
  | succ j ih =>
    unfold rightOf at h
    have hg := List.all_eq_true.1 h (j + 1) (List.mem_range.2 hj)
    unfold goodAt at hg
    have hg := (Bool.and_eq_true_iff.1 hg).2
    rw [Bool.or_eq_true, decide_eq_true_eq, decide_eq_true_eq] at hg
    rcases hg with hg | hg
    · omega
    · rw [Nat.add_sub_cancel] at hg
      rcases j with _ | j
      · exact hg
      · have := ih (by omega) (by omega)
        omega
theorem tick_pos {l : List Smp} (h : (incOf l).2 = 0) (hb : ∀ x ∈ l, 0 ≤ x.at_ ∧ x.at_ ≤ 4611686018427387904) : tickOf l ≠ 0 := by
  obtain ⟨h1, h2⟩ := inc_zero h
  have hr := right_rise h1 (l.length - 1) (by omega) (by omega)
  have b0 := hb l[0]! (by rw [getElem!_pos l 0 (by omega)]; exact List.getElem_mem _)
  have b1 := hb l[l.length - 1]! (by rw [getElem!_pos l (l.length - 1) (by omega)]; exact List.getElem_mem _)
  unfold tickOf
  rw [IntWalk.u64_in (l[l.length - 1]!).at_ (by omega), IntWalk.u64_in (l[0]!).at_ (by omega), IntWalk.u64_in _ (by omega)]
  omega

set_option maxRecDepth 100000 in
set_option maxHeartbeats 2000000 in
theorem rate_any (l : List Smp) (ao : Option Addr) (n cap : Nat) (w : World) (hS : SlR (Flat Smp.cells) 2 w ao n cap l) (hb : ∀ x ∈ l, 0 ≤ x.at_ ∧ x.at_ ≤ 4611686018427387904) :
    Calls Try.prog 9 #[.slice ao n cap] w fun e w' => e = .returned (.tuple #[.int .i64 (rateOf l).1, .int .i64 (rateOf l).2]) ∧ Below w.heap.size w w' := by
  have hlen := hS.hlen
  have HI := Lib.hid (inc_any l ao n cap w hS)
  by_cases h0 : (incOf l).2 = 0
  · have hr : Hid (rateOf l = (wrap64 (IntKind.u64.wrap (Int.tdiv (IntKind.u64.wrap (incOf l).1) (tickOf l))), 0)) := if_pos h0
    have h2 := (inc_zero h0).2
    have ht := tick_pos h0 hb
    obtain ⟨k, rfl⟩ : ∃ k, n = k + 1 := ⟨n - 1, by omega⟩
    obtain ⟨b, off, rfl⟩ := hS.ptr (by decide) (by omega)
    have hc : ∀ j, j < k + 1 → w.cell? ⟨b, off + j * 2, none⟩ = some (.int .i64 (l[j]!).at_) := fun j hj => by
      have kx : j < l.length := by omega
      have := hS.flat kx 0 _ rfl
      rw [getElem!_pos l j kx]
      exact this
    have hcap := hS.hcap
    have hmax := hS.hmax
    have c0 := hc 0 (by omega)
    have c1 := hc k (by omega)
    simp only [Nat.zero_mul, Nat.add_zero] at c0
    have hbw : b < w.heap.size := blk c0
    have hT : tickOf l = IntKind.u64.wrap (IntKind.u64.wrap (l[k]!).at_ - IntKind.u64.wrap (l[0]!).at_) := by unfold tickOf; rw [hlen]; rfl
    obtain ⟨va, hva⟩ : ∃ v, (l[k]!).at_ = v := ⟨_, rfl⟩
    obtain ⟨vb, hvb⟩ : ∃ v, (l[0]!).at_ = v := ⟨_, rfl⟩
    rw [hva] at hT c1
    rw [hvb] at hT c0
    obtain ⟨T, hTe⟩ : ∃ T, tickOf l = T := ⟨_, rfl⟩
    rw [hTe] at hr ht hT
    obtain ⟨iv, hiv⟩ : ∃ v, (incOf l).1 = v := ⟨_, rfl⟩
    rw [h0, hiv] at HI
    rw [hiv] at hr
    have hd : decide (T = 0) = false := decide_eq_false ht
    have HT := Lib.hid hT
    have Hht := Lib.hid ht
    have hk : (k : Int) ≤ 9223372036854775806 := by unfold maxLen at hmax; omega
    clear hS hc h0 h2 hb hlen hT hTe hva hvb hiv hmax ht
    have k1 : IntKind.i64.wrap ((k : Int) + 1 - 1) = (k : Int) := by rw [IntWalk.i64_in _ (by omega)]; omega
    have k3 : k < k + 1 := by omega
    go_enter Try.func9, Try.ntmps9
    go_wp2_with fail
    refine HI.out.mono ?_
    rintro e w1 ⟨rfl, hb1⟩
    have c0 := (hb1.cell (p := ⟨b, off, none⟩) hbw).trans c0
    have c1 := (hb1.cell (p := ⟨b, off + k * 2, none⟩) hbw).trans c1
    have Hb1 := Lib.hid hb1
    clear hb1
    go_wp2_with fail
    go_quiet (fail)
    rw [← HT.out]
    have ht0 : ¬ T = 0 := Hht.out
    go_wp2_with fail
    go_ret2
    rw [hr.out]
    exact ⟨rfl, below_dn Hb1.out _⟩
  · have hr : Hid (rateOf l = (0, (incOf l).2)) := if_neg h0
    obtain ⟨x, hx⟩ : ∃ x, (incOf l).2 = x := ⟨_, rfl⟩
    rw [hx] at hr HI h0
    have hd : decide (x = 0) = false := decide_eq_false h0
    clear hS hb hlen hx
    go_enter Try.func9, Try.ntmps9
    go_wp2_with fail
    refine HI.out.mono ?_
    rintro e w1 ⟨rfl, hb1⟩
    have Hb1 := Lib.hid hb1
    clear hb1
    go_wp2_with fail
    go_ret2
    rw [hr.out]
    exact ⟨rfl, Hb1.out⟩
end Go.Proofs.Ytamhijbnmhdhbaa
