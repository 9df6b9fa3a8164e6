/- Contracts of package wide: Add of one, Div, MulDiv, Cmp, Ratio. Condition: the words are of 64 bits. -/
import Derived.Test.YtkjononoaabclaaDiv64
import Derived.Test.YtkjononoaabclaaCells
import Derived.Laws.Externs
namespace Go.Proofs.Ytkjononoaabclaa
open Go.ChangeShapes Go.WideShapes Go.ChangeAt Go.RowKit Go.Deep

theorem wrow2 {w : World} {b : Nat} {t : TypeId} {a0 a1 : Value} (h : w.heap[b]? = some (.cells #[a0, a1] t (0, 0))) (x0 x1 : Value) :
    ((w.setCell ⟨b, 0, none⟩ x0).setCell ⟨b, 1, none⟩ x1).heap[b]? = some (.cells #[x0, x1] t (0, 0)) := by
  rw [row_setCell (row_setCell h x0) x1]; rfl

theorem run_Add64c (x y c : Nat) (w : World) (hx : x < 18446744073709551616) (hy : y < 18446744073709551616) (hc : c ≤ 1) :
    (callFunc 53 #[.int .u64 x, .int .u64 y, .int .u64 c]).run Try.prog w = .ok (.value (.tuple #[.int .u64 (((x + y + c) % 18446744073709551616 : Nat) : Int), .int .u64 (((x + y + c) / 18446744073709551616 : Nat) : Int)])) w := by
  rw [run_callFunc_extern Try.func53 (by kernel_rfl) (by kernel_rfl) (by kernel_rfl) (e := add64Entry) (by kernel_rfl), run_add64 x y c (by omega) (by omega) (by omega) (by omega)]
  rw [show ((x : Int) + y + c) % 18446744073709551616 = (((x + y + c) % 18446744073709551616 : Nat) : Int) from by omega, show ((x : Int) + y + c) / 18446744073709551616 = (((x + y + c) / 18446744073709551616 : Nat) : Int) from by omega]
  rfl

set_option maxRecDepth 100000 in
set_option maxHeartbeats 1000000 in
/-- One more: q of two words. -/
theorem wadd_one (q : Nat) (w : World) (h : q + 1 < 340282366920938463463374607431768211456) :
    Calls Try.prog 50 #[.agg #[.int .u64 ((q / 18446744073709551616 : Nat) : Int), .int .u64 ((q % 18446744073709551616 : Nat) : Int)], .agg #[.int .u64 0, .int .u64 1]] w fun e w' => e = .returned (.tuple #[.agg #[.int .u64 (((q + 1) / 18446744073709551616 : Nat) : Int), .int .u64 (((q + 1) % 18446744073709551616 : Nat) : Int)], .bool false]) ∧ Below w.heap.size w w' := by
  obtain ⟨a, ha⟩ : ∃ a, q / 18446744073709551616 = a := ⟨_, rfl⟩
  obtain ⟨b, hb⟩ : ∃ b, q % 18446744073709551616 = b := ⟨_, rfl⟩
  have h1 : ∀ w, (callFunc 53 #[.int .u64 b, .int .u64 1, .int .u64 0]).run Try.prog w = .ok (.value (.tuple #[.int .u64 (((b + 1 + 0) % 18446744073709551616 : Nat) : Int), .int .u64 (((b + 1 + 0) / 18446744073709551616 : Nat) : Int)])) w := fun w => run_Add64c b 1 0 w (by omega) (by omega) (by omega)
  obtain ⟨c, hc⟩ : ∃ c, (b + 1 + 0) / 18446744073709551616 = c := ⟨_, rfl⟩
  obtain ⟨d, hd⟩ : ∃ d, (b + 1 + 0) % 18446744073709551616 = d := ⟨_, rfl⟩
  rw [hc, hd] at h1
  obtain ⟨e, he⟩ : ∃ e, a + c = e := ⟨_, rfl⟩
  have h2 : ∀ w, (callFunc 53 #[.int .u64 a, .int .u64 0, .int .u64 c]).run Try.prog w = .ok (.value (.tuple #[.int .u64 (e : Int), .int .u64 0])) w := fun w => by
    have h3 := run_Add64c a 0 c w (by omega) (by omega) (by omega)
    rw [show (a + 0 + c) % 18446744073709551616 = e from by omega, show (a + 0 + c) / 18446744073709551616 = 0 from by omega] at h3
    exact h3
  rw [ha, hb, show (q + 1) / 18446744073709551616 = e from by omega, show (q + 1) % 18446744073709551616 = d from by omega]
  clear ha hb hc hd he h
  go_enter Try.func50, Try.ntmps50
  go_wp2_with fail
  exact bodyPost_ret (v := .tuple #[.agg #[.int .u64 e, .int .u64 d], .bool false]) (by simp [results, Try.results50, go_sem]) rfl ⟨rfl, (((Below.refl _ _).alloc (Nat.le_refl _) _).alloc (by simp) _).alloc (by simp; omega) _⟩

theorem div64_low (a b : Nat) (w : World) (ha : a < 18446744073709551616) (hb : 0 < b) (hb2 : b < 18446744073709551616) :
    Calls Try.prog 52 #[.int .u64 0, .int .u64 a, .int .u64 b] w fun e w' => e = .returned (.tuple #[.int .u64 ((a / b : Nat) : Int), .int .u64 ((a % b : Nat) : Int)]) ∧ Below w.heap.size w w' := by
  have h1 : ((b : Int) == 0) = false := by rw [beq_eq_false_iff_ne]; omega
  have h2 : (a : Int) / (b : Int) = ((a / b : Nat) : Int) := by simp
  have h3 : (a : Int) % (b : Int) = ((a % b : Nat) : Int) := by simp
  have h4 := Nat.div_le_self a b
  have h5 := Nat.mod_lt a hb
  obtain ⟨q, hq⟩ : ∃ q, a / b = q := ⟨_, rfl⟩
  obtain ⟨r, hr⟩ : ∃ r, a % b = r := ⟨_, rfl⟩
  rw [hq] at h2 h4 ⊢
  rw [hr] at h3 h5 ⊢
  clear hq hr
  have h6 : ¬ b ≤ 0 := by omega
  have h7 : decide (b ≤ 0) = false := decide_eq_false h6
  go_enter Try.func52, Try.ntmps52
  go_wp2_with fail
  go_quiet (fail)
  go_wp2_with fail
  go_ret2
  exact ⟨by rw [← h3]; rfl, below_drewN _ _ _⟩

theorem div64_any (hi lo y : Nat) (w : World) (h1 : hi < y) (hl : lo < 18446744073709551616) (hy : y < 18446744073709551616) :
    Calls Try.prog 52 #[.int .u64 hi, .int .u64 lo, .int .u64 y] w fun e w' => e = .returned (.tuple #[.int .u64 (((hi * 18446744073709551616 + lo) / y : Nat) : Int), .int .u64 (((hi * 18446744073709551616 + lo) % y : Nat) : Int)]) ∧ Below w.heap.size w w' := by
  by_cases h0 : hi = 0
  · subst h0
    rw [Nat.zero_mul, Nat.zero_add]
    exact div64_low lo y w hl h1 hy
  · exact div64_full hi lo y w (by omega) h1 hl hy

theorem word_hi (a q : Nat) (h : q < 18446744073709551616) : (a * 18446744073709551616 + q) / 18446744073709551616 = a := by omega
theorem word_lo (a q : Nat) (h : q < 18446744073709551616) : (a * 18446744073709551616 + q) % 18446744073709551616 = q := by omega

theorem two_words {N y : Nat} (hy : 0 < y) :
    N / y / 18446744073709551616 = N / 18446744073709551616 / y ∧
    N / y % 18446744073709551616 = (N / 18446744073709551616 % y * 18446744073709551616 + N % 18446744073709551616) / y ∧
    N % y = (N / 18446744073709551616 % y * 18446744073709551616 + N % 18446744073709551616) % y := by
  obtain ⟨h, hh⟩ : ∃ h, N / 18446744073709551616 = h := ⟨_, rfl⟩
  obtain ⟨l, hl⟩ : ∃ l, N % 18446744073709551616 = l := ⟨_, rfl⟩
  have hN : N = h * 18446744073709551616 + l := by omega
  have hl2 : l < 18446744073709551616 := by omega
  rw [hh, hl]
  have e1 := Nat.div_add_mod h y
  have e2 := Nat.mod_lt h hy
  obtain ⟨a, ha⟩ : ∃ a, h / y = a := ⟨_, rfl⟩
  obtain ⟨r, hr⟩ : ∃ r, h % y = r := ⟨_, rfl⟩
  rw [ha, hr] at e1
  rw [hr] at e2
  rw [ha, hr]
  have e3 : N = y * (a * 18446744073709551616) + (r * 18446744073709551616 + l) := by
    rw [hN, ← e1, Nat.add_mul, Nat.mul_assoc]
    omega
  have e4 : (r * 18446744073709551616 + l) / y < 18446744073709551616 := by
    rw [Nat.div_lt_iff_lt_mul hy]
    have : (r + 1) * 18446744073709551616 ≤ y * 18446744073709551616 := Nat.mul_le_mul_right _ e2
    rw [Nat.mul_comm 18446744073709551616 y]
    omega
  rw [e3, Nat.mul_add_div hy, Nat.mul_add_mod]
  obtain ⟨q, hq⟩ : ∃ q, (r * 18446744073709551616 + l) / y = q := ⟨_, rfl⟩
  rw [hq] at e4 ⊢
  rw [word_hi a q e4, word_lo a q e4]
  exact And.intro rfl (And.intro rfl rfl)

set_option maxRecDepth 100000 in
theorem wdiv_none (h l : Int) (w : World) :
    Calls Try.prog 49 #[.agg #[.int .u64 h, .int .u64 l], .int .u64 0] w fun e w' => e = .returned (.tuple #[.agg #[.int .u64 0, .int .u64 0], .int .u64 0, .int .i64 5]) ∧ Below w.heap.size w w' := by
  go_enter Try.func49, Try.ntmps49
  go_wp2_with fail
  exact bodyPost_ret (v := .tuple #[.agg #[.int .u64 0, .int .u64 0], .int .u64 0, .int .i64 5]) (by simp [results, Try.results49, go_sem]) rfl ⟨rfl, ((Below.refl _ _).alloc (Nat.le_refl _) _).alloc (by simp) _⟩

set_option maxRecDepth 100000 in
set_option maxHeartbeats 1000000 in
theorem wdiv_any (N y : Nat) (w : World) (hN : N < 340282366920938463463374607431768211456) (hy : 0 < y) (hy2 : y < 18446744073709551616) :
    Calls Try.prog 49 #[.agg #[.int .u64 ((N / 18446744073709551616 : Nat) : Int), .int .u64 ((N % 18446744073709551616 : Nat) : Int)], .int .u64 y] w fun e w' =>
      e = .returned (.tuple #[.agg #[.int .u64 ((N / y / 18446744073709551616 : Nat) : Int), .int .u64 ((N / y % 18446744073709551616 : Nat) : Int)], .int .u64 ((N % y : Nat) : Int), .int .i64 0]) ∧ Below w.heap.size w w' := by
  obtain ⟨e1, e2, e3⟩ := two_words (N := N) hy
  rw [e1, e2, e3]
  obtain ⟨h, hh⟩ : ∃ h, N / 18446744073709551616 = h := ⟨_, rfl⟩
  obtain ⟨l, hl⟩ : ∃ l, N % 18446744073709551616 = l := ⟨_, rfl⟩
  have hh2 : h < 18446744073709551616 := by omega
  have hl2 : l < 18446744073709551616 := by omega
  rw [hh, hl]
  have HD : Hid (∀ w1 : World, _) := fun w1 => div64_any (h % y) l y w1 (Nat.mod_lt _ hy) hl2 hy2
  have h0 : ((y : Int) == 0) = false := by rw [beq_eq_false_iff_ne]; omega
  have g1 : (h : Int) / (y : Int) = ((h / y : Nat) : Int) := by simp
  have g2 : (h : Int) % (y : Int) = ((h % y : Nat) : Int) := by simp
  have g3 := Nat.div_le_self h y
  have g4 := Nat.mod_lt h hy
  obtain ⟨a, ha⟩ : ∃ a, h / y = a := ⟨_, rfl⟩
  obtain ⟨b, hb⟩ : ∃ b, h % y = b := ⟨_, rfl⟩
  rw [ha] at g1 g3 ⊢
  rw [hb] at g2 g4 HD ⊢
  obtain ⟨q, hq⟩ : ∃ q, (b * 18446744073709551616 + l) / y = q := ⟨_, rfl⟩
  obtain ⟨r, hr⟩ : ∃ r, (b * 18446744073709551616 + l) % y = r := ⟨_, rfl⟩
  rw [hq, hr] at HD ⊢
  clear hq hr ha hb e1 e2 e3 hh hl hN
  go_enter Try.func49, Try.ntmps49
  go_wp2_with fail
  go_quiet (fail)
  go_wp2_with fail
  refine (HD.out _).mono ?_
  rintro e w1 ⟨rfl, hb1⟩
  have hr1 := (hb1.block (w.heap.size + 1) (by simp [World.drewN])).trans (heap_alloc3 w _ _)
  have hr0 := (hb1.block w.heap.size (by simp [World.drewN]; omega)).trans (heap_alloc2 w _ _)
  have k0 := cell_of_row w1 _ 0 _ _ _ hr1
  have k1 := cell_of_row w1 _ 1 _ _ _ hr1
  have z1 := row_free hr1
  have hz := hb1.size
  simp only [World.drewN, World.size_alloc] at hz
  have Hb1 := Lib.hid hb1
  clear hr1 hr0 hb1
  go_wp2_with fail
  refine bodyPost_ret (v := .tuple #[.agg #[.int .u64 a, .int .u64 q], .int .u64 r, .int .i64 0]) (by simp [results, Try.results49, go_sem, k0, k1]) rfl ⟨rfl, ?_⟩
  exact (((((Below.refl _ _).alloc (Nat.le_refl _) _).alloc (by simp) _).trans ((below_drewN _ _ _).trans (Hb1.out.mono (by simp [World.drewN]; omega)))).setCell (by simp) _).setCell (by simp) _
end Go.Proofs.Ytkjononoaabclaa
