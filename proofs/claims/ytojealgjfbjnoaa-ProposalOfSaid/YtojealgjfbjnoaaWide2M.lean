/- Contracts of package wide: Add of one, Div, MulDiv, Cmp, Ratio. Condition: the words are of 64 bits. || Contracts of wide.MulDiv, Cmp and Ratio. Condition: the words are of 64 bits. -/
import Derived.Test.YtojealgjfbjnoaaDiv64
import Derived.Test.YtojealgjfbjnoaaStkM
import Derived.Laws.Externs
namespace Go.Proofs.Ytojealgjfbjnoaa
open Go.ChangeShapes Go.WideShapes Go.ChangeAt Go.RowKit Go.Deep

theorem wrow2 {w : World} {b : Nat} {t : TypeId} {a0 a1 : Value} (h : w.heap[b]? = some (.cells #[a0, a1] t (0, 0))) (x0 x1 : Value) :
    ((w.setCell ⟨b, 0, none⟩ x0).setCell ⟨b, 1, none⟩ x1).heap[b]? = some (.cells #[x0, x1] t (0, 0)) := by
  rw [row_setCell (row_setCell h x0) x1]; rfl

theorem run_Add64c (x y c : Nat) (w : World) (hx : x < 18446744073709551616) (hy : y < 18446744073709551616) (hc : c ≤ 1) :
    (callFunc 69 #[.int .u64 x, .int .u64 y, .int .u64 c]).run Try.prog w = .ok (.value (.tuple #[.int .u64 (((x + y + c) % 18446744073709551616 : Nat) : Int), .int .u64 (((x + y + c) / 18446744073709551616 : Nat) : Int)])) w := by
  rw [run_callFunc_extern Try.func69 (by kernel_rfl) (by kernel_rfl) (by kernel_rfl) (e := add64Entry) (by kernel_rfl), run_add64 x y c (by omega) (by omega) (by omega) (by omega)]
  rw [show ((x : Int) + y + c) % 18446744073709551616 = (((x + y + c) % 18446744073709551616 : Nat) : Int) from by omega, show ((x : Int) + y + c) / 18446744073709551616 = (((x + y + c) / 18446744073709551616 : Nat) : Int) from by omega]
  rfl

set_option maxRecDepth 100000 in
set_option maxHeartbeats 1000000 in
/-- One more: q of two words. -/
theorem wadd_one (q : Nat) (w : World) (h : q + 1 < 340282366920938463463374607431768211456) :
    Calls Try.prog 64 #[.agg #[.int .u64 ((q / 18446744073709551616 : Nat) : Int), .int .u64 ((q % 18446744073709551616 : Nat) : Int)], .agg #[.int .u64 0, .int .u64 1]] w fun e w' => e = .returned (.tuple #[.agg #[.int .u64 (((q + 1) / 18446744073709551616 : Nat) : Int), .int .u64 (((q + 1) % 18446744073709551616 : Nat) : Int)], .bool false]) ∧ Below w.heap.size w w' := by
  obtain ⟨a, ha⟩ : ∃ a, q / 18446744073709551616 = a := ⟨_, rfl⟩
  obtain ⟨b, hb⟩ : ∃ b, q % 18446744073709551616 = b := ⟨_, rfl⟩
  have h1 : ∀ w, (callFunc 69 #[.int .u64 b, .int .u64 1, .int .u64 0]).run Try.prog w = .ok (.value (.tuple #[.int .u64 (((b + 1 + 0) % 18446744073709551616 : Nat) : Int), .int .u64 (((b + 1 + 0) / 18446744073709551616 : Nat) : Int)])) w := fun w => run_Add64c b 1 0 w (by omega) (by omega) (by omega)
  obtain ⟨c, hc⟩ : ∃ c, (b + 1 + 0) / 18446744073709551616 = c := ⟨_, rfl⟩
  obtain ⟨d, hd⟩ : ∃ d, (b + 1 + 0) % 18446744073709551616 = d := ⟨_, rfl⟩
  rw [hc, hd] at h1
  obtain ⟨e, he⟩ : ∃ e, a + c = e := ⟨_, rfl⟩
  have h2 : ∀ w, (callFunc 69 #[.int .u64 a, .int .u64 0, .int .u64 c]).run Try.prog w = .ok (.value (.tuple #[.int .u64 (e : Int), .int .u64 0])) w := fun w => by
    have h3 := run_Add64c a 0 c w (by omega) (by omega) (by omega)
    rw [show (a + 0 + c) % 18446744073709551616 = e from by omega, show (a + 0 + c) / 18446744073709551616 = 0 from by omega] at h3
    exact h3
  rw [ha, hb, show (q + 1) / 18446744073709551616 = e from by omega, show (q + 1) % 18446744073709551616 = d from by omega]
  clear ha hb hc hd he h
  go_enter Try.func64, Try.ntmps64
  go_wp2_with fail
  exact bodyPost_ret (v := .tuple #[.agg #[.int .u64 e, .int .u64 d], .bool false]) (by simp [results, Try.results64, go_sem]) rfl ⟨rfl, (((Below.refl _ _).alloc (Nat.le_refl _) _).alloc (by simp) _).alloc (by simp; omega) _⟩

theorem div64_low (a b : Nat) (w : World) (ha : a < 18446744073709551616) (hb : 0 < b) (hb2 : b < 18446744073709551616) :
    Calls Try.prog 68 #[.int .u64 0, .int .u64 a, .int .u64 b] w fun e w' => e = .returned (.tuple #[.int .u64 ((a / b : Nat) : Int), .int .u64 ((a % b : Nat) : Int)]) ∧ Below w.heap.size w w' := by
  have h1 : ((b : Int) == 0) = false := by rw [beq_eq_false_iff_ne]; omega
  have h2 : (a : Int) / (b : Int) = ((a / b : Nat) : Int) := by simp
  have h3 : (a : Int) % (b : Int) = ((a % b : Nat) : Int) := by simp
  have h4 := Nat.div_le_self a b
  have h5 := Nat.mod_lt a hb
  obtain ⟨q, hq⟩ : ∃ q, a / b = q := ⟨_, rfl⟩
  obtain ⟨r, hr⟩ : ∃ r, a % b = r := ⟨_, rfl⟩
  rw [hq] at h2 h4 ⊢
  rw [hr] at h3 h5 ⊢
  clear hq hr
  have h6 : ¬ b ≤ 0 := by omega
  have h7 : decide (b ≤ 0) = false := decide_eq_false h6
  go_enter Try.func68, Try.ntmps68
  go_wp2_with fail
  go_quiet (fail)
  go_wp2_with fail
  go_ret2
  exact ⟨by rw [← h3]; rfl, below_drewN _ _ _⟩

theorem div64_any (hi lo y : Nat) (w : World) (h1 : hi < y) (hl : lo < 18446744073709551616) (hy : y < 18446744073709551616) :
    Calls Try.prog 68 #[.int .u64 hi, .int .u64 lo, .int .u64 y] w fun e w' => e = .returned (.tuple #[.int .u64 (((hi * 18446744073709551616 + lo) / y : Nat) : Int), .int .u64 (((hi * 18446744073709551616 + lo) % y : Nat) : Int)]) ∧ Below w.heap.size w w' := by
  by_cases h0 : hi = 0
  · subst h0
    rw [Nat.zero_mul, Nat.zero_add]
    exact div64_low lo y w hl h1 hy
  · exact div64_full hi lo y w (by omega) h1 hl hy

theorem word_hi (a q : Nat) (h : q < 18446744073709551616) : (a * 18446744073709551616 + q) / 18446744073709551616 = a := by omega
theorem word_lo (a q : Nat) (h : q < 18446744073709551616) : (a * 18446744073709551616 + q) % 18446744073709551616 = q := by omega

theorem two_words {N y : Nat} (hy : 0 < y) :
    N / y / 18446744073709551616 = N / 18446744073709551616 / y ∧
    N / y % 18446744073709551616 = (N / 18446744073709551616 % y * 18446744073709551616 + N % 18446744073709551616) / y ∧
    N % y = (N / 18446744073709551616 % y * 18446744073709551616 + N % 18446744073709551616) % y := by
  obtain ⟨h, hh⟩ : ∃ h, N / 18446744073709551616 = h := ⟨_, rfl⟩
  obtain ⟨l, hl⟩ : ∃ l, N % 18446744073709551616 = l := ⟨_, rfl⟩
  have hN : N = h * 18446744073709551616 + l := by omega
  have hl2 : l < 18446744073709551616 := by omega
  rw [hh, hl]
  have e1 := Nat.div_add_mod h y
  have e2 := Nat.mod_lt h hy
  obtain ⟨a, ha⟩ : ∃ a, h / y = a := ⟨_, rfl⟩
  obtain ⟨r, hr⟩ : ∃ r, h % y = r := ⟨_, rfl⟩
  rw [ha, hr] at e1
  rw [hr] at e2
  rw [ha, hr]
  have e3 : N = y * (a * 18446744073709551616) + (r * 18446744073709551616 + l) := by
    rw [hN, ← e1, Nat.add_mul, Nat.mul_assoc]
    omega
  have e4 : (r * 18446744073709551616 + l) / y < 18446744073709551616 := by
    rw [Nat.div_lt_iff_lt_mul hy]
    have : (r + 1) * 18446744073709551616 ≤ y * 18446744073709551616 := Nat.mul_le_mul_right _ e2
    rw [Nat.mul_comm 18446744073709551616 y]
    omega
  rw [e3, Nat.mul_add_div hy, Nat.mul_add_mod]
  obtain ⟨q, hq⟩ : ∃ q, (r * 18446744073709551616 + l) / y = q := ⟨_, rfl⟩
  rw [hq] at e4 ⊢
  rw [word_hi a q e4, word_lo a q e4]
  exact And.intro rfl (And.intro rfl rfl)

set_option maxRecDepth 100000 in
theorem wdiv_none (h l : Int) (w : World) :
    Calls Try.prog 63 #[.agg #[.int .u64 h, .int .u64 l], .int .u64 0] w fun e w' => e = .returned (.tuple #[.agg #[.int .u64 0, .int .u64 0], .int .u64 0, .int .i64 5]) ∧ Below w.heap.size w w' := by
  go_enter Try.func63, Try.ntmps63
  go_wp2_with fail
  exact bodyPost_ret (v := .tuple #[.agg #[.int .u64 0, .int .u64 0], .int .u64 0, .int .i64 5]) (by simp [results, Try.results63, go_sem]) rfl ⟨rfl, ((Below.refl _ _).alloc (Nat.le_refl _) _).alloc (by simp) _⟩

set_option maxRecDepth 100000 in
set_option maxHeartbeats 1000000 in
theorem wdiv_any (N y : Nat) (w : World) (hN : N < 340282366920938463463374607431768211456) (hy : 0 < y) (hy2 : y < 18446744073709551616) :
    Calls Try.prog 63 #[.agg #[.int .u64 ((N / 18446744073709551616 : Nat) : Int), .int .u64 ((N % 18446744073709551616 : Nat) : Int)], .int .u64 y] w fun e w' =>
      e = .returned (.tuple #[.agg #[.int .u64 ((N / y / 18446744073709551616 : Nat) : Int), .int .u64 ((N / y % 18446744073709551616 : Nat) : Int)], .int .u64 ((N % y : Nat) : Int), .int .i64 0]) ∧ Below w.heap.size w w' := by
  obtain ⟨e1, e2, e3⟩ := two_words (N := N) hy
  rw [e1, e2, e3]
  obtain ⟨h, hh⟩ : ∃ h, N / 18446744073709551616 = h := ⟨_, rfl⟩
  obtain ⟨l, hl⟩ : ∃ l, N % 18446744073709551616 = l := ⟨_, rfl⟩
  have hh2 : h < 18446744073709551616 := by omega
  have hl2 : l < 18446744073709551616 := by omega
  rw [hh, hl]
  have HD : Hid (∀ w1 : World, _) := fun w1 => div64_any (h % y) l y w1 (Nat.mod_lt _ hy) hl2 hy2
  have h0 : ((y : Int) == 0) = false := by rw [beq_eq_false_iff_ne]; omega
  have g1 : (h : Int) / (y : Int) = ((h / y : Nat) : Int) := by simp
  have g2 : (h : Int) % (y : Int) = ((h % y : Nat) : Int) := by simp
  have g3 := Nat.div_le_self h y
  have g4 := Nat.mod_lt h hy
  obtain ⟨a, ha⟩ : ∃ a, h / y = a := ⟨_, rfl⟩
  obtain ⟨b, hb⟩ : ∃ b, h % y = b := ⟨_, rfl⟩
  rw [ha] at g1 g3 ⊢
  rw [hb] at g2 g4 HD ⊢
  obtain ⟨q, hq⟩ : ∃ q, (b * 18446744073709551616 + l) / y = q := ⟨_, rfl⟩
  obtain ⟨r, hr⟩ : ∃ r, (b * 18446744073709551616 + l) % y = r := ⟨_, rfl⟩
  rw [hq, hr] at HD ⊢
  clear hq hr ha hb e1 e2 e3 hh hl hN
  go_enter Try.func63, Try.ntmps63
  go_wp2_with fail
  go_quiet (fail)
  go_wp2_with fail
  refine (HD.out _).mono ?_
  rintro e w1 ⟨rfl, hb1⟩
  have hr1 := (hb1.block (w.heap.size + 1) (by simp [World.drewN])).trans (heap_alloc3 w _ _)
  have hr0 := (hb1.block w.heap.size (by simp [World.drewN]; omega)).trans (heap_alloc2 w _ _)
  have k0 := cell_of_row w1 _ 0 _ _ _ hr1
  have k1 := cell_of_row w1 _ 1 _ _ _ hr1
  have z1 := row_free hr1
  have hz := hb1.size
  simp only [World.drewN, World.size_alloc] at hz
  have Hb1 := Lib.hid hb1
  clear hr1 hr0 hb1
  go_wp2_with fail
  refine bodyPost_ret (v := .tuple #[.agg #[.int .u64 a, .int .u64 q], .int .u64 r, .int .i64 0]) (by simp [results, Try.results63, go_sem, k0, k1]) rfl ⟨rfl, ?_⟩
  exact (((((Below.refl _ _).alloc (Nat.le_refl _) _).alloc (by simp) _).trans ((below_drewN _ _ _).trans (Hb1.out.mono (by simp [World.drewN]; omega)))).setCell (by simp) _).setCell (by simp) _
end Go.Proofs.Ytojealgjfbjnoaa
namespace Go.Proofs.Ytojealgjfbjnoaa
open Go.ChangeShapes Go.WideShapes Go.ChangeAt Go.RowKit Go.Deep

/-- A product's part, rounded up or down. -/
def mdOf (P y : Nat) (up : Bool) : Nat := if up = true ∧ 0 < P % y then P / y + 1 else P / y

set_option maxRecDepth 100000 in
theorem muldiv_none (a b : Nat) (up : Bool) (w : World) (ha : a < 18446744073709551616) (hb : b < 18446744073709551616) :
    Calls Try.prog 57 #[.int .u64 a, .int .u64 b, .int .u64 0, .bool up] w fun e w' => e = .returned (.tuple #[.int .u64 0, .int .i64 5]) ∧ Below w.heap.size w w' := by
  have HO := Lib.hid (wof_any a b ha hb w)
  clear ha hb
  go_enter Try.func57, Try.ntmps57
  go_wp2_with fail
  refine HO.out.mono ?_
  rintro e w1 ⟨rfl, hb1⟩
  have Hb1 := Lib.hid hb1
  clear hb1
  go_wp2_with fail
  refine (wdiv_none _ _ _).mono ?_
  rintro e w2 ⟨rfl, hb2⟩
  have Hb2 := Lib.hid (Hb1.out.trans (hb2.mono Hb1.out.size))
  clear hb2
  go_wp2_with fail
  go_ret2
  exact ⟨rfl, Hb2.out.alloc Hb2.out.size _⟩

set_option maxRecDepth 100000 in
set_option maxHeartbeats 1000000 in
theorem muldiv_any (a b y : Nat) (up : Bool) (w : World) (ha : a < 18446744073709551616) (hb : b < 18446744073709551616) (hy : 0 < y) (hy2 : y < 18446744073709551616) :
    Calls Try.prog 57 #[.int .u64 a, .int .u64 b, .int .u64 y, .bool up] w fun e w' =>
      e = .returned (if mdOf (a * b) y up < 18446744073709551616 then .tuple #[.int .u64 (mdOf (a * b) y up : Nat), .int .i64 0] else .tuple #[.int .u64 0, .int .i64 4]) ∧ Below w.heap.size w w' := by
  have HO := Lib.hid (wof_any a b ha hb w)
  have hP : a * b ≤ 18446744073709551615 * 18446744073709551615 := Nat.mul_le_mul (by omega) (by omega)
  have hM : Hid (mdOf (a * b) y up = if up = true ∧ 0 < a * b % y then a * b / y + 1 else a * b / y) := rfl
  obtain ⟨P, hPe⟩ : ∃ P, a * b = P := ⟨_, rfl⟩
  rw [hPe] at HO hP hM ⊢
  have HD : Hid (∀ w1 : World, _) := fun w1 => wdiv_any P y w1 (by omega) hy hy2
  have hql := Nat.div_le_self P y
  obtain ⟨q, hq⟩ : ∃ q, P / y = q := ⟨_, rfl⟩
  obtain ⟨r, hr⟩ : ∃ r, P % y = r := ⟨_, rfl⟩
  rw [hq] at HD hM hql
  rw [hr] at HD hM
  have HQ : Hid (∀ w1 : World, _) := fun w1 => wadd_one q w1 (by omega)
  obtain ⟨h, hh⟩ : ∃ h, q / 18446744073709551616 = h := ⟨_, rfl⟩
  obtain ⟨l, hl⟩ : ∃ l, q % 18446744073709551616 = l := ⟨_, rfl⟩
  rw [hh, hl] at HD HQ
  obtain ⟨h', hh'⟩ : ∃ h, (q + 1) / 18446744073709551616 = h := ⟨_, rfl⟩
  obtain ⟨l', hl'⟩ : ∃ l, (q + 1) % 18446744073709551616 = l := ⟨_, rfl⟩
  rw [hh', hl'] at HQ
  have G1 : Hid (∀ m, m = q → (h = 0 → m < 18446744073709551616 ∧ m = l) ∧ (0 < h → ¬ m < 18446744073709551616)) := fun m hm => by omega
  have G2 : Hid (∀ m, m = q + 1 → (h' = 0 → m < 18446744073709551616 ∧ m = l') ∧ (0 < h' → ¬ m < 18446744073709551616)) := fun m hm => by omega
  obtain ⟨V, hV⟩ : ∃ V : Value, (if mdOf P y up < 18446744073709551616 then .tuple #[.int .u64 (mdOf P y up : Nat), .int .i64 0] else .tuple #[.int .u64 0, .int .i64 4]) = V := ⟨_, rfl⟩
  rw [hV]
  have HV := Lib.hid hV
  clear hPe hP hql hq hr hh hl hh' hl' ha hb hy hy2 hV
  go_enter Try.func57, Try.ntmps57
  go_wp2_with fail
  refine HO.out.mono ?_
  rintro e w1 ⟨rfl, hb1⟩
  have Hb1 := Lib.hid hb1
  clear hb1
  go_wp2_with fail
  refine (HD.out _).mono ?_
  rintro e w2 ⟨rfl, hb2⟩
  have Hb2 := Lib.hid (Hb1.out.trans (hb2.mono Hb1.out.size))
  clear hb2
  by_cases hc : up = true ∧ 0 < r
  · obtain ⟨rfl, hr⟩ := hc
    have HM := Lib.hid (hM.out.trans (if_pos ⟨rfl, hr⟩))
    have hrd : decide (0 < r) = true := decide_eq_true hr
    go_wp2_with fail
    refine (HQ.out _).mono ?_
    rintro e w3 ⟨rfl, hb3⟩
    have hr3 := (hb3.block w2.heap.size (by simp)).trans (heap_alloc_new w2 _)
    have k0 := cell_of_row w3 _ 0 _ _ _ hr3
    have k1 := cell_of_row w3 _ 1 _ _ _ hr3
    have z1 := row_free hr3
    have Hr3 := Lib.hid hr3
    have hz := hb3.size
    simp only [World.size_alloc] at hz
    have Hb3 := Lib.hid ((Hb2.out.alloc Hb2.out.size (.cells #[.int .u64 h, .int .u64 l] 123)).trans (hb3.mono (by have := Hb2.out.size; simp; omega)))
    clear hr3 hb3
    by_cases h0 : h' = 0
    · subst h0
      have G3 := Lib.hid ((G2.out _ HM.out).1 rfl)
      go_wp2_with fail
      go_ret2
      refine ⟨?_, (Hb3.out.setCell Hb2.out.size _).setCell Hb2.out.size _⟩
      rw [← HV.out, if_pos G3.out.1, G3.out.2]
      rfl
    · have G3 := Lib.hid ((G2.out _ HM.out).2 (by omega))
      have hd : decide (0 < h') = true := decide_eq_true (by omega)
      go_wp2_with fail
      go_ret2
      refine ⟨?_, (Hb3.out.setCell Hb2.out.size _).setCell Hb2.out.size _⟩
      rw [← HV.out, if_neg G3.out]
      rfl
  · have HM := Lib.hid (hM.out.trans (if_neg hc))
    have hc2 : up = false ∨ (up = true ∧ r = 0) := by
      rcases up with _ | _
      · exact .inl rfl
      · exact .inr ⟨rfl, Nat.eq_zero_of_not_pos fun h => hc ⟨rfl, h⟩⟩
    clear hc
    by_cases h0 : h = 0
    · subst h0
      have G3 := Lib.hid ((G1.out _ HM.out).1 rfl)
      rcases hc2 with rfl | ⟨rfl, rfl⟩ <;>
      · go_wp2_with fail
        go_ret2
        refine ⟨?_, Hb2.out.alloc Hb2.out.size _⟩
        rw [← HV.out, if_pos G3.out.1, G3.out.2]
        rfl
    · have G3 := Lib.hid ((G1.out _ HM.out).2 (by omega))
      have hd : decide (0 < h) = true := decide_eq_true (by omega)
      rcases hc2 with rfl | ⟨rfl, rfl⟩ <;>
      · go_wp2_with fail
        go_ret2
        refine ⟨?_, Hb2.out.alloc Hb2.out.size _⟩
        rw [← HV.out, if_neg G3.out]
        rfl
end Go.Proofs.Ytojealgjfbjnoaa
