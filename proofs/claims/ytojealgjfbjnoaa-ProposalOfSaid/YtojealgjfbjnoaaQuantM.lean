/- Contracts of cmp.Compare and cmp.Or at the words of wide.Cmp, of wide.Cmp and Ratio. Condition: the words are of 64 bits. || Contracts of quant.Right, Add and Times. Condition: the quantities are right. -/
import Derived.Test.YtojealgjfbjnoaaWide2M
import Derived.Test.YtojealgjfbjnoaaHeadLitM
import Derived.Deep.QuietTactic
import Derived.Test.YtojealgjfbjnoaaRows
namespace Go.Proofs.Ytojealgjfbjnoaa
open Go.ChangeShapes Go.WideShapes Go.ChangeAt Go.RowKit Go.Deep

def cmpU (a b : Nat) : Int := if a < b then -1 else if b < a then 1 else 0

theorem isNaN_u64 (a : Int) (w : World) :
    Calls Try.prog 74 #[.int .u64 a] w fun e w' => e = .returned (.bool false) ∧ w' = w := by
  go_enter Try.func74, Try.ntmps74
  go_wp2
  go_ret
  exact ⟨ret_bool (by simp), rfl⟩

theorem compare_u64 (a b : Nat) (w : World) :
    Calls Try.prog 71 #[.int .u64 a, .int .u64 b] w fun e w' => e = .returned (.int .i64 (cmpU a b)) ∧ w' = w := by
  have hU : Hid (cmpU a b = if a < b then -1 else if b < a then 1 else 0) := rfl
  have HN : Hid (∀ (x : Int) (w1 : World), _) := fun x w1 => isNaN_u64 x w1
  rcases Nat.lt_trichotomy a b with h | h | h
  · have H1 := Lib.hid (hU.out.trans (if_pos h))
    have hd : decide (a < b) = true := decide_eq_true h
    go_enter Try.func71, Try.ntmps71
    go_wp2_with (go_at_call 74; refine (HN.out _ _).mono ?_; rintro e w' ⟨rfl, rfl⟩)
    go_ret
    exact ⟨by rw [H1.out] <;> rfl, rfl⟩
  · have H1 := Lib.hid (hU.out.trans ((if_neg (by omega)).trans (if_neg (by omega))))
    have hd : decide (a < b) = false := decide_eq_false (by omega)
    have hd2 : decide (b < a) = false := decide_eq_false (by omega)
    have h1 : ¬ a < b := by omega
    have h2 : ¬ b < a := by omega
    clear h
    go_enter Try.func71, Try.ntmps71
    go_wp2_with (go_at_call 74; refine (HN.out _ _).mono ?_; rintro e w' ⟨rfl, rfl⟩)
    go_ret
    exact ⟨by rw [H1.out] <;> rfl, rfl⟩
  · have H1 := Lib.hid (hU.out.trans ((if_neg (by omega)).trans (if_pos h)))
    have hd : decide (a < b) = false := decide_eq_false (by omega)
    have hd2 : decide (b < a) = true := decide_eq_true h
    have h1 : ¬ a < b := by omega
    go_enter Try.func71, Try.ntmps71
    go_wp2_with (go_at_call 74; refine (HN.out _ _).mono ?_; rintro e w' ⟨rfl, rfl⟩)
    go_ret
    exact ⟨by rw [H1.out] <;> rfl, rfl⟩

theorem or_two (b : Nat) (x y : Int) (w : World) (h0 : w.cell? ⟨b, 0, none⟩ = some (.int .i64 x)) (h1 : w.cell? ⟨b, 1, none⟩ = some (.int .i64 y)) :
    Calls Try.prog 70 #[.slice (some ⟨b, 0, none⟩) 2 2] w fun e w' => e = .returned (.int .i64 (if x = 0 then y else x)) ∧ w' = w := by
  have hU : Hid (∃ v, v = if x = 0 then y else x) := ⟨_, rfl⟩
  obtain ⟨v, hv⟩ := hU.out
  rw [← hv]
  have HV := Lib.hid hv
  clear hv hU
  go_enter Try.func70, Try.ntmps70
  go_wp2
  go_loopw [8] (fun i wr => w = wr ∧ ∃ k : Nat, k ≤ 2 ∧ i = .int .i64 k ∧ (k = 1 → x = 0) ∧ (k = 2 → x = 0 ∧ y = 0)) (fun i _ => 2 - (intOf i).toNat)
  case atStart => exact ⟨rfl, 0, by omega, rfl, by omega, by omega⟩
  case round =>
    obtain ⟨rfl, k, hk, rfl, hx, hy⟩ := hrel
    rcases (show k = 0 ∨ k = 1 ∨ k = 2 by omega) with rfl | rfl | rfl
    · clear hx hy
      by_cases hx : x = 0
      · subst hx
        go_wp2
        go_roundw
        case rel => exact ⟨trivial, 1, by omega, rfl, fun _ => trivial, by omega⟩
        case measure => simp [intOf]
      · have hxb : (x == 0) = false := by rw [beq_eq_false_iff_ne]; exact hx
        have HV2 := Lib.hid (HV.out.trans (if_neg hx))
        go_wp2
        go_ret
        exact ⟨by rw [HV2.out] <;> rfl, rfl⟩
    · obtain rfl := hx rfl
      have HV2 := Lib.hid (HV.out.trans (if_pos rfl))
      clear hx hy
      by_cases hy : y = 0
      · subst hy
        go_wp2
        go_roundw
        case rel => exact ⟨trivial, 2, by omega, rfl, by omega, fun _ => ⟨trivial, trivial⟩⟩
        case measure => simp [intOf]
      · have hyb : (y == 0) = false := by rw [beq_eq_false_iff_ne]; exact hy
        go_wp2
        go_ret
        exact ⟨by rw [HV2.out] <;> rfl, rfl⟩
    · obtain ⟨rfl, rfl⟩ := hy rfl
      have HV2 := Lib.hid (HV.out.trans (if_pos rfl))
      go_wp2
      go_ret
      exact ⟨by rw [HV2.out] <;> rfl, rfl⟩

theorem cells_third (w : World) (A B : Obj) (cur : Array Value) (e : TypeId) (j : Nat) : (((w.alloc A).alloc B).alloc (.cells cur e)).cell? ⟨w.heap.size + 1 + 1, j, none⟩ = cur[j]? := by
  have h := cell_new ((w.alloc A).alloc B) cur e j
  rw [Addr.add_lit, Nat.zero_add] at h
  simpa [World.size_alloc] using h

theorem or_cells (w : World) (A B : Obj) (x y : Value) (e : TypeId) (n : Nat) :
    ((((w.alloc A).alloc B).drewN n).alloc (.cells #[x, y] e)).cell? ⟨w.heap.size + 1 + 1, 0, none⟩ = some x ∧ ((((w.alloc A).alloc B).drewN n).alloc (.cells #[x, y] e)).cell? ⟨w.heap.size + 1 + 1, 1, none⟩ = some y :=
  ⟨cells_third w A B #[x, y] e 0, cells_third w A B #[x, y] e 1⟩

set_option maxRecDepth 100000 in
set_option maxHeartbeats 1000000 in
theorem wcmp_any (a b c d : Nat) (w : World) :
    Calls Try.prog 65 #[.agg #[.int .u64 a, .int .u64 b], .agg #[.int .u64 c, .int .u64 d]] w fun e w' =>
      e = .returned (.int .i64 (if cmpU a c = 0 then cmpU b d else cmpU a c)) ∧ Below w.heap.size w w' := by
  obtain ⟨v, hv⟩ : ∃ v, (if cmpU a c = 0 then cmpU b d else cmpU a c) = v := ⟨_, rfl⟩
  have HC : Hid (∀ (x y : Nat) (w1 : World), _) := fun x y w1 => compare_u64 x y w1
  have oc := fun n => or_cells w (.cells #[.int .u64 a, .int .u64 b] 123) (.cells #[.int .u64 c, .int .u64 d] 123) (.int .i64 (cmpU a c)) (.int .i64 (cmpU b d)) 3 n
  have HO : Hid (∀ n : Nat, _) := fun n => or_two (w.heap.size + 1 + 1) _ _ _ (oc n).1 (oc n).2
  rw [hv] at HO ⊢
  clear hv oc
  go_enter Try.func65, Try.ntmps65
  go_upto_region 1 with fail
  refine wp_region_head_lit 10 (fun w' => ∃ n : Nat, w' = World.drewN ((w.alloc (.cells #[.int .u64 a, .int .u64 b] 123)).alloc (.cells #[.int .u64 c, .int .u64 d] 123)) n) (by kernel_rfl) (by kernel_rfl) ⟨1, rfl⟩ ?_
  simp only [List.take_succ_cons, List.take_zero, List.drop_succ_cons, List.drop_zero]
  repeat (quiet_step (exact Calls.quiet_of_same (HC.out _ _ _)))
  refine wpQuiet_nil ?_
  intro _ hw'
  obtain ⟨nq, rfl⟩ := hw'
  go_wp2_with (go_at_call 70; refine (HO.out nq).mono ?_; rintro e w' ⟨rfl, rfl⟩)
  go_ret
  exact ⟨rfl, ((((Below.refl _ _).alloc (Nat.le_refl _) _).alloc (by simp) _).trans (below_drewN _ _ nq)).alloc (by simp [World.drewN]; omega) _⟩

theorem cmpU_le (a b : Nat) : cmpU a b ≤ 0 ↔ a ≤ b := by
  unfold cmpU
  rcases Nat.lt_trichotomy a b with h | h | h
  · rw [if_pos h]
    omega
  · rw [if_neg (by omega), if_neg (by omega)]
    omega
  · rw [if_neg (by omega), if_pos h]
    omega

/-- Two products, held against one another. -/
theorem cmp_words {P Q : Nat} (v : Int) (hv : v = if cmpU (P / 18446744073709551616) (Q / 18446744073709551616) = 0 then cmpU (P % 18446744073709551616) (Q % 18446744073709551616) else cmpU (P / 18446744073709551616) (Q / 18446744073709551616)) : v ≤ 0 ↔ P ≤ Q := by
  obtain ⟨a, ha⟩ : ∃ a, P / 18446744073709551616 = a := ⟨_, rfl⟩
  obtain ⟨b, hb⟩ : ∃ b, P % 18446744073709551616 = b := ⟨_, rfl⟩
  obtain ⟨c, hc⟩ : ∃ c, Q / 18446744073709551616 = c := ⟨_, rfl⟩
  obtain ⟨d, hd⟩ : ∃ d, Q % 18446744073709551616 = d := ⟨_, rfl⟩
  rw [ha, hb, hc, hd] at hv
  have h1 := cmpU_le b d
  have h2 := cmpU_le a c
  rw [hv]
  by_cases h : cmpU a c = 0
  · have h3 : a = c := by
      unfold cmpU at h
      apply Decidable.byContradiction
      intro hn
      rcases Nat.lt_or_gt_of_ne hn with h4 | h4
      · rw [if_pos h4] at h
        cases h
      · rw [if_neg (by omega), if_pos h4] at h
        cases h
    rw [if_pos h, h1]
    omega
  · have h3 : a ≠ c := by
      rintro rfl
      unfold cmpU at h
      simp at h
    rw [if_neg h, h2]
    omega

theorem ratio_none (a c : Nat) (w : World) (d : Int) : Calls Try.prog 58 #[.int .u64 a, .int .u64 0, .int .u64 c, .int .u64 d] w fun e w' => e = .returned (.tuple #[.int .i64 0, .int .i64 5]) ∧ Below w.heap.size w w' := by
  go_enter Try.func58, Try.ntmps58
  go_wp2_with fail
  go_ret2
  exact ⟨rfl, Below.refl _ _⟩

set_option maxRecDepth 100000 in
theorem ratio_any (a b c d : Nat) (w : World) (ha : a < 18446744073709551616) (hb : b < 18446744073709551616) (hc : c < 18446744073709551616) (hd : d < 18446744073709551616) (hb0 : 0 < b) (hd0 : 0 < d) :
    Calls Try.prog 58 #[.int .u64 a, .int .u64 b, .int .u64 c, .int .u64 d] w fun e w' => (∃ v : Int, e = .returned (.tuple #[.int .i64 v, .int .i64 0]) ∧ (v ≤ 0 ↔ a * d ≤ c * b)) ∧ Below w.heap.size w w' := by
  have H1 : Hid (∀ w1 : World, _) := fun w1 => wof_any a d ha hd w1
  have H2 : Hid (∀ w1 : World, _) := fun w1 => wof_any c b hc hb w1
  have H3 : Hid (∀ v : Int, _) := fun v => cmp_words (P := a * d) (Q := c * b) v
  obtain ⟨P, hP⟩ : ∃ P, a * d = P := ⟨_, rfl⟩
  obtain ⟨Q, hQ⟩ : ∃ Q, c * b = Q := ⟨_, rfl⟩
  rw [hP] at H1 H3 ⊢
  rw [hQ] at H2 H3 ⊢
  obtain ⟨p, hp⟩ : ∃ p, P / 18446744073709551616 = p := ⟨_, rfl⟩
  obtain ⟨p', hp'⟩ : ∃ p, P % 18446744073709551616 = p := ⟨_, rfl⟩
  obtain ⟨q, hq⟩ : ∃ p, Q / 18446744073709551616 = p := ⟨_, rfl⟩
  obtain ⟨q', hq'⟩ : ∃ p, Q % 18446744073709551616 = p := ⟨_, rfl⟩
  rw [hp, hp'] at H1 H3
  rw [hq, hq'] at H2 H3
  have e1 : ((b : Int) == 0) = false := by rw [beq_eq_false_iff_ne]; omega
  have e2 : ((d : Int) == 0) = false := by rw [beq_eq_false_iff_ne]; omega
  clear hp hp' hq hq' hP hQ ha hb hc hd
  go_enter Try.func58, Try.ntmps58
  go_wp2_with fail
  refine (H1.out _).mono ?_
  rintro e w1 ⟨rfl, hb1⟩
  have Hb1 := Lib.hid hb1
  clear hb1
  go_wp2_with fail
  refine (H2.out _).mono ?_
  rintro e w2 ⟨rfl, hb2⟩
  have Hb2 := Lib.hid (Hb1.out.trans (hb2.mono Hb1.out.size))
  clear hb2
  have HW := Lib.hid (wcmp_any p p' q q' w2)
  obtain ⟨v, hv⟩ : ∃ v, (if cmpU p q = 0 then cmpU p' q' else cmpU p q) = v := ⟨_, rfl⟩
  rw [hv] at HW
  have HV := Lib.hid (H3.out v hv.symm)
  clear hv
  go_wp2_with fail
  refine HW.out.mono ?_
  rintro e w3 ⟨rfl, hb3⟩
  have Hb3 := Lib.hid (Hb2.out.trans (hb3.mono Hb2.out.size))
  clear hb3
  go_wp2_with fail
  go_ret2
  exact ⟨⟨v, rfl, HV.out⟩, Hb3.out⟩
end Go.Proofs.Ytojealgjfbjnoaa
namespace Go.Proofs.Ytojealgjfbjnoaa
open Go.ChangeShapes Go.WideShapes Go.ChangeAt Go.RowKit Go.Deep

def okQ (m : Int) : Bool := decide (0 ≤ m ∧ m ≤ 9007199254740992)

theorem qright_any (m : Int) (w : World) : Calls Try.prog 17 #[.int .i64 m] w fun e w' => e = .returned (.bool (okQ m)) ∧ w' = w := by
  unfold okQ
  by_cases h1 : 0 ≤ m
  · by_cases h2 : m ≤ 9007199254740992
    all_goals
      go_enter Try.func17, Try.ntmps17
      go_wp2
      go_ret
      exact ⟨ret_bool (by simp [h1, h2]), rfl⟩
  · go_enter Try.func17, Try.ntmps17
    go_wp2
    go_ret
    exact ⟨ret_bool (by simp; omega), rfl⟩

def qaddOf (a b : Int) : Int × Int := if a + b ≤ 9007199254740992 then (a + b, 0) else (0, 3)

set_option maxRecDepth 100000 in
theorem qadd_any (a b : Int) (w : World) (ha : okQ a = true) (hb : okQ b = true) : Calls Try.prog 39 #[.int .i64 a, .int .i64 b] w fun e w' => e = .returned (.tuple #[.int .i64 (qaddOf a b).1, .int .i64 (qaddOf a b).2]) ∧ w' = w := by
  have ha' := ha
  have hb' := hb
  unfold okQ at ha' hb'
  have ha' := of_decide_eq_true ha'
  have hb' := of_decide_eq_true hb'
  have hw : IntKind.i64.wrap (a + b) = a + b := IntWalk.i64_in _ (by omega)
  have h3 : okQ (a + b) = decide (a + b ≤ 9007199254740992) := by unfold okQ; rw [decide_eq_decide]; omega
  have HA : Hid (∀ w1, Calls Try.prog 17 #[.int .i64 a] w1 fun e w' => e = .returned (.bool true) ∧ w' = w1) := fun w1 => ha ▸ qright_any a w1
  have HB : Hid (∀ w1, Calls Try.prog 17 #[.int .i64 b] w1 fun e w' => e = .returned (.bool true) ∧ w' = w1) := fun w1 => hb ▸ qright_any b w1
  have HC : Hid (∀ w1, Calls Try.prog 17 #[.int .i64 (a + b)] w1 fun e w' => e = .returned (.bool (okQ (a + b))) ∧ w' = w1) := fun w1 => qright_any (a + b) w1
  rw [h3] at HC
  clear ha hb h3
  unfold qaddOf
  by_cases h : a + b ≤ 9007199254740992
  · rw [if_pos h]
    rw [decide_eq_true h] at HC
    clear h
    go_enter Try.func39, Try.ntmps39
    go_wp2_with fail
    refine (HA.out _).mono ?_
    rintro e w1 ⟨rfl, rfl⟩
    go_wp2_with fail
    refine (HB.out _).mono ?_
    rintro e w2 ⟨rfl, rfl⟩
    go_wp2_with fail
    refine (HC.out _).mono ?_
    rintro e w3 ⟨rfl, rfl⟩
    go_wp2
    go_ret2
    exact ⟨rfl, rfl⟩
  · rw [if_neg h]
    rw [decide_eq_false h] at HC
    clear h
    go_enter Try.func39, Try.ntmps39
    go_wp2_with fail
    refine (HA.out _).mono ?_
    rintro e w1 ⟨rfl, rfl⟩
    go_wp2_with fail
    refine (HB.out _).mono ?_
    rintro e w2 ⟨rfl, rfl⟩
    go_wp2_with fail
    refine (HC.out _).mono ?_
    rintro e w3 ⟨rfl, rfl⟩
    go_wp2
    go_ret2
    exact ⟨rfl, rfl⟩
set_option maxRecDepth 100000 in
/-- So many times one: the product, or that it is out of range. -/
theorem qtimes_any (a n : Nat) (w : World) (ha : a ≤ 9007199254740992) (hn : n ≤ 1000000) :
    Calls Try.prog 31 #[.int .i64 a, .int .i64 n] w fun e w' => e = .returned (if a * n ≤ 9007199254740992 then .tuple #[.int .i64 ((a * n : Nat) : Int), .int .i64 0] else .tuple #[.int .i64 0, .int .i64 3]) ∧ Below w.heap.size w w' := by
  have HA : Hid (∀ w1, Calls Try.prog 17 #[.int .i64 a] w1 fun e w' => e = .returned (.bool true) ∧ w' = w1) := fun w1 => (show okQ a = true from decide_eq_true (by omega)) ▸ qright_any a w1
  have HO := Lib.hid (wof_any a n (by omega) (by omega) w)
  have w1 : IntKind.u64.wrap (a : Int) = (a : Int) := u64w _ (by omega)
  have w2 : IntKind.u64.wrap (n : Int) = (n : Int) := u64w _ (by omega)
  have hP : a * n ≤ 9007199254740992 * 1000000 := Nat.mul_le_mul ha hn
  obtain ⟨P, hPe⟩ : ∃ P, a * n = P := ⟨_, rfl⟩
  rw [hPe] at HO hP ⊢
  obtain ⟨V, hV⟩ : ∃ V : Value, (if P ≤ 9007199254740992 then .tuple #[.int .i64 (P : Int), .int .i64 0] else .tuple #[.int .i64 0, .int .i64 3]) = V := ⟨_, rfl⟩
  rw [hV]
  obtain ⟨h, hh⟩ : ∃ h, P / 18446744073709551616 = h := ⟨_, rfl⟩
  obtain ⟨l, hl⟩ : ∃ l, P % 18446744073709551616 = l := ⟨_, rfl⟩
  rw [hh, hl] at HO
  have hn0 : ¬ ((n : Int) < 0) := by omega
  have hn1 : decide ((n : Int) < 0) = false := decide_eq_false hn0
  by_cases hc : P ≤ 9007199254740992
  · rw [if_pos hc] at hV
    obtain rfl : h = 0 := by omega
    obtain rfl : l = P := by omega
    have HV := Lib.hid hV
    have hd : decide ((9007199254740992 : Int) < (l : Int)) = false := decide_eq_false (by omega)
    have w3 : IntKind.i64.wrap (l : Int) = (l : Int) := IntWalk.i64_in _ (by omega)
    have w4 : wrap64 (l : Int) = (l : Int) := IntWalk.wrap64_in _ (by omega)
    clear hh hl hV hP hPe ha hn
    have Hc := Lib.hid hc
    clear hc
    go_enter Try.func31, Try.ntmps31
    go_wp2_with (first | (go_at_call 17; refine (HA.out _).mono ?_; rintro e w' ⟨rfl, rfl⟩) | (go_at_call 48; refine HO.out.mono ?_; rintro e w3 ⟨rfl, hb3⟩; have Hb3 := Lib.hid hb3; clear hb3))
    go_ret2
    exact ⟨by rw [← HV.out]; rfl, Hb3.out.alloc Hb3.out.size _⟩
  · rw [if_neg hc] at hV
    have HV := Lib.hid hV
    have Hc := Lib.hid hc
    by_cases h0 : h = 0
    · subst h0
      have hd : decide ((9007199254740992 : Int) < (l : Int)) = true := decide_eq_true (by omega)
      clear hh hl hV hP hPe hc ha hn
      go_enter Try.func31, Try.ntmps31
      go_wp2_with (first | (go_at_call 17; refine (HA.out _).mono ?_; rintro e w' ⟨rfl, rfl⟩) | (go_at_call 48; refine HO.out.mono ?_; rintro e w3 ⟨rfl, hb3⟩; have Hb3 := Lib.hid hb3; clear hb3))
      go_ret2
      exact ⟨by rw [← HV.out]; rfl, Hb3.out.alloc Hb3.out.size _⟩
    · have hd : decide (0 < h) = true := decide_eq_true (by omega)
      clear hh hl hV hP hPe hc ha hn
      go_enter Try.func31, Try.ntmps31
      go_wp2_with (first | (go_at_call 17; refine (HA.out _).mono ?_; rintro e w' ⟨rfl, rfl⟩) | (go_at_call 48; refine HO.out.mono ?_; rintro e w3 ⟨rfl, hb3⟩; have Hb3 := Lib.hid hb3; clear hb3))
      go_ret2
      exact ⟨by rw [← HV.out]; rfl, Hb3.out.alloc Hb3.out.size _⟩
end Go.Proofs.Ytojealgjfbjnoaa
