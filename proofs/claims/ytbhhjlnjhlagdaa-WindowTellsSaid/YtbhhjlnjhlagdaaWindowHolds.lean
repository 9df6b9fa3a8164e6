/- WindowHolds holds: for every input the law returns true. No condition. -/
import Derived.Test.YtbhhjlnjhlagdaaWindowHoldsLift
import Derived.Test.YtbhhjlnjhlagdaaWindowLaw
namespace Go.Proofs.Ytbhhjlnjhlagdaa
open Go.ChangeShapes Go.WideShapes Go.ChangeAt Go.RowKit Go.Deep

theorem lnote_of (w : World) (c : List Value) (h : Rel (.pair (.int .i64) (.pair (.int .i64) .unit)) w c) : ∃ m, Flat LNote.cells w m c := by
  obtain ⟨c1, c2, rfl, _, ⟨n1, rfl, _⟩, c3, c4, rfl, _, ⟨n2, rfl, _⟩, rfl⟩ := h
  exact ⟨⟨n1, n2⟩, rfl⟩

/-- A new memory. -/
theorem memAt_new (w : World) : MemAt (w.alloc (.cells #[.slice none 0 0] 138)) w.heap.size w.heap.size (.slice none 0 0) [] :=
  ⟨heap_alloc_new w _, Nat.le_refl _, World.ownsRow_nil _ _ _ _⟩

theorem left_last {out : List LNote} {xs : List Note} (h : Mem out xs) (k : Nat) (hk : k < (leftOf out).length) (e : k + 1 = (leftOf out).length) : (leftOf out)[k].at_ = lastAt out := by
  rcases h.last with ⟨rfl, rfl⟩ | ⟨o, y, z, x, rfl, rfl, hq, hmax⟩
  · cases hk
  · have hl : lastAt (o ++ [y]) = y.at_ := by unfold lastAt; simp
    have hf : leftOf (o ++ [y]) = (o.filter fun x => decide (y.at_ - x.at_ ≤ 1800)) ++ [y] := by
      unfold leftOf
      rw [hl, List.filter_append]
      congr 1
      simp
    rw [hl]
    have hg : (leftOf (o ++ [y])).getLast? = some y := by rw [hf]; simp
    have e' : (leftOf (o ++ [y])).length - 1 = k := by omega
    rw [List.getLast?_eq_getElem?, e', List.getElem?_eq_getElem hk] at hg
    rw [Option.some.inj hg]

set_option maxRecDepth 100000 in
set_option maxHeartbeats 2000000 in
theorem windowHolds_core (ls : List LNote) (ao : Option Addr) (n cap : Nat) (there up down : Int) (w : World) (hS : SlR (Flat LNote.cells) 2 w ao n cap ls) :
    Calls Try.prog 9 #[.slice ao n cap, .int .i64 there, .int .i64 up, .int .i64 down] w fun e w' => e = .returned (.bool true) ∧ Below w.heap.size w w' := by
  go_enter Try.func9, Try.ntmps9
  go_wp2_with fail
  refine (lives21 w).mono ?_
  rintro e w1 ⟨rfl, hb1⟩
  by_cases hn : 100 < n
  · have hd : decide ((100 : Int) < (n : Int)) = true := decide_eq_true (by omega)
    have H1 := Lib.hid hb1
    clear hb1
    go_wp2_with fail
    refine (lives21 _).mono ?_
    rintro e w2 ⟨rfl, hb2⟩
    have H2 := Lib.hid (H1.out.trans (hb2.mono H1.out.size))
    clear hb2
    go_wp2_with fail
    go_ret
    exact ⟨rfl, H2.out⟩
  · have hd : decide ((100 : Int) < (n : Int)) = false := decide_eq_false (by omega)
    have hn' : n ≤ 100 := by omega
    clear hn
    have hS := hS.flatKeeps (Keeps.below hb1)
    have H1 := Lib.hid hb1
    clear hb1
    go_wp2_with fail
    refine (new_any w1).mono ?_
    rintro e w2 ⟨rfl, rfl⟩
    have hb2 : Below w1.heap.size w1 (w1.alloc (.cells #[.slice none 0 0] 138)) := (Below.refl _ _).alloc (Nat.le_refl _) _
    have HK := Lib.hid (kept_any w1.heap.size (.slice none 0 0) ls ao n cap w1 _ hS hb2 hn' (memAt_new w1))
    clear hS hb2
    go_wp2_with fail
    refine HK.out.mono ?_
    rintro e w3 ⟨al, nl, cl, v', xs, rfl, hM, hAt, hxl, hSL, hb3⟩
    obtain ⟨out, ho⟩ : ∃ out, ls.foldl accept [] = out := ⟨_, rfl⟩
    rw [ho] at hM hSL
    have H3 := Lib.hid (H1.out.trans (hb3.mono H1.out.size))
    have HM := Lib.hid hM
    clear ho hb3 HK
    have hnl := hSL.hlen
    have hcm := hSL.hmax
    have hlc := hSL.hcap
    unfold maxLen at hcm
    by_cases hz : nl = 0
    · subst hz
      go_wp2_with fail
      go_ret
      exact ⟨rfl, H3.out⟩
    · obtain ⟨b2, o2, rfl⟩ := hSL.ptr (by decide) (by omega)
      have kl : nl - 1 < (leftOf out).length := by rw [hnl]; omega
      have d1 := hSL.flat kl 0 _ rfl
      rw [Nat.add_zero, left_last hM (nl - 1) kl (by omega)] at d1
      have hne : out ≠ [] := fun e => by rw [e] at hnl; exact hz hnl.symm
      obtain ⟨q, hq, hql⟩ := hM.last_mem hne
      have hg := hM.good q hq
      rw [hql] at hg
      have Hi := Lib.hid (within_last hM hne)
      have h0 : ∀ x ∈ xs, 0 ≤ x.at_ := fun x hx => by obtain ⟨y, hy, e, _⟩ := (hM.stays hx).1; have := hM.good y (List.mem_filter.1 hy).1; omega
      have h0' : ∀ x ∈ leftOf out, 0 ≤ x.at_ := fun x hx => (hM.good x (List.mem_filter.1 hx).1).1
      obtain ⟨now, hnow⟩ : ∃ now, lastAt out = now := ⟨_, rfl⟩
      rw [hnow] at d1 hg Hi
      have HX := Lib.hid (stable_any w1.heap.size w1.heap.size v' xs now there up down w3 hAt (by omega) (by omega) h0)
      have HW : Hid (∀ wx win, Below w3.heap.size w3 wx → _) := fun wx win hb => within3_any (leftOf out) _ nl cl now win wx (hSL.flatKeeps (Keeps.below hb)) (by omega) h0'
      have hd1 : ((nl : Int) == 0) = false := by rw [beq_eq_false_iff_ne]; omega
      have hd2 : (1 : Int) ≤ (nl : Int) := by omega
      have hd3 : (nl : Int) - 1 < (nl : Int) := by omega
      have hd4 : ((nl : Int) - 1).toNat = nl - 1 := by omega
      have hd5 : IntKind.i64.wrap ((nl : Int) - 1) = (nl : Int) - 1 := IntWalk.i64_in _ (by omega)
      have hr1 := Lib.hid (Hi.out (spanOf up))
      have hr2 := Lib.hid (Hi.out (spanOf down))
      have HST := Lib.hid (stable_same HM.out now there up down)
      obtain ⟨p1, hp1⟩ : ∃ p, withinOf now (spanOf up) (leftOf out) = p := ⟨_, rfl⟩
      obtain ⟨p2, hp2⟩ : ∃ p, withinOf now (spanOf down) (leftOf out) = p := ⟨_, rfl⟩
      have Hp1 := Lib.hid hp1
      have Hp2 := Lib.hid hp2
      rw [hp1] at hr1 HST
      rw [hp2] at hr2 HST
      obtain ⟨lo1, hi1, s1⟩ := p1
      obtain ⟨lo2, hi2, s2⟩ := p2
      dsimp only at hr1 hr2 HST
      obtain rfl : s1 = true := hr1.out
      obtain rfl : s2 = true := hr2.out
      have hfin := holds_plain lo1 hi2 there
      rw [← HST.out] at hfin
      obtain ⟨hf1, hf2⟩ := hfin
      obtain ⟨st, hst⟩ : ∃ st, stableOf xs now there up down = st := ⟨_, rfl⟩
      rw [hst] at hf1 hf2 HX
      clear hp1 hp2 hr1 hr2 HST hst hql hq hne hM hSL hAt h0 h0' hnow Hi kl hnl hxl
      go_wp2_with fail
      refine HX.out.mono ?_
      rintro e w4 ⟨rfl, hb4⟩
      go_wp2_with fail
      refine (HW.out w4 up hb4).mono ?_
      rintro e w5 ⟨rfl, hb5⟩
      rw [Hp1.out]
      have hb5' := hb4.trans (hb5.mono hb4.size)
      have H5 := Lib.hid hb5'
      clear hb4 hb5 hb5'
      go_wp2_with fail
      refine (HW.out w5 down H5.out).mono ?_
      rintro e w6 ⟨rfl, hb6⟩
      rw [Hp2.out]
      have H6 := Lib.hid (H3.out.trans ((H5.out.trans (hb6.mono H5.out.size)).mono H3.out.size))
      clear hb6
      have hf1' := of_decide_eq_true hf1
      have hf2' := of_decide_eq_true hf2
      go_wp2_with fail
      all_goals
        go_ret
        exact ⟨ret_bool (by simp; omega), H6.out⟩

theorem WindowHolds_holds : Rows.WindowHoldsSaid := lWindowHolds.over fun ao n cap there up down w h0 _ _ _ => by
  obtain ⟨_, _, _, ls, e0, hS⟩ := SlR.of_rel h0 (fun c hc => lnote_of w c hc)
  simp [Value.cells] at e0
  obtain ⟨rfl, rfl, rfl⟩ := e0
  exact windowHolds_core ls _ _ _ there up down w hS
end Go.Proofs.Ytbhhjlnjhlagdaa
