/- The stable sort at any elements. Condition: the row lies in a block of its own. || The stable sort of no elements; elements with their places. No condition. -/
import Derived.Test.YtjncoloedakpoaaDoorStOb8
namespace Go.Proofs.YtjncoloedakpoaaDoor
open Go.ChangeShapes Go.WideShapes Go.ChangeAt Go.RowKit Go.Deep

theorem mid_parts {α : Type} {tag : α → Nat} {T : α → α → Prop} {D d : List α} {bs k x m b : Nat} (hbs : 0 < bs) (hD : D.Pairwise fun x y => tag x < tag y) (h : Ph2 T D d bs k) (hx : x = k * (2 * bs)) (hm : x + bs = m)
    (hb : b = x + 2 * bs ∨ (b = D.length ∧ D.length ≤ x + 2 * bs)) (hmb : m < b) (hbn : b ≤ D.length) :
    ∃ P L R S, d = P ++ L ++ R ++ S ∧ P.length = x ∧ x + L.length = m ∧ m + R.length = b ∧ 0 < L.length ∧ 0 < R.length ∧ L.Pairwise T ∧ R.Pairwise T ∧ (∀ x ∈ L, ∀ y ∈ R, tag x < tag y) ∧
      ∀ M, MrgOK T L R M → Ph2 T D (P ++ M ++ S) bs (k + 1) := by
  subst hx hm
  have hk1 : (k + 1) * (2 * bs) = k * (2 * bs) + 2 * bs := by rw [Nat.add_mul, Nat.one_mul]
  rw [← hk1] at hb
  obtain ⟨p1, p2, p3, p4, p5⟩ := ph2_pre hD h b hb (by omega)
  have hl := h.1
  refine ⟨d.take (k * (2 * bs)), segL d (k * (2 * bs)) (k * (2 * bs) + bs), segL d (k * (2 * bs) + bs) b, d.drop b, ?_, by simp; omega, ?_, ?_, ?_, ?_, p1, p2, p3, fun M hM => ph2_step hbs h hb (by omega) hbn p4 p5 hM⟩
  · conv => lhs; rw [← take_seg_drop d (show k * (2 * bs) ≤ b by omega)]
    rw [← segL_append d (show k * (2 * bs) ≤ k * (2 * bs) + bs by omega) (by omega : _ ≤ b)]
    simp
  · rw [segL_len d (by omega)]; omega
  · rw [segL_len d (by omega)]; omega
  · rw [segL_len d (by omega)]; omega
  · rw [segL_len d (by omega)]; omega

set_option maxRecDepth 100000 in
set_option maxHeartbeats 1500000 in
theorem stable_Ob (D : List TOb) (rest : List Value) (gb n cap : Nat) (w : World) (hR : SRowK tOb 44 w w gb rest D) (hn : D.length = n) (hcm : n < 1152921504606846976) (hD : D.Pairwise fun x y => x.2 < y.2) :
    Calls Tryd.prog 59 #[.slice (some ⟨gb, 0, none⟩) n cap, .int .i64 n, .func (.func 49) #[] #[]] w fun e w' => e = .returned (.tuple #[]) ∧ ∃ d', SRowK tOb 44 w w' gb rest d' ∧ d'.Perm D ∧ d'.Pairwise TOOb := by
  have HR := Lib.hid hR
  have HD := Lib.hid hD
  have HN := Lib.hid hn
  clear hR hD hn
  go_enter Tryd.func59, Tryd.ntmps59
  go_wp2_with fail
  go_loopw [7, 8] (fun va vb wr => ∃ (k x y : Nat) (d1 : List TOb), va = .int .i64 x ∧ vb = .int .i64 y ∧ Hid (y = x + 20) ∧ x ≤ n ∧ Hid (x = k * 20) ∧ Hid (SRowK tOb 44 w wr gb rest d1) ∧ Hid (Ph1 TOOb D d1 k)) (fun _ vb _ => n + 20 - (intOf vb).toNat)
  case atStart => exact ⟨0, 0, 20, D, rfl, rfl, rfl, Nat.zero_le _, rfl, HR.out, ph1_start D⟩
  case round =>
    obtain ⟨k, x, y, d1, rfl, rfl, hy, hxn, hx, hS, hP⟩ := hrel
    have hl1 : Hid (d1.length = n) := by have := hP.out.1; have := HN.out; show _ = _; omega
    have hseg : ∀ b, (segL d1 x b).Pairwise fun x y => x.2 < y.2 := fun b => by
      rw [hx.out, seg_of_drop hP.out.2.1]
      exact segL_pair HD.out _ _
    have HSeg := Lib.hid hseg
    have hxy : x ≤ y := by have := hy.out; omega
    obtain ⟨y2, hy2⟩ : ∃ y2, y + 20 = y2 := ⟨_, rfl⟩
    have f0 : (y : Int) + 20 = (y2 : Int) := by omega
    have HY2 := Lib.hid hy2
    have hS' := hS
    clear hseg hy2
    by_cases hlt : y ≤ n
    · have hIn := Lib.hid (insertion_Ob d1 rest gb n cap x y wr hS.out.self hl1.out (by omega) hxy hlt (HSeg.out y))
      go_wp2_with fail
      refine hIn.out.mono ?_
      rintro e w2 ⟨rfl, d2, h2, ho⟩
      have HS2 := Lib.hid (hS'.out.trans h2)
      have HP2 : Hid (Ph1 TOOb D d2 (k + 1)) := by
        have hh := hP.out
        refine ph1_step hh (by have := hx.out; have := hy.out; have := HN.out; omega) ?_
        rw [show (k + 1) * 20 = y by have := hx.out; have := hy.out; omega, ← hx.out]
        exact ho
      clear h2 ho
      go_wp2_with fail
      go_roundw
      case rel => exact ⟨k + 1, y, y2, d2, rfl, rfl, HY2.out.symm, hlt, by have := hx.out; have := hy.out; show _ = _; omega, HS2.out, HP2.out⟩
      case measure => have := HY2.out; simp [intOf]; omega
    · have hIn := Lib.hid (insertion_Ob d1 rest gb n cap x n wr hS.out.self hl1.out (by omega) hxn (Nat.le_refl _) (HSeg.out n))
      go_wp2_with fail
      refine hIn.out.mono ?_
      rintro e w2 ⟨rfl, d2, h2, ho⟩
      have HS2 := Lib.hid (hS'.out.trans h2)
      have HB : Hid (Blks TOOb D d2 20) := by
        have hh := hP.out
        refine ph1_end hh (by have := hx.out; have := HN.out; omega) (by have := hx.out; have := hy.out; have := HN.out; omega) ?_
        rw [HN.out, ← hx.out]
        exact ho
      clear h2 ho hP hS' hS hl1 HSeg
      go_wp2_with fail
      go_loopw [6, 7, 8, 9] (fun v6 _ _ _ wr => ∃ (bs : Nat) (d3 : List TOb), v6 = .int .i64 bs ∧ 0 < bs ∧ bs ≤ 2 * n + 20 ∧ Hid (SRowK tOb 44 w wr gb rest d3) ∧ Hid (Blks TOOb D d3 bs)) (fun v6 _ _ _ _ => n - (intOf v6).toNat)
      case atStart => exact ⟨20, d2, rfl, by omega, by omega, HS2.out, HB.out⟩
      case round =>
        obtain ⟨bs, d3, rfl, hb0, hb2, hS3, hB3⟩ := hrel
        by_cases hbn : bs < n
        · obtain ⟨b2, hb2e⟩ : ∃ b2, 2 * bs = b2 := ⟨_, rfl⟩
          have f1 : (2 : Int) * (bs : Int) = (b2 : Int) := by omega
          have HB2 := Lib.hid hb2e
          have hb2n : b2 < 2 * n := by omega
          have hb2p : 0 < b2 := by omega
          have hP3 := Lib.hid (ph2_start hB3.out)
          have hS3' := hS3
          clear hb2e
          obtain ⟨wp, rfl⟩ : ∃ wp : World, wp = wr := ⟨_, rfl⟩
          go_wp2_with fail
          go_loopw [7, 8] (fun va vb wr => ∃ (k x y : Nat) (d4 : List TOb), va = .int .i64 x ∧ vb = .int .i64 y ∧ Hid (y = x + b2) ∧ x ≤ n ∧ Hid (x = k * (2 * bs)) ∧ Hid (SRowK tOb 44 w wr gb rest d4) ∧ Hid (Ph2 TOOb D d4 bs k)) (fun _ vb _ => n + b2 - (intOf vb).toNat)
          case atStart => exact ⟨0, 0, b2, d3, rfl, rfl, by show _ = _; omega, Nat.zero_le _, by show _ = _; omega, hS3'.out, hP3.out⟩
          case round =>
            obtain ⟨k', x', y', d4, rfl, rfl, hy', hxn', hx', hS4, hP4⟩ := hrel
            obtain ⟨wq, rfl⟩ : ∃ wq : World, wq = wr := ⟨_, rfl⟩
            obtain ⟨m, hm⟩ : ∃ m, x' + bs = m := ⟨_, rfl⟩
            have f2 : (x' : Int) + (bs : Int) = (m : Int) := by omega
            have hk1 : (k' + 1) * (2 * bs) = k' * (2 * bs) + 2 * bs := by rw [Nat.add_mul, Nat.one_mul]
            have HK := Lib.hid hk1
            have HM0 := Lib.hid hm
            have hxm : x' ≤ m := by omega
            have hmx : m < x' + n := by omega
            have hyx : y' < x' + 2 * n := by have := hy'.out; omega
            have hyp : x' < y' := by have := hy'.out; omega
            clear hk1 hm
            by_cases hlt' : y' ≤ n
            · obtain ⟨P, L, R, S, hd, q1, q2, q3, q4, q5, q6, q7, q8, q9⟩ := mid_parts (b := y') hb0 HD.out hP4.out hx'.out HM0.out (.inl (by have := hy'.out; have := HB2.out; omega)) (by have := hy'.out; have := HB2.out; have := HM0.out; omega) (by rw [HN.out]; omega)
              have hl : (P ++ L ++ R ++ S).length = n := by rw [← hd, hP4.out.1, HN.out]
              have hrow := hS4.out
              rw [hd] at hrow
              have HI := Lib.hid (symMerge_Ob (y' - x') P L R S rest gb n cap x' m y' wq (Nat.le_refl _) hrow.self hl (by omega) q1 q2 q3 q4 q5 q6 q7 q8)
              have HQ := Lib.hid q9
              have HW := Lib.hid hrow
              clear hd q1 q2 q3 q4 q5 q6 q7 q8 q9 hl hrow
              obtain ⟨y2, hy2⟩ : ∃ y2, y' + b2 = y2 := ⟨_, rfl⟩
              have f3 : (y' : Int) + (b2 : Int) = (y2 : Int) := by omega
              have HY3 := Lib.hid hy2
              clear hy2
              go_wp2_with fail
              refine HI.out.mono ?_
              rintro e w4 ⟨rfl, M, hM, h4⟩
              have HS5 := Lib.hid (HW.out.trans h4)
              have HP5 := Lib.hid (HQ.out M hM)
              clear hM h4
              go_wp2_with fail
              go_roundw
              case rel => exact ⟨k' + 1, y', y2, _, rfl, rfl, HY3.out.symm, hlt', by have := hx'.out; have := hy'.out; have := HB2.out; have := HK.out; show _ = _; omega, HS5.out, HP5.out⟩
              case measure => have := HY3.out; simp [intOf]; omega
            · by_cases hmn : m < n
              · obtain ⟨P, L, R, S, hd, q1, q2, q3, q4, q5, q6, q7, q8, q9⟩ := mid_parts (b := n) hb0 HD.out hP4.out hx'.out HM0.out (.inr ⟨HN.out.symm, by have := hy'.out; have := HB2.out; rw [HN.out]; omega⟩) hmn (by rw [HN.out]; omega)
                have hl : (P ++ L ++ R ++ S).length = n := by rw [← hd, hP4.out.1, HN.out]
                have hrow := hS4.out
                rw [hd] at hrow
                have HI := Lib.hid (symMerge_Ob (n - x') P L R S rest gb n cap x' m n wq (Nat.le_refl _) hrow.self hl (by omega) q1 q2 q3 q4 q5 q6 q7 q8)
                have HQ := Lib.hid q9
                have HW := Lib.hid hrow
                clear hd q1 q2 q3 q4 q5 q6 q7 q8 q9 hl hrow
                have f4 : (bs : Int) * 2 = (b2 : Int) := by have := HB2.out; omega
                go_wp2_with fail
                refine HI.out.mono ?_
                rintro e w4 ⟨rfl, M, hM, h4⟩
                have HS5 := Lib.hid (HW.out.trans h4)
                have HP5 : Hid (Blks TOOb D (P ++ M ++ S) b2) := by rw [← HB2.out]; exact ph2_end (HQ.out M hM) (by have := HK.out; have := hx'.out; have := hy'.out; have := HB2.out; rw [HN.out]; omega)
                clear hM h4
                go_wp2_with fail
                go_roundw
                case rel => exact ⟨b2, _, rfl, by omega, by omega, HS5.out, HP5.out⟩
                case measure => have := HB2.out; simp [intOf]; omega
              · have HP5 : Hid (Blks TOOb D d4 b2) := by rw [← HB2.out]; exact ph2_skip hP4.out (by have := hx'.out; have := HM0.out; rw [HN.out]; omega)
                have f4 : (bs : Int) * 2 = (b2 : Int) := by have := HB2.out; omega
                have hS5 := hS4
                go_wp2_with fail
                go_roundw
                case rel => exact ⟨b2, d4, rfl, by omega, by omega, hS5.out, HP5.out⟩
                case measure => have := HB2.out; simp [intOf]; omega
        · have HE := Lib.hid (blks_end hB3.out (by rw [HN.out]; omega))
          have hS4 := hS3
          go_wp2_with fail
          refine bodyPost_end (v := .tuple #[]) (by simp [results, Tryd.results59, go_sem]) rfl ?_
          exact ⟨rfl, d3, hS4.out, HE.out.1, HE.out.2⟩

set_option maxRecDepth 100000 in
theorem sortStable_Ob (D : List TOb) (rest : List Value) (gb n cap : Nat) (w : World) (hR : SRowK tOb 44 w w gb rest D) (hn : D.length = n) (hcm : n < 1152921504606846976) (hD : D.Pairwise fun x y => x.2 < y.2) :
    Calls Tryd.prog 48 #[.slice (some ⟨gb, 0, none⟩) n cap, .func (.func 49) #[] #[]] w fun e w' => e = .returned (.tuple #[]) ∧ ∃ d', SRowK tOb 44 w w' gb rest d' ∧ d'.Perm D ∧ d'.Pairwise TOOb := by
  have HI := Lib.hid (stable_Ob D rest gb n cap w hR hn hcm hD)
  clear hR hn hD
  go_enter Tryd.func48, Tryd.ntmps48
  go_wp2_with fail
  refine HI.out.mono ?_
  rintro e w4 ⟨rfl, d', h1, h2, h3⟩
  have H1 := Lib.hid h1
  clear h1
  go_wp2_with fail
  refine bodyPost_end (v := .tuple #[]) (by simp [results, Tryd.results48, go_sem]) rfl ?_
  exact ⟨rfl, d', H1.out, h2, h3⟩
end Go.Proofs.YtjncoloedakpoaaDoor
namespace Go.Proofs.YtjncoloedakpoaaDoor
open Go.ChangeShapes Go.WideShapes Go.ChangeAt Go.RowKit Go.Deep

set_option maxRecDepth 100000 in
theorem insertion_nil_Ob (w : World) : Calls Tryd.prog 67 #[.slice none 0 0, .int .i64 0, .int .i64 0, .func (.func 49) #[] #[]] w fun e w' => e = .returned (.tuple #[]) ∧ w' = w := by
  go_enter Tryd.func67, Tryd.ntmps67
  go_wp2_with fail
  go_loopw [8, 9] (fun vi _ wr => vi = .int .i64 1 ∧ w = wr) (fun vi _ _ => (intOf vi).toNat)
  case atStart => exact ⟨rfl, rfl⟩
  case round =>
    obtain ⟨rfl, rfl⟩ := hrel
    go_wp2_with fail
    refine bodyPost_end (v := .tuple #[]) (by simp [results, Tryd.results67, go_sem]) rfl ?_
    exact ⟨rfl, rfl⟩

set_option maxRecDepth 100000 in
theorem stable_nil_Ob (w : World) : Calls Tryd.prog 59 #[.slice none 0 0, .int .i64 0, .func (.func 49) #[] #[]] w fun e w' => e = .returned (.tuple #[]) ∧ w' = w := by
  have HI := Lib.hid (insertion_nil_Ob w)
  go_enter Tryd.func59, Tryd.ntmps59
  go_wp2_with fail
  go_loopw [7, 8] (fun va vb wr => va = .int .i64 0 ∧ vb = .int .i64 20 ∧ w = wr) (fun _ vb _ => (intOf vb).toNat)
  case atStart => exact ⟨rfl, rfl, rfl⟩
  case round =>
    obtain ⟨rfl, rfl, rfl⟩ := hrel
    go_wp2_with fail
    refine HI.out.mono ?_
    rintro e w2 ⟨rfl, rfl⟩
    obtain ⟨wz, rfl⟩ : ∃ wz : World, wz = w2 := ⟨_, rfl⟩
    go_wp2_with fail
    go_loopw [6, 7, 8, 9] (fun v6 _ _ _ wr => v6 = .int .i64 20 ∧ wz = wr) (fun v6 _ _ _ _ => (intOf v6).toNat)
    case atStart => exact ⟨rfl, rfl⟩
    case round =>
      obtain ⟨rfl, rfl⟩ := hrel
      go_wp2_with fail
      refine bodyPost_end (v := .tuple #[]) (by simp [results, Tryd.results59, go_sem]) rfl ?_
      exact ⟨rfl, rfl⟩

set_option maxRecDepth 100000 in
theorem sortStable_nil_Ob (w : World) : Calls Tryd.prog 48 #[.slice none 0 0, .func (.func 49) #[] #[]] w fun e w' => e = .returned (.tuple #[]) ∧ w' = w := by
  have HI := Lib.hid (stable_nil_Ob w)
  go_enter Tryd.func48, Tryd.ntmps48
  go_wp2_with fail
  refine HI.out.mono ?_
  rintro e w4 ⟨rfl, rfl⟩
  go_wp2_with fail
  refine bodyPost_end (v := .tuple #[]) (by simp [results, Tryd.results48, go_sem]) rfl ?_
  exact ⟨rfl, rfl⟩

theorem zipLe_Ob {α : Type} : ∀ (xs : List α) (k : Nat), ∀ x ∈ xs.zipIdx k, k ≤ x.2
  | [], _, _, h => by simp at h
  | x :: xs, k, y, h => by
    rw [List.zipIdx_cons, List.mem_cons] at h
    rcases h with rfl | h
    · exact Nat.le_refl _
    · have := zipLe_Ob xs (k + 1) y h
      omega
theorem zipRise_Ob {α : Type} : ∀ (xs : List α) (k : Nat), (xs.zipIdx k).Pairwise fun x y => x.2 < y.2
  | [], _ => List.Pairwise.nil
  | x :: xs, k => by
    rw [List.zipIdx_cons]
    exact List.pairwise_cons.2 ⟨fun y hy => zipLe_Ob xs (k + 1) y hy, zipRise_Ob xs (k + 1)⟩
end Go.Proofs.YtjncoloedakpoaaDoor
