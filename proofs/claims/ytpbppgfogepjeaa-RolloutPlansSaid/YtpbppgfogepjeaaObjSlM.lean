/- The stable sort at any elements. Condition: the row lies in a block of its own. || The stable sort of no elements; elements with their places. No condition. || Contracts of slices at api.Object. Condition: the slices read; a row is the call's own. -/
import Derived.Test.YtpbppgfogepjeaaStOb8
import Derived.Test.YtpbppgfogepjeaaStOb2M
namespace Go.Proofs.Ytpbppgfogepjeaa
open Go.ChangeShapes Go.WideShapes Go.ChangeAt Go.RowKit Go.Deep

theorem mid_parts {α : Type} {tag : α → Nat} {T : α → α → Prop} {D d : List α} {bs k x m b : Nat} (hbs : 0 < bs) (hD : D.Pairwise fun x y => tag x < tag y) (h : Ph2 T D d bs k) (hx : x = k * (2 * bs)) (hm : x + bs = m)
    (hb : b = x + 2 * bs ∨ (b = D.length ∧ D.length ≤ x + 2 * bs)) (hmb : m < b) (hbn : b ≤ D.length) :
    ∃ P L R S, d = P ++ L ++ R ++ S ∧ P.length = x ∧ x + L.length = m ∧ m + R.length = b ∧ 0 < L.length ∧ 0 < R.length ∧ L.Pairwise T ∧ R.Pairwise T ∧ (∀ x ∈ L, ∀ y ∈ R, tag x < tag y) ∧
      ∀ M, MrgOK T L R M → Ph2 T D (P ++ M ++ S) bs (k + 1) := by
  subst hx hm
  have hk1 : (k + 1) * (2 * bs) = k * (2 * bs) + 2 * bs := by rw [Nat.add_mul, Nat.one_mul]
  rw [← hk1] at hb
  obtain ⟨p1, p2, p3, p4, p5⟩ := ph2_pre hD h b hb (by omega)
  have hl := h.1
  refine ⟨d.take (k * (2 * bs)), segL d (k * (2 * bs)) (k * (2 * bs) + bs), segL d (k * (2 * bs) + bs) b, d.drop b, ?_, by simp; omega, ?_, ?_, ?_, ?_, p1, p2, p3, fun M hM => ph2_step hbs h hb (by omega) hbn p4 p5 hM⟩
  · conv => lhs; rw [← take_seg_drop d (show k * (2 * bs) ≤ b by omega)]
    rw [← segL_append d (show k * (2 * bs) ≤ k * (2 * bs) + bs by omega) (by omega : _ ≤ b)]
    simp
  · rw [segL_len d (by omega)]; omega
  · rw [segL_len d (by omega)]; omega
  · rw [segL_len d (by omega)]; omega
  · rw [segL_len d (by omega)]; omega

set_option maxRecDepth 100000 in
set_option maxHeartbeats 1500000 in
theorem stable_Ob (D : List TOb) (rest : List Value) (gb n cap : Nat) (w : World) (hR : SRowK tOb 44 w w gb rest D) (hn : D.length = n) (hcm : n < 1152921504606846976) (hD : D.Pairwise fun x y => x.2 < y.2) :
    Calls Try.prog 119 #[.slice (some ⟨gb, 0, none⟩) n cap, .int .i64 n, .func (.func 109) #[] #[]] w fun e w' => e = .returned (.tuple #[]) ∧ ∃ d', SRowK tOb 44 w w' gb rest d' ∧ d'.Perm D ∧ d'.Pairwise TOOb := by
  have HR := Lib.hid hR
  have HD := Lib.hid hD
  have HN := Lib.hid hn
  clear hR hD hn
  go_enter Try.func119, Try.ntmps119
  go_wp2_with fail
  go_loopw [7, 8] (fun va vb wr => ∃ (k x y : Nat) (d1 : List TOb), va = .int .i64 x ∧ vb = .int .i64 y ∧ Hid (y = x + 20) ∧ x ≤ n ∧ Hid (x = k * 20) ∧ Hid (SRowK tOb 44 w wr gb rest d1) ∧ Hid (Ph1 TOOb D d1 k)) (fun _ vb _ => n + 20 - (intOf vb).toNat)
  case atStart => exact ⟨0, 0, 20, D, rfl, rfl, rfl, Nat.zero_le _, rfl, HR.out, ph1_start D⟩
  case round =>
    obtain ⟨k, x, y, d1, rfl, rfl, hy, hxn, hx, hS, hP⟩ := hrel
    have hl1 : Hid (d1.length = n) := by have := hP.out.1; have := HN.out; show _ = _; omega
    have hseg : ∀ b, (segL d1 x b).Pairwise fun x y => x.2 < y.2 := fun b => by
      rw [hx.out, seg_of_drop hP.out.2.1]
      exact segL_pair HD.out _ _
    have HSeg := Lib.hid hseg
    have hxy : x ≤ y := by have := hy.out; omega
    obtain ⟨y2, hy2⟩ : ∃ y2, y + 20 = y2 := ⟨_, rfl⟩
    have f0 : (y : Int) + 20 = (y2 : Int) := by omega
    have HY2 := Lib.hid hy2
    have hS' := hS
    clear hseg hy2
    by_cases hlt : y ≤ n
    · have hIn := Lib.hid (insertion_Ob d1 rest gb n cap x y wr hS.out.self hl1.out (by omega) hxy hlt (HSeg.out y))
      go_wp2_with fail
      refine hIn.out.mono ?_
      rintro e w2 ⟨rfl, d2, h2, ho⟩
      have HS2 := Lib.hid (hS'.out.trans h2)
      have HP2 : Hid (Ph1 TOOb D d2 (k + 1)) := by
        have hh := hP.out
        refine ph1_step hh (by have := hx.out; have := hy.out; have := HN.out; omega) ?_
        rw [show (k + 1) * 20 = y by have := hx.out; have := hy.out; omega, ← hx.out]
        exact ho
      clear h2 ho
      go_wp2_with fail
      go_roundw
      case rel => exact ⟨k + 1, y, y2, d2, rfl, rfl, HY2.out.symm, hlt, by have := hx.out; have := hy.out; show _ = _; omega, HS2.out, HP2.out⟩
      case measure => have := HY2.out; simp [intOf]; omega
    · have hIn := Lib.hid (insertion_Ob d1 rest gb n cap x n wr hS.out.self hl1.out (by omega) hxn (Nat.le_refl _) (HSeg.out n))
      go_wp2_with fail
      refine hIn.out.mono ?_
      rintro e w2 ⟨rfl, d2, h2, ho⟩
      have HS2 := Lib.hid (hS'.out.trans h2)
      have HB : Hid (Blks TOOb D d2 20) := by
        have hh := hP.out
        refine ph1_end hh (by have := hx.out; have := HN.out; omega) (by have := hx.out; have := hy.out; have := HN.out; omega) ?_
        rw [HN.out, ← hx.out]
        exact ho
      clear h2 ho hP hS' hS hl1 HSeg
      go_wp2_with fail
      go_loopw [6, 7, 8, 9] (fun v6 _ _ _ wr => ∃ (bs : Nat) (d3 : List TOb), v6 = .int .i64 bs ∧ 0 < bs ∧ bs ≤ 2 * n + 20 ∧ Hid (SRowK tOb 44 w wr gb rest d3) ∧ Hid (Blks TOOb D d3 bs)) (fun v6 _ _ _ _ => n - (intOf v6).toNat)
      case atStart => exact ⟨20, d2, rfl, by omega, by omega, HS2.out, HB.out⟩
      case round =>
        obtain ⟨bs, d3, rfl, hb0, hb2, hS3, hB3⟩ := hrel
        by_cases hbn : bs < n
        · obtain ⟨b2, hb2e⟩ : ∃ b2, 2 * bs = b2 := ⟨_, rfl⟩
          have f1 : (2 : Int) * (bs : Int) = (b2 : Int) := by omega
          have HB2 := Lib.hid hb2e
          have hb2n : b2 < 2 * n := by omega
          have hb2p : 0 < b2 := by omega
          have hP3 := Lib.hid (ph2_start hB3.out)
          have hS3' := hS3
          clear hb2e
          obtain ⟨wp, rfl⟩ : ∃ wp : World, wp = wr := ⟨_, rfl⟩
          go_wp2_with fail
          go_loopw [7, 8] (fun va vb wr => ∃ (k x y : Nat) (d4 : List TOb), va = .int .i64 x ∧ vb = .int .i64 y ∧ Hid (y = x + b2) ∧ x ≤ n ∧ Hid (x = k * (2 * bs)) ∧ Hid (SRowK tOb 44 w wr gb rest d4) ∧ Hid (Ph2 TOOb D d4 bs k)) (fun _ vb _ => n + b2 - (intOf vb).toNat)
          case atStart => exact ⟨0, 0, b2, d3, rfl, rfl, by show _ = _; omega, Nat.zero_le _, by show _ = _; omega, hS3'.out, hP3.out⟩
          case round =>
            obtain ⟨k', x', y', d4, rfl, rfl, hy', hxn', hx', hS4, hP4⟩ := hrel
            obtain ⟨wq, rfl⟩ : ∃ wq : World, wq = wr := ⟨_, rfl⟩
            obtain ⟨m, hm⟩ : ∃ m, x' + bs = m := ⟨_, rfl⟩
            have f2 : (x' : Int) + (bs : Int) = (m : Int) := by omega
            have hk1 : (k' + 1) * (2 * bs) = k' * (2 * bs) + 2 * bs := by rw [Nat.add_mul, Nat.one_mul]
            have HK := Lib.hid hk1
            have HM0 := Lib.hid hm
            have hxm : x' ≤ m := by omega
            have hmx : m < x' + n := by omega
            have hyx : y' < x' + 2 * n := by have := hy'.out; omega
            have hyp : x' < y' := by have := hy'.out; omega
            clear hk1 hm
            by_cases hlt' : y' ≤ n
            · obtain ⟨P, L, R, S, hd, q1, q2, q3, q4, q5, q6, q7, q8, q9⟩ := mid_parts (b := y') hb0 HD.out hP4.out hx'.out HM0.out (.inl (by have := hy'.out; have := HB2.out; omega)) (by have := hy'.out; have := HB2.out; have := HM0.out; omega) (by rw [HN.out]; omega)
              have hl : (P ++ L ++ R ++ S).length = n := by rw [← hd, hP4.out.1, HN.out]
              have hrow := hS4.out
              rw [hd] at hrow
              have HI := Lib.hid (symMerge_Ob (y' - x') P L R S rest gb n cap x' m y' wq (Nat.le_refl _) hrow.self hl (by omega) q1 q2 q3 q4 q5 q6 q7 q8)
              have HQ := Lib.hid q9
              have HW := Lib.hid hrow
              clear hd q1 q2 q3 q4 q5 q6 q7 q8 q9 hl hrow
              obtain ⟨y2, hy2⟩ : ∃ y2, y' + b2 = y2 := ⟨_, rfl⟩
              have f3 : (y' : Int) + (b2 : Int) = (y2 : Int) := by omega
              have HY3 := Lib.hid hy2
              clear hy2
              go_wp2_with fail
              refine HI.out.mono ?_
              rintro e w4 ⟨rfl, M, hM, h4⟩
              have HS5 := Lib.hid (HW.out.trans h4)
              have HP5 := Lib.hid (HQ.out M hM)
              clear hM h4
              go_wp2_with fail
              go_roundw
              case rel => exact ⟨k' + 1, y', y2, _, rfl, rfl, HY3.out.symm, hlt', by have := hx'.out; have := hy'.out; have := HB2.out; have := HK.out; show _ = _; omega, HS5.out, HP5.out⟩
              case measure => have := HY3.out; simp [intOf]; omega
            · by_cases hmn : m < n
              · obtain ⟨P, L, R, S, hd, q1, q2, q3, q4, q5, q6, q7, q8, q9⟩ := mid_parts (b := n) hb0 HD.out hP4.out hx'.out HM0.out (.inr ⟨HN.out.symm, by have := hy'.out; have := HB2.out; rw [HN.out]; omega⟩) hmn (by rw [HN.out]; omega)
                have hl : (P ++ L ++ R ++ S).length = n := by rw [← hd, hP4.out.1, HN.out]
                have hrow := hS4.out
                rw [hd] at hrow
                have HI := Lib.hid (symMerge_Ob (n - x') P L R S rest gb n cap x' m n wq (Nat.le_refl _) hrow.self hl (by omega) q1 q2 q3 q4 q5 q6 q7 q8)
                have HQ := Lib.hid q9
                have HW := Lib.hid hrow
                clear hd q1 q2 q3 q4 q5 q6 q7 q8 q9 hl hrow
                have f4 : (bs : Int) * 2 = (b2 : Int) := by have := HB2.out; omega
                go_wp2_with fail
                refine HI.out.mono ?_
                rintro e w4 ⟨rfl, M, hM, h4⟩
                have HS5 := Lib.hid (HW.out.trans h4)
                have HP5 : Hid (Blks TOOb D (P ++ M ++ S) b2) := by rw [← HB2.out]; exact ph2_end (HQ.out M hM) (by have := HK.out; have := hx'.out; have := hy'.out; have := HB2.out; rw [HN.out]; omega)
                clear hM h4
                go_wp2_with fail
                go_roundw
                case rel => exact ⟨b2, _, rfl, by omega, by omega, HS5.out, HP5.out⟩
                case measure => have := HB2.out; simp [intOf]; omega
              · have HP5 : Hid (Blks TOOb D d4 b2) := by rw [← HB2.out]; exact ph2_skip hP4.out (by have := hx'.out; have := HM0.out; rw [HN.out]; omega)
                have f4 : (bs : Int) * 2 = (b2 : Int) := by have := HB2.out; omega
                have hS5 := hS4
                go_wp2_with fail
                go_roundw
                case rel => exact ⟨b2, d4, rfl, by omega, by omega, hS5.out, HP5.out⟩
                case measure => have := HB2.out; simp [intOf]; omega
        · have HE := Lib.hid (blks_end hB3.out (by rw [HN.out]; omega))
          have hS4 := hS3
          go_wp2_with fail
          refine bodyPost_end (v := .tuple #[]) (by simp [results, Try.results119, go_sem]) rfl ?_
          exact ⟨rfl, d3, hS4.out, HE.out.1, HE.out.2⟩

set_option maxRecDepth 100000 in
theorem sortStable_Ob (D : List TOb) (rest : List Value) (gb n cap : Nat) (w : World) (hR : SRowK tOb 44 w w gb rest D) (hn : D.length = n) (hcm : n < 1152921504606846976) (hD : D.Pairwise fun x y => x.2 < y.2) :
    Calls Try.prog 108 #[.slice (some ⟨gb, 0, none⟩) n cap, .func (.func 109) #[] #[]] w fun e w' => e = .returned (.tuple #[]) ∧ ∃ d', SRowK tOb 44 w w' gb rest d' ∧ d'.Perm D ∧ d'.Pairwise TOOb := by
  have HI := Lib.hid (stable_Ob D rest gb n cap w hR hn hcm hD)
  clear hR hn hD
  go_enter Try.func108, Try.ntmps108
  go_wp2_with fail
  refine HI.out.mono ?_
  rintro e w4 ⟨rfl, d', h1, h2, h3⟩
  have H1 := Lib.hid h1
  clear h1
  go_wp2_with fail
  refine bodyPost_end (v := .tuple #[]) (by simp [results, Try.results108, go_sem]) rfl ?_
  exact ⟨rfl, d', H1.out, h2, h3⟩
end Go.Proofs.Ytpbppgfogepjeaa
namespace Go.Proofs.Ytpbppgfogepjeaa
open Go.ChangeShapes Go.WideShapes Go.ChangeAt Go.RowKit Go.Deep

set_option maxRecDepth 100000 in
theorem insertion_nil_Ob (w : World) : Calls Try.prog 132 #[.slice none 0 0, .int .i64 0, .int .i64 0, .func (.func 109) #[] #[]] w fun e w' => e = .returned (.tuple #[]) ∧ w' = w := by
  go_enter Try.func132, Try.ntmps132
  go_wp2_with fail
  go_loopw [8, 9] (fun vi _ wr => vi = .int .i64 1 ∧ w = wr) (fun vi _ _ => (intOf vi).toNat)
  case atStart => exact ⟨rfl, rfl⟩
  case round =>
    obtain ⟨rfl, rfl⟩ := hrel
    go_wp2_with fail
    refine bodyPost_end (v := .tuple #[]) (by simp [results, Try.results132, go_sem]) rfl ?_
    exact ⟨rfl, rfl⟩

set_option maxRecDepth 100000 in
theorem stable_nil_Ob (w : World) : Calls Try.prog 119 #[.slice none 0 0, .int .i64 0, .func (.func 109) #[] #[]] w fun e w' => e = .returned (.tuple #[]) ∧ w' = w := by
  have HI := Lib.hid (insertion_nil_Ob w)
  go_enter Try.func119, Try.ntmps119
  go_wp2_with fail
  go_loopw [7, 8] (fun va vb wr => va = .int .i64 0 ∧ vb = .int .i64 20 ∧ w = wr) (fun _ vb _ => (intOf vb).toNat)
  case atStart => exact ⟨rfl, rfl, rfl⟩
  case round =>
    obtain ⟨rfl, rfl, rfl⟩ := hrel
    go_wp2_with fail
    refine HI.out.mono ?_
    rintro e w2 ⟨rfl, rfl⟩
    obtain ⟨wz, rfl⟩ : ∃ wz : World, wz = w2 := ⟨_, rfl⟩
    go_wp2_with fail
    go_loopw [6, 7, 8, 9] (fun v6 _ _ _ wr => v6 = .int .i64 20 ∧ wz = wr) (fun v6 _ _ _ _ => (intOf v6).toNat)
    case atStart => exact ⟨rfl, rfl⟩
    case round =>
      obtain ⟨rfl, rfl⟩ := hrel
      go_wp2_with fail
      refine bodyPost_end (v := .tuple #[]) (by simp [results, Try.results119, go_sem]) rfl ?_
      exact ⟨rfl, rfl⟩

set_option maxRecDepth 100000 in
theorem sortStable_nil_Ob (w : World) : Calls Try.prog 108 #[.slice none 0 0, .func (.func 109) #[] #[]] w fun e w' => e = .returned (.tuple #[]) ∧ w' = w := by
  have HI := Lib.hid (stable_nil_Ob w)
  go_enter Try.func108, Try.ntmps108
  go_wp2_with fail
  refine HI.out.mono ?_
  rintro e w4 ⟨rfl, rfl⟩
  go_wp2_with fail
  refine bodyPost_end (v := .tuple #[]) (by simp [results, Try.results108, go_sem]) rfl ?_
  exact ⟨rfl, rfl⟩

theorem zipLe_Ob {α : Type} : ∀ (xs : List α) (k : Nat), ∀ x ∈ xs.zipIdx k, k ≤ x.2
  | [], _, _, h => by simp at h
  | x :: xs, k, y, h => by
    rw [List.zipIdx_cons, List.mem_cons] at h
    rcases h with rfl | h
    · exact Nat.le_refl _
    · have := zipLe_Ob xs (k + 1) y h
      omega
theorem zipRise_Ob {α : Type} : ∀ (xs : List α) (k : Nat), (xs.zipIdx k).Pairwise fun x y => x.2 < y.2
  | [], _ => List.Pairwise.nil
  | x :: xs, k => by
    rw [List.zipIdx_cons]
    exact List.pairwise_cons.2 ⟨fun y hy => zipLe_Ob xs (k + 1) y hy, zipRise_Ob xs (k + 1)⟩
end Go.Proofs.Ytpbppgfogepjeaa
namespace Go.Proofs.Ytpbppgfogepjeaa
open Go.ChangeShapes Go.WideShapes Go.ChangeAt Go.RowKit Go.Deep

set_option maxHeartbeats 1000000 in
theorem indexFunc_OV (p : OV → Bool) (g : FuncId) (hE : Enters Try.prog g) (caps : Array Value) (xs : List OV) (ao : Option Addr) (la ca : Nat) (w : World) (hS : SlR (Flat OV.cells) 47 w ao la ca xs)
    (hp : ∀ (x : OV) (w1 : World), Below w.heap.size w w1 → Calls Try.prog g (#[.agg x.cells.toArray] ++ caps) w1 fun e w2 => e = .returned (.bool (p x)) ∧ Below w1.heap.size w1 w2) :
    Calls Try.prog 118 #[.slice ao la ca, .func (.func g) #[] caps] w fun e w' => e = .returned (.int .i64 (idxOf p xs 0)) ∧ Below w.heap.size w w' := by
  have ha := hS.hmax; have hac := hS.hcap
  unfold maxLen at ha
  have Hp := Lib.hid hp
  clear hp
  go_enter Try.func118, Try.ntmps118
  go_wp2_with fail
  go_loopw [8] (fun i wr => ∃ k : Nat, k ≤ la ∧ i = .int .i64 k ∧ Hid (idxOf p xs 0 = idxOf p (xs.drop k) k) ∧ Below w.heap.size w wr) (fun i _ => la - (intOf i).toNat)
  case atStart => exact ⟨0, Nat.zero_le _, rfl, rfl, Below.refl _ _⟩
  case round =>
    obtain ⟨k, hk, rfl, hf, hb⟩ := hrel
    by_cases hlt : k < la
    · obtain ⟨b, off, rfl⟩ := hS.ptr (by decide) (by omega)
      have kx : k < xs.length := by have := hS.hlen; omega
      have hc := (hS.flatKeeps (Keeps.below hb)).flat kx
      have Hc := Lib.hid hc
      have Hb := Lib.hid hb
      have Hd := Lib.hid (idxOf_drop p kx)
      clear hc hb
      have hB := Hb.out.size
      go_wp2_with ((with_reducible refine at_slot 15 ?_); go_must (refine wpList_load_at aggObj rfl _ rfl ⟨b, off + k * 47, none⟩ rfl xs[k].cells (OV.hlen _) (fun j u hu => by rw [Addr.add_lit]; exact Hc.out j u hu) ?_; refine wpList_callv rfl _ _ _ rfl g caps rfl hE [.agg xs[k].cells.toArray] rfl (fun v w2 => v = .bool (p xs[k]) ∧ Below wr.heap.size wr w2) ((Hp.out xs[k] wr Hb.out).mono fun e w2 ⟨h1, h2⟩ => ⟨_, h1, rfl, h2⟩) ?_; intro v w2; rintro ⟨rfl, hb2⟩))
      all_goals have Hb2 := Lib.hid (Hb.out.trans (hb2.mono hB))
      all_goals clear hb2
      · have hp1 : p xs[k] = true := by assumption
        go_ret
        exact ⟨ret_int (by rw [hf.out, Hd.out, if_pos hp1]), Hb2.out⟩
      · have hp1 : p xs[k] = false := by assumption
        go_roundw
        case rel => exact ⟨k + 1, by omega, by go_num, hf.out.trans (by rw [Hd.out, if_neg (by rw [hp1]; decide)]), Hb2.out⟩
        case measure => simp [intOf]; omega
    · have He := Lib.hid (idxOf_end p (xs := xs) (k := k) (by rw [hS.hlen]; omega))
      have Hb := Lib.hid hb
      clear hb
      go_wp2
      go_ret
      exact ⟨ret_int (by rw [hf.out, He.out]), Hb.out⟩


set_option maxHeartbeats 1600000 in
theorem deleteFunc_OV (p : OV → Bool) (g : FuncId) (hE : Enters Try.prog g) (caps : Array Value) (xs : List OV) (rest : List Value) (gb n cap : Nat) (w : World)
    (hrow : w.heap[gb]? = some (.cells (xs.flatMap OV.cells ++ rest).toArray 44 (0, 0))) (hn : xs.length = n) (hnc : n ≤ cap) (hcm : cap ≤ maxLen)
    (hp : ∀ (x : OV) (w1 : World), Fr (fun k => k = gb) w w1 → Calls Try.prog g (#[.agg x.cells.toArray] ++ caps) w1 fun e w2 => e = .returned (.bool (p x)) ∧ Below w1.heap.size w1 w2) :
    Calls Try.prog 105 #[.slice (some ⟨gb, 0, none⟩) n cap, .func (.func g) #[] caps] w fun e w' => ∃ m rest', e = .returned (.slice (some ⟨gb, 0, none⟩) m cap) ∧ m = (xs.filter fun x => !p x).length ∧ rest'.length = (n - m) * 47 + rest.length ∧
      w'.heap[gb]? = some (.cells ((xs.filter fun x => !p x).flatMap OV.cells ++ rest').toArray 44 (0, 0)) ∧ Fr (fun k => k = gb) w w' := by
  have hf : ∀ x : OV, x.cells.length = 47 := fun x => x.hlen
  have hS : SlR (Flat OV.cells) 47 w (some ⟨gb, 0, none⟩) n cap xs := by
    refine ⟨hn, hnc, hcm, (fun h => by cases h), fun a ha i hi => ?_⟩
    obtain rfl := Option.some.inj ha
    refine ⟨xs[i].cells, xs[i].hlen, fun j u hu => ?_, rfl⟩
    have hj : j < 47 := OV.hlen _ ▸ (List.getElem?_eq_some_iff.1 hu).1
    rw [Addr.add_lit, Nat.zero_add, cell_of_row _ gb _ _ _ (0, 0) hrow, List.getElem?_toArray, List.getElem?_append_left (by rw [flatMap_len hf]; omega), flatMap_get hf xs i j hi hj, hu]
  unfold maxLen at hcm
  rcases idxOf_spec p xs 0 with ⟨h1, h2⟩ | ⟨j0, hj0, h1, h2, h3⟩
  · have H1 := Lib.hid h1
    have hfil : (xs.filter fun x => !p x) = xs := List.filter_eq_self.2 fun x hx => by rw [h2 x hx]; rfl
    have H2 := Lib.hid hfil
    have Hrow := Lib.hid hrow
    have Hn := Lib.hid hn
    clear h1 h2 hrow hfil hn
    go_enter Try.func105, Try.ntmps105
    go_wp2_with fail
    refine (indexFunc_OV p g hE caps xs _ n cap w hS (fun x w1 hb => hp x w1 (Fr.of_below hb _))).mono ?_
    rintro e w2 ⟨he, hb⟩
    rw [H1.out] at he
    subst he
    have Hb := Lib.hid hb
    clear hb hp
    go_wp2
    go_ret
    refine ⟨n, rest, rfl, by rw [H2.out, Hn.out], by simp, ?_, Fr.of_below Hb.out _⟩
    rw [H2.out]
    exact (Fr.of_below Hb.out (fun _ => False)).heap Hrow.out (fun h => h)
  · have H1 := Lib.hid h1
    have Hp := Lib.hid hp
    have hj0n : j0 < n := by omega
    have e0 : (xs.take (j0 + 1)).filter (fun x => !p x) = xs.take j0 := by
      rw [filter_take_succ _ _ _ hj0, h2]
      simp only [Bool.not_true, Bool.false_eq_true, if_false, List.append_nil]
      exact List.filter_eq_self.2 fun x hx => by rw [h3 x hx]; rfl
    have E0 := Lib.hid e0
    have Hrow := Lib.hid hrow
    have Hn := Lib.hid hn
    have Hj := Lib.hid hj0
    clear h1 h2 h3 hp e0 hrow hn hj0
    rw [Nat.zero_add] at H1
    have hjm : ((j0 : Int) == -1) = false := by rw [beq_eq_false_iff_ne]; omega
    go_enter Try.func105, Try.ntmps105
    go_wp2_with fail
    refine (indexFunc_OV p g hE caps xs _ n cap w hS (fun x w1 hb => Hp.out x w1 (Fr.of_below hb _))).mono ?_
    rintro e w2 ⟨he, hb⟩
    rw [H1.out] at he
    subst he
    have Hb := Lib.hid hb
    clear hb
    go_wp2_with fail
    go_loopw [5, 6] (fun wi ri wr => ∃ (q r : Nat) (ys : List OV), q < r ∧ r ≤ n ∧ wi = .int .i64 q ∧ ri = .int .i64 r ∧ Hid (DelInv (fun x => !p x) xs ys q r) ∧
      Hid (wr.heap[gb]? = some (.cells (ys.flatMap OV.cells ++ rest).toArray 44 (0, 0))) ∧ Hid (Fr (fun k => k = gb) w wr)) (fun _ ri _ => n - (intOf ri).toNat)
    case atStart =>
      refine ⟨j0, j0 + 1, xs, by omega, by omega, rfl, by go_num, ⟨rfl, ?_, E0.out.symm, rfl⟩, ?_, Fr.of_below Hb.out _⟩
      · rw [E0.out, List.length_take]; have := Hj.out; omega
      · exact (Fr.of_below Hb.out (fun _ => False)).heap Hrow.out (fun h => h)
    case round =>
      obtain ⟨q, r, ys, hqr, hrn, rfl, rfl, hI, hrw, hfr⟩ := hrel
      by_cases hlt : r < n
      · have hrx : r < xs.length := by rw [Hn.out]; exact hlt
        have hry : r < ys.length := by rw [hI.out.1]; exact hrx
        have hyx : ys[r] = xs[r] := by
          have h5 := hI.out.2.2.2
          rw [List.drop_eq_getElem_cons hry, List.drop_eq_getElem_cons hrx] at h5
          exact (List.cons.inj h5).1
        have hc : ∀ j u, xs[r].cells[j]? = some u → wr.cell? (Addr.add ⟨gb, r * 47, none⟩ j) = some u := fun j u hu => by
          have hj : j < 47 := OV.hlen _ ▸ (List.getElem?_eq_some_iff.1 hu).1
          rw [Addr.add_lit, cell_of_row _ gb _ _ _ (0, 0) hrw.out, List.getElem?_toArray, List.getElem?_append_left (by rw [flatMap_len hf]; omega), flatMap_get hf ys r j hry hj, hyx, hu]
        have Hc := Lib.hid hc
        have Hyx := Lib.hid hyx
        clear hc hyx
        obtain ⟨b, hbq⟩ : ∃ b, p xs[r] = b := ⟨_, rfl⟩
        have Hbq := Lib.hid hbq
        clear hbq
        have hgb : gb < wr.heap.size := (Array.getElem?_eq_some_iff.1 hrw.out).1
        have hsz := hfr.out.size
        cases b
        · go_wp2_with (first
            | ((with_reducible refine at_slot 25 ?_); go_must (refine wpList_load_at aggObj rfl _ rfl ⟨gb, r * 47, none⟩ rfl xs[r].cells (OV.hlen _) Hc.out ?_; refine wpList_var aggObj rfl rfl rfl _ _ rfl rfl xs[r].cells.toArray rfl rfl (by simp [OV.hlen]) (by simpa using (xs[r]).one) ?_))
            | ((with_reducible refine at_slot 27 ?_); go_must (refine wpList_load_at aggObj rfl _ rfl ⟨wr.heap.size, 0, none⟩ rfl xs[r].cells (OV.hlen _) (fun j u hu => by rw [cell_new]; simpa using hu) ?_; refine wpList_callv rfl _ _ _ rfl g caps rfl hE [.agg xs[r].cells.toArray] rfl (fun v w2 => v = .bool (p xs[r]) ∧ Below (wr.heap.size + 1) (wr.alloc (.cells xs[r].cells.toArray 44)) w2) ((Hp.out xs[r] _ (hfr.out.alloc _)).mono fun e w2 ⟨h1, h2⟩ => ⟨_, h1, rfl, by simpa using h2⟩) ?_; intro v w3; rintro ⟨hv, hb3⟩; rw [Hbq.out] at hv; subst hv; have Hb3 := Lib.hid (after_var hb3); clear hb3))
            | ((with_reducible refine at_slot 32 ?_); go_must (refine wpList_load_at aggObj rfl _ rfl ⟨wr.heap.size, 0, none⟩ rfl xs[r].cells (OV.hlen _) (fun j u hu => Hb3.out.keeps _ _ (by rw [cell_new]; simpa using hu)) ?_))
            | ((with_reducible refine at_store 33 ?_); go_must (refine wpList_store_row aggObj rfl _ _ rfl rfl gb (q * 47) _ xs[r].cells.toArray rfl rfl (Hb3.out.heap hrw.out) (by simp [OV.hlen]) (by simp [flatMap_len hf]; omega) (by simpa using (xs[r]).one) ?_)))
          go_roundw
          case rel =>
            refine ⟨q + 1, r + 1, ys.set q xs[r], by omega, by omega, by go_num, by go_num, del_keep hI.out hrx (by rw [Hbq.out]; rfl) hqr, ?_, ?_⟩
            · show _ = _
              rw [setRow_heap (Hb3.out.heap hrw.out)]
              rw [← List.append_assoc, flatMap_set hf ys q xs[r] rest (by have := hI.out.1; have := Hn.out; omega)]
            · exact (hfr.out.then (Hb3.out.below.mono (Nat.le_refl _))).trans (Fr.setRow (fun k => k = gb) _ gb _ rfl) (fun i hi => .inl hi)
          case measure => simp [intOf]; omega
        · go_wp2_with (first
            | ((with_reducible refine at_slot 25 ?_); go_must (refine wpList_load_at aggObj rfl _ rfl ⟨gb, r * 47, none⟩ rfl xs[r].cells (OV.hlen _) Hc.out ?_; refine wpList_var aggObj rfl rfl rfl _ _ rfl rfl xs[r].cells.toArray rfl rfl (by simp [OV.hlen]) (by simpa using (xs[r]).one) ?_))
            | ((with_reducible refine at_slot 27 ?_); go_must (refine wpList_load_at aggObj rfl _ rfl ⟨wr.heap.size, 0, none⟩ rfl xs[r].cells (OV.hlen _) (fun j u hu => by rw [cell_new]; simpa using hu) ?_; refine wpList_callv rfl _ _ _ rfl g caps rfl hE [.agg xs[r].cells.toArray] rfl (fun v w2 => v = .bool (p xs[r]) ∧ Below (wr.heap.size + 1) (wr.alloc (.cells xs[r].cells.toArray 44)) w2) ((Hp.out xs[r] _ (hfr.out.alloc _)).mono fun e w2 ⟨h1, h2⟩ => ⟨_, h1, rfl, by simpa using h2⟩) ?_; intro v w3; rintro ⟨hv, hb3⟩; rw [Hbq.out] at hv; subst hv; have Hb3 := Lib.hid (after_var hb3); clear hb3)))
          go_roundw
          case rel => exact ⟨q, r + 1, ys, by omega, by omega, rfl, by go_num, del_drop hI.out hrx (by rw [Hbq.out]; rfl), Hb3.out.heap hrw.out, hfr.out.then (Hb3.out.below.mono (Nat.le_refl _))⟩
          case measure => simp [intOf]; omega
      · have He := Lib.hid (del_end hI.out (by rw [Hn.out]; omega))
        have hqn : q < n := by omega
        have hyl : Hid (ys.length = n) := hI.out.1.trans Hn.out
        go_wp2_with ((with_reducible refine at_slot 38 ?_); go_must (refine wpList_clear_from elemObj (zero_one (by kernel_rfl)) rfl rfl _ _ _ rfl _ rfl rfl rfl gb n cap q _ rfl rfl hqn hnc hrw.out (by simp [flatMap_len hf, hyl.out]) (fun _ => rfl) ?_; intro v zs hzs; have Hz := Lib.hid hzs; clear hzs))
        go_ret
        refine ⟨q, zs ++ rest, ?_, He.out.1, by rw [List.length_append, Hz.out], ?_, hfr.out.trans (Fr.setRow (fun k => k = gb) _ gb _ rfl) (fun i hi => .inl hi)⟩
        · rfl
        · rw [setRow_heap hrw.out]
          have e1 := flatMap_take hf ys q rest (by rw [hyl.out]; omega)
          have e2 := flatMap_drop hf ys n rest (by rw [hyl.out]; omega)
          have e3 : ys.drop n = [] := List.drop_eq_nil_of_le (by rw [hyl.out]; omega)
          rw [He.out.2] at e1
          rw [e3] at e2
          simp only [e1, e2]
          simp

theorem wpList_append_many {P : Program} {ops : Array Oper} {rest : List Oper} {o : Oper} {a : Act} {w : World} {Q : Exit → Act → World → Prop} {t e : TypeId} {size bytes : Nat} (E : ElemOK P t e size bytes)
    (hgd : o.guard = none) (s x : Operand) (ho : o.op = .call { callee := .builtin .append, args := #[s, x], argTypes := #[t, t] })
    (B : Nat) (v : Value) (n : Nat) (xs : List Value) (hs : a.eval s = v) (hown : w.ownsRow B e size v n xs) (hB : B ≤ w.heap.size)
    (ad : Addr) (m c : Nat) (news : List Value) (hx : a.eval x = .slice (some ad) m c) (hl : news.length = m * size) (hnews : ∀ j u, news[j]? = some u → w.cell? (ad.add j) = some u) (h1 : news.all (fun u => u.oneCell') = true)
    (h63 : n + m ≤ maxLen) (hbytes : (n + m) * bytes ≤ 140737488355328)
    (h : ∀ v' w', w'.ownsRow B e size v' (n + m) (xs ++ news) → w.grownBy w' v.ownBlock → wpList P ops Q rest (a.put o.dst v') w') : wpList P ops Q (o :: rest) a w := by
  obtain ⟨i, z, hi, hz, h2, h3, h4⟩ := E.info
  exact wpList_append_own _ hgd s x t ho B e i z size bytes E.under hi hz h2 h3 h4 E.pos v n xs hs hown ad m c news hx hl hnews (List.all_eq_true.1 h1) h63 hbytes hB fun v' w' h1 h2 _ => h v' w' h1 h2

theorem zeroObjs (w : World) : (Instr.buildSlice 54 0 (([] : List (Nat × Value))).toArray).run Try.prog w = .ok (.slice (some ⟨w.heap.size, 0, none⟩) 0 0) (w.alloc (.cells #[] 44)) := by kernel_rfl

set_option maxRecDepth 100000 in
set_option maxHeartbeats 1000000 in
theorem clone_Obj (B : Nat) (v : Value) (n : Nat) (xs : List Value) (w : World) (hown : w.ownsRow B 44 47 v n xs) (h1 : xs.all (fun u => u.oneCell') = true) (hn : n ≤ 10000) :
    Calls Try.prog 106 #[v] w fun e w' => ∃ v', e = .returned v' ∧ w'.ownsRow w.heap.size 44 47 v' n xs ∧ Below w.heap.size w w' := by
  rcases hown.2 with ⟨rfl, rfl⟩ | ⟨g, cap, cur, rfl, hbg, hg, hnc, hcm, hcs, htake⟩
  · have hx : xs = [] := List.eq_nil_of_length_eq_zero (by simpa using hown.1)
    subst hx
    clear h1 hn hown
    have hq : ∀ w, (binOp .eql 54 (.slice none 0 0) (.slice none 0 0)).run Try.prog w = .ok (.bool true) w := fun _ => by kernel_rfl
    go_enter Try.func106, Try.ntmps106
    go_wp2
    go_ret
    exact ⟨_, rfl, World.ownsRow_nil _ _ _ _, Below.refl _ _⟩
  · have HC := Lib.hid ((hown.alloc (.cells #[] 44)).cells (g := g) rfl)
    have HL := Lib.hid hown.1
    have H1 := Lib.hid h1
    clear hown htake hcm hcs hg hnc hbg h1
    have hq : ∀ w, (binOp .eql 54 (.slice (some ⟨g, 0, none⟩) n cap) (.slice none 0 0)).run Try.prog w = .ok (.bool false) w := fun _ => by kernel_rfl
    go_enter Try.func106, Try.ntmps106
    go_wp2_with (first | ((with_reducible refine at_slot 5 ?_); go_must (refine wpList_buildSlice rfl 54 0 _ rfl [] rfl _ _ zeroObjs ?_)) | ((with_reducible refine at_slot 7 ?_); go_must (refine wpList_append_many elemObj rfl _ _ rfl w.heap.size _ 0 [] rfl (World.ownsRow_made w _ 0 (Nat.le_refl _) (by decide) rfl) (by rw [World.size_alloc]; omega) _ n _ xs rfl (by exact HL.out) (by exact HC.out) H1.out (by unfold maxLen; omega) (by omega) ?_; intro v2 w2 hown2 hgr2)))
    go_ret
    rw [Nat.zero_add, List.nil_append] at hown2
    exact ⟨_, rfl, hown2, ((Below.refl _ w).alloc (Nat.le_refl _) _).grown hgr2 (by rw [World.size_alloc]; omega) (fun k hk => by cases hk; exact Nat.le_refl _)⟩

end Go.Proofs.Ytpbppgfogepjeaa
