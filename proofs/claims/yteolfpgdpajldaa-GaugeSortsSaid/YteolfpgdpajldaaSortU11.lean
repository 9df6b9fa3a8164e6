/- slices.DeleteFunc at samples, by gauge.Sort's own word. Condition: the row is the call's own. -/
import Derived.Test.YteolfpgdpajldaaSortU10
namespace Go.Proofs.Yteolfpgdpajldaa
open Go.ChangeShapes Go.WideShapes Go.ChangeAt Go.RowKit Go.Deep

set_option maxRecDepth 100000 in
set_option maxHeartbeats 1600000 in
theorem deleteFunc_W (xs : List W64) (rest : List Value) (gb n cap : Nat) (w : World)
    (hrow : w.heap[gb]? = some (.cells (xs.flatMap cW ++ rest).toArray 26 (0, 0))) (hn : xs.length = n) (hnc : n ≤ cap) (hcm : cap ≤ maxLen) :
    Calls Try.prog 8 #[.slice (some ⟨gb, 0, none⟩) n cap, .func (.func 10) #[] #[]] w fun e w' => ∃ m rest', e = .returned (.slice (some ⟨gb, 0, none⟩) m cap) ∧ m = (xs.filter fun x => !badW x).length ∧ rest'.length = (n - m) * 1 + rest.length ∧
      w'.heap[gb]? = some (.cells ((xs.filter fun x => !badW x).flatMap cW ++ rest').toArray 26 (0, 0)) ∧ Fr (fun k => k = gb) w w' := by
  have hf : ∀ x : W64, (cW x).length = 1 := fun _ => rfl
  have hS : SlR (Flat cW) 1 w (some ⟨gb, 0, none⟩) n cap xs := by
    refine ⟨hn, hnc, hcm, (fun h => by cases h), fun a ha i hi => ?_⟩
    obtain rfl := Option.some.inj ha
    refine ⟨cW xs[i], rfl, fun j u hu => ?_, rfl⟩
    have hj : j < 1 := (List.getElem?_eq_some_iff.1 hu).1
    rw [Addr.add_lit, Nat.zero_add, cell_of_row _ gb _ _ _ (0, 0) hrow, List.getElem?_toArray, List.getElem?_append_left (by rw [flatMap_len hf]; omega), flatMap_get hf xs i j hi hj, hu]
  unfold maxLen at hcm
  rcases idxOf_spec badW xs 0 with ⟨h1, h2⟩ | ⟨j0, hj0, h1, h2, h3⟩
  · have H1 := Lib.hid h1
    have hfil : (xs.filter fun x => !badW x) = xs := List.filter_eq_self.2 fun x hx => by rw [h2 x hx]; rfl
    have H2 := Lib.hid hfil
    have Hrow := Lib.hid hrow
    have Hn := Lib.hid hn
    have HI := Lib.hid (indexFunc_W xs _ n cap w hS)
    clear h1 h2 hrow hfil hn hS hf
    go_enter Try.func8, Try.ntmps8
    go_wp2_with fail
    refine HI.out.mono ?_
    rintro e w2 ⟨he, hb⟩
    rw [H1.out] at he
    subst he
    have Hb := Lib.hid hb
    clear hb
    go_wp2
    go_ret
    refine ⟨n, rest, rfl, by rw [H2.out, Hn.out], by simp, ?_, Fr.of_below Hb.out _⟩
    rw [H2.out]
    exact (Fr.of_below Hb.out (fun _ => False)).heap Hrow.out (fun h => h)
  · have H1 := Lib.hid h1
    have hj0n : j0 < n := by omega
    have e0 : (xs.take (j0 + 1)).filter (fun x => !badW x) = xs.take j0 := by
      rw [filter_take_succ _ _ _ hj0, h2]
      simp only [Bool.not_true, Bool.false_eq_true, if_false, List.append_nil]
      exact List.filter_eq_self.2 fun x hx => by rw [h3 x hx]; rfl
    have E0 := Lib.hid e0
    have Hrow := Lib.hid hrow
    have Hn := Lib.hid hn
    have Hj := Lib.hid hj0
    have HI := Lib.hid (indexFunc_W xs _ n cap w hS)
    have hf' := Lib.hid hf
    clear h1 h2 h3 e0 hrow hn hj0 hS hf
    rw [Nat.zero_add] at H1
    have hjm : ((j0 : Int) == -1) = false := by rw [beq_eq_false_iff_ne]; omega
    go_enter Try.func8, Try.ntmps8
    go_wp2_with fail
    refine HI.out.mono ?_
    rintro e w2 ⟨he, hb⟩
    rw [H1.out] at he
    subst he
    have Hb := Lib.hid hb
    clear hb
    go_wp2_with fail
    go_loopw [5, 6, 7] (fun wi ri _ wr => ∃ (q r : Nat) (ys : List W64), q < r ∧ r ≤ n ∧ wi = .int .i64 q ∧ ri = .int .i64 r ∧ Hid (DelInv (fun x => !badW x) xs ys q r) ∧
      Hid (wr.heap[gb]? = some (.cells (ys.flatMap cW ++ rest).toArray 26 (0, 0))) ∧ Hid (Fr (fun k => k = gb) w wr)) (fun _ ri _ _ => n - (intOf ri).toNat)
    case atStart =>
      refine ⟨j0, j0 + 1, xs, by omega, by omega, rfl, by go_num, ⟨rfl, ?_, E0.out.symm, rfl⟩, ?_, Fr.of_below Hb.out _⟩
      · rw [E0.out, List.length_take]; have := Hj.out; omega
      · exact (Fr.of_below Hb.out (fun _ => False)).heap Hrow.out (fun h => h)
    case round =>
      obtain ⟨q, r, ys, hqr, hrn, rfl, rfl, hI, hrw, hfr⟩ := hrel
      obtain ⟨wp, rfl⟩ : ∃ wp : World, wp = wr := ⟨_, rfl⟩
      by_cases hlt : r < n
      · have hrx : r < xs.length := by rw [Hn.out]; exact hlt
        have hry : r < ys.length := by rw [hI.out.1]; exact hrx
        have hyx : ys[r] = xs[r] := by
          have h5 := hI.out.2.2.2
          rw [List.drop_eq_getElem_cons hry, List.drop_eq_getElem_cons hrx] at h5
          exact (List.cons.inj h5).1
        have hK := Lib.hid (fun h => del_keep hI.out hrx h hqr)
        have hD := Lib.hid (fun h => del_drop hI.out hrx h)
        obtain ⟨x, hx⟩ : ∃ x, xs[r] = x := ⟨_, rfl⟩
        rw [hx] at hyx hK hD
        have c0 : wp.cell? ⟨gb, r, none⟩ = some (.int .u64 (x.1 : Nat)) := by
          have e := flatMap_get hf'.out ys r 0 hry (by decide)
          rw [Nat.mul_one, Nat.add_zero, hyx] at e
          rw [cell_of_row _ gb _ _ _ (0, 0) hrw.out, List.getElem?_toArray, List.getElem?_append_left (by rw [flatMap_len hf'.out]; omega), e]
          rfl
        have HB := Lib.hid (fun w1 => bad_any x w1)
        obtain ⟨v, hv⟩ : ∃ v, badW x = v := ⟨_, rfl⟩
        rw [hv] at HB hK hD
        have hyl : Hid (ys.length = n) := hI.out.1.trans Hn.out
        clear hx hyx hv hry hrx
        have hrw' := hrw
        have hfr' := hfr
        cases v
        · go_wp2_with fail
          refine (HB.out _).mono ?_
          rintro e w3 ⟨rfl, hb3⟩
          have hr3 : w3.heap[gb]? = some (.cells (ys.flatMap cW ++ rest).toArray 26 (0, 0)) := (hb3.block gb (Array.getElem?_eq_some_iff.1 hrw'.out).1).trans hrw'.out
          have Hr3 := Lib.hid hr3
          have Hf3 := Lib.hid (hfr'.out.then hb3)
          have zf := row_free hr3 q
          have d0 : ∃ u, w3.cell? ⟨gb, q, none⟩ = some u := by
            rw [cell_of_row _ gb _ _ _ (0, 0) hr3, List.getElem?_toArray]
            have hl : q < (ys.flatMap cW ++ rest).length := by rw [List.length_append, flatMap_len hf'.out, hyl.out]; omega
            exact ⟨_, List.getElem?_eq_getElem hl⟩
          obtain ⟨u, d0⟩ := d0
          clear hb3 hr3 c0
          go_wp2_with fail
          go_roundw
          case rel =>
            refine ⟨q + 1, r + 1, ys.set q x, by omega, by omega, by go_num, by go_num, hK.out rfl, ?_, Hf3.out.setCell _ _ rfl⟩
            show _ = _
            rw [row_setCell Hr3.out _]
            have e := flatMap_set hf'.out ys q x rest (by rw [hyl.out]; omega)
            rw [← e]
            have hl : q < (ys.flatMap cW ++ rest).length := by rw [List.length_append, flatMap_len hf'.out, hyl.out]; omega
            congr 2
            apply Array.toList_inj.1
            rw [Array.toList_setIfInBounds, List.set_eq_take_append_cons_drop, if_pos hl]
            simp [cW]
          case measure => simp [intOf]; omega
        · go_wp2_with fail
          refine (HB.out _).mono ?_
          rintro e w3 ⟨rfl, hb3⟩
          have Hr3 : Hid (w3.heap[gb]? = some (.cells (ys.flatMap cW ++ rest).toArray 26 (0, 0))) := (hb3.block gb (Array.getElem?_eq_some_iff.1 hrw'.out).1).trans hrw'.out
          have Hf3 := Lib.hid (hfr'.out.then hb3)
          clear hb3 c0
          go_wp2_with fail
          go_roundw
          case rel => exact ⟨q, r + 1, ys, by omega, by omega, rfl, by go_num, hD.out rfl, Hr3.out, Hf3.out⟩
          case measure => simp [intOf]; omega
      · have He := Lib.hid (del_end hI.out (by rw [Hn.out]; omega))
        have hqn : q < n := by omega
        have hyl : Hid (ys.length = n) := hI.out.1.trans Hn.out
        have hrw' := hrw
        have hfr' := hfr
        go_wp2_with ((with_reducible refine at_slot 38 ?_); go_must (refine wpList_clear_from elemW (zero_one (by kernel_rfl)) rfl rfl _ _ _ rfl _ rfl rfl rfl gb n cap q _ rfl rfl hqn hnc hrw'.out (by simp [flatMap_len hf'.out, hyl.out]) (fun _ => rfl) ?_; intro v zs hzs; have Hz := Lib.hid hzs; clear hzs))
        go_ret
        refine ⟨q, zs ++ rest, ?_, He.out.1, by rw [List.length_append, Hz.out], ?_, hfr'.out.trans (Fr.setRow (fun k => k = gb) _ gb _ rfl) (fun i hi => .inl hi)⟩
        · rfl
        · rw [setRow_heap hrw'.out]
          have e1 := flatMap_take hf'.out ys q rest (by rw [hyl.out]; omega)
          have e2 := flatMap_drop hf'.out ys n rest (by rw [hyl.out]; omega)
          have e3 : ys.drop n = [] := List.drop_eq_nil_of_le (by rw [hyl.out]; omega)
          rw [He.out.2] at e1
          rw [e3] at e2
          try simp only [Nat.mul_one] at e1 e2
          show _ = some (Obj.cells _ _ _)
          congr 2
          simp [e1, e2]
end Go.Proofs.Yteolfpgdpajldaa
