/- slices.CompactFunc at labels. Condition: the row lies in a block of its own. -/
import Derived.Test.YtdgjghflaaaflaaSortLab9
namespace Go.Proofs.Ytdgjghflaaaflaa
open Go.ChangeShapes Go.WideShapes Go.ChangeAt Go.RowKit Go.Deep

def sk (x y : TLab) : Bool := x.1.key.toList == y.1.key.toList

/-- Of a run of alike ones the first; y came ahead. -/
def ddF : TLab → List TLab → List TLab
  | _, [] => []
  | y, x :: xs => if sk x y = true then ddF x xs else x :: ddF x xs
def dd : List TLab → List TLab
  | [] => []
  | x :: xs => x :: ddF x xs
def lastOf : TLab → List TLab → TLab
  | y, [] => y
  | _, x :: xs => lastOf x xs

theorem ddF_snoc (x : TLab) : ∀ (l : List TLab) (y : TLab), ddF y (l ++ [x]) = ddF y l ++ (if sk x (lastOf y l) = true then [] else [x])
  | [], y => by
    simp only [List.nil_append, ddF, lastOf]
    rfl
  | z :: l, y => by
    simp only [List.cons_append, ddF, lastOf]
    rw [ddF_snoc x l z]
    by_cases h : sk z y = true
    · rw [if_pos h, if_pos h]
      rfl
    · rw [if_neg h, if_neg h]
      rfl
theorem lastOf_take : ∀ (l : List TLab) (y : TLab) (k : Nat) (h : k < (y :: l).length), lastOf y (l.take k) = (y :: l)[k]
  | l, y, 0, _ => by simp [lastOf]
  | [], y, k + 1, h => by simp at h
  | x :: l, y, k + 1, h => by
    simp only [List.take_succ_cons, lastOf, List.getElem_cons_succ]
    exact lastOf_take l x k (by simpa using h)
theorem dd_more (D : List TLab) {r : Nat} (h0 : 0 < r) (h : r < D.length) : dd (D.take (r + 1)) = dd (D.take r) ++ (if sk D[r] (D[r - 1]'(by omega)) = true then [] else [D[r]]) := by
  cases D with
  | nil => simp at h
  | cons y l =>
    obtain ⟨k, rfl⟩ : ∃ k, r = k + 1 := ⟨r - 1, by omega⟩
    have hk : k < l.length := by simpa using h
    simp only [List.take_succ_cons, dd, List.getElem_cons_succ, List.cons_append]
    rw [List.take_succ_eq_append_getElem hk, ddF_snoc, lastOf_take l y k (by simp; omega)]
    simp
theorem ddF_len : ∀ (l : List TLab) (y : TLab), (ddF y l).length ≤ l.length
  | [], _ => Nat.le_refl _
  | x :: l, y => by
    have := ddF_len l x
    simp only [ddF]
    split <;> simp <;> omega
theorem dd_len (D : List TLab) : (dd D).length ≤ D.length := by
  cases D with
  | nil => exact Nat.le_refl _
  | cons y l => have := ddF_len l y; simp [dd]; omega
theorem dd_short (D : List TLab) (h : D.length < 2) : dd D = D := by
  rcases D with _ | ⟨x, _ | ⟨y, l⟩⟩
  · rfl
  · rfl
  · simp at h; omega

/-- What has been written, and what is still to be read. -/
def CmpI (D d : List TLab) (i r : Nat) : Prop := d.length = D.length ∧ i < r ∧ r ≤ D.length ∧ d.take i = dd (D.take r) ∧ d.drop (r - 1) = D.drop (r - 1)

theorem cmp_start {D : List TLab} {k : Nat} (h0 : 0 < k) (hk : k < D.length) (h : dd (D.take k) = D.take k) (he : sk D[k] (D[k - 1]'(by omega)) = true) : CmpI D D k (k + 1) := by
  refine ⟨rfl, by omega, by omega, ?_, rfl⟩
  rw [dd_more D h0 hk, if_pos he, List.append_nil, h]
theorem cmp_one {D : List TLab} {k : Nat} (h0 : 0 < k) (hk : k < D.length) (h : dd (D.take k) = D.take k) (he : sk D[k] (D[k - 1]'(by omega)) = false) : dd (D.take (k + 1)) = D.take (k + 1) := by
  rw [dd_more D h0 hk, if_neg (by rw [he]; decide), h, List.take_succ_eq_append_getElem hk]
theorem cmp_get {D d : List TLab} {i r j : Nat} (h : CmpI D d i r) (hj : r - 1 ≤ j) (hD : j < D.length) : d[j]? = some D[j] := by
  have e := congrArg (fun l => l[j - (r - 1)]?) h.2.2.2.2
  simp only [List.getElem?_drop] at e
  rw [show r - 1 + (j - (r - 1)) = j by omega] at e
  rw [e, List.getElem?_eq_getElem hD]
theorem cmp_skip {D d : List TLab} {i r : Nat} (h : CmpI D d i r) (hr : r < D.length) (he : sk D[r] (D[r - 1]'(by omega)) = true) : CmpI D d i (r + 1) := by
  obtain ⟨h1, h2, h3, h4, h5⟩ := h
  refine ⟨h1, by omega, by omega, ?_, ?_⟩
  · rw [dd_more D (by omega) hr, if_pos he, List.append_nil, h4]
  · have e := congrArg (List.drop 1) h5
    rw [List.drop_drop, List.drop_drop] at e
    rw [show r + 1 - 1 = r - 1 + 1 by omega]
    exact e
theorem cmp_put {D d : List TLab} {i r : Nat} (h : CmpI D d i r) (hr : r < D.length) (he : sk D[r] (D[r - 1]'(by omega)) = false) : CmpI D (d.set i D[r]) (i + 1) (r + 1) := by
  obtain ⟨h1, h2, h3, h4, h5⟩ := h
  refine ⟨by simpa using h1, by omega, by omega, ?_, ?_⟩
  · rw [dd_more D (by omega) hr, if_neg (by rw [he]; decide), List.take_succ_eq_append_getElem (by simp; omega)]
    rw [List.take_set_of_le (Nat.le_refl _), h4]
    simp
  · have e := congrArg (List.drop 1) h5
    rw [List.drop_drop, List.drop_drop] at e
    rw [show r + 1 - 1 = r - 1 + 1 by omega, List.drop_set_of_lt (by omega)]
    exact e
theorem cmp_end {D d : List TLab} {i : Nat} (h : CmpI D d i D.length) : d.take i = dd D := by
  have := h.2.2.2.1
  rwa [List.take_of_length_le (Nat.le_refl _)] at this

theorem elemLabel : ElemOK Try.prog 26 54 2 32 := .mk' Try.underlying26 (by kernel_rfl) (by decide)

set_option maxRecDepth 100000 in
theorem eqLab (x y : TLab) (w : World) :
    Calls Try.prog 106 #[.agg #[.string x.1.key, .string x.1.val], .agg #[.string y.1.key, .string y.1.val]] w fun e w' => e = .returned (.bool (sk x y)) ∧ Below w.heap.size w w' := by
  go_enter Try.func106, Try.ntmps106
  go_wp2_with fail
  go_ret
  exact ⟨rfl, ((Below.refl _ _).alloc (Nat.le_refl _) _).alloc (by simp) _⟩

set_option maxRecDepth 100000 in
set_option maxHeartbeats 1500000 in
theorem compact_Lab (D : List TLab) (rest : List Value) (gb n cap : Nat) (w : World) (hR : SRowLab w w gb rest D) (hn : D.length = n) (hnc : n ≤ cap) (hn60 : n < 1152921504606846976) (hcm : cap ≤ maxLen) :
    Calls Try.prog 105 #[.slice (some ⟨gb, 0, none⟩) n cap, .func (.func 106) #[] #[]] w fun e w' => ∃ m rest', e = .returned (.slice (some ⟨gb, 0, none⟩) m cap) ∧ m = (dd D).length ∧ rest'.length = (n - m) * 2 + rest.length ∧ SRowLab w w' gb rest' (dd D) := by
  have hf : ∀ x : TLab, (tLab x).length = 2 := fun _ => rfl
  have HR := Lib.hid hR
  have HN := Lib.hid hn
  unfold maxLen at hcm
  clear hR hn
  by_cases h2 : n < 2
  · have HE := Lib.hid (dd_short D (by rw [HN.out]; exact h2))
    clear hf
    go_enter Try.func105, Try.ntmps105
    go_wp2_with fail
    go_ret
    exact ⟨n, rest, rfl, by rw [HE.out, HN.out], by simp, by rw [HE.out]; exact HR.out⟩
  · have hf' := Lib.hid hf
    clear hf
    go_enter Try.func105, Try.ntmps105
    go_wp2_with fail
    go_loopw [5] (fun vk wr => ∃ k : Nat, vk = .int .i64 k ∧ 0 < k ∧ k ≤ n ∧ Hid (SRowLab w wr gb rest D) ∧ Hid (dd (D.take k) = D.take k)) (fun vk _ => n - (intOf vk).toNat)
    case atStart => exact ⟨1, rfl, by omega, by omega, HR.out, dd_short _ (by simp; omega)⟩
    case round =>
      obtain ⟨k, rfl, hk0, hkn, hS, hP⟩ := hrel
      obtain ⟨wp, rfl⟩ : ∃ wp : World, wp = wr := ⟨_, rfl⟩
      by_cases hlt : k < n
      · obtain ⟨kp, hkp⟩ : ∃ kp, k - 1 = kp := ⟨_, rfl⟩
        have hkl : k < D.length := by rw [HN.out]; exact hlt
        have hpl : kp < D.length := by omega
        have f1 : (k : Int) - 1 = (kp : Int) := by omega
        have hpn : kp < n := by omega
        have hX := Lib.hid (cmp_start hk0 hkl hP.out)
        have hY := Lib.hid (cmp_one hk0 hkl hP.out)
        simp only [hkp] at hX hY
        obtain ⟨x, hx⟩ : ∃ x, D[k] = x := ⟨_, rfl⟩
        obtain ⟨y, hy⟩ : ∃ y, D[kp] = y := ⟨_, rfl⟩
        obtain ⟨c0, c1⟩ := hS.out.two hkl
        obtain ⟨p0, p1⟩ := hS.out.two hpl
        rw [hx] at c0 c1 hX hY
        rw [hy] at p0 p1 hX hY
        have w9 : IntKind.i64.wrap (kp : Int) = (kp : Int) := IntWalk.i64_in _ (by omega)
        have HCm := Lib.hid (fun w1 => eqLab x y w1)
        obtain ⟨cv, hcv⟩ : ∃ c, sk x y = c := ⟨_, rfl⟩
        rw [hcv] at HCm hX hY
        have hslt := hS.out.lt
        have hS' := hS
        clear hx hy hcv hkp hkl hpl
        replace c0 := BW.cell c0
        replace c1 := BW.cell c1
        replace p0 := BW.cell p0
        replace p1 := BW.cell p1
        go_upto_region 6 with fail
        refine wp_region_head_lit 10 (fun w' => ∃ p : BW wp, w' = p.w') (by kernel_rfl) (by kernel_rfl) ⟨⟨{ wp with drawn := wp.drawn + 1 }, ⟨rfl, rfl, rfl, Nat.le_refl _, fun _ _ => rfl⟩⟩, rfl⟩ ?_
        simp only [List.take_succ_cons, List.take_zero, List.drop_succ_cons, List.drop_zero]
        repeat (quiet_step (exact rfl))
        refine wpQuiet_nil ?_
        intro w2 hw'
        obtain ⟨⟨_, hb2⟩, e2⟩ := hw'
        dsimp only at e2
        subst e2
        have Hb2 := Lib.hid hb2
        clear hb2
        go_wp2_with fail
        refine (HCm.out _).mono ?_
        rintro e w3 ⟨rfl, hb3'⟩
        have hb3 := Hb2.out.trans (hb3'.mono Hb2.out.size)
        clear hb3'
        have HS3 := Lib.hid (hS'.out.next hb3)
        clear hb3 c0 c1 p0 p1 w9
        cases cv
        · have HP3 := Lib.hid (hY.out rfl)
          go_wp2_with fail
          go_roundw
          case rel => exact ⟨k + 1, by go_num, by omega, by omega, HS3.out, HP3.out⟩
          case measure => simp [intOf]; omega
        · have HI3 := Lib.hid (hX.out rfl)
          obtain ⟨nk, hnk⟩ : ∃ nk, n - k = nk := ⟨_, rfl⟩
          obtain ⟨ck, hck⟩ : ∃ ck, cap - k = ck := ⟨_, rfl⟩
          have hkc : ¬ cap = k := by omega
          clear hX hY f1
          go_wp2_with fail
          go_loopw [5, 7] (fun vi vq wr => ∃ (i q r : Nat) (d : List TLab), vi = .int .i64 i ∧ vq = .int .i64 q ∧ 0 < q ∧ q ≤ nk ∧ i < n ∧ Hid (k + q = r) ∧ Hid (SRowLab w wr gb rest d) ∧ Hid (CmpI D d i r)) (fun _ vq _ => nk - (intOf vq).toNat)
          case atStart => exact ⟨k, 1, k + 1, D, rfl, rfl, by omega, by omega, hlt, rfl, HS3.out, HI3.out⟩
          case round =>
            obtain ⟨i, q, r, d, rfl, rfl, hq0, hqn, hin, hr, hS4, hI4⟩ := hrel
            obtain ⟨wq, rfl⟩ : ∃ wq : World, wq = wr := ⟨_, rfl⟩
            have hdl : Hid (d.length = n) := hI4.out.1.trans HN.out
            by_cases hlq : q < nk
            · obtain ⟨qp, hqp⟩ : ∃ qp, q - 1 = qp := ⟨_, rfl⟩
              have hre := hr.out
              have hrl : r < D.length := by rw [HN.out]; omega
              have hrp : r - 1 < D.length := by omega
              have f1 : (q : Int) - 1 = (qp : Int) := by omega
              have hqpn : qp < nk := by omega
              have hX := Lib.hid (cmp_skip hI4.out hrl)
              have hY := Lib.hid (cmp_put hI4.out hrl)
              obtain ⟨x, hx⟩ : ∃ x, D[r] = x := ⟨_, rfl⟩
              obtain ⟨y, hy⟩ : ∃ y, D[r - 1] = y := ⟨_, rfl⟩
              have g0 := cmp_get hI4.out (show r - 1 ≤ r by omega) hrl
              have g1 := cmp_get hI4.out (Nat.le_refl _) hrp
              have hd1 : k + q < d.length := by rw [hdl.out]; omega
              have hd2 : k + qp < d.length := by rw [hdl.out]; omega
              rw [hx] at g0
              rw [hy] at g1
              rw [← hre, List.getElem?_eq_getElem hd1] at g0
              rw [show r - 1 = k + qp by omega, List.getElem?_eq_getElem hd2] at g1
              obtain ⟨c0, c1⟩ := hS4.out.two hd1
              obtain ⟨p0, p1⟩ := hS4.out.two hd2
              rw [Option.some.inj g0, Nat.add_mul] at c0 c1
              rw [Option.some.inj g1, Nat.add_mul] at p0 p1
              rw [hx] at hX hY
              rw [hy] at hX hY
              have w9 : IntKind.i64.wrap (qp : Int) = (qp : Int) := IntWalk.i64_in _ (by omega)
              have HCm := Lib.hid (fun w1 => eqLab x y w1)
              obtain ⟨cv, hcv⟩ : ∃ c, sk x y = c := ⟨_, rfl⟩
              rw [hcv] at HCm hX hY
              have hslt := hS4.out.lt
              have hS' := hS4
              have hrw := Lib.hid hS4.out.row
              have HC0 := Lib.hid c0
              have HC1 := Lib.hid c1
              clear hx hy hcv hqp hrl hrp g0 g1 hd1 hd2 hre
              replace c0 := BW.cell c0
              replace c1 := BW.cell c1
              replace p0 := BW.cell p0
              replace p1 := BW.cell p1
              go_upto_region 11 with fail
              refine wp_region_head_lit 11 (fun w' => ∃ p : BW wq, w' = p.w') (by kernel_rfl) (by kernel_rfl) ⟨⟨{ wq with drawn := wq.drawn + 1 }, ⟨rfl, rfl, rfl, Nat.le_refl _, fun _ _ => rfl⟩⟩, rfl⟩ ?_
              simp only [List.take_succ_cons, List.take_zero, List.drop_succ_cons, List.drop_zero]
              repeat (quiet_step (first | (go_at_call 106; exact BW.call _ (HCm.out _)) | exact rfl))
              refine wpQuiet_nil ?_
              intro w5 hw'
              obtain ⟨⟨_, hb5⟩, e5⟩ := hw'
              dsimp only at e5
              subst e5
              have HS5 := Lib.hid (hS'.out.next hb5)
              have hcc : ∀ j u, x.1.cells[j]? = some u → w5.cell? (Addr.add ⟨gb, k * 2 + q * 2, none⟩ j) = some u := fun j u hu => by
                have h0 := Below.cell_some hb5 HC0.out
                have h1 := Below.cell_some hb5 HC1.out
                rw [Addr.add_lit]
                rcases j with _ | _ | j
                · rw [Nat.add_zero, h0]; exact hu
                · rw [h1]; exact hu
                · simp [Label.cells] at hu
              have HCc := Lib.hid hcc
              clear hb5 c0 c1 p0 p1 w9 hcc
              cases cv
              · have HI5 := Lib.hid (hY.out rfl)
                have hrw5 := Lib.hid HS5.out.row
                go_wp2_with (first
                  | ((with_reducible refine at_slot 55 ?_); go_must (refine wpList_load_at aggLabel rfl _ rfl ⟨gb, k * 2 + q * 2, none⟩ rfl x.1.cells rfl HCc.out ?_))
                  | ((with_reducible refine at_store 56 ?_); go_must (refine wpList_store_row aggLabel rfl _ _ rfl rfl gb (i * 2) _ x.1.cells.toArray rfl rfl hrw5.out rfl (by simp [flatMap_len hf'.out]; have := hdl.out; omega) rfl ?_)))
                go_roundw
                case rel =>
                  refine ⟨i + 1, q + 1, r + 1, d.set i x, by go_num, by go_num, by omega, by omega, ?_, by have := hr.out; show _ = _; omega, ⟨?_, HS5.out.fr.trans (Fr.setRow (fun k => k = gb) _ gb _ rfl) (fun i hi => .inl hi)⟩, HI5.out⟩
                  · have h := HI5.out.2.1; have h2 := HI5.out.2.2.1; rw [HN.out] at h2; omega
                  · rw [setRow_heap hrw5.out]
                    have e := flatMap_set hf'.out d i x rest (by have := hdl.out; omega)
                    rw [← e]
                    simp [Label.cells, tLab]
                case measure => simp [intOf]; omega
              · have HI5 := Lib.hid (hX.out rfl)
                go_wp2_with fail
                go_roundw
                case rel => exact ⟨i, q + 1, r + 1, d, rfl, by go_num, by omega, by omega, hin, by have := hr.out; show _ = _; omega, HS5.out, HI5.out⟩
                case measure => simp [intOf]; omega
            · have hrn : r = D.length := by have := hr.out; rw [HN.out]; omega
              subst hrn
              have HE := Lib.hid (cmp_end hI4.out)
              have hrw := Lib.hid hS4.out.row
              have hS' := hS4
              go_wp2_with ((with_reducible refine at_slot 61 ?_); go_must (refine wpList_clear_from elemLabel (zero_one (by kernel_rfl)) rfl rfl _ _ _ rfl _ rfl rfl rfl gb n cap i _ rfl rfl hin hnc hrw.out (by simp [flatMap_len hf'.out, hdl.out]) (fun _ => rfl) ?_; intro v zs hzs; have Hz := Lib.hid hzs; clear hzs))
              go_ret
              have hil : i = (dd D).length := by rw [← HE.out, List.length_take, hdl.out]; omega
              refine ⟨i, zs ++ rest, rfl, hil, by rw [List.length_append, Hz.out], ?_, hS'.out.fr.trans (Fr.setRow (fun k => k = gb) _ gb _ rfl) (fun i hi => .inl hi)⟩
              rw [setRow_heap hrw.out]
              have e1 := flatMap_take hf'.out d i rest (by rw [hdl.out]; omega)
              have e2 := flatMap_drop hf'.out d n rest (by rw [hdl.out]; omega)
              have e3 : d.drop n = [] := List.drop_eq_nil_of_le (by rw [hdl.out]; omega)
              rw [HE.out] at e1
              rw [e3] at e2
              simp only [e1, e2]
              simp
      · obtain rfl : k = n := by omega
        have HE : Hid (dd D = D) := by have h := hP.out; rw [List.take_of_length_le (by rw [HN.out]; omega)] at h; exact h
        have hS' := hS
        go_wp2_with fail
        go_ret
        exact ⟨k, rest, rfl, by rw [HE.out, HN.out], by simp, by rw [HE.out]; exact hS'.out⟩
end Go.Proofs.Ytdgjghflaaaflaa
