/- Contracts of slices at api.Object. Condition: the slices read; a row is the call's own. -/
import Derived.Test.YtjncoloedakpoaaDoorVicOwnM
namespace Go.Proofs.YtjncoloedakpoaaDoor
open Go.ChangeShapes Go.WideShapes Go.ChangeAt Go.RowKit Go.Deep

set_option maxHeartbeats 1000000 in
theorem indexFunc_OV (p : OV → Bool) (g : FuncId) (hE : Enters Tryd.prog g) (caps : Array Value) (xs : List OV) (ao : Option Addr) (la ca : Nat) (w : World) (hS : SlR (Flat OV.cells) 47 w ao la ca xs)
    (hp : ∀ (x : OV) (w1 : World), Below w.heap.size w w1 → Calls Tryd.prog g (#[.agg x.cells.toArray] ++ caps) w1 fun e w2 => e = .returned (.bool (p x)) ∧ Below w1.heap.size w1 w2) :
    Calls Tryd.prog 58 #[.slice ao la ca, .func (.func g) #[] caps] w fun e w' => e = .returned (.int .i64 (idxOf p xs 0)) ∧ Below w.heap.size w w' := by
  have ha := hS.hmax; have hac := hS.hcap
  unfold maxLen at ha
  have Hp := Lib.hid hp
  clear hp
  go_enter Tryd.func58, Tryd.ntmps58
  go_wp2_with fail
  go_loopw [8] (fun i wr => ∃ k : Nat, k ≤ la ∧ i = .int .i64 k ∧ Hid (idxOf p xs 0 = idxOf p (xs.drop k) k) ∧ Below w.heap.size w wr) (fun i _ => la - (intOf i).toNat)
  case atStart => exact ⟨0, Nat.zero_le _, rfl, rfl, Below.refl _ _⟩
  case round =>
    obtain ⟨k, hk, rfl, hf, hb⟩ := hrel
    by_cases hlt : k < la
    · obtain ⟨b, off, rfl⟩ := hS.ptr (by decide) (by omega)
      have kx : k < xs.length := by have := hS.hlen; omega
      have hc := (hS.flatKeeps (Keeps.below hb)).flat kx
      have Hc := Lib.hid hc
      have Hb := Lib.hid hb
      have Hd := Lib.hid (idxOf_drop p kx)
      clear hc hb
      have hB := Hb.out.size
      go_wp2_with ((with_reducible refine at_slot 15 ?_); go_must (refine wpList_load_at aggObj rfl _ rfl ⟨b, off + k * 47, none⟩ rfl xs[k].cells (OV.hlen _) (fun j u hu => by rw [Addr.add_lit]; exact Hc.out j u hu) ?_; refine wpList_callv rfl _ _ _ rfl g caps rfl hE [.agg xs[k].cells.toArray] rfl (fun v w2 => v = .bool (p xs[k]) ∧ Below wr.heap.size wr w2) ((Hp.out xs[k] wr Hb.out).mono fun e w2 ⟨h1, h2⟩ => ⟨_, h1, rfl, h2⟩) ?_; intro v w2; rintro ⟨rfl, hb2⟩))
      all_goals have Hb2 := Lib.hid (Hb.out.trans (hb2.mono hB))
      all_goals clear hb2
      · have hp1 : p xs[k] = true := by assumption
        go_ret
        exact ⟨ret_int (by rw [hf.out, Hd.out, if_pos hp1]), Hb2.out⟩
      · have hp1 : p xs[k] = false := by assumption
        go_roundw
        case rel => exact ⟨k + 1, by omega, by go_num, hf.out.trans (by rw [Hd.out, if_neg (by rw [hp1]; decide)]), Hb2.out⟩
        case measure => simp [intOf]; omega
    · have He := Lib.hid (idxOf_end p (xs := xs) (k := k) (by rw [hS.hlen]; omega))
      have Hb := Lib.hid hb
      clear hb
      go_wp2
      go_ret
      exact ⟨ret_int (by rw [hf.out, He.out]), Hb.out⟩


set_option maxHeartbeats 1600000 in
theorem deleteFunc_OV (p : OV → Bool) (g : FuncId) (hE : Enters Tryd.prog g) (caps : Array Value) (xs : List OV) (rest : List Value) (gb n cap : Nat) (w : World)
    (hrow : w.heap[gb]? = some (.cells (xs.flatMap OV.cells ++ rest).toArray 44 (0, 0))) (hn : xs.length = n) (hnc : n ≤ cap) (hcm : cap ≤ maxLen)
    (hp : ∀ (x : OV) (w1 : World), Fr (fun k => k = gb) w w1 → Calls Tryd.prog g (#[.agg x.cells.toArray] ++ caps) w1 fun e w2 => e = .returned (.bool (p x)) ∧ Below w1.heap.size w1 w2) :
    Calls Tryd.prog 45 #[.slice (some ⟨gb, 0, none⟩) n cap, .func (.func g) #[] caps] w fun e w' => ∃ m rest', e = .returned (.slice (some ⟨gb, 0, none⟩) m cap) ∧ m = (xs.filter fun x => !p x).length ∧ rest'.length = (n - m) * 47 + rest.length ∧
      w'.heap[gb]? = some (.cells ((xs.filter fun x => !p x).flatMap OV.cells ++ rest').toArray 44 (0, 0)) ∧ Fr (fun k => k = gb) w w' := by
  have hf : ∀ x : OV, x.cells.length = 47 := fun x => x.hlen
  have hS : SlR (Flat OV.cells) 47 w (some ⟨gb, 0, none⟩) n cap xs := by
    refine ⟨hn, hnc, hcm, (fun h => by cases h), fun a ha i hi => ?_⟩
    obtain rfl := Option.some.inj ha
    refine ⟨xs[i].cells, xs[i].hlen, fun j u hu => ?_, rfl⟩
    have hj : j < 47 := OV.hlen _ ▸ (List.getElem?_eq_some_iff.1 hu).1
    rw [Addr.add_lit, Nat.zero_add, cell_of_row _ gb _ _ _ (0, 0) hrow, List.getElem?_toArray, List.getElem?_append_left (by rw [flatMap_len hf]; omega), flatMap_get hf xs i j hi hj, hu]
  unfold maxLen at hcm
  rcases idxOf_spec p xs 0 with ⟨h1, h2⟩ | ⟨j0, hj0, h1, h2, h3⟩
  · have H1 := Lib.hid h1
    have hfil : (xs.filter fun x => !p x) = xs := List.filter_eq_self.2 fun x hx => by rw [h2 x hx]; rfl
    have H2 := Lib.hid hfil
    have Hrow := Lib.hid hrow
    have Hn := Lib.hid hn
    clear h1 h2 hrow hfil hn
    go_enter Tryd.func45, Tryd.ntmps45
    go_wp2_with fail
    refine (indexFunc_OV p g hE caps xs _ n cap w hS (fun x w1 hb => hp x w1 (Fr.of_below hb _))).mono ?_
    rintro e w2 ⟨he, hb⟩
    rw [H1.out] at he
    subst he
    have Hb := Lib.hid hb
    clear hb hp
    go_wp2
    go_ret
    refine ⟨n, rest, rfl, by rw [H2.out, Hn.out], by simp, ?_, Fr.of_below Hb.out _⟩
    rw [H2.out]
    exact (Fr.of_below Hb.out (fun _ => False)).heap Hrow.out (fun h => h)
  · have H1 := Lib.hid h1
    have Hp := Lib.hid hp
    have hj0n : j0 < n := by omega
    have e0 : (xs.take (j0 + 1)).filter (fun x => !p x) = xs.take j0 := by
      rw [filter_take_succ _ _ _ hj0, h2]
      simp only [Bool.not_true, Bool.false_eq_true, if_false, List.append_nil]
      exact List.filter_eq_self.2 fun x hx => by rw [h3 x hx]; rfl
    have E0 := Lib.hid e0
    have Hrow := Lib.hid hrow
    have Hn := Lib.hid hn
    have Hj := Lib.hid hj0
    clear h1 h2 h3 hp e0 hrow hn hj0
    rw [Nat.zero_add] at H1
    have hjm : ((j0 : Int) == -1) = false := by rw [beq_eq_false_iff_ne]; omega
    go_enter Tryd.func45, Tryd.ntmps45
    go_wp2_with fail
    refine (indexFunc_OV p g hE caps xs _ n cap w hS (fun x w1 hb => Hp.out x w1 (Fr.of_below hb _))).mono ?_
    rintro e w2 ⟨he, hb⟩
    rw [H1.out] at he
    subst he
    have Hb := Lib.hid hb
    clear hb
    go_wp2_with fail
    go_loopw [5, 6] (fun wi ri wr => ∃ (q r : Nat) (ys : List OV), q < r ∧ r ≤ n ∧ wi = .int .i64 q ∧ ri = .int .i64 r ∧ Hid (DelInv (fun x => !p x) xs ys q r) ∧
      Hid (wr.heap[gb]? = some (.cells (ys.flatMap OV.cells ++ rest).toArray 44 (0, 0))) ∧ Hid (Fr (fun k => k = gb) w wr)) (fun _ ri _ => n - (intOf ri).toNat)
    case atStart =>
      refine ⟨j0, j0 + 1, xs, by omega, by omega, rfl, by go_num, ⟨rfl, ?_, E0.out.symm, rfl⟩, ?_, Fr.of_below Hb.out _⟩
      · rw [E0.out, List.length_take]; have := Hj.out; omega
      · exact (Fr.of_below Hb.out (fun _ => False)).heap Hrow.out (fun h => h)
    case round =>
      obtain ⟨q, r, ys, hqr, hrn, rfl, rfl, hI, hrw, hfr⟩ := hrel
      by_cases hlt : r < n
      · have hrx : r < xs.length := by rw [Hn.out]; exact hlt
        have hry : r < ys.length := by rw [hI.out.1]; exact hrx
        have hyx : ys[r] = xs[r] := by
          have h5 := hI.out.2.2.2
          rw [List.drop_eq_getElem_cons hry, List.drop_eq_getElem_cons hrx] at h5
          exact (List.cons.inj h5).1
        have hc : ∀ j u, xs[r].cells[j]? = some u → wr.cell? (Addr.add ⟨gb, r * 47, none⟩ j) = some u := fun j u hu => by
          have hj : j < 47 := OV.hlen _ ▸ (List.getElem?_eq_some_iff.1 hu).1
          rw [Addr.add_lit, cell_of_row _ gb _ _ _ (0, 0) hrw.out, List.getElem?_toArray, List.getElem?_append_left (by rw [flatMap_len hf]; omega), flatMap_get hf ys r j hry hj, hyx, hu]
        have Hc := Lib.hid hc
        have Hyx := Lib.hid hyx
        clear hc hyx
        obtain ⟨b, hbq⟩ : ∃ b, p xs[r] = b := ⟨_, rfl⟩
        have Hbq := Lib.hid hbq
        clear hbq
        have hgb : gb < wr.heap.size := (Array.getElem?_eq_some_iff.1 hrw.out).1
        have hsz := hfr.out.size
        cases b
        · go_wp2_with (first
            | ((with_reducible refine at_slot 25 ?_); go_must (refine wpList_load_at aggObj rfl _ rfl ⟨gb, r * 47, none⟩ rfl xs[r].cells (OV.hlen _) Hc.out ?_; refine wpList_var aggObj rfl rfl rfl _ _ rfl rfl xs[r].cells.toArray rfl rfl (by simp [OV.hlen]) (by simpa using (xs[r]).one) ?_))
            | ((with_reducible refine at_slot 27 ?_); go_must (refine wpList_load_at aggObj rfl _ rfl ⟨wr.heap.size, 0, none⟩ rfl xs[r].cells (OV.hlen _) (fun j u hu => by rw [cell_new]; simpa using hu) ?_; refine wpList_callv rfl _ _ _ rfl g caps rfl hE [.agg xs[r].cells.toArray] rfl (fun v w2 => v = .bool (p xs[r]) ∧ Below (wr.heap.size + 1) (wr.alloc (.cells xs[r].cells.toArray 44)) w2) ((Hp.out xs[r] _ (hfr.out.alloc _)).mono fun e w2 ⟨h1, h2⟩ => ⟨_, h1, rfl, by simpa using h2⟩) ?_; intro v w3; rintro ⟨hv, hb3⟩; rw [Hbq.out] at hv; subst hv; have Hb3 := Lib.hid (after_var hb3); clear hb3))
            | ((with_reducible refine at_slot 32 ?_); go_must (refine wpList_load_at aggObj rfl _ rfl ⟨wr.heap.size, 0, none⟩ rfl xs[r].cells (OV.hlen _) (fun j u hu => Hb3.out.keeps _ _ (by rw [cell_new]; simpa using hu)) ?_))
            | ((with_reducible refine at_store 33 ?_); go_must (refine wpList_store_row aggObj rfl _ _ rfl rfl gb (q * 47) _ xs[r].cells.toArray rfl rfl (Hb3.out.heap hrw.out) (by simp [OV.hlen]) (by simp [flatMap_len hf]; omega) (by simpa using (xs[r]).one) ?_)))
          go_roundw
          case rel =>
            refine ⟨q + 1, r + 1, ys.set q xs[r], by omega, by omega, by go_num, by go_num, del_keep hI.out hrx (by rw [Hbq.out]; rfl) hqr, ?_, ?_⟩
            · show _ = _
              rw [setRow_heap (Hb3.out.heap hrw.out)]
              rw [← List.append_assoc, flatMap_set hf ys q xs[r] rest (by have := hI.out.1; have := Hn.out; omega)]
            · exact (hfr.out.then (Hb3.out.below.mono (Nat.le_refl _))).trans (Fr.setRow (fun k => k = gb) _ gb _ rfl) (fun i hi => .inl hi)
          case measure => simp [intOf]; omega
        · go_wp2_with (first
            | ((with_reducible refine at_slot 25 ?_); go_must (refine wpList_load_at aggObj rfl _ rfl ⟨gb, r * 47, none⟩ rfl xs[r].cells (OV.hlen _) Hc.out ?_; refine wpList_var aggObj rfl rfl rfl _ _ rfl rfl xs[r].cells.toArray rfl rfl (by simp [OV.hlen]) (by simpa using (xs[r]).one) ?_))
            | ((with_reducible refine at_slot 27 ?_); go_must (refine wpList_load_at aggObj rfl _ rfl ⟨wr.heap.size, 0, none⟩ rfl xs[r].cells (OV.hlen _) (fun j u hu => by rw [cell_new]; simpa using hu) ?_; refine wpList_callv rfl _ _ _ rfl g caps rfl hE [.agg xs[r].cells.toArray] rfl (fun v w2 => v = .bool (p xs[r]) ∧ Below (wr.heap.size + 1) (wr.alloc (.cells xs[r].cells.toArray 44)) w2) ((Hp.out xs[r] _ (hfr.out.alloc _)).mono fun e w2 ⟨h1, h2⟩ => ⟨_, h1, rfl, by simpa using h2⟩) ?_; intro v w3; rintro ⟨hv, hb3⟩; rw [Hbq.out] at hv; subst hv; have Hb3 := Lib.hid (after_var hb3); clear hb3)))
          go_roundw
          case rel => exact ⟨q, r + 1, ys, by omega, by omega, rfl, by go_num, del_drop hI.out hrx (by rw [Hbq.out]; rfl), Hb3.out.heap hrw.out, hfr.out.then (Hb3.out.below.mono (Nat.le_refl _))⟩
          case measure => simp [intOf]; omega
      · have He := Lib.hid (del_end hI.out (by rw [Hn.out]; omega))
        have hqn : q < n := by omega
        have hyl : Hid (ys.length = n) := hI.out.1.trans Hn.out
        go_wp2_with ((with_reducible refine at_slot 38 ?_); go_must (refine wpList_clear_from elemObj (zero_one (by kernel_rfl)) rfl rfl _ _ _ rfl _ rfl rfl rfl gb n cap q _ rfl rfl hqn hnc hrw.out (by simp [flatMap_len hf, hyl.out]) (fun _ => rfl) ?_; intro v zs hzs; have Hz := Lib.hid hzs; clear hzs))
        go_ret
        refine ⟨q, zs ++ rest, ?_, He.out.1, by rw [List.length_append, Hz.out], ?_, hfr.out.trans (Fr.setRow (fun k => k = gb) _ gb _ rfl) (fun i hi => .inl hi)⟩
        · rfl
        · rw [setRow_heap hrw.out]
          have e1 := flatMap_take hf ys q rest (by rw [hyl.out]; omega)
          have e2 := flatMap_drop hf ys n rest (by rw [hyl.out]; omega)
          have e3 : ys.drop n = [] := List.drop_eq_nil_of_le (by rw [hyl.out]; omega)
          rw [He.out.2] at e1
          rw [e3] at e2
          simp only [e1, e2]
          simp

theorem wpList_append_many {P : Program} {ops : Array Oper} {rest : List Oper} {o : Oper} {a : Act} {w : World} {Q : Exit → Act → World → Prop} {t e : TypeId} {size bytes : Nat} (E : ElemOK P t e size bytes)
    (hgd : o.guard = none) (s x : Operand) (ho : o.op = .call { callee := .builtin .append, args := #[s, x], argTypes := #[t, t] })
    (B : Nat) (v : Value) (n : Nat) (xs : List Value) (hs : a.eval s = v) (hown : w.ownsRow B e size v n xs) (hB : B ≤ w.heap.size)
    (ad : Addr) (m c : Nat) (news : List Value) (hx : a.eval x = .slice (some ad) m c) (hl : news.length = m * size) (hnews : ∀ j u, news[j]? = some u → w.cell? (ad.add j) = some u) (h1 : news.all (fun u => u.oneCell') = true)
    (h63 : n + m ≤ maxLen) (hbytes : (n + m) * bytes ≤ 140737488355328)
    (h : ∀ v' w', w'.ownsRow B e size v' (n + m) (xs ++ news) → w.grownBy w' v.ownBlock → wpList P ops Q rest (a.put o.dst v') w') : wpList P ops Q (o :: rest) a w := by
  obtain ⟨i, z, hi, hz, h2, h3, h4⟩ := E.info
  exact wpList_append_own _ hgd s x t ho B e i z size bytes E.under hi hz h2 h3 h4 E.pos v n xs hs hown ad m c news hx hl hnews (List.all_eq_true.1 h1) h63 hbytes hB fun v' w' h1 h2 _ => h v' w' h1 h2

theorem zeroObjs (w : World) : (Instr.buildSlice 45 0 (([] : List (Nat × Value))).toArray).run Tryd.prog w = .ok (.slice (some ⟨w.heap.size, 0, none⟩) 0 0) (w.alloc (.cells #[] 44)) := by kernel_rfl

set_option maxRecDepth 100000 in
set_option maxHeartbeats 1000000 in
theorem clone_Obj (B : Nat) (v : Value) (n : Nat) (xs : List Value) (w : World) (hown : w.ownsRow B 44 47 v n xs) (h1 : xs.all (fun u => u.oneCell') = true) (hn : n ≤ 10000) :
    Calls Tryd.prog 46 #[v] w fun e w' => ∃ v', e = .returned v' ∧ w'.ownsRow w.heap.size 44 47 v' n xs ∧ Below w.heap.size w w' := by
  rcases hown.2 with ⟨rfl, rfl⟩ | ⟨g, cap, cur, rfl, hbg, hg, hnc, hcm, hcs, htake⟩
  · have hx : xs = [] := List.eq_nil_of_length_eq_zero (by simpa using hown.1)
    subst hx
    clear h1 hn hown
    have hq : ∀ w, (binOp .eql 45 (.slice none 0 0) (.slice none 0 0)).run Tryd.prog w = .ok (.bool true) w := fun _ => by kernel_rfl
    go_enter Tryd.func46, Tryd.ntmps46
    go_wp2
    go_ret
    exact ⟨_, rfl, World.ownsRow_nil _ _ _ _, Below.refl _ _⟩
  · have HC := Lib.hid ((hown.alloc (.cells #[] 44)).cells (g := g) rfl)
    have HL := Lib.hid hown.1
    have H1 := Lib.hid h1
    clear hown htake hcm hcs hg hnc hbg h1
    have hq : ∀ w, (binOp .eql 45 (.slice (some ⟨g, 0, none⟩) n cap) (.slice none 0 0)).run Tryd.prog w = .ok (.bool false) w := fun _ => by kernel_rfl
    go_enter Tryd.func46, Tryd.ntmps46
    go_wp2_with (first | ((with_reducible refine at_slot 5 ?_); go_must (refine wpList_buildSlice rfl 45 0 _ rfl [] rfl _ _ zeroObjs ?_)) | ((with_reducible refine at_slot 7 ?_); go_must (refine wpList_append_many elemObj rfl _ _ rfl w.heap.size _ 0 [] rfl (World.ownsRow_made w _ 0 (Nat.le_refl _) (by decide) rfl) (by rw [World.size_alloc]; omega) _ n _ xs rfl (by exact HL.out) (by exact HC.out) H1.out (by unfold maxLen; omega) (by omega) ?_; intro v2 w2 hown2 hgr2)))
    go_ret
    rw [Nat.zero_add, List.nil_append] at hown2
    exact ⟨_, rfl, hown2, ((Below.refl _ w).alloc (Nat.le_refl _) _).grown hgr2 (by rw [World.size_alloc]; omega) (fun k hk => by cases hk; exact Nat.le_refl _)⟩

end Go.Proofs.YtjncoloedakpoaaDoor
