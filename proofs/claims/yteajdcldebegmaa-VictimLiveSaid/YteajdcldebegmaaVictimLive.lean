/- VictimLive holds: an owner's pods are those that aren't failed, and those that are, in order. No condition. -/
import Derived.Test.YteajdcldebegmaaVictimLiveLift
import Derived.Test.YteajdcldebegmaaVictimWalk
namespace Go.Proofs.Yteajdcldebegmaa
open Go.ChangeShapes Go.WideShapes Go.ChangeAt Go.RowKit Go.Deep

/-- The next one that a filter keeps. -/
theorem filter_next {α : Type} (p : α → Bool) (l : List α) {k : Nat} (hk : k < l.length) (hp : p l[k] = true) : (l.filter p)[((l.take k).filter p).length]? = some l[k] := by
  have e : l.filter p = (l.take k).filter p ++ (l[k] :: (l.drop (k + 1)).filter p) := by
    conv => lhs; rw [← List.take_append_drop k l]
    rw [List.filter_append, List.drop_eq_getElem_cons hk, List.filter_cons, if_pos hp]
  rw [e, List.getElem?_append_right (Nat.le_refl _), Nat.sub_self]
  rfl

set_option maxRecDepth 100000 in
set_option maxHeartbeats 4000000 in
theorem victimLive_core (l : List OV) (s : ByteArray) (ao : Option Addr) (n cap : Nat) (w : World) (hS : SlR (Flat OV.cells) 47 w ao n cap l) :
    Calls Try.prog 3 #[.slice ao n cap, .string s] w fun e w' => e = .returned (.bool true) ∧ Below w.heap.size w w' := by
  have hcm := hS.hmax
  have hlc := hS.hcap
  unfold maxLen at hcm
  have HS := Lib.hid hS
  clear hS
  by_cases hbig : 60 < n
  · go_enter Try.func3, Try.ntmps3
    go_wp2_with fail
    refine (lives15 _).mono ?_
    rintro e w1 ⟨rfl, hb1⟩
    have H1 := Lib.hid hb1
    clear hb1
    go_wp2_with fail
    refine (lives15 _).mono ?_
    rintro e w2 ⟨rfl, hb2⟩
    have H2 := Lib.hid (H1.out.trans (hb2.mono H1.out.size))
    clear hb2
    go_wp2_with fail
    go_ret
    exact ⟨rfl, H2.out⟩
  have hsm : n ≤ 60 := by omega
  go_enter Try.func3, Try.ntmps3
  go_wp2_with fail
  refine (lives15 _).mono ?_
  rintro e w1 ⟨rfl, hb1⟩
  have H1 := Lib.hid hb1
  have HS1 := Lib.hid (HS.out.flatKeeps (Keeps.below hb1))
  clear hb1
  go_wp2_with fail
  refine (live_any s l ao n cap w1 HS1.out (by omega)).mono ?_
  rintro e w2 ⟨v1, v2, rfl, hO1, hO2, hb2⟩
  obtain ⟨a1, c1, rfl, S1, _⟩ := SlR.of_owns (f := OV.cells) (sz := 47) hO1 rfl OV.hlen
  obtain ⟨a2, c2, rfl, S2, _⟩ := SlR.of_owns (f := OV.cells) (sz := 47) hO2 rfl OV.hlen
  have H2 := Lib.hid (H1.out.trans (hb2.mono H1.out.size))
  have HS2 := Lib.hid (HS1.out.flatKeeps (Keeps.below hb2))
  obtain ⟨F1, hF1⟩ : ∃ F, l.filter (isLive s) = F := ⟨_, rfl⟩
  obtain ⟨F2, hF2⟩ : ∃ F, l.filter (isDead s) = F := ⟨_, rfl⟩
  rw [hF1] at S1 ⊢
  rw [hF2] at S2 ⊢
  have g1 : F1.length ≤ 60 := by rw [← hF1]; exact Nat.le_trans (List.length_filter_le _ _) (by rw [HS.out.hlen]; exact hsm)
  have g2 : F2.length ≤ 60 := by rw [← hF2]; exact Nat.le_trans (List.length_filter_le _ _) (by rw [HS.out.hlen]; exact hsm)
  have HF1 := Lib.hid hF1
  have HF2 := Lib.hid hF2
  have HS1' := Lib.hid S1
  have HS2' := Lib.hid S2
  obtain ⟨n1, hn1⟩ : ∃ n1, F1.length = n1 := ⟨_, rfl⟩
  obtain ⟨n2, hn2⟩ : ∃ n2, F2.length = n2 := ⟨_, rfl⟩
  rw [hn1] at g1 HS1' ⊢
  rw [hn2] at g2 HS2' ⊢
  have Hn1 := Lib.hid hn1
  have Hn2 := Lib.hid hn2
  clear hO1 hO2 hb2 S1 S2 hF1 hF2 hn1 hn2
  go_wp2_with fail
  go_loopw [7, 8, 27] (fun i7 i8 i wr => ∃ (k d1 d2 : Nat), k ≤ n ∧ i = .int .i64 k ∧ i7 = .int .i64 d1 ∧ i8 = .int .i64 d2 ∧ Hid (((l.take k).filter (isLive s)).length = d1) ∧ Hid (((l.take k).filter (isDead s)).length = d2) ∧ d1 ≤ n1 ∧ d2 ≤ n2 ∧ Hid (Below w2.heap.size w2 wr)) (fun _ _ i _ => n - (intOf i).toNat)
  case atStart => exact ⟨0, 0, 0, Nat.zero_le _, rfl, rfl, rfl, rfl, rfl, Nat.zero_le _, Nat.zero_le _, Below.refl _ _⟩
  case round =>
    obtain ⟨k, d1, d2, hk, rfl, rfl, rfl, hd1, hd2, hl1, hl2, hb⟩ := hrel
    obtain ⟨wq, rfl⟩ : ∃ wq : World, wq = wr := ⟨_, rfl⟩
    by_cases hlt : k < n
    · have hSq := HS2.out.flatKeeps (Keeps.below hb.out)
      obtain ⟨b0, off, rfl⟩ := hSq.ptr (by decide) (by omega)
      have kx : k < l.length := by have := hSq.hlen; omega
      have hcl := hSq.flat kx
      have f1 := filter_take_succ (isLive s) l k kx
      have f2 := filter_take_succ (isDead s) l k kx
      have q1 := filter_next (isLive s) l kx
      have q2 := filter_next (isDead s) l kx
      rw [hd1.out, HF1.out] at q1
      rw [hd2.out, HF2.out] at q2
      obtain ⟨x, hx⟩ : ∃ x, l[k] = x := ⟨_, rfl⟩
      rw [hx] at hcl f1 f2 q1 q2
      have E1 : Hid (((l.take (k + 1)).filter (isLive s)).length = d1 + (if isLive s x then 1 else 0)) := by
        show _ = _
        rw [f1, List.length_append, hd1.out]
        split <;> rfl
      have E2 : Hid (((l.take (k + 1)).filter (isDead s)).length = d2 + (if isDead s x then 1 else 0)) := by
        show _ = _
        rw [f2, List.length_append, hd2.out]
        split <;> rfl
      have Q1 := Lib.hid q1
      have Q2 := Lib.hid q2
      have Hcl := Lib.hid hcl
      have hsz := hb.out.size
      clear hcl hSq hx f1 f2 q1 q2
      have Hn1w : ∀ j u, x.cells[j]? = some u → (wq.alloc (.cells x.cells.toArray 48)).cell? (Addr.add ⟨wq.heap.size, 0, none⟩ j) = some u := fun j u hu => (cell_new wq _ _ j).trans (by simpa using hu)
      obtain ⟨W, hW⟩ : ∃ W, wq.alloc (.cells x.cells.toArray 48) = W := ⟨_, rfl⟩
      obtain ⟨xb, hxb⟩ : ∃ xb, wq.heap.size = xb := ⟨_, rfl⟩
      have hbW : Below w2.heap.size w2 W := by rw [← hW]; exact hb.out.alloc hsz _
      have hxW : xb < W.heap.size := by rw [← hW, ← hxb]; simp
      rw [hW, hxb] at Hn1w
      have x0 := Hn1w 0 _ x.h0
      have x1 := Hn1w 1 _ x.h1
      have x10 := Hn1w 10 _ x.h10
      have x12 := Hn1w 12 _ x.h12
      have x13 := Hn1w 13 _ x.h13
      rw [Addr.add_lit, Nat.zero_add] at x0 x1 x10 x12 x13
      have HbW := Lib.hid hbW
      clear Hn1w hbW
      have xs0 : (x.since == x.since) = true := beq_self_eq_true _
      cases hm : isMine s x
      · rw [show isLive s x = false by unfold isLive; rw [hm]; rfl] at E1
        rw [show isDead s x = false by unfold isDead; rw [hm]; rfl] at E2
        unfold isMine at hm
        cases hk1 : (x.kind == 1)
        · clear hm
          have hk2 : ¬ x.kind = 1 := by simpa using hk1
          go_wp2_with (first
            | ((with_reducible refine at_slot 30 ?_); go_must (refine wpList_load_at aggObj rfl _ rfl ⟨b0, off + k * 47, none⟩ rfl x.cells x.hlen (fun j u hu => by rw [Addr.add_lit]; exact Hcl.out j u hu) ?_))
            | ((with_reducible refine at_slot 10 ?_); go_must (refine wpList_var aggObj rfl rfl rfl _ _ rfl rfl x.cells.toArray rfl rfl (by simp [OV.hlen]) (by simpa using x.one) ?_; rw [hW, hxb])))
          go_roundw
          case rel => exact ⟨k + 1, d1, d2, by omega, by go_num, rfl, rfl, E1.out, E2.out, hl1, hl2, HbW.out⟩
          case measure => simp [intOf]; omega
        · rw [hk1] at hm
          have hw : (x.owner.toList == s.toList) = false := by simpa using hm
          have hk2 : x.kind = 1 := by simpa using hk1
          rw [hk2] at x0
          clear hm hk1 hk2
          go_wp2_with (first
            | ((with_reducible refine at_slot 30 ?_); go_must (refine wpList_load_at aggObj rfl _ rfl ⟨b0, off + k * 47, none⟩ rfl x.cells x.hlen (fun j u hu => by rw [Addr.add_lit]; exact Hcl.out j u hu) ?_))
            | ((with_reducible refine at_slot 10 ?_); go_must (refine wpList_var aggObj rfl rfl rfl _ _ rfl rfl x.cells.toArray rfl rfl (by simp [OV.hlen]) (by simpa using x.one) ?_; rw [hW, hxb])))
          go_roundw
          case rel => exact ⟨k + 1, d1, d2, by omega, by go_num, rfl, rfl, E1.out, E2.out, hl1, hl2, HbW.out⟩
          case measure => simp [intOf]; omega
      · have hm' := hm
        unfold isMine at hm'
        rw [Bool.and_eq_true] at hm'
        obtain ⟨hk1, hw⟩ := hm'
        have hk2 : x.kind = 1 := by simpa using hk1
        rw [hk2] at x0
        clear hk1 hk2
        by_cases h3 : x.phase = 3
        · have hd : isDead s x = true := by unfold isDead; rw [hm, h3]; rfl
          have hq := Q2.out hd
          rw [show isLive s x = false by unfold isLive; rw [hm, h3]; rfl] at E1
          rw [hd] at E2
          rw [h3] at x12
          clear hm h3 hd
          have hdl : d2 < n2 := by
            have := (List.getElem?_eq_some_iff.1 hq).1
            rw [Hn2.out] at this; exact this
          have hSw := HS2'.out.flatKeeps (Keeps.below HbW.out)
          obtain ⟨g, o, rfl⟩ := hSw.ptr (by decide) (by omega)
          have hdx : d2 < F2.length := by rw [Hn2.out]; exact hdl
          have hxe : F2[d2] = x := by
            rw [List.getElem?_eq_getElem hdx] at hq
            exact Option.some.inj hq
          have hcl := hSw.flat hdx
          rw [hxe] at hcl
          have y1 := hcl 1 _ x.h1
          have y13 := hcl 13 _ x.h13
          have hzd : (0 : Int) ≤ (d2 : Int) := by omega
          have hzn : (d2 : Int) < (n2 : Int) := by omega
          clear hSw hcl hxe hdx hq
          go_wp2_with (first
            | ((with_reducible refine at_slot 30 ?_); go_must (refine wpList_load_at aggObj rfl _ rfl ⟨b0, off + k * 47, none⟩ rfl x.cells x.hlen (fun j u hu => by rw [Addr.add_lit]; exact Hcl.out j u hu) ?_))
            | ((with_reducible refine at_slot 10 ?_); go_must (refine wpList_var aggObj rfl rfl rfl _ _ rfl rfl x.cells.toArray rfl rfl (by simp [OV.hlen]) (by simpa using x.one) ?_; rw [hW, hxb])))
          go_quiet (fail)
          go_wp2_with fail
          go_roundw
          case rel => exact ⟨k + 1, d1, d2 + 1, by omega, by go_num, rfl, by go_num, E1.out, E2.out, hl1, by omega, (drewN_below HbW.out _)⟩
          case measure => simp [intOf]; omega
        · have h3' : (x.phase == 3) = false := beq_eq_false_iff_ne.2 h3
          have hd : isLive s x = true := by unfold isLive; rw [hm, h3']; rfl
          have hq := Q1.out hd
          rw [show isDead s x = false by unfold isDead; rw [hm, h3']; rfl] at E2
          rw [hd] at E1
          clear hm hd
          have hdl : d1 < n1 := by
            have := (List.getElem?_eq_some_iff.1 hq).1
            rw [Hn1.out] at this; exact this
          have hSw := HS1'.out.flatKeeps (Keeps.below HbW.out)
          obtain ⟨g, o, rfl⟩ := hSw.ptr (by decide) (by omega)
          have hdx : d1 < F1.length := by rw [Hn1.out]; exact hdl
          have hxe : F1[d1] = x := by
            rw [List.getElem?_eq_getElem hdx] at hq
            exact Option.some.inj hq
          have hcl := hSw.flat hdx
          rw [hxe] at hcl
          have y1 := hcl 1 _ x.h1
          have y13 := hcl 13 _ x.h13
          have hzd : (0 : Int) ≤ (d1 : Int) := by omega
          have hzn : (d1 : Int) < (n1 : Int) := by omega
          clear hSw hcl hxe hdx hq
          go_wp2_with (first
            | ((with_reducible refine at_slot 30 ?_); go_must (refine wpList_load_at aggObj rfl _ rfl ⟨b0, off + k * 47, none⟩ rfl x.cells x.hlen (fun j u hu => by rw [Addr.add_lit]; exact Hcl.out j u hu) ?_))
            | ((with_reducible refine at_slot 10 ?_); go_must (refine wpList_var aggObj rfl rfl rfl _ _ rfl rfl x.cells.toArray rfl rfl (by simp [OV.hlen]) (by simpa using x.one) ?_; rw [hW, hxb])))
          go_quiet (fail)
          go_wp2_with fail
          go_roundw
          case rel => exact ⟨k + 1, d1 + 1, d2, by omega, by go_num, by go_num, rfl, E1.out, E2.out, by omega, hl2, (drewN_below HbW.out _)⟩
          case measure => simp [intOf]; omega
    · obtain rfl : k = n := by omega
      have ht : l.take k = l := List.take_of_length_le (by have := HS.out.hlen; omega)
      have e1 := hd1.out
      have e2 := hd2.out
      rw [ht, HF1.out, Hn1.out] at e1
      rw [ht, HF2.out, Hn2.out] at e2
      subst e1 e2
      clear ht
      go_wp2_with fail
      go_ret
      exact ⟨rfl, H2.out.trans (hb.out.mono H2.out.size)⟩

theorem rel_one : ∀ (s : Sh) {w : World} {cs : List Value}, Rel s w cs → cs.all (fun u => u.oneCell') = true
  | .bool, _, _, ⟨_, h⟩ => by rw [h]; rfl
  | .int _, _, _, ⟨_, h, _⟩ => by rw [h]; rfl
  | .str, _, _, ⟨_, h, _⟩ => by rw [h]; rfl
  | .slice _, _, _, ⟨_, _, _, h, _⟩ => by rw [h]; rfl
  | .pair a b, _, _, ⟨_, _, h, _, h1, h2⟩ => by rw [h, List.all_append, rel_one a h1, rel_one b h2]; rfl
  | .unit, _, _, h => by rw [show _ = [] from h]; rfl

instance : Inhabited OV := ⟨oA⟩

theorem obj_of (W T R : Sh) (hw7 : W.size = 7) (w : World) (c : List Value) (h : Rel (.pair (.int .i64) (.pair .str (.pair (.int .u64) (.pair W (.pair (.pair .str (.pair .str (.pair (.int .i64) (.pair (.int .i64) T)))) R))))) w c) (hl : c.length = 47) : ∃ x : OV, Flat OV.cells w x c := by
  have h1 := rel_one _ h
  obtain ⟨c1, c2, rfl, _, ⟨kind, rfl, _⟩, c3, c4, rfl, _, ⟨name, rfl, _⟩, c5, c6, rfl, _, ⟨ver, rfl, _⟩, cw, c8, rfl, hlw, _, cp, cr, rfl, _, ⟨p1, p2, rfl, _, ⟨owner, rfl, _⟩, p3, p4, rfl, _, ⟨node, rfl, _⟩, p5, p6, rfl, _, ⟨phase, rfl, _⟩, p7, p8, rfl, _, ⟨since, rfl, _⟩, _⟩, _⟩ := h
  rw [hw7] at hlw
  match cw, hlw, hl, h1 with
  | [a0, a1, a2, a3, a4, a5, a6], _, hl, h1 => exact ⟨⟨_, kind, name, owner, phase, since, hl, rfl, rfl, rfl, rfl, rfl, h1⟩, rfl⟩

theorem VictimLive_holds : Rows.VictimLiveSaid := lVictimLive.over fun ao n cap s w h0 _ => by
  obtain ⟨_, _, _, ls, e0, hS⟩ := SlR.of_rel h0 (fun c hc => obj_of _ _ _ rfl w c hc (Rel.length _ hc))
  simp [Value.cells] at e0
  obtain ⟨rfl, rfl, rfl⟩ := e0
  exact victimLive_core ls s _ _ _ w hS
end Go.Proofs.Yteajdcldebegmaa
