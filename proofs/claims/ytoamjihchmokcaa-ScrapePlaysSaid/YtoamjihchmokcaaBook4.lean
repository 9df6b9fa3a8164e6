/- The contract of scrape's Scrape. Condition: the book lies in blocks of the call's own. -/
import Derived.Test.YtoamjihchmokcaaBook3M
namespace Go.Proofs.Ytoamjihchmokcaa
open Go.ChangeShapes Go.WideShapes Go.ChangeAt Go.RowKit Go.Deep Go.Maps

theorem zeroRing (w : World) : (zeroValue 58).run Try.prog w = .ok (.pointer none) w := by kernel_rfl
def ScrapePost (B bb bm most : Nat) (age : Int) (E : List En) (k : List UInt8) (en : En) (x : Sm) (w : World) (e : Ending) (w' : World) : Prop :=
  e = .returned (.tuple #[.int .i64 (if (putOf most en.L x).1 = 0 then x.v else 0), .int .i64 (putOf most en.L x).1]) ∧ BookAt w' B bb bm most age (setL E k (putOf most en.L x).2) ∧ Fr (fun q => q = bm ∨ q = en.rb ∨ q = en.lb) w w'

set_option maxRecDepth 100000 in
set_option maxHeartbeats 2000000 in
theorem scrape_put (B bb bm most : Nat) (age : Int) (E : List En) (at0 : Int) (sub met : ByteArray) (bits : Nat) (w : World) (hB : BookAt w B bb bm most age E) (hbits : bits < 18446744073709551616)
    (hsub : sub.size ≤ maxLen) (hmet : met.size ≤ maxLen) (h : preOf at0 sub met bits = 0) (hlen : E.length ≤ 512) (en : En) (hf : findE E (serBytes sub.data.toList met.data.toList) = some en) :
    Calls Try.prog 6 #[.pointer (some ⟨bb, 0, none⟩), .int .i64 at0, .agg #[.string sub, .string met], .int .u64 bits] w (ScrapePost B bb bm most age E (serBytes sub.data.toList met.data.toList) en ⟨at0, (refOf bits).1⟩ w) := by
  have k0 : (w.alloc (.cells #[.string sub, .string met] 33)).cell? ⟨w.heap.size, 0, none⟩ = some (.string sub) := cell_new w _ _ 0
  have k1 : (w.alloc (.cells #[.string sub, .string met] 33)).cell? ⟨w.heap.size, 1, none⟩ = some (.string met) := cell_new w _ _ 1
  unfold preOf at h
  by_cases h1 : at0 < 0 ∨ 4611686018427387904 < at0
  · rw [if_pos h1] at h; cases h
  rw [if_neg h1] at h
  have g1 : 0 ≤ at0 := by omega
  have g2 : at0 ≤ 4611686018427387904 := by omega
  by_cases h2 : nameOf sub.data.toList = true ∧ nameOf met.data.toList = true
  rotate_left
  · rw [if_neg h2] at h; cases h
  rw [if_pos h2] at h
  have HN : Hid (∀ (s : ByteArray) w1, Calls Try.prog 14 #[.string s] w1 fun e w' => e = .returned (.bool (nameOf s.data.toList)) ∧ w1 = w') := fun s w1 => name_any s w1
  have Hs := Lib.hid h2.1
  have Hm := Lib.hid h2.2
  have HG := Lib.hid (fun w1 => read_any bits w1 hbits)
  obtain ⟨⟨q, r⟩, hqr⟩ : ∃ x, refOf bits = x := ⟨_, rfl⟩
  rw [hqr] at h HG ⊢
  dsimp only at h HG ⊢
  subst h
  have HK := Lib.hid (serKey hsub hmet)
  have HV : Hid ((enMap E (.string (serBytes sub.data.toList met.data.toList))).getD (.pointer none) = .pointer (some ⟨en.rb, 0, none⟩) ∧ (enMap E (.string (serBytes sub.data.toList met.data.toList))).isSome = true) := by
    rw [enMap_str, hf]; exact ⟨rfl, rfl⟩
  have HB := Lib.hid hB
  obtain ⟨el, hel⟩ : ∃ el, E.length = el := ⟨_, rfl⟩
  rw [hel] at hlen
  have Hel := Lib.hid hel
  have Hf := Lib.hid hf
  have hel512 : el < maxLen := by unfold maxLen; omega
  clear h1 h2 hqr hf hB hel hsub hmet hbits
  have hz0 : w.heap.size < (w.alloc (.cells #[.string sub, .string met] 33)).heap.size := by simp
  have hb0 : Below w.heap.size w (w.alloc (.cells #[.string sub, .string met] 33)) := (Below.refl _ _).alloc (Nat.le_refl _) _
  go_enter Try.func6, Try.ntmps6
  go_wp2_with fail
  refine (HN.out _ _).mono ?_
  rintro e w1 ⟨he, rfl⟩
  rw [Hs.out] at he
  subst he
  go_wp2_with fail
  refine (HN.out _ _).mono ?_
  rintro e w1 ⟨he, rfl⟩
  rw [Hm.out] at he
  subst he
  go_wp2_with fail
  refine (HG.out _).mono ?_
  rintro e w1 ⟨rfl, hb⟩
  obtain ⟨w0, hw0⟩ : ∃ w0, w.alloc (.cells #[.string sub, .string met] 33) = w0 := ⟨_, rfl⟩
  rw [hw0] at k0 k1 hb0 hb hz0
  have k0 := Below.cell_some hb k0
  have k1 := Below.cell_some hb k1
  have hbw : Below w.heap.size w w1 := hb0.trans (hb.mono hb0.size)
  have hB1 := HB.out.keep hbw
  obtain ⟨c0, c1, c2⟩ := cells3 hB1.blk
  obtain ⟨lb0, lb1⟩ := HB.out.lt
  have hzw : w.heap.size < w1.heap.size := Nat.lt_of_lt_of_le hz0 hb.size
  have hbbw : bb < w1.heap.size := by omega
  have HM1 := Lib.hid hB1.map
  rw [Hel.out] at HM1
  have Hbw := Lib.hid hbw
  have hB1' := Lib.hid hB1
  have hlk : ∀ n, (Instr.lookup 53 (.map (some bm)) (.agg #[.string sub, .string met]) true).run Try.prog (w1.drewN n) = .ok (.tuple #[.pointer (some ⟨en.rb, 0, none⟩), .bool true]) (w1.drewN n) := fun n => by
    have := (MapIs.same HM1.out (w' := w1.drewN n) rfl).look_ok serKeyed Try.underlying53 (zeroRing _) HK.out
    rw [HV.out.1, HV.out.2] at this
    exact this
  clear hw0 hb0 hb hbw hB1
  go_upto_region 8 with fail
  go_quiet (fail)
  rename_i nq
  obtain ⟨w2, hw2⟩ : ∃ w2, w1.drewN nq = w2 := ⟨_, rfl⟩
  have hB2 : BookAt w2 B bb bm most age E := by rw [← hw2]; exact hB1'.out.keep (below_drewN _ _ _)
  have hb2 : Below w.heap.size w w2 := by rw [← hw2]; exact drewN_below Hbw.out _
  have y0 : w2.cell? ⟨w.heap.size, 0, none⟩ = some (.string sub) := by rw [← hw2]; exact k0
  have y1 : w2.cell? ⟨w.heap.size, 1, none⟩ = some (.string met) := by rw [← hw2]; exact k1
  have HB2 := Lib.hid hB2
  have Hb2 := Lib.hid hb2
  have hzw2 : w.heap.size < w2.heap.size := by rw [← hw2]; exact hzw
  rw [hw2]
  clear hw2 hB2 hb2 k0 k1 c0 c1 c2 hlk hzw hbbw
  have hRe := HB2.out.rings en (findE_mem Hf.out)
  go_wp2_with fail
  refine (put_any en.rb en.lb most en.L ⟨at0, q⟩ w2 hRe g1).mono ?_
  rintro e w3 ⟨rfl, hR3, hF3⟩
  have hB3 := HB2.out.put Hf.out hR3 hF3 (putOf_pos (HB2.out.pos en (findE_mem Hf.out)) g1)
  obtain ⟨c, hc⟩ : ∃ c, (putOf most en.L ⟨at0, q⟩).1 = c := ⟨_, rfl⟩
  obtain ⟨L', hL'⟩ : ∃ L', (putOf most en.L ⟨at0, q⟩).2 = L' := ⟨_, rfl⟩
  rw [hL'] at hB3
  rw [hc]
  have Hc := Lib.hid hc
  have HL' := Lib.hid hL'
  have hlt := HB2.out.lt
  have hrl := hRe.lt
  have hb3 : Below B w2 w3 := hF3.below (by have := HB2.out.base.1; omega) (fun k hk => by have := HB2.out.base.2.2 en (findE_mem Hf.out); omega)
  have hrl0 := (HB.out.rings en (findE_mem Hf.out)).lt
  have z0 := hF3.cell y0 (by show ¬ (w.heap.size = en.rb ∨ w.heap.size = en.lb); omega)
  have z1 := hF3.cell y1 (by show ¬ (w.heap.size = en.rb ∨ w.heap.size = en.lb); omega)
  have hBw : B ≤ w.heap.size := by have := HB.out.base.1; have := HB.out.lt.1; omega
  have Hb3 : Hid (Fr (fun q => q = bm ∨ q = en.rb ∨ q = en.lb) w w3) := (Fr.of_below Hb2.out _).trans hF3 (fun _ h => .inl (.inr h))
  obtain ⟨c0, c1, c2⟩ := cells3 hB3.blk
  obtain ⟨lb0, lb1⟩ := hB3.lt
  have HB3 := Lib.hid hB3
  have hzw3 : w.heap.size < w3.heap.size := Nat.lt_of_lt_of_le hzw2 hb3.size
  clear hR3 hF3 hRe hc hL' y0 y1 hb3 hB3 hlt hrl hrl0 hBw
  by_cases h0 : c = 0
  · subst h0
    have HE : Hid (findE (setL E (serBytes sub.data.toList met.data.toList) L') (serBytes sub.data.toList met.data.toList) = some { en with L := L' }) := by
      show _ = _
      rw [findE_setL, Hf.out]
      show some (if en.key = _ then _ else _) = _
      rw [if_pos (findE_key Hf.out)]
    have hsm : (enMap (setL E (serBytes sub.data.toList met.data.toList) L') (.string (serBytes sub.data.toList met.data.toList))).isSome = true := by rw [enMap_str, HE.out]; rfl
    obtain ⟨w4, hrun4, hown4, hturn4⟩ := MapIs.store (w := w3.drew) (MapIs.same HB3.out.map rfl) serKeyed Try.underlying53 (by rw [setL_len, Hel.out]; exact hel512) (val := .pointer (some ⟨en.rb, 0, none⟩)) HK.out
    rw [hsm, if_pos rfl, show Value.pointer (some ⟨en.rb, 0, none⟩) = En.ptr { en with L := L' } from rfl, enMap_same _ HE.out] at hown4
    have Hown4 := Lib.hid hown4
    have Hturn4 := Lib.hid hturn4
    clear hown4 hturn4 hsm
    go_upto_region 16 with fail
    go_region
    go_wp2_with fail
    go_ret2
    unfold ScrapePost
    rw [HL'.out, Hc.out]
    have hFt : Fr (fun k => k = bm) w3 w4 := (Fr.refl (fun k => k = bm) w3).drew.trans (Fr.turned (fun k => k = bm) Hturn4.out rfl) (fun _ h => .inl h)
    refine ⟨by first | rfl | simp, HB3.out.turn hFt Hown4.out (fun e he => ⟨HB3.out.rings e he, HB3.out.pos e he, HB3.out.base.2.2 e he⟩) HB3.out.keys HB3.out.apart, Hb3.out.trans hFt (fun _ h => .inl (.inl h))⟩
  · have hne : (c == 0) = false := beq_eq_false_iff_ne.2 h0
    have hne2 : (c != 0) = true := bne_iff_ne.2 h0
    have H0 := Lib.hid h0
    clear h0
    go_wp2_with fail
    go_ret2
    unfold ScrapePost
    rw [HL'.out, Hc.out]
    exact ⟨by first | rfl | (rw [if_neg H0.out]; rfl) | simp [H0.out], HB3.out, Hb3.out⟩

set_option maxRecDepth 100000 in
set_option maxHeartbeats 2000000 in
theorem scrape_new (B bb bm most : Nat) (age : Int) (E : List En) (at0 : Int) (sub met : ByteArray) (bits : Nat) (w : World) (hB : BookAt w B bb bm most age E) (hbits : bits < 18446744073709551616)
    (hsub : sub.size ≤ maxLen) (hmet : met.size ≤ maxLen) (h : preOf at0 sub met bits = 0) (hf : findE E (serBytes sub.data.toList met.data.toList) = none) (hl : E.length < 512) :
    Calls Try.prog 6 #[.pointer (some ⟨bb, 0, none⟩), .int .i64 at0, .agg #[.string sub, .string met], .int .u64 bits] w fun e w' => ∃ rb lb, e = .returned (.tuple #[.int .i64 (refOf bits).1, .int .i64 0]) ∧ BookAt w' B bb bm most age (E ++ [⟨sub, met, rb, lb, [⟨at0, (refOf bits).1⟩]⟩]) ∧ w.heap.size ≤ rb ∧ w.heap.size ≤ lb ∧ Fr (fun q => q = bm) w w' := by
  have k0 : (w.alloc (.cells #[.string sub, .string met] 33)).cell? ⟨w.heap.size, 0, none⟩ = some (.string sub) := cell_new w _ _ 0
  have k1 : (w.alloc (.cells #[.string sub, .string met] 33)).cell? ⟨w.heap.size, 1, none⟩ = some (.string met) := cell_new w _ _ 1
  unfold preOf at h
  by_cases h1 : at0 < 0 ∨ 4611686018427387904 < at0
  · rw [if_pos h1] at h; cases h
  rw [if_neg h1] at h
  have g1 : 0 ≤ at0 := by omega
  have g2 : at0 ≤ 4611686018427387904 := by omega
  by_cases h2 : nameOf sub.data.toList = true ∧ nameOf met.data.toList = true
  rotate_left
  · rw [if_neg h2] at h; cases h
  rw [if_pos h2] at h
  have HN : Hid (∀ (s : ByteArray) w1, Calls Try.prog 14 #[.string s] w1 fun e w' => e = .returned (.bool (nameOf s.data.toList)) ∧ w1 = w') := fun s w1 => name_any s w1
  have Hs := Lib.hid h2.1
  have Hm := Lib.hid h2.2
  have HG := Lib.hid (fun w1 => read_any bits w1 hbits)
  obtain ⟨⟨q, r⟩, hqr⟩ : ∃ x, refOf bits = x := ⟨_, rfl⟩
  rw [hqr] at h HG ⊢
  dsimp only at h HG ⊢
  subst h
  have HK := Lib.hid (serKey hsub hmet)
  have HV : Hid ((enMap E (.string (serBytes sub.data.toList met.data.toList))).getD (.pointer none) = .pointer none ∧ (enMap E (.string (serBytes sub.data.toList met.data.toList))).isSome = false) := by
    rw [enMap_str, hf]; exact ⟨rfl, rfl⟩
  have HB := Lib.hid hB
  obtain ⟨el, hel⟩ : ∃ el, E.length = el := ⟨_, rfl⟩
  rw [hel] at hl
  have Hel := Lib.hid hel
  have Hf := Lib.hid hf
  have hel512 : el < maxLen := by unfold maxLen; omega
  clear h1 h2 hqr hf hB hel hsub hmet hbits
  have hz0 : w.heap.size < (w.alloc (.cells #[.string sub, .string met] 33)).heap.size := by simp
  have hb0 : Below w.heap.size w (w.alloc (.cells #[.string sub, .string met] 33)) := (Below.refl _ _).alloc (Nat.le_refl _) _
  go_enter Try.func6, Try.ntmps6
  go_wp2_with fail
  refine (HN.out _ _).mono ?_
  rintro e w1 ⟨he, rfl⟩
  rw [Hs.out] at he
  subst he
  go_wp2_with fail
  refine (HN.out _ _).mono ?_
  rintro e w1 ⟨he, rfl⟩
  rw [Hm.out] at he
  subst he
  go_wp2_with fail
  refine (HG.out _).mono ?_
  rintro e w1 ⟨rfl, hb⟩
  obtain ⟨w0, hw0⟩ : ∃ w0, w.alloc (.cells #[.string sub, .string met] 33) = w0 := ⟨_, rfl⟩
  rw [hw0] at k0 k1 hb0 hb hz0
  have k0 := Below.cell_some hb k0
  have k1 := Below.cell_some hb k1
  have hbw : Below w.heap.size w w1 := hb0.trans (hb.mono hb0.size)
  have hB1 := HB.out.keep hbw
  obtain ⟨c0, c1, c2⟩ := cells3 hB1.blk
  obtain ⟨lb0, lb1⟩ := HB.out.lt
  have hzw : w.heap.size < w1.heap.size := Nat.lt_of_lt_of_le hz0 hb.size
  have hbbw : bb < w1.heap.size := by omega
  have HM1 := Lib.hid hB1.map
  rw [Hel.out] at HM1
  have Hbw := Lib.hid hbw
  have hB1' := Lib.hid hB1
  have hlk : ∀ n, (Instr.lookup 53 (.map (some bm)) (.agg #[.string sub, .string met]) true).run Try.prog (w1.drewN n) = .ok (.tuple #[.pointer none, .bool false]) (w1.drewN n) := fun n => by
    have := (MapIs.same HM1.out (w' := w1.drewN n) rfl).look_ok serKeyed Try.underlying53 (zeroRing _) HK.out
    rw [HV.out.1, HV.out.2] at this
    exact this
  clear hw0 hb0 hb hbw hB1
  go_upto_region 8 with fail
  go_quiet (fail)
  rename_i nq
  obtain ⟨w2, hw2⟩ : ∃ w2, w1.drewN nq = w2 := ⟨_, rfl⟩
  have hB2 : BookAt w2 B bb bm most age E := by rw [← hw2]; exact hB1'.out.keep (below_drewN _ _ _)
  have hb2 : Below w.heap.size w w2 := by rw [← hw2]; exact drewN_below Hbw.out _
  have y0 : w2.cell? ⟨w.heap.size, 0, none⟩ = some (.string sub) := by rw [← hw2]; exact k0
  have y1 : w2.cell? ⟨w.heap.size, 1, none⟩ = some (.string met) := by rw [← hw2]; exact k1
  have HB2 := Lib.hid hB2
  have Hb2 := Lib.hid hb2
  have hzw2 : w.heap.size < w2.heap.size := by rw [← hw2]; exact hzw
  rw [hw2]
  clear hw2 hB2 hb2 k0 k1 c0 c1 c2 hlk hzw hbbw
  have HM2 := Lib.hid HB2.out.map
  rw [Hel.out] at HM2
  obtain ⟨c0, c1, c2⟩ := cells3 HB2.out.blk
  obtain ⟨lb0, lb1⟩ := HB2.out.lt
  have hm1 := HB2.out.m1
  go_wp2_with (refine wpList_map_len _ _ _ rfl rfl _ _ Try.underlying53 bm el _ rfl HM2.out ?_)
  refine (ringNew_any most w2 hm1.1 hm1.2).mono ?_
  rintro e w3 ⟨rb, rfl, hR3, hrb, hb3⟩
  have hRI : RingIs w3 rb w2.heap.size most [] := ⟨0, _, hR3, rfl⟩
  have HRI := Lib.hid hRI
  have Hb3 := Lib.hid hb3
  have Hrb := Lib.hid hrb
  clear hR3 hRI hb3 hrb
  go_wp2_with fail
  refine (put_any rb w2.heap.size most [] ⟨at0, q⟩ w3 HRI.out g1).mono ?_
  rintro e w4 ⟨he, hR4, hF4⟩
  have hpn : putOf most [] ⟨at0, q⟩ = (0, [⟨at0, q⟩]) := by
    unfold putOf
    rw [if_neg (by simp)]
    congr 1
    split <;> rfl
  rw [hpn] at he hR4
  subst he
  have hb4 : Below w2.heap.size w2 w4 := Hb3.out.trans (hF4.below Hb3.out.size (fun k hk => by have := Hrb.out; omega))
  have hB4 := HB2.out.keep hb4
  have y0 := Below.cell_some hb4 y0
  have y1 := Below.cell_some hb4 y1
  obtain ⟨c0, c1, c2⟩ := cells3 hB4.blk
  have hzw4 : w.heap.size < w4.heap.size := Nat.lt_of_lt_of_le hzw2 hb4.size
  have hbb4 : bb < w4.heap.size := hB4.lt.1
  have HB4 := Lib.hid hB4
  have Hb4 := Lib.hid hb4
  have HR4 := Lib.hid hR4
  obtain ⟨en, hen⟩ : ∃ en : En, en = ⟨sub, met, rb, w2.heap.size, [⟨at0, q⟩]⟩ := ⟨_, rfl⟩
  have hkn : en.key = (serBytes sub.data.toList met.data.toList) := by rw [hen]; rfl
  have hpt : en.ptr = .pointer (some ⟨rb, 0, none⟩) := by rw [hen]; rfl
  have hfn : findE E en.key = none := by rw [hkn]; exact Hf.out
  have hsm : (enMap E (.string (serBytes sub.data.toList met.data.toList))).isSome = false := HV.out.2
  obtain ⟨w5, hrun5, hown5, hturn5⟩ := MapIs.store (w := w4.drew) (MapIs.same HB4.out.map rfl) serKeyed Try.underlying53 (by rw [Hel.out]; exact hel512) (val := .pointer (some ⟨rb, 0, none⟩)) HK.out
  rw [hsm, if_neg (by decide), ← hpt, ← hkn, enMap_new _ _ hfn] at hown5
  have Hown5 := Lib.hid hown5
  have Hturn5 := Lib.hid hturn5
  have Hen := Lib.hid hen
  have Hfn := Lib.hid hfn
  clear hown5 hturn5 hsm hB4 hb4 hR4 hF4 hen hkn hpt hfn hpn
  go_upto_region 16 with fail
  go_region
  go_wp2_with fail
  go_ret2
  have hFt : Fr (fun k => k = bm) w4 w5 := (Fr.refl (fun k => k = bm) w4).drew.trans (Fr.turned (fun k => k = bm) Hturn5.out rfl) (fun _ h => .inl h)
  have hbase := HB2.out.base
  have hB2s : B ≤ w2.heap.size := by omega
  refine ⟨rb, w2.heap.size, rfl, ?_, Nat.le_trans Hb2.out.size Hrb.out, Hb2.out.size, ((Fr.of_below Hb2.out _).then Hb4.out).trans hFt (fun _ h => .inl h)⟩
  rw [← Hen.out]
  have hE : ∀ e ∈ E ++ [en], e ∈ E ∨ e = en := fun e he => by simpa using he
  refine HB4.out.turn hFt (by rw [List.length_append]; exact Hown5.out) (fun e he => ?_) ?_ ?_
  · rcases hE e he with h1 | h1
    · exact ⟨HB4.out.rings e h1, HB4.out.pos e h1, hbase.2.2 e h1⟩
    · subst h1
      rw [Hen.out]
      refine ⟨HR4.out, fun x hx => ?_, by have := Hrb.out; show B ≤ rb; omega, hB2s⟩
      rw [List.mem_singleton.1 hx]
      exact g1
  · refine List.pairwise_append.2 ⟨HB4.out.keys, by simp, fun x hx y hy => ?_⟩
    rw [List.mem_singleton.1 hy]
    intro hh
    have := List.find?_eq_none.1 Hfn.out x hx
    exact this (by rw [hh]; exact beq_self_eq_true _)
  · refine List.pairwise_append.2 ⟨HB4.out.apart, by simp, fun x hx y hy => ?_⟩
    rw [List.mem_singleton.1 hy, Hen.out]
    have h1 := (HB2.out.rings x hx).lt
    have := Hrb.out
    exact ⟨by show x.rb ≠ rb; omega, by show x.lb ≠ w2.heap.size; omega⟩

end Go.Proofs.Ytoamjihchmokcaa
