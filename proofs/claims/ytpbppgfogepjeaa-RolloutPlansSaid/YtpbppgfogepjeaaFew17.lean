/- The contract of law 17's Few. Condition: the objects read; law 7's Few answers, and its yes says so. -/
import Derived.Test.YtpbppgfogepjeaaObIM
import Derived.Test.YtpbppgfogepjeaaRight07A
import Derived.Deep.QuietTactic
namespace Go.Proofs.Ytpbppgfogepjeaa
open Go.ChangeShapes Go.WideShapes Go.ChangeAt Go.RowKit Go.Deep

structure FewOk (F : ObI → Prop) (l : List ObI) : Prop where
  len : l.length ≤ 60
  each : ∀ x ∈ l, F x ∧ checkOf x.kd x.nm x.o = 0
  unlike : l.Pairwise fun x y => ¬ (x.kd = y.kd ∧ x.nm = y.nm)

theorem toList_injO {a b : ByteArray} : a.toList = b.toList ↔ a = b := by
  rw [Lib.toList_data, Lib.toList_data]
  exact ⟨bytes_inj, fun h => by rw [h]⟩

structure FewTo (F : ObI → Prop) (l : List ObI) (k : Nat) : Prop where
  each : ∀ x ∈ l.take k, F x ∧ checkOf x.kd x.nm x.o = 0
  unlike : (l.take k).Pairwise fun x y => ¬ (x.kd = y.kd ∧ x.nm = y.nm)

set_option maxRecDepth 100000 in
set_option maxHeartbeats 4000000 in
theorem few17_any (F : ObI → Prop) (l : List ObI) (ao : Option Addr) (n cap : Nat) (w : World) (hS : SlR (Flat ObI.cells) 47 w ao n cap l) (hA : ∀ x ∈ l, ObAt w x)
    (hF : ∀ x ∈ l, ∀ wx : World, Calls Try.prog 7 #[.agg x.cells.toArray] wx fun e w' => (∃ b, e = .returned (.bool b) ∧ (b = true → F x)) ∧ Below wx.heap.size wx w') :
    Calls Try.prog 13 #[.slice ao n cap] w fun e w' => (∃ b, e = .returned (.bool b) ∧ (b = true → FewOk F l)) ∧ Below w.heap.size w w' := by
  have hcm := hS.hmax
  have hlc := hS.hcap
  have hlen := hS.hlen
  unfold maxLen at hcm
  have HS := Lib.hid hS
  have HA := Lib.hid hA
  have HF := Lib.hid hF
  have HL := Lib.hid hlen
  clear hS hA hF hlen
  go_enter Try.func13, Try.ntmps13
  go_wp2_with fail
  go_loopw [8] (fun i wr => ∃ k : Nat, k ≤ n ∧ i = .int .i64 k ∧ Hid (FewTo F l k) ∧ Hid (Below w.heap.size w wr)) (fun i _ => n - (intOf i).toNat)
  case atStart => exact ⟨0, Nat.zero_le _, rfl, ⟨by simp, by simp⟩, Below.refl _ _⟩
  case round =>
    obtain ⟨k, hk, rfl, hI, hb⟩ := hrel
    obtain ⟨wq, rfl⟩ : ∃ wq : World, wq = wr := ⟨_, rfl⟩
    by_cases hlt : k < n
    · have hS2 := HS.out.flatKeeps (Keeps.below hb.out)
      obtain ⟨b0, off, rfl⟩ := hS2.ptr (by decide) (by omega)
      have kx : k < l.length := by have := hS2.hlen; omega
      have hcl := hS2.flat kx
      have hxm : l[k] ∈ l := List.getElem_mem kx
      have htk := List.take_succ_eq_append_getElem kx
      obtain ⟨x, hx⟩ : ∃ x, l[k] = x := ⟨_, rfl⟩
      rw [hx] at hcl hxm htk
      have Htk := Lib.hid htk
      have Hcl := Lib.hid hcl
      have Hxm := Lib.hid hxm
      have hsz := hb.out.size
      obtain ⟨W, hW⟩ : ∃ W, wq.alloc (.cells x.cells.toArray 44) = W := ⟨_, rfl⟩
      obtain ⟨bo, hbo⟩ : ∃ bo, wq.heap.size = bo := ⟨_, rfl⟩
      have hbn : Below w.heap.size w W := by rw [← hW]; exact hb.out.alloc hsz _
      have hnc : ∀ j u, x.cells[j]? = some u → W.cell? ⟨bo, j, none⟩ = some u := by rw [← hW, ← hbo]; exact ob_new wq x _
      have HB := Lib.hid hbn
      have HNc := Lib.hid hnc
      clear hcl hS2 htk hx hnc hbn hxm
      go_wp2_with (first
        | ((with_reducible refine at_slot 12 ?_); go_must (refine wpList_load_at aggObI rfl _ rfl ⟨b0, off + k * 47, none⟩ rfl x.cells x.hlen (fun j u hu => by rw [Addr.add_lit]; exact Hcl.out j u hu) ?_))
        | ((with_reducible refine at_store 4 ?_); go_must (refine wpList_store_fresh aggObI rfl _ _ rfl rfl wq _ x.cells.toArray rfl (by rw [hbo]; rfl) rfl (by simp [ObI.hlen]) (by simpa using x.one) ?_; rw [hW]))
        | ((with_reducible refine at_slot 13 ?_); go_must (refine wpList_load_at aggObI rfl _ rfl ⟨bo, 0, none⟩ rfl x.cells x.hlen (fun j u hu => by rw [Addr.add_lit, Nat.zero_add]; exact HNc.out j u hu) ?_)))
      refine (HF.out x Hxm.out _).mono ?_
      rintro e w2 ⟨⟨b, rfl, hbF⟩, hb2⟩
      have HBF := Lib.hid hbF
      have HB2 := Lib.hid (HB.out.trans (hb2.mono HB.out.size))
      have HNc2 : Hid (∀ j u, x.cells[j]? = some u → w2.cell? ⟨bo, j, none⟩ = some u) := fun j u hu => Below.cell_some hb2 (HNc.out j u hu)
      clear hbF hb2 HNc HB
      cases b
      · go_wp2_with fail
        go_ret
        exact ⟨⟨false, rfl, fun h => by cases h⟩, HB2.out⟩
      · have HR := Lib.hid (lawRight_any x.kd x.nm x.ver x.o w2 ((HA.out x Hxm.out).b HB2.out).sh (HA.out x Hxm.out).sm)
        have HFx := Lib.hid (HBF.out rfl)
        clear HBF
        obtain ⟨c, hc⟩ : ∃ c, checkOf x.kd x.nm x.o = c := ⟨_, rfl⟩
        rw [hc] at HR
        have HC := Lib.hid hc
        clear hc
        go_wp2_with (first
          | ((with_reducible refine at_slot 17 ?_); go_must (refine wpList_load_gd aggObI rfl _ rfl ⟨bo, 0, none⟩ rfl x.cells x.hlen (fun j u hu => by rw [Addr.add_lit, Nat.zero_add]; exact HNc2.out j u hu) ?_)))
        refine HR.out.mono ?_
        rintro e w3 ⟨rfl, hb3⟩
        have HB3 := Lib.hid (HB2.out.trans (hb3.mono HB2.out.size))
        have HNc3 : Hid (∀ j u, x.cells[j]? = some u → w3.cell? ⟨bo, j, none⟩ = some u) := fun j u hu => Below.cell_some hb3 (HNc2.out j u hu)
        clear hb3 HNc2 HB2 HR
        by_cases hc0 : c = 0
        · subst hc0
          have hI1 : Hid ((∀ y ∈ l.take (k + 1), F y ∧ checkOf y.kd y.nm y.o = 0)) := by
            rw [Htk.out]
            intro y hy
            rcases List.mem_append.1 hy with h | h
            · exact hI.out.each y h
            · rw [List.mem_singleton.1 h]
              exact ⟨HFx.out, HC.out⟩
          clear HC HFx
          go_wp2_with fail
          have hkk : (k : Int) < 9223372036854775808 := by omega
          go_loopw [5] (fun i wr => ∃ m : Nat, m ≤ k ∧ i = .int .i64 m ∧ Hid (∀ y ∈ l.take m, ¬ (y.kd = x.kd ∧ y.nm = x.nm)) ∧ Hid (Below w3.heap.size w3 wr)) (fun i _ => k - (intOf i).toNat)
          case atStart => exact ⟨0, Nat.zero_le _, rfl, (fun y hy => by simp at hy), Below.refl _ _⟩
          case round =>
            obtain ⟨m, hm, rfl, hJ, hbm⟩ := hrel
            obtain ⟨wz, rfl⟩ : ∃ wz : World, wz = wr := ⟨_, rfl⟩
            by_cases hmk : m < k
            · have hB4 : Below w.heap.size w wz := HB3.out.trans (hbm.out.mono HB3.out.size)
              have hS4 := HS.out.flatKeeps (Keeps.below hB4)
              have my : m < l.length := by have := hS4.hlen; omega
              have hcy := hS4.flat my
              have hty := List.take_succ_eq_append_getElem my
              obtain ⟨y, hy⟩ : ∃ y, l[m] = y := ⟨_, rfl⟩
              rw [hy] at hcy hty
              have c0 := hcy 0 _ y.h0
              have c1 := hcy 1 _ y.h1
              have d0 := Below.cell_some hbm.out (HNc3.out 0 _ x.h0)
              have d1 := Below.cell_some hbm.out (HNc3.out 1 _ x.h1)
              have HTy := Lib.hid hty
              have hmn : m < n := by omega
              simp only [Nat.add_zero] at c0
              clear hS4 hcy hty hy hB4
              have stp : ¬ (y.kd = x.kd ∧ y.nm = x.nm) → Hid (∀ z ∈ l.take (m + 1), ¬ (z.kd = x.kd ∧ z.nm = x.nm)) := fun h => by
                show ∀ z ∈ l.take (m + 1), _
                rw [HTy.out]
                intro z hz
                rcases List.mem_append.1 hz with h' | h'
                · exact hJ.out z h'
                · rw [List.mem_singleton.1 h']; exact h
              obtain ⟨eb, heb⟩ : ∃ b, (y.kd == x.kd) = b := ⟨_, rfl⟩
              cases eb
              · have hs := stp (fun h => by rw [h.1] at heb; simp at heb)
                clear stp
                go_wp2_with fail
                go_quiet (fail)
                go_wp2_with fail
                go_roundw
                case rel => exact ⟨m + 1, by omega, by go_num, hs.out, drewN_below hbm.out _⟩
                case measure => simp [intOf]; omega
              · obtain ⟨sb, hsb⟩ : ∃ b, (y.nm.toList == x.nm.toList) = b := ⟨_, rfl⟩
                cases sb
                · have hs := stp (fun h => by rw [h.2] at hsb; simp at hsb)
                  clear stp
                  go_wp2_with fail
                  go_quiet (fail)
                  go_wp2_with fail
                  go_roundw
                  case rel => exact ⟨m + 1, by omega, by go_num, hs.out, drewN_below hbm.out _⟩
                  case measure => simp [intOf]; omega
                · clear stp
                  go_wp2_with fail
                  go_quiet (fail)
                  go_wp2_with fail
                  go_ret
                  exact ⟨⟨false, rfl, fun h => by cases h⟩, HB3.out.trans ((drewN_below hbm.out _).mono HB3.out.size)⟩
            · obtain rfl : m = k := by omega
              have hF1 : Hid (FewTo F l (m + 1)) := by
                refine ⟨hI1.out, ?_⟩
                rw [Htk.out]
                refine List.pairwise_append.2 ⟨hI.out.unlike, List.pairwise_singleton _ _, fun y hy z hz => ?_⟩
                rw [List.mem_singleton.1 hz]
                exact hJ.out y hy
              have hB4 : Hid (Below w.heap.size w wz) := HB3.out.trans (hbm.out.mono HB3.out.size)
              clear hI1
              go_wp2_with fail
              go_roundw
              case rel => exact ⟨m + 1, by omega, by go_num, hF1.out, hB4.out⟩
              case measure => simp [intOf]; omega
        · have hne : (c != 0) = true := by simpa using hc0
          clear hc0 HC
          go_wp2_with fail
          go_ret
          exact ⟨⟨false, rfl, fun h => by cases h⟩, HB3.out⟩
    · obtain rfl : k = n := by omega
      have hI' := hI
      have hb' := hb
      by_cases h60 : k ≤ 60
      · have hd : decide ((k : Int) ≤ (60 : Int)) = true := decide_eq_true (by omega)
        have H60 := Lib.hid h60
        clear h60
        go_wp2_with fail
        go_ret
        have ht : l.take k = l := List.take_of_length_le (by have := HL.out; omega)
        refine ⟨⟨true, rfl, fun _ => ⟨by have := H60.out; have := HL.out; omega, ?_, ?_⟩⟩, hb'.out⟩
        · have := hI'.out.each; rwa [ht] at this
        · have := hI'.out.unlike; rwa [ht] at this
      · have hd : decide ((k : Int) ≤ (60 : Int)) = false := decide_eq_false (by omega)
        clear h60
        go_wp2_with fail
        go_ret
        exact ⟨⟨false, rfl, fun h => by cases h⟩, hb'.out⟩
end Go.Proofs.Ytpbppgfogepjeaa
