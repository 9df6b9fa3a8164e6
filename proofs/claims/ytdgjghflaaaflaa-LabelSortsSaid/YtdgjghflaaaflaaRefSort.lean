/- The reference's sort of labels. Condition: the slice read. -/
import Derived.Test.YtdgjghflaaaflaaRefSortPlain
import Derived.Test.YtdgjghflaaaflaaSortLab12
namespace Go.Proofs.Ytdgjghflaaaflaa
open Go.ChangeShapes Go.WideShapes Go.ChangeAt Go.RowKit Go.Deep

def slLen : Value → Nat
  | .slice _ n _ => n
  | _ => 0

theorem oneLabel (a b : ByteArray) (w : World) : (Instr.buildSlice 26 1 [(0, .agg #[.string a, .string b])].toArray).run Try.prog w = .ok (.slice (some ⟨w.heap.size, 0, none⟩) 1 1) (w.alloc (.cells #[.string a, .string b] 54)) := by kernel_rfl

set_option maxRecDepth 100000 in
set_option maxHeartbeats 1600000 in
theorem refSort_any (l : List Label) (ao : Option Addr) (n cap : Nat) (w : World) (hS : SlR (Flat Label.cells) 2 w ao n cap l) (hn : n ≤ 1000) :
    Calls Try.prog 35 #[.slice ao n cap] w fun e w' => ∃ ao' m cap' ys, e = .returned (.slice ao' m cap') ∧ Canon l ys ∧ SlR (Flat Label.cells) 2 w' ao' m cap' ys ∧ Below w.heap.size w w' := by
  have HL := Lib.hid hS.hlen
  have HS := Lib.hid hS
  clear hS
  go_enter Try.func35, Try.ntmps35
  go_wp2_with ((with_reducible refine at_slot 6 ?_); go_must (refine wpList_buildSlice rfl 26 0 _ rfl [] rfl _ _ zeroLabels ?_))
  go_loopw [3, 4, 5] (fun v3 _ _ wr => ∃ (out : List Label) (oo : Option Addr) (on oc : Nat), v3 = .slice oo on oc ∧ Hid (out.length = on) ∧ Hid (RefI l out) ∧ Hid (wr.ownsRow w.heap.size 54 2 (.slice oo on oc) on (out.flatMap Label.cells)) ∧ Hid (Below w.heap.size w wr)) (fun v3 _ _ _ => n - slLen v3)
  case atStart => exact ⟨[], _, 0, 0, rfl, rfl, ref_start l, World.ownsRow_made w _ 0 (Nat.le_refl _) (by decide) rfl, (Below.refl _ _).alloc (Nat.le_refl _) _⟩
  case round =>
    obtain ⟨out, oo, on, oc, rfl, hon, hI, hO, hB⟩ := hrel
    obtain ⟨wo, rfl⟩ : ∃ wo : World, wo = wr := ⟨_, rfl⟩
    have hon2 : on ≤ n := by have := ref_len hI.out; rw [hon.out, HL.out] at this; exact this
    obtain ⟨ao2, cap2, he2, hSo, _⟩ := SlR.of_owns hO.out hon.out (fun _ => rfl)
    obtain ⟨rfl, rfl⟩ : oo = ao2 ∧ oc = cap2 := by injection he2 with h1 h2 h3; exact ⟨h1, h3⟩
    have hSl := HS.out.flatKeeps (Keeps.below hB.out)
    have HSo := Lib.hid hSo
    have HSl := Lib.hid hSl
    have hoc := hSo.hcap
    have hom := hSo.hmax
    have hcl := hSl.hcap
    have hcm := hSl.hmax
    unfold maxLen at hom hcm
    clear he2 hSo hSl
    go_wp2_with fail
    go_loopw [4, 5, 9] (fun v4 _ v9 wr => ∃ k : Nat, v9 = .int .i64 k ∧ k ≤ n ∧ ((v4 = .int .i64 (-1) ∧ Hid (BestN l out k)) ∨ ∃ j : Nat, v4 = .int .i64 j ∧ j < n ∧ Hid (BestS l out k j)) ∧ Hid (Fr (fun _ => False) wo wr)) (fun _ _ v9 _ => n - (intOf v9).toNat)
    case atStart => exact ⟨0, rfl, Nat.zero_le _, .inl ⟨rfl, bestN_start⟩, Fr.refl _ _⟩
    case round =>
      obtain ⟨k, rfl, hk, hbest, hbq⟩ := hrel
      obtain ⟨wp, rfl⟩ : ∃ wp : World, wp = wr := ⟨_, rfl⟩
      have Hbq := hbq
      clear hbq
      have hbel := Hbq.out.below (Nat.le_refl _) (fun _ h => h.elim)
      by_cases hlt : k < n
      · obtain ⟨b, off, rfl⟩ := HSl.out.ptr (by decide) (by omega)
        have kx : k < l.length := by rw [HL.out]; exact hlt
        have hc := (HSl.out.flatKeeps (Keeps.below hbel)).flat kx
        obtain ⟨x, hx⟩ : ∃ x, l[k] = x := ⟨_, rfl⟩
        rw [hx] at hc
        have c0 := hc 0 _ rfl
        rw [Nat.add_zero] at c0
        have Hkx := Lib.hid kx
        have Hx : Hid (l[k]'(Hkx.out) = x) := hx
        clear hc
        by_cases h0 : on = 0
        · subst h0
          have hnil : out = [] := List.eq_nil_of_length_eq_zero hon.out
          have hcand : Hid (Cand out (l[k]'Hkx.out)) := by subst hnil; intro y hy; cases hy
          clear hnil hx kx hbel
          rcases hbest with ⟨rfl, hbN⟩ | ⟨j, rfl, hj, hbS⟩
          · have HB := Lib.hid (best_new Hkx.out hbN.out hcand.out)
            clear hbN
            go_upto_region 6 with fail
            go_quiet (fail)
            go_wp2_with fail
            go_roundw
            case rel => exact ⟨k + 1, by go_num, by omega, .inr ⟨k, rfl, by omega, HB.out⟩, Hbq.out.drewN _⟩
            case measure => simp [intOf]; omega
          · skip
            obtain ⟨y, hy⟩ : ∃ y, l[j]'(hbS.out.1) = y := ⟨_, rfl⟩
            have hd := (HSl.out.flatKeeps (Keeps.below (Hbq.out.below (Nat.le_refl _) (fun _ h => h.elim)))).flat hbS.out.1
            rw [hy] at hd
            have d0 := hd 0 _ rfl
            rw [Nat.add_zero] at d0
            clear hd
            have Hy : Hid (l[j]'(hbS.out.1) = y) := hy
            have hjn : ¬ (j : Int) < 0 := by omega
            clear hy
            cases hl : Op.bytesLess x.key.toList y.key.toList
            · have HB : Hid (BestS l out (k + 1) j) := best_more Hkx.out hbS.out (by rw [Hx.out, Hy.out]; intro hh; rw [show Op.bytesLess x.key.toList y.key.toList = true from hh] at hl; cases hl)
              clear hbS Hy Hx
              go_upto_region 6 with fail
              go_quiet (fail)
              go_wp2_with fail
              go_roundw
              case rel => exact ⟨k + 1, by go_num, by omega, .inr ⟨j, rfl, by omega, HB.out⟩, Hbq.out.drewN _⟩
              case measure => simp [intOf]; omega
            · have HB : Hid (BestS l out (k + 1) k) := best_less Hkx.out hbS.out hcand.out (by rw [Hx.out, Hy.out]; exact hl)
              clear hbS Hy Hx
              go_upto_region 6 with fail
              go_quiet (fail)
              go_wp2_with fail
              go_roundw
              case rel => exact ⟨k + 1, by go_num, by omega, .inr ⟨k, rfl, by omega, HB.out⟩, Hbq.out.drewN _⟩
              case measure => simp [intOf]; omega
        · obtain ⟨p, hp⟩ : ∃ p, on = p + 1 := ⟨on - 1, by omega⟩
          obtain ⟨g, off', rfl⟩ := HSo.out.ptr (by decide) (by omega)
          have hpl : p < out.length := by rw [hon.out]; omega
          have ho := (HSo.out.flatKeeps (Keeps.below hbel)).flat hpl
          have hcl := cand_last hI.out.rise (hon.out.trans hp) (l[k]'Hkx.out)
          obtain ⟨z, hz⟩ : ∃ z, out[p] = z := ⟨_, rfl⟩
          rw [hz] at ho
          have o0 := ho 0 _ rfl
          rw [Nat.add_zero] at o0
          clear ho
          have hcl2 : Cand out (l[k]'Hkx.out) ↔ Op.bytesLess z.key.toList x.key.toList = true := by
            rw [hcl, Hx.out]
            have e : out[p]'hpl = z := hz
            rw [e]
            exact Iff.rfl
          have Hcl := Lib.hid hcl2
          have f1 : (on : Int) - 1 = (p : Int) := by omega
          have hzz : ((on : Int) == 0) = false := by rw [beq_eq_false_iff_ne]; omega
          have hpn : p < on := by omega
          have w9 : IntKind.i64.wrap (p : Int) = (p : Int) := IntWalk.i64_in _ (by omega)
          clear hx kx hbel hcl hcl2 hz hpl hp h0
          cases hgt : Op.bytesLess z.key.toList x.key.toList
          · have hcand : Hid (¬ Cand out (l[k]'Hkx.out)) := by intro hh; have := Hcl.out.1 hh; rw [hgt] at this; cases this
            have hG : (!Op.bytesLess x.key.toList z.key.toList && !x.key.toList == z.key.toList) = false := by
              cases hxz : Op.bytesLess x.key.toList z.key.toList
              · have := less_tri hxz hgt
                rw [this]
                simp
              · rfl
            clear hgt
            rcases hbest with ⟨rfl, hbN⟩ | ⟨j, rfl, hj, hbS⟩
            · have HB := Lib.hid (bestN_skip Hkx.out hbN.out hcand.out)
              clear hbN
              go_upto_region 6 with fail
              go_quiet (fail)
              go_wp2_with fail
              go_roundw
              case rel => exact ⟨k + 1, by go_num, by omega, .inl ⟨rfl, HB.out⟩, Hbq.out.drewN _⟩
              case measure => simp [intOf]; omega
            · have HB := Lib.hid (bestS_skip Hkx.out hbS.out hcand.out)
              clear hbS
              go_upto_region 6 with fail
              go_quiet (fail)
              go_wp2_with fail
              go_roundw
              case rel => exact ⟨k + 1, by go_num, by omega, .inr ⟨j, rfl, by omega, HB.out⟩, Hbq.out.drewN _⟩
              case measure => simp [intOf]; omega
          · have hcand : Hid (Cand out (l[k]'Hkx.out)) := Hcl.out.2 hgt
            have hG : (!Op.bytesLess x.key.toList z.key.toList && !x.key.toList == z.key.toList) = true := by
              rw [less_asym hgt]
              have : (x.key.toList == z.key.toList) = false := by
                rw [beq_eq_false_iff_ne]
                intro e
                rw [e, less_irrefl] at hgt
                cases hgt
              rw [this]
              rfl
            clear hgt
            rcases hbest with ⟨rfl, hbN⟩ | ⟨j, rfl, hj, hbS⟩
            · have HB := Lib.hid (best_new Hkx.out hbN.out hcand.out)
              clear hbN
              go_upto_region 6 with fail
              go_quiet (fail)
              go_wp2_with fail
              go_roundw
              case rel => exact ⟨k + 1, by go_num, by omega, .inr ⟨k, rfl, by omega, HB.out⟩, Hbq.out.drewN _⟩
              case measure => simp [intOf]; omega
            · skip
              obtain ⟨y, hy⟩ : ∃ y, l[j]'(hbS.out.1) = y := ⟨_, rfl⟩
              have hd := (HSl.out.flatKeeps (Keeps.below (Hbq.out.below (Nat.le_refl _) (fun _ h => h.elim)))).flat hbS.out.1
              rw [hy] at hd
              have d0 := hd 0 _ rfl
              rw [Nat.add_zero] at d0
              clear hd
              have Hy : Hid (l[j]'(hbS.out.1) = y) := hy
              have hjn : ¬ (j : Int) < 0 := by omega
              clear hy
              cases hl : Op.bytesLess x.key.toList y.key.toList
              · have HB : Hid (BestS l out (k + 1) j) := best_more Hkx.out hbS.out (by rw [Hx.out, Hy.out]; intro hh; rw [show Op.bytesLess x.key.toList y.key.toList = true from hh] at hl; cases hl)
                clear hbS Hy Hx
                go_upto_region 6 with fail
                go_quiet (fail)
                go_wp2_with fail
                go_roundw
                case rel => exact ⟨k + 1, by go_num, by omega, .inr ⟨j, rfl, by omega, HB.out⟩, Hbq.out.drewN _⟩
                case measure => simp [intOf]; omega
              · have HB : Hid (BestS l out (k + 1) k) := best_less Hkx.out hbS.out hcand.out (by rw [Hx.out, Hy.out]; exact hl)
                clear hbS Hy Hx
                go_upto_region 6 with fail
                go_quiet (fail)
                go_wp2_with fail
                go_roundw
                case rel => exact ⟨k + 1, by go_num, by omega, .inr ⟨k, rfl, by omega, HB.out⟩, Hbq.out.drewN _⟩
                case measure => simp [intOf]; omega
      · obtain rfl : k = n := by omega
        clear hlt
        rcases hbest with ⟨rfl, hbN⟩ | ⟨j, rfl, hj, hbS⟩
        · have HD : Hid (Canon l out) := ref_done hI.out (by have h := hbN.out; rw [← HL.out] at h; exact h)
          have HSo2 := Lib.hid (HSo.out.flatKeeps (Keeps.below hbel))
          have Hbb := Lib.hid (hB.out.trans (hbel.mono hB.out.size))
          clear hbel hbN
          go_wp2_with fail
          go_ret
          exact ⟨oo, on, oc, out, rfl, HD.out, HSo2.out, Hbb.out⟩
        · have hbS' : BestS l out l.length j := by rw [HL.out]; exact hbS.out
          obtain ⟨b, off, rfl⟩ := HSl.out.ptr (by decide) (by omega)
          have hst := ref_step hI.out hbS'
          have hlen := ref_len hst
          rw [List.length_append, hon.out, HL.out, List.length_singleton] at hlen
          have hd := (HSl.out.flatKeeps (Keeps.below hbel)).flat hbS'.1
          obtain ⟨⟨xk, xv⟩, hx⟩ : ∃ x, l[j]'(hbS'.1) = x := ⟨_, rfl⟩
          rw [hx] at hd hst
          have d0 := hd 0 _ rfl
          have d1 := hd 1 _ rfl
          rw [Nat.add_zero] at d0
          dsimp only at d0 d1
          have HSt := Lib.hid hst
          have hO2 := owns_fr Hbq.out hO.out (fun _ _ h => h)
          have HO2 := Lib.hid hO2
          have Hbb := Lib.hid (hB.out.trans (hbel.mono hB.out.size))
          have hjn : ¬ (j : Int) < 0 := by omega
          clear hbS hbS' hd hx hst hO2 hbel
          go_wp2_with (first
            | ((with_reducible refine at_slot 57 ?_); go_must (refine wpList_buildSlice rfl 26 1 _ rfl [(0, .agg #[.string xk, .string xv])] rfl _ _ (oneLabel _ _) ?_; refine wpList_append_one elemLabel rfl _ _ rfl w _ w.heap.size _ _ on _ rfl (by exact HO2.out) (by exact Hbb.out) (by exact Hbb.out.size) rfl rfl rfl (by unfold maxLen; omega) (by omega) ?_; intro v2 w2 hown2 hb2 _; have Ho2 := Lib.hid hown2; have Hb2 := Lib.hid hb2; clear hown2 hb2)))
          obtain ⟨oo2, oc2, rfl⟩ : ∃ oo2 oc2, v2 = .slice oo2 (on + 1) oc2 := by
            rcases Ho2.out.2 with ⟨_, h⟩ | ⟨g, cap, cur, h, _⟩
            · omega
            · exact ⟨_, _, h⟩
          go_roundw
          case rel => exact ⟨out ++ [Label.mk xk xv], oo2, on + 1, oc2, rfl, by show _ = _; rw [List.length_append, hon.out]; rfl, HSt.out, by have h := Ho2.out; show World.ownsRow _ _ _ _ _ _ _; rw [List.flatMap_append]; simpa [Label.cells] using h, Hb2.out⟩
          case measure => simp [slLen]; omega
end Go.Proofs.Ytdgjghflaaaflaa
