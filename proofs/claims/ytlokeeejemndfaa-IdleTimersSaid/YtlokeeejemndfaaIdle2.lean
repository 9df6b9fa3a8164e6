/- Contracts of idle's Ripe, Copy and Reset. Condition: the timers lie in blocks of the call's own. -/
import Derived.Test.YtlokeeejemndfaaIdle
import Derived.Shelf.SlMaps.Clone
import Derived.Ground.SlmcProg
import Derived.Shelf.SlGeneric
namespace Go.Proofs.Ytlokeeejemndfaa
open Go.ChangeShapes Go.WideShapes Go.ChangeAt Go.RowKit Go.Deep Go.Maps Go.Sort Go.Shelf

def kClone_ren : Go.Shelf.Ren := ⟨fun | 5 => 13 | 7 => 16 | n => n, fun | 23 => 43 | 25 => 9 | 3 => 2 | 4 => 4 | 20 => 20 | n => n, fun | n => n⟩
theorem kClone : Go.Proofs.SlLaysW.n5 Try.prog kClone_ren := {
  mixed := by kernel_rfl
  f5 := ⟨Try.f13.name, by decide, Try.func13.trans (congrArg some (by kernel_rfl))⟩
  f7 := Try.func16.trans (congrArg some (by kernel_rfl))
  t4 := Try.underlying4
  a4 := Try.isAgg4
  z4 := Try.sizeOf4
  v4 := Try.zeroValue4
  t20 := Try.underlying20
  a20 := Try.isAgg20
  z20 := Try.sizeOf20
  v20 := Try.zeroValue20
  t23 := Try.underlying43
  a23 := Try.isAgg43
  z23 := Try.sizeOf43
  v23 := Try.zeroValue43 }

/-- Is a name ripe? -/
def ripeB (f : List UInt8 → Option Int) (now wait : Int) (s : SStr) : Bool := decide ((f s.key).getD 0 ≤ now) && decide (max wait 0 ≤ now - (f s.key).getD 0)

def RipePost (m : Tm) (n : Nat) (now wait : Int) (w : World) (e : Ending) (w' : World) : Prop :=
  ∃ (v : Value) (xs : List SStr), e = .returned v ∧ SortedKeys (fun s => (m.f s).isSome) (xs.map SStr.key) ∧ xs.length = n ∧
    w'.ownsRow w.heap.size 9 1 v (xs.filter (ripeB m.f now wait)).length ((xs.filter (ripeB m.f now wait)).flatMap cS) ∧ Below w.heap.size w w'

theorem ownsRow_low {W : World} {base base' : Nat} {e : TypeId} {size : Nat} {v : Value} {k : Nat} {xs : List Value} (h : W.ownsRow base e size v k xs) (hb : base' ≤ base) : W.ownsRow base' e size v k xs := by
  refine ⟨h.1, ?_⟩
  rcases h.2 with hn | ⟨g, cap, cur, hv, hbg, rest⟩
  · exact .inl hn
  · exact .inr ⟨g, cap, cur, hv, Nat.le_trans hb hbg, rest⟩

theorem filter_snoc {α : Type} (p : α → Bool) (xs : List α) {k : Nat} (hk : k < xs.length) : (xs.take (k + 1)).filter p = (xs.take k).filter p ++ (if p xs[k] then [xs[k]] else []) := by
  rw [List.take_succ_eq_append_getElem hk, List.filter_append]
  congr 1
  cases h : p xs[k] <;> simp [h]

theorem ripeNil_any (now wait : Int) (w : World) : Calls Try.prog 10 #[.pointer none, .int .i64 now, .int .i64 wait] w fun e w' => e = .returned (.slice none 0 0) ∧ w = w' := by
  go_enter Try.func10, Try.ntmps10
  go_wp2
  go_ret
  exact ⟨rfl, rfl⟩

set_option maxRecDepth 100000 in
set_option maxHeartbeats 1600000 in
theorem ripe_any (tb tm n : Nat) (m : Tm) (now wait : Int) (w : World) (hT : TimersAt w tb tm n m) (hn : n ≤ 1000000) (hpos : ∀ s v, m.f s = some v → 0 ≤ v) (hnow : now ≤ 9223372036854775807) :
    Calls Try.prog 10 #[.pointer (some ⟨tb, 0, none⟩), .int .i64 now, .int .i64 wait] w (RipePost m n now wait w) := by
  obtain ⟨c0, c1, c2⟩ := row3_cells hT.blk
  have HM := Lib.hid hT.map
  have hlt := hT.lt
  obtain ⟨f, last, looked⟩ := m
  have Hpos := Lib.hid hpos
  dsimp only at HM Hpos
  clear hT hpos
  go_enter Try.func10, Try.ntmps10
  go_wp2_with fail
  refine (keys_any (some tm) w).mono ?_
  rintro e w1 ⟨rfl, rfl⟩
  go_wp2_with fail
  refine (sorted_any tm n _ w HM.out hn).mono ?_
  rintro e w2 ⟨v, xs, rfl, hK, hxl, hown, hb⟩
  obtain ⟨so, sc, rfl, hS, _⟩ := SlR.of_owns hown hxl (fun _ => rfl)
  have hb2 : Below w.heap.size w w2 := ((Below.refl _ w).alloc (Nat.le_refl _) _).trans (hb.mono (by simp))
  have Hb2 := Lib.hid hb2
  have HS := Lib.hid hS
  have HK : Hid (SortedKeys (fun s => (f s).isSome) (xs.map SStr.key)) := by
    rw [show (fun s => (byStr encI f (.string s)).isSome) = fun s => (f s).isSome from funext fun s => (byStr_get f s).2] at hK
    exact hK
  have HL := Lib.hid hxl
  have d0 := Below.cell_some hb2 c0
  have hz := hb2.size
  clear hown hb hb2 hS hK hxl c0 c1 c2
  go_wp2_with fail
  go_loopw [7, 9, 10, 20] (fun vo _ _ vi wr => ∃ k : Nat, vi = .int .i64 k ∧ k ≤ n ∧ Hid (wr.ownsRow w2.heap.size 9 1 vo ((xs.take k).filter (ripeB f now wait)).length (((xs.take k).filter (ripeB f now wait)).flatMap cS)) ∧ Hid (Below w2.heap.size w2 wr)) (fun _ _ _ vi _ => n - (intOf vi).toNat)
  case atStart => exact ⟨0, rfl, Nat.zero_le _, World.ownsRow_nil _ _ _ _, Below.refl _ _⟩
  case round =>
    obtain ⟨k, rfl, hk, hO, hB⟩ := hrel
    obtain ⟨wp, rfl⟩ : ∃ wp : World, wp = wr := ⟨_, rfl⟩
    have e0 := Below.cell_some hB.out d0
    have hzp := hB.out.size
    by_cases hlt2 : k < n
    · obtain ⟨b, off, rfl⟩ := HS.out.ptr (by decide) (by omega)
      have kx : k < xs.length := by rw [HL.out]; exact hlt2
      have ha := (HS.out.flatKeeps (Keeps.below hB.out)).flat kx
      have hfs := filter_snoc (ripeB f now wait) xs kx
      have hmem : (f xs[k].key).isSome = true := (HK.out.2 _).1 (List.mem_map_of_mem (List.getElem_mem kx))
      obtain ⟨x, hx⟩ : ∃ x, xs[k] = x := ⟨_, rfl⟩
      rw [hx] at ha hfs hmem
      have x0 := ha 0 _ rfl
      rw [Nat.add_zero, Nat.mul_one] at x0
      obtain ⟨at0, hat⟩ := Option.isSome_iff_exists.1 hmem
      have hat0 : 0 ≤ at0 := Hpos.out _ _ hat
      have hr : ripeB f now wait x = (decide (at0 ≤ now) && decide (max wait 0 ≤ now - at0)) := by unfold ripeB; rw [hat]; rfl
      have HV := Lib.hid (byStr_get f x.key)
      rw [hat] at HV
      have HM2 := Lib.hid (MapIs.below HM.out (Hb2.out.trans (hB.out.mono Hb2.out.size)))
      have HKy := Lib.hid (strKey x.2)
      have HO := hO
      have HB := hB
      obtain ⟨ys, hys⟩ : ∃ ys, (xs.take k).filter (ripeB f now wait) = ys := ⟨_, rfl⟩
      have hyl : ys.length ≤ k := by
        rw [← hys]
        exact Nat.le_trans (List.length_filter_le _ _) (by rw [List.length_take]; omega)
      rw [hys] at hfs HO
      obtain ⟨ml, hml⟩ : ∃ ml, ys.length = ml := ⟨_, rfl⟩
      have hO2 := HO.out
      rw [hml] at hO2 hyl
      have HO2 := Lib.hid hO2
      clear hO2 ha hmem hx kx hat hO hB HO hys
      rcases (show now < at0 ∨ (at0 ≤ now ∧ now - at0 < max wait 0) ∨ (at0 ≤ now ∧ max wait 0 ≤ now - at0) by omega) with q | ⟨q1, q2⟩ | ⟨q1, q2⟩
      · have HF : Hid (_ = ys) := hfs.trans (by rw [hr, decide_eq_false (show ¬ at0 ≤ now by omega)]; simp)
        clear hfs hr
        go_wp2_with (at_lookup; go_must (refine wpList_look _ rfl _ _ 43 rfl 9 2 strKeyed Try.underlying43 (zeroI64 _) tm n _ rfl HM2.out _ _ rfl HKy.out (.int .i64 at0) HV.out.1 ?_))
        go_roundw
        case rel => exact ⟨k + 1, by go_num, by omega, by rw [HF.out, hml]; exact HO2.out, HB.out⟩
        case measure => simp [intOf]; omega
      · have HF : Hid (_ = ys) := hfs.trans (by rw [hr, decide_eq_false (show ¬ max wait 0 ≤ now - at0 by omega), Bool.and_false]; simp)
        clear hfs hr
        rcases (show wait < 0 ∨ 0 ≤ wait by omega) with hw0 | hw0
        · omega
        · have q3 : now - at0 < wait := by omega
          clear q2
          go_wp2_with (at_lookup; go_must (refine wpList_look _ rfl _ _ 43 rfl 9 2 strKeyed Try.underlying43 (zeroI64 _) tm n _ rfl HM2.out _ _ rfl HKy.out (.int .i64 at0) HV.out.1 ?_))
          all_goals
            first
            | omega
            | (go_roundw
               case rel => exact ⟨k + 1, by go_num, by omega, by rw [HF.out, hml]; exact HO2.out, HB.out⟩
               case measure => simp [intOf]; omega)
      · have HF : Hid (_ = ys ++ [x]) := hfs.trans (by rw [hr, decide_eq_true q1, decide_eq_true q2]; simp)
        clear hfs hr
        have hsz : w2.heap.size ≤ wp.heap.size := hzp
        have Hml := Lib.hid hml
        clear hml
        rcases (show wait < 0 ∨ 0 ≤ wait by omega) with hw0 | hw0
        · have q3 : 0 ≤ now - at0 := by omega
          clear q2
          go_wp2_with (first
            | (at_lookup; go_must (refine wpList_look _ rfl _ _ 43 rfl 9 2 strKeyed Try.underlying43 (zeroI64 _) tm n _ rfl HM2.out _ _ rfl HKy.out (.int .i64 at0) HV.out.1 ?_))
            | (at_builtin; go_must (refine wpList_append_one elemStr rfl (.tmp 41) (.tmp 43) rfl w2 wp w2.heap.size _ _ ml _ rfl HO2.out HB.out hsz rfl rfl rfl (by unfold maxLen; omega) (by omega) ?_); intro v1 w3 hown3 hb3 _; have HO3 := Lib.hid hown3; have HB3 := Lib.hid hb3; clear hown3 hb3))
          all_goals
            first
            | omega
            | (go_roundw
               case rel => exact ⟨k + 1, by go_num, by omega, by rw [HF.out, List.length_append, List.flatMap_append, Hml.out]; exact HO3.out, HB3.out⟩
               case measure => simp [intOf]; omega)
        · have q3 : wait ≤ now - at0 := by omega
          clear q2
          go_wp2_with (first
            | (at_lookup; go_must (refine wpList_look _ rfl _ _ 43 rfl 9 2 strKeyed Try.underlying43 (zeroI64 _) tm n _ rfl HM2.out _ _ rfl HKy.out (.int .i64 at0) HV.out.1 ?_))
            | (at_builtin; go_must (refine wpList_append_one elemStr rfl (.tmp 41) (.tmp 43) rfl w2 wp w2.heap.size _ _ ml _ rfl HO2.out HB.out hsz rfl rfl rfl (by unfold maxLen; omega) (by omega) ?_); intro v1 w3 hown3 hb3 _; have HO3 := Lib.hid hown3; have HB3 := Lib.hid hb3; clear hown3 hb3))
          all_goals
            first
            | omega
            | (go_roundw
               case rel => exact ⟨k + 1, by go_num, by omega, by rw [HF.out, List.length_append, List.flatMap_append, Hml.out]; exact HO3.out, HB3.out⟩
               case measure => simp [intOf]; omega)
    · obtain rfl : k = n := by omega
      have htk : xs.take k = xs := List.take_of_length_le (by rw [HL.out]; exact Nat.le_refl _)
      have hO2 := hO.out
      rw [htk] at hO2
      have HO2 := Lib.hid hO2
      have HB := hB
      clear htk hO2 hO hB
      go_wp2_with fail
      go_ret
      exact ⟨_, xs, rfl, HK.out, HL.out, ownsRow_low HO2.out Hb2.out.size, Hb2.out.trans (HB.out.mono Hb2.out.size)⟩
end Go.Proofs.Ytlokeeejemndfaa
