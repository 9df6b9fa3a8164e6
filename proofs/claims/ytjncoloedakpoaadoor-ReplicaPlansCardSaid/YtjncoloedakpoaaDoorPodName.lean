/- The contract of pods.Name: the n-th pod's name. Conditions: the owner's name is one; the library's table of powers of ten lies. -/
import Derived.Test.YtjncoloedakpoaaDoorName2M
import Derived.Shelf.Strconv.Itoa3
import Derived.Shelf.Lay
import Derived.Ground.NamesProg
import Derived.Lib.AppendIntMem
import Derived.Laws.Strings2
import Derived.Test.YtjncoloedakpoaaDoorChecked
namespace Go.Proofs.YtjncoloedakpoaaDoor
open Go.ChangeShapes Go.WideShapes Go.ChangeAt Go.RowKit Go.Deep Go.Maps Go.Sort Go.Shelf

def kItoa_ren : Go.Shelf.Ren := ⟨fun | 171 => 32 | 243 => 50 | 246 => 65 | 283 => 72 | 284 => 73 | 285 => 74 | 286 => 75 | 129 => 44 | 317 => 77 | 318 => 78 | 319 => 79 | 320 => 80 | 337 => 82 | 338 => 83 | n => n, fun | 3 => 3 | 9 => 9 | 2 => 2 | 4 => 4 | 171 => 129 | 0 => 0 | 53 => 22 | 37 => 131 | 5 => 5 | 173 => 132 | 212 => 135 | 51 => 101 | 20 => 20 | 213 => 136 | 46 => 83 | 232 => 137 | 233 => 138 | n => n, fun | 17 => 0 | 18 => 1 | 19 => 2 | n => n⟩
theorem kItoa : Go.Proofs.LaysM.n171 Tryd.prog kItoa_ren := {
  mixed := by kernel_rfl
  f129 := Tryd.func44.trans (congrArg some (by kernel_rfl))
  f171 := Tryd.func32.trans (congrArg some (by kernel_rfl))
  f243 := Tryd.func50.trans (congrArg some (by kernel_rfl))
  f246 := Tryd.func65.trans (congrArg some (by kernel_rfl))
  f283 := Tryd.func72.trans (congrArg some (by kernel_rfl))
  f284 := Tryd.func73.trans (congrArg some (by kernel_rfl))
  f285 := Tryd.func74.trans (congrArg some (by kernel_rfl))
  f286 := Tryd.func75.trans (congrArg some (by kernel_rfl))
  f317 := Tryd.func77.trans (congrArg some (by kernel_rfl))
  f318 := Tryd.func78.trans (congrArg some (by kernel_rfl))
  f319 := Tryd.func79.trans (congrArg some (by kernel_rfl))
  f320 := Tryd.func80.trans (congrArg some (by kernel_rfl))
  f337 := Tryd.func82.trans (congrArg some (by kernel_rfl))
  f338 := Tryd.func83.trans (congrArg some (by kernel_rfl))
  t0 := Tryd.underlying0
  a0 := Tryd.isAgg0
  z0 := Tryd.sizeOf0
  v0 := Tryd.zeroValue0
  t2 := Tryd.underlying2
  a2 := Tryd.isAgg2
  z2 := Tryd.sizeOf2
  v2 := Tryd.zeroValue2
  t3 := Tryd.underlying3
  a3 := Tryd.isAgg3
  z3 := Tryd.sizeOf3
  v3 := Tryd.zeroValue3
  t4 := Tryd.underlying4
  a4 := Tryd.isAgg4
  z4 := Tryd.sizeOf4
  v4 := Tryd.zeroValue4
  t5 := Tryd.underlying5
  a5 := Tryd.isAgg5
  z5 := Tryd.sizeOf5
  v5 := Tryd.zeroValue5
  t9 := Tryd.underlying9
  a9 := Tryd.isAgg9
  z9 := Tryd.sizeOf9
  v9 := Tryd.zeroValue9
  t20 := Tryd.underlying20
  a20 := Tryd.isAgg20
  z20 := Tryd.sizeOf20
  v20 := Tryd.zeroValue20
  t37 := Tryd.underlying131
  a37 := Tryd.isAgg131
  z37 := Tryd.sizeOf131
  v37 := Tryd.zeroValue131
  t46 := Tryd.underlying83
  a46 := Tryd.isAgg83
  z46 := Tryd.sizeOf83
  v46 := Tryd.zeroValue83
  t51 := Tryd.underlying101
  a51 := Tryd.isAgg101
  z51 := Tryd.sizeOf101
  v51 := Tryd.zeroValue101
  t53 := Tryd.underlying22
  a53 := Tryd.isAgg22
  z53 := Tryd.sizeOf22
  v53 := Tryd.zeroValue22
  t171 := Tryd.underlying129
  a171 := Tryd.isAgg129
  z171 := Tryd.sizeOf129
  v171 := Tryd.zeroValue129
  t173 := Tryd.underlying132
  a173 := Tryd.isAgg132
  z173 := Tryd.sizeOf132
  v173 := Tryd.zeroValue132
  t212 := Tryd.underlying135
  a212 := Tryd.isAgg135
  z212 := Tryd.sizeOf135
  v212 := Tryd.zeroValue135
  t213 := Tryd.underlying136
  a213 := Tryd.isAgg136
  z213 := Tryd.sizeOf136
  t232 := Tryd.underlying137
  a232 := Tryd.isAgg137
  z232 := Tryd.sizeOf137
  v232 := Tryd.zeroValue137
  t233 := Tryd.underlying138
  a233 := Tryd.isAgg138
  z233 := Tryd.sizeOf138
  v233 := Tryd.zeroValue138
  g17 := by kernel_rfl
  g18 := by kernel_rfl
  g19 := by kernel_rfl
  i0 := by kernel_rfl
  i2 := by kernel_rfl
  i3 := by kernel_rfl
  i4 := by kernel_rfl
  i5 := by kernel_rfl
  i9 := by kernel_rfl
  i20 := by kernel_rfl
  i37 := by kernel_rfl
  i46 := by kernel_rfl
  i51 := by kernel_rfl
  i53 := by kernel_rfl
  i171 := by kernel_rfl
  i173 := by kernel_rfl
  i212 := by kernel_rfl
  i232 := by kernel_rfl
  i233 := by kernel_rfl
  m17 := by kernel_rfl
  m18 := by kernel_rfl
  m19 := by kernel_rfl }

def LT (w : World) : Prop := Lib.TabIs Tryd.prog w "internal/strconv.uint64pow10" .u64 Lib.pow10Tab
theorem LT.b {w w' : World} (h : LT w) (hb : Below w.heap.size w w') : LT w' := Lib.tabBelow_of_tabIs h w' hb

theorem itoa5 (k : Nat) (h : k < 10000) : ∃ z, ∃ a b c d : Nat, (a < 10 ∧ b < 10 ∧ c < 10 ∧ d < 10) ∧ Lib.itoa (10000 + (k : Int)) = [z, .ofNat (48 + a), .ofNat (48 + b), .ofNat (48 + c), .ofNat (48 + d)] := by
  have e : ((10000 : Int) + (k : Int)).toNat = 10000 + k := by omega
  refine ⟨.ofNat (48 + (10000 + k) / 10 / 10 / 10 / 10), (10000 + k) / 10 / 10 / 10 % 10, (10000 + k) / 10 / 10 % 10, (10000 + k) / 10 % 10, (10000 + k) % 10, ⟨by omega, by omega, by omega, by omega⟩, ?_⟩
  unfold Lib.itoa
  rw [if_neg (by omega), e]
  rw [Lib.decDigits, dif_neg (by omega), Lib.decDigits, dif_neg (by omega), Lib.decDigits, dif_neg (by omega), Lib.decDigits, dif_neg (by omega), Lib.decDigits, dif_pos (by omega)]
  simp only [List.cons_append, List.nil_append]
theorem dig_sign : ∀ a : Nat, a < 10 → signL (.ofNat (48 + a)) = true ∧ (UInt8.ofNat (48 + a) == 45) = false := by decide

def podNm (s : ByteArray) (k : Nat) : ByteArray := s ++ ⟨#[45]⟩ ++ (⟨(Lib.itoa (10000 + (k : Int))).toArray⟩ : ByteArray).extract 1 5
def pnOk (s : ByteArray) : Bool := decide (s.size + 5 ≤ 32)
theorem podNm_list (s : ByteArray) (k : Nat) (h : k < 10000) : ∃ a b c d : Nat, (a < 10 ∧ b < 10 ∧ c < 10 ∧ d < 10) ∧ (podNm s k).data.toList = s.data.toList ++ [45, .ofNat (48 + a), .ofNat (48 + b), .ofNat (48 + c), .ofNat (48 + d)] := by
  obtain ⟨z, a, b, c, d, hd, e⟩ := itoa5 k h
  refine ⟨a, b, c, d, hd, ?_⟩
  unfold podNm
  rw [e, ByteArray.data_append, ByteArray.data_append, Array.toList_append, Array.toList_append, List.append_assoc]
  congr 1
theorem podNm_of (s : ByteArray) (hn : nameOf s.data.toList = true) (k : Nat) (h : k < 10000) : nameOf (podNm s k).data.toList = pnOk s := by
  obtain ⟨a, b, c, d, ⟨ha, hb, hc, hd⟩, e⟩ := podNm_list s k h
  unfold nameOf at hn
  simp only [Bool.and_eq_true, decide_eq_true_eq, Bool.not_eq_true'] at hn
  obtain ⟨⟨⟨⟨h1, h2⟩, h3⟩, h4⟩, h5⟩ := hn
  have da := dig_sign a ha
  have db := dig_sign b hb
  have dc := dig_sign c hc
  have dd := dig_sign d hd
  have hl : ([45, UInt8.ofNat (48 + a), UInt8.ofNat (48 + b), UInt8.ofNat (48 + c), UInt8.ofNat (48 + d)] : List UInt8).getLast? = some (UInt8.ofNat (48 + d)) := rfl
  have hh : (s.data.toList ++ [45, UInt8.ofNat (48 + a), UInt8.ofNat (48 + b), UInt8.ofNat (48 + c), UInt8.ofNat (48 + d)]).head? = s.data.toList.head? := by
    cases hx : s.data.toList with
    | nil => rw [hx] at h1; simp at h1
    | cons x t => rfl
  rw [e]
  unfold nameOf pnOk
  rw [List.length_append, List.getLast?_append, hl, hh, h3, List.all_append, h5]
  have e2 : (some (UInt8.ofNat (48 + d)) == some 45) = false := dd.2
  have e3 : ([45, UInt8.ofNat (48 + a), UInt8.ofNat (48 + b), UInt8.ofNat (48 + c), UInt8.ofNat (48 + d)] : List UInt8).all signL = true := by
    simp only [List.all_cons, da.1, db.1, dc.1, dd.1, List.all_nil, Bool.and_true]
    decide
  rw [e3, show (Option.or (some (UInt8.ofNat (48 + d))) s.data.toList.getLast?) = some (UInt8.ofNat (48 + d)) from rfl, e2, size_data]
  simp
def podRet (s : ByteArray) (k : Nat) : Value := if pnOk s = true then .tuple #[.string (podNm s k), .int .i64 0] else .tuple #[.string ⟨#[]⟩, .int .i64 6]
theorem podRet_yes {s : ByteArray} (h : pnOk s = true) (k : Nat) : podRet s k = .tuple #[.string (podNm s k), .int .i64 0] := if_pos h
theorem podRet_no {s : ByteArray} (h : pnOk s = false) (k : Nat) : podRet s k = .tuple #[.string ⟨#[]⟩, .int .i64 6] := if_neg (by rw [h]; decide)

set_option maxRecDepth 100000 in
theorem podname_over (s : ByteArray) (k : Int) (hk : 10000 ≤ k) (w : World) : Calls Tryd.prog 24 #[.string s, .int .i64 k] w fun e w' => e = .returned (.tuple #[.string ⟨#[]⟩, .int .i64 1]) ∧ Below w.heap.size w w' := by
  have h1 : decide (k < 0) = false := decide_eq_false (by omega)
  have h2 : decide (k ≥ 10000) = true := decide_eq_true hk
  go_enter Tryd.func24, Tryd.ntmps24
  go_wp2_with fail
  exact bodyPost_ret (v := .tuple #[.string ⟨#[]⟩, .int .i64 1]) (by simp [results, Tryd.results24, go_sem]) rfl ⟨rfl, Below.refl _ _⟩
set_option maxRecDepth 100000 in
theorem podname_any (s : ByteArray) (hn : nameOf s.data.toList = true) (k : Nat) (hk : k < 10000) (w : World) (hT : LT w) : Calls Tryd.prog 24 #[.string s, .int .i64 k] w fun e w' => e = .returned (podRet s k) ∧ Below w.heap.size w w' := by
  have h1 : decide ((k : Int) < 0) = false := decide_eq_false (by omega)
  have h2 : decide ((k : Int) ≥ 10000) = false := decide_eq_false (by omega)
  have HT := Lib.hid hT
  have Hn := Lib.hid hn
  have Hs : Hid (s.size ≤ 32) := by
    show _ ≤ _
    unfold nameOf at hn
    simp only [Bool.and_eq_true, decide_eq_true_eq] at hn
    rw [size_data]
    exact hn.1.1.1.2
  have HL : Hid ((⟨(Lib.itoa (10000 + (k : Int))).toArray⟩ : ByteArray).size = 5) := by
    obtain ⟨z, a, b, c, d, _, e⟩ := itoa5 k hk
    show _ = _
    rw [e]; rfl
  have hkk : (10000 : Int) + (k : Int) ≤ 20000 := by omega
  clear hT hn
  go_enter Tryd.func24, Tryd.ntmps24
  have hs32 := Hs.out
  have HB : Hid (podNm s k = s ++ ⟨#[45]⟩ ++ (⟨(Lib.itoa (10000 + (k : Int))).toArray⟩ : ByteArray).extract 1 5) := rfl
  have HA : ∀ w1 : World, Calls Tryd.prog 33 #[.string s] w1 fun e w' => e = .returned (.bool true) ∧ w1 = w' := fun w1 => (name_any s w1).mono fun e w' ⟨h1, h2⟩ => ⟨by rw [h1, Hn.out], h2⟩
  have HP : ∀ w1 : World, Calls Tryd.prog 33 #[.string (podNm s k)] w1 fun e w' => e = .returned (.bool (pnOk s)) ∧ w1 = w' := fun w1 => (name_any (podNm s k) w1).mono fun e w' ⟨h1, h2⟩ => ⟨by rw [h1, podNm_of s Hn.out k hk], h2⟩
  have HHA := Lib.hid HA
  have HHP := Lib.hid HP
  clear HA HP
  go_wp2_with fail
  refine (Any.strconv_Itoa kItoa (10000 + (k : Int)) (by omega) (by omega) w HT.out).mono ?_
  rintro e w1 ⟨rfl, kd, os, rfl⟩
  obtain ⟨w2, hw2⟩ : ∃ w2, grow (w.drewN kd) os = w2 := ⟨_, rfl⟩
  have HW : Hid (Below w.heap.size w w2) := by rw [← hw2]; exact Lib.below_grow _ w (Nat.le_refl _) kd os
  rw [hw2]
  clear hw2
  obtain ⟨it, hit⟩ : ∃ it, (⟨(Lib.itoa (10000 + (k : Int))).toArray⟩ : ByteArray) = it := ⟨_, rfl⟩
  rw [hit]
  have hl5 : it.size = 5 := by rw [← hit]; exact HL.out
  have HB2 : Hid (podNm s k = s ++ ⟨#[45]⟩ ++ it.extract 1 5) := by show _ = _; rw [← hit]; rfl
  clear hit
  go_wp2_with fail
  refine (HHA.out w2).mono ?_
  rintro e w3 ⟨rfl, rfl⟩
  obtain ⟨nm, hnm⟩ : ∃ nm, s ++ ⟨#[45]⟩ ++ it.extract 1 5 = nm := ⟨_, rfl⟩
  rw [hnm]
  have HNM : Hid (podNm s k = nm) := HB2.out.trans hnm
  clear hnm
  go_wp2_with fail
  rw [← HNM.out]
  refine (HHP.out w2).mono ?_
  rintro e w3 ⟨rfl, rfl⟩
  obtain ⟨q, hq⟩ : ∃ q, pnOk s = q := ⟨_, rfl⟩
  rw [hq]
  have Hq := Lib.hid hq
  clear hq
  obtain ⟨nm2, hnm2⟩ : ∃ nm, podNm s k = nm := ⟨_, rfl⟩
  rw [hnm2]
  have Hnm2 := Lib.hid hnm2
  clear hnm2
  cases q
  · go_wp2_with fail
    exact bodyPost_ret (v := .tuple #[.string ⟨#[]⟩, .int .i64 6]) (by simp [results, Tryd.results24, go_sem]) rfl ⟨by rw [podRet_no Hq.out], HW.out⟩
  · go_wp2_with fail
    exact bodyPost_ret (v := .tuple #[.string nm2, .int .i64 0]) (by simp [results, Tryd.results24, go_sem]) rfl ⟨by rw [podRet_yes Hq.out, Hnm2.out], HW.out⟩
end Go.Proofs.YtjncoloedakpoaaDoor
