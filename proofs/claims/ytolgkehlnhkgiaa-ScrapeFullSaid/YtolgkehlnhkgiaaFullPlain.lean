/- The 512 series of ScrapeFull: their names; what a book of them is. No condition. -/
import Derived.Test.YtolgkehlnhkgiaaForget
import Derived.Test.YtolgkehlnhkgiaaScrapeLives
namespace Go.Proofs.Ytolgkehlnhkgiaa
open Go.ChangeShapes Go.WideShapes Go.ChangeAt Go.RowKit Go.Deep Go.Maps

def two (k : Nat) : ByteArray := strOfNums [97 + (k : Int) / 26, 97 + (k : Int) % 26]
def nmP (k : Nat) : ByteArray := ⟨#[112]⟩ ++ two k
def sM : ByteArray := ⟨#[109]⟩
def sOther : ByteArray := ⟨#[111, 116, 104, 101, 114]⟩

theorem nmP_data (k : Nat) : (nmP k).data.toList = [112, UInt8.ofNat (97 + k / 26), UInt8.ofNat (97 + k % 26)] := by
  have e1 : (97 + (k : Int) / 26).toNat = 97 + k / 26 := by omega
  have e2 : (97 + (k : Int) % 26).toNat = 97 + k % 26 := by omega
  have e : (nmP k).data.toList = (⟨#[112]⟩ : ByteArray).data.toList ++ (two k).data.toList := by rw [nmP, ByteArray.data_append]; simp
  rw [e, two, strOfNums_data]
  simp only [List.map_cons, List.map_nil, e1, e2]
  rfl

theorem nmP_size (k : Nat) : (nmP k).size = 3 := by
  have := congrArg List.length (nmP_data k)
  simpa using this

theorem toNat_small {n : Nat} (h : n < 256) : (UInt8.ofNat n).toNat = n := by
  rw [UInt8.toNat_ofNat']
  exact Nat.mod_eq_of_lt h

theorem nmP_inj {j k : Nat} (hj : j < 512) (hk : k < 512) (h : nmP j = nmP k) : j = k := by
  have h := congrArg (fun b => b.data.toList) h
  rw [nmP_data, nmP_data] at h
  simp only [List.cons.injEq, and_true, true_and] at h
  have h1 := congrArg UInt8.toNat h.1
  have h2 := congrArg UInt8.toNat h.2
  rw [toNat_small (by omega), toNat_small (by omega)] at h1
  rw [toNat_small (by omega), toNat_small (by omega)] at h2
  omega

theorem nmP_other (k : Nat) : nmP k ≠ sOther := fun h => by
  have h := congrArg ByteArray.size h
  rw [nmP_size] at h
  exact absurd h (by decide)

theorem sign_low {n : Nat} (h1 : 97 ≤ n) (h2 : n ≤ 122) : signL (UInt8.ofNat n) = true := by
  unfold signL signOf
  rw [toNat_small (by omega)]
  simp
  omega

theorem nmP_name {k : Nat} (hk : k < 512) : nameOf (nmP k).data.toList = true := by
  rw [nmP_data]
  have s1 := sign_low (n := 97 + k / 26) (by omega) (by omega)
  have s2 := sign_low (n := 97 + k % 26) (by omega) (by omega)
  have s0 : signL 112 = true := by decide
  have e : UInt8.ofNat (97 + k % 26) ≠ 45 := by
    intro e
    have := congrArg UInt8.toNat e
    rw [toNat_small (by omega)] at this
    have h45 : (45 : UInt8).toNat = 45 := rfl
    omega
  have e' : ¬ (some (UInt8.ofNat (97 + k % 26)) == some (45 : UInt8)) = true := by simpa only [Option.some_beq_some, beq_iff_eq] using e
  have e3 : (([112, UInt8.ofNat (97 + k / 26), UInt8.ofNat (97 + k % 26)] : List UInt8).all signL) = true := by rw [List.all_cons, List.all_cons, List.all_cons, s0, s1, s2]; rfl
  have e4 : (([112, UInt8.ofNat (97 + k / 26), UInt8.ofNat (97 + k % 26)] : List UInt8).getLast? == some 45) = false := by
    have : (([112, UInt8.ofNat (97 + k / 26), UInt8.ofNat (97 + k % 26)] : List UInt8).getLast?) = some (UInt8.ofNat (97 + k % 26)) := rfl
    rw [this]
    exact Bool.eq_false_iff.2 e'
  unfold nameOf
  rw [e3, e4]
  rfl

theorem ref0 : refOf 0 = (0, 0) := by kernel_rfl
theorem pre_k {k : Nat} (hk : k < 512) (at0 : Int) (h : 0 ≤ at0) (h' : at0 ≤ 4611686018427387904) : preOf at0 (nmP k) sM 0 = 0 := by
  unfold preOf
  rw [if_neg (by omega), if_pos ⟨nmP_name hk, by kernel_rfl⟩, ref0]
theorem pre_other : preOf 1 sOther sM 0 = 0 := by
  unfold preOf
  rw [if_neg (by decide), if_pos ⟨by kernel_rfl, by kernel_rfl⟩, ref0]

/-- A book of the first k names, whatever they hold. -/
def Subs (E : List En) (k : Nat) : Prop := E.map (fun e => (e.sub, e.met)) = (List.range k).map fun j => (nmP j, sM)
def Ones (E : List En) : Prop := ∀ e ∈ E, e.L = [⟨1, 0⟩]

theorem Subs.len {E : List En} {k : Nat} (h : Subs E k) : E.length = k := by
  have := congrArg List.length h
  simpa using this
theorem Subs.mem {E : List En} {k : Nat} (h : Subs E k) {e : En} (he : e ∈ E) : ∃ j, j < k ∧ e.sub = nmP j ∧ e.met = sM := by
  have : (e.sub, e.met) ∈ (List.range k).map fun j => (nmP j, sM) := by
    rw [← h]; exact List.mem_map.2 ⟨e, he, rfl⟩
  obtain ⟨j, hj, hq⟩ := List.mem_map.1 this
  injection hq with h1 h2
  exact ⟨j, List.mem_range.1 hj, h1.symm, h2.symm⟩
theorem Subs.small {E : List En} {k : Nat} (h : Subs E k) : ∀ e ∈ E, e.sub.size ≤ maxLen ∧ e.met.size ≤ maxLen := fun e he => by
  obtain ⟨j, _, h1, h2⟩ := h.mem he
  rw [h1, h2, nmP_size]
  exact ⟨by decide, by decide⟩
theorem Subs.snoc {E : List En} {k : Nat} (h : Subs E k) (rb lb : Nat) (L : List Sm) : Subs (E ++ [⟨nmP k, sM, rb, lb, L⟩]) (k + 1) := by
  unfold Subs
  rw [List.map_append, h, List.range_succ, List.map_append]
  rfl
theorem Subs.none {E : List En} {k : Nat} (h : Subs E k) {s : ByteArray} (hs : s.size ≤ maxLen) (hn : ∀ j, j < k → nmP j ≠ s) : findE E (serBytes s.data.toList sM.data.toList) = none := by
  refine List.find?_eq_none.2 fun e he hk => ?_
  obtain ⟨j, hj, h1, h2⟩ := h.mem he
  have hk : e.key = _ := eq_of_beq hk
  unfold En.key at hk
  obtain ⟨l1, l2⟩ := h.small e he
  have := (serBytes_inj l1 l2 hs (by decide) hk).1
  exact hn j hj (h1.symm.trans this)
theorem Subs.some {E : List En} {k : Nat} (h : Subs E k) {j : Nat} (hj : j < k) : ∃ en, findE E (serBytes (nmP j).data.toList sM.data.toList) = some en ∧ en ∈ E := by
  have : (nmP j, sM) ∈ E.map (fun e => (e.sub, e.met)) := by
    rw [h]; exact List.mem_map.2 ⟨j, List.mem_range.2 hj, rfl⟩
  obtain ⟨e, he, hq⟩ := List.mem_map.1 this
  injection hq with h1 h2
  cases hf : findE E (serBytes (nmP j).data.toList sM.data.toList) with
  | none =>
    have := List.find?_eq_none.1 hf e he
    refine absurd ?_ this
    show (e.key == _) = true
    unfold En.key
    rw [h1, h2]; exact beq_self_eq_true _
  | some en => exact ⟨en, rfl, findE_mem hf⟩
theorem Subs.set {E : List En} {k : Nat} (h : Subs E k) (key : List UInt8) (L : List Sm) : Subs (setL E key L) k := by
  unfold Subs setL
  rw [List.map_map, ← h]
  refine List.map_congr_left fun e _ => ?_
  show ((if e.key = key then { e with L := L } else e).sub, (if e.key = key then { e with L := L } else e).met) = (e.sub, e.met)
  split <;> rfl

theorem drop_one {α : Type} [DecidableEq α] {l : List α} (hn : l.Nodup) {a : α} (ha : a ∈ l) : (l.filter fun x => !decide (x = a)).length + 1 = l.length := by
  induction l with
  | nil => cases ha
  | cons x t ih =>
    have hnt := (List.nodup_cons.1 hn)
    rw [List.filter_cons]
    by_cases hx : x = a
    · subst hx
      rw [if_neg (by simp)]
      have : t.filter (fun y => !decide (y = x)) = t := List.filter_eq_self.2 fun y hy => by
        have : y ≠ x := fun hh => hnt.1 (hh ▸ hy)
        simp [this]
      rw [this]; rfl
    · rw [if_pos (by simp [hx])]
      have hm : a ∈ t := by
        rcases List.mem_cons.1 ha with q | q
        · exact absurd q.symm hx
        · exact q
      have := ih hnt.2 hm
      simp only [List.length_cons]
      omega

set_option maxRecDepth 100000 in
theorem Subs.forget {E : List En} (h : Subs E 512) {j : Nat} (hj : j < 512) : 1 + (forgetE E (nmP j)).length = E.length := by
  have e1 : (forgetE E (nmP j)).length = ((E.map fun e => (e.sub, e.met)).filter fun p => !(p.1.toList == (nmP j).toList)).length := by
    rw [List.filter_map, List.length_map]; rfl
  have e2 : (((List.range 512).map fun j => (nmP j, sM)).filter fun p => !(p.1.toList == (nmP j).toList)).length = ((List.range 512).filter fun x => !decide (x = j)).length := by
    rw [List.filter_map, List.length_map]
    congr 1
    refine List.filter_congr fun x hx => ?_
    show (!((nmP x).toList == (nmP j).toList)) = _
    rw [str_eq]
    congr 1
    exact decide_eq_decide.2 ⟨fun hh => nmP_inj (List.mem_range.1 hx) hj hh, fun hh => by rw [hh]⟩
  have e3 := drop_one (List.nodup_range (n := 512)) (List.mem_range.2 hj)
  rw [e1, h, e2, h.len]
  rw [List.length_range] at e3
  omega

theorem forget_none {E : List En} {s : ByteArray} {k : List UInt8} (h : findE E k = none) : findE (forgetE E s) k = none := List.find?_eq_none.2 fun e he => List.find?_eq_none.1 h e (List.mem_filter.1 he).1

theorem put_two : putOf 2 [⟨1, 0⟩] ⟨2, 0⟩ = (0, [⟨1, 0⟩, ⟨2, 0⟩]) := by
  unfold putOf
  rw [if_neg (by simp)]
  rfl

set_option maxRecDepth 100000 in
theorem name11_any (k : Nat) (hk : k < 512) (w : World) : Calls Try.prog 8 #[.int .i64 k] w fun e w' => e = .returned (.string (nmP k)) ∧ Below w.heap.size w w' := by
  have hconv := run_convert_bytes_arg (P := Try.prog) (w.alloc (.cells #[.int .u8 (97 + (k : Int) / 26), .int .u8 (97 + (k : Int) % 26)] 5)) 30 5 Try.underlying30 Try.underlying5 w.heap.size 0 2 2 [97 + (k : Int) / 26, 97 + (k : Int) % 26] rfl (fun i hi => by rw [cell_of_row _ w.heap.size (0 + i) _ _ _ (heap_alloc_new w _)]; rcases (show i = 0 ∨ i = 1 by omega) with rfl | rfl <;> rfl) 9 Try.underlying9
  have e2 : strOfNums [97 + (k : Int) / 26, 97 + (k : Int) % 26] = two k := rfl
  rw [e2] at hconv
  have hz : (two k).size ≤ 2 := by rw [two, strOfNums_size]; simp
  have e3 : nmP k = ⟨#[112]⟩ ++ two k := rfl
  rw [e3]
  clear e2 e3
  obtain ⟨s2, hs2⟩ : ∃ s, two k = s := ⟨_, rfl⟩
  rw [hs2] at hconv hz ⊢
  clear hs2
  go_enter Try.func8, Try.ntmps8
  go_wp2_with fail
  go_ret
  exact ⟨rfl, (Below.refl _ _).alloc (Nat.le_refl _) _⟩
end Go.Proofs.Ytolgkehlnhkgiaa
