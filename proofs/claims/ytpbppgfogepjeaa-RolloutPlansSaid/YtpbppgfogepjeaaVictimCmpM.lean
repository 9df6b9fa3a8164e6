/- Objects as rows of cells, of which five are told; pod. No condition. || Rows of objects of the call's own. No condition. || The contract of victim.Live. Condition: at most 1000 objects. || The comparisons of chapter 15's order, at the phases of its example. No condition. -/
import Derived.Test.YtpbppgfogepjeaaRows
import Derived.Test.YtpbppgfogepjeaaRolEq0M
import Derived.Test.YtpbppgfogepjeaaFrame
import Derived.Sort.Walk0
import Derived.Deep.QuietTactic
namespace Go.Proofs.Ytpbppgfogepjeaa
open Go.ChangeShapes Go.WideShapes Go.ChangeAt Go.RowKit Go.Deep

structure OV where
  cells : List Value
  kind : Int
  name : ByteArray
  owner : ByteArray
  phase : Int
  since : Int
  hlen : cells.length = 47
  h0 : cells[0]? = some (.int .i64 kind)
  h1 : cells[1]? = some (.string name)
  h10 : cells[10]? = some (.string owner)
  h12 : cells[12]? = some (.int .i64 phase)
  h13 : cells[13]? = some (.int .i64 since)
  one : cells.all (fun u => u.oneCell') = true

theorem aggObj : AggOK Try.prog 44 47 := .mk' (by kernel_rfl) (by kernel_rfl)
theorem elemObj : ElemOK Try.prog 54 44 47 640 := .mk' Try.underlying54 (by kernel_rfl) (by decide)

theorem opod_any (x : OV) (w : World) : Calls Try.prog 104 #[.agg x.cells.toArray] w fun e w' => e = .returned (.bool (x.kind == 1)) ∧ Below w.heap.size w w' := by
  have k0 : (w.alloc (.cells x.cells.toArray 44)).cell? ⟨w.heap.size, 0, none⟩ = some (.int .i64 x.kind) := (cell_new w _ _ 0).trans (by simpa using x.h0)
  go_enter Try.func104, Try.ntmps104
  go_wp2
  go_ret
  exact ⟨rfl, (Below.refl _ _).alloc (Nat.le_refl _) _⟩
end Go.Proofs.Ytpbppgfogepjeaa
namespace Go.Proofs.Ytpbppgfogepjeaa
open Go.ChangeShapes Go.WideShapes Go.ChangeAt Go.RowKit Go.Deep

def OwnO (w : World) (B : Nat) (v : Value) (xs : List OV) : Prop := w.ownsRow B 44 47 v xs.length (xs.flatMap OV.cells)
def Dis (v u : Value) : Prop := ∀ g, v.ownBlock = some g → u.ownBlock ≠ some g

theorem Dis.symm {v u : Value} (h : Dis v u) : Dis u v := fun g h1 h2 => h g h2 h1

theorem OwnO.nil (w : World) (B : Nat) : OwnO w B (.slice none 0 0) [] := World.ownsRow_nil w B _ _

theorem own_next {w w' : World} {B : Nat} {v u : Value} {ys : List OV} {g' cap' n' : Nat} (hu : OwnO w B u ys) (hd : Dis v u) (hg : w.grownBy w' v.ownBlock) (hnew : v.ownBlock = some g' ∨ w.heap.size ≤ g') :
    OwnO w' B u ys ∧ Dis (.slice (some ⟨g', 0, none⟩) n' cap') u := by
  refine ⟨owns_fr (Fr.grown (S := fun k => v.ownBlock = some k) hg (fun k hk => hk)) hu (fun k hk hs => hd k hs hk), fun g h1 h2 => ?_⟩
  simp only [Value.ownBlock, Option.some.injEq] at h1
  subst h1
  rcases hnew with h | h
  · exact hd _ h h2
  · have := (World.ownsRow.lt hu _ h2).2
    omega

theorem own_first {w' : World} {B : Nat} {g' cap' : Nat} {xs : List OV} {x : OV} (h : w'.ownsRow B 44 47 (.slice (some ⟨g', 0, none⟩) (xs.length + 1) cap') (xs.length + 1) (xs.flatMap OV.cells ++ x.cells.toArray.toList)) :
    OwnO w' B (.slice (some ⟨g', 0, none⟩) (xs.length + 1) cap') (xs ++ [x]) := by
  unfold OwnO
  rw [List.length_append, List.flatMap_append]
  simpa using h

set_option maxRecDepth 100000 in
theorem oneList : ∀ (l : List Value), l.length = 47 → ∀ w : World, (Instr.buildSlice 54 1 [(0, .agg l.toArray)].toArray).run Try.prog w = .ok (.slice (some ⟨w.heap.size, 0, none⟩) 1 1) (w.alloc (.cells l.toArray 44))
  | a0 :: a1 :: a2 :: a3 :: a4 :: a5 :: a6 :: a7 :: a8 :: a9 :: a10 :: a11 :: a12 :: a13 :: a14 :: a15 :: a16 :: a17 :: a18 :: a19 :: a20 :: a21 :: a22 :: a23 :: a24 :: a25 :: a26 :: a27 :: a28 :: a29 :: a30 :: a31 :: a32 :: a33 :: a34 :: a35 :: a36 :: a37 :: a38 :: a39 :: a40 :: a41 :: a42 :: a43 :: a44 :: a45 :: a46 :: [], _ => fun w => by kernel_rfl

theorem oneObj (x : OV) (w : World) : (Instr.buildSlice 54 1 [(0, .agg x.cells.toArray)].toArray).run Try.prog w = .ok (.slice (some ⟨w.heap.size, 0, none⟩) 1 1) (w.alloc (.cells x.cells.toArray 44)) := oneList x.cells x.hlen w

end Go.Proofs.Ytpbppgfogepjeaa
namespace Go.Proofs.Ytpbppgfogepjeaa
open Go.ChangeShapes Go.WideShapes Go.ChangeAt Go.RowKit Go.Deep

def isMine (s : ByteArray) (o : OV) : Bool := (o.kind == 1) && (o.owner.toList == s.toList)
def isLive (s : ByteArray) (o : OV) : Bool := isMine s o && !(o.phase == 3)
def isDead (s : ByteArray) (o : OV) : Bool := isMine s o && (o.phase == 3)

set_option maxRecDepth 100000 in
set_option maxHeartbeats 2000000 in
theorem live_any (s : ByteArray) (l : List OV) (ao : Option Addr) (n cap : Nat) (w : World) (hS : SlR (Flat OV.cells) 47 w ao n cap l) (hn : n ≤ 1000) :
    Calls Try.prog 90 #[.slice ao n cap, .string s] w fun e w' => ∃ v1 v2, e = .returned (.tuple #[v1, v2]) ∧ OwnO w' w.heap.size v1 (l.filter (isLive s)) ∧ OwnO w' w.heap.size v2 (l.filter (isDead s)) ∧ Below w.heap.size w w' := by
  have hcm := hS.hmax
  have hlc := hS.hcap
  unfold maxLen at hcm
  have HS := Lib.hid hS
  clear hS
  go_enter Try.func90, Try.ntmps90
  go_wp2_with fail
  go_loopw [4, 5, 10] (fun v1 v2 i wr => ∃ k : Nat, k ≤ n ∧ i = .int .i64 k ∧ Hid (OwnO wr w.heap.size v1 ((l.take k).filter (isLive s))) ∧ Hid (OwnO wr w.heap.size v2 ((l.take k).filter (isDead s))) ∧
      Hid (Dis v1 v2) ∧ Hid (Below w.heap.size w wr)) (fun _ _ i _ => n - (intOf i).toNat)
  case atStart => exact ⟨0, Nat.zero_le _, rfl, OwnO.nil _ _, OwnO.nil _ _, fun g h => (by cases h), Below.refl _ _⟩
  case round =>
    obtain ⟨k, hk, rfl, ho1, ho2, hds, hb⟩ := hrel
    obtain ⟨wq, rfl⟩ : ∃ wq : World, wq = wr := ⟨_, rfl⟩
    by_cases hlt : k < n
    · have hS2 := HS.out.flatKeeps (Keeps.below hb.out)
      obtain ⟨b0, off, rfl⟩ := hS2.ptr (by decide) (by omega)
      have kx : k < l.length := by have := hS2.hlen; omega
      have hcl := hS2.flat kx
      have f1 := filter_take_succ (isLive s) l k kx
      have f2 := filter_take_succ (isDead s) l k kx
      have hlk : (l.take k).length ≤ 1000 := by simp; omega
      have g1 := List.length_filter_le (isLive s) (l.take k)
      have g2 := List.length_filter_le (isDead s) (l.take k)
      obtain ⟨x, hx⟩ : ∃ x, l[k] = x := ⟨_, rfl⟩
      rw [hx] at hcl f1 f2
      obtain ⟨X1, hX1⟩ : ∃ X, (l.take k).filter (isLive s) = X := ⟨_, rfl⟩
      obtain ⟨X2, hX2⟩ : ∃ X, (l.take k).filter (isDead s) = X := ⟨_, rfl⟩
      rw [hX1] at f1 g1 ho1
      rw [hX2] at f2 g2 ho2
      have F1 := Lib.hid f1
      have F2 := Lib.hid f2
      have Hcl := Lib.hid hcl
      have hsz := hb.out.size
      have G1 : X1.length ≤ 1000 := by omega
      have G2 : X2.length ≤ 1000 := by omega
      clear hcl hS2 hx hX1 hX2 f1 f2 g1 g2 hlk
      have Hn1 : Hid (∀ j u, x.cells[j]? = some u → (wq.alloc (.cells x.cells.toArray 44)).cell? (Addr.add ⟨wq.heap.size, 0, none⟩ j) = some u) := fun j u hu => (cell_new wq _ _ j).trans (by simpa using hu)
      go_wp2_with (first
        | ((with_reducible refine at_slot 13 ?_); go_must (refine wpList_load_at aggObj rfl _ rfl ⟨b0, off + k * 47, none⟩ rfl x.cells x.hlen (fun j u hu => by rw [Addr.add_lit]; exact Hcl.out j u hu) ?_))
        | ((with_reducible refine at_slot 7 ?_); go_must (refine wpList_var aggObj rfl rfl rfl _ _ rfl rfl x.cells.toArray rfl rfl (by simp [OV.hlen]) (by simpa using x.one) ?_))
        | ((with_reducible refine at_slot 19 ?_); go_must (refine wpList_load_at aggObj rfl _ rfl ⟨wq.heap.size, 0, none⟩ rfl x.cells x.hlen Hn1.out ?_)))
      refine (opod_any x _).mono ?_
      rintro e w2 ⟨rfl, hb2⟩
      have Hn2 : Hid (∀ j u, x.cells[j]? = some u → w2.cell? (Addr.add ⟨wq.heap.size, 0, none⟩ j) = some u) := fun j u hu => Below.cell_some hb2 (Hn1.out j u hu)
      have k10 := Hn2.out 10 _ x.h10
      have k12 := Hn2.out 12 _ x.h12
      rw [Addr.add_lit, Nat.zero_add] at k10 k12
      have hz2 := hb2.size
      rw [World.size_alloc] at hz2
      have HA : Hid (Below wq.heap.size wq w2) := ((Below.refl _ wq).alloc (Nat.le_refl _) _).trans (hb2.mono (by simp))
      have O1 : Hid (OwnO w2 w.heap.size u4 X1) := owns_fr (Fr.of_below HA.out (fun _ => False)) ho1.out (fun _ _ h => h)
      have O2 : Hid (OwnO w2 w.heap.size u5 X2) := owns_fr (Fr.of_below HA.out (fun _ => False)) ho2.out (fun _ _ h => h)
      have B2 : Hid (Below w.heap.size w w2) := hb.out.trans (HA.out.mono hsz)
      have hsz2 := B2.out.size
      clear hb2 ho1 ho2 Hcl Hn1
      obtain ⟨kb, hkb⟩ : ∃ kb, (x.kind == 1) = kb := ⟨_, rfl⟩
      rw [hkb]
      have HK := Lib.hid hkb
      clear hkb
      cases hm : isMine s x
      · have hf1 : Hid (((l.take (k + 1)).filter (isLive s)) = X1) := F1.out.trans (by rw [show isLive s x = false by unfold isLive; rw [hm]; rfl]; simp)
        have hf2 : Hid (((l.take (k + 1)).filter (isDead s)) = X2) := F2.out.trans (by rw [show isDead s x = false by unfold isDead; rw [hm]; rfl]; simp)
        unfold isMine at hm
        rw [HK.out] at hm
        cases kb
        · clear hm
          go_wp2_with fail
          go_roundw
          case rel => exact ⟨k + 1, by omega, by go_num, by rw [hf1.out]; exact O1.out, by rw [hf2.out]; exact O2.out, hds.out, B2.out⟩
          case measure => simp [intOf]; omega
        · have hw : (x.owner.toList == s.toList) = false := by simpa using hm
          clear hm
          go_wp2_with fail
          go_roundw
          case rel => exact ⟨k + 1, by omega, by go_num, by rw [hf1.out]; exact O1.out, by rw [hf2.out]; exact O2.out, hds.out, B2.out⟩
          case measure => simp [intOf]; omega
      · have hm' := hm
        unfold isMine at hm'
        rw [HK.out] at hm'
        obtain ⟨rfl, hw⟩ : kb = true ∧ (x.owner.toList == s.toList) = true := by
          cases kb
          · cases hm'
          · exact ⟨rfl, hm'⟩
        by_cases h3 : x.phase = 3
        · have hf1 : Hid (((l.take (k + 1)).filter (isLive s)) = X1) := F1.out.trans (by rw [show isLive s x = false by unfold isLive; rw [hm, h3]; rfl]; simp)
          have hf2 : Hid (((l.take (k + 1)).filter (isDead s)) = X2 ++ [x]) := F2.out.trans (by rw [show isDead s x = true by unfold isDead; rw [hm, h3]; rfl]; simp)
          rw [h3] at k12
          clear hm hm' h3
          go_wp2_with (first
          | ((with_reducible refine at_slot 35 ?_); go_must (refine wpList_load_at aggObj rfl _ rfl ⟨wq.heap.size, 0, none⟩ rfl x.cells x.hlen Hn2.out ?_))
          | ((with_reducible refine at_slot 36 ?_); go_must (refine wpList_buildSlice rfl 54 1 [(0, _)] rfl [(0, .agg x.cells.toArray)] rfl _ _ (oneObj x) ?_; refine wpList_append_new elemObj rfl _ _ rfl w.heap.size u5 X2.length (X2.flatMap OV.cells) rfl (O2.out.alloc _) (by simp; omega) _ _ rfl (heap_alloc_new _ _) (by simp [OV.hlen]) (by simpa using x.one) (by unfold maxLen; omega) (by omega) ?_; intro g' cap' w' ho' hg' hn'; have HO' := Lib.hid ho'; have HG' := Lib.hid hg'; have HN' := Lib.hid hn'; clear ho' hg' hn')))
          have N1 := own_next (n' := X2.length + 1) (cap' := cap') (O1.out.alloc (.cells x.cells.toArray 44)) hds.out.symm HG'.out (HN'.out.imp id (fun h => by simpa using h))
          have NB : Hid (Below w.heap.size w w') := (B2.out.alloc hsz2 _).grown HG'.out (by simp; omega) (fun k hk => (World.ownsRow.lt O2.out k hk).1)
          go_roundw
          case rel => exact ⟨k + 1, by omega, by go_num, by rw [hf1.out]; exact N1.1, by rw [hf2.out]; exact own_first HO'.out, N1.2.symm, NB.out⟩
          case measure => simp [intOf]; omega
        · have h3' : (x.phase == 3) = false := beq_eq_false_iff_ne.2 h3
          have hf1 : Hid (((l.take (k + 1)).filter (isLive s)) = X1 ++ [x]) := F1.out.trans (by rw [show isLive s x = true by unfold isLive; rw [hm, h3']; rfl]; simp)
          have hf2 : Hid (((l.take (k + 1)).filter (isDead s)) = X2) := F2.out.trans (by rw [show isDead s x = false by unfold isDead; rw [hm, h3']; rfl]; simp)
          clear hm hm' h3
          go_wp2_with (first
          | ((with_reducible refine at_slot 15 ?_); go_must (refine wpList_load_at aggObj rfl _ rfl ⟨wq.heap.size, 0, none⟩ rfl x.cells x.hlen Hn2.out ?_))
          | ((with_reducible refine at_slot 16 ?_); go_must (refine wpList_buildSlice rfl 54 1 [(0, _)] rfl [(0, .agg x.cells.toArray)] rfl _ _ (oneObj x) ?_; refine wpList_append_new elemObj rfl _ _ rfl w.heap.size u4 X1.length (X1.flatMap OV.cells) rfl (O1.out.alloc _) (by simp; omega) _ _ rfl (heap_alloc_new _ _) (by simp [OV.hlen]) (by simpa using x.one) (by unfold maxLen; omega) (by omega) ?_; intro g' cap' w' ho' hg' hn'; have HO' := Lib.hid ho'; have HG' := Lib.hid hg'; have HN' := Lib.hid hn'; clear ho' hg' hn')))
          have N2 := own_next (n' := X1.length + 1) (cap' := cap') (O2.out.alloc (.cells x.cells.toArray 44)) hds.out HG'.out (HN'.out.imp id (fun h => by simpa using h))
          have NB : Hid (Below w.heap.size w w') := (B2.out.alloc hsz2 _).grown HG'.out (by simp; omega) (fun k hk => (World.ownsRow.lt O1.out k hk).1)
          go_roundw
          case rel => exact ⟨k + 1, by omega, by go_num, by rw [hf1.out]; exact own_first HO'.out, by rw [hf2.out]; exact N2.1, N2.2, NB.out⟩
          case measure => simp [intOf]; omega
    · obtain rfl : k = n := by omega
      have ht : l.take k = l := List.take_of_length_le (by have := HS.out.hlen; omega)
      rw [ht] at ho1 ho2
      have O1 := ho1
      have O2 := ho2
      have Hb := hb
      clear ht
      go_wp2_with fail
      exact bodyPost_ret (v := .tuple #[u4, u5]) (by simp [results, Try.results90, go_sem]) rfl ⟨u4, u5, rfl, O1.out, O2.out, Hb.out⟩
end Go.Proofs.Ytpbppgfogepjeaa
namespace Go.Proofs.Ytpbppgfogepjeaa
open Go.ChangeShapes Go.WideShapes Go.ChangeAt Go.RowKit Go.Deep

def cfS (a b : ByteArray) : Int := if Op.bytesLess a.toList b.toList = true then -1 else if Op.bytesLess b.toList a.toList = true then 1 else 0

theorem less_irrefl (x : List UInt8) : Op.bytesLess x x = false := by
  rw [bytesLess_eq, decide_eq_false_iff_not]
  exact List.lt_irrefl x

theorem less_tri {x y : List UInt8} (h1 : Op.bytesLess x y = false) (h2 : Op.bytesLess y x = false) : x = y := by
  rw [bytesLess_eq, decide_eq_false_iff_not] at h1 h2
  exact List.le_antisymm (List.not_lt.1 h2) (List.not_lt.1 h1)

theorem isNaN_str (a : ByteArray) (w : World) :
    Calls Try.prog 86 #[.string a] w fun e w' => e = .returned (.bool false) ∧ w' = w := by
  go_enter Try.func86, Try.ntmps86
  go_wp2
  go_ret
  exact ⟨ret_bool (by simp), rfl⟩

theorem compare_str (a b : ByteArray) (w : World) :
    Calls Try.prog 43 #[.string a, .string b] w fun e w' => e = .returned (.int .i64 (cfS a b)) ∧ w' = w := by
  have hU : Hid (cfS a b = if Op.bytesLess a.toList b.toList = true then -1 else if Op.bytesLess b.toList a.toList = true then 1 else 0) := rfl
  have HN : Hid (∀ (x : ByteArray) (w1 : World), _) := fun x w1 => isNaN_str x w1
  cases h1 : Op.bytesLess a.toList b.toList
  · rw [h1] at hU
    cases h2 : Op.bytesLess b.toList a.toList
    · rw [h2] at hU
      have he := less_tri h1 h2
      have heb : (a.toList == b.toList) = true := by rw [beq_iff_eq]; exact he
      clear he
      go_enter Try.func43, Try.ntmps43
      go_wp2_with (go_at_call 86; refine (HN.out _ _).mono ?_; rintro e w' ⟨rfl, rfl⟩)
      go_ret
      exact ⟨by rw [hU.out] <;> rfl, rfl⟩
    · rw [h2] at hU
      have heb : (a.toList == b.toList) = false := by
        rw [beq_eq_false_iff_ne]
        intro he
        rw [he, less_irrefl] at h2
        cases h2
      go_enter Try.func43, Try.ntmps43
      go_wp2_with (go_at_call 86; refine (HN.out _ _).mono ?_; rintro e w' ⟨rfl, rfl⟩)
      go_ret
      exact ⟨by rw [hU.out] <;> rfl, rfl⟩
  · rw [h1] at hU
    go_enter Try.func43, Try.ntmps43
    go_wp2_with (go_at_call 86; refine (HN.out _ _).mono ?_; rintro e w' ⟨rfl, rfl⟩)
    go_ret
    exact ⟨by rw [hU.out] <;> rfl, rfl⟩

theorem isNaNI (x : Int) (w : World) : Calls Try.prog 134 #[.int .i64 x] w fun e w' => e = .returned (.bool false) ∧ w' = w := by
  go_enter Try.func134, Try.ntmps134
  go_wp2
  go_ret
  exact ⟨ret_bool (by simp), rfl⟩

def cfI (x y : Int) : Int := if x < y then -1 else if y < x then 1 else 0

theorem compareI (x y : Int) (w : World) : Calls Try.prog 121 #[.int .i64 x, .int .i64 y] w fun e w' => e = .returned (.int .i64 (cfI x y)) ∧ w' = w := by
  have HN : Hid (∀ (z : Int) (w1 : World), _) := fun z w1 => isNaNI z w1
  have hU : Hid (cfI x y = if x < y then -1 else if y < x then 1 else 0) := rfl
  by_cases h : x < y
  · rw [if_pos h] at hU
    go_enter Try.func121, Try.ntmps121
    go_wp2_with (go_at_call 134; refine (HN.out _ _).mono ?_; rintro e w' ⟨rfl, rfl⟩)
    go_ret
    exact ⟨by rw [hU.out] <;> rfl, rfl⟩
  · by_cases h2 : y < x
    · rw [if_neg h, if_pos h2] at hU
      go_enter Try.func121, Try.ntmps121
      go_wp2_with (go_at_call 134; refine (HN.out _ _).mono ?_; rintro e w' ⟨rfl, rfl⟩)
      go_ret
      exact ⟨by rw [hU.out] <;> rfl, rfl⟩
    · rw [if_neg h, if_neg h2] at hU
      go_enter Try.func121, Try.ntmps121
      go_wp2_with (go_at_call 134; refine (HN.out _ _).mono ?_; rintro e w' ⟨rfl, rfl⟩)
      go_ret
      exact ⟨by rw [hU.out] <;> rfl, rfl⟩

theorem isNaNL (x : Int) (w : World) : Calls Try.prog 136 #[.int .i64 x] w fun e w' => e = .returned (.bool false) ∧ w' = w := by
  go_enter Try.func136, Try.ntmps136
  go_wp2
  go_ret
  exact ⟨ret_bool (by simp), rfl⟩

theorem compareL (x y : Int) (w : World) : Calls Try.prog 123 #[.int .i64 x, .int .i64 y] w fun e w' => e = .returned (.int .i64 (cfI x y)) ∧ w' = w := by
  have HN : Hid (∀ (z : Int) (w1 : World), _) := fun z w1 => isNaNL z w1
  have hU : Hid (cfI x y = if x < y then -1 else if y < x then 1 else 0) := rfl
  by_cases h : x < y
  · rw [if_pos h] at hU
    go_enter Try.func123, Try.ntmps123
    go_wp2_with (go_at_call 136; refine (HN.out _ _).mono ?_; rintro e w' ⟨rfl, rfl⟩)
    go_ret
    exact ⟨by rw [hU.out] <;> rfl, rfl⟩
  · by_cases h2 : y < x
    · rw [if_neg h, if_pos h2] at hU
      go_enter Try.func123, Try.ntmps123
      go_wp2_with (go_at_call 136; refine (HN.out _ _).mono ?_; rintro e w' ⟨rfl, rfl⟩)
      go_ret
      exact ⟨by rw [hU.out] <;> rfl, rfl⟩
    · rw [if_neg h, if_neg h2] at hU
      go_enter Try.func123, Try.ntmps123
      go_wp2_with (go_at_call 136; refine (HN.out _ _).mono ?_; rintro e w' ⟨rfl, rfl⟩)
      go_ret
      exact ⟨by rw [hU.out] <;> rfl, rfl⟩

theorem or_three (a b c : Int) (k : Nat) (w : World) (h0 : w.cell? ⟨k, 0, none⟩ = some (.int .i64 a)) (h1 : w.cell? ⟨k, 1, none⟩ = some (.int .i64 b)) (h2 : w.cell? ⟨k, 2, none⟩ = some (.int .i64 c)) :
    Calls Try.prog 120 #[.slice (some ⟨k, 0, none⟩) 3 3] w fun e w' => e = .returned (.int .i64 (if a = 0 then if b = 0 then c else b else a)) ∧ w' = w := by
  obtain ⟨r, hr⟩ : ∃ r, (if a = 0 then if b = 0 then c else b else a) = r := ⟨_, rfl⟩
  rw [hr]
  have Hr := Lib.hid hr
  clear hr
  by_cases ha : a = 0
  · subst ha
    by_cases hb : b = 0
    · subst hb
      by_cases hc : c = 0
      · subst hc
        have e : r = 0 := by have := Hr.out; simpa using this.symm
        subst e
        go_enter Try.func120, Try.ntmps120
        go_wp2_with fail
        refine wp_loop_rounds 4 ?_
        rw [rounds_succ]
        go_wp2_with fail
        rw [rounds_succ]
        go_wp2_with fail
        rw [rounds_succ]
        go_wp2_with fail
        rw [rounds_succ]
        go_wp2_with fail
        go_ret
        exact ⟨rfl, rfl⟩
      · have e : r = c := by have := Hr.out; simpa using this.symm
        subst e
        have hc' : (r != 0) = true := bne_iff_ne.2 hc
        have hc2 : (r == 0) = false := beq_eq_false_iff_ne.2 hc
        go_enter Try.func120, Try.ntmps120
        go_wp2_with fail
        refine wp_loop_rounds 3 ?_
        rw [rounds_succ]
        go_wp2_with fail
        rw [rounds_succ]
        go_wp2_with fail
        rw [rounds_succ]
        go_wp2_with fail
        go_ret
        exact ⟨rfl, rfl⟩
    · have e : r = b := by have := Hr.out; rw [if_pos rfl, if_neg hb] at this; exact this.symm
      subst e
      have hc' : (r != 0) = true := bne_iff_ne.2 hb
      have hc2 : (r == 0) = false := beq_eq_false_iff_ne.2 hb
      go_enter Try.func120, Try.ntmps120
      go_wp2_with fail
      refine wp_loop_rounds 2 ?_
      rw [rounds_succ]
      go_wp2_with fail
      rw [rounds_succ]
      go_wp2_with fail
      go_ret
      exact ⟨rfl, rfl⟩
  · have e : r = a := by have := Hr.out; rw [if_neg ha] at this; exact this.symm
    subst e
    have hc' : (r != 0) = true := bne_iff_ne.2 ha
    have hc2 : (r == 0) = false := beq_eq_false_iff_ne.2 ha
    go_enter Try.func120, Try.ntmps120
    go_wp2_with fail
    refine wp_loop_rounds 1 ?_
    rw [rounds_succ]
    go_wp2_with fail
    go_ret
    exact ⟨rfl, rfl⟩

theorem index_pending (k : Nat) (w : World) (k0 : w.cell? ⟨k, 0, none⟩ = some (.int .i64 3)) (k1 : w.cell? ⟨k, 1, none⟩ = some (.int .i64 0)) (_k2 : w.cell? ⟨k, 2, none⟩ = some (.int .i64 1)) (_k3 : w.cell? ⟨k, 3, none⟩ = some (.int .i64 2)) :
    Calls Try.prog 135 #[.slice (some ⟨k, 0, none⟩) 4 4, .int .i64 0] w fun e w' => e = .returned (.int .i64 1) ∧ w' = w := by
  go_enter Try.func135, Try.ntmps135
  go_wp2_with fail
  refine wp_loop_rounds 2 ?_
  rw [rounds_succ]
  go_wp2_with fail
  rw [rounds_succ]
  go_wp2_with fail
  go_ret
  exact ⟨rfl, rfl⟩

theorem index_ready (k : Nat) (w : World) (k0 : w.cell? ⟨k, 0, none⟩ = some (.int .i64 3)) (k1 : w.cell? ⟨k, 1, none⟩ = some (.int .i64 0)) (k2 : w.cell? ⟨k, 2, none⟩ = some (.int .i64 1)) (k3 : w.cell? ⟨k, 3, none⟩ = some (.int .i64 2)) :
    Calls Try.prog 135 #[.slice (some ⟨k, 0, none⟩) 4 4, .int .i64 2] w fun e w' => e = .returned (.int .i64 3) ∧ w' = w := by
  go_enter Try.func135, Try.ntmps135
  go_wp2_with fail
  refine wp_loop_rounds 4 ?_
  rw [rounds_succ]
  go_wp2_with fail
  rw [rounds_succ]
  go_wp2_with fail
  rw [rounds_succ]
  go_wp2_with fail
  rw [rounds_succ]
  go_wp2_with fail
  go_ret
  exact ⟨rfl, rfl⟩

end Go.Proofs.Ytpbppgfogepjeaa
