/- The contract of rollout.goes. Condition: the objects read, at most 1000; the spare number lies in a variable of its own. || The contracts of chapter 35's sooner, same, right and Check. Conditions: same's names read, and are the same. -/
import Derived.Test.YtpbppgfogepjeaaStOb2M
import Derived.Test.YtpbppgfogepjeaaRolPlain
import Derived.Test.YtpbppgfogepjeaaRolEqM
import Derived.Test.YtpbppgfogepjeaaPhaseM
import Derived.Deep.QuietTactic
namespace Go.Proofs.Ytpbppgfogepjeaa
open Go.ChangeShapes Go.WideShapes Go.ChangeAt Go.RowKit Go.Deep

def cN (s : ByteArray) : List Value := [.string s]
def OwnN (w : World) (B : Nat) (v : Value) (xs : List ByteArray) : Prop := w.ownsRow B 9 1 v xs.length (xs.flatMap cN)
theorem OwnN.nil (w : World) (B : Nat) : OwnN w B (.slice none 0 0) [] := World.ownsRow_nil w B _ _
theorem elemName : ElemOK Try.prog 68 9 1 16 := .mk' Try.underlying68 (by kernel_rfl) (by decide)
theorem oneName (s : ByteArray) (w : World) : (Instr.buildSlice 68 1 [(0, .string s)].toArray).run Try.prog w = .ok (.slice (some ⟨w.heap.size, 0, none⟩) 1 1) (w.alloc (.cells #[.string s] 9)) := by kernel_rfl
theorem OwnN.first {w' : World} {B : Nat} {g' cap' : Nat} {xs : List ByteArray} {x : ByteArray} (h : w'.ownsRow B 9 1 (.slice (some ⟨g', 0, none⟩) (xs.length + 1) cap') (xs.length + 1) (xs.flatMap cN ++ (#[Value.string x]).toList)) : OwnN w' B (.slice (some ⟨g', 0, none⟩) (xs.length + 1) cap') (xs ++ [x]) := by
  unfold OwnN
  rw [List.length_append, List.flatMap_append]
  exact h
def ovPv (o : OV) : Pv := ⟨o.phase, o.name, false⟩
theorem SlR.frG {α : Type} {f : α → List Value} {sz : Nat} {S : Nat → Prop} {w w' : World} {ao : Option Addr} {n cap : Nat} {xs : List α} (h : SlR (Flat f) sz w ao n cap xs) (hf : Fr S w w') (hk : ∀ a, ao = some a → ¬ S a.block) : SlR (Flat f) sz w' ao n cap xs :=
  ⟨h.hlen, h.hcap, h.hmax, h.hnil, fun a ha i hi => by
    obtain ⟨c, h1, h2, h3⟩ := h.hat a ha i hi
    exact ⟨c, h1, fun j u hu => hf.cell (h2 j u hu) (by rw [show ∀ (a : Addr) (n : Nat), (a.add n).block = a.block from fun a n => by unfold Addr.add; first | rfl | (split <;> rfl)]; exact hk a ha), h3⟩⟩
structure GoTo (w0 : World) (sb : Nat) (w : World) (v : Value) (s : Int × List ByteArray) : Prop where
  own : OwnN w w0.heap.size v s.2
  cell : w.heap[sb]? = some (.cells #[.int .i64 s.1] 3 (0, 0))
  fr : Fr (fun k => k = sb) w0 w

theorem Fr.setC (S : Nat → Prop) (w : World) (p : Addr) (v : Value) (hp : S p.block) : Fr S w (w.setCell p v) := by
  refine ⟨rfl, rfl, rfl, by simp [World.setCell], fun k hk hs => ?_⟩
  rw [Below.heap_setCell _ _ _ _ (fun e => hs (by rw [e]; exact hp))]
theorem GoTo.own_ne {w0 w : World} {sb : Nat} {v : Value} {s : Int × List ByteArray} (h : GoTo w0 sb w v s) (hs : sb < w0.heap.size) : v.ownBlock ≠ some sb := fun e => by
  have := (World.ownsRow.lt h.own _ e).1
  omega
theorem GoTo.less {w0 w : World} {sb : Nat} {v : Value} {s : Int × List ByteArray} (h : GoTo w0 sb w v s) (hs : sb < w0.heap.size) (z : Int) : GoTo w0 sb (w.setCell ⟨sb, 0, none⟩ (.int .i64 z)) v (z, s.2) := by
  have hf : Fr (fun k => k = sb) w (w.setCell ⟨sb, 0, none⟩ (.int .i64 z)) := Fr.setC (fun k => k = sb) w ⟨sb, 0, none⟩ _ rfl
  exact ⟨owns_fr hf h.own (fun k hk e => h.own_ne hs (by rw [← e]; exact hk)), row_setCell h.cell _, h.fr.trans hf (fun i hi => .inl hi)⟩
theorem GoTo.more {w0 w w' : World} {sb : Nat} {va : Option Addr} {vcap : Nat} {s : Int × List ByteArray} {x : ByteArray} {g' cap' : Nat} (h : GoTo w0 sb w (.slice va s.2.length vcap) s) (hs : sb < w0.heap.size)
    (ho : w'.ownsRow w0.heap.size 9 1 (.slice (some ⟨g', 0, none⟩) (s.2.length + 1) cap') (s.2.length + 1) (s.2.flatMap cN ++ (#[Value.string x]).toList)) (hg : (w.alloc (.cells #[.string x] 9)).grownBy w' (Value.slice va s.2.length vcap).ownBlock) :
    GoTo w0 sb w' (.slice (some ⟨g', 0, none⟩) (s.2.length + 1) cap') (s.1, s.2 ++ [x]) := by
  have hf := Fr.grown (S := fun k => (Value.slice va s.2.length vcap).ownBlock = some k) hg (fun k hk => hk)
  have hlt : sb < (w.alloc (.cells #[.string x] 9)).heap.size := by have := h.fr.size; simp; omega
  refine ⟨OwnN.first ho, (hf.block sb hlt (h.own_ne hs)).trans ((Below.heap_alloc _ _ _ (Array.getElem?_eq_some_iff.1 h.cell).1).trans h.cell), (h.fr.alloc _).trans hf (fun i hi => .inr (World.ownsRow.lt h.own _ hi).1)⟩

set_option maxRecDepth 100000 in
set_option maxHeartbeats 2000000 in
theorem rgoes_any (l : List OV) (ao : Option Addr) (n cap : Nat) (M sp : Int) (sb : Nat) (w : World) (hS : SlR (Flat OV.cells) 47 w ao n cap l) (hn : n ≤ 1000) (hsp : -100000000 ≤ sp ∧ sp ≤ 100000000)
    (hc : w.heap[sb]? = some (.cells #[.int .i64 sp] 3 (0, 0))) (hd : ∀ a, ao = some a → a.block ≠ sb) :
    Calls Try.prog 50 #[.slice ao n cap, .int .i64 M, .pointer (some ⟨sb, 0, none⟩)] w fun e w' => ∃ v, e = .returned v ∧ GoTo w sb w' v (l.foldl (gStep ovPv M) (sp, [])) := by
  have hcm := hS.hmax
  have hlc := hS.hcap
  unfold maxLen at hcm
  obtain ⟨R, hR⟩ : ∃ R, l.foldl (gStep ovPv M) (sp, []) = R := ⟨_, rfl⟩
  rw [hR]
  have HR := Lib.hid hR
  have HS := Lib.hid hS
  have HC := Lib.hid hc
  have HD := Lib.hid hd
  have hsb : sb < w.heap.size := (Array.getElem?_eq_some_iff.1 hc).1
  clear hS hc hd hR
  go_enter Try.func50, Try.ntmps50
  go_wp2_with fail
  go_loopw [7, 12] (fun v i wr => ∃ k : Nat, k ≤ n ∧ i = .int .i64 k ∧ (∃ s : Int × List ByteArray, Hid ((l.take k).foldl (gStep ovPv M) (sp, []) = s) ∧ sp - k ≤ s.1 ∧ s.1 ≤ sp ∧ s.2.length ≤ k ∧ Hid (GoTo w sb wr v s))) (fun _ i _ => n - (intOf i).toNat)
  case atStart => exact ⟨0, Nat.zero_le _, rfl, (sp, []), rfl, by simp, by simp, by simp, ⟨OwnN.nil _ _, HC.out, Fr.refl _ _⟩⟩
  case round =>
    obtain ⟨k, hk, rfl, s, hst, hs1, hs2, hs3, hg⟩ := hrel
    obtain ⟨wq, rfl⟩ : ∃ wq : World, wq = wr := ⟨_, rfl⟩
    obtain ⟨s1, s2⟩ := s
    dsimp only at hs1 hs2 hs3
    by_cases hlt : k < n
    · have hS2 := HS.out.frG hg.out.fr HD.out
      obtain ⟨b0, off, rfl⟩ := hS2.ptr (by decide) (by omega)
      have kx : k < l.length := by have := hS2.hlen; omega
      have hcl := hS2.flat kx
      have hnx : (l.take (k + 1)).foldl (gStep ovPv M) (sp, []) = gStep ovPv M (s1, s2) l[k] := by rw [List.take_succ_eq_append_getElem kx, List.foldl_append, hst.out]; rfl
      have hfu : M ≤ s2.length → l.foldl (gStep ovPv M) (sp, []) = (s1, s2) := fun h => by
        rw [← List.take_append_drop k l, List.foldl_append, hst.out]
        exact gStep_full ovPv h _
      obtain ⟨x, hx⟩ : ∃ x, l[k] = x := ⟨_, rfl⟩
      rw [hx] at hcl hnx
      have Hcl := Lib.hid hcl
      have Hnx := Lib.hid hnx
      have Hfu := Lib.hid hfu
      have hG2 : GoTo w sb (wq.alloc (.cells x.cells.toArray 44)) u7 (s1, s2) := ⟨hg.out.own.alloc _, (Below.heap_alloc _ _ _ (Array.getElem?_eq_some_iff.1 hg.out.cell).1).trans hg.out.cell, hg.out.fr.alloc _⟩
      have k1 : (wq.alloc (.cells x.cells.toArray 44)).cell? ⟨wq.heap.size, 1, none⟩ = some (.string x.name) := by
        have := (cell_new wq x.cells.toArray 44 1).trans (by simpa using x.h1)
        rwa [Addr.add_lit, Nat.zero_add] at this
      have k12 : (wq.alloc (.cells x.cells.toArray 44)).cell? ⟨wq.heap.size, 12, none⟩ = some (.int .i64 x.phase) := by
        have := (cell_new wq x.cells.toArray 44 12).trans (by simpa using x.h12)
        rwa [Addr.add_lit, Nat.zero_add] at this
      have ksp : (wq.alloc (.cells x.cells.toArray 44)).cell? ⟨sb, 0, none⟩ = some (.int .i64 s1) := cell_of_row _ sb 0 _ _ _ hG2.cell
      have kfr : (wq.alloc (.cells x.cells.toArray 44)).frozen? ⟨sb, 0, none⟩ = false := row_free hG2.cell 0
      have HG2 := Lib.hid hG2
      have hsz : w.heap.size ≤ wq.heap.size := hg.out.fr.size
      clear hcl hS2 hx hnx hfu hst hg hG2
      have hlen := HG2.out.own
      unfold OwnN at hlen
      dsimp only at hlen
      obtain ⟨vc, hvc⟩ : ∃ vc : Option Addr × Nat, u7 = .slice vc.1 s2.length vc.2 := by
        rcases hlen.2 with ⟨rfl, h0⟩ | ⟨g, cap, cur, rfl, _⟩
        · exact ⟨(none, 0), by rw [h0]⟩
        · exact ⟨(some ⟨g, 0, none⟩, cap), rfl⟩
      obtain ⟨va, vcap⟩ := vc
      dsimp only at hvc
      subst hvc
      clear hlen
      by_cases hful : M ≤ s2.length
      · have HE : Hid ((s1, s2) = R) := by show _ = _; rw [← HR.out]; exact (Hfu.out hful).symm
        have hge : decide ((s2.length : Int) ≥ M) = true := by simpa using hful
        go_wp2_with (first
          | ((with_reducible refine at_slot 15 ?_); go_must (refine wpList_load_at aggObj rfl _ rfl ⟨b0, off + k * 47, none⟩ rfl x.cells x.hlen (fun j u hu => by rw [Addr.add_lit]; exact Hcl.out j u hu) ?_))
          | ((with_reducible refine at_slot 9 ?_); go_must (refine wpList_var aggObj rfl rfl rfl _ _ rfl rfl x.cells.toArray rfl rfl (by simp [OV.hlen]) (by simpa using x.one) ?_)))
        go_ret
        exact ⟨_, rfl, HE.out ▸ HG2.out⟩
      · have hlf : decide ((s2.length : Int) ≥ M) = false := by simpa using hful
        by_cases hp : x.phase = 2
        · rw [hp] at k12
          by_cases hz : s1 ≤ 0
          · have HE : Hid ((l.take (k + 1)).foldl (gStep ovPv M) (sp, []) = (s1, s2)) := by
              show _ = _
              rw [Hnx.out]
              unfold gStep ovPv
              rw [if_neg hful, if_pos hp, if_pos hz]
            go_wp2_with (first
                | ((with_reducible refine at_slot 15 ?_); go_must (refine wpList_load_at aggObj rfl _ rfl ⟨b0, off + k * 47, none⟩ rfl x.cells x.hlen (fun j u hu => by rw [Addr.add_lit]; exact Hcl.out j u hu) ?_))
                | ((with_reducible refine at_slot 9 ?_); go_must (refine wpList_var aggObj rfl rfl rfl _ _ rfl rfl x.cells.toArray rfl rfl (by simp [OV.hlen]) (by simpa using x.one) ?_)))
            go_roundw
            case rel => exact ⟨k + 1, by omega, by go_num, (s1, s2), HE.out, by dsimp only; omega, hs2, by dsimp only; omega, HG2.out⟩
            case measure => simp [intOf]; omega
          · have HE : Hid ((l.take (k + 1)).foldl (gStep ovPv M) (sp, []) = (s1 - 1, s2 ++ [x.name])) := by
              show _ = _
              rw [Hnx.out]
              unfold gStep ovPv
              rw [if_neg hful, if_pos hp, if_neg hz]
            have HG3 := Lib.hid (HG2.out.less hsb (s1 - 1))
            go_upto_region 9 with (first
                | ((with_reducible refine at_slot 15 ?_); go_must (refine wpList_load_at aggObj rfl _ rfl ⟨b0, off + k * 47, none⟩ rfl x.cells x.hlen (fun j u hu => by rw [Addr.add_lit]; exact Hcl.out j u hu) ?_))
                | ((with_reducible refine at_slot 9 ?_); go_must (refine wpList_var aggObj rfl rfl rfl _ _ rfl rfl x.cells.toArray rfl rfl (by simp [OV.hlen]) (by simpa using x.one) ?_)))
            obtain ⟨W1, hW1⟩ : ∃ q, (wq.alloc (.cells x.cells.toArray 44)).setCell ⟨sb, 0, none⟩ (.int .i64 (s1 - 1)) = q := ⟨_, rfl⟩
            rw [hW1]
            rw [hW1] at HG3
            have k1' : W1.cell? ⟨wq.heap.size, 1, none⟩ = some (.string x.name) := by rw [← hW1]; exact (Fr.setC (fun q => q = sb) _ ⟨sb, 0, none⟩ _ rfl).cell k1 (by show ¬ wq.heap.size = sb; omega)
            clear hW1 k1 k12 ksp kfr HG2
            go_wp2_with (first
                | ((with_reducible refine at_slot 36 ?_); go_must (refine wpList_buildSlice rfl 68 1 [(0, _)] rfl [(0, .string x.name)] rfl _ _ (oneName x.name) ?_; refine wpList_append_new elemName rfl _ _ rfl w.heap.size (.slice va s2.length vcap) s2.length (s2.flatMap cN) rfl (HG3.out.own.alloc _) (by have := HG3.out.fr.size; simp; omega) _ _ rfl (heap_alloc_new _ _) rfl rfl (by unfold maxLen; omega) (by omega) ?_; intro g' cap' w' ho' hg' hn'; have HO' := Lib.hid ho'; have HG' := Lib.hid hg'; clear ho' hg' hn')))
            have G4 := Lib.hid (HG3.out.more (s := (s1 - 1, s2)) hsb HO'.out HG'.out)
            go_roundw
            case rel => exact ⟨k + 1, by omega, by go_num, (s1 - 1, s2 ++ [x.name]), HE.out, by dsimp only; omega, by dsimp only; omega, by simp; omega, G4.out⟩
            case measure => simp [intOf]; omega
        · have hpf : (x.phase == 2) = false := beq_eq_false_iff_ne.2 hp
          have HE : Hid ((l.take (k + 1)).foldl (gStep ovPv M) (sp, []) = (s1, s2 ++ [x.name])) := by
            show _ = _
            rw [Hnx.out]
            unfold gStep ovPv
            rw [if_neg hful, if_neg hp]
          go_upto_region 9 with (first
                | ((with_reducible refine at_slot 15 ?_); go_must (refine wpList_load_at aggObj rfl _ rfl ⟨b0, off + k * 47, none⟩ rfl x.cells x.hlen (fun j u hu => by rw [Addr.add_lit]; exact Hcl.out j u hu) ?_))
                | ((with_reducible refine at_slot 9 ?_); go_must (refine wpList_var aggObj rfl rfl rfl _ _ rfl rfl x.cells.toArray rfl rfl (by simp [OV.hlen]) (by simpa using x.one) ?_)))
          obtain ⟨W1, hW1⟩ : ∃ q, (wq.alloc (.cells x.cells.toArray 44)) = q := ⟨_, rfl⟩
          rw [hW1]
          rw [hW1] at HG2 k1
          clear hW1 k12 ksp kfr
          go_wp2_with (first
                | ((with_reducible refine at_slot 36 ?_); go_must (refine wpList_buildSlice rfl 68 1 [(0, _)] rfl [(0, .string x.name)] rfl _ _ (oneName x.name) ?_; refine wpList_append_new elemName rfl _ _ rfl w.heap.size (.slice va s2.length vcap) s2.length (s2.flatMap cN) rfl (HG2.out.own.alloc _) (by have := HG2.out.fr.size; simp; omega) _ _ rfl (heap_alloc_new _ _) rfl rfl (by unfold maxLen; omega) (by omega) ?_; intro g' cap' w' ho' hg' hn'; have HO' := Lib.hid ho'; have HG' := Lib.hid hg'; clear ho' hg' hn')))
          have G4 := Lib.hid (HG2.out.more (s := (s1, s2)) hsb HO'.out HG'.out)
          go_roundw
          case rel => exact ⟨k + 1, by omega, by go_num, (s1, s2 ++ [x.name]), HE.out, by dsimp only; omega, hs2, by simp; omega, G4.out⟩
          case measure => simp [intOf]; omega
    · obtain rfl : k = n := by omega
      have ht : l.take k = l := List.take_of_length_le (by have := HS.out.hlen; omega)
      rw [ht] at hst
      have HE : Hid ((s1, s2) = R) := by show _ = _; rw [← HR.out]; exact hst.out.symm
      clear ht hst
      go_wp2_with fail
      go_ret
      exact ⟨_, rfl, HE.out ▸ hg.out⟩
end Go.Proofs.Ytpbppgfogepjeaa
namespace Go.Proofs.Ytpbppgfogepjeaa
open Go.ChangeShapes Go.WideShapes Go.ChangeAt Go.RowKit Go.Deep

def rightB (s a : Int) : Bool := decide (0 ≤ s) && (decide (s ≤ 1000) && (decide (0 ≤ a) && (decide (a ≤ 1000) && (decide (0 < s) || decide (0 < a)))))
theorem rightB_iff (s a : Int) : rightB s a = true ↔ 0 ≤ s ∧ s ≤ 1000 ∧ 0 ≤ a ∧ a ≤ 1000 ∧ (0 < s ∨ 0 < a) := by
  unfold rightB
  simp only [Bool.and_eq_true, Bool.or_eq_true, decide_eq_true_iff]
theorem rightB_no {s a : Int} (h : s < 0 ∨ 1000 < s ∨ a < 0 ∨ 1000 < a ∨ s + a = 0) : rightB s a = false := by
  cases e : rightB s a
  · rfl
  · have := (rightB_iff s a).1 e
    omega

set_option maxRecDepth 100000 in
theorem right35_any (s a : Int) (w : World) : Calls Try.prog 21 #[.agg #[.int .i64 s, .int .i64 a]] w fun e w' => e = .returned (.bool (rightB s a)) ∧ Below w.heap.size w w' := by
  have hB : Below w.heap.size w (w.alloc (.cells #[.int .i64 s, .int .i64 a] 67)) := (Below.refl _ _).alloc (Nat.le_refl _) _
  have HB := Lib.hid hB
  clear hB
  by_cases h1 : s < 0
  · have h1' : decide (s ≥ 0) = false := by simp; omega
    rw [rightB_no (by omega)]
    go_enter Try.func21, Try.ntmps21
    go_wp2_with fail
    go_ret
    exact ⟨rfl, HB.out⟩
  · have h1' : decide (s ≥ 0) = true := by simp; omega
    by_cases h2 : 1000 < s
    · have h2' : decide (s ≤ 1000) = false := by simp; omega
      rw [rightB_no (by omega)]
      go_enter Try.func21, Try.ntmps21
      go_wp2_with fail
      go_ret
      exact ⟨rfl, HB.out⟩
    · have h2' : decide (s ≤ 1000) = true := by simp; omega
      by_cases h3 : a < 0
      · have h3' : decide (a ≥ 0) = false := by simp; omega
        rw [rightB_no (by omega)]
        go_enter Try.func21, Try.ntmps21
        go_wp2_with fail
        go_ret
        exact ⟨rfl, HB.out⟩
      · have h3' : decide (a ≥ 0) = true := by simp; omega
        by_cases h4 : 1000 < a
        · have h4' : decide (a ≤ 1000) = false := by simp; omega
          rw [rightB_no (by omega)]
          go_enter Try.func21, Try.ntmps21
          go_wp2_with fail
          go_ret
          exact ⟨rfl, HB.out⟩
        · have h4' : decide (a ≤ 1000) = true := by simp; omega
          by_cases h5 : 0 < s
          · have h5' : decide (s > 0) = true := by simp; omega
            rw [(rightB_iff s a).2 (by omega)]
            clear h1 h2 h3 h4 h5
            go_enter Try.func21, Try.ntmps21
            go_wp2_with fail
            go_ret
            exact ⟨rfl, HB.out⟩
          · have h5' : decide (s > 0) = false := by simp; omega
            by_cases h6 : 0 < a
            · have h6' : decide (a > 0) = true := by simp; omega
              rw [(rightB_iff s a).2 (by omega)]
              clear h1 h2 h3 h4 h5 h6
              go_enter Try.func21, Try.ntmps21
              go_wp2_with fail
              go_ret
              exact ⟨rfl, HB.out⟩
            · have h6' : decide (a > 0) = false := by simp; omega
              rw [rightB_no (by omega)]
              clear h1 h2 h3 h4 h5 h6
              go_enter Try.func21, Try.ntmps21
              go_wp2_with fail
              go_ret
              exact ⟨rfl, HB.out⟩

def errR (s a : Int) : Int := if rightB s a = true then 0 else 1
set_option maxRecDepth 100000 in
theorem check35_any (s a : Int) (w : World) : Calls Try.prog 22 #[.agg #[.int .i64 s, .int .i64 a]] w fun e w' => e = .returned (.int .i64 (errR s a)) ∧ Below w.heap.size w w' := by
  have hB : Below w.heap.size w (w.alloc (.cells #[.int .i64 s, .int .i64 a] 67)) := (Below.refl _ _).alloc (Nat.le_refl _) _
  have HB := Lib.hid hB
  clear hB
  have hno : ∀ h : s < 0 ∨ 1000 < s ∨ a < 0 ∨ 1000 < a ∨ s + a = 0, errR s a = 1 := fun h => by unfold errR; rw [rightB_no h]; rfl
  by_cases h1 : s < 0
  · have h1' : decide (s < 0) = true := by simp; omega
    rw [hno (by omega)]
    go_enter Try.func22, Try.ntmps22
    go_wp2_with fail
    go_ret
    exact ⟨rfl, HB.out⟩
  · have h1' : decide (s < 0) = false := by simp; omega
    by_cases h2 : 1000 < s
    · have h2' : decide (s > 1000) = true := by simp; omega
      rw [hno (by omega)]
      go_enter Try.func22, Try.ntmps22
      go_wp2_with fail
      go_ret
      exact ⟨rfl, HB.out⟩
    · have h2' : decide (s > 1000) = false := by simp; omega
      by_cases h3 : a < 0
      · have h3' : decide (a < 0) = true := by simp; omega
        rw [hno (by omega)]
        go_enter Try.func22, Try.ntmps22
        go_wp2_with fail
        go_ret
        exact ⟨rfl, HB.out⟩
      · have h3' : decide (a < 0) = false := by simp; omega
        by_cases h4 : 1000 < a
        · have h4' : decide (a > 1000) = true := by simp; omega
          rw [hno (by omega)]
          go_enter Try.func22, Try.ntmps22
          go_wp2_with fail
          go_ret
          exact ⟨rfl, HB.out⟩
        · have h4' : decide (a > 1000) = false := by simp; omega
          obtain ⟨z, hz⟩ : ∃ z, s + a = z := ⟨_, rfl⟩
          have hw : IntKind.i64.wrap z = z := IntWalk.i64_in _ (by omega)
          by_cases h5 : z = 0
          · have h5' : (z == 0) = true := by simpa using h5
            rw [hno (by omega)]
            clear h1 h2 h3 h4 h5
            go_enter Try.func22, Try.ntmps22
            go_wp2_with fail
            go_ret
            exact ⟨rfl, HB.out⟩
          · have h5' : (z == 0) = false := beq_eq_false_iff_ne.2 h5
            rw [show errR s a = 0 by unfold errR; rw [(rightB_iff s a).2 (by omega)]; rfl]
            clear h1 h2 h3 h4 h5
            go_enter Try.func22, Try.ntmps22
            go_wp2_with fail
            go_ret
            exact ⟨rfl, HB.out⟩

def soonV (x y : OV) : Bool := if x.phase = y.phase then (if x.since = y.since then (!Op.bytesLess x.name.toList y.name.toList && !(x.name.toList == y.name.toList)) else decide (x.since > y.since)) else decide (x.phase < y.phase)
set_option maxRecDepth 100000 in
theorem sooner_any (x y : OV) (w : World) : Calls Try.prog 51 #[.agg x.cells.toArray, .agg y.cells.toArray] w fun e w' => e = .returned (.bool (soonV x y)) ∧ Below w.heap.size w w' := by
  obtain ⟨w2, hw2⟩ : ∃ w2, (w.alloc (.cells x.cells.toArray 44)).alloc (.cells y.cells.toArray 44) = w2 := ⟨_, rfl⟩
  have hB : Below w.heap.size w w2 := by rw [← hw2]; exact ((Below.refl _ _).alloc (Nat.le_refl _) _).alloc (by simp) _
  have hx : ∀ j u, x.cells[j]? = some u → w2.cell? ⟨w.heap.size, j, none⟩ = some u := fun j u hu => by
    rw [← hw2]
    refine Below.cell_some ((Below.refl _ _).alloc (Nat.le_refl _) _) ?_
    have := (cell_new w x.cells.toArray 44 j).trans (by simpa using hu)
    rwa [Addr.add_lit, Nat.zero_add] at this
  have hy : ∀ j u, y.cells[j]? = some u → w2.cell? ⟨w.heap.size + 1, j, none⟩ = some u := fun j u hu => by
    rw [← hw2]
    have := (cell_new (w.alloc (.cells x.cells.toArray 44)) y.cells.toArray 44 j).trans (by simpa using hu)
    rw [World.size_alloc] at this
    rwa [Addr.add_lit, Nat.zero_add] at this
  have x1 := hx 1 _ x.h1
  have x12 := hx 12 _ x.h12
  have x13 := hx 13 _ x.h13
  have y1 := hy 1 _ y.h1
  have y12 := hy 12 _ y.h12
  have y13 := hy 13 _ y.h13
  have HB := Lib.hid hB
  clear hB hx hy
  by_cases hp : x.phase = y.phase
  · rw [hp] at x12
    by_cases hs : x.since = y.since
    · rw [hs] at x13
      have hv : soonV x y = (!Op.bytesLess x.name.toList y.name.toList && !(x.name.toList == y.name.toList)) := by unfold soonV; rw [if_pos hp, if_pos hs]
      rw [hv]
      obtain ⟨q, hq⟩ : ∃ q, (!Op.bytesLess x.name.toList y.name.toList && !(x.name.toList == y.name.toList)) = q := ⟨_, rfl⟩
      rw [hq]
      clear hp hs hv
      go_enter Try.func51, Try.ntmps51
      go_wp2_with fail
      go_ret
      exact ⟨rfl, HB.out⟩
    · have hv : soonV x y = decide (x.since > y.since) := by unfold soonV; rw [if_pos hp, if_neg hs]
      have hne : (x.since != y.since) = true := by simpa using hs
      rw [hv]
      obtain ⟨q, hq⟩ : ∃ q, decide (x.since > y.since) = q := ⟨_, rfl⟩
      rw [hq]
      clear hp hs hv
      go_enter Try.func51, Try.ntmps51
      go_wp2_with fail
      go_ret
      exact ⟨rfl, HB.out⟩
  · have hv : soonV x y = decide (x.phase < y.phase) := by unfold soonV; rw [if_neg hp]
    have hne : (x.phase != y.phase) = true := by simpa using hp
    rw [hv]
    obtain ⟨q, hq⟩ : ∃ q, decide (x.phase < y.phase) = q := ⟨_, rfl⟩
    rw [hq]
    clear hp hv
    go_enter Try.func51, Try.ntmps51
    go_wp2_with fail
    go_ret
    exact ⟨rfl, HB.out⟩

set_option maxRecDepth 100000 in
set_option maxHeartbeats 1000000 in
theorem same35_any (c : Int) (d : Bool) (xs : List ByteArray) (ao bo : Option Addr) (n ca cb : Nat) (w : World) (hA : SlR (Flat cN) 1 w ao n ca xs) (hB : SlR (Flat cN) 1 w bo n cb xs) :
    Calls Try.prog 23 #[.agg #[.int .i64 c, .slice ao n ca, .bool d], .agg #[.int .i64 c, .slice bo n cb, .bool d]] w fun e w' => e = .returned (.bool true) ∧ Below w.heap.size w w' := by
  have ha := hA.hmax; have hac := hA.hcap
  have hb := hB.hmax; have hbc := hB.hcap
  unfold maxLen at ha hb
  obtain ⟨w2, hw2⟩ : ∃ w2, (w.alloc (.cells #[.int .i64 c, .slice ao n ca, .bool d] 70)).alloc (.cells #[.int .i64 c, .slice bo n cb, .bool d] 70) = w2 := ⟨_, rfl⟩
  have hB2 : Below w.heap.size w w2 := by rw [← hw2]; exact ((Below.refl _ _).alloc (Nat.le_refl _) _).alloc (by simp) _
  have hx : w2.heap[w.heap.size]? = some (.cells #[.int .i64 c, .slice ao n ca, .bool d] 70 (0, 0)) := by
    rw [← hw2, Below.heap_alloc _ _ _ (by simp)]
    exact heap_alloc_new _ _
  have hy : w2.heap[w.heap.size + 1]? = some (.cells #[.int .i64 c, .slice bo n cb, .bool d] 70 (0, 0)) := by
    rw [← hw2]
    have := heap_alloc_new (w.alloc (.cells #[.int .i64 c, .slice ao n ca, .bool d] 70)) (.cells #[.int .i64 c, .slice bo n cb, .bool d] 70)
    rwa [World.size_alloc] at this
  have HA := Lib.hid (hA.flatKeeps (Keeps.below hB2))
  have HBb := Lib.hid (hB.flatKeeps (Keeps.below hB2))
  have HB2 := Lib.hid hB2
  have HX := Lib.hid hx
  have HY := Lib.hid hy
  have x0 : w2.cell? ⟨w.heap.size, 0, none⟩ = some (.int .i64 c) := cell_of_row _ _ 0 _ _ _ hx
  have x1 : w2.cell? ⟨w.heap.size, 1, none⟩ = some (.slice ao n ca) := cell_of_row _ _ 1 _ _ _ hx
  have x2 : w2.cell? ⟨w.heap.size, 2, none⟩ = some (.bool d) := cell_of_row _ _ 2 _ _ _ hx
  have y0 : w2.cell? ⟨w.heap.size + 1, 0, none⟩ = some (.int .i64 c) := cell_of_row _ _ 0 _ _ _ hy
  have y1 : w2.cell? ⟨w.heap.size + 1, 1, none⟩ = some (.slice bo n cb) := cell_of_row _ _ 1 _ _ _ hy
  have y2 : w2.cell? ⟨w.heap.size + 1, 2, none⟩ = some (.bool d) := cell_of_row _ _ 2 _ _ _ hy
  clear hA hB hB2 hx hy
  go_enter Try.func23, Try.ntmps23
  go_wp2_with fail
  go_loopw [5, 30] (fun _ i wr => ∃ k : Nat, k ≤ n ∧ i = .int .i64 k ∧ Hid (Below w2.heap.size w2 wr)) (fun _ i _ => n - (intOf i).toNat)
  case atStart => exact ⟨0, Nat.zero_le _, rfl, Below.refl _ _⟩
  case round =>
    obtain ⟨k, hk, rfl, hb⟩ := hrel
    by_cases hlt : k < n
    · obtain ⟨b, off, rfl⟩ := HA.out.ptr (by decide) (by omega)
      obtain ⟨b', off', rfl⟩ := HBb.out.ptr (by decide) (by omega)
      have kx : k < xs.length := by have := HA.out.hlen; omega
      have hc := (HA.out.flatKeeps (Keeps.below hb.out)).flat kx
      have hd := (HBb.out.flatKeeps (Keeps.below hb.out)).flat kx
      have c0 := hc 0 _ rfl
      have d0 := hd 0 _ rfl
      rw [Nat.add_zero, Nat.mul_one] at c0 d0
      obtain ⟨kk, hx⟩ : ∃ x, xs[k] = x := ⟨_, rfl⟩
      rw [hx] at c0 d0
      have x1' := Below.cell_some hb.out x1
      have y1' := Below.cell_some hb.out y1
      have Hb := Lib.hid hb.out
      clear hc hd hb hx kx x0 x1 x2 y0 y1 y2
      obtain ⟨wp, rfl⟩ : ∃ wp : World, wp = wr := ⟨_, rfl⟩
      go_upto_region 6 with fail
      go_quiet (fail)
      go_wp2_with fail
      go_roundw
      case rel => exact ⟨k + 1, by omega, by go_num, drewN_below Hb.out _⟩
      case measure => simp [intOf]; omega
    · have Hb := Lib.hid (HB2.out.trans (hb.out.mono HB2.out.size))
      go_wp2_with fail
      go_ret
      exact ⟨rfl, Hb.out⟩
end Go.Proofs.Ytpbppgfogepjeaa
