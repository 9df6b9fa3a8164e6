/- The contract of rollout.goes. Condition: the objects read, at most 1000; the spare number lies in a variable of its own. -/
import Derived.Test.YtpbppgfogepjeaaVictimCmpM
import Derived.Test.YtpbppgfogepjeaaRolPlain
import Derived.Test.YtpbppgfogepjeaaFrame
import Derived.Test.YtpbppgfogepjeaaValM
namespace Go.Proofs.Ytpbppgfogepjeaa
open Go.ChangeShapes Go.WideShapes Go.ChangeAt Go.RowKit Go.Deep

def cN (s : ByteArray) : List Value := [.string s]
def OwnN (w : World) (B : Nat) (v : Value) (xs : List ByteArray) : Prop := w.ownsRow B 9 1 v xs.length (xs.flatMap cN)
theorem OwnN.nil (w : World) (B : Nat) : OwnN w B (.slice none 0 0) [] := World.ownsRow_nil w B _ _
theorem elemName : ElemOK Try.prog 68 9 1 16 := .mk' Try.underlying68 (by kernel_rfl) (by decide)
theorem oneName (s : ByteArray) (w : World) : (Instr.buildSlice 68 1 [(0, .string s)].toArray).run Try.prog w = .ok (.slice (some ⟨w.heap.size, 0, none⟩) 1 1) (w.alloc (.cells #[.string s] 9)) := by kernel_rfl
theorem OwnN.first {w' : World} {B : Nat} {g' cap' : Nat} {xs : List ByteArray} {x : ByteArray} (h : w'.ownsRow B 9 1 (.slice (some ⟨g', 0, none⟩) (xs.length + 1) cap') (xs.length + 1) (xs.flatMap cN ++ (#[Value.string x]).toList)) : OwnN w' B (.slice (some ⟨g', 0, none⟩) (xs.length + 1) cap') (xs ++ [x]) := by
  unfold OwnN
  rw [List.length_append, List.flatMap_append]
  exact h
def ovPv (o : OV) : Pv := ⟨o.phase, o.name, false⟩
theorem SlR.frG {α : Type} {f : α → List Value} {sz : Nat} {S : Nat → Prop} {w w' : World} {ao : Option Addr} {n cap : Nat} {xs : List α} (h : SlR (Flat f) sz w ao n cap xs) (hf : Fr S w w') (hk : ∀ a, ao = some a → ¬ S a.block) : SlR (Flat f) sz w' ao n cap xs :=
  ⟨h.hlen, h.hcap, h.hmax, h.hnil, fun a ha i hi => by
    obtain ⟨c, h1, h2, h3⟩ := h.hat a ha i hi
    exact ⟨c, h1, fun j u hu => hf.cell (h2 j u hu) (by rw [show ∀ (a : Addr) (n : Nat), (a.add n).block = a.block from fun a n => by unfold Addr.add; first | rfl | (split <;> rfl)]; exact hk a ha), h3⟩⟩
structure GoTo (w0 : World) (sb : Nat) (w : World) (v : Value) (s : Int × List ByteArray) : Prop where
  own : OwnN w w0.heap.size v s.2
  cell : w.heap[sb]? = some (.cells #[.int .i64 s.1] 3 (0, 0))
  fr : Fr (fun k => k = sb) w0 w

theorem Fr.setC (S : Nat → Prop) (w : World) (p : Addr) (v : Value) (hp : S p.block) : Fr S w (w.setCell p v) := by
  refine ⟨rfl, rfl, rfl, by simp [World.setCell], fun k hk hs => ?_⟩
  rw [Below.heap_setCell _ _ _ _ (fun e => hs (by rw [e]; exact hp))]
theorem GoTo.own_ne {w0 w : World} {sb : Nat} {v : Value} {s : Int × List ByteArray} (h : GoTo w0 sb w v s) (hs : sb < w0.heap.size) : v.ownBlock ≠ some sb := fun e => by
  have := (World.ownsRow.lt h.own _ e).1
  omega
theorem GoTo.less {w0 w : World} {sb : Nat} {v : Value} {s : Int × List ByteArray} (h : GoTo w0 sb w v s) (hs : sb < w0.heap.size) (z : Int) : GoTo w0 sb (w.setCell ⟨sb, 0, none⟩ (.int .i64 z)) v (z, s.2) := by
  have hf : Fr (fun k => k = sb) w (w.setCell ⟨sb, 0, none⟩ (.int .i64 z)) := Fr.setC (fun k => k = sb) w ⟨sb, 0, none⟩ _ rfl
  exact ⟨owns_fr hf h.own (fun k hk e => h.own_ne hs (by rw [← e]; exact hk)), row_setCell h.cell _, h.fr.trans hf (fun i hi => .inl hi)⟩
theorem GoTo.more {w0 w w' : World} {sb : Nat} {va : Option Addr} {vcap : Nat} {s : Int × List ByteArray} {x : ByteArray} {g' cap' : Nat} (h : GoTo w0 sb w (.slice va s.2.length vcap) s) (hs : sb < w0.heap.size)
    (ho : w'.ownsRow w0.heap.size 9 1 (.slice (some ⟨g', 0, none⟩) (s.2.length + 1) cap') (s.2.length + 1) (s.2.flatMap cN ++ (#[Value.string x]).toList)) (hg : (w.alloc (.cells #[.string x] 9)).grownBy w' (Value.slice va s.2.length vcap).ownBlock) :
    GoTo w0 sb w' (.slice (some ⟨g', 0, none⟩) (s.2.length + 1) cap') (s.1, s.2 ++ [x]) := by
  have hf := Fr.grown (S := fun k => (Value.slice va s.2.length vcap).ownBlock = some k) hg (fun k hk => hk)
  have hlt : sb < (w.alloc (.cells #[.string x] 9)).heap.size := by have := h.fr.size; simp; omega
  refine ⟨OwnN.first ho, (hf.block sb hlt (h.own_ne hs)).trans ((Below.heap_alloc _ _ _ (Array.getElem?_eq_some_iff.1 h.cell).1).trans h.cell), (h.fr.alloc _).trans hf (fun i hi => .inr (World.ownsRow.lt h.own _ hi).1)⟩

set_option maxRecDepth 100000 in
set_option maxHeartbeats 2000000 in
theorem rgoes_any (l : List OV) (ao : Option Addr) (n cap : Nat) (M sp : Int) (sb : Nat) (w : World) (hS : SlR (Flat OV.cells) 47 w ao n cap l) (hn : n ≤ 1000) (hsp : -100000000 ≤ sp ∧ sp ≤ 100000000)
    (hc : w.heap[sb]? = some (.cells #[.int .i64 sp] 3 (0, 0))) (hd : ∀ a, ao = some a → a.block ≠ sb) :
    Calls Try.prog 50 #[.slice ao n cap, .int .i64 M, .pointer (some ⟨sb, 0, none⟩)] w fun e w' => ∃ v, e = .returned v ∧ GoTo w sb w' v (l.foldl (gStep ovPv M) (sp, [])) := by
  have hcm := hS.hmax
  have hlc := hS.hcap
  unfold maxLen at hcm
  obtain ⟨R, hR⟩ : ∃ R, l.foldl (gStep ovPv M) (sp, []) = R := ⟨_, rfl⟩
  rw [hR]
  have HR := Lib.hid hR
  have HS := Lib.hid hS
  have HC := Lib.hid hc
  have HD := Lib.hid hd
  have hsb : sb < w.heap.size := (Array.getElem?_eq_some_iff.1 hc).1
  clear hS hc hd hR
  go_enter Try.func50, Try.ntmps50
  go_wp2_with fail
  go_loopw [7, 12] (fun v i wr => ∃ k : Nat, k ≤ n ∧ i = .int .i64 k ∧ (∃ s : Int × List ByteArray, Hid ((l.take k).foldl (gStep ovPv M) (sp, []) = s) ∧ sp - k ≤ s.1 ∧ s.1 ≤ sp ∧ s.2.length ≤ k ∧ Hid (GoTo w sb wr v s))) (fun _ i _ => n - (intOf i).toNat)
  case atStart => exact ⟨0, Nat.zero_le _, rfl, (sp, []), rfl, by simp, by simp, by simp, ⟨OwnN.nil _ _, HC.out, Fr.refl _ _⟩⟩
  case round =>
    obtain ⟨k, hk, rfl, s, hst, hs1, hs2, hs3, hg⟩ := hrel
    obtain ⟨wq, rfl⟩ : ∃ wq : World, wq = wr := ⟨_, rfl⟩
    obtain ⟨s1, s2⟩ := s
    dsimp only at hs1 hs2 hs3
    by_cases hlt : k < n
    · have hS2 := HS.out.frG hg.out.fr HD.out
      obtain ⟨b0, off, rfl⟩ := hS2.ptr (by decide) (by omega)
      have kx : k < l.length := by have := hS2.hlen; omega
      have hcl := hS2.flat kx
      have hnx : (l.take (k + 1)).foldl (gStep ovPv M) (sp, []) = gStep ovPv M (s1, s2) l[k] := by rw [List.take_succ_eq_append_getElem kx, List.foldl_append, hst.out]; rfl
      have hfu : M ≤ s2.length → l.foldl (gStep ovPv M) (sp, []) = (s1, s2) := fun h => by
        rw [← List.take_append_drop k l, List.foldl_append, hst.out]
        exact gStep_full ovPv h _
      obtain ⟨x, hx⟩ : ∃ x, l[k] = x := ⟨_, rfl⟩
      rw [hx] at hcl hnx
      have Hcl := Lib.hid hcl
      have Hnx := Lib.hid hnx
      have Hfu := Lib.hid hfu
      have hG2 : GoTo w sb (wq.alloc (.cells x.cells.toArray 44)) u7 (s1, s2) := ⟨hg.out.own.alloc _, (Below.heap_alloc _ _ _ (Array.getElem?_eq_some_iff.1 hg.out.cell).1).trans hg.out.cell, hg.out.fr.alloc _⟩
      have k1 : (wq.alloc (.cells x.cells.toArray 44)).cell? ⟨wq.heap.size, 1, none⟩ = some (.string x.name) := by
        have := (cell_new wq x.cells.toArray 44 1).trans (by simpa using x.h1)
        rwa [Addr.add_lit, Nat.zero_add] at this
      have k12 : (wq.alloc (.cells x.cells.toArray 44)).cell? ⟨wq.heap.size, 12, none⟩ = some (.int .i64 x.phase) := by
        have := (cell_new wq x.cells.toArray 44 12).trans (by simpa using x.h12)
        rwa [Addr.add_lit, Nat.zero_add] at this
      have ksp : (wq.alloc (.cells x.cells.toArray 44)).cell? ⟨sb, 0, none⟩ = some (.int .i64 s1) := cell_of_row _ sb 0 _ _ _ hG2.cell
      have kfr : (wq.alloc (.cells x.cells.toArray 44)).frozen? ⟨sb, 0, none⟩ = false := row_free hG2.cell 0
      have HG2 := Lib.hid hG2
      have hsz : w.heap.size ≤ wq.heap.size := hg.out.fr.size
      clear hcl hS2 hx hnx hfu hst hg hG2
      have hlen := HG2.out.own
      unfold OwnN at hlen
      dsimp only at hlen
      obtain ⟨vc, hvc⟩ : ∃ vc : Option Addr × Nat, u7 = .slice vc.1 s2.length vc.2 := by
        rcases hlen.2 with ⟨rfl, h0⟩ | ⟨g, cap, cur, rfl, _⟩
        · exact ⟨(none, 0), by rw [h0]⟩
        · exact ⟨(some ⟨g, 0, none⟩, cap), rfl⟩
      obtain ⟨va, vcap⟩ := vc
      dsimp only at hvc
      subst hvc
      clear hlen
      by_cases hful : M ≤ s2.length
      · have HE : Hid ((s1, s2) = R) := by show _ = _; rw [← HR.out]; exact (Hfu.out hful).symm
        have hge : decide ((s2.length : Int) ≥ M) = true := by simpa using hful
        go_wp2_with (first
          | ((with_reducible refine at_slot 15 ?_); go_must (refine wpList_load_at aggObj rfl _ rfl ⟨b0, off + k * 47, none⟩ rfl x.cells x.hlen (fun j u hu => by rw [Addr.add_lit]; exact Hcl.out j u hu) ?_))
          | ((with_reducible refine at_slot 9 ?_); go_must (refine wpList_var aggObj rfl rfl rfl _ _ rfl rfl x.cells.toArray rfl rfl (by simp [OV.hlen]) (by simpa using x.one) ?_)))
        go_ret
        exact ⟨_, rfl, HE.out ▸ HG2.out⟩
      · have hlf : decide ((s2.length : Int) ≥ M) = false := by simpa using hful
        by_cases hp : x.phase = 2
        · rw [hp] at k12
          by_cases hz : s1 ≤ 0
          · have HE : Hid ((l.take (k + 1)).foldl (gStep ovPv M) (sp, []) = (s1, s2)) := by
              show _ = _
              rw [Hnx.out]
              unfold gStep ovPv
              rw [if_neg hful, if_pos hp, if_pos hz]
            go_wp2_with (first
                | ((with_reducible refine at_slot 15 ?_); go_must (refine wpList_load_at aggObj rfl _ rfl ⟨b0, off + k * 47, none⟩ rfl x.cells x.hlen (fun j u hu => by rw [Addr.add_lit]; exact Hcl.out j u hu) ?_))
                | ((with_reducible refine at_slot 9 ?_); go_must (refine wpList_var aggObj rfl rfl rfl _ _ rfl rfl x.cells.toArray rfl rfl (by simp [OV.hlen]) (by simpa using x.one) ?_)))
            go_roundw
            case rel => exact ⟨k + 1, by omega, by go_num, (s1, s2), HE.out, by dsimp only; omega, hs2, by dsimp only; omega, HG2.out⟩
            case measure => simp [intOf]; omega
          · have HE : Hid ((l.take (k + 1)).foldl (gStep ovPv M) (sp, []) = (s1 - 1, s2 ++ [x.name])) := by
              show _ = _
              rw [Hnx.out]
              unfold gStep ovPv
              rw [if_neg hful, if_pos hp, if_neg hz]
            have HG3 := Lib.hid (HG2.out.less hsb (s1 - 1))
            go_upto_region 9 with (first
                | ((with_reducible refine at_slot 15 ?_); go_must (refine wpList_load_at aggObj rfl _ rfl ⟨b0, off + k * 47, none⟩ rfl x.cells x.hlen (fun j u hu => by rw [Addr.add_lit]; exact Hcl.out j u hu) ?_))
                | ((with_reducible refine at_slot 9 ?_); go_must (refine wpList_var aggObj rfl rfl rfl _ _ rfl rfl x.cells.toArray rfl rfl (by simp [OV.hlen]) (by simpa using x.one) ?_)))
            obtain ⟨W1, hW1⟩ : ∃ q, (wq.alloc (.cells x.cells.toArray 44)).setCell ⟨sb, 0, none⟩ (.int .i64 (s1 - 1)) = q := ⟨_, rfl⟩
            rw [hW1]
            rw [hW1] at HG3
            have k1' : W1.cell? ⟨wq.heap.size, 1, none⟩ = some (.string x.name) := by rw [← hW1]; exact (Fr.setC (fun q => q = sb) _ ⟨sb, 0, none⟩ _ rfl).cell k1 (by show ¬ wq.heap.size = sb; omega)
            clear hW1 k1 k12 ksp kfr HG2
            go_wp2_with (first
                | ((with_reducible refine at_slot 36 ?_); go_must (refine wpList_buildSlice rfl 68 1 [(0, _)] rfl [(0, .string x.name)] rfl _ _ (oneName x.name) ?_; refine wpList_append_new elemName rfl _ _ rfl w.heap.size (.slice va s2.length vcap) s2.length (s2.flatMap cN) rfl (HG3.out.own.alloc _) (by have := HG3.out.fr.size; simp; omega) _ _ rfl (heap_alloc_new _ _) rfl rfl (by unfold maxLen; omega) (by omega) ?_; intro g' cap' w' ho' hg' hn'; have HO' := Lib.hid ho'; have HG' := Lib.hid hg'; clear ho' hg' hn')))
            have G4 := Lib.hid (HG3.out.more (s := (s1 - 1, s2)) hsb HO'.out HG'.out)
            go_roundw
            case rel => exact ⟨k + 1, by omega, by go_num, (s1 - 1, s2 ++ [x.name]), HE.out, by dsimp only; omega, by dsimp only; omega, by simp; omega, G4.out⟩
            case measure => simp [intOf]; omega
        · have hpf : (x.phase == 2) = false := beq_eq_false_iff_ne.2 hp
          have HE : Hid ((l.take (k + 1)).foldl (gStep ovPv M) (sp, []) = (s1, s2 ++ [x.name])) := by
            show _ = _
            rw [Hnx.out]
            unfold gStep ovPv
            rw [if_neg hful, if_neg hp]
          go_upto_region 9 with (first
                | ((with_reducible refine at_slot 15 ?_); go_must (refine wpList_load_at aggObj rfl _ rfl ⟨b0, off + k * 47, none⟩ rfl x.cells x.hlen (fun j u hu => by rw [Addr.add_lit]; exact Hcl.out j u hu) ?_))
                | ((with_reducible refine at_slot 9 ?_); go_must (refine wpList_var aggObj rfl rfl rfl _ _ rfl rfl x.cells.toArray rfl rfl (by simp [OV.hlen]) (by simpa using x.one) ?_)))
          obtain ⟨W1, hW1⟩ : ∃ q, (wq.alloc (.cells x.cells.toArray 44)) = q := ⟨_, rfl⟩
          rw [hW1]
          rw [hW1] at HG2 k1
          clear hW1 k12 ksp kfr
          go_wp2_with (first
                | ((with_reducible refine at_slot 36 ?_); go_must (refine wpList_buildSlice rfl 68 1 [(0, _)] rfl [(0, .string x.name)] rfl _ _ (oneName x.name) ?_; refine wpList_append_new elemName rfl _ _ rfl w.heap.size (.slice va s2.length vcap) s2.length (s2.flatMap cN) rfl (HG2.out.own.alloc _) (by have := HG2.out.fr.size; simp; omega) _ _ rfl (heap_alloc_new _ _) rfl rfl (by unfold maxLen; omega) (by omega) ?_; intro g' cap' w' ho' hg' hn'; have HO' := Lib.hid ho'; have HG' := Lib.hid hg'; clear ho' hg' hn')))
          have G4 := Lib.hid (HG2.out.more (s := (s1, s2)) hsb HO'.out HG'.out)
          go_roundw
          case rel => exact ⟨k + 1, by omega, by go_num, (s1, s2 ++ [x.name]), HE.out, by dsimp only; omega, hs2, by simp; omega, G4.out⟩
          case measure => simp [intOf]; omega
    · obtain rfl : k = n := by omega
      have ht : l.take k = l := List.take_of_length_le (by have := HS.out.hlen; omega)
      rw [ht] at hst
      have HE : Hid ((s1, s2) = R) := by show _ = _; rw [← HR.out]; exact hst.out.symm
      clear ht hst
      go_wp2_with fail
      go_ret
      exact ⟨_, rfl, HE.out ▸ hg.out⟩
end Go.Proofs.Ytpbppgfogepjeaa
