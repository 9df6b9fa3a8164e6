/- Chapter 16 by definition, in plain words: the least of those that are left, one by one; the first names that are free. No condition; no program. || The contract of replica.wanting: the first names that are free. Conditions: the owner's name is one; the library's table lies; the map keeps names. -/
import Derived.ChangeShapes
import Derived.Test.YtjncoloedakpoaaDoorRepGoneM
import Derived.Test.YtjncoloedakpoaaDoorPodName
namespace Go.Proofs.YtjncoloedakpoaaDoor
open Go.ChangeShapes

section sel
variable {α : Type} (lt : α → α → Bool)
def selStep (ok : α → Bool) (b : Option α) (o : α) : Option α := if ok o && (match b with | none => true | some x => lt o x) then some o else b
def selBest (ok : α → Bool) (L : List α) : Option α := L.foldl (selStep lt ok) none
structure SelOk (ok : α → Bool) (L : List α) (b : Option α) : Prop where
  no : b = none → ∀ y ∈ L, ok y = false
  yes : ∀ x, b = some x → x ∈ L ∧ ok x = true ∧ ∀ y ∈ L, ok y = true → y = x ∨ lt x y = true
variable {lt}
theorem SelOk.step {ok : α → Bool} {L : List α} {b : Option α} (h : SelOk lt ok L b) (o : α) (htr : ∀ a b c, lt a b = true → lt b c = true → lt a c = true) (hto : ∀ y ∈ L, y = o ∨ lt y o = true ∨ lt o y = true) : SelOk lt ok (L ++ [o]) (selStep lt ok b o) := by
  unfold selStep
  cases ho : ok o
  · simp only [Bool.false_and, Bool.false_eq_true, if_false]
    refine ⟨fun hb y hy => ?_, fun x hx => ?_⟩
    · rcases List.mem_append.1 hy with hy | hy
      · exact h.no hb y hy
      · rw [List.mem_singleton.1 hy]; exact ho
    · obtain ⟨h1, h2, h3⟩ := h.yes x hx
      refine ⟨by simp [h1], h2, fun y hy hyo => ?_⟩
      rcases List.mem_append.1 hy with hy | hy
      · exact h3 y hy hyo
      · rw [List.mem_singleton.1 hy, ho] at hyo; cases hyo
  · cases b with
    | none =>
      simp only [Bool.and_self, if_true]
      refine ⟨fun hb => (by cases hb), fun x hx => ?_⟩
      cases hx
      refine ⟨by simp, ho, fun y hy hyo => ?_⟩
      rcases List.mem_append.1 hy with hy | hy
      · rw [h.no rfl y hy] at hyo; cases hyo
      · exact .inl (List.mem_singleton.1 hy)
    | some z =>
      obtain ⟨h1, h2, h3⟩ := h.yes z rfl
      simp only [Bool.true_and]
      cases hl : lt o z
      · simp only [Bool.false_eq_true, if_false]
        refine ⟨fun hb => (by cases hb), fun x hx => ?_⟩
        cases hx
        refine ⟨by simp [h1], h2, fun y hy hyo => ?_⟩
        rcases List.mem_append.1 hy with hy | hy
        · exact h3 y hy hyo
        · rw [List.mem_singleton.1 hy]
          rcases hto z h1 with e | e | e
          · exact .inl e.symm
          · exact .inr e
          · rw [e] at hl; cases hl
      · simp only [if_true]
        refine ⟨fun hb => (by cases hb), fun x hx => ?_⟩
        cases hx
        refine ⟨by simp, ho, fun y hy hyo => ?_⟩
        rcases List.mem_append.1 hy with hy | hy
        · rcases h3 y hy hyo with e | e
          · rw [e]; exact .inr hl
          · exact .inr (htr _ _ _ hl e)
        · exact .inl (List.mem_singleton.1 hy)
theorem sel_ok (ok : α → Bool) (htr : ∀ a b c, lt a b = true → lt b c = true → lt a c = true) : ∀ (L P : List α) (b : Option α), (∀ x ∈ P ++ L, ∀ y ∈ P ++ L, x = y ∨ lt x y = true ∨ lt y x = true) → SelOk lt ok P b → SelOk lt ok (P ++ L) (L.foldl (selStep lt ok) b)
  | [], P, b, _, h => by simpa using h
  | o :: L, P, b, ht, h => by
    rw [List.foldl_cons]
    have := sel_ok ok htr L (P ++ [o]) (selStep lt ok b o) (by simpa using ht) (h.step o htr fun y hy => ht y (by simp [hy]) o (by simp))
    simpa using this
theorem sel_nth (ok : α → Bool) (htr : ∀ a b c, lt a b = true → lt b c = true → lt a c = true) (hirr : ∀ a b, lt a b = true → lt b a = true → False) (L S : List α) (hp : S.Perm L) (hs : S.Pairwise fun a b => lt a b = true) (i : Nat) (hi : i < S.length)
    (hok : ∀ j (h : j < S.length), ok S[j] = decide (i ≤ j)) : selBest lt ok L = some S[i] := by
  have hto : ∀ x ∈ S, ∀ y ∈ S, x = y ∨ lt x y = true ∨ lt y x = true := fun x hx y hy => by
    obtain ⟨a, ha, rfl⟩ := List.getElem_of_mem hx
    obtain ⟨b, hb, rfl⟩ := List.getElem_of_mem hy
    rcases Nat.lt_trichotomy a b with h | h | h
    · exact .inr (.inl (List.pairwise_iff_getElem.1 hs a b ha hb h))
    · subst h; exact .inl rfl
    · exact .inr (.inr (List.pairwise_iff_getElem.1 hs b a hb ha h))
  have h := sel_ok (lt := lt) ok htr L [] none (fun x hx y hy => hto x (hp.mem_iff.2 (by simpa using hx)) y (hp.mem_iff.2 (by simpa using hy))) ⟨fun _ y hy => (by cases hy), fun x hx => (by cases hx)⟩
  rw [List.nil_append] at h
  have hiL : S[i] ∈ L := hp.mem_iff.1 (List.getElem_mem hi)
  have hio : ok S[i] = true := by rw [hok i hi]; simp
  unfold selBest
  cases hb : L.foldl (selStep lt ok) none with
  | none => rw [h.no hb _ hiL] at hio; cases hio
  | some x =>
    obtain ⟨h1, h2, h3⟩ := h.yes x hb
    obtain ⟨j, hj, rfl⟩ := List.getElem_of_mem (hp.mem_iff.2 h1)
    rw [hok j hj, decide_eq_true_eq] at h2
    rcases Nat.lt_or_eq_of_le h2 with h4 | h4
    · have a := List.pairwise_iff_getElem.1 hs i j hi hj h4
      rcases h3 _ hiL hio with e | e
      · rw [e] at a; exact (hirr _ _ a a).elim
      · exact (hirr _ _ a e).elim
    · subst h4; rfl
end sel

theorem ok_take {α β : Type} [DecidableEq β] (nm : α → β) (S : List α) (hu : S.Pairwise fun a b => nm a ≠ nm b) (R0 : List β) (hd : ∀ y ∈ S, nm y ∉ R0) (i j : Nat) (hj : j < S.length) : decide (nm S[j] ∉ R0 ++ (S.take i).map nm) = decide (i ≤ j) := by
  rw [Bool.eq_iff_iff, decide_eq_true_eq, decide_eq_true_eq]
  constructor
  · intro h
    rcases Nat.lt_or_ge j i with hji | hji
    · refine absurd (List.mem_append.2 (.inr (List.mem_map.2 ⟨S[j], ?_, rfl⟩))) h
      exact List.mem_take_iff_getElem.2 ⟨j, by omega, rfl⟩
    · exact hji
  · intro h hm
    rcases List.mem_append.1 hm with hm | hm
    · exact hd _ (List.getElem_mem hj) hm
    · obtain ⟨y, hy, e⟩ := List.mem_map.1 hm
      obtain ⟨k, hk, rfl⟩ := List.mem_take_iff_getElem.1 hy
      have hkj : k < j := by omega
      exact List.pairwise_iff_getElem.1 hu k j (by omega) hj hkj e

section free
variable (nm : Nat → ByteArray) (taken : ByteArray → Bool)
def freeStep (m : Nat) (out : List ByteArray) (k : Nat) : List ByteArray := if out.length < m ∧ taken (nm k) = false then out ++ [nm k] else out
def freeN (m K : Nat) : List ByteArray := (List.range K).foldl (freeStep nm taken m) []
theorem freeN_succ (m K : Nat) : freeN nm taken m (K + 1) = freeStep nm taken m (freeN nm taken m K) K := by
  unfold freeN
  rw [List.range_succ, List.foldl_append]
  rfl
theorem freeN_le (m : Nat) : ∀ K, (freeN nm taken m K).length ≤ m
  | 0 => by simp [freeN]
  | K + 1 => by
    rw [freeN_succ]
    have := freeN_le m K
    unfold freeStep
    split
    · rename_i h; simp; omega
    · exact this
theorem freeN_full (m : Nat) {K : Nat} (h : (freeN nm taken m K).length = m) : ∀ d, freeN nm taken m (K + d) = freeN nm taken m K
  | 0 => rfl
  | d + 1 => by
    rw [← Nat.add_assoc, freeN_succ, freeN_full m h d]
    unfold freeStep
    rw [if_neg (by omega)]
end free
end Go.Proofs.YtjncoloedakpoaaDoor
namespace Go.Proofs.YtjncoloedakpoaaDoor
open Go.ChangeShapes Go.WideShapes Go.ChangeAt Go.RowKit Go.Deep Go.Maps

def wantL (s : ByteArray) (A : List ByteArray) (n : Int) : List ByteArray := if pnOk s = true then freeN (podNm s) (gB A) n.toNat 10000 else []
theorem wantL_no {s : ByteArray} (h : pnOk s = false) (A : List ByteArray) (n : Int) : wantL s A n = [] := if_neg (by rw [h]; decide)
theorem wantL_yes {s : ByteArray} (h : pnOk s = true) (A : List ByteArray) (n : Int) : wantL s A n = freeN (podNm s) (gB A) n.toNat 10000 := if_pos h
theorem podNm_size (s : ByteArray) (h : pnOk s = true) (k : Nat) (hk : k < 10000) : (podNm s k).size ≤ 32 := by
  obtain ⟨a, b, c, d, _, e⟩ := podNm_list s k hk
  have h1 : s.size + 5 ≤ 32 := of_decide_eq_true h
  rw [size_data, e, List.length_append, ← size_data]
  exact h1

set_option maxRecDepth 100000 in
set_option maxHeartbeats 2000000 in
theorem wanting_any (s : ByteArray) (hn : nameOf s.data.toList = true) (n : Int) (hn16 : n ≤ 16) (A : List ByteArray) (b c : Nat) (w : World) (hT : LT w) (hM : StrMap Value.bool w Tryd.prog 9 b c (goneF A)) :
    Calls Tryd.prog 20 #[.string s, .int .i64 n, .map (some b)] w fun e w' => ∃ v, e = .returned v ∧ OwnN w' w.heap.size v (wantL s A n) ∧ Below w.heap.size w w' := by
  have HT := Lib.hid hT
  have HM := Lib.hid hM
  have Hn := Lib.hid hn
  have HW : Hid (∀ (k : Nat), k < 10000 → ∀ w1, Below w.heap.size w w1 → Calls Tryd.prog 24 #[.string s, .int .i64 k] w1 fun e w' => e = .returned (podRet s k) ∧ Below w1.heap.size w1 w') := fun k hk w1 hb => podname_any s hn k hk w1 (hT.b hb)
  have HO : Hid (∀ w1, Calls Tryd.prog 24 #[.string s, .int .i64 10000] w1 fun e w' => e = .returned (.tuple #[.string ⟨#[]⟩, .int .i64 1]) ∧ Below w1.heap.size w1 w') := fun w1 => podname_over s 10000 (by omega) w1
  obtain ⟨m, hm⟩ : ∃ m, n.toNat = m := ⟨_, rfl⟩
  have Hm := Lib.hid hm
  have hm16 : m ≤ 16 := by omega
  clear hT hM hn
  go_enter Tryd.func20, Tryd.ntmps20
  go_wp2_with fail
  go_loopw [7, 8] (fun v7 i wr => ∃ K : Nat, K ≤ 10000 ∧ i = .int .i64 K ∧ Hid (K = 0 ∨ pnOk s = true) ∧ Hid (OwnN wr w.heap.size v7 (freeN (podNm s) (gB A) m K)) ∧ Hid (Below w.heap.size w wr)) (fun _ i _ => 10001 - (intOf i).toNat)
  case atStart => exact ⟨0, Nat.zero_le _, rfl, .inl rfl, OwnN.nil _ _, Below.refl _ _⟩
  case round =>
    obtain ⟨K, hK, rfl, hp, ho, hb⟩ := hrel
    obtain ⟨wq, rfl⟩ : ∃ wq : World, wq = wr := ⟨_, rfl⟩
    obtain ⟨ao, cap, rfl, hS⟩ := OwnN.reads ho.out
    have hle := freeN_le (podNm s) (gB A) m K
    have hsucc := freeN_succ (podNm s) (gB A) m K
    have Hfull := Lib.hid (fun h => freeN_full (podNm s) (gB A) m (K := K) h (10000 - K))
    obtain ⟨X, hX⟩ : ∃ X, freeN (podNm s) (gB A) m K = X := ⟨_, rfl⟩
    rw [hX] at hle hsucc ho hS Hfull ⊢
    obtain ⟨x, hx⟩ : ∃ x, X.length = x := ⟨_, rfl⟩
    rw [hx] at hle
    have HX := Lib.hid hX
    have Hx := Lib.hid hx
    have Hs := Lib.hid hsucc
    have hsz := hb.out.size
    have HS := Lib.hid hS
    have hcx := hS.hcap
    clear hX hsucc hS
    rw [hx] at ho hcx ⊢
    clear hx
    by_cases hlt : (x : Int) < n
    · by_cases hK1 : K = 10000
      · subst hK1
        have hd : decide ((x : Int) < n) = true := decide_eq_true hlt
        have HR : Hid (wantL s A n = X) := by
          show _ = _
          rcases hp.out with h | h
          · omega
          · rw [wantL_yes h, Hm.out, HX.out]
        go_wp2_with fail
        refine (HO.out wq).mono ?_
        rintro e w1 ⟨rfl, hb1⟩
        have HB1 := Lib.hid hb1
        clear hb1
        go_wp2_with fail
        go_ret
        exact ⟨_, rfl, by rw [HR.out]; exact owns_fr (Fr.of_below HB1.out (fun _ => False)) ho.out (fun _ _ h => h), hb.out.trans (HB1.out.mono hsz)⟩
      · have hK2 : K < 10000 := by omega
        have hd : decide ((x : Int) < n) = true := decide_eq_true hlt
        obtain ⟨q, hq⟩ : ∃ q, pnOk s = q := ⟨_, rfl⟩
        have Hq := Lib.hid hq
        clear hq
        go_wp2_with fail
        refine (HW.out K hK2 wq hb.out).mono ?_
        rintro e w1 ⟨rfl, hb1⟩
        have HB1 := Lib.hid (hb.out.trans (hb1.mono hsz))
        have HO1 : Hid (OwnN w1 w.heap.size (.slice ao x cap) X) := owns_fr (Fr.of_below hb1 (fun _ => False)) ho.out (fun _ _ h => h)
        have hz1 := HB1.out.size
        have HOx : Hid (w1.ownsRow w.heap.size 9 1 (.slice ao x cap) x (X.flatMap cN)) := by
          have h := HO1.out
          unfold OwnN at h
          rw [Hx.out] at h
          exact h
        have hcl := SlR.hmax HS.out
        have hcx2 := SlR.hcap HS.out
        clear hb1
        cases q
        · have HR : Hid (wantL s A n = X) := by
            show _ = _
            rcases hp.out with h | h
            · subst h
              rw [wantL_no Hq.out, ← HX.out]
              rfl
            · rw [Hq.out] at h; cases h
          rw [podRet_no Hq.out]
          go_wp2_with fail
          go_ret
          exact ⟨_, rfl, by rw [HR.out]; exact HO1.out, HB1.out⟩
        · rw [podRet_yes Hq.out]
          have HSz := Lib.hid (podNm_size s Hq.out K hK2)
          obtain ⟨nm, hnm⟩ : ∃ nm, podNm s K = nm := ⟨_, rfl⟩
          have HKy : Hid (keyOf Tryd.prog 9 (.string nm) = some (.string nm.data.toList)) := strKeyD (by rw [← hnm]; have := HSz.out; unfold maxLen; omega)
          have HV : Hid ((byStr Value.bool (goneF A) (.string nm.data.toList)).getD (.bool false) = .bool (gB A nm)) := goneF_get A nm
          have HM1 : Hid (MapIs w1 Tryd.prog 9 b c (byStr Value.bool (goneF A))) := HM.out.below HB1.out
          have Hs2 : Hid (freeN (podNm s) (gB A) m (K + 1) = if gB A nm = false then X ++ [nm] else X) := by
            show _ = _
            rw [Hs.out]
            unfold freeStep
            rw [hnm, Hx.out]
            have : x < m := by have := Hm.out; omega
            by_cases h : gB A nm = false
            · rw [if_pos ⟨this, h⟩, if_pos h]
            · rw [if_neg (fun h2 => h h2.2), if_neg h]
          rw [hnm]
          clear hnm
          obtain ⟨g, hg⟩ : ∃ g, gB A nm = g := ⟨_, rfl⟩
          rw [hg] at HV Hs2
          clear hg
          cases g
          · have Hs3 : Hid (freeN (podNm s) (gB A) m (K + 1) = X ++ [nm]) := Hs2.out.trans (if_pos rfl)
            go_wp2_with (first
              | (at_lookup; go_must (refine wpList_look _ rfl _ _ 50 rfl 9 4 strKeyed Tryd.underlying50 (zeroBoolP _) b c _ rfl HM1.out _ _ rfl HKy.out (.bool false) HV.out ?_))
              | ((with_reducible refine at_slot 31 ?_); go_must (refine wpList_buildSlice rfl 51 1 [(0, _)] rfl [(0, .string nm)] rfl _ _ (oneName nm) ?_; refine wpList_append_new elemName rfl _ _ rfl w.heap.size _ x (X.flatMap cN) rfl (HOx.out.alloc _) (by simp; omega) _ _ rfl (heap_alloc_new _ _) rfl rfl (by unfold maxLen; omega) (by omega) ?_; intro g' cap' w' ho' hg' hn'; have HO' := Lib.hid ho'; have HG' := Lib.hid hg'; clear ho' hg' hn')))
            have hB9 : Hid (Below w.heap.size w w') := (HB1.out.alloc hz1 _).grown HG'.out (by simp; omega) (fun q hq => (World.ownsRow.lt HOx.out q hq).1)
            have O9 : Hid (OwnN w' w.heap.size (.slice (some ⟨g', 0, none⟩) (x + 1) cap') (X ++ [nm])) := by
              have := HO'.out
              rw [← Hx.out] at this
              have := OwnN.first this
              rw [Hx.out] at this
              exact this
            go_roundw
            case rel => exact ⟨K + 1, by omega, by go_num, .inr Hq.out, by rw [Hs3.out]; exact O9, hB9⟩
            case measure => simp [intOf]; omega
          · have Hs3 : Hid (freeN (podNm s) (gB A) m (K + 1) = X) := Hs2.out.trans (if_neg (by decide))
            go_wp2_with (at_lookup; go_must (refine wpList_look _ rfl _ _ 50 rfl 9 4 strKeyed Tryd.underlying50 (zeroBoolP _) b c _ rfl HM1.out _ _ rfl HKy.out (.bool true) HV.out ?_))
            go_roundw
            case rel => exact ⟨K + 1, by omega, by go_num, .inr Hq.out, by rw [Hs3.out]; exact HO1, HB1⟩
            case measure => simp [intOf]; omega
    · have hd : decide ((x : Int) < n) = false := decide_eq_false hlt
      have HR : Hid (wantL s A n = X) := by
        show _ = _
        obtain ⟨q, hq⟩ : ∃ q, pnOk s = q := ⟨_, rfl⟩
        cases q
        · rcases hp.out with h | h
          · subst h
            rw [wantL_no hq, ← HX.out]
            rfl
          · rw [hq] at h; cases h
        · have h1 := Hm.out
          have h2 := Hx.out
          have h3 := Hfull.out (by omega)
          rw [show K + (10000 - K) = 10000 by omega] at h3
          rw [wantL_yes hq, Hm.out, h3]
      go_wp2_with fail
      go_ret
      exact ⟨_, rfl, by rw [HR.out]; exact ho.out, hb.out⟩
end Go.Proofs.YtjncoloedakpoaaDoor
