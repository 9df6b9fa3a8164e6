/- The contract of victim.Live. Condition: at most 1000 objects. || append of any slice that reads, nil too, onto a row of the call's own. No condition. -/
import Derived.Test.YtjncoloedakpoaaDoorVicOwnM
import Derived.Test.YtjncoloedakpoaaDoorFrame
import Derived.Laws.AppendOwnNone
namespace Go.Proofs.YtjncoloedakpoaaDoor
open Go.ChangeShapes Go.WideShapes Go.ChangeAt Go.RowKit Go.Deep

def isMine (s : ByteArray) (o : OV) : Bool := (o.kind == 1) && (o.owner.toList == s.toList)
def isLive (s : ByteArray) (o : OV) : Bool := isMine s o && !(o.phase == 3)
def isDead (s : ByteArray) (o : OV) : Bool := isMine s o && (o.phase == 3)

set_option maxRecDepth 100000 in
set_option maxHeartbeats 2000000 in
theorem live_any (s : ByteArray) (l : List OV) (ao : Option Addr) (n cap : Nat) (w : World) (hS : SlR (Flat OV.cells) 47 w ao n cap l) (hn : n ≤ 1000) :
    Calls Tryd.prog 17 #[.slice ao n cap, .string s] w fun e w' => ∃ v1 v2, e = .returned (.tuple #[v1, v2]) ∧ OwnO w' w.heap.size v1 (l.filter (isLive s)) ∧ OwnO w' w.heap.size v2 (l.filter (isDead s)) ∧ Below w.heap.size w w' := by
  have hcm := hS.hmax
  have hlc := hS.hcap
  unfold maxLen at hcm
  have HS := Lib.hid hS
  clear hS
  go_enter Tryd.func17, Tryd.ntmps17
  go_wp2_with fail
  go_loopw [4, 5, 10] (fun v1 v2 i wr => ∃ k : Nat, k ≤ n ∧ i = .int .i64 k ∧ Hid (OwnO wr w.heap.size v1 ((l.take k).filter (isLive s))) ∧ Hid (OwnO wr w.heap.size v2 ((l.take k).filter (isDead s))) ∧
      Hid (Dis v1 v2) ∧ Hid (Below w.heap.size w wr)) (fun _ _ i _ => n - (intOf i).toNat)
  case atStart => exact ⟨0, Nat.zero_le _, rfl, OwnO.nil _ _, OwnO.nil _ _, fun g h => (by cases h), Below.refl _ _⟩
  case round =>
    obtain ⟨k, hk, rfl, ho1, ho2, hds, hb⟩ := hrel
    obtain ⟨wq, rfl⟩ : ∃ wq : World, wq = wr := ⟨_, rfl⟩
    by_cases hlt : k < n
    · have hS2 := HS.out.flatKeeps (Keeps.below hb.out)
      obtain ⟨b0, off, rfl⟩ := hS2.ptr (by decide) (by omega)
      have kx : k < l.length := by have := hS2.hlen; omega
      have hcl := hS2.flat kx
      have f1 := filter_take_succ (isLive s) l k kx
      have f2 := filter_take_succ (isDead s) l k kx
      have hlk : (l.take k).length ≤ 1000 := by simp; omega
      have g1 := List.length_filter_le (isLive s) (l.take k)
      have g2 := List.length_filter_le (isDead s) (l.take k)
      obtain ⟨x, hx⟩ : ∃ x, l[k] = x := ⟨_, rfl⟩
      rw [hx] at hcl f1 f2
      obtain ⟨X1, hX1⟩ : ∃ X, (l.take k).filter (isLive s) = X := ⟨_, rfl⟩
      obtain ⟨X2, hX2⟩ : ∃ X, (l.take k).filter (isDead s) = X := ⟨_, rfl⟩
      rw [hX1] at f1 g1 ho1
      rw [hX2] at f2 g2 ho2
      have F1 := Lib.hid f1
      have F2 := Lib.hid f2
      have Hcl := Lib.hid hcl
      have hsz := hb.out.size
      have G1 : X1.length ≤ 1000 := by omega
      have G2 : X2.length ≤ 1000 := by omega
      clear hcl hS2 hx hX1 hX2 f1 f2 g1 g2 hlk
      have Hn1 : Hid (∀ j u, x.cells[j]? = some u → (wq.alloc (.cells x.cells.toArray 44)).cell? (Addr.add ⟨wq.heap.size, 0, none⟩ j) = some u) := fun j u hu => (cell_new wq _ _ j).trans (by simpa using hu)
      go_wp2_with (first
        | ((with_reducible refine at_slot 13 ?_); go_must (refine wpList_load_at aggObj rfl _ rfl ⟨b0, off + k * 47, none⟩ rfl x.cells x.hlen (fun j u hu => by rw [Addr.add_lit]; exact Hcl.out j u hu) ?_))
        | ((with_reducible refine at_slot 7 ?_); go_must (refine wpList_var aggObj rfl rfl rfl _ _ rfl rfl x.cells.toArray rfl rfl (by simp [OV.hlen]) (by simpa using x.one) ?_))
        | ((with_reducible refine at_slot 19 ?_); go_must (refine wpList_load_at aggObj rfl _ rfl ⟨wq.heap.size, 0, none⟩ rfl x.cells x.hlen Hn1.out ?_)))
      refine (opod_any x _).mono ?_
      rintro e w2 ⟨rfl, hb2⟩
      have Hn2 : Hid (∀ j u, x.cells[j]? = some u → w2.cell? (Addr.add ⟨wq.heap.size, 0, none⟩ j) = some u) := fun j u hu => Below.cell_some hb2 (Hn1.out j u hu)
      have k10 := Hn2.out 10 _ x.h10
      have k12 := Hn2.out 12 _ x.h12
      rw [Addr.add_lit, Nat.zero_add] at k10 k12
      have hz2 := hb2.size
      rw [World.size_alloc] at hz2
      have HA : Hid (Below wq.heap.size wq w2) := ((Below.refl _ wq).alloc (Nat.le_refl _) _).trans (hb2.mono (by simp))
      have O1 : Hid (OwnO w2 w.heap.size u4 X1) := owns_fr (Fr.of_below HA.out (fun _ => False)) ho1.out (fun _ _ h => h)
      have O2 : Hid (OwnO w2 w.heap.size u5 X2) := owns_fr (Fr.of_below HA.out (fun _ => False)) ho2.out (fun _ _ h => h)
      have B2 : Hid (Below w.heap.size w w2) := hb.out.trans (HA.out.mono hsz)
      have hsz2 := B2.out.size
      clear hb2 ho1 ho2 Hcl Hn1
      obtain ⟨kb, hkb⟩ : ∃ kb, (x.kind == 1) = kb := ⟨_, rfl⟩
      rw [hkb]
      have HK := Lib.hid hkb
      clear hkb
      cases hm : isMine s x
      · have hf1 : Hid (((l.take (k + 1)).filter (isLive s)) = X1) := F1.out.trans (by rw [show isLive s x = false by unfold isLive; rw [hm]; rfl]; simp)
        have hf2 : Hid (((l.take (k + 1)).filter (isDead s)) = X2) := F2.out.trans (by rw [show isDead s x = false by unfold isDead; rw [hm]; rfl]; simp)
        unfold isMine at hm
        rw [HK.out] at hm
        cases kb
        · clear hm
          go_wp2_with fail
          go_roundw
          case rel => exact ⟨k + 1, by omega, by go_num, by rw [hf1.out]; exact O1.out, by rw [hf2.out]; exact O2.out, hds.out, B2.out⟩
          case measure => simp [intOf]; omega
        · have hw : (x.owner.toList == s.toList) = false := by simpa using hm
          clear hm
          go_wp2_with fail
          go_roundw
          case rel => exact ⟨k + 1, by omega, by go_num, by rw [hf1.out]; exact O1.out, by rw [hf2.out]; exact O2.out, hds.out, B2.out⟩
          case measure => simp [intOf]; omega
      · have hm' := hm
        unfold isMine at hm'
        rw [HK.out] at hm'
        obtain ⟨rfl, hw⟩ : kb = true ∧ (x.owner.toList == s.toList) = true := by
          cases kb
          · cases hm'
          · exact ⟨rfl, hm'⟩
        by_cases h3 : x.phase = 3
        · have hf1 : Hid (((l.take (k + 1)).filter (isLive s)) = X1) := F1.out.trans (by rw [show isLive s x = false by unfold isLive; rw [hm, h3]; rfl]; simp)
          have hf2 : Hid (((l.take (k + 1)).filter (isDead s)) = X2 ++ [x]) := F2.out.trans (by rw [show isDead s x = true by unfold isDead; rw [hm, h3]; rfl]; simp)
          rw [h3] at k12
          clear hm hm' h3
          go_wp2_with (first
          | ((with_reducible refine at_slot 35 ?_); go_must (refine wpList_load_at aggObj rfl _ rfl ⟨wq.heap.size, 0, none⟩ rfl x.cells x.hlen Hn2.out ?_))
          | ((with_reducible refine at_slot 36 ?_); go_must (refine wpList_buildSlice rfl 45 1 [(0, _)] rfl [(0, .agg x.cells.toArray)] rfl _ _ (oneObj x) ?_; refine wpList_append_new elemObj rfl _ _ rfl w.heap.size u5 X2.length (X2.flatMap OV.cells) rfl (O2.out.alloc _) (by simp; omega) _ _ rfl (heap_alloc_new _ _) (by simp [OV.hlen]) (by simpa using x.one) (by unfold maxLen; omega) (by omega) ?_; intro g' cap' w' ho' hg' hn'; have HO' := Lib.hid ho'; have HG' := Lib.hid hg'; have HN' := Lib.hid hn'; clear ho' hg' hn')))
          have N1 := own_next (n' := X2.length + 1) (cap' := cap') (O1.out.alloc (.cells x.cells.toArray 44)) hds.out.symm HG'.out (HN'.out.imp id (fun h => by simpa using h))
          have NB : Hid (Below w.heap.size w w') := (B2.out.alloc hsz2 _).grown HG'.out (by simp; omega) (fun k hk => (World.ownsRow.lt O2.out k hk).1)
          go_roundw
          case rel => exact ⟨k + 1, by omega, by go_num, by rw [hf1.out]; exact N1.1, by rw [hf2.out]; exact own_first HO'.out, N1.2.symm, NB.out⟩
          case measure => simp [intOf]; omega
        · have h3' : (x.phase == 3) = false := beq_eq_false_iff_ne.2 h3
          have hf1 : Hid (((l.take (k + 1)).filter (isLive s)) = X1 ++ [x]) := F1.out.trans (by rw [show isLive s x = true by unfold isLive; rw [hm, h3']; rfl]; simp)
          have hf2 : Hid (((l.take (k + 1)).filter (isDead s)) = X2) := F2.out.trans (by rw [show isDead s x = false by unfold isDead; rw [hm, h3']; rfl]; simp)
          clear hm hm' h3
          go_wp2_with (first
          | ((with_reducible refine at_slot 15 ?_); go_must (refine wpList_load_at aggObj rfl _ rfl ⟨wq.heap.size, 0, none⟩ rfl x.cells x.hlen Hn2.out ?_))
          | ((with_reducible refine at_slot 16 ?_); go_must (refine wpList_buildSlice rfl 45 1 [(0, _)] rfl [(0, .agg x.cells.toArray)] rfl _ _ (oneObj x) ?_; refine wpList_append_new elemObj rfl _ _ rfl w.heap.size u4 X1.length (X1.flatMap OV.cells) rfl (O1.out.alloc _) (by simp; omega) _ _ rfl (heap_alloc_new _ _) (by simp [OV.hlen]) (by simpa using x.one) (by unfold maxLen; omega) (by omega) ?_; intro g' cap' w' ho' hg' hn'; have HO' := Lib.hid ho'; have HG' := Lib.hid hg'; have HN' := Lib.hid hn'; clear ho' hg' hn')))
          have N2 := own_next (n' := X1.length + 1) (cap' := cap') (O2.out.alloc (.cells x.cells.toArray 44)) hds.out HG'.out (HN'.out.imp id (fun h => by simpa using h))
          have NB : Hid (Below w.heap.size w w') := (B2.out.alloc hsz2 _).grown HG'.out (by simp; omega) (fun k hk => (World.ownsRow.lt O1.out k hk).1)
          go_roundw
          case rel => exact ⟨k + 1, by omega, by go_num, by rw [hf1.out]; exact own_first HO'.out, by rw [hf2.out]; exact N2.1, N2.2, NB.out⟩
          case measure => simp [intOf]; omega
    · obtain rfl : k = n := by omega
      have ht : l.take k = l := List.take_of_length_le (by have := HS.out.hlen; omega)
      rw [ht] at ho1 ho2
      have O1 := ho1
      have O2 := ho2
      have Hb := hb
      clear ht
      go_wp2_with fail
      exact bodyPost_ret (v := .tuple #[u4, u5]) (by simp [results, Tryd.results17, go_sem]) rfl ⟨u4, u5, rfl, O1.out, O2.out, Hb.out⟩
end Go.Proofs.YtjncoloedakpoaaDoor
namespace Go.Proofs.YtjncoloedakpoaaDoor
open Go.ChangeShapes Go.WideShapes Go.ChangeAt Go.RowKit Go.Deep

theorem SlR.allA {α : Type} {f : α → List Value} {sz : Nat} {w : World} {ad : Addr} {n cap : Nat} {xs : List α} (hf : ∀ x, (f x).length = sz) (hsz : 0 < sz) (h : SlR (Flat f) sz w (some ad) n cap xs) :
    ∀ j u, (xs.flatMap f)[j]? = some u → w.cell? (ad.add j) = some u := by
  intro j u hj
  have hlt := (List.getElem?_eq_some_iff.1 hj).1
  rw [flatMap_len hf] at hlt
  have hi : j / sz < xs.length := by rw [Nat.div_lt_iff_lt_mul hsz]; exact hlt
  have hr := Nat.mod_lt j hsz
  have e : j / sz * sz + j % sz = j := by rw [Nat.mul_comm]; exact Nat.div_add_mod j sz
  have h2 := flatMap_get hf xs (j / sz) (j % sz) hi hr
  rw [e, hj] at h2
  obtain ⟨c, _, h3, h4⟩ := h.hat ad rfl (j / sz) hi
  rw [show c = f xs[j / sz] from h4] at h3
  have h5 := h3 (j % sz) u h2.symm
  rwa [e] at h5

theorem World.grownBy_refl (w : World) (r : Option Nat) : w.grownBy w r := ⟨rfl, rfl, rfl, Nat.le_refl _, fun _ _ _ => rfl⟩

theorem wpList_append_slr {P : Program} {ops : Array Oper} {rest : List Oper} {o : Oper} {a : Act} {w : World} {Q : Exit → Act → World → Prop} {t e : TypeId} {size bytes : Nat} (E : ElemOK P t e size bytes)
    (hgd : o.guard = none) (s x : Operand) (ho : o.op = .call { callee := .builtin .append, args := #[s, x], argTypes := #[t, t] })
    (B : Nat) (v : Value) (n : Nat) (xs : List Value) (hs : a.eval s = v) (hown : w.ownsRow B e size v n xs) (hB : B ≤ w.heap.size)
    {α : Type} {f : α → List Value} (hf : ∀ x, (f x).length = size) (ao : Option Addr) (m c : Nat) (ys : List α) (hx : a.eval x = .slice ao m c) (hS : SlR (Flat f) size w ao m c ys) (h1 : ∀ y u, u ∈ f y → u.oneCell' = true)
    (h63 : n + m ≤ maxLen) (hbytes : (n + m) * bytes ≤ 140737488355328)
    (h : ∀ v' w', w'.ownsRow B e size v' (n + m) (xs ++ ys.flatMap f) → w.grownBy w' v.ownBlock → wpList P ops Q rest (a.put o.dst v') w') : wpList P ops Q (o :: rest) a w := by
  obtain ⟨i, z, hi, hz, h2, h3, h4⟩ := E.info
  cases ao with
  | none =>
    have hc := hS.hnil rfl
    have hm : m = 0 := by have := hS.hcap; omega
    subst hc hm
    have hy : ys = [] := List.eq_nil_of_length_eq_zero hS.hlen
    subst hy
    refine wpList_append_own_none hgd s x t ho B e i size E.under hi v n xs hs hown hx (h v w ?_ (World.grownBy_refl _ _))
    simpa using hown
  | some ad =>
    refine wpList_append_own _ hgd s x t ho B e i z size bytes E.under hi hz h2 h3 h4 E.pos v n xs hs hown ad m c (ys.flatMap f) hx (by rw [flatMap_len hf, hS.hlen]) (hS.allA hf E.pos) (fun u hu => ?_) h63 hbytes hB fun v' w' h1 h2 _ => h v' w' h1 h2
    obtain ⟨y, _, hu⟩ := List.mem_flatMap.1 hu
    exact h1 y u hu
end Go.Proofs.YtjncoloedakpoaaDoor
