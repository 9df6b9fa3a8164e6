/- The contract of rollout.ready. Condition: the objects read. || append of any slice that reads, nil too, onto a row of the call's own. No condition. || Append of a whole slice onto a row of the call's own, in a region that draws. No condition; no program. || The contract of rollout.Plan where it refuses. Condition: none. -/
import Derived.Test.YtpbppgfogepjeaaVictimCmpM
import Derived.Test.YtpbppgfogepjeaaFrame
import Derived.Test.YtpbppgfogepjeaaRolEq0M
import Derived.Laws.AppendOwnNone
import Derived.Test.YtpbppgfogepjeaaPhase2
import Derived.Test.YtpbppgfogepjeaaRolSplit
import Derived.Test.YtpbppgfogepjeaaRolSmall
namespace Go.Proofs.Ytpbppgfogepjeaa
open Go.ChangeShapes Go.WideShapes Go.ChangeAt Go.RowKit Go.Deep

def rdyV (l : List OV) : Int := ((l.filter fun o => o.phase == 2).length : Int)
theorem rdyV_next (l : List OV) (k : Nat) (h : k < l.length) : rdyV (l.take (k + 1)) = rdyV (l.take k) + (if l[k].phase == 2 then 1 else 0) := by
  unfold rdyV
  rw [List.take_succ_eq_append_getElem h, List.filter_append, List.length_append, List.filter_cons]
  split <;> simp
theorem rdyV_le (l : List OV) : 0 ≤ rdyV l ∧ rdyV l ≤ l.length := ⟨by unfold rdyV; omega, Int.ofNat_le.2 (List.length_filter_le _ _)⟩

set_option maxRecDepth 100000 in
set_option maxHeartbeats 1000000 in
theorem ready_any (l : List OV) (ao : Option Addr) (n cap : Nat) (w : World) (hS : SlR (Flat OV.cells) 47 w ao n cap l) :
    Calls Try.prog 49 #[.slice ao n cap] w fun e w' => e = .returned (.int .i64 (rdyV l)) ∧ Below w.heap.size w w' := by
  have hcm := hS.hmax
  have hlc := hS.hcap
  unfold maxLen at hcm
  have HS := Lib.hid hS
  clear hS
  go_enter Try.func49, Try.ntmps49
  go_wp2_with fail
  go_loopw [3, 8] (fun c i wr => ∃ k : Nat, k ≤ n ∧ i = .int .i64 k ∧ (∃ r : Int, c = .int .i64 r ∧ 0 ≤ r ∧ r ≤ k ∧ Hid (r = rdyV (l.take k))) ∧ Hid (Below w.heap.size w wr)) (fun _ i _ => n - (intOf i).toNat)
  case atStart => exact ⟨0, Nat.zero_le _, rfl, ⟨0, rfl, Int.le_refl _, Int.le_refl _, rfl⟩, Below.refl _ _⟩
  case round =>
    obtain ⟨k, hk, rfl, ⟨r, rfl, hr0, hrk, hr⟩, hb⟩ := hrel
    obtain ⟨wq, rfl⟩ : ∃ wq : World, wq = wr := ⟨_, rfl⟩
    by_cases hlt : k < n
    · have hS2 := HS.out.flatKeeps (Keeps.below hb.out)
      obtain ⟨b0, off, rfl⟩ := hS2.ptr (by decide) (by omega)
      have kx : k < l.length := by have := hS2.hlen; omega
      have hcl := hS2.flat kx
      have hnx := rdyV_next l k kx
      obtain ⟨x, hx⟩ : ∃ x, l[k] = x := ⟨_, rfl⟩
      rw [hx] at hcl hnx
      have Hcl := Lib.hid hcl
      have Hnx := Lib.hid (hr.out ▸ hnx)
      have hsz := hb.out.size
      have Hb := Lib.hid (hb.out.alloc hsz (.cells x.cells.toArray 44))
      have k12 : (wq.alloc (.cells x.cells.toArray 44)).cell? ⟨wq.heap.size, 12, none⟩ = some (.int .i64 x.phase) := by
        have := (cell_new wq x.cells.toArray 44 12).trans (by simpa using x.h12)
        rwa [Addr.add_lit, Nat.zero_add] at this
      clear hcl hS2 hx hnx hr hb
      obtain ⟨q, hq⟩ : ∃ q, (x.phase == 2) = q := ⟨_, rfl⟩
      rw [hq] at Hnx
      cases q
      · go_wp2_with (first
          | ((with_reducible refine at_slot 11 ?_); go_must (refine wpList_load_at aggObj rfl _ rfl ⟨b0, off + k * 47, none⟩ rfl x.cells x.hlen (fun j u hu => by rw [Addr.add_lit]; exact Hcl.out j u hu) ?_))
          | ((with_reducible refine at_slot 5 ?_); go_must (refine wpList_var aggObj rfl rfl rfl _ _ rfl rfl x.cells.toArray rfl rfl (by simp [OV.hlen]) (by simpa using x.one) ?_)))
        go_roundw
        case rel => exact ⟨k + 1, by omega, by go_num, ⟨r, rfl, hr0, by omega, (Hnx.out.trans (by simp)).symm⟩, Hb.out⟩
        case measure => simp [intOf]; omega
      · go_wp2_with (first
          | ((with_reducible refine at_slot 11 ?_); go_must (refine wpList_load_at aggObj rfl _ rfl ⟨b0, off + k * 47, none⟩ rfl x.cells x.hlen (fun j u hu => by rw [Addr.add_lit]; exact Hcl.out j u hu) ?_))
          | ((with_reducible refine at_slot 5 ?_); go_must (refine wpList_var aggObj rfl rfl rfl _ _ rfl rfl x.cells.toArray rfl rfl (by simp [OV.hlen]) (by simpa using x.one) ?_)))
        go_roundw
        case rel => exact ⟨k + 1, by omega, by go_num, ⟨r + 1, rfl, by omega, by omega, (Hnx.out.trans (by simp)).symm⟩, Hb.out⟩
        case measure => simp [intOf]; omega
    · obtain rfl : k = n := by omega
      have ht : l.take k = l := List.take_of_length_le (by have := HS.out.hlen; omega)
      rw [ht] at hr
      have Hr := hr
      have Hb := hb
      clear ht hr hb
      go_wp2_with fail
      go_ret
      exact ⟨by rw [Hr.out]; rfl, Hb.out⟩
end Go.Proofs.Ytpbppgfogepjeaa
namespace Go.Proofs.Ytpbppgfogepjeaa
open Go.ChangeShapes Go.WideShapes Go.ChangeAt Go.RowKit Go.Deep

theorem SlR.allA {α : Type} {f : α → List Value} {sz : Nat} {w : World} {ad : Addr} {n cap : Nat} {xs : List α} (hf : ∀ x, (f x).length = sz) (hsz : 0 < sz) (h : SlR (Flat f) sz w (some ad) n cap xs) :
    ∀ j u, (xs.flatMap f)[j]? = some u → w.cell? (ad.add j) = some u := by
  intro j u hj
  have hlt := (List.getElem?_eq_some_iff.1 hj).1
  rw [flatMap_len hf] at hlt
  have hi : j / sz < xs.length := by rw [Nat.div_lt_iff_lt_mul hsz]; exact hlt
  have hr := Nat.mod_lt j hsz
  have e : j / sz * sz + j % sz = j := by rw [Nat.mul_comm]; exact Nat.div_add_mod j sz
  have h2 := flatMap_get hf xs (j / sz) (j % sz) hi hr
  rw [e, hj] at h2
  obtain ⟨c, _, h3, h4⟩ := h.hat ad rfl (j / sz) hi
  rw [show c = f xs[j / sz] from h4] at h3
  have h5 := h3 (j % sz) u h2.symm
  rwa [e] at h5

theorem World.grownBy_refl (w : World) (r : Option Nat) : w.grownBy w r := ⟨rfl, rfl, rfl, Nat.le_refl _, fun _ _ _ => rfl⟩

end Go.Proofs.Ytpbppgfogepjeaa
namespace Go.Proofs.Ytpbppgfogepjeaa
open Go.ChangeShapes Go.WideShapes Go.ChangeAt Go.RowKit Go.Deep

theorem run_append_slr {P : Program} {t e : TypeId} {size bytes : Nat} (E : ElemOK P t e size bytes) (ty : TypeId) (w : World) (B : Nat) (v : Value) (n : Nat) (xs : List Value) (hown : w.ownsRow B e size v n xs) (hB : B ≤ w.heap.size)
    {α : Type} {f : α → List Value} (hf : ∀ x, (f x).length = size) (ao : Option Addr) (m c : Nat) (ys : List α) (hS : SlR (Flat f) size w ao m c ys) (h1 : ∀ y u, u ∈ f y → u.oneCell' = true) (h63 : n + m ≤ maxLen) (hbytes : (n + m) * bytes ≤ 140737488355328) :
    ∃ v' w', (Builtin.append_ #[t, t] ty #[v, .slice ao m c]).run P w = .ok v' w' ∧ w'.ownsRow B e size v' (n + m) (xs ++ ys.flatMap f) ∧ w.grownBy w' v.ownBlock := by
  obtain ⟨i, z, hi, hz, h2, h3, h4⟩ := E.info
  cases ao with
  | none =>
    have hc := hS.hnil rfl
    have hm : m = 0 := by have := hS.hcap; omega
    subst hc hm
    have hy : ys = [] := List.eq_nil_of_length_eq_zero hS.hlen
    subst hy
    exact ⟨v, w, run_append_owned_none w B t ty e i size E.under hi v n xs hown, by simpa using hown, World.grownBy_refl _ _⟩
  | some ad =>
    obtain ⟨v', w', r1, r2, r3, _⟩ := run_append_own (P := P) w B t ty e i z size bytes E.under hi hz h2 h3 h4 E.pos v n xs hown ad m c (ys.flatMap f) (by rw [flatMap_len hf, hS.hlen]) (hS.allA hf E.pos) (fun u hu => by
      obtain ⟨y, _, hu⟩ := List.mem_flatMap.1 hu
      exact h1 y u hu) h63 hbytes hB
    exact ⟨v', w', r1, r2, r3⟩
theorem wpLoud_append_slr {P : Program} {C : World → Prop} {b : Nat} {R : Act → World → Prop} {t e : TypeId} {size bytes : Nat} (E : ElemOK P t e size bytes) {j : Nat} {r : List Nat} {A : Act} {w : World} {l : List Oper} {o : Oper} (ho : nthOp j l = some o) (hg : o.guard = none)
    (s x : Operand) (hop : o.op = Op.call { callee := Callee.builtin Builtin.append, args := #[s, x], argTypes := #[t, t] })
    (B : Nat) (v : Value) (n : Nat) (xs : List Value) (hs : A.eval s = v) (hown : w.ownsRow B e size v n xs) (hB : B ≤ w.heap.size)
    {α : Type} {f : α → List Value} (hf : ∀ x, (f x).length = size) (ao : Option Addr) (m c : Nat) (ys : List α) (hx : A.eval x = .slice ao m c) (hS : SlR (Flat f) size w ao m c ys) (h1 : ∀ y u, u ∈ f y → u.oneCell' = true)
    (h63 : n + m ≤ maxLen) (hbytes : (n + m) * bytes ≤ 140737488355328)
    (hK : ∀ v' w', w'.ownsRow B e size v' (n + m) (xs ++ ys.flatMap f) → w.grownBy w' v.ownBlock → (j < b → C w') ∧ wpLoud P l.toArray C b R r (A.put o.dst v') w') :
    wpLoud P l.toArray C b R (j :: r) A w := by
  obtain ⟨v', w', hr, r1, r2⟩ := run_append_slr E o.type w B v n xs hown hB hf ao m c ys hS h1 h63 hbytes
  refine wpLoud_run (v := v') (w' := w') ho hg ?_ (hK v' w' r1 r2)
  unfold execOp
  simp only [hop, resolve, invoke, builtin, Sem.run_bind, Sem.run_pure, Result.andThen_ok, List.map_toArray, List.map_cons, List.map_nil, hs, hx, hr]
end Go.Proofs.Ytpbppgfogepjeaa
namespace Go.Proofs.Ytpbppgfogepjeaa
open Go.ChangeShapes Go.WideShapes Go.ChangeAt Go.RowKit Go.Deep

def pvI (x : ObI) (y : ObI) : Pv := ⟨y.o.p.phase, y.nm, freshB x y⟩
theorem rdyV_ov (x : ObI) (l : List ObI) : rdyV (l.map ObI.ov) = rdy (pvI x) l := by
  unfold rdyV rdy
  rw [filter_ov, List.length_map]
  rfl
theorem goes_ov (x : ObI) (M : Int) (s : Int × List ByteArray) (l : List ObI) : (l.map ObI.ov).foldl (gStep ovPv M) s = l.foldl (gStep (pvI x) M) s := by
  rw [List.foldl_map]
  rfl
structure PlAt (w0 w : World) (N : Nat) (s a : Int) (xc : List Value) : Prop where
  r : w.heap[N]? = some (.cells #[.int .i64 s, .int .i64 a] 67 (0, 0))
  x : ∀ j u, xc[j]? = some u → w.cell? ⟨N + 1, j, none⟩ = some u
  out : w.heap[N + 2]? = some (.cells #[.int .i64 0, .slice none 0 0, .bool false] 70 (0, 0))
  below : Below N w0 w
theorem PlAt.b {w0 w w' : World} {N : Nat} {s a : Int} {xc : List Value} (h : PlAt w0 w N s a xc) (hN : N ≤ w.heap.size) (hb : Below w.heap.size w w') : PlAt w0 w' N s a xc :=
  ⟨(hb.block N (Array.getElem?_eq_some_iff.1 h.r).1).trans h.r, fun j u hu => Below.cell_some hb (h.x j u hu), (hb.block _ (Array.getElem?_eq_some_iff.1 h.out).1).trans h.out, h.below.trans (hb.mono hN)⟩
theorem PlAt.new (w : World) (s a : Int) (xc : List Value) : PlAt w (((w.alloc (.cells #[.int .i64 s, .int .i64 a] 67)).alloc (.cells xc.toArray 44)).alloc (.cells #[.int .i64 0, .slice none 0 0, .bool false] 70)) w.heap.size s a xc := by
  obtain ⟨w1, hw1⟩ : ∃ q, w.alloc (.cells #[.int .i64 s, .int .i64 a] 67) = q := ⟨_, rfl⟩
  have hr1 : w1.heap[w.heap.size]? = some (.cells #[.int .i64 s, .int .i64 a] 67 (0, 0)) := by rw [← hw1]; exact heap_alloc_new _ _
  have hz1 : w1.heap.size = w.heap.size + 1 := by rw [← hw1]; simp
  have hb1 : Below w.heap.size w w1 := by rw [← hw1]; exact (Below.refl _ _).alloc (Nat.le_refl _) _
  rw [hw1]
  obtain ⟨w2, hw2⟩ : ∃ q, w1.alloc (.cells xc.toArray 44) = q := ⟨_, rfl⟩
  have hx2 : ∀ j u, xc[j]? = some u → w2.cell? ⟨w.heap.size + 1, j, none⟩ = some u := fun j u hu => by
    rw [← hw2, ← hz1]
    have := (cell_new w1 xc.toArray 44 j).trans (by simpa using hu)
    rwa [Addr.add_lit, Nat.zero_add] at this
  have hz2 : w2.heap.size = w.heap.size + 2 := by rw [← hw2]; simp; omega
  have hb2 : Below w1.heap.size w1 w2 := by rw [← hw2]; exact (Below.refl _ _).alloc (Nat.le_refl _) _
  rw [hw2]
  have hb3 : Below w2.heap.size w2 (w2.alloc (.cells #[.int .i64 0, .slice none 0 0, .bool false] 70)) := (Below.refl _ _).alloc (Nat.le_refl _) _
  refine ⟨(hb3.block _ (by omega)).trans ((hb2.block _ (by omega)).trans hr1), fun j u hu => Below.cell_some hb3 (hx2 j u hu), ?_, (hb1.trans (hb2.mono (by omega))).trans (hb3.mono (by omega))⟩
  have := heap_alloc_new w2 (.cells #[.int .i64 0, .slice none 0 0, .bool false] 70)
  rwa [hz2] at this

set_option maxRecDepth 100000 in
set_option maxHeartbeats 1000000 in
theorem plan_no (s a : Int) (x : ObI) (sl : Value) (w : World) (hr : rightB s a = false) : Calls Try.prog 20 #[.agg #[.int .i64 s, .int .i64 a], .agg x.cells.toArray, sl] w fun e w' => e = .returned (.tuple #[.agg #[.int .i64 0, .slice none 0 0, .bool false], .int .i64 1]) ∧ Below w.heap.size w w' := by
  have he : errR s a = 1 := by unfold errR; rw [hr]; rfl
  obtain ⟨xc, hxe⟩ : ∃ c, x.cells = c := ⟨_, rfl⟩
  rw [hxe]
  clear hxe
  have hP := PlAt.new w s a xc
  obtain ⟨W, hW⟩ : ∃ W, (((w.alloc (.cells #[.int .i64 s, .int .i64 a] 67)).alloc (.cells xc.toArray 44)).alloc (.cells #[.int .i64 0, .slice none 0 0, .bool false] 70)) = W := ⟨_, rfl⟩
  rw [hW] at hP
  have hzW : W.heap.size = w.heap.size + 3 := by rw [← hW]; simp
  obtain ⟨N, hN⟩ : ∃ N, w.heap.size = N := ⟨_, rfl⟩
  rw [hN] at hP hzW
  have HP := Lib.hid hP
  have HC := Lib.hid (check35_any s a W)
  rw [he] at HC
  have c0 : W.cell? ⟨N, 0, none⟩ = some (.int .i64 s) := cell_of_row _ _ 0 _ _ _ hP.r
  have c1 : W.cell? ⟨N, 1, none⟩ = some (.int .i64 a) := cell_of_row _ _ 1 _ _ _ hP.r
  clear hP he hr
  go_enter Try.func20, Try.ntmps20
  go_wp2_with fail
  refine HC.out.mono ?_
  rintro e w2 ⟨rfl, hb2⟩
  have HP2 := Lib.hid (HP.out.b (by omega) hb2)
  have g0 : w2.cell? ⟨N + 2, 0, none⟩ = some (.int .i64 0) := cell_of_row _ _ 0 _ _ _ HP2.out.out
  have g1 : w2.cell? ⟨N + 2, 1, none⟩ = some (.slice none 0 0) := cell_of_row _ _ 1 _ _ _ HP2.out.out
  have g2 : w2.cell? ⟨N + 2, 2, none⟩ = some (.bool false) := cell_of_row _ _ 2 _ _ _ HP2.out.out
  have f0 := row_free HP2.out.out 0
  have f1 := row_free HP2.out.out 1
  have f2 := row_free HP2.out.out 2
  clear hb2 HC c0 c1 hW
  go_wp2_with fail
  have hO := HP2.out.out
  rw [show N + 2 = N + 1 + 1 from rfl] at hO
  obtain ⟨w3, hw3⟩ : ∃ q, ((w2.setCell ⟨N + 1 + 1, 0, none⟩ (.int .i64 0)).setCell ⟨N + 1 + 1, 1, none⟩ (.slice none 0 0)).setCell ⟨N + 1 + 1, 2, none⟩ (.bool false) = q := ⟨_, rfl⟩
  have hrow : w3.heap[N + 1 + 1]? = some (.cells #[.int .i64 0, .slice none 0 0, .bool false] 70 (0, 0)) := by rw [← hw3]; exact row_setCell (row_setCell (row_setCell hO _) _) _
  have HB3 : Hid (Below w.heap.size w w3) := by
    show Below _ _ _
    rw [hN, ← hw3]
    exact ((HP2.out.below.setCell (by show N ≤ N + 1 + 1; omega) _).setCell (by show N ≤ N + 1 + 1; omega) _).setCell (by show N ≤ N + 1 + 1; omega) _
  rw [hw3]
  have k0 : w3.cell? ⟨N + 1 + 1, 0, none⟩ = some (.int .i64 0) := cell_of_row _ _ 0 _ _ _ hrow
  have k1 : w3.cell? ⟨N + 1 + 1, 1, none⟩ = some (.slice none 0 0) := cell_of_row _ _ 1 _ _ _ hrow
  have k2 : w3.cell? ⟨N + 1 + 1, 2, none⟩ = some (.bool false) := cell_of_row _ _ 2 _ _ _ hrow
  exact bodyPost_ret (v := .tuple #[.agg #[.int .i64 0, .slice none 0 0, .bool false], .int .i64 1]) (by simp [results, Try.results20, go_sem, k0, k1, k2]) rfl ⟨rfl, HB3.out⟩
set_option maxRecDepth 100000 in
set_option maxHeartbeats 1000000 in
theorem plan_kind (s a : Int) (x : ObI) (sl : Value) (w : World) (hr : rightB s a = true) (hk : x.kd ≠ 0) : Calls Try.prog 20 #[.agg #[.int .i64 s, .int .i64 a], .agg x.cells.toArray, sl] w fun e w' => e = .returned (.tuple #[.agg #[.int .i64 0, .slice none 0 0, .bool false], .int .i64 17]) ∧ Below w.heap.size w w' := by
  have he : errR s a = 0 := by unfold errR; rw [hr]; rfl
  have hne : (x.kd != 0) = true := by simpa using hk
  have h0 := x.h0
  obtain ⟨xc, hxe⟩ : ∃ c, x.cells = c := ⟨_, rfl⟩
  rw [hxe] at h0 ⊢
  clear hxe hk
  have hP := PlAt.new w s a xc
  obtain ⟨W, hW⟩ : ∃ W, (((w.alloc (.cells #[.int .i64 s, .int .i64 a] 67)).alloc (.cells xc.toArray 44)).alloc (.cells #[.int .i64 0, .slice none 0 0, .bool false] 70)) = W := ⟨_, rfl⟩
  rw [hW] at hP
  have hzW : W.heap.size = w.heap.size + 3 := by rw [← hW]; simp
  obtain ⟨N, hN⟩ : ∃ N, w.heap.size = N := ⟨_, rfl⟩
  rw [hN] at hP hzW
  have HP := Lib.hid hP
  have HC := Lib.hid (check35_any s a W)
  rw [he] at HC
  have c0 : W.cell? ⟨N, 0, none⟩ = some (.int .i64 s) := cell_of_row _ _ 0 _ _ _ hP.r
  have c1 : W.cell? ⟨N, 1, none⟩ = some (.int .i64 a) := cell_of_row _ _ 1 _ _ _ hP.r
  clear hP he hr
  go_enter Try.func20, Try.ntmps20
  go_wp2_with fail
  refine HC.out.mono ?_
  rintro e w2 ⟨rfl, hb2⟩
  have HP2 := Lib.hid (HP.out.b (by omega) hb2)
  have g0 : w2.cell? ⟨N + 2, 0, none⟩ = some (.int .i64 0) := cell_of_row _ _ 0 _ _ _ HP2.out.out
  have g1 : w2.cell? ⟨N + 2, 1, none⟩ = some (.slice none 0 0) := cell_of_row _ _ 1 _ _ _ HP2.out.out
  have g2 : w2.cell? ⟨N + 2, 2, none⟩ = some (.bool false) := cell_of_row _ _ 2 _ _ _ HP2.out.out
  have x0 : w2.cell? ⟨N + 1, 0, none⟩ = some (.int .i64 x.kd) := HP2.out.x 0 _ h0
  have f0 := row_free HP2.out.out 0
  have f1 := row_free HP2.out.out 1
  have f2 := row_free HP2.out.out 2
  clear hb2 HC c0 c1 hW
  go_wp2_with fail
  have hO := HP2.out.out
  rw [show N + 2 = N + 1 + 1 from rfl] at hO
  obtain ⟨w3, hw3⟩ : ∃ q, ((w2.setCell ⟨N + 1 + 1, 0, none⟩ (.int .i64 0)).setCell ⟨N + 1 + 1, 1, none⟩ (.slice none 0 0)).setCell ⟨N + 1 + 1, 2, none⟩ (.bool false) = q := ⟨_, rfl⟩
  have hrow : w3.heap[N + 1 + 1]? = some (.cells #[.int .i64 0, .slice none 0 0, .bool false] 70 (0, 0)) := by rw [← hw3]; exact row_setCell (row_setCell (row_setCell hO _) _) _
  have HB3 : Hid (Below w.heap.size w w3) := by
    show Below _ _ _
    rw [hN, ← hw3]
    exact ((HP2.out.below.setCell (by show N ≤ N + 1 + 1; omega) _).setCell (by show N ≤ N + 1 + 1; omega) _).setCell (by show N ≤ N + 1 + 1; omega) _
  rw [hw3]
  have k0 : w3.cell? ⟨N + 1 + 1, 0, none⟩ = some (.int .i64 0) := cell_of_row _ _ 0 _ _ _ hrow
  have k1 : w3.cell? ⟨N + 1 + 1, 1, none⟩ = some (.slice none 0 0) := cell_of_row _ _ 1 _ _ _ hrow
  have k2 : w3.cell? ⟨N + 1 + 1, 2, none⟩ = some (.bool false) := cell_of_row _ _ 2 _ _ _ hrow
  exact bodyPost_ret (v := .tuple #[.agg #[.int .i64 0, .slice none 0 0, .bool false], .int .i64 17]) (by simp [results, Try.results20, go_sem, k0, k1, k2]) rfl ⟨rfl, HB3.out⟩
end Go.Proofs.Ytpbppgfogepjeaa
