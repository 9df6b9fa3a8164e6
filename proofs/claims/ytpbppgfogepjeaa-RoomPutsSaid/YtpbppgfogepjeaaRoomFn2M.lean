/- The contracts of label.Match and label.Tolerates. Condition: the rows read. || The contracts of room's add, less, Left, May, Fits, Put and Take. Condition: the numbers don't pass the greatest one; the node's and the pod's rows read. || The contracts of room's Fits, Put and Take. Condition: the numbers don't pass the greatest one; the node's and the pod's rows read. -/
import Derived.Test.YtpbppgfogepjeaaLabM
import Derived.Test.YtpbppgfogepjeaaRefLabelM
import Derived.Test.YtpbppgfogepjeaaShapesM
namespace Go.Proofs.Ytpbppgfogepjeaa
open Go.ChangeShapes Go.WideShapes Go.ChangeAt Go.RowKit Go.Deep


set_option maxHeartbeats 1000000 in
theorem match_any (l : List Label) (rs : List Require) (ao bo : Option Addr) (la ca lb cb : Nat) (w : World) (hS : SlR (Flat Label.cells) 2 w ao la ca l) (hR : SlR (Flat Require.cells) 3 w bo lb cb rs) :
    Calls Try.prog 88 #[.slice ao la ca, .slice bo lb cb] w fun e w' => e = .returned (.bool (rs.all (holdsL l))) ∧ Below w.heap.size w w' := by
  have ha := hR.hmax; have hac := hR.hcap
  unfold maxLen at ha
  go_enter Try.func88, Try.ntmps88
  go_wp2_with fail
  go_loopw [9] (fun i wr => ∃ k : Nat, k ≤ lb ∧ i = .int .i64 k ∧ Hid (rs.all (holdsL l) = (rs.drop k).all (holdsL l)) ∧ Below w.heap.size w wr) (fun i _ => lb - (intOf i).toNat)
  case atStart => exact ⟨0, Nat.zero_le _, rfl, rfl, Below.refl _ _⟩
  case round =>
    obtain ⟨k, hk, rfl, hf, hb⟩ := hrel
    by_cases hlt : k < lb
    · obtain ⟨b, off, rfl⟩ := hR.ptr (by decide) (by omega)
      have kx : k < rs.length := by have := hR.hlen; omega
      have hc := (hR.flatKeeps (Keeps.below hb)).flat kx
      have c0 := hc 0 _ rfl
      have c1 := hc 1 _ rfl
      have c2 := hc 2 _ rfl
      rw [Nat.add_zero] at c0
      have hbA := hb.alloc hb.size (.cells #[.string rs[k].key, .string rs[k].val, .int .i64 rs[k].op] 113)
      have hS1 := hS.flatKeeps (Keeps.below hbA)
      have hsz := hbA.size
      have Hb := Lib.hid hbA
      clear hc hb hbA
      obtain ⟨q, hq⟩ : ∃ q, holdsL l rs[k] = q := ⟨_, rfl⟩
      have Hq := Lib.hid hq
      clear hq
      cases q
      · go_wp2_with fail
        refine (holds_any l rs[k] _ _ _ _ hS1).mono ?_
        rintro e w2 ⟨he, hb2⟩
        rw [Hq.out] at he
        subst he
        have Hb2 := Lib.hid (Hb.out.trans (hb2.mono hsz))
        clear hb2
        go_wp2
        go_ret
        exact ⟨ret_bool (all_no kx Hq.out hf.out).symm, Hb2.out⟩
      · go_wp2_with fail
        refine (holds_any l rs[k] _ _ _ _ hS1).mono ?_
        rintro e w2 ⟨he, hb2⟩
        rw [Hq.out] at he
        subst he
        have Hb2 := Lib.hid (Hb.out.trans (hb2.mono hsz))
        clear hb2
        go_wp2
        go_roundw
        case rel => exact ⟨k + 1, by omega, by go_num, all_yes kx Hq.out hf.out, Hb2.out⟩
        case measure => simp [intOf]; omega
    · have He := Lib.hid (all_end (holdsL l) (xs := rs) (k := k) (by rw [hR.hlen]; omega))
      have Hb := Lib.hid hb
      clear hb
      go_wp2
      go_ret
      exact ⟨ret_bool (by rw [hf.out, He.out]), Hb.out⟩


def tolOne (t x : Label) : Bool := (x.key.toList == t.key.toList) && (x.val.toList.isEmpty || (x.val.toList == t.val.toList))
def tolL (ts xs : List Label) : Bool := ts.all fun t => xs.any (tolOne t)

set_option maxHeartbeats 3200000 in
theorem tolerates_any (ts xs : List Label) (ao bo : Option Addr) (la ca lb cb : Nat) (w : World) (hT : SlR (Flat Label.cells) 2 w ao la ca ts) (hX : SlR (Flat Label.cells) 2 w bo lb cb xs) :
    Calls Try.prog 89 #[.slice ao la ca, .slice bo lb cb] w fun e w' => e = .returned (.bool (tolL ts xs)) ∧ Below w.heap.size w w' := by
  have ha := hT.hmax; have hac := hT.hcap
  have hb := hX.hmax; have hbc := hX.hcap
  unfold maxLen at ha hb
  go_enter Try.func89, Try.ntmps89
  go_wp2_with fail
  go_step3
  go_wp2_with fail
  go_step3
  go_wp2_with fail
  go_loopw [11] (fun i wr => ∃ k : Nat, k ≤ la ∧ i = .int .i64 k ∧ Hid (tolL ts xs = (ts.drop k).all fun t => xs.any (tolOne t)) ∧ Below w.heap.size w wr) (fun i _ => la - (intOf i).toNat)
  case atStart => exact ⟨0, Nat.zero_le _, rfl, rfl, Below.refl _ _⟩
  case round =>
    obtain ⟨k, hk, rfl, hf, hbw⟩ := hrel
    obtain ⟨wq, rfl⟩ : ∃ wq : World, wq = wr := ⟨_, rfl⟩
    by_cases hlt : k < la
    · obtain ⟨b, off, rfl⟩ := hT.ptr (by decide) (by omega)
      have kt : k < ts.length := by have := hT.hlen; omega
      have hc := (hT.flatKeeps (Keeps.below hbw)).flat kt
      have c0 := hc 0 _ rfl
      have c1 := hc 1 _ rfl
      rw [Nat.add_zero] at c0
      obtain ⟨t, ht⟩ : ∃ t, t = ts[k] := ⟨_, rfl⟩
      rw [← ht] at c0 c1
      have Ht := Lib.hid ht
      have hbA := hbw.alloc hbw.size (.cells #[.string t.key, .string t.val] 110)
      have hsz := hbw.size
      have k0 : (wq.alloc (.cells #[.string t.key, .string t.val] 110)).cell? ⟨wq.heap.size, 0, none⟩ = some (.string t.key) := cell_new wq _ _ 0
      have k1 : (wq.alloc (.cells #[.string t.key, .string t.val] 110)).cell? ⟨wq.heap.size, 1, none⟩ = some (.string t.val) := cell_new wq _ _ 1
      clear hc ht hbw
      go_wp2_with fail
      obtain ⟨wo, hwo⟩ : ∃ wo : World, wo = wq.alloc (.cells #[.string t.key, .string t.val] 110) := ⟨_, rfl⟩
      rw [← hwo] at hbA k0 k1 ⊢
      have hB : wq.heap.size < wo.heap.size := by rw [hwo]; simp
      clear hwo c0 c1
      go_loopw [17] (fun i wi => ∃ j : Nat, j ≤ lb ∧ i = .int .i64 j ∧ Hid (xs.any (tolOne t) = (xs.drop j).any (tolOne t)) ∧ Below wo.heap.size wo wi) (fun i _ => lb - (intOf i).toNat)
      case atStart => exact ⟨0, Nat.zero_le _, rfl, rfl, Below.refl _ _⟩
      case round =>
        obtain ⟨j, hj, rfl, hg, hbi⟩ := hrel
        by_cases hjt : j < lb
        · obtain ⟨b2, off2, rfl⟩ := hX.ptr (by decide) (by omega)
          have kx : j < xs.length := by have := hX.hlen; omega
          have hc := ((hX.flatKeeps (Keeps.below hbA)).flatKeeps (Keeps.below hbi)).flat kx
          have c0 := hc 0 _ rfl
          have c1 := hc 1 _ rfl
          rw [Nat.add_zero] at c0
          obtain ⟨x, hx⟩ : ∃ x, x = xs[j] := ⟨_, rfl⟩
          rw [← hx] at c0 c1
          have Hx := Lib.hid hx
          have j0 := Below.cell_some hbi k0
          have j1 := Below.cell_some hbi k1
          have hsi := hbi.size
          have hne : wq.heap.size < wr.heap.size := by omega
          have hbB := hbi.alloc hbi.size (.cells #[.string x.key, .string x.val] 110)
          have HbB := Lib.hid hbB
          clear hc hx hbi hbB k0 k1
          cases e1 : (x.key.toList == t.key.toList)
          · have hno : Hid (tolOne t xs[j] = false) := by rw [← Hx.out]; show _ = false; simp only [tolOne, e1, Bool.false_and]
            go_wp2
            go_roundw
            case rel => exact ⟨j + 1, by omega, by go_num, any_no kx hno.out hg.out, HbB.out⟩
            case measure => simp [intOf]; omega
          · cases e2 : x.val.toList.isEmpty
            · cases e3 : (x.val.toList == t.val.toList)
              · have hno : Hid (tolOne t xs[j] = false) := by rw [← Hx.out]; show _ = false; simp only [tolOne, e1, e2, e3, Bool.and_false, Bool.or_false]
                go_wp2
                go_roundw
                case rel => exact ⟨j + 1, by omega, by go_num, any_no kx hno.out hg.out, HbB.out⟩
                case measure => simp [intOf]; omega
              · have hyes : Hid (tolOne t xs[j] = true) := by rw [← Hx.out]; show _ = true; simp only [tolOne, e1, e2, e3, Bool.and_true, Bool.or_true]
                go_wp2
                go_roundw
                case rel => exact ⟨k + 1, by omega, by go_num, all_yes kt (by rw [← Ht.out]; exact any_yes kx hyes.out hg.out) hf.out, hbA.trans (HbB.out.mono hbA.size)⟩
                case measure => simp [intOf]; omega
            · have hyes : Hid (tolOne t xs[j] = true) := by rw [← Hx.out]; show _ = true; simp only [tolOne, e1, e2, Bool.and_true, Bool.true_or]
              go_wp2
              go_roundw
              case rel => exact ⟨k + 1, by omega, by go_num, all_yes kt (by rw [← Ht.out]; exact any_yes kx hyes.out hg.out) hf.out, hbA.trans (HbB.out.mono hbA.size)⟩
              case measure => simp [intOf]; omega
        · have He := Lib.hid (any_end (tolOne t) (xs := xs) (k := j) (by rw [hX.hlen]; omega))
          have Hb := Lib.hid hbi
          clear hbi
          go_wp2
          rw [Exit.noGoto_ret]
          go_ret
          exact ⟨ret_bool (all_no kt (by rw [← Ht.out, hg.out, He.out]) hf.out).symm, hbA.trans (Hb.out.mono hbA.size)⟩
    · have He := Lib.hid (all_end (fun t => xs.any (tolOne t)) (xs := ts) (k := k) (by rw [hT.hlen]; omega))
      have Hb := Lib.hid hbw
      clear hbw
      go_wp2
      rw [Exit.noGoto_ret]
      go_ret
      exact ⟨ret_bool (by rw [hf.out, He.out]), Hb.out⟩
end Go.Proofs.Ytpbppgfogepjeaa
namespace Go.Proofs.Ytpbppgfogepjeaa
open Go.ChangeShapes Go.WideShapes Go.ChangeAt Go.RowKit Go.Deep

def In60 (x : Int) : Prop := 0 ≤ x ∧ x ≤ 1152921504606846976

set_option maxRecDepth 100000 in
theorem radd_any (a b c d : Int) (w : World) (ha : In60 a) (hb : In60 b) (hc : In60 c) (hd : In60 d) :
    Calls Try.prog 45 #[.agg #[.int .i64 a, .int .i64 b], .agg #[.int .i64 c, .int .i64 d]] w fun e w' => e = .returned (.agg #[.int .i64 (min (a + c) 1152921504606846976), .int .i64 (min (b + d) 1152921504606846976)]) ∧ Below w.heap.size w w' := by
  obtain ⟨s, hs⟩ : ∃ s, a + c = s := ⟨_, rfl⟩
  obtain ⟨t, ht⟩ : ∃ t, b + d = t := ⟨_, rfl⟩
  have g1 : IntKind.i64.wrap s = s := IntWalk.i64_in _ (by unfold In60 at *; omega)
  have g2 : IntKind.i64.wrap t = t := IntWalk.i64_in _ (by unfold In60 at *; omega)
  clear ha hb hc hd
  go_enter Try.func45, Try.ntmps45
  go_wp2_with fail
  exact bodyPost_ret (v := .agg #[.int .i64 (min s 1152921504606846976), .int .i64 (min t 1152921504606846976)]) (by simp [results, Try.results45, go_sem]) rfl ⟨by rw [hs, ht], (((Below.refl _ _).alloc (Nat.le_refl _) _).alloc (by simp) _).alloc (by simp; omega) _⟩

set_option maxRecDepth 100000 in
theorem rless_any (a b c d : Int) (w : World) (ha : In60 a) (hb : In60 b) (hc : In60 c) (hd : In60 d) :
    Calls Try.prog 47 #[.agg #[.int .i64 a, .int .i64 b], .agg #[.int .i64 c, .int .i64 d]] w fun e w' => e = .returned (.agg #[.int .i64 (max (a - c) 0), .int .i64 (max (b - d) 0)]) ∧ Below w.heap.size w w' := by
  obtain ⟨s, hs⟩ : ∃ s, a - c = s := ⟨_, rfl⟩
  obtain ⟨t, ht⟩ : ∃ t, b - d = t := ⟨_, rfl⟩
  have g1 : IntKind.i64.wrap s = s := IntWalk.i64_in _ (by unfold In60 at *; omega)
  have g2 : IntKind.i64.wrap t = t := IntWalk.i64_in _ (by unfold In60 at *; omega)
  clear ha hb hc hd
  go_enter Try.func47, Try.ntmps47
  go_wp2_with fail
  exact bodyPost_ret (v := .agg #[.int .i64 (max s 0), .int .i64 (max t 0)]) (by simp [results, Try.results47, go_sem]) rfl ⟨by rw [hs, ht], (((Below.refl _ _).alloc (Nat.le_refl _) _).alloc (by simp) _).alloc (by simp; omega) _⟩

theorem block_at {w : World} {b : Nat} {cs : Array Value} {t : TypeId} (h : w.heap[b]? = some (.cells cs t (0, 0))) {i : Nat} {n : Nat} (l : List Value) (hl : l = (cs.toList.drop i).take n) : ∀ j u, l[j]? = some u → w.cell? ((⟨b, i, none⟩ : Addr).add j) = some u := fun j u hu => by
  rw [Addr.add_lit, cell_of_row _ b _ _ _ (0, 0) h]
  rw [hl] at hu
  rw [List.getElem?_take] at hu
  split at hu
  · rw [List.getElem?_drop] at hu
    simpa using hu
  · cases hu

theorem two_set {w : World} {b : Nat} {t : TypeId} {x0 x1 : Value} (h : w.heap[b]? = some (.cells #[x0, x1] t (0, 0))) (y0 y1 : Value) : ((w.setCell ⟨b, 0, none⟩ y0).setCell ⟨b, 1, none⟩ y1).heap[b]? = some (.cells #[y0, y1] t (0, 0)) := row_setCell (row_setCell h _) _
def RoomI.left (r : RoomI) : Int × Int := (max (r.n.cpu - r.cpu) 0, max (r.n.mem - r.mem) 0)
structure RoomI.In (r : RoomI) : Prop where
  ncpu : In60 r.n.cpu
  nmem : In60 r.n.mem
  cpu : In60 r.cpu
  mem : In60 r.mem

set_option maxRecDepth 100000 in
theorem rleft_any (r : RoomI) (w : World) (hr : r.In) :
    Calls Try.prog 17 #[.agg r.cells.toArray] w fun e w' => e = .returned (.agg #[.int .i64 r.left.1, .int .i64 r.left.2]) ∧ Below w.heap.size w w' := by
  obtain ⟨w1, hw1⟩ : ∃ w1, w.alloc (.cells r.cells.toArray 57) = w1 := ⟨_, rfl⟩
  obtain ⟨w2, hw2⟩ : ∃ w2, w1.alloc (.cells #[.int .i64 0, .int .i64 0] 25) = w2 := ⟨_, rfl⟩
  have hb1 : Below w.heap.size w w1 := by rw [← hw1]; exact (Below.refl _ _).alloc (Nat.le_refl _) _
  have hb12 : Below w1.heap.size w1 w2 := by rw [← hw2]; exact (Below.refl _ _).alloc (Nat.le_refl _) _
  have hb2 : Below w.heap.size w w2 := hb1.trans (hb12.mono hb1.size)
  obtain ⟨N, hN⟩ : ∃ N, w.heap.size = N := ⟨_, rfl⟩
  have hN1 : w1.heap.size = N + 1 := by rw [← hw1, ← hN]; simp
  have hN2 : w2.heap.size = N + 2 := by rw [← hw2]; simp [hN1]
  have hr1 : w2.heap[N]? = some (.cells r.cells.toArray 57 (0, 0)) := (hb12.block N (by omega)).trans (by rw [← hw1, ← hN]; exact heap_alloc_new _ _)
  have hr2 : w2.heap[N + 1]? = some (.cells #[.int .i64 0, .int .i64 0] 25 (0, 0)) := by rw [← hw2, ← hN1]; exact heap_alloc_new _ _
  have ca := block_at hr1 (i := 2) (n := 2) [.int .i64 r.n.cpu, .int .i64 r.n.mem] rfl
  have cb := block_at hr1 (i := 8) (n := 2) [.int .i64 r.cpu, .int .i64 r.mem] rfl
  have HL := Lib.hid (fun wx => rless_any r.n.cpu r.n.mem r.cpu r.mem wx hr.ncpu hr.nmem hr.cpu hr.mem)
  obtain ⟨x, hx⟩ : ∃ x, max (r.n.cpu - r.cpu) 0 = x := ⟨_, rfl⟩
  obtain ⟨y, hy⟩ : ∃ y, max (r.n.mem - r.mem) 0 = y := ⟨_, rfl⟩
  have hle : r.left = (x, y) := by unfold RoomI.left; rw [hx, hy]
  rw [hx, hy] at HL
  rw [hle]
  have HR2 := Lib.hid hr2
  have H2 := Lib.hid hb2
  clear hr hx hy hle hb1 hb12 hb2 hr1 hr2
  unfold RoomI.cells at hw1 ⊢
  go_enter Try.func17, Try.ntmps17
  go_wp2_with (first
    | ((with_reducible refine at_slot 5 ?_); go_must (refine wpList_load_at aggRes rfl _ rfl ⟨N, 2, none⟩ rfl _ rfl ca ?_))
    | ((with_reducible refine at_slot 7 ?_); go_must (refine wpList_load_at aggRes rfl _ rfl ⟨N, 8, none⟩ rfl _ rfl cb ?_)))
  refine (HL.out _).mono ?_
  rintro e w3 ⟨rfl, hb3⟩
  have hr3 := (hb3.block (N + 1) (by omega)).trans HR2.out
  have k0 := cell_of_row w3 (N + 1) 0 _ _ _ hr3
  have k1 := cell_of_row w3 (N + 1) 1 _ _ _ hr3
  simp at k0 k1
  have f0 := row_free hr3 0
  have f1 := row_free hr3 1
  have H3 := Lib.hid (H2.out.trans (hb3.mono (by omega)))
  clear hb3 ca cb
  go_wp2_with fail
  have hf := two_set hr3 (.int .i64 x) (.int .i64 y)
  have q0 := cell_of_row _ (N + 1) 0 _ _ _ hf
  have q1 := cell_of_row _ (N + 1) 1 _ _ _ hf
  simp at q0 q1
  exact bodyPost_ret (v := .agg #[.int .i64 x, .int .i64 y]) (by simp [results, Try.results17, go_sem, q0, q1]) rfl ⟨rfl, (H3.out.setCell (p := ⟨N + 1, 0, none⟩) (by simp; omega) _).setCell (p := ⟨N + 1, 1, none⟩) (by simp; omega) _⟩

def PodV.vals (p : PodV) : List Value := [.string p.owner, .string p.node, .int .i64 p.phase, .int .i64 p.since, .int .i64 p.cpu, .int .i64 p.mem, .slice p.L.ao p.L.la p.L.ca, .slice p.S.ao p.S.la p.S.ca, .slice p.T.ao p.T.la p.T.ca, .int .i64 p.warm]
structure RP (w0 w : World) (N : Nat) (r : RoomI) (p : PodV) : Prop where
  room : w.heap[N]? = some (.cells r.cells.toArray 57 (0, 0))
  pod : w.heap[N + 1]? = some (.cells p.vals.toArray 31 (0, 0))
  below : Below N w0 w
  size : N + 2 ≤ w.heap.size
theorem RP.b {w0 w w' : World} {N : Nat} {r : RoomI} {p : PodV} (h : RP w0 w N r p) (hb : Below w.heap.size w w') : RP w0 w' N r p :=
  ⟨(hb.block N (by have := h.size; omega)).trans h.room, (hb.block (N + 1) (by have := h.size; omega)).trans h.pod, h.below.trans (hb.mono (by have := h.size; omega)), Nat.le_trans h.size hb.size⟩
theorem RP.new (w : World) (r : RoomI) (p : PodV) : RP w ((w.alloc (.cells r.cells.toArray 57)).alloc (.cells p.vals.toArray 31)) w.heap.size r p := by
  refine ⟨?_, ?_, ((Below.refl _ _).alloc (Nat.le_refl _) _).alloc (by simp) _, by simp⟩
  · exact (Below.heap_alloc _ _ _ (by simp)).trans (heap_alloc_new _ _)
  · have := heap_alloc_new (w.alloc (.cells r.cells.toArray 57)) (.cells p.vals.toArray 31)
    rwa [World.size_alloc] at this
def mayB (n : NodeV) (p : PodV) : Bool := !n.closed && (p.S.xs.all (holdsL n.L.xs) && tolL n.T.xs p.T.xs)

set_option maxRecDepth 100000 in
theorem rmay_any (r : RoomI) (p : PodV) (w : World) (hN : NodeAt w r.n) (hP : PodAt w p) :
    Calls Try.prog 46 #[.agg r.cells.toArray, .agg p.vals.toArray] w fun e w' => e = .returned (.bool (mayB r.n p)) ∧ Below w.heap.size w w' := by
  obtain ⟨w2, hw2⟩ : ∃ w2, (w.alloc (.cells r.cells.toArray 57)).alloc (.cells p.vals.toArray 31) = w2 := ⟨_, rfl⟩
  have hRP := RP.new w r p
  rw [hw2] at hRP
  obtain ⟨N, hNs⟩ : ∃ N, w.heap.size = N := ⟨_, rfl⟩
  have hb2 : Below w.heap.size w w2 := hRP.below
  rw [hNs] at hRP
  have k7 := cell_of_row w2 N 7 _ _ _ hRP.room
  have k4 := cell_of_row w2 N 4 _ _ _ hRP.room
  have p7 := cell_of_row w2 (N + 1) 7 _ _ _ hRP.pod
  simp only [RoomI.cells, PodV.vals, List.getElem?_toArray, List.getElem?_cons_succ, List.getElem?_cons_zero] at k7 k4 p7
  have HM := Lib.hid (match_any r.n.L.xs p.S.xs r.n.L.ao p.S.ao r.n.L.la r.n.L.ca p.S.la p.S.ca w2 (hN.b hb2).L (hP.b hb2).S)
  have HT : Hid (∀ wx : World, Below w2.heap.size w2 wx → _) := fun wx hb => tolerates_any r.n.T.xs p.T.xs r.n.T.ao p.T.ao r.n.T.la r.n.T.ca p.T.la p.T.ca wx ((hN.b hb2).b hb).T ((hP.b hb2).b hb).T
  have H2 := Lib.hid hb2
  have HR := Lib.hid hRP
  clear hN hP hb2 hRP
  unfold mayB
  obtain ⟨cl, hcl⟩ : ∃ c, r.n.closed = c := ⟨_, rfl⟩
  obtain ⟨m, hm⟩ : ∃ c, p.S.xs.all (holdsL r.n.L.xs) = c := ⟨_, rfl⟩
  obtain ⟨t, ht⟩ : ∃ c, tolL r.n.T.xs p.T.xs = c := ⟨_, rfl⟩
  rw [hm] at HM
  rw [ht] at HT
  rw [hcl, hm, ht]
  rw [hcl] at k7
  clear hm ht hcl
  unfold RoomI.cells PodV.vals at hw2 ⊢
  go_enter Try.func46, Try.ntmps46
  cases cl
  · go_wp2_with fail
    refine HM.out.mono ?_
    rintro e w3 ⟨rfl, hb3⟩
    have HR3 := Lib.hid (HR.out.b hb3)
    have HT3 := Lib.hid (HT.out w3 hb3)
    have H3 := Lib.hid (H2.out.trans (hb3.mono H2.out.size))
    have q5 := cell_of_row w3 N 5 _ _ _ HR3.out.room
    have p8 := cell_of_row w3 (N + 1) 8 _ _ _ HR3.out.pod
    simp only [RoomI.cells, PodV.vals, List.getElem?_toArray, List.getElem?_cons_succ, List.getElem?_cons_zero] at q5 p8
    clear hb3 HM HT k7 k4 p7
    cases m
    · go_wp2_with fail
      go_ret
      exact ⟨rfl, H3.out⟩
    · go_wp2_with fail
      refine HT3.out.mono ?_
      rintro e w4 ⟨rfl, hb4⟩
      have H4 := Lib.hid (H3.out.trans (hb4.mono H3.out.size))
      clear hb4
      go_wp2_with fail
      go_ret
      exact ⟨rfl, H4.out⟩
  · go_wp2_with fail
    go_ret
    exact ⟨rfl, H2.out⟩
end Go.Proofs.Ytpbppgfogepjeaa
namespace Go.Proofs.Ytpbppgfogepjeaa
open Go.ChangeShapes Go.WideShapes Go.ChangeAt Go.RowKit Go.Deep

def fitsB (r : RoomI) (p : PodV) : Bool := mayB r.n p && (decide (p.cpu ≤ r.left.1) && decide (p.mem ≤ r.left.2))
theorem RP.roomAt {w0 w : World} {N : Nat} {r : RoomI} {p : PodV} (h : RP w0 w N r p) : ∀ j u, r.cells[j]? = some u → w.cell? ((⟨N, 0, none⟩ : Addr).add j) = some u := block_at h.room (i := 0) (n := 11) r.cells rfl
theorem RP.podAt {w0 w : World} {N : Nat} {r : RoomI} {p : PodV} (h : RP w0 w N r p) : ∀ j u, p.vals[j]? = some u → w.cell? ((⟨N + 1, 0, none⟩ : Addr).add j) = some u := block_at h.pod (i := 0) (n := 10) p.vals rfl

set_option maxRecDepth 100000 in
set_option maxHeartbeats 1000000 in
theorem rfits_any (r : RoomI) (p : PodV) (w : World) (hN : NodeAt w r.n) (hP : PodAt w p) (hI : r.In) :
    Calls Try.prog 16 #[.agg r.cells.toArray, .agg p.vals.toArray] w fun e w' => e = .returned (.bool (fitsB r p)) ∧ Below w.heap.size w w' := by
  obtain ⟨w2, hw2⟩ : ∃ w2, (w.alloc (.cells r.cells.toArray 57)).alloc (.cells p.vals.toArray 31) = w2 := ⟨_, rfl⟩
  have hRP := RP.new w r p
  rw [hw2] at hRP
  have hsz2 : w2.heap.size = w.heap.size + 2 := by rw [← hw2]; simp
  obtain ⟨N, hNs⟩ : ∃ N, w.heap.size = N := ⟨_, rfl⟩
  have hb2 : Below w.heap.size w w2 := hRP.below
  rw [hNs] at hRP hsz2
  have HL := Lib.hid (fun wx => rleft_any r wx hI)
  have HM : Hid (∀ wx : World, Below w.heap.size w wx → _) := fun wx hb => rmay_any r p wx (hN.b hb) (hP.b hb)
  have H2 := Lib.hid hb2
  have HR := Lib.hid hRP
  have cr := HR.out.roomAt
  clear hN hP hb2 hRP hI
  unfold fitsB
  obtain ⟨lc, hlc⟩ : ∃ c, r.left.1 = c := ⟨_, rfl⟩
  obtain ⟨lm, hlm⟩ : ∃ c, r.left.2 = c := ⟨_, rfl⟩
  obtain ⟨mb, hmb⟩ : ∃ c, mayB r.n p = c := ⟨_, rfl⟩
  rw [hlc, hlm] at HL
  rw [hmb] at HM
  rw [hlc, hlm, hmb]
  clear hlc hlm hmb
  obtain ⟨rc, hrc⟩ : ∃ l, r.cells = l := ⟨_, rfl⟩
  obtain ⟨pc, hpc⟩ : ∃ l, p.vals = l := ⟨_, rfl⟩
  have hrl : rc.length = 11 := by rw [← hrc]; rfl
  have hpl : pc.length = 10 := by rw [← hpc]; rfl
  have hro : rc.all (fun u => u.oneCell') = true := by rw [← hrc]; rfl
  have hpo : pc.all (fun u => u.oneCell') = true := by rw [← hpc]; rfl
  have Hrc := Lib.hid hrc
  have Hpc := Lib.hid hpc
  rw [hrc] at cr HL HM hw2
  rw [hpc] at HM hw2
  rw [hrc, hpc]
  clear hrc hpc
  go_enter Try.func16, Try.ntmps16
  go_wp2_with (first
    | ((with_reducible refine at_slot 6 ?_); go_must (refine wpList_load_at aggRoom rfl _ rfl ⟨N, 0, none⟩ rfl rc hrl cr ?_)))
  refine (HL.out _).mono ?_
  rintro e w3 ⟨rfl, hb3⟩
  have HR3 := Lib.hid (HR.out.b hb3)
  have H3 := Lib.hid (H2.out.trans (hb3.mono H2.out.size))
  obtain ⟨w4, hw4⟩ : ∃ w4, w3.alloc (.cells #[.int .i64 lc, .int .i64 lm] 25) = w4 := ⟨_, rfl⟩
  have hb4 : Below w3.heap.size w3 w4 := by rw [← hw4]; exact (Below.refl _ _).alloc (Nat.le_refl _) _
  obtain ⟨lb, hlb⟩ : ∃ lb, w3.heap.size = lb := ⟨_, rfl⟩
  have hrl4 : w4.heap[lb]? = some (.cells #[.int .i64 lc, .int .i64 lm] 25 (0, 0)) := by rw [← hw4, ← hlb]; exact heap_alloc_new _ _
  have HR4 := Lib.hid (HR3.out.b hb4)
  have H4 := Lib.hid (H3.out.trans (hb4.mono H3.out.size))
  have HL4 := Lib.hid hrl4
  have cr4 := HR4.out.roomAt
  have cp4 := HR4.out.podAt
  rw [Hrc.out] at cr4
  rw [Hpc.out] at cp4
  clear hb3 hb4 cr HL hrl4
  go_wp2_with (first
    | ((with_reducible refine at_slot 8 ?_); go_must (refine wpList_load_at aggRoom rfl _ rfl ⟨N, 0, none⟩ rfl rc hrl cr4 ?_))
    | ((with_reducible refine at_slot 9 ?_); go_must (refine wpList_load_at aggPod rfl _ rfl ⟨N + 1, 0, none⟩ rfl pc hpl cp4 ?_)))
  refine (HM.out _ H4.out).mono ?_
  rintro e w5 ⟨rfl, hb5⟩
  have hlb4 : lb < w4.heap.size := (Array.getElem?_eq_some_iff.1 HL4.out).1
  have hrl5 := (hb5.block lb hlb4).trans HL4.out
  have HR5 := HR4.out.b hb5
  have H5 := Lib.hid (H4.out.trans (hb5.mono H4.out.size))
  have l0 := cell_of_row w5 lb 0 _ _ _ hrl5
  have l1 := cell_of_row w5 lb 1 _ _ _ hrl5
  have p4 := cell_of_row w5 (N + 1) 4 _ _ _ HR5.pod
  have p5 := cell_of_row w5 (N + 1) 5 _ _ _ HR5.pod
  simp only [PodV.vals, List.getElem?_toArray, List.getElem?_cons_succ, List.getElem?_cons_zero] at p4 p5 l0 l1
  clear hb5 HM cr4 cp4 HR5 hrl5 hlb4
  cases mb
  · go_wp2_with fail
    go_ret
    exact ⟨rfl, H5.out⟩
  · obtain ⟨d1, hd1⟩ : ∃ d, decide (p.cpu ≤ lc) = d := ⟨_, rfl⟩
    obtain ⟨d2, hd2⟩ : ∃ d, decide (p.mem ≤ lm) = d := ⟨_, rfl⟩
    cases d1
    · go_wp2_with fail
      go_ret
      exact ⟨by rw [hd1]; rfl, H5.out⟩
    · go_wp2_with fail
      go_ret
      exact ⟨by rw [hd1, hd2]; rfl, H5.out⟩
end Go.Proofs.Ytpbppgfogepjeaa
