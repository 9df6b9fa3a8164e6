/- LeasePlays holds: for every input the law returns true. No condition. -/
import Derived.Test.YtcgfjbbdadjegaaLeasePlaysLift
import Derived.Test.YtcgfjbbdadjegaaLeasePl
import Derived.IntWalk
import Derived.Test.YtcgfjbbdadjegaaHeadLit
namespace Go.Proofs.Ytcgfjbbdadjegaa
open Go.ChangeShapes Go.WideShapes Go.ChangeAt Go.RowKit Go.Deep Go.Maps

/-- What the round's head bears. -/
structure PlAt (w : World) (B : Nat) (b : Bd) (v : Value) (ls : List Lease) (k : Nat) : Prop where
  board : BoardAt w (B + 1) B b
  mod : ModAt w (B + 2) B v ls
  sync : Sync ls b
  len : ls.length ≤ k
  named : ∀ x ∈ ls, nameOf x.holder.data.toList = true ∧ nameOf x.name.data.toList = true

theorem PlAt.lt {w : World} {B : Nat} {b : Bd} {v : Value} {ls : List Lease} {k : Nat} (h : PlAt w B b v ls k) : B + 2 < w.heap.size := (Array.getElem?_eq_some_iff.1 h.mod.blk).1

theorem PlAt.below {w w' : World} {B : Nat} {b : Bd} {v : Value} {ls : List Lease} {k : Nat} (h : PlAt w B b v ls k) (hb : Below w.heap.size w w') : PlAt w' B b v ls k :=
  ⟨h.board.fr (Fr.of_below hb (fun _ => False)) id id, h.mod.fr (Fr.of_below hb (fun _ => False)) id (fun _ _ q => q), h.sync, h.len, h.named⟩

theorem PlAt.start {w w2 : World} (h2 : w2 = (w.alloc (.map #[] 0)).alloc (.cells #[.map (some w.heap.size)] 46)) :
    PlAt (w2.alloc (.cells #[.slice none 0 0] 29)) w.heap.size ⟨0, fun _ => none⟩ (.slice none 0 0) [] 0 ∧ Below w.heap.size w (w2.alloc (.cells #[.slice none 0 0] 29)) := by
  have hB := BoardAt.made w
  rw [← h2] at hB
  have hs : w2.heap.size = w.heap.size + 2 := by rw [h2]; simp
  refine ⟨⟨hB.fr ((Fr.refl (fun _ => False) w2).alloc _) id id, ⟨?_, World.ownsRow_nil _ _ _ _⟩, ⟨fun _ => rfl, List.nodup_nil, rfl⟩, Nat.le_refl _, fun _ h => by cases h⟩, ?_⟩
  · have := heap_alloc_new w2 (.cells #[.slice none 0 0] 29)
    rw [hs] at this
    exact this
  · rw [h2]
    exact (((Below.refl _ _).alloc (Nat.le_refl _) _).alloc (by simp) _).alloc (by simp; omega) _

theorem name_small {s : ByteArray} (h : nameOf s.data.toList = true) : s.size ≤ maxLen := by
  unfold nameOf at h
  simp only [Bool.and_eq_true, decide_eq_true_eq] at h
  have : s.size = s.data.toList.length := rfl
  unfold maxLen
  omega

theorem not_named {x : Lease} (h : nameOf x.holder.data.toList = true) : (x.holder.toList == (⟨#[63]⟩ : ByteArray).toList) = false := by
  rw [beq_eq_false_iff_ne]
  intro e
  have : x.holder = ⟨#[63]⟩ := toList_inj.1 e
  rw [this] at h
  revert h
  decide +kernel

theorem any_snoc {α : Type} (f : α → Bool) {xs : List α} {k : Nat} (h : k < xs.length) : (xs.take (k + 1)).any f = ((xs.take k).any f || f xs[k]) := by
  rw [List.take_succ_eq_append_getElem h, List.any_append]
  simp

theorem any_met {z : Lease} {ys : List Lease} (h : z ∈ ys) : ys.any (fun y => eqL y z) = true := List.any_eq_true.2 ⟨z, h, eqL_self z⟩

set_option maxRecDepth 100000 in
set_option maxHeartbeats 8000000 in
theorem leasePlays_core (acts : List Act36) (ao : Option Addr) (n cap : Nat) (w : World) (hS : SlR Act36R 5 w ao n cap acts) :
    Calls Try.prog 3 #[.slice ao n cap] w fun e w' => e = .returned (.bool true) ∧ Below w.heap.size w w' := by
  have hcm := hS.hmax
  have hlc := hS.hcap
  unfold maxLen at hcm
  go_enter Try.func3, Try.ntmps3
  go_wp2_with fail
  refine (lives36 w).mono ?_
  rintro e w1 ⟨rfl, hb1⟩
  by_cases hn : 60 < n
  · have hd : decide ((60 : Int) < (n : Int)) = true := decide_eq_true (by omega)
    have H1 := Lib.hid hb1
    clear hb1
    go_wp2_with fail
    refine (lives36 _).mono ?_
    rintro e w2 ⟨rfl, hb2⟩
    have H2 := Lib.hid (H1.out.trans (hb2.mono H1.out.size))
    clear hb2
    go_wp2_with fail
    go_ret
    exact ⟨rfl, H2.out⟩
  · have hd : decide ((60 : Int) < (n : Int)) = false := decide_eq_false (by omega)
    have hn' : n ≤ 60 := by omega
    clear hn
    have HS : Hid (SlR Act36R 5 w1 ao n cap acts) := hS.keeps (Keeps.below hb1) (fun _ _ h => h)
    have H1 := Lib.hid hb1
    clear hb1 hS
    go_wp2_with fail
    refine (newBoard_any w1).mono ?_
    rintro e w2 ⟨rfl, hw2⟩
    have HI := Lib.hid (PlAt.start hw2)
    have hs2 : w2.heap.size = w1.heap.size + 2 := by rw [hw2]; simp
    clear hw2
    go_wp2_with fail
    obtain ⟨m0, hm0⟩ : ∃ m, w1.heap.size = m := ⟨_, rfl⟩
    rw [hm0] at HI hs2 ⊢
    have hm0' := Lib.hid hm0
    clear hm0
    go_loopw [5, 32] (fun nw i wr => ∃ (k : Nat) (now : Int) (b : Bd) (v : Value) (ls : List Lease), k ≤ n ∧ i = .int .i64 k ∧ nw = .int .i64 now ∧ 0 ≤ now ∧ now ≤ 65535 * k ∧ Hid (PlAt wr m0 b v ls k ∧ Below m0 w1 wr)) (fun _ i _ => n - (intOf i).toNat)
    case atStart => exact ⟨0, 0, _, _, _, Nat.zero_le _, rfl, rfl, Int.le_refl _, by simp, HI⟩
    case round =>
      obtain ⟨k, now, b, v, ls, hk, rfl, rfl, hnow0, hnow1, hI⟩ := hrel
      have hmlt := hI.out.1.lt
      by_cases hlt : k < n
      · have hS := HS.out.keeps (Keeps.below (hI.out.2.mono (by rw [hm0'.out]; exact Nat.le_refl _))) (fun _ _ h => h)
        obtain ⟨b0, off, rfl⟩ := hS.ptr (by decide) (by omega)
        have kx : k < acts.length := by have := hS.hlen; omega
        obtain ⟨c, hcl, hcc, hcr⟩ := hS.cells kx
        obtain ⟨x, hx⟩ : ∃ x, acts[k] = x := ⟨_, rfl⟩
        rw [hx] at hcr
        obtain ⟨rfl, hxn, hxh, hst0, hst1⟩ := hcr
        have e0 := hcc 0 _ rfl
        have e1 := hcc 1 _ rfl
        have e2 := hcc 2 _ rfl
        have e3 := hcc 3 _ rfl
        have e4 := hcc 4 _ rfl
        rw [Nat.add_zero] at e0
        clear hcc hcl hS hx kx
        obtain ⟨kd, tk, st, nm, ho⟩ := x
        dsimp only at e0 e1 e2 e3 e4 hxn hxh hst0 hst1
        obtain ⟨wp, rfl⟩ : ∃ q : World, q = wr := ⟨_, rfl⟩
        have Hxn := Lib.hid hxn
        have Hxh := Lib.hid hxh
        clear hxn hxh
        by_cases hl1 : 60 < nm.size
        · have d1 : decide ((60 : Int) < (nm.size : Int)) = true := decide_eq_true (by omega)
          go_wp2_with fail
          go_ret
          exact ⟨rfl, H1.out.trans ((hI.out.2.mono (by rw [← hm0'.out]; exact H1.out.size)).alloc (by have := hI.out.2.size; have := H1.out.size; omega) _)⟩
        by_cases hl2 : 60 < ho.size
        · have d1 : decide ((60 : Int) < (nm.size : Int)) = false := decide_eq_false (by omega)
          have d2 : decide ((60 : Int) < (ho.size : Int)) = true := decide_eq_true (by omega)
          go_wp2_with fail
          go_ret
          exact ⟨rfl, H1.out.trans ((hI.out.2.mono (by rw [← hm0'.out]; exact H1.out.size)).alloc (by have := hI.out.2.size; have := H1.out.size; omega) _)⟩
        have d1 : decide ((60 : Int) < (nm.size : Int)) = false := decide_eq_false (by omega)
        have d2 : decide ((60 : Int) < (ho.size : Int)) = false := decide_eq_false (by omega)
        clear hl1 hl2
        go_wp2_with fail
        have ha := heap_alloc_new wp (.cells #[.int .i64 kd, .int .i64 tk, .int .u16 st, .string nm, .string ho] 32)
        have hB1 : BoardAt (wp.alloc (.cells #[.int .i64 kd, .int .i64 tk, .int .u16 st, .string nm, .string ho] 32)) (m0 + 1) m0 b := hI.out.1.board.fr ((Fr.refl (fun _ => False) wp).alloc _) id id
        have hF1 : Fr (fun _ => False) wp (wp.alloc (.cells #[.int .i64 kd, .int .i64 tk, .int .u16 st, .string nm, .string ho] 32)) := (Fr.refl _ wp).alloc _
        have hz1 : (wp.alloc (.cells #[.int .i64 kd, .int .i64 tk, .int .u16 st, .string nm, .string ho] 32)).heap.size = wp.heap.size + 1 := World.size_alloc _ _
        have hC := Lib.hid (boardCopy_any (m0 + 1) m0 b _ hB1)
        have Ha := Lib.hid ha
        have HF1 := Lib.hid hF1
        have Hz1 := Lib.hid hz1
        have hb512 : Hid (b.n ≤ 60) := by have := hI.out.1.sync.n; have := hI.out.1.len; show b.n ≤ 60; omega
        clear ha hB1 hF1 hz1
        refine hC.out.mono ?_
        rintro e w3 ⟨cb, cm, rfl, hB3, hs1, hs2', hb3⟩
        rw [Hz1.out] at hs1 hs2' hb3
        have hr3 := (hb3.block wp.heap.size (by omega)).trans Ha.out
        have hF3 : Fr (fun _ => False) wp w3 := HF1.out.then (by rw [Hz1.out]; exact hb3)
        obtain ⟨⟨⟨j0, j1, j2, j3⟩, e1, b1⟩, hp⟩ : ∃ p, takeOf b ⟨#[111, 116, 104, 101, 114]⟩ ⟨#[120]⟩ (now + st) 5 = p := ⟨_, rfl⟩
        have hT := Lib.hid (take_val hB3 (by decide) (by have := hb512.out; omega) hp)
        have Hr3 := Lib.hid hr3
        have HF3 := Lib.hid hF3
        have Hs := Lib.hid (And.intro hs1 hs2')
        clear hr3 hF3 hs1 hs2' hb3 hB3 hp hC Ha HF1 Hz1
        go_wp2_with fail
        refine hT.out.mono ?_
        rintro e w4 ⟨rfl, -, hF4⟩
        have hF : Fr (fun _ => False) wp w4 := HF3.out.trans hF4 (fun i (h : i = cm) => .inr (by have := Hs.out.2; omega))
        have hr4 := hF4.heap Hr3.out (by have := Hs.out.2; show ¬ wp.heap.size = cm; omega)
        obtain ⟨a0, a1, a2, a3, a4⟩ : w4.cell? ⟨wp.heap.size, 0, none⟩ = some (.int .i64 kd) ∧ w4.cell? ⟨wp.heap.size, 1, none⟩ = some (.int .i64 tk) ∧ w4.cell? ⟨wp.heap.size, 2, none⟩ = some (.int .u16 st) ∧ w4.cell? ⟨wp.heap.size, 3, none⟩ = some (.string nm) ∧ w4.cell? ⟨wp.heap.size, 4, none⟩ = some (.string ho) :=
          ⟨cell_of_row w4 _ 0 _ _ _ hr4, cell_of_row w4 _ 1 _ _ _ hr4, cell_of_row w4 _ 2 _ _ _ hr4, cell_of_row w4 _ 3 _ _ _ hr4, cell_of_row w4 _ 4 _ _ _ hr4⟩
        have hDo := do_any ⟨kd, tk, st, nm, ho⟩ (bb := m0 + 1) (bm := m0) (mb := m0 + 2) (B := m0) (b := b) (v := v) (ls := ls) (now := now + st) (w := w4)
          ⟨hI.out.1.board.fr hF id id, hI.out.1.mod.fr hF id (fun _ _ h => h), hI.out.1.sync, by have := hI.out.1.len; omega, by omega, by omega, Hxn.out, Hxh.out, by omega, Nat.le_refl _, by omega, by have := hF.size; omega⟩
        have HDo := Lib.hid hDo
        have HF := Lib.hid hF
        clear hDo hF hF4 hr4 hT HF3 Hr3 Hs
        go_wp2_with fail
        refine HDo.out.mono ?_
        rintro e w5 ⟨rfl, b2, ls2, v2, hB5, hM5, hS5, hl5, hn5, hb5⟩
        have hP5 : PlAt w5 m0 b2 v2 ls2 (k + 1) := ⟨hB5, hM5, hS5, by have := hI.out.1.len; omega, fun z hz => (hn5 z hz).elim (hI.out.1.named z) id⟩
        have hb5' : Below m0 w1 w5 := (hI.out.2.trans (HF.out.below (B := m0) (by omega) (fun _ h => h.elim))).trans hb5
        have hl60 : ls2.length ≤ 60 := by have := hP5.len; omega
        have hEn := ended_any (m0 + 1) m0 b2 (now + st) w5 hB5 hS5.key (by have := hS5.n; omega) (fun xs hA => by have := all_le hS5 hA; omega)
        have HEn := Lib.hid hEn
        have HP5 := Lib.hid hP5
        have Hb5 := Lib.hid hb5'
        have Hl60 := Lib.hid hl60
        clear hEn hP5 hb5' hl60 hB5 hM5 hS5 hl5 hn5 hb5 HDo a0 a1 a2 a3 a4
        go_wp2_with fail
        refine HEn.out.mono ?_
        rintro e w6 ⟨ae, ne, ce, ys, rfl, hSe, hEnd, hb6⟩
        have hF6 : Fr (fun _ => False) w5 w6 := Fr.of_below hb6 _
        have hP6 : PlAt w6 m0 b2 v2 ls2 (k + 1) := ⟨HP5.out.board.fr hF6 id id, HP5.out.mod.fr hF6 id (fun _ _ h => h), HP5.out.sync, HP5.out.len, HP5.out.named⟩
        have hb6' : Below m0 w1 w6 := Hb5.out.trans (hb6.mono (by have := HP5.out.lt; omega))
        obtain ⟨al, cl, rfl, hSl, -⟩ := SlR.of_owns hP6.mod.own rfl (fun x : Lease => (rfl : x.cells.length = 4))
        have c0 : w6.cell? ⟨m0 + 2, 0, none⟩ = some (.slice al ls2.length cl) := cell_of_row w6 (m0 + 2) 0 _ _ _ hP6.mod.blk
        obtain ⟨n2, hn2⟩ : ∃ q, ls2.length = q := ⟨_, rfl⟩
        rw [hn2] at c0
        have hSl2 := hSl
        rw [hn2] at hSl2
        have hq1 := hSl2.hcap
        have hq2 : n2 ≤ 60 := by have := Hl60.out; omega
        have hr1 := hSe.hcap
        have hr2 := hSe.hmax
        unfold maxLen at hr2
        have hcnt := end_count HP5.out.sync hEnd
        have hye := hSe.hlen
        rw [hn2] at hcnt
        rw [hye] at hcnt
        have HCnt := Lib.hid hcnt
        have HSl := Lib.hid hSl2
        have HSe := Lib.hid hSe
        have HEnd := Lib.hid hEnd
        have HP6 := Lib.hid hP6
        have Hb6 := Lib.hid hb6'
        have Hn2 := Lib.hid hn2
        have sm := blk c0
        clear hcnt hSl hSl2 hSe hEnd hP6 hb6' hn2 hb6 hF6 hye HEn HP5 Hb5
        go_wp2_with fail
        go_loopw [10, 70] (fun c i wr => ∃ k2 : Nat, k2 ≤ n2 ∧ i = .int .i64 k2 ∧ c = .int .i64 (cntE (now + st) ls2 k2 : Nat) ∧ Hid (Below w6.heap.size w6 wr)) (fun _ i _ => n2 - (intOf i).toNat)
        case atStart => exact ⟨0, Nat.zero_le _, rfl, rfl, Below.refl _ _⟩
        case round =>
          obtain ⟨k2, hk2, rfl, rfl, hB⟩ := hrel
          obtain ⟨wq, rfl⟩ : ∃ q : World, q = wr := ⟨_, rfl⟩
          have hBs := hB.out.size
          by_cases hlt2 : k2 < n2
          · obtain ⟨bl, of, rfl⟩ := HSl.out.ptr (by decide) (by omega)
            have kx : k2 < ls2.length := by have := HSl.out.hlen; omega
            have hc := (HSl.out.flatKeeps (Keeps.below hB.out)).flat kx
            have hmem : ls2[k2] ∈ ls2 := List.getElem_mem kx
            have hbf := HP6.out.sync.mem hmem
            have hnmd := HP6.out.named _ hmem
            have hcy := cntE_yes (now := now + st) kx
            have hcn := cntE_no (now := now + st) kx
            have hcl := cntE_le (now + st) ls2 k2
            obtain ⟨cc, hcc⟩ : ∃ q, cntE (now + st) ls2 k2 = q := ⟨_, rfl⟩
            rw [hcc] at hcy hcn hcl
            rw [hcc]
            obtain ⟨z, hz⟩ : ∃ z, ls2[k2] = z := ⟨_, rfl⟩
            rw [hz] at hc hbf hnmd hcy hcn
            have hnn := not_named hnmd.1
            obtain ⟨z0, z1, z2, z3⟩ := z
            have e0 := hc 0 _ rfl
            have e1 := hc 1 _ rfl
            have e2 := hc 2 _ rfl
            have e3 := hc 3 _ rfl
            rw [Nat.add_zero] at e0
            dsimp only at e0 e1 e2 e3 hbf hnmd hcy hcn hnn
            have hBx := HP6.out.board.fr ((Fr.of_below hB.out (fun _ => False)).alloc (.cells #[.string z0, .string z1, .int .i64 z2, .int .i64 z3] 34)) id id
            have hg := get_any36 (m0 + 1) m0 b2 z0 _ hBx (name_small hnmd.2)
            rw [hbf] at hg
            have HG : Hid (Calls Try.prog 10 #[.pointer (some ⟨m0 + 1, 0, none⟩), .string z0] (wq.alloc (.cells #[.string z0, .string z1, .int .i64 z2, .int .i64 z3] 34)) fun e w' => e = .returned (.tuple #[.agg #[.string z0, .string z1, .int .i64 z2, .int .i64 z3], .bool true]) ∧ Below (wq.alloc (.cells #[.string z0, .string z1, .int .i64 z2, .int .i64 z3] 34)).heap.size (wq.alloc (.cells #[.string z0, .string z1, .int .i64 z2, .int .i64 z3] 34)) w') := hg
            have Hbf := Lib.hid hbf
            have Hnm := Lib.hid hnmd
            have Hcy := Lib.hid hcy
            have Hcn := Lib.hid hcn
            have Hnn := Lib.hid hnn
            clear hg hBx hbf hnmd hcy hcn hnn hmem hc hz kx hcc
            go_wp2_with fail
            refine HG.out.mono ?_
            rintro e w7 ⟨rfl, hb7⟩
            rw [World.size_alloc] at hb7
            have hx7 := (hb7.block wq.heap.size (by omega)).trans (heap_alloc_new wq (.cells #[.string z0, .string z1, .int .i64 z2, .int .i64 z3] 34))
            have hb7' : Below w6.heap.size w6 w7 := (hB.out.alloc hBs (.cells #[.string z0, .string z1, .int .i64 z2, .int .i64 z3] 34)).trans (hb7.mono (by omega))
            have Hx7 := Lib.hid hx7
            have Hb7 := Lib.hid hb7'
            clear hx7 hb7' hb7 e0 e1 e2 e3
            go_upto_region 21 with fail
            obtain ⟨W, hW⟩ : ∃ W, w7.alloc (.cells #[.string z0, .string z1, .int .i64 z2, .int .i64 z3] 34) = W := ⟨_, rfl⟩
            have hxW : W.heap[wq.heap.size]? = some (.cells #[.string z0, .string z1, .int .i64 z2, .int .i64 z3] 34 (0, 0)) := by
              rw [← hW, Below.heap_alloc _ _ _ (Array.getElem?_eq_some_iff.1 Hx7.out).1]; exact Hx7.out
            have hyW : W.heap[w7.heap.size]? = some (.cells #[.string z0, .string z1, .int .i64 z2, .int .i64 z3] 34 (0, 0)) := by rw [← hW]; exact heap_alloc_new w7 _
            have hbW : Below w6.heap.size w6 W := by rw [← hW]; exact Hb7.out.alloc Hb7.out.size _
            rw [hW]
            have HxW := Lib.hid hxW
            have HbW := Lib.hid hbW
            obtain ⟨e0, e1, e2, e3⟩ := row4_cells hxW
            obtain ⟨y0, y1, y2, y3⟩ := row4_cells hyW
            try dsimp only at e0 e1 e2 e3 y0 y1 y2 y3
            clear hxW hyW hbW hW HG
            have hne : ∀ w, (binOp .neq 34 (.agg #[.string z0, .string z1, .int .i64 z2, .int .i64 z3]) (.agg #[.string z0, .string z1, .int .i64 z2, .int .i64 z3])).run Try.prog w = .ok (.bool false) w := fun w => by
              have := neq_lease ⟨z0, z1, z2, z3⟩ ⟨z0, z1, z2, z3⟩ w
              rw [eqL_self] at this
              exact this
            obtain ⟨q, hq⟩ : ∃ q, decide (now + st < z2) = q := ⟨_, rfl⟩
            have HH1 : Hid (∀ w', Below W.heap.size W w' → Calls Try.prog 11 #[.pointer (some ⟨m0 + 1, 0, none⟩), .string z0, .string z1, .int .i64 (now + st)] w' fun e w2 => e = .returned (.bool q) ∧ Below w'.heap.size w' w2) := fun w' hbw => by
              have h := holds_val z1 (now + st) w' (HP6.out.board.fr (Fr.of_below (HbW.out.trans (hbw.mono HbW.out.size)) (fun _ => False)) id id) (name_small Hnm.out.2) Hbf.out
              dsimp only at h
              rw [hq, beq_self_eq_true, Bool.true_and] at h
              exact h
            have HH2 : Hid (∀ w', Below W.heap.size W w' → Calls Try.prog 11 #[.pointer (some ⟨m0 + 1, 0, none⟩), .string z0, .string ⟨#[63]⟩, .int .i64 (now + st)] w' fun e w2 => e = .returned (.bool false) ∧ Below w'.heap.size w' w2) := fun w' hbw => by
              have h := holds_val ⟨#[63]⟩ (now + st) w' (HP6.out.board.fr (Fr.of_below (HbW.out.trans (hbw.mono HbW.out.size)) (fun _ => False)) id id) (name_small Hnm.out.2) Hbf.out
              dsimp only at h
              rw [Hnn.out, Bool.false_and] at h
              exact h
            replace e0 := BW.cell e0
            replace e1 := BW.cell e1
            replace e2 := BW.cell e2
            replace e3 := BW.cell e3
            replace y0 := BW.cell y0
            replace y1 := BW.cell y1
            replace y2 := BW.cell y2
            replace y3 := BW.cell y3
            have hqq : (q != q) = false := by cases q <;> rfl
            refine wp_region_head_lit 27 (fun w' => ∃ p : BW W, w' = p.w') (by kernel_rfl) (by kernel_rfl) ⟨⟨{ W with drawn := W.drawn + 1 }, ⟨rfl, rfl, rfl, Nat.le_refl _, fun _ _ => rfl⟩⟩, rfl⟩ ?_
            simp only [List.take_succ_cons, List.take_zero, List.drop_succ_cons, List.drop_zero]
            repeat (quiet_step (first | (go_at_call 11; with_reducible exact BW.call _ (HH1.out _ (BW.h _))) | (go_at_call 11; with_reducible exact BW.call _ (HH2.out _ (BW.h _))) | exact rfl))
            refine wpQuiet_nil ?_
            intro w9 hw'
            obtain ⟨⟨_, hb9⟩, e9⟩ := hw'
            dsimp only at e9
            subst e9
            have hx9 := (hb9.block wq.heap.size (Array.getElem?_eq_some_iff.1 HxW.out).1).trans HxW.out
            have g2 := cell_of_row w9 wq.heap.size 2 _ _ _ hx9
            have Hx9 := Lib.hid hx9
            have Hb9 := Lib.hid (HbW.out.trans (hb9.mono HbW.out.size))
            clear hx9 hb9 e0 e1 e2 e3 y0 y1 y2 y3 HH1 HH2 hne hqq HxW HbW Hx7 Hb7
            cases q
            · skip
              have d3 : decide (now + st < z2) = false := hq
              have hmem2 : (⟨z0, z1, z2, z3⟩ : Lease) ∈ ys := HEnd.out.all _ _ Hbf.out (by have := of_decide_eq_false hq; show ¬ now + st < z2; omega)
              have hcc2 := Hcy.out (by have := of_decide_eq_false hq; omega)
              have HMem := Lib.hid hmem2
              have HCc := Lib.hid hcc2
              clear hmem2 hcc2 hq
              go_wp2_with fail
              go_loopw [15, 117] (fun mt i wr => ∃ k3 : Nat, k3 ≤ ne ∧ i = .int .i64 k3 ∧ mt = .bool ((ys.take k3).any (fun y => eqL y ⟨z0, z1, z2, z3⟩)) ∧ Hid (Below w9.heap.size w9 wr)) (fun _ i _ => ne - (intOf i).toNat)
              case atStart => exact ⟨0, Nat.zero_le _, rfl, rfl, Below.refl _ _⟩
              case round =>
                obtain ⟨k3, hk3, rfl, rfl, hB3⟩ := hrel
                obtain ⟨wz, rfl⟩ : ∃ q : World, q = wr := ⟨_, rfl⟩
                by_cases hlt3 : k3 < ne
                · obtain ⟨be, oe, rfl⟩ := HSe.out.ptr (by decide) (by omega)
                  have kx3 : k3 < ys.length := by have := HSe.out.hlen; omega
                  have hz3 : Below w6.heap.size w6 wz := Hb9.out.trans (hB3.out.mono Hb9.out.size)
                  have hc3 := (HSe.out.flatKeeps (Keeps.below hz3)).flat kx3
                  have hany := any_snoc (fun y => eqL y (⟨z0, z1, z2, z3⟩ : Lease)) kx3
                  obtain ⟨y, hy⟩ : ∃ y, ys[k3] = y := ⟨_, rfl⟩
                  rw [hy] at hc3 hany
                  obtain ⟨y0, y1, y2, y3⟩ := y
                  have e0 := hc3 0 _ rfl
                  have e1 := hc3 1 _ rfl
                  have e2 := hc3 2 _ rfl
                  have e3 := hc3 3 _ rfl
                  rw [Nat.add_zero] at e0
                  dsimp only at e0 e1 e2 e3 hany
                  have hxz := hB3.out.block wq.heap.size (by have := Hx9.out; exact (Array.getElem?_eq_some_iff.1 this).1)
                  rw [Hx9.out] at hxz
                  obtain ⟨f0, f1, f2, f3⟩ := row4_cells hxz
                  have sxz : wq.heap.size < wz.heap.size := blk f0
                  try dsimp only at f0 f1 f2 f3
                  have heq := fun w => eql_lease ⟨y0, y1, y2, y3⟩ ⟨z0, z1, z2, z3⟩ w
                  dsimp only at heq
                  obtain ⟨p, hp⟩ : ∃ p, (ys.take k3).any (fun y => eqL y (⟨z0, z1, z2, z3⟩ : Lease)) = p := ⟨_, rfl⟩
                  obtain ⟨r, hr⟩ : ∃ r, eqL ⟨y0, y1, y2, y3⟩ ⟨z0, z1, z2, z3⟩ = r := ⟨_, rfl⟩
                  rw [hp, hr] at hany
                  rw [hp]
                  rw [hr] at heq
                  have HAny := Lib.hid hany
                  clear hany hp hr hc3 hz3 hxz hy
                  cases p
                  · go_wp2_with fail
                    go_roundw
                    case rel => exact ⟨k3 + 1, by omega, by go_num, by rw [HAny.out]; rfl, hB3.out.alloc hB3.out.size _⟩
                    case measure => simp [intOf]; omega
                  · go_wp2_with fail
                    go_roundw
                    case rel => exact ⟨k3 + 1, by omega, by go_num, by rw [HAny.out]; rfl, hB3.out.alloc hB3.out.size _⟩
                    case measure => simp [intOf]; omega
                · have hke : ys.take k3 = ys := List.take_of_length_le (by have := HSe.out.hlen; omega)
                  have hany : (ys.take k3).any (fun y => eqL y (⟨z0, z1, z2, z3⟩ : Lease)) = true := by rw [hke]; exact any_met HMem.out
                  rw [hany]
                  clear hany hke
                  go_wp2_with fail
                  go_roundw
                  case rel => exact ⟨k2 + 1, by omega, by go_num, by rw [HCc.out]; go_num, Hb9.out.trans (hB3.out.mono Hb9.out.size)⟩
                  case measure => simp [intOf]; omega
            · have d3 : decide (now + st < z2) = true := hq
              have hcc2 := Hcn.out (of_decide_eq_true hq)
              have HCc := Lib.hid hcc2
              clear hcc2 hq
              go_wp2_with fail
              go_roundw
              case rel => exact ⟨k2 + 1, by omega, by go_num, by rw [HCc.out], Hb9.out⟩
              case measure => simp [intOf]; omega
          · skip
            obtain rfl : k2 = n2 := by omega
            have hce := HCnt.out
            rw [hce]
            clear hce HCnt hlt2
            go_wp2_with fail
            go_loopw [18] (fun i wr => ∃ k4 : Nat, i = .int .i64 ((k4 : Int) + 1) ∧ (k4 = 0 ∨ k4 + 1 ≤ ne) ∧ Hid (Below w6.heap.size w6 wr)) (fun i _ => ne - (intOf i).toNat)
            case atStart => exact ⟨0, rfl, .inl rfl, hB⟩
            case round =>
              obtain ⟨k4, rfl, hk4, hB4⟩ := hrel
              obtain ⟨wy, rfl⟩ : ∃ q : World, q = wr := ⟨_, rfl⟩
              by_cases hlt4 : k4 + 1 < ne
              · obtain ⟨be, oe, rfl⟩ := HSe.out.ptr (by decide) (by omega)
                have ky0 : k4 < ys.length := by have := HSe.out.hlen; omega
                have ky1 : k4 + 1 < ys.length := by have := HSe.out.hlen; omega
                have c0 := (HSe.out.flatKeeps (Keeps.below hB4.out)).flat0 ky0 _ rfl
                have c1 := (HSe.out.flatKeeps (Keeps.below hB4.out)).flat0 ky1 _ rfl
                have hrise := HEnd.out.rise k4 (k4 + 1) (by omega) ky1 ky0
                obtain ⟨s0, hs0⟩ : ∃ s, ys[k4].name = s := ⟨_, rfl⟩
                obtain ⟨s1, hs1⟩ : ∃ s, ys[k4 + 1].name = s := ⟨_, rfl⟩
                rw [hs0] at c0 hrise
                rw [hs1] at c1 hrise
                have hx0 : IntKind.i64.wrap ((k4 : Int) + 1 - 1) = (k4 : Int) := by rw [show (k4 : Int) + 1 - 1 = k4 by omega]; exact IntWalk.i64_in _ (by omega)
                have hx1 : ((k4 : Int) + 1).toNat = k4 + 1 := by omega
                have hx2 : (0 : Int) ≤ (k4 : Int) + 1 := by omega
                have hx3 : (k4 : Int) + 1 < (ne : Int) := by omega
                have hx4 : (k4 : Int) < (ne : Int) := by omega
                clear hs0 hs1 ky0 ky1
                go_upto_region 37 with fail
                go_quiet (fail)
                go_wp2_with fail
                go_roundw
                case rel => exact ⟨k4 + 1, by go_num, .inr (by omega), drewN_below hB4.out _⟩
                case measure => simp [intOf]; omega
              · go_wp2_with fail
                go_roundw
                case rel => exact ⟨k + 1, now + st, b2, _, ls2, by omega, by go_num, rfl, by omega, by omega, HP6.out.below hB4.out, Hb6.out.trans (hB4.out.mono (by have := HP6.out.lt; omega))⟩
                case measure => simp [intOf]; omega
      · go_wp2_with fail
        go_ret
        exact ⟨rfl, H1.out.trans (hI.out.2.mono (by rw [← hm0'.out]; exact H1.out.size))⟩

theorem LeasePlays_holds : Rows.LeasePlaysSaid := lLeasePlays.over fun ao n cap w h0 => by
  obtain ⟨_, _, _, ls, e0, hS⟩ := SlR.of_rel h0 (fun c hc => act36_of w c hc)
  simp [Value.cells] at e0
  obtain ⟨rfl, rfl, rfl⟩ := e0
  exact leasePlays_core ls _ _ _ w hS
end Go.Proofs.Ytcgfjbbdadjegaa
