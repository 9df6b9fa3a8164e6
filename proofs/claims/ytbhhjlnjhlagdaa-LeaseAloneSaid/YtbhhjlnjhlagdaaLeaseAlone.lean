/- LeaseAlone holds: for every input the law returns true. No condition. -/
import Derived.Test.YtbhhjlnjhlagdaaLeaseAloneLift
import Derived.Test.YtbhhjlnjhlagdaaLeasePlain
namespace Go.Proofs.Ytbhhjlnjhlagdaa
open Go.ChangeShapes Go.WideShapes Go.ChangeAt Go.RowKit Go.Deep Go.Maps

structure Act36 where
  kind : Int
  ticks : Int
  step : Int
  name : ByteArray
  holder : ByteArray
deriving Inhabited

def Act36.cells (x : Act36) : List Value := [.int .i64 x.kind, .int .i64 x.ticks, .int .u16 x.step, .string x.name, .string x.holder]
def Act36R : World → Act36 → List Value → Prop := fun _ x c => c = x.cells ∧ x.name.size ≤ maxLen ∧ x.holder.size ≤ maxLen ∧ 0 ≤ x.step ∧ x.step ≤ 65535

theorem act36_of (w : World) (c : List Value) (h : Rel (.pair (.int .i64) (.pair (.int .i64) (.pair (.int .u16) (.pair .str (.pair .str .unit))))) w c) : ∃ m, Act36R w m c := by
  obtain ⟨c1, c2, rfl, _, ⟨n1, rfl, _⟩, c3, c4, rfl, _, ⟨n2, rfl, _⟩, c5, c6, rfl, _, ⟨n3, rfl, h3⟩, c7, c8, rfl, _, ⟨n4, rfl, h4⟩, c9, c10, rfl, _, ⟨n5, rfl, h5⟩, rfl⟩ := h
  refine ⟨⟨n1, n2, n3, n4, n5⟩, rfl, h4, h5, ?_⟩
  simp [Lit.wf, IntKind.min, IntKind.max, IntKind.signed, IntKind.bits] at h3
  omega

/-- What the round's head bears: the board, the two maps, and what became of the world. -/
structure Inv36 (B : Nat) (b : Bd) (nh nu k : Nat) (w0 w : World) : Prop where
  board : BoardAt w (B + 1) B b
  hs : StrMap Value.string w Try.prog 9 (B + 2) nh (hOf b)
  us : StrMap (Value.int .i64) w Try.prog 9 (B + 3) nu (uOf b)
  n : b.n ≤ 2 * k
  h : nh ≤ k
  u : nu ≤ k
  below : Below B w0 w

theorem Inv36.start {w : World} {b : Bd} (hb : b = ⟨0, fun _ => none⟩) {w1 w2 w3 : World} (h1 : w1 = (w.alloc (.map #[] 0)).alloc (.cells #[.map (some w.heap.size)] 148)) (h2 : w2 = w1.alloc (.map #[] 0)) (h3 : w3 = w2.alloc (.map #[] 0)) :
    Inv36 w.heap.size b 0 0 0 w w3 := by
  subst hb
  have s1 : w1.heap.size = w.heap.size + 2 := by rw [h1]; simp
  have s2 : w2.heap.size = w.heap.size + 3 := by rw [h2]; simp [s1]
  have hB1 : BoardAt w1 (w.heap.size + 1) w.heap.size ⟨0, fun _ => none⟩ := by rw [h1]; exact BoardAt.made w
  have e1 : hOf (⟨0, fun _ => none⟩ : Bd) = fun _ => none := rfl
  have e2 : uOf (⟨0, fun _ => none⟩ : Bd) = fun _ => none := rfl
  have b1 : Below w.heap.size w w1 := by rw [h1]; exact ((Below.refl _ _).alloc (Nat.le_refl _) _).alloc (by simp) _
  have b2 : Below w.heap.size w w2 := by rw [h2]; exact b1.alloc (by omega) _
  have m1 : StrMap Value.string w2 Try.prog 9 (w.heap.size + 2) 0 (fun _ => none) := by rw [h2, ← s1]; exact StrMap.made _ _ _ _
  have m2 : StrMap (Value.int .i64) w3 Try.prog 9 (w.heap.size + 3) 0 (fun _ => none) := by rw [h3, ← s2]; exact StrMap.made _ _ _ _
  have f2 : Fr (fun _ => False) w1 w2 := by rw [h2]; exact (Fr.refl _ _).alloc _
  have f3 : Fr (fun _ => False) w2 w3 := by rw [h3]; exact (Fr.refl _ _).alloc _
  exact ⟨(hB1.fr f2 id id).fr f3 id id, by rw [e1]; exact MapIs.fr m1 f3 id, by rw [e2]; exact m2, by simp, by simp, by simp, by rw [h3]; exact b2.alloc (by omega) _⟩

theorem Inv36.lt {B : Nat} {b : Bd} {nh nu k : Nat} {w0 w : World} (h : Inv36 B b nh nu k w0 w) : B + 3 < w.heap.size := MapIs.lt h.us

/-- The board was written, and the two maps. -/
theorem Inv36.next {B : Nat} {b b' : Bd} {nh nu nh' nu' k : Nat} {w0 w w' : World} {fh : List UInt8 → Option ByteArray} {fu : List UInt8 → Option Int} (h : Inv36 B b nh nu k w0 w)
    (hF : Fr (fun j => B ≤ j) w w') (hB : BoardAt w' (B + 1) B b') (hn : b'.n ≤ 2 * (k + 1)) (h1 : StrMap Value.string w' Try.prog 9 (B + 2) nh' fh) (e1 : fh = hOf b') (h2 : StrMap (Value.int .i64) w' Try.prog 9 (B + 3) nu' fu) (e2 : fu = uOf b')
    (g1 : nh' ≤ k + 1) (g2 : nu' ≤ k + 1) : Inv36 B b' nh' nu' (k + 1) w0 w' :=
  ⟨hB, e1 ▸ h1, e2 ▸ h2, hn, g1, g2, h.below.trans (hF.below (by have := h.lt; omega) (fun _ h => h))⟩

theorem zeroStr (w : World) : (zeroValue 9).run Try.prog w = .ok (.string ⟨#[]⟩) w := by kernel_rfl
theorem zeroI64 (w : World) : (zeroValue 2).run Try.prog w = .ok (.int .i64 0) w := by kernel_rfl

set_option maxRecDepth 100000 in
set_option maxHeartbeats 4000000 in
theorem leaseAlone_core (ls : List Act36) (ao : Option Addr) (n cap : Nat) (w : World) (hS : SlR Act36R 5 w ao n cap ls) :
    Calls Try.prog 12 #[.slice ao n cap] w fun e w' => e = .returned (.bool true) ∧ Below w.heap.size w w' := by
  have hmm := @run_makeMap Try.prog
  have hcm := hS.hmax
  have hlc := hS.hcap
  unfold maxLen at hcm
  go_enter Try.func12, Try.ntmps12
  go_wp2_with fail
  refine (lives36 w).mono ?_
  rintro e w1 ⟨rfl, hb1⟩
  by_cases hn : 60 < n
  · have hd : decide ((60 : Int) < (n : Int)) = true := decide_eq_true (by omega)
    have H1 := Lib.hid hb1
    clear hb1
    go_wp2_with fail
    refine (lives36 _).mono ?_
    rintro e w2 ⟨rfl, hb2⟩
    have H2 := Lib.hid (H1.out.trans (hb2.mono H1.out.size))
    clear hb2
    go_wp2_with fail
    go_ret
    exact ⟨rfl, H2.out⟩
  · have hd : decide ((60 : Int) < (n : Int)) = false := decide_eq_false (by omega)
    have hn' : n ≤ 60 := by omega
    clear hn
    have HS : Hid (SlR Act36R 5 w1 ao n cap ls) := hS.keeps (Keeps.below hb1) (fun _ _ h => h)
    have H1 := Lib.hid hb1
    clear hb1 hS
    go_wp2_with fail
    refine (newBoard_any w1).mono ?_
    rintro e w2 ⟨rfl, hw2⟩
    have HI := Lib.hid (Inv36.start rfl hw2 rfl rfl)
    have hs2 : w2.heap.size = w1.heap.size + 2 := by rw [hw2]; simp
    clear hw2
    go_wp2_with fail
    obtain ⟨m0, hm0⟩ : ∃ m, w1.heap.size = m := ⟨_, rfl⟩
    rw [hm0] at HI hs2 ⊢
    have hm0' := Lib.hid hm0
    clear hm0
    go_loopw [4, 28] (fun nw i wr => ∃ (k : Nat) (now : Int) (b : Bd) (nh nu : Nat), k ≤ n ∧ i = .int .i64 k ∧ nw = .int .i64 now ∧ 0 ≤ now ∧ now ≤ 65535 * k ∧ Hid (Inv36 m0 b nh nu k w1 wr)) (fun _ i _ => n - (intOf i).toNat)
    case atStart => exact ⟨0, 0, _, 0, 0, Nat.zero_le _, rfl, rfl, Int.le_refl _, by simp, HI⟩
    case round =>
      obtain ⟨k, now, b, nh, nu, hk, rfl, rfl, hnow0, hnow1, hI⟩ := hrel
      have hmlt := hI.out.lt
      by_cases hlt : k < n
      · have hS := HS.out.keeps (Keeps.below (hI.out.below.mono (by rw [hm0'.out]; exact Nat.le_refl _))) (fun _ _ h => h)
        obtain ⟨b0, off, rfl⟩ := hS.ptr (by decide) (by omega)
        have kx : k < ls.length := by have := hS.hlen; omega
        obtain ⟨c, hcl, hcc, hcr⟩ := hS.cells kx
        obtain ⟨x, hx⟩ : ∃ x, ls[k] = x := ⟨_, rfl⟩
        rw [hx] at hcr
        obtain ⟨kd, tk, st, nm, ho⟩ := x
        obtain ⟨rfl, hnm, hho, hst0, hst1⟩ := hcr
        dsimp only at hnm hho hst0 hst1
        have c0 := hcc 0 _ rfl
        have c1 := hcc 1 _ rfl
        have c2 := hcc 2 _ rfl
        have c3 := hcc 3 _ rfl
        have c4 := hcc 4 _ rfl
        rw [Nat.add_zero] at c0
        dsimp only at c0 c1 c2 c3 c4
        have HK := Lib.hid (strKey hnm)
        have Hnm := Lib.hid hnm
        clear hcc hS hx hcl kx hnm hho
        have hn' : now + st ≤ 65535 * (k + 1) := by omega
        have hsz := blk c0
        obtain ⟨wp, rfl⟩ : ∃ wp : World, wp = wr := ⟨_, rfl⟩
        by_cases hk3 : kd = 0 ∨ kd = 1 ∨ kd = 2
        · have hT := take_any (m0 + 1) m0 b nm ho (now + st) tk (wp.alloc (.cells #[.int .i64 kd, .int .i64 tk, .int .u16 st, .string nm, .string ho] 79)) (hI.out.board.fr ((Fr.refl (fun _ => False) wp).alloc _) id id) Hnm.out (by have := hI.out.n; omega)
          have hA1 := acted_take b nm ho (now + st) tk
          have hA2 := acted_renew b nm ho (now + st) tk
          unfold TakePost at hT
          obtain ⟨p, hp⟩ : ∃ p, takeOf b nm ho (now + st) tk = p := ⟨_, rfl⟩
          rw [hp] at hT hA1 hA2
          clear hp
          obtain ⟨⟨l0, l1, l2, l3⟩, e1, b1⟩ := p
          dsimp only at hT hA1 hA2
          have HT : Hid (Calls Try.prog 44 #[.pointer (some ⟨m0 + 1, 0, none⟩), .string nm, .string ho, .int .i64 (now + st), .int .i64 tk] (wp.alloc (.cells #[.int .i64 kd, .int .i64 tk, .int .u16 st, .string nm, .string ho] 79)) fun e w' =>
            e = .returned (.tuple #[.agg #[.string l0, .string l1, .int .i64 l2, .int .i64 l3], .int .i64 e1]) ∧ BoardAt w' (m0 + 1) m0 b1 ∧ Fr (fun k => k = m0) (wp.alloc (.cells #[.int .i64 kd, .int .i64 tk, .int .u16 st, .string nm, .string ho] 79)) w') := hT
          have HA1 := Lib.hid hA1
          have HA2 := Lib.hid hA2
          have Hk3 := Lib.hid hk3
          clear hT hA1 hA2 hk3
          go_upto_if 58 with (fail)
          go_cut [58] (fun s wx => s = .bool true ∧ wx = wp.alloc (.cells #[.int .i64 kd, .int .i64 tk, .int .u16 st, .string nm, .string ho] 79))
          case first =>
            rcases Hk3.out with h | h | h
            · have q0 : (kd == 0) = true := by rw [h]; rfl
              clear h
              go_wp2_with fail
              go_meet
              exact ⟨by rw [q0], rfl⟩
            · have q0 : (kd == 0) = false := by rw [h]; rfl
              have q1 : (kd == 1) = true := by rw [h]; rfl
              clear h
              go_wp2_with fail
              go_meet
              exact ⟨rfl, rfl⟩
            · have q0 : (kd == 0) = false := by rw [h]; rfl
              have q1 : (kd == 1) = false := by rw [h]; rfl
              have q2 : (kd == 2) = true := by rw [h]; rfl
              clear h
              go_wp2_with fail
              go_meet
              exact ⟨rfl, rfl⟩
          case rest =>
            obtain ⟨rfl, rfl⟩ := hcut
            go_wp2_with fail
            refine HT.out.mono ?_
            rintro e w3 ⟨rfl, hB3, hF3⟩
            have hr := hF3.heap (heap_alloc_new wp (.cells #[.int .i64 kd, .int .i64 tk, .int .u16 st, .string nm, .string ho] 79)) (by omega)
            have d0 := cell_of_row w3 wp.heap.size 0 _ _ _ hr
            have hz3 := hF3.size
            simp only [World.size_alloc] at hz3
            have hz4 : wp.heap.size < w3.heap.size := by omega
            have Hr := Lib.hid hr
            have HB3 := Lib.hid hB3
            have HF3 := Lib.hid hF3
            clear hB3 hF3 hr
            go_upto_if 76 with (fail)
            go_cut [10] (fun s wx => ∃ (e : Int) (l : Lease) (b2 : Bd), s = .int .i64 e ∧ wp.heap.size < wx.heap.size ∧ w3.heap.size < wx.heap.size ∧ Hid (wx.heap[wp.heap.size]? = some (.cells #[.int .i64 kd, .int .i64 tk, .int .u16 st, .string nm, .string ho] 79 (0, 0))) ∧ Hid (wx.heap[w3.heap.size]? = some (.cells #[.string l.name, .string l.holder, .int .i64 l.till, .int .i64 l.turns] 81 (0, 0))) ∧
              Hid (BoardAt wx (m0 + 1) m0 b2 ∧ Fr (fun j => j = m0) wp wx ∧ Acted b b2 nm ho (now + st) l e))
            case first =>
              by_cases h2 : kd = 2
              · have q2 : (kd == 2) = true := by rw [h2]; rfl
                clear h2
                have d1 := cell_of_row w3 wp.heap.size 1 _ _ _ Hr.out
                have d3 := cell_of_row w3 wp.heap.size 3 _ _ _ Hr.out
                have d4 := cell_of_row w3 wp.heap.size 4 _ _ _ Hr.out
                have hR := renew_any (m0 + 1) m0 b1 nm ho (now + st) tk (w3.alloc (.cells #[.string l0, .string l1, .int .i64 l2, .int .i64 l3] 81)) (HB3.out.fr ((Fr.refl (fun _ => False) w3).alloc _) id id) Hnm.out (by have := hI.out.n; have := HA1.out.size; omega)
                have hA2 := HA2.out
                unfold RenewPost at hR
                obtain ⟨p, hp⟩ : ∃ p, renewOf b1 nm ho (now + st) tk = p := ⟨_, rfl⟩
                rw [hp] at hR hA2
                clear hp
                obtain ⟨⟨j0, j1, j2, j3⟩, e2, b2⟩ := p
                dsimp only at hR hA2
                have HR : Hid (Calls Try.prog 45 #[.pointer (some ⟨m0 + 1, 0, none⟩), .string nm, .string ho, .int .i64 (now + st), .int .i64 tk] (w3.alloc (.cells #[.string l0, .string l1, .int .i64 l2, .int .i64 l3] 81)) fun e w' =>
                  e = .returned (.tuple #[.agg #[.string j0, .string j1, .int .i64 j2, .int .i64 j3], .int .i64 e2]) ∧ BoardAt w' (m0 + 1) m0 b2 ∧ Fr (fun k => k = m0) (w3.alloc (.cells #[.string l0, .string l1, .int .i64 l2, .int .i64 l3] 81)) w') := hR
                have HA2' := Lib.hid hA2
                clear hR hA2
                go_wp2_with fail
                refine HR.out.mono ?_
                rintro e w4 ⟨rfl, hB4, hF4⟩
                have hr9 := hF4.heap (heap_alloc_new w3 (.cells #[.string l0, .string l1, .int .i64 l2, .int .i64 l3] 81)) (by omega)
                have hr8 := hF4.heap ((Below.heap_alloc w3 (.cells #[.string l0, .string l1, .int .i64 l2, .int .i64 l3] 81) _ hz4).trans Hr.out) (by omega)
                obtain ⟨k0, k1, k2, k3⟩ := row4_cells hr9
                have z9 := row_free hr9
                have hz5 := hF4.size
                simp only [World.size_alloc] at hz5
                have Hr9 := Lib.hid hr9
                have Hr8 := Lib.hid hr8
                have HB4 := Lib.hid hB4
                have HF4 := Lib.hid hF4
                clear hr9 hr8 hB4 hF4
                go_wp2_with fail
                go_meet
                have hF5 : Fr (fun j => j = m0) wp w4 := ((((Fr.refl (fun j => j = m0) wp).alloc _).trans HF3.out (fun i h => .inl h)).alloc _).trans HF4.out (fun i h => .inl h)
                have hmb := hI.out.lt
                refine ⟨e2, ⟨j0, j1, j2, j3⟩, b2, rfl, by simp [World.setCell]; omega, by simp [World.setCell]; omega, (heap_set4 (by omega) _ _ _ _).trans Hr8.out, row4 Hr9.out _ _ _ _, ⟨(heap_set4 (by omega) _ _ _ _).trans HB4.out.blk, MapIs.same HB4.out.map (heap_set4 (by omega) _ _ _ _)⟩, fr_set4 hF5 (by omega) _ _ _ _, HA2'.out⟩
              · have q2 : (kd == 2) = false := by rw [beq_eq_false_iff_ne]; exact h2
                clear h2
                go_wp2_with fail
                go_meet
                have hF4 : Fr (fun j => j = m0) wp (w3.alloc (.cells #[.string l0, .string l1, .int .i64 l2, .int .i64 l3] 81)) := (((Fr.refl (fun j => j = m0) wp).alloc _).trans HF3.out (fun i h => .inl h)).alloc _
                exact ⟨e1, ⟨l0, l1, l2, l3⟩, b1, rfl, by simp; omega, by simp, (Below.heap_alloc w3 _ _ hz4).trans Hr.out, heap_alloc_new w3 _, HB3.out.fr ((Fr.refl (fun _ => False) w3).alloc _) id id, hF4, HA1.out⟩
            case rest =>
              obtain ⟨e, l, b2, rfl, g1, g2, Hr8, Hr9, HX⟩ := hcut
              obtain ⟨p9, hp9⟩ : ∃ p9, w3.heap.size = p9 := ⟨_, rfl⟩
              obtain ⟨p8, hp8⟩ : ∃ p8, wp.heap.size = p8 := ⟨_, rfl⟩
              have g3 : m0 + 3 < p8 := by omega
              have g4 : p8 < p9 := by omega
              rw [hp9] at g2 Hr9 ⊢
              rw [hp8] at g1 Hr8 ⊢
              have Hp8 := Lib.hid hp8
              obtain ⟨l0, l1, l2, l3⟩ := l
              have d3 := cell_of_row wc p8 3 _ _ _ Hr8.out
              have d4 := cell_of_row wc p8 4 _ _ _ Hr8.out
              have v1 := cell_of_row wc p9 1 _ _ _ Hr9.out
              have v2 := cell_of_row wc p9 2 _ _ _ Hr9.out
              have HH := Lib.hid (MapIs.fr hI.out.hs HX.out.2.1 (by omega))
              have HU := Lib.hid (MapIs.fr hI.out.us HX.out.2.1 (by omega))
              have hnh : Hid (nh < maxLen) := by have := hI.out.h; unfold Hid maxLen; omega
              have hnu : Hid (nu < maxLen) := by have := hI.out.u; unfold Hid maxLen; omega
              clear HT HA1 HA2 Hr HB3 HF3 hp9 hp8 hz3 hz4 d0 c0 c1 c2 c3 c4
              by_cases he : e = 0
              · subst he
                have Hgood := Lib.hid (HX.out.2.2.good rfl)
                have Hfree := Lib.hid (HX.out.2.2.free rfl)
                have Hsh : Hid (sset (hOf b) nm.data.toList ho = hOf b2) := by
                  have h1 : l1 = ho := Hgood.out.2
                  have h2 := sync_set (g := Lease.holder) HX.out.2.2.only Hgood.out.1
                  dsimp only at h2
                  rw [h1] at h2
                  exact h2
                cases hf : b.f nm.data.toList with
                | none =>
                  have hv1 : Hid ((byStr Value.string (hOf b) (.string nm.data.toList)).getD (.string ⟨#[]⟩) = .string ⟨#[]⟩) := by show _ = _; simp [byStr, hOf, hf]
                  have hv2 : Hid ((byStr Value.string (hOf b) (.string nm.data.toList)).isSome = false) := by show _ = _; simp [byStr, hOf, hf]
                  clear hf
                  go_wp2_with (at_lookup; go_must (refine wpList_look_ok _ rfl _ _ 76 rfl 9 9 strKeyed Try.underlying76 (zeroStr _) (m0 + 2) nh _ rfl HH.out _ _ rfl HK.out (.string ⟨#[]⟩) false hv1.out hv2.out ?_))
                  obtain ⟨w6, hrun6, hown6, hturn6⟩ := MapIs.store (w := wc.drew) (MapIs.fr HH.out ((Fr.refl (fun _ => False) wc).drew) id) strKeyed Try.underlying76 hnh.out (val := .string ho) HK.out
                  obtain ⟨w7, hrun7, hown7, hturn7⟩ := MapIs.store (w := w6) (MapIs.fr (MapIs.fr HU.out ((Fr.refl (fun _ => False) wc).drew) id) (Fr.turned (fun j => j = m0 + 2) hturn6 rfl) (by omega)) strKeyed Try.underlying77 hnu.out (val := .int .i64 l2) HK.out
                  have hr8 := (hturn6.grown.block p8 g1 (by simp; omega)).trans Hr8.out
                  have hry := (hturn6.grown.block p9 g2 (by simp; omega)).trans Hr9.out
                  have x3 := cell_of_row w6 p8 3 _ _ _ hr8
                  have x4 := cell_of_row w6 p8 4 _ _ _ hr8
                  have y2' := cell_of_row w6 p9 2 _ _ _ hry
                  have Hown6 := Lib.hid hown6
                  have Hturn6 := Lib.hid hturn6
                  have Hown7 := Lib.hid hown7
                  have Hturn7 := Lib.hid hturn7
                  clear hown6 hturn6 hown7 hturn7 hr8 hry
                  go_region
                  go_wp2_with fail
                  have hF0 : Fr (fun _ => False) wc wc.drew := (Fr.refl _ wc).drew
                  have hFa : Fr (fun j => j = m0 + 2) wc.drew w6 := Fr.turned (fun j => j = m0 + 2) Hturn6.out rfl
                  have hFb : Fr (fun j => j = m0 + 3) w6 w7 := Fr.turned (fun j => j = m0 + 3) Hturn7.out rfl
                  have hF6 : Fr (fun j => m0 ≤ j) wp w7 := (((HX.out.2.1.weaken (T := fun j => m0 ≤ j) (fun i h => by have : i = m0 := h; omega)).trans hF0 (fun i h => h.elim)).trans hFa (fun i h => .inl (by have : i = m0 + 2 := h; omega))).trans hFb (fun i h => .inl (by have : i = m0 + 3 := h; omega))
                  have hh6 := Hown6.out
                  have hu7 := Hown7.out
                  rw [fset_byStr Value.string (hOf b) nm.data.toList ho] at hh6
                  rw [fset_byStr (Value.int .i64) (uOf b) nm.data.toList l2] at hu7
                  go_roundw
                  case rel => exact ⟨k + 1, now + st, b2, _, _, by omega, by go_num, rfl, by omega, by omega, hI.out.next hF6 (((HX.out.1.fr hF0 id id).fr hFa (by omega) (by omega)).fr hFb (by omega) (by omega)) (by have := hI.out.n; have := HX.out.2.2.size; omega) (MapIs.fr hh6 hFb (by omega)) (Hsh.out) hu7 (sync_set HX.out.2.2.only Hgood.out.1) (by have := hI.out.h; split <;> omega) (by have := hI.out.u; split <;> omega)⟩
                  case measure => simp [intOf]; omega
                | some x =>
                  have hv1 : Hid ((byStr Value.string (hOf b) (.string nm.data.toList)).getD (.string ⟨#[]⟩) = .string x.holder) := by show _ = _; simp [byStr, hOf, hf]
                  have hv2 : Hid ((byStr Value.string (hOf b) (.string nm.data.toList)).isSome = true) := by show _ = _; simp [byStr, hOf, hf]
                  have hv3 : Hid ((byStr (Value.int .i64) (uOf b) (.string nm.data.toList)).getD (.int .i64 0) = .int .i64 x.till) := by show _ = _; simp [byStr, uOf, hf]
                  by_cases hh : x.holder = ho
                  · have hb1 : (x.holder.toList == ho.toList) = true := by rw [hh]; simp
                    have hb2 : x.holder.toList = ho.toList := by rw [hh]
                    clear hf hh
                    go_wp2_with (at_lookup; go_must (refine wpList_look_ok _ rfl _ _ 76 rfl 9 9 strKeyed Try.underlying76 (zeroStr _) (m0 + 2) nh _ rfl HH.out _ _ rfl HK.out (.string x.holder) true hv1.out hv2.out ?_))
                    obtain ⟨w6, hrun6, hown6, hturn6⟩ := MapIs.store (w := wc.drew) (MapIs.fr HH.out ((Fr.refl (fun _ => False) wc).drew) id) strKeyed Try.underlying76 hnh.out (val := .string ho) HK.out
                    obtain ⟨w7, hrun7, hown7, hturn7⟩ := MapIs.store (w := w6) (MapIs.fr (MapIs.fr HU.out ((Fr.refl (fun _ => False) wc).drew) id) (Fr.turned (fun j => j = m0 + 2) hturn6 rfl) (by omega)) strKeyed Try.underlying77 hnu.out (val := .int .i64 l2) HK.out
                    have hr8 := (hturn6.grown.block p8 g1 (by simp; omega)).trans Hr8.out
                    have hry := (hturn6.grown.block p9 g2 (by simp; omega)).trans Hr9.out
                    have x3 := cell_of_row w6 p8 3 _ _ _ hr8
                    have x4 := cell_of_row w6 p8 4 _ _ _ hr8
                    have y2' := cell_of_row w6 p9 2 _ _ _ hry
                    have Hown6 := Lib.hid hown6
                    have Hturn6 := Lib.hid hturn6
                    have Hown7 := Lib.hid hown7
                    have Hturn7 := Lib.hid hturn7
                    clear hown6 hturn6 hown7 hturn7 hr8 hry
                    go_region
                    go_wp2_with fail
                    have hF0 : Fr (fun _ => False) wc wc.drew := (Fr.refl _ wc).drew
                    have hFa : Fr (fun j => j = m0 + 2) wc.drew w6 := Fr.turned (fun j => j = m0 + 2) Hturn6.out rfl
                    have hFb : Fr (fun j => j = m0 + 3) w6 w7 := Fr.turned (fun j => j = m0 + 3) Hturn7.out rfl
                    have hF6 : Fr (fun j => m0 ≤ j) wp w7 := (((HX.out.2.1.weaken (T := fun j => m0 ≤ j) (fun i h => by have : i = m0 := h; omega)).trans hF0 (fun i h => h.elim)).trans hFa (fun i h => .inl (by have : i = m0 + 2 := h; omega))).trans hFb (fun i h => .inl (by have : i = m0 + 3 := h; omega))
                    have hh6 := Hown6.out
                    have hu7 := Hown7.out
                    rw [fset_byStr Value.string (hOf b) nm.data.toList ho] at hh6
                    rw [fset_byStr (Value.int .i64) (uOf b) nm.data.toList l2] at hu7
                    go_roundw
                    case rel => exact ⟨k + 1, now + st, b2, _, _, by omega, by go_num, rfl, by omega, by omega, hI.out.next hF6 (((HX.out.1.fr hF0 id id).fr hFa (by omega) (by omega)).fr hFb (by omega) (by omega)) (by have := hI.out.n; have := HX.out.2.2.size; omega) (MapIs.fr hh6 hFb (by omega)) (Hsh.out) hu7 (sync_set HX.out.2.2.only Hgood.out.1) (by have := hI.out.h; split <;> omega) (by have := hI.out.u; split <;> omega)⟩
                    case measure => simp [intOf]; omega
                  · have hb1 : (x.holder.toList == ho.toList) = false := beq_eq_false_iff_ne.2 (fun h => hh (toList_inj.1 h))
                    have hb2 : ¬ x.holder.toList = ho.toList := fun h => hh (toList_inj.1 h)
                    have hle : x.till ≤ now + st := by have := Hfree.out x hf hh; omega
                    have hdd : decide (now + st < x.till) = false := decide_eq_false (by omega)
                    clear hf hh
                    go_wp2_with (first | (at_lookup; refine wpList_look_ok _ rfl _ _ 76 rfl 9 9 strKeyed Try.underlying76 (zeroStr _) (m0 + 2) nh _ rfl HH.out _ _ rfl HK.out (.string x.holder) true hv1.out hv2.out ?_) | (at_lookup; refine wpList_look_g _ rfl _ _ 77 rfl 9 2 strKeyed Try.underlying77 (zeroI64 _) (m0 + 3) nu _ rfl HU.out _ _ rfl HK.out (.int .i64 x.till) hv3.out ?_))
                    obtain ⟨w6, hrun6, hown6, hturn6⟩ := MapIs.store (w := wc.drew) (MapIs.fr HH.out ((Fr.refl (fun _ => False) wc).drew) id) strKeyed Try.underlying76 hnh.out (val := .string ho) HK.out
                    obtain ⟨w7, hrun7, hown7, hturn7⟩ := MapIs.store (w := w6) (MapIs.fr (MapIs.fr HU.out ((Fr.refl (fun _ => False) wc).drew) id) (Fr.turned (fun j => j = m0 + 2) hturn6 rfl) (by omega)) strKeyed Try.underlying77 hnu.out (val := .int .i64 l2) HK.out
                    have hr8 := (hturn6.grown.block p8 g1 (by simp; omega)).trans Hr8.out
                    have hry := (hturn6.grown.block p9 g2 (by simp; omega)).trans Hr9.out
                    have x3 := cell_of_row w6 p8 3 _ _ _ hr8
                    have x4 := cell_of_row w6 p8 4 _ _ _ hr8
                    have y2' := cell_of_row w6 p9 2 _ _ _ hry
                    have Hown6 := Lib.hid hown6
                    have Hturn6 := Lib.hid hturn6
                    have Hown7 := Lib.hid hown7
                    have Hturn7 := Lib.hid hturn7
                    clear hown6 hturn6 hown7 hturn7 hr8 hry
                    go_region
                    go_wp2_with fail
                    have hF0 : Fr (fun _ => False) wc wc.drew := (Fr.refl _ wc).drew
                    have hFa : Fr (fun j => j = m0 + 2) wc.drew w6 := Fr.turned (fun j => j = m0 + 2) Hturn6.out rfl
                    have hFb : Fr (fun j => j = m0 + 3) w6 w7 := Fr.turned (fun j => j = m0 + 3) Hturn7.out rfl
                    have hF6 : Fr (fun j => m0 ≤ j) wp w7 := (((HX.out.2.1.weaken (T := fun j => m0 ≤ j) (fun i h => by have : i = m0 := h; omega)).trans hF0 (fun i h => h.elim)).trans hFa (fun i h => .inl (by have : i = m0 + 2 := h; omega))).trans hFb (fun i h => .inl (by have : i = m0 + 3 := h; omega))
                    have hh6 := Hown6.out
                    have hu7 := Hown7.out
                    rw [fset_byStr Value.string (hOf b) nm.data.toList ho] at hh6
                    rw [fset_byStr (Value.int .i64) (uOf b) nm.data.toList l2] at hu7
                    go_roundw
                    case rel => exact ⟨k + 1, now + st, b2, _, _, by omega, by go_num, rfl, by omega, by omega, hI.out.next hF6 (((HX.out.1.fr hF0 id id).fr hFa (by omega) (by omega)).fr hFb (by omega) (by omega)) (by have := hI.out.n; have := HX.out.2.2.size; omega) (MapIs.fr hh6 hFb (by omega)) (Hsh.out) hu7 (sync_set HX.out.2.2.only Hgood.out.1) (by have := hI.out.h; split <;> omega) (by have := hI.out.u; split <;> omega)⟩
                    case measure => simp [intOf]; omega
              · have heb : (e == 0) = false := beq_eq_false_iff_ne.2 he
                clear he
                have hG := get_any36 (m0 + 1) m0 b2 nm wc HX.out.1 Hnm.out
                cases hf : b2.f nm.data.toList with
                | none =>
                  rw [hf] at hG
                  have HG : Hid (Calls Try.prog 46 #[.pointer (some ⟨m0 + 1, 0, none⟩), .string nm] wc fun e w' => e = .returned (.tuple #[.agg #[.string ⟨#[]⟩, .string ⟨#[]⟩, .int .i64 0, .int .i64 0], .bool false]) ∧ Below wc.heap.size wc w') := hG
                  have Hf := Lib.hid hf
                  clear hf hG
                  go_wp2_with fail
                  refine HG.out.mono ?_
                  rintro e' w5 ⟨rfl, hb5⟩
                  have HB5 := Lib.hid hb5
                  clear hb5
                  go_wp2_with fail
                  have hF0 : Fr (fun _ => False) wc (w5.alloc (.cells #[.string ⟨#[]⟩, .string ⟨#[]⟩, .int .i64 0, .int .i64 0] 81)) := (Fr.of_below HB5.out _).alloc _
                  have hF6 := HX.out.2.1.trans hF0 (fun i h => h.elim)
                  go_roundw
                  case rel => exact ⟨k + 1, now + st, b2, nh, nu, by omega, by go_num, rfl, by omega, by omega, hI.out.next (hF6.weaken (fun i h => by have : i = m0 := h; show m0 ≤ i; omega)) (HX.out.1.fr hF0 id id) (by have := hI.out.n; have := HX.out.2.2.size; omega) (MapIs.fr HH.out hF0 id) (sync_none HX.out.2.2.only HX.out.2.2.stays Hf.out) (MapIs.fr HU.out hF0 id) (sync_none HX.out.2.2.only HX.out.2.2.stays Hf.out) (by have := hI.out.h; omega) (by have := hI.out.u; omega)⟩
                  case measure => simp [intOf]; omega
                | some y =>
                  obtain ⟨y0, y1, y2, y3⟩ := y
                  rw [hf] at hG
                  have HG : Hid (Calls Try.prog 46 #[.pointer (some ⟨m0 + 1, 0, none⟩), .string nm] wc fun e w' => e = .returned (.tuple #[.agg #[.string y0, .string y1, .int .i64 y2, .int .i64 y3], .bool true]) ∧ Below wc.heap.size wc w') := hG
                  have Hf := Lib.hid hf
                  clear hf hG
                  go_wp2_with fail
                  refine HG.out.mono ?_
                  rintro e' w5 ⟨rfl, hb5⟩
                  obtain ⟨hc5, hf5⟩ := bcell hb5
                  have hz5 := hb5.size
                  have g5 : p8 < w5.heap.size := by omega
                  have g6 : p9 < w5.heap.size := by omega
                  have HB5 := Lib.hid hb5
                  clear hb5
                  go_wp2_with fail
                  obtain ⟨w6, hrun6, hown6, hturn6⟩ := MapIs.store (w := (w5.alloc (.cells #[.string y0, .string y1, .int .i64 y2, .int .i64 y3] 81)).drew) (MapIs.below HH.out ((HB5.out.alloc (by omega) _).drew)) strKeyed Try.underlying76 hnh.out (val := .string y1) HK.out
                  obtain ⟨w7, hrun7, hown7, hturn7⟩ := MapIs.store (w := w6) (MapIs.fr (MapIs.below HU.out ((HB5.out.alloc (by omega) _).drew)) (Fr.turned (fun j => j = m0 + 2) hturn6 rfl) (by omega)) strKeyed Try.underlying77 hnu.out (val := .int .i64 y2) HK.out
                  have hr8 := (hturn6.grown.block p8 (by simp [World.drew]; omega) (by simp; omega)).trans ((Below.heap_alloc w5 (.cells #[.string y0, .string y1, .int .i64 y2, .int .i64 y3] 81) _ g5).trans ((HB5.out.block p8 g1).trans Hr8.out))
                  have hry := (hturn6.grown.block w5.heap.size (by simp [World.drew]) (by simp; omega)).trans (heap_alloc_new w5 _)
                  have x3 := cell_of_row w6 p8 3 _ _ _ hr8
                  have y1' := cell_of_row w6 w5.heap.size 1 _ _ _ hry
                  have y2' := cell_of_row w6 w5.heap.size 2 _ _ _ hry
                  clear hr8 hry
                  have Hown6 := Lib.hid hown6
                  have Hturn6 := Lib.hid hturn6
                  have Hown7 := Lib.hid hown7
                  have Hturn7 := Lib.hid hturn7
                  clear hown6 hturn6 hown7 hturn7
                  go_region
                  go_wp2_with fail
                  have hF0 : Fr (fun _ => False) wc (w5.alloc (.cells #[.string y0, .string y1, .int .i64 y2, .int .i64 y3] 81)).drew := ((Fr.of_below HB5.out _).alloc _).drew
                  have hFa : Fr (fun j => j = m0 + 2) (w5.alloc (.cells #[.string y0, .string y1, .int .i64 y2, .int .i64 y3] 81)).drew w6 := Fr.turned (fun j => j = m0 + 2) Hturn6.out rfl
                  have hFb : Fr (fun j => j = m0 + 3) w6 w7 := Fr.turned (fun j => j = m0 + 3) Hturn7.out rfl
                  have hF6 : Fr (fun j => m0 ≤ j) wp w7 := (((HX.out.2.1.weaken (T := fun j => m0 ≤ j) (fun i h => by have : i = m0 := h; omega)).trans hF0 (fun i h => h.elim)).trans hFa (fun i h => .inl (by have : i = m0 + 2 := h; omega))).trans hFb (fun i h => .inl (by have : i = m0 + 3 := h; omega))
                  have hh6 := Hown6.out
                  have hu7 := Hown7.out
                  rw [fset_byStr Value.string (hOf b) nm.data.toList y1] at hh6
                  rw [fset_byStr (Value.int .i64) (uOf b) nm.data.toList y2] at hu7
                  go_roundw
                  case rel => exact ⟨k + 1, now + st, b2, _, _, by omega, by go_num, rfl, by omega, by omega, hI.out.next hF6 (((HX.out.1.fr hF0 id id).fr hFa (by omega) (by omega)).fr hFb (by omega) (by omega)) (by have := hI.out.n; have := HX.out.2.2.size; omega) (MapIs.fr hh6 hFb (by omega)) (sync_set HX.out.2.2.only Hf.out) hu7 (sync_set HX.out.2.2.only Hf.out) (by have := hI.out.h; split <;> omega) (by have := hI.out.u; split <;> omega)⟩
                  case measure => simp [intOf]; omega
        · have q0 : (kd == 0) = false := by rw [beq_eq_false_iff_ne]; omega
          have q1 : (kd == 1) = false := by rw [beq_eq_false_iff_ne]; omega
          have q2 : (kd == 2) = false := by rw [beq_eq_false_iff_ne]; omega
          clear hk3
          have hG := give_any (m0 + 1) m0 b nm ho (now + st) (wp.alloc (.cells #[.int .i64 kd, .int .i64 tk, .int .u16 st, .string nm, .string ho] 79)) (hI.out.board.fr ((Fr.refl (fun _ => False) wp).alloc _) id id) Hnm.out (by have := hI.out.n; omega)
          have hC := give_cases b nm ho (now + st)
          unfold GivePost at hG
          obtain ⟨p, hp⟩ : ∃ p, giveOf b nm ho (now + st) = p := ⟨_, rfl⟩
          rw [hp] at hG hC
          clear hp
          obtain ⟨r, b'⟩ := p
          dsimp only at hG hC
          have HG := Lib.hid hG
          clear hG
          rcases hC with ⟨hr0, rfl⟩ | ⟨rfl, l, x, rfl, hl1, hl2, hx1, hx2⟩
          · have hrb : (r == 0) = false := beq_eq_false_iff_ne.2 hr0
            go_wp2_with fail
            refine HG.out.mono ?_
            rintro e w3 ⟨rfl, hB3, hF3⟩
            have HB3 := Lib.hid hB3
            have HF3 := Lib.hid hF3
            clear hB3 hF3
            go_wp2_with fail
            have hF4 : Fr (fun j => j = m0) wp w3 := ((Fr.refl (fun j => j = m0) wp).alloc _).trans HF3.out (fun i h => .inl h)
            go_roundw
            case rel => exact ⟨k + 1, now + st, b', nh, nu, by omega, by go_num, rfl, by omega, by omega, hI.out.next (hF4.weaken (fun i h => by rw [h]; exact Nat.le_refl _)) HB3.out (by have := hI.out.n; omega) (MapIs.fr hI.out.hs hF4 (by omega)) rfl (MapIs.fr hI.out.us hF4 (by omega)) rfl (by have := hI.out.h; omega) (by have := hI.out.u; omega)⟩
            case measure => simp [intOf]; omega
          · go_wp2_with fail
            refine HG.out.mono ?_
            rintro e w3 ⟨rfl, hB3, hF3⟩
            have hr := hF3.heap (heap_alloc_new wp (.cells #[.int .i64 kd, .int .i64 tk, .int .u16 st, .string nm, .string ho] 79)) (by omega)
            have d3 := cell_of_row w3 wp.heap.size 3 _ _ _ hr
            have d4 := cell_of_row w3 wp.heap.size 4 _ _ _ hr
            have hz3 := hF3.size
            simp only [World.size_alloc] at hz3
            have HB3 := Lib.hid hB3
            have hF4 : Fr (fun j => j = m0) wp w3 := ((Fr.refl (fun j => j = m0) wp).alloc _).trans hF3 (fun i h => .inl h)
            have HF4 := Lib.hid hF4
            have HH := Lib.hid (MapIs.fr hI.out.hs hF4 (by omega))
            have HU := Lib.hid (MapIs.fr hI.out.us hF4 (by omega))
            have hvl : Hid ((byStr Value.string (hOf b) (.string nm.data.toList)).getD (.string ⟨#[]⟩) = .string ho) := by simp [byStr, hOf, hx1, hx2, Hid]
            have hnu : Hid (nu < maxLen) := by have := hI.out.u; unfold Hid maxLen; omega
            have hbb : (ho.toList == ho.toList) = true := by simp
            clear hB3 hF3 hr hF4
            go_wp2_with (first | (at_lookup; go_must (refine wpList_look _ rfl _ _ 76 rfl 9 9 strKeyed Try.underlying76 (zeroStr _) (m0 + 2) nh _ rfl HH.out _ _ rfl HK.out (.string ho) hvl.out ?_)) | (at_mapUpdate; go_must (refine wpList_map_store _ rfl _ _ _ 77 rfl 9 2 strKeyed Try.underlying77 (m0 + 3) nu _ rfl HU.out hnu.out _ (.int .i64 (now + st)) _ rfl rfl HK.out _ rfl ?_; intro w4 hown4 hturn4)))
            go_roundw
            case rel =>
              have hF5 := (HF4.out.weaken (T := fun j => m0 ≤ j) (fun i h => by have : i = m0 := h; omega)).trans (Fr.turned (fun j => j = m0 + 3) hturn4 rfl) (fun i h => .inl (by have : i = m0 + 3 := h; omega))
              have hF6 : Fr (fun j => j = m0 + 3) w3 w4 := Fr.turned (fun j => j = m0 + 3) hturn4 rfl
              rw [show (Value.int .i64 (now + st)) = (Value.int .i64 l.till) by rw [hl2], fset_byStr] at hown4
              exact ⟨k + 1, now + st, _, nh, _, by omega, by go_num, rfl, by omega, by omega, hI.out.next hF5 (HB3.out.fr hF6 (by omega) (by omega)) (by have := hI.out.n; have := (OnlyAt.putAt b nm.data.toList l).size; omega) (MapIs.fr HH.out hF6 (by omega))
                (sync_keep (OnlyAt.putAt b nm.data.toList l).other hx1 (putAt_same _ _ _) (hx2.trans hl1.symm)) hown4 (sync_set (OnlyAt.putAt b nm.data.toList l).other (putAt_same _ _ _)) (by have := hI.out.h; omega) (by have := hI.out.u; split <;> omega)⟩
            case measure => simp [intOf]; omega
      · go_wp2_with fail
        go_ret
        exact ⟨rfl, H1.out.trans (hI.out.below.mono (by rw [← hm0'.out]; exact H1.out.size))⟩
theorem LeaseAlone_holds : Rows.LeaseAloneSaid := lLeaseAlone.over fun ao n cap w h0 => by
  obtain ⟨_, _, _, ls, e0, hS⟩ := SlR.of_rel h0 (fun c hc => act36_of w c hc)
  simp [Value.cells] at e0
  obtain ⟨rfl, rfl, rfl⟩ := e0
  exact leaseAlone_core ls _ _ _ w hS
end Go.Proofs.Ytbhhjlnjhlagdaa
