/- The stable sort at any elements. Condition: the row lies in a block of its own. || The stable sort of no elements; elements with their places. No condition. || Maps that hold any values, read as a partial function of the key. No condition. || Rows, maps and sizes that a loop's book-keeping leaves alone. No condition; no program. || A store of a part of an element of a row. No condition; no program. -/
import Derived.Test.YtpbppgfogepjeaaStRoom8
import Derived.Test.YtpbppgfogepjeaaFrame
import Derived.Maps.OwnSet
import Derived.Maps.RangeWalk
import Derived.StillTailTactics
import Derived.RangeFuncNested
import Derived.RangeFuncBound
import Derived.RangeFuncCalls
import Derived.RangeFuncLeaves
import Derived.RangeFuncFrom
import Derived.Shelf.Abstract
import Derived.OwnWalkIn
import Derived.Test.YtpbppgfogepjeaaShapesM
import Derived.Test.YtpbppgfogepjeaaPhaseM
namespace Go.Proofs.Ytpbppgfogepjeaa
open Go.ChangeShapes Go.WideShapes Go.ChangeAt Go.RowKit Go.Deep

theorem mid_parts {α : Type} {tag : α → Nat} {T : α → α → Prop} {D d : List α} {bs k x m b : Nat} (hbs : 0 < bs) (hD : D.Pairwise fun x y => tag x < tag y) (h : Ph2 T D d bs k) (hx : x = k * (2 * bs)) (hm : x + bs = m)
    (hb : b = x + 2 * bs ∨ (b = D.length ∧ D.length ≤ x + 2 * bs)) (hmb : m < b) (hbn : b ≤ D.length) :
    ∃ P L R S, d = P ++ L ++ R ++ S ∧ P.length = x ∧ x + L.length = m ∧ m + R.length = b ∧ 0 < L.length ∧ 0 < R.length ∧ L.Pairwise T ∧ R.Pairwise T ∧ (∀ x ∈ L, ∀ y ∈ R, tag x < tag y) ∧
      ∀ M, MrgOK T L R M → Ph2 T D (P ++ M ++ S) bs (k + 1) := by
  subst hx hm
  have hk1 : (k + 1) * (2 * bs) = k * (2 * bs) + 2 * bs := by rw [Nat.add_mul, Nat.one_mul]
  rw [← hk1] at hb
  obtain ⟨p1, p2, p3, p4, p5⟩ := ph2_pre hD h b hb (by omega)
  have hl := h.1
  refine ⟨d.take (k * (2 * bs)), segL d (k * (2 * bs)) (k * (2 * bs) + bs), segL d (k * (2 * bs) + bs) b, d.drop b, ?_, by simp; omega, ?_, ?_, ?_, ?_, p1, p2, p3, fun M hM => ph2_step hbs h hb (by omega) hbn p4 p5 hM⟩
  · conv => lhs; rw [← take_seg_drop d (show k * (2 * bs) ≤ b by omega)]
    rw [← segL_append d (show k * (2 * bs) ≤ k * (2 * bs) + bs by omega) (by omega : _ ≤ b)]
    simp
  · rw [segL_len d (by omega)]; omega
  · rw [segL_len d (by omega)]; omega
  · rw [segL_len d (by omega)]; omega
  · rw [segL_len d (by omega)]; omega

set_option maxRecDepth 100000 in
set_option maxHeartbeats 1500000 in
theorem stable_Room (D : List TRoom) (rest : List Value) (gb n cap : Nat) (w : World) (hR : SRowK tRoom 57 w w gb rest D) (hn : D.length = n) (hcm : n < 1152921504606846976) (hD : D.Pairwise fun x y => x.2 < y.2) :
    Calls Try.prog 85 #[.slice (some ⟨gb, 0, none⟩) n cap, .int .i64 n, .func (.func 42) #[] #[]] w fun e w' => e = .returned (.tuple #[]) ∧ ∃ d', SRowK tRoom 57 w w' gb rest d' ∧ d'.Perm D ∧ d'.Pairwise TORoom := by
  have HR := Lib.hid hR
  have HD := Lib.hid hD
  have HN := Lib.hid hn
  clear hR hD hn
  go_enter Try.func85, Try.ntmps85
  go_wp2_with fail
  go_loopw [7, 8] (fun va vb wr => ∃ (k x y : Nat) (d1 : List TRoom), va = .int .i64 x ∧ vb = .int .i64 y ∧ Hid (y = x + 20) ∧ x ≤ n ∧ Hid (x = k * 20) ∧ Hid (SRowK tRoom 57 w wr gb rest d1) ∧ Hid (Ph1 TORoom D d1 k)) (fun _ vb _ => n + 20 - (intOf vb).toNat)
  case atStart => exact ⟨0, 0, 20, D, rfl, rfl, rfl, Nat.zero_le _, rfl, HR.out, ph1_start D⟩
  case round =>
    obtain ⟨k, x, y, d1, rfl, rfl, hy, hxn, hx, hS, hP⟩ := hrel
    have hl1 : Hid (d1.length = n) := by have := hP.out.1; have := HN.out; show _ = _; omega
    have hseg : ∀ b, (segL d1 x b).Pairwise fun x y => x.2 < y.2 := fun b => by
      rw [hx.out, seg_of_drop hP.out.2.1]
      exact segL_pair HD.out _ _
    have HSeg := Lib.hid hseg
    have hxy : x ≤ y := by have := hy.out; omega
    obtain ⟨y2, hy2⟩ : ∃ y2, y + 20 = y2 := ⟨_, rfl⟩
    have f0 : (y : Int) + 20 = (y2 : Int) := by omega
    have HY2 := Lib.hid hy2
    have hS' := hS
    clear hseg hy2
    by_cases hlt : y ≤ n
    · have hIn := Lib.hid (insertion_Room d1 rest gb n cap x y wr hS.out.self hl1.out (by omega) hxy hlt (HSeg.out y))
      go_wp2_with fail
      refine hIn.out.mono ?_
      rintro e w2 ⟨rfl, d2, h2, ho⟩
      have HS2 := Lib.hid (hS'.out.trans h2)
      have HP2 : Hid (Ph1 TORoom D d2 (k + 1)) := by
        have hh := hP.out
        refine ph1_step hh (by have := hx.out; have := hy.out; have := HN.out; omega) ?_
        rw [show (k + 1) * 20 = y by have := hx.out; have := hy.out; omega, ← hx.out]
        exact ho
      clear h2 ho
      go_wp2_with fail
      go_roundw
      case rel => exact ⟨k + 1, y, y2, d2, rfl, rfl, HY2.out.symm, hlt, by have := hx.out; have := hy.out; show _ = _; omega, HS2.out, HP2.out⟩
      case measure => have := HY2.out; simp [intOf]; omega
    · have hIn := Lib.hid (insertion_Room d1 rest gb n cap x n wr hS.out.self hl1.out (by omega) hxn (Nat.le_refl _) (HSeg.out n))
      go_wp2_with fail
      refine hIn.out.mono ?_
      rintro e w2 ⟨rfl, d2, h2, ho⟩
      have HS2 := Lib.hid (hS'.out.trans h2)
      have HB : Hid (Blks TORoom D d2 20) := by
        have hh := hP.out
        refine ph1_end hh (by have := hx.out; have := HN.out; omega) (by have := hx.out; have := hy.out; have := HN.out; omega) ?_
        rw [HN.out, ← hx.out]
        exact ho
      clear h2 ho hP hS' hS hl1 HSeg
      go_wp2_with fail
      go_loopw [6, 7, 8, 9] (fun v6 _ _ _ wr => ∃ (bs : Nat) (d3 : List TRoom), v6 = .int .i64 bs ∧ 0 < bs ∧ bs ≤ 2 * n + 20 ∧ Hid (SRowK tRoom 57 w wr gb rest d3) ∧ Hid (Blks TORoom D d3 bs)) (fun v6 _ _ _ _ => n - (intOf v6).toNat)
      case atStart => exact ⟨20, d2, rfl, by omega, by omega, HS2.out, HB.out⟩
      case round =>
        obtain ⟨bs, d3, rfl, hb0, hb2, hS3, hB3⟩ := hrel
        by_cases hbn : bs < n
        · obtain ⟨b2, hb2e⟩ : ∃ b2, 2 * bs = b2 := ⟨_, rfl⟩
          have f1 : (2 : Int) * (bs : Int) = (b2 : Int) := by omega
          have HB2 := Lib.hid hb2e
          have hb2n : b2 < 2 * n := by omega
          have hb2p : 0 < b2 := by omega
          have hP3 := Lib.hid (ph2_start hB3.out)
          have hS3' := hS3
          clear hb2e
          obtain ⟨wp, rfl⟩ : ∃ wp : World, wp = wr := ⟨_, rfl⟩
          go_wp2_with fail
          go_loopw [7, 8] (fun va vb wr => ∃ (k x y : Nat) (d4 : List TRoom), va = .int .i64 x ∧ vb = .int .i64 y ∧ Hid (y = x + b2) ∧ x ≤ n ∧ Hid (x = k * (2 * bs)) ∧ Hid (SRowK tRoom 57 w wr gb rest d4) ∧ Hid (Ph2 TORoom D d4 bs k)) (fun _ vb _ => n + b2 - (intOf vb).toNat)
          case atStart => exact ⟨0, 0, b2, d3, rfl, rfl, by show _ = _; omega, Nat.zero_le _, by show _ = _; omega, hS3'.out, hP3.out⟩
          case round =>
            obtain ⟨k', x', y', d4, rfl, rfl, hy', hxn', hx', hS4, hP4⟩ := hrel
            obtain ⟨wq, rfl⟩ : ∃ wq : World, wq = wr := ⟨_, rfl⟩
            obtain ⟨m, hm⟩ : ∃ m, x' + bs = m := ⟨_, rfl⟩
            have f2 : (x' : Int) + (bs : Int) = (m : Int) := by omega
            have hk1 : (k' + 1) * (2 * bs) = k' * (2 * bs) + 2 * bs := by rw [Nat.add_mul, Nat.one_mul]
            have HK := Lib.hid hk1
            have HM0 := Lib.hid hm
            have hxm : x' ≤ m := by omega
            have hmx : m < x' + n := by omega
            have hyx : y' < x' + 2 * n := by have := hy'.out; omega
            have hyp : x' < y' := by have := hy'.out; omega
            clear hk1 hm
            by_cases hlt' : y' ≤ n
            · obtain ⟨P, L, R, S, hd, q1, q2, q3, q4, q5, q6, q7, q8, q9⟩ := mid_parts (b := y') hb0 HD.out hP4.out hx'.out HM0.out (.inl (by have := hy'.out; have := HB2.out; omega)) (by have := hy'.out; have := HB2.out; have := HM0.out; omega) (by rw [HN.out]; omega)
              have hl : (P ++ L ++ R ++ S).length = n := by rw [← hd, hP4.out.1, HN.out]
              have hrow := hS4.out
              rw [hd] at hrow
              have HI := Lib.hid (symMerge_Room (y' - x') P L R S rest gb n cap x' m y' wq (Nat.le_refl _) hrow.self hl (by omega) q1 q2 q3 q4 q5 q6 q7 q8)
              have HQ := Lib.hid q9
              have HW := Lib.hid hrow
              clear hd q1 q2 q3 q4 q5 q6 q7 q8 q9 hl hrow
              obtain ⟨y2, hy2⟩ : ∃ y2, y' + b2 = y2 := ⟨_, rfl⟩
              have f3 : (y' : Int) + (b2 : Int) = (y2 : Int) := by omega
              have HY3 := Lib.hid hy2
              clear hy2
              go_wp2_with fail
              refine HI.out.mono ?_
              rintro e w4 ⟨rfl, M, hM, h4⟩
              have HS5 := Lib.hid (HW.out.trans h4)
              have HP5 := Lib.hid (HQ.out M hM)
              clear hM h4
              go_wp2_with fail
              go_roundw
              case rel => exact ⟨k' + 1, y', y2, _, rfl, rfl, HY3.out.symm, hlt', by have := hx'.out; have := hy'.out; have := HB2.out; have := HK.out; show _ = _; omega, HS5.out, HP5.out⟩
              case measure => have := HY3.out; simp [intOf]; omega
            · by_cases hmn : m < n
              · obtain ⟨P, L, R, S, hd, q1, q2, q3, q4, q5, q6, q7, q8, q9⟩ := mid_parts (b := n) hb0 HD.out hP4.out hx'.out HM0.out (.inr ⟨HN.out.symm, by have := hy'.out; have := HB2.out; rw [HN.out]; omega⟩) hmn (by rw [HN.out]; omega)
                have hl : (P ++ L ++ R ++ S).length = n := by rw [← hd, hP4.out.1, HN.out]
                have hrow := hS4.out
                rw [hd] at hrow
                have HI := Lib.hid (symMerge_Room (n - x') P L R S rest gb n cap x' m n wq (Nat.le_refl _) hrow.self hl (by omega) q1 q2 q3 q4 q5 q6 q7 q8)
                have HQ := Lib.hid q9
                have HW := Lib.hid hrow
                clear hd q1 q2 q3 q4 q5 q6 q7 q8 q9 hl hrow
                have f4 : (bs : Int) * 2 = (b2 : Int) := by have := HB2.out; omega
                go_wp2_with fail
                refine HI.out.mono ?_
                rintro e w4 ⟨rfl, M, hM, h4⟩
                have HS5 := Lib.hid (HW.out.trans h4)
                have HP5 : Hid (Blks TORoom D (P ++ M ++ S) b2) := by rw [← HB2.out]; exact ph2_end (HQ.out M hM) (by have := HK.out; have := hx'.out; have := hy'.out; have := HB2.out; rw [HN.out]; omega)
                clear hM h4
                go_wp2_with fail
                go_roundw
                case rel => exact ⟨b2, _, rfl, by omega, by omega, HS5.out, HP5.out⟩
                case measure => have := HB2.out; simp [intOf]; omega
              · have HP5 : Hid (Blks TORoom D d4 b2) := by rw [← HB2.out]; exact ph2_skip hP4.out (by have := hx'.out; have := HM0.out; rw [HN.out]; omega)
                have f4 : (bs : Int) * 2 = (b2 : Int) := by have := HB2.out; omega
                have hS5 := hS4
                go_wp2_with fail
                go_roundw
                case rel => exact ⟨b2, d4, rfl, by omega, by omega, hS5.out, HP5.out⟩
                case measure => have := HB2.out; simp [intOf]; omega
        · have HE := Lib.hid (blks_end hB3.out (by rw [HN.out]; omega))
          have hS4 := hS3
          go_wp2_with fail
          refine bodyPost_end (v := .tuple #[]) (by simp [results, Try.results85, go_sem]) rfl ?_
          exact ⟨rfl, d3, hS4.out, HE.out.1, HE.out.2⟩

set_option maxRecDepth 100000 in
theorem sortStable_Room (D : List TRoom) (rest : List Value) (gb n cap : Nat) (w : World) (hR : SRowK tRoom 57 w w gb rest D) (hn : D.length = n) (hcm : n < 1152921504606846976) (hD : D.Pairwise fun x y => x.2 < y.2) :
    Calls Try.prog 41 #[.slice (some ⟨gb, 0, none⟩) n cap, .func (.func 42) #[] #[]] w fun e w' => e = .returned (.tuple #[]) ∧ ∃ d', SRowK tRoom 57 w w' gb rest d' ∧ d'.Perm D ∧ d'.Pairwise TORoom := by
  have HI := Lib.hid (stable_Room D rest gb n cap w hR hn hcm hD)
  clear hR hn hD
  go_enter Try.func41, Try.ntmps41
  go_wp2_with fail
  refine HI.out.mono ?_
  rintro e w4 ⟨rfl, d', h1, h2, h3⟩
  have H1 := Lib.hid h1
  clear h1
  go_wp2_with fail
  refine bodyPost_end (v := .tuple #[]) (by simp [results, Try.results41, go_sem]) rfl ?_
  exact ⟨rfl, d', H1.out, h2, h3⟩
end Go.Proofs.Ytpbppgfogepjeaa
namespace Go.Proofs.Ytpbppgfogepjeaa
open Go.ChangeShapes Go.WideShapes Go.ChangeAt Go.RowKit Go.Deep

set_option maxRecDepth 100000 in
theorem insertion_nil_Room (w : World) : Calls Try.prog 101 #[.slice none 0 0, .int .i64 0, .int .i64 0, .func (.func 42) #[] #[]] w fun e w' => e = .returned (.tuple #[]) ∧ w' = w := by
  go_enter Try.func101, Try.ntmps101
  go_wp2_with fail
  go_loopw [8, 9] (fun vi _ wr => vi = .int .i64 1 ∧ w = wr) (fun vi _ _ => (intOf vi).toNat)
  case atStart => exact ⟨rfl, rfl⟩
  case round =>
    obtain ⟨rfl, rfl⟩ := hrel
    go_wp2_with fail
    refine bodyPost_end (v := .tuple #[]) (by simp [results, Try.results101, go_sem]) rfl ?_
    exact ⟨rfl, rfl⟩

set_option maxRecDepth 100000 in
theorem stable_nil_Room (w : World) : Calls Try.prog 85 #[.slice none 0 0, .int .i64 0, .func (.func 42) #[] #[]] w fun e w' => e = .returned (.tuple #[]) ∧ w' = w := by
  have HI := Lib.hid (insertion_nil_Room w)
  go_enter Try.func85, Try.ntmps85
  go_wp2_with fail
  go_loopw [7, 8] (fun va vb wr => va = .int .i64 0 ∧ vb = .int .i64 20 ∧ w = wr) (fun _ vb _ => (intOf vb).toNat)
  case atStart => exact ⟨rfl, rfl, rfl⟩
  case round =>
    obtain ⟨rfl, rfl, rfl⟩ := hrel
    go_wp2_with fail
    refine HI.out.mono ?_
    rintro e w2 ⟨rfl, rfl⟩
    obtain ⟨wz, rfl⟩ : ∃ wz : World, wz = w2 := ⟨_, rfl⟩
    go_wp2_with fail
    go_loopw [6, 7, 8, 9] (fun v6 _ _ _ wr => v6 = .int .i64 20 ∧ wz = wr) (fun v6 _ _ _ _ => (intOf v6).toNat)
    case atStart => exact ⟨rfl, rfl⟩
    case round =>
      obtain ⟨rfl, rfl⟩ := hrel
      go_wp2_with fail
      refine bodyPost_end (v := .tuple #[]) (by simp [results, Try.results85, go_sem]) rfl ?_
      exact ⟨rfl, rfl⟩

set_option maxRecDepth 100000 in
theorem sortStable_nil_Room (w : World) : Calls Try.prog 41 #[.slice none 0 0, .func (.func 42) #[] #[]] w fun e w' => e = .returned (.tuple #[]) ∧ w' = w := by
  have HI := Lib.hid (stable_nil_Room w)
  go_enter Try.func41, Try.ntmps41
  go_wp2_with fail
  refine HI.out.mono ?_
  rintro e w4 ⟨rfl, rfl⟩
  go_wp2_with fail
  refine bodyPost_end (v := .tuple #[]) (by simp [results, Try.results41, go_sem]) rfl ?_
  exact ⟨rfl, rfl⟩

theorem zipLe_Room {α : Type} : ∀ (xs : List α) (k : Nat), ∀ x ∈ xs.zipIdx k, k ≤ x.2
  | [], _, _, h => by simp at h
  | x :: xs, k, y, h => by
    rw [List.zipIdx_cons, List.mem_cons] at h
    rcases h with rfl | h
    · exact Nat.le_refl _
    · have := zipLe_Room xs (k + 1) y h
      omega
theorem zipRise_Room {α : Type} : ∀ (xs : List α) (k : Nat), (xs.zipIdx k).Pairwise fun x y => x.2 < y.2
  | [], _ => List.Pairwise.nil
  | x :: xs, k => by
    rw [List.zipIdx_cons]
    exact List.pairwise_cons.2 ⟨fun y hy => zipLe_Room xs (k + 1) y hy, zipRise_Room xs (k + 1)⟩
end Go.Proofs.Ytpbppgfogepjeaa
namespace Go.Proofs.Ytpbppgfogepjeaa
open Go.ChangeShapes Go.WideShapes Go.ChangeAt Go.RowKit Go.Deep Go.Maps

def heldElem (v : Value) : Option (DataW Value × List MemPlace) := some (.held v, [])

def Tells (D : DataW Value) (f : Lit → Option Value) : Prop := ∀ kl, Maps.has D kl = (f kl).isSome ∧ ∀ z, D.atKey kl z = ((f kl).map DataW.held).getD z

def fset {α : Type} (f : Lit → Option α) (kl : Lit) (v : α) : Lit → Option α := fun x => if x.sameKey kl = true then some v else f x

def MapIs (w : World) (P : Program) (k : TypeId) (b n : Nat) (f : Lit → Option Value) : Prop := ∃ D, w.ownsMap P k heldElem b n D ∧ Maps.size D = n ∧ Tells D f

theorem ownsMap_size {P : Program} {k : TypeId} {R : Value → Option (DataW Value × List MemPlace)} {w : World} {b n : Nat} {D : DataW Value} (h : w.ownsMap P k R b n D) : w.ownsMap P k R b (Maps.size D) D := by
  obtain ⟨es, clock, h1, h2, _, rfl⟩ := h
  exact ⟨es, clock, h1, h2, by simp [Maps.size, length_sorted], rfl⟩

theorem Tells.nil : Tells (.map []) (fun _ => none) := fun _ => ⟨rfl, fun _ => rfl⟩

section
variable {P : Program} {k : TypeId} {w w' : World} {b n : Nat} {f : Lit → Option Value}

theorem MapIs.made (w : World) (P : Program) (k : TypeId) : MapIs (w.alloc (.map #[] 0)) P k w.heap.size 0 (fun _ => none) :=
  ⟨.map [], World.ownsMap_made w P k heldElem, rfl, Tells.nil⟩

theorem MapIs.lt (h : MapIs w P k b n f) : b < w.heap.size := let ⟨_, h1, _⟩ := h; h1.lt

theorem MapIs.same (h : MapIs w P k b n f) (hb : w'.heap[b]? = w.heap[b]?) : MapIs w' P k b n f := by
  obtain ⟨D, ⟨es, clock, h1, r⟩, hn, h2⟩ := h
  exact ⟨D, ⟨es, clock, hb.trans h1, r⟩, hn, h2⟩

theorem MapIs.fr (h : MapIs w P k b n f) {S : Nat → Prop} (hf : Fr S w w') (hS : ¬ S b) : MapIs w' P k b n f := h.same (hf.block b h.lt hS)
theorem MapIs.below (h : MapIs w P k b n f) (hf : Below w.heap.size w w') : MapIs w' P k b n f := h.same (hf.block b h.lt)

theorem Tells.put {D : DataW Value} (h : Tells D f) (hD : IsMap D) {kl : Lit} (hk : WideAt.IsKeyLit kl) (v : Value) : Tells (D.put kl (.held v)) (fset f kl v) := by
  intro x
  by_cases e : x = kl
  · subst e
    have hs : x.sameKey x = true := by
      cases x <;> simp [Lit.sameKey, WideAt.IsKeyLit] at hk ⊢
    refine ⟨?_, fun z => ?_⟩
    · rw [has_put_same hD hk]; simp [fset, hs]
    · rw [atKey_put_same hD hk]; simp [fset, hs]
  · have hs : x.sameKey kl = false := sameKey_ne e
    refine ⟨?_, fun z => ?_⟩
    · rw [has_put_other e, (h x).1]; simp [fset, hs]
    · rw [atKey_put_other e, (h x).2]; simp [fset, hs]

theorem Fr.turned {b : Nat} (S : Nat → Prop) (h : w.mapTurned w' b) (hS : S b) : Fr S w w' := Fr.grown h.grown (fun k hk => by cases hk; exact hS)

theorem MapIs.look (h : MapIs w P k b n f) {t e : TypeId} (K : Keyed P k) (ht : P.underlying t = some (.map k e)) {z : Value} (hz : (zeroValue e).run P w = .ok z w) {key : Value} {kl : Lit} (hkey : keyOf P k key = some kl) :
    (Instr.lookup t (.map (some b)) key false).run P w = .ok ((f kl).getD z) w := by
  obtain ⟨D, h1, _, h2⟩ := h
  obtain ⟨v, ps, hrun, hv⟩ := h1.lookup K ht hz (zd := .held z) (zp := []) rfl hkey
  rw [(h2 kl).2] at hv
  simp only [heldElem, Option.some.injEq, Prod.mk.injEq] at hv
  rw [hrun]
  cases hf : f kl with
  | none => rw [hf] at hv; simp at hv; rw [hv.1]; rfl
  | some u => rw [hf] at hv; simp at hv; rw [hv.1]; rfl

theorem MapIs.look_ok (h : MapIs w P k b n f) {t e : TypeId} (K : Keyed P k) (ht : P.underlying t = some (.map k e)) {z : Value} (hz : (zeroValue e).run P w = .ok z w) {key : Value} {kl : Lit} (hkey : keyOf P k key = some kl) :
    (Instr.lookup t (.map (some b)) key true).run P w = .ok (.tuple #[(f kl).getD z, .bool (f kl).isSome]) w := by
  obtain ⟨D, h1, _, h2⟩ := h
  obtain ⟨v, ps, hrun, hv⟩ := h1.look_ok K ht hz (zd := .held z) (zp := []) rfl hkey
  rw [(h2 kl).2] at hv
  simp only [heldElem, Option.some.injEq, Prod.mk.injEq] at hv
  rw [hrun, (h2 kl).1]
  cases hf : f kl with
  | none => rw [hf] at hv; simp at hv; rw [hv.1]; rfl
  | some u => rw [hf] at hv; simp at hv; rw [hv.1]; rfl

theorem MapIs.store (h : MapIs w P k b n f) {t e : TypeId} (K : Keyed P k) (ht : P.underlying t = some (.map k e)) (hn : n < maxLen) {key val : Value} {kl : Lit} (hkey : keyOf P k key = some kl) :
    ∃ w', (Instr.mapUpdate t (.map (some b)) key val).run P w = .ok () w' ∧ MapIs w' P k b (if (f kl).isSome then n else n + 1) (fset f kl val) ∧ w.mapTurned w' b := by
  obtain ⟨D, h1, hs, h2⟩ := h
  obtain ⟨w', hr, ho, ht'⟩ := h1.store K ht hn hkey (d := .held val) (ps := []) rfl
  have e : Maps.size (D.put kl (.held val)) = if (f kl).isSome then n else n + 1 := by
    rw [size_put (h1.tidy K), (h2 kl).1, hs]
  exact ⟨w', hr, ⟨_, e ▸ ownsMap_size ho, e, h2.put h1.isMap (K.key hkey) val⟩, ht'⟩

theorem MapIs.len (h : MapIs w P k b n f) {t e : TypeId} (ht : P.underlying t = some (.map k e)) (ty : TypeId) :
    (Builtin.len_ #[t] ty #[.map (some b)]).run P w = .ok (.int .i64 n) w := by
  obtain ⟨D, h1, hs, h2⟩ := h
  rw [← hs]
  exact h1.len ht ty
end

section
variable {P : Program} (w : World) {ops : Array Oper} {rest : List Oper} {o : Oper} {a : Act} {Q : Exit → Act → World → Prop}

theorem wpList_look_ok (hg : o.guard = none) (m x : Operand) (t : TypeId) (hop : o.op = Op.lookup t m x true) (k e : TypeId) (K : Keyed P k) (ht : P.underlying t = some (.map k e)) {z : Value} (hz : (zeroValue e).run P w = .ok z w)
    (b n : Nat) (f : Lit → Option Value) (hm : a.eval m = .map (some b)) (hown : MapIs w P k b n f) (key : Value) (kl : Lit) (hx : a.eval x = key) (hkey : keyOf P k key = some kl)
    (v : Value) (c : Bool) (hv : (f kl).getD z = v) (hc : (f kl).isSome = c)
    (hK : wpList P ops Q rest (a.put o.dst (.tuple #[v, .bool c])) w) : wpList P ops Q (o :: rest) a w := by
  subst hv hc
  refine wpList_plain hg fun K' hK' => ?_
  have hrun := hown.look_ok K ht hz hkey
  unfold Oper.wp
  simp [execOp, hop, hm, hx, hrun, Result.andThen]
  exact hK' _ _ hK

end

section
variable {P : Program} (w : World) {ops : Array Oper} {rest : List Oper} {o : Oper} {a : Act} {Q : Exit → Act → World → Prop}

end


def byStr {α : Type} (enc : α → Value) (f : List UInt8 → Option α) : Lit → Option Value
  | .string s => (f s).map enc
  | _ => none

def sset {α : Type} (f : List UInt8 → Option α) (s : List UInt8) (x : α) : List UInt8 → Option α := fun y => if y = s then some x else f y

theorem fset_byStr {α : Type} (enc : α → Value) (f : List UInt8 → Option α) (s : List UInt8) (x : α) : fset (byStr enc f) (.string s) (enc x) = byStr enc (sset f s x) := by
  funext kl
  cases kl <;> simp [fset, byStr, Lit.sameKey]
  rename_i y
  by_cases h : y = s <;> simp [sset, h]

theorem sset_same {α : Type} (f : List UInt8 → Option α) (s : List UInt8) (x : α) : sset f s x s = some x := by simp [sset]
theorem sset_other {α : Type} (f : List UInt8 → Option α) {s t : List UInt8} (x : α) (h : t ≠ s) : sset f s x t = f t := by simp [sset, h]

theorem byStr_nil {α : Type} (enc : α → Value) : byStr enc (fun _ => none) = fun _ => none := by
  funext kl
  cases kl <;> rfl

def StrMap {α : Type} (enc : α → Value) (w : World) (P : Program) (k : TypeId) (b n : Nat) (f : List UInt8 → Option α) : Prop := MapIs w P k b n (byStr enc f)

theorem StrMap.made {α : Type} (enc : α → Value) (w : World) (P : Program) (k : TypeId) : StrMap enc (w.alloc (.map #[] 0)) P k w.heap.size 0 (fun _ => none) := by
  unfold StrMap
  rw [byStr_nil]
  exact MapIs.made w P k
end Go.Proofs.Ytpbppgfogepjeaa
namespace Go.Proofs.Ytpbppgfogepjeaa
open Go.RowKit Go.Shelf Go.Maps

def RowAtF (W : World) (b : Nat) (cs : Array Value) (t : TypeId) : Prop := W.heap[b]? = some (.cells cs t (0, 0))
theorem RowAtF.lt {W : World} {b : Nat} {cs : Array Value} {t : TypeId} (h : RowAtF W b cs t) : b < W.heap.size := (Array.getElem?_eq_some_iff.1 h).1
theorem RowAtF.kept {W W' : World} {b : Nat} {cs : Array Value} {t : TypeId} {row : Option Nat} (h : RowAtF W b cs t) (hg : W.grownBy W' row) (hr : ∀ r, row = some r → ∃ o : Obj, W.heap[r]? = some o ∧ o.isCells = false) : RowAtF W' b cs t :=
  (hg.block b h.lt (fun e => by obtain ⟨o, ho, hc⟩ := hr b e.symm; rw [show W.heap[b]? = _ from h] at ho; cases ho; cases hc)).trans h
theorem RowAtF.own {β : Type} (B b : Nat) (f : β → Array Value) (t : TypeId) : OwnFrom B (fun (s : β) W => RowAtF W b (f s) t) := fun _ _ _ _ hs hg hr => hs.kept hg (fun r e => (hr r e).2)
theorem RowAtF.alloc {W : World} {b : Nat} {cs : Array Value} {t : TypeId} (h : RowAtF W b cs t) (o : Obj) : RowAtF (W.alloc o) b cs t := (Below.heap_alloc W o b h.lt).trans h
theorem RowAtF.new (W : World) (cs : Array Value) (t : TypeId) : RowAtF (W.alloc (.cells cs t)) W.heap.size cs t := heap_alloc_new W _
theorem RowAtF.other {W : World} {b b' j : Nat} {cs : Array Value} {t : TypeId} (h : RowAtF W b cs t) (hne : b ≠ b') (v : Value) : RowAtF (W.setCell ⟨b', j, none⟩ v) b cs t := (Below.heap_setCell _ _ _ _ hne).trans h
theorem size_own {β : Type} (B n : Nat) : OwnFrom B (fun (_ : β) W => n ≤ W.heap.size) := fun _ _ _ _ hs hg _ => Nat.le_trans hs hg.size
theorem frame_put {S : Nat → Prop} {N : Nat} (hS : ∀ k, N ≤ k → S k) {w : World} (hw : N ≤ w.heap.size) : ∀ (W : World) (l : Nat) (o o' : Obj), w.heap.size ≤ l → W.heap[l]? = some o → o.isCells = false → o.isWalk = false → Fr S W (W.putObj l o') := fun W l o o' hl _ _ _ =>
  Fr.grown (grownBy_putObj' W l o') (fun k hk => by cases hk; exact hS l (by omega))
theorem map_own {β : Type} {P : Program} {k : TypeId} (B b : Nat) (hb : b < B) (n : β → Nat → Prop) (f : β → Lit → Option Value) : OwnFrom B (fun (s : β) W => ∃ c, n s c ∧ MapIs W P k b c (f s)) := fun _ _ _ _ hs hg hr => by
  obtain ⟨c, h1, h2⟩ := hs
  exact ⟨c, h1, h2.same (hg.block b h2.lt (fun e => by have := (hr b e.symm).1; omega))⟩
theorem row_own {β : Type} (B base : Nat) (e : TypeId) (size : Nat) (v : Value) (n : Nat) (xs : List Value) : OwnFrom B (fun (_ : β) W => W.ownsRow base e size v n xs) := fun _ _ _ _ hs hg hr => by
  refine owns_fr (Fr.grown (S := fun k => _ = some k) hg (fun k hk => hk)) hs fun k hk hk2 => ?_
  rcases hs.2 with ⟨rfl, _⟩ | ⟨g, cap, cur, rfl, hb, hh, _⟩
  · cases hk
  · simp only [Value.ownBlock, Option.some.injEq] at hk
    subst hk
    obtain ⟨_, o, ho, hc⟩ := hr _ hk2
    rw [hh] at ho
    cases ho
    cases hc
end Go.Proofs.Ytpbppgfogepjeaa
namespace Go.Proofs.Ytpbppgfogepjeaa
open Go.ChangeShapes Go.WideShapes Go.ChangeAt Go.RowKit Go.Deep

theorem flatMap_set1 {α : Type} {f : α → List Value} {sz : Nat} (hf : ∀ x, (f x).length = sz) : ∀ (zs : List α) (i k : Nat) (u : Value) (z' : α) (rest : List Value) (hi : i < zs.length), k < sz → f z' = (f zs[i]).set k u →
    (zs.flatMap f ++ rest).set (i * sz + k) u = (zs.set i z').flatMap f ++ rest
  | [], i, _, _, _, _, hi, _, _ => by simp at hi
  | z :: zs, 0, k, u, z', rest, _, hk, he => by
    simp only [List.getElem_cons_zero] at he
    rw [Nat.zero_mul, Nat.zero_add, List.flatMap_cons, List.set_cons_zero, List.flatMap_cons, List.append_assoc, List.append_assoc, List.set_append_left _ _ (by rw [hf]; exact hk), he]
  | z :: zs, i + 1, k, u, z', rest, hi, hk, he => by
    have hi' : i < zs.length := by simpa using hi
    simp only [List.getElem_cons_succ] at he
    have ih := flatMap_set1 hf zs i k u z' rest hi' hk he
    have e : (i + 1) * sz + k = (f z).length + (i * sz + k) := by rw [hf, Nat.add_mul]; omega
    rw [List.flatMap_cons, List.set_cons_succ, List.flatMap_cons, List.append_assoc, List.append_assoc, e, List.set_append_right _ _ (by omega), Nat.add_sub_cancel_left, ih]
theorem take_two_drop (L : List Value) (o : Nat) (x y : Value) (h : o + 2 ≤ L.length) : L.take o ++ [x, y] ++ L.drop (o + 2) = (L.set o x).set (o + 1) y := by
  apply List.ext_getElem?
  intro i
  rw [List.append_assoc]
  rcases Nat.lt_or_ge i o with h1 | h1
  · rw [List.getElem?_append_left (by rw [List.length_take]; omega), List.getElem?_take, if_pos h1, List.getElem?_set_ne (by omega), List.getElem?_set_ne (by omega)]
  · rw [List.getElem?_append_right (by rw [List.length_take]; omega), List.length_take, Nat.min_eq_left (by omega)]
    rcases Nat.lt_or_ge i (o + 2) with h2 | h2
    · rcases (show i = o ∨ i = o + 1 by omega) with rfl | rfl
      · rw [Nat.sub_self, List.getElem?_set_ne (by omega), List.getElem?_set_self (by omega)]
        rfl
      · rw [Nat.add_sub_cancel_left, List.getElem?_set_self (by simp; omega)]
        rfl
    · rw [List.getElem?_set_ne (by omega), List.getElem?_set_ne (by omega), List.getElem?_append_right (by simp; omega), List.getElem?_drop]
      congr 1
      simp
      omega
theorem run_store_part {P : Program} {T : TypeId} {size : Nat} (A : AggOK P T size) (w : World) (gb off : Nat) (cs : List Value) (hs : cs.length = size) (h1 : ∀ v ∈ cs, v.oneCell' = true) (cur : Array Value) (e : TypeId) (hrow : w.heap[gb]? = some (.cells cur e (0, 0))) (hlen : off + size ≤ cur.size) :
    (storeVar T ⟨gb, off, none⟩ (.agg cs.toArray)).run P w = .ok () (w.setRow gb (cur.toList.take off ++ cs ++ cur.toList.drop (off + size)).toArray) := by
  obtain ⟨ti, _, hti, _, hsz, _⟩ := A.info
  have hst := run_storeCells_at P gb off e cs 0 cur w hrow (by omega) h1
  rw [Nat.add_zero, hs] at hst
  simp [storeVar, Sem.run_bind, sizeOf, typeInfo, hti, hsz, Value.cells, hs, hst]
theorem wpLoud_store_part {P : Program} {C : World → Prop} {b : Nat} {R : Act → World → Prop} {T : TypeId} {size : Nat} (A : AggOK P T size) {j : Nat} {r : List Nat} {a : Act} {w : World} {l : List Oper} {o : Oper} (ho : nthOp j l = some o) (hg : o.guard = none) (p x : Operand) (hop : o.op = .store T p x) (hd : o.dst = none)
    (gb off : Nat) (cs : List Value) (hs : cs.length = size) (h1 : ∀ v ∈ cs, v.oneCell' = true) (cur : Array Value) (e : TypeId) (hrow : w.heap[gb]? = some (.cells cur e (0, 0))) (hlen : off + size ≤ cur.size) (hp : a.eval p = .pointer (some ⟨gb, off, none⟩)) (hx : a.eval x = .agg cs.toArray)
    (h : (j < b → C (w.setRow gb (cur.toList.take off ++ cs ++ cur.toList.drop (off + size)).toArray)) ∧ wpLoud P l.toArray C b R r a (w.setRow gb (cur.toList.take off ++ cs ++ cur.toList.drop (off + size)).toArray)) : wpLoud P l.toArray C b R (j :: r) a w := by
  have hsv := run_store_part A w gb off cs hs h1 cur e hrow hlen
  refine wpLoud_one (nthOp_spec ho) hg ?_
  unfold execOp
  simp only [hop, hx, hp, Instr.storeAt, Instr.sureAddr, Sem.run_bind, Sem.run_pure, Result.andThen_ok, hsv]
  rw [hd]
  exact h
end Go.Proofs.Ytpbppgfogepjeaa
