/- A store of a part of an element of a row. No condition; no program. || Two fresh variables, made in any order. No condition; no program. || The contract of the reference's Name: the same names. No condition. || The contracts of label's value and Right. Condition: the slice reads. -/
import Derived.Test.YtpbppgfogepjeaaPhase2
import Derived.Test.YtpbppgfogepjeaaName2M
import Derived.Test.YtpbppgfogepjeaaPhaseInv
import Derived.Laws.StructEq
import Derived.Test.YtpbppgfogepjeaaShapesM
import Derived.BigRegion
import Derived.BigQuiet
namespace Go.Proofs.Ytpbppgfogepjeaa
open Go.ChangeShapes Go.WideShapes Go.ChangeAt Go.RowKit Go.Deep

theorem run_store_part {P : Program} {T : TypeId} {size : Nat} (A : AggOK P T size) (w : World) (gb off : Nat) (cs : List Value) (hs : cs.length = size) (h1 : ∀ v ∈ cs, v.oneCell' = true) (cur : Array Value) (e : TypeId) (hrow : w.heap[gb]? = some (.cells cur e (0, 0))) (hlen : off + size ≤ cur.size) :
    (storeVar T ⟨gb, off, none⟩ (.agg cs.toArray)).run P w = .ok () (w.setRow gb (cur.toList.take off ++ cs ++ cur.toList.drop (off + size)).toArray) := by
  obtain ⟨ti, _, hti, _, hsz, _⟩ := A.info
  have hst := run_storeCells_at P gb off e cs 0 cur w hrow (by omega) h1
  rw [Nat.add_zero, hs] at hst
  simp [storeVar, Sem.run_bind, sizeOf, typeInfo, hti, hsz, Value.cells, hs, hst]
end Go.Proofs.Ytpbppgfogepjeaa
namespace Go.Proofs.Ytpbppgfogepjeaa
open Go.ChangeShapes Go.WideShapes Go.ChangeAt Go.RowKit Go.Deep

variable {w0 w' : World} {a b : Bool} {T1 T2 : TypeId} {z1 z2 : Array Value} {v1 v2 : Value}
theorem upon_new {P : Program} {A : Act} {w : World} {o : Oper} {next : Value → World → Prop} {T : TypeId} {z : Array Value} (hrun : (execOp A.eval o).run P w = .ok (.value (.pointer (some ⟨w.heap.size, 0, Option.none⟩))) (w.alloc (.cells z T))) (h : next (.pointer (some ⟨w.heap.size, 0, Option.none⟩)) (w.alloc (.cells z T))) : loudUpon P next ((execOp A.eval o).run P w) := by
  rw [hrun]
  exact h
structure TwoS (w0 w' : World) (a b c e : Bool) (T1 T2 : TypeId) (z1 z2 c1 c2 : Array Value) (v1 v2 : Value) : Prop where
  one : a = true → ∃ k, v1 = .pointer (some ⟨k, 0, Option.none⟩) ∧ w0.heap.size ≤ k ∧ w'.heap[k]? = some (.cells (if c = true then c1 else z1) T1 (0, 0))
  two : b = true → ∃ k, v2 = .pointer (some ⟨k, 0, Option.none⟩) ∧ w0.heap.size ≤ k ∧ w'.heap[k]? = some (.cells (if e = true then c2 else z2) T2 (0, 0))
  ne : a = true → b = true → v1 ≠ v2
  ca : c = true → a = true
  eb : e = true → b = true
variable {c e : Bool} {c1 c2 : Array Value}
theorem TwoS.none : TwoS w0 w' false false false false T1 T2 z1 z2 c1 c2 v1 v2 := ⟨fun h => (by cases h), fun h => (by cases h), fun h => (by cases h), fun h => (by cases h), fun h => (by cases h)⟩
theorem TwoS.first (h : TwoS w0 w' a b c e T1 T2 z1 z2 c1 c2 v1 v2) (ha : a = false) (hb : w0.heap.size ≤ w'.heap.size) : TwoS w0 (w'.alloc (.cells z1 T1)) true b c e T1 T2 z1 z2 c1 c2 (.pointer (some ⟨w'.heap.size, 0, Option.none⟩)) v2 := by
  have hc : c = false := by
    cases c
    · rfl
    · have := h.ca rfl; rw [ha] at this; cases this
  subst hc
  refine ⟨fun _ => ⟨_, rfl, hb, heap_alloc_new _ _⟩, fun h2 => ?_, fun _ h2 e => ?_, fun _ => rfl, h.eb⟩
  · obtain ⟨k, e1, e2, e3⟩ := h.two h2
    exact ⟨k, e1, e2, (Below.heap_alloc _ _ _ (Array.getElem?_eq_some_iff.1 e3).1).trans e3⟩
  · obtain ⟨k, e1, _, e3⟩ := h.two h2
    have := (Array.getElem?_eq_some_iff.1 e3).1
    rw [e1] at e
    simp only [Value.pointer.injEq, Option.some.injEq, Addr.mk.injEq, and_true] at e
    omega
theorem upon_put {P : Program} {A : Act} {w : World} {o : Oper} {next : Value → World → Prop} {T : TypeId} {size : Nat} (G : AggOK P T size) (p x : Operand) (hop : o.op = .store T p x) (gb : Nat) (cs : List Value) (hs : cs.length = size) (h1 : ∀ v ∈ cs, v.oneCell' = true) (cur : Array Value) (hz : cur.size = size)
    (hrow : w.heap[gb]? = some (.cells cur T (0, 0))) (hp : A.eval p = .pointer (some ⟨gb, 0, Option.none⟩)) (hx : A.eval x = .agg cs.toArray) (h : next undef (w.setRow gb cs.toArray)) : loudUpon P next ((execOp A.eval o).run P w) := by
  have hsv := run_store_part G w gb 0 cs hs h1 cur T hrow (by omega)
  unfold execOp
  simp only [hop, hx, hp, Instr.storeAt, Instr.sureAddr, Sem.run_bind, Sem.run_pure, Result.andThen_ok, hsv]
  have e : (cur.toList.take 0 ++ cs ++ cur.toList.drop (0 + size)) = cs := by
    rw [List.take_zero, List.nil_append, Nat.zero_add, List.drop_of_length_le (by simp; omega), List.append_nil]
  rw [e]
  exact h
theorem block_part {w : World} {b : Nat} {cs : Array Value} {t : TypeId} (h : w.heap[b]? = some (.cells cs t (0, 0))) {i : Nat} {n : Nat} (l : List Value) (hl : l = (cs.toList.drop i).take n) : ∀ j u, l[j]? = some u → w.cell? ((⟨b, i, none⟩ : Addr).add j) = some u := fun j u hu => by
  rw [Addr.add_lit, cell_of_row _ b _ _ _ (0, 0) h]
  rw [hl] at hu
  rw [List.getElem?_take] at hu
  split at hu
  · rw [List.getElem?_drop] at hu
    simpa using hu
  · cases hu

end Go.Proofs.Ytpbppgfogepjeaa
namespace Go.Proofs.Ytpbppgfogepjeaa
open Go.ChangeShapes Go.WideShapes Go.ChangeAt Go.RowKit Go.Deep

end Go.Proofs.Ytpbppgfogepjeaa
namespace Go.Proofs.Ytpbppgfogepjeaa
open Go.ChangeShapes Go.WideShapes Go.ChangeAt Go.RowKit Go.Deep

theorem value_any (s : ByteArray) (w : World) : Calls Try.prog 94 #[.string s] w fun e w' => e = .returned (.bool (okVal s)) ∧ w' = w := by
  have HN : Hid (∀ w1, Calls Try.prog 37 #[.string s] w1 fun e w' => e = .returned (.bool (nameOf s.data.toList)) ∧ w1 = w') := fun w1 => name_any s w1
  cases h : s.toList.isEmpty
  · go_enter Try.func94, Try.ntmps94
    go_wp2_with fail
    refine (HN.out _).mono ?_
    rintro e w1 ⟨rfl, rfl⟩
    go_wp2_with fail
    go_ret
    exact ⟨ret_bool (by unfold okVal; rw [h, Bool.false_or]), rfl⟩
  · go_enter Try.func94, Try.ntmps94
    go_wp2_with fail
    go_ret
    exact ⟨ret_bool (by unfold okVal; rw [h, Bool.true_or]), rfl⟩

theorem below_dr {B : Nat} {w0 w : World} (h : Below B w0 w) (n : Nat) : Below B w0 (w.drewN n) := ⟨h.os, h.tape, h.output, h.size, h.block⟩

set_option maxHeartbeats 3200000 in
theorem right_any (xs : List Label) (ao : Option Addr) (la ca : Nat) (w : World) (hS : SlR (Flat Label.cells) 2 w ao la ca xs) :
    Calls Try.prog 70 #[.slice ao la ca] w fun e w' => e = .returned (.bool (labelsOk xs)) ∧ Below w.heap.size w w' := by
  have ha := hS.hmax; have hac := hS.hcap
  unfold maxLen at ha
  go_enter Try.func70, Try.ntmps70
  go_wp2_with fail
  go_loopw [7] (fun i wr => ∃ k : Nat, k ≤ la ∧ i = .int .i64 k ∧ Hid (Good xs k) ∧ Below w.heap.size w wr) (fun i _ => la - (intOf i).toNat)
  case atStart => exact ⟨0, Nat.zero_le _, rfl, Good.zero xs, Below.refl _ _⟩
  case round =>
    obtain ⟨k, hk, rfl, hg, hb⟩ := hrel
    obtain ⟨wq, rfl⟩ : ∃ wq : World, wq = wr := ⟨_, rfl⟩
    by_cases hlt : k < la
    · obtain ⟨b, off, rfl⟩ := hS.ptr (by decide) (by omega)
      have kx : k < xs.length := by have := hS.hlen; omega
      have hSr := hS.flatKeeps (Keeps.below hb)
      have hc := hSr.flat kx
      have c0 := hc 0 _ rfl
      have c1 := hc 1 _ rfl
      rw [Nat.add_zero] at c0
      have hbl := blk c0
      have hsz := hb.size
      have Hb := Lib.hid hb
      have h1 : Hid (okLabel xs[k] = false → labelsOk xs = false) := fun h => labels_no1 kx h
      have h2 : Hid (∀ m, (e : k = m + 1) → keyLt (xs[m]'(by omega)) xs[k] = false → labelsOk xs = false) := fun m e h => labels_no2 (by omega) kx h
      have h3 : Hid (okLabel xs[k] = true → (∀ m, (e : k = m + 1) → keyLt (xs[m]'(by omega)) xs[k] = true) → Good xs (k + 1)) := fun h h' => hg.out.next kx h (fun h0 => by obtain ⟨m, rfl⟩ : ∃ m, k = m + 1 := ⟨k - 1, by omega⟩; exact h' m rfl)
      obtain ⟨x, hx⟩ : ∃ x, xs[k] = x := ⟨_, rfl⟩
      rw [hx] at c0 c1 h1 h2 h3
      obtain ⟨key, val⟩ := x
      dsimp only at c0 c1
      have HN : Hid (∀ w1, Calls Try.prog 37 #[.string key] w1 fun e w' => e = .returned (.bool (nameOf key.data.toList)) ∧ w' = w1) := fun w1 => (name_any key w1).mono fun e w' h => ⟨h.1, h.2.symm⟩
      have HV : Hid (∀ w1, Calls Try.prog 94 #[.string val] w1 fun e w' => e = .returned (.bool (okVal val)) ∧ w' = w1) := fun w1 => value_any val w1
      clear hc hx hb hg
      cases hn : nameOf key.data.toList
      · rw [hn] at HN
        have hbad : Hid (labelsOk xs = false) := h1.out (by unfold okLabel; rw [hn]; rfl)
        clear hn h1 h2 h3
        go_wp2
        go_quiet (exact (HN.out _).mono fun e w' h => ⟨h.1, _, h.2⟩)
        go_wp2
        go_ret
        exact ⟨ret_bool hbad.out.symm, below_dr (Hb.out.alloc hsz _) _⟩
      · rw [hn] at HN
        cases hv : okVal val
        · rw [hv] at HV
          have hbad : Hid (labelsOk xs = false) := h1.out (by unfold okLabel; rw [hv]; exact Bool.and_false _)
          clear hn h1 h2 h3 hv
          go_wp2
          go_quiet (first | exact (HN.out _).mono fun e w' h => ⟨h.1, _, h.2⟩ | exact (HV.out _).mono fun e w' h => ⟨h.1, _, h.2⟩)
          go_wp2
          go_ret
          exact ⟨ret_bool hbad.out.symm, below_dr (Hb.out.alloc hsz _) _⟩
        · rw [hv] at HV
          have H3 := Lib.hid (h3.out (by unfold okLabel; rw [hv, hn]; rfl))
          clear h3 h1 hn hv
          rcases Nat.eq_zero_or_pos k with hk0 | hk0
          · have hG := Lib.hid (H3.out (fun m e => by omega))
            have hd1 : decide (0 < k) = false := by rw [hk0]; rfl
            clear h2 H3 hk0
            go_wp2
            go_quiet (first | exact (HN.out _).mono fun e w' h => ⟨h.1, _, h.2⟩ | exact (HV.out _).mono fun e w' h => ⟨h.1, _, h.2⟩)
            go_wp2
            go_roundw
            case rel => exact ⟨k + 1, by omega, by go_num, hG.out, below_dr (Hb.out.alloc hsz _) _⟩
            case measure => simp [intOf]; omega
          · have ky : k - 1 < xs.length := by omega
            have hd := hSr.flat ky
            have d1 := hd 0 _ rfl
            rw [Nat.add_zero] at d1
            obtain ⟨y, hy⟩ : ∃ y, xs[k - 1] = y := ⟨_, rfl⟩
            have h2' : Hid (keyLt y ⟨key, val⟩ = false → labelsOk xs = false) := by
              rw [← hy]
              exact fun h => h2.out (k - 1) (by omega) h
            have h3' : Hid (keyLt y ⟨key, val⟩ = true → Good xs (k + 1)) := by
              rw [← hy]
              intro h
              refine H3.out (fun m e => ?_)
              obtain rfl : m = k - 1 := by omega
              exact h
            rw [hy] at d1
            clear hd hy h2 H3
            have hbd := blk d1
            have hd1 : decide (0 < k) = true := decide_eq_true hk0
            have hd2 : (1 : Int) ≤ (k : Int) := by omega
            have hd3 : (k : Int) - 1 < (la : Int) := by omega
            have hd4 : ((k : Int) - 1).toNat = k - 1 := by omega
            have hd5 : IntKind.i64.wrap ((k : Int) - 1) = (k : Int) - 1 := IntWalk.i64_in _ (by omega)
            cases ht : Op.bytesLess y.key.toList key.toList
            · have hbad := Lib.hid (h2'.out ht)
              clear h2' h3'
              go_wp2
              go_quiet (first | exact (HN.out _).mono fun e w' h => ⟨h.1, _, h.2⟩ | exact (HV.out _).mono fun e w' h => ⟨h.1, _, h.2⟩)
              go_wp2
              go_ret
              exact ⟨ret_bool hbad.out.symm, below_dr (Hb.out.alloc hsz _) _⟩
            · have hG := Lib.hid (h3'.out ht)
              clear h2' h3'
              go_wp2
              go_quiet (first | exact (HN.out _).mono fun e w' h => ⟨h.1, _, h.2⟩ | exact (HV.out _).mono fun e w' h => ⟨h.1, _, h.2⟩)
              go_wp2
              go_roundw
              case rel => exact ⟨k + 1, by omega, by go_num, hG.out, below_dr (Hb.out.alloc hsz _) _⟩
              case measure => simp [intOf]; omega
    · have Hb := Lib.hid hb
      have He := Lib.hid (hg.out.done (by rw [hS.hlen]; omega))
      have Hl : Hid (xs.length = la) := hS.hlen
      clear hb hg
      go_wp2
      all_goals
        go_ret
        exact ⟨ret_bool (by rw [He.out, Hl.out]; simp; omega), Hb.out⟩
end Go.Proofs.Ytpbppgfogepjeaa
