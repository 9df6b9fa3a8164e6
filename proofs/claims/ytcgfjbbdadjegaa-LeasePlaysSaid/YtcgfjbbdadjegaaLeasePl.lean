/- What LeasePlays needs besides: Holds, the acts, the plain law of its counts. Condition: board and list lie in blocks of the call's own. -/
import Derived.Test.YtcgfjbbdadjegaaLeaseEnd
import Derived.Test.YtcgfjbbdadjegaaBoardCopy
import Derived.Test.YtcgfjbbdadjegaaLeaseDo0
import Derived.Test.YtcgfjbbdadjegaaLeaseDo1
import Derived.Test.YtcgfjbbdadjegaaLeaseDo2
import Derived.Test.YtcgfjbbdadjegaaLeaseDoK
namespace Go.Proofs.Ytcgfjbbdadjegaa
open Go.ChangeShapes Go.WideShapes Go.ChangeAt Go.RowKit Go.Deep Go.Maps

structure Act36 where
  kind : Int
  ticks : Int
  step : Int
  name : ByteArray
  holder : ByteArray
deriving Inhabited

def Act36.cells (x : Act36) : List Value := [.int .i64 x.kind, .int .i64 x.ticks, .int .u16 x.step, .string x.name, .string x.holder]
def Act36R : World → Act36 → List Value → Prop := fun _ x c => c = x.cells ∧ x.name.size ≤ maxLen ∧ x.holder.size ≤ maxLen ∧ 0 ≤ x.step ∧ x.step ≤ 65535

theorem act36_of (w : World) (c : List Value) (h : Rel (.pair (.int .i64) (.pair (.int .i64) (.pair (.int .u16) (.pair .str (.pair .str .unit))))) w c) : ∃ m, Act36R w m c := by
  obtain ⟨c1, c2, rfl, _, ⟨n1, rfl, _⟩, c3, c4, rfl, _, ⟨n2, rfl, _⟩, c5, c6, rfl, _, ⟨n3, rfl, h3⟩, c7, c8, rfl, _, ⟨n4, rfl, h4⟩, c9, c10, rfl, _, ⟨n5, rfl, h5⟩, rfl⟩ := h
  refine ⟨⟨n1, n2, n3, n4, n5⟩, rfl, h4, h5, ?_⟩
  simp [Lit.wf, IntKind.min, IntKind.max, IntKind.signed, IntKind.bits] at h3
  omega


theorem holds_val {bb bm : Nat} {b : Bd} {name : ByteArray} {x : Lease} (holder : ByteArray) (now : Int) (w : World) (hB : BoardAt w bb bm b) (hn : name.size ≤ maxLen) (hf : b.f name.data.toList = some x) :
    Calls Try.prog 11 #[.pointer (some ⟨bb, 0, none⟩), .string name, .string holder, .int .i64 now] w fun e w' => e = .returned (.bool ((x.holder.toList == holder.toList) && decide (now < x.till))) ∧ Below w.heap.size w w' := by
  have hg := get_any36 bb bm b name w hB hn
  rw [hf] at hg
  obtain ⟨x0, x1, x2, x3⟩ := x
  have HG : Hid (Calls Try.prog 10 #[.pointer (some ⟨bb, 0, none⟩), .string name] w fun e w' => e = .returned (.tuple #[.agg #[.string x0, .string x1, .int .i64 x2, .int .i64 x3], .bool true]) ∧ Below w.heap.size w w') := hg
  have HH : Hid (∀ w1, Calls Try.prog 14 #[.agg #[.string x0, .string x1, .int .i64 x2, .int .i64 x3], .int .i64 now] w1 fun e w' => e = .returned (.bool (decide (now < x2))) ∧ Below w1.heap.size w1 w') := fun w1 => held_any ⟨x0, x1, x2, x3⟩ now w1
  clear hg hf hB hn
  obtain ⟨p, hp⟩ : ∃ p, (x1.toList == holder.toList) = p := ⟨_, rfl⟩
  dsimp only
  rw [hp]
  obtain ⟨q, hq⟩ : ∃ q, decide (now < x2) = q := ⟨_, rfl⟩
  rw [hq] at HH ⊢
  clear hq
  cases p
  · go_enter Try.func11, Try.ntmps11
    go_wp2_with fail
    refine HG.out.mono ?_
    rintro e w1 ⟨rfl, hb1⟩
    have Hb := Lib.hid hb1
    clear hb1
    go_wp2_with fail
    go_ret
    exact ⟨rfl, Hb.out.alloc Hb.out.size _⟩
  · go_enter Try.func11, Try.ntmps11
    go_wp2_with fail
    refine HG.out.mono ?_
    rintro e w1 ⟨rfl, hb1⟩
    have Hb := Lib.hid (hb1.alloc hb1.size (.cells #[.string x0, .string x1, .int .i64 x2, .int .i64 x3] 34))
    clear hb1
    go_wp2_with fail
    refine (HH.out _).mono ?_
    rintro e w2 ⟨rfl, hb2⟩
    have Hb2 := Lib.hid (Hb.out.trans (hb2.mono Hb.out.size))
    clear hb2
    go_wp2_with fail
    go_ret
    exact ⟨by simp, Hb2.out⟩

theorem do_any {bb bm mb B : Nat} {b : Bd} {v : Value} {ls : List Lease} {now : Int} {w : World} (x : Act36) (h : DoAt bb bm mb B b v ls x.name x.holder now w) :
    Calls Try.prog 8 #[.pointer (some ⟨bb, 0, none⟩), .pointer (some ⟨mb, 0, none⟩), .int .i64 now, .agg #[.int .i64 x.kind, .int .i64 x.ticks, .int .u16 x.step, .string x.name, .string x.holder]] w (DoPost bb bm mb B ls w) := by
  obtain ⟨kd, tk, st, nm, ho⟩ := x
  dsimp only at h ⊢
  by_cases k0 : kd = 0
  · subst k0; exact do_take0 tk st now nm ho bb bm mb B b v ls w h
  · by_cases k1 : kd = 1
    · subst k1; exact do_take1 tk st now nm ho bb bm mb B b v ls w h
    · by_cases k2 : kd = 2
      · subst k2; exact do_renew tk st now nm ho bb bm mb B b v ls w h
      · exact do_give kd tk st now nm ho bb bm mb B b v ls w k0 k1 k2 h

/-! ### counts -/
def endB (now : Int) (x : Lease) : Bool := !decide (now < x.till)
def cntE (now : Int) (ls : List Lease) (k : Nat) : Nat := ((ls.take k).filter (endB now)).length

theorem cntE_yes {now : Int} {ls : List Lease} {k : Nat} (hk : k < ls.length) (h : ¬ now < ls[k].till) : cntE now ls (k + 1) = cntE now ls k + 1 := by
  unfold cntE
  rw [List.take_succ_eq_append_getElem hk, List.filter_append]
  simp [endB, h]
theorem cntE_no {now : Int} {ls : List Lease} {k : Nat} (hk : k < ls.length) (h : now < ls[k].till) : cntE now ls (k + 1) = cntE now ls k := by
  unfold cntE
  rw [List.take_succ_eq_append_getElem hk, List.filter_append]
  simp [endB, h]
theorem cntE_le (now : Int) (ls : List Lease) (k : Nat) : cntE now ls k ≤ k := by
  unfold cntE
  exact Nat.le_trans (List.length_filter_le _ _) (List.length_take_le _ _)

theorem end_nodup {b : Bd} {now : Int} {ys : List Lease} (h : EndL b now ys) : ys.Nodup := by
  rw [List.nodup_iff_pairwise_ne, List.pairwise_iff_getElem]
  intro i j hi hj hij e
  have := h.rise i j hij hj hi
  rw [e, less_irrefl] at this
  cases this

theorem end_count {b : Bd} {now : Int} {ls ys : List Lease} (hS : Sync ls b) (h : EndL b now ys) : cntE now ls ls.length = ys.length := by
  unfold cntE
  rw [List.take_length]
  have hnd : ls.Nodup := List.Pairwise.of_map (fun x : Lease => x.name.data.toList) (fun a b hab e => hab (by rw [e])) hS.nd
  refine List.Perm.length_eq ((List.perm_ext_iff_of_nodup (hnd.filter _) (end_nodup h)).2 fun x => ?_)
  rw [List.mem_filter]
  unfold endB
  constructor
  · rintro ⟨h1, h2⟩
    exact h.all _ x (hS.mem h1) (by simpa using h2)
  · intro hx
    obtain ⟨h1, h2⟩ := h.are x hx
    exact ⟨hS.of h1, by simpa using h2⟩
end Go.Proofs.Ytcgfjbbdadjegaa
