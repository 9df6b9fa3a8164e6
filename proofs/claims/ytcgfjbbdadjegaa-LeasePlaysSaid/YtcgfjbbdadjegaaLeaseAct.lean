/- Law 36's do: what it is called with, what it leaves. No program of its own. -/
import Derived.Test.YtcgfjbbdadjegaaLeaseFind
import Derived.Test.YtcgfjbbdadjegaaRefNm
import Derived.Laws.StructEq
namespace Go.Proofs.Ytcgfjbbdadjegaa
open Go.ChangeShapes Go.WideShapes Go.ChangeAt Go.RowKit Go.Deep

structure DoAt (bb bm mb B : Nat) (b : Bd) (v : Value) (ls : List Lease) (nm ho : ByteArray) (now : Int) (w : World) : Prop where
  board : BoardAt w bb bm b
  mod : ModAt w mb B v ls
  sync : Sync ls b
  len : ls.length ≤ 100
  n0 : 0 ≤ now
  n1 : now ≤ 1000000000
  nm : nm.size ≤ maxLen
  ho : ho.size ≤ maxLen
  bb : B ≤ bb
  bm : B ≤ bm
  mb : B ≤ mb
  size : B ≤ w.heap.size

def DoPost (bb bm mb B : Nat) (ls : List Lease) (w : World) (e : Ending) (w' : World) : Prop :=
  e = .returned (.bool true) ∧ ∃ b' ls' v', BoardAt w' bb bm b' ∧ ModAt w' mb B v' ls' ∧ Sync ls' b' ∧ ls'.length ≤ ls.length + 1 ∧ (∀ x ∈ ls', x ∈ ls ∨ (nameOf x.holder.data.toList = true ∧ nameOf x.name.data.toList = true)) ∧ Below B w w'

theorem ModAt.ne {w : World} {mb B : Nat} {v : Value} {ls : List Lease} (h : ModAt w mb B v ls) : v.ownBlock ≠ some mb := by
  intro e
  rcases h.own.2 with ⟨rfl, _⟩ | ⟨g, cap, cur, rfl, _, hg, _⟩
  · cases e
  · obtain rfl : g = mb := by cases e; rfl
    rw [h.blk] at hg
    cases hg

theorem ModAt.board_ne {w : World} {mb B bb bm : Nat} {v : Value} {ls : List Lease} {b : Bd} (h : ModAt w mb B v ls) (hb : BoardAt w bb bm b) : mb ≠ bb ∧ mb ≠ bm ∧ v.ownBlock ≠ some bb ∧ v.ownBlock ≠ some bm := by
  obtain ⟨D, ⟨es, clock, h1, _⟩, _⟩ := hb.map
  refine ⟨fun e => ?_, fun e => ?_, fun e => ?_, fun e => ?_⟩
  · have := h.blk; rw [e, hb.blk] at this; cases this
  · have := h.blk; rw [e, h1] at this; cases this
  · rcases h.own.2 with ⟨rfl, _⟩ | ⟨g, cap, cur, rfl, _, hg, _⟩
    · cases e
    · obtain rfl : g = bb := by cases e; rfl
      rw [hb.blk] at hg
      cases hg
  · rcases h.own.2 with ⟨rfl, _⟩ | ⟨g, cap, cur, rfl, _, hg, _⟩
    · cases e
    · obtain rfl : g = bm := by cases e; rfl
      rw [h1] at hg
      cases hg

/-- Two leases compared. -/
def eqL (x y : Lease) : Bool := (x.name.toList == y.name.toList) && ((x.holder.toList == y.holder.toList) && ((x.till == y.till) && (x.turns == y.turns)))

theorem eqL_iff {x y : Lease} : eqL x y = true ↔ x = y := by
  unfold eqL
  obtain ⟨x0, x1, x2, x3⟩ := x
  obtain ⟨y0, y1, y2, y3⟩ := y
  simp only [Bool.and_eq_true, beq_iff_eq, toList_inj, Lease.mk.injEq]

theorem eqL_self (x : Lease) : eqL x x = true := eqL_iff.2 rfl
theorem eqL_ne {x y : Lease} (h : x ≠ y) : eqL x y = false := by
  cases e : eqL x y
  · rfl
  · exact absurd (eqL_iff.1 e) h

theorem fieldsLease : Try.prog.underlying 34 = some (.struct (Try.prog.fieldsOf 34)) := by kernel_rfl
theorem stoodLease : Try.prog.stoodInHeld 34 = false := by kernel_rfl
theorem guardLease : Try.prog.eqGuardType Try.prog.depth 34 = false := by kernel_rfl

theorem fields_four {l : List Field} {n0 n1 n2 n3 : String} {t0 t1 t2 t3 o0 o1 o2 o3 : Nat} (h : l.map (fun f => (f.name, f.type, f.offset)) = [(n0, t0, o0), (n1, t1, o1), (n2, t2, o2), (n3, t3, o3)]) :
    ∃ s0 s1 s2 s3, l = [s0, s1, s2, s3] ∧ s0.name = n0 ∧ s0.type = t0 ∧ s0.offset = o0 ∧ s1.name = n1 ∧ s1.type = t1 ∧ s1.offset = o1 ∧ s2.name = n2 ∧ s2.type = t2 ∧ s2.offset = o2 ∧ s3.name = n3 ∧ s3.type = t3 ∧ s3.offset = o3 := by
  match l, h with
  | [s0, s1, s2, s3], h =>
    simp only [List.map_cons, List.map_nil, List.cons.injEq, Prod.mk.injEq, and_true] at h
    obtain ⟨⟨a0, b0, c0⟩, ⟨a1, b1, c1⟩, ⟨a2, b2, c2⟩, a3, b3, c3⟩ := h
    exact ⟨s0, s1, s2, s3, rfl, a0, b0, c0, a1, b1, c1, a2, b2, c2, a3, b3, c3⟩

theorem eqFields_step {P : Program} {d : Nat} {xs ys : Array Value} {f : Field} {fs : List Field} {w : World} {a b : Value} {r s : Bool} (hn : f.name ≠ "_") (ha : (part f.type xs f.offset).run P w = .ok a w) (hb : (part f.type ys f.offset).run P w = .ok b w)
    (hr : (Op.equalIn d f.type a b).run P w = .ok r w) (hs : (Op.eqFields d xs ys fs).run P w = .ok s w) : (Op.eqFields d xs ys (f :: fs)).run P w = .ok (r && s) w := by
  simp only [Op.eqFields, if_pos hn, Sem.run_bind, ha, hb, hr, Result.andThen_ok]
  cases r
  · rfl
  · simpa using hs

theorem run_equalIn_lease (x y : Lease) (w : World) : (Op.equalIn 10000 34 (.agg #[.string x.name, .string x.holder, .int .i64 x.till, .int .i64 x.turns]) (.agg #[.string y.name, .string y.holder, .int .i64 y.till, .int .i64 y.turns])).run Try.prog w = .ok (eqL x y) w := by
  rw [run_equalIn_agg w 9999 _ _ _ fieldsLease stoodLease]
  have h0 : (Op.equalIn 9999 9 (.string x.name) (.string y.name)).run Try.prog w = .ok (x.name.toList == y.name.toList) w := run_equalIn_string w 9998 _ _ _ (by kernel_rfl)
  have h1 : (Op.equalIn 9999 9 (.string x.holder) (.string y.holder)).run Try.prog w = .ok (x.holder.toList == y.holder.toList) w := run_equalIn_string w 9998 _ _ _ (by kernel_rfl)
  have h2 : (Op.equalIn 9999 2 (.int .i64 x.till) (.int .i64 y.till)).run Try.prog w = .ok (x.till == y.till) w := run_equalIn_int w 9998 _ .i64 .i64 _ _ (by kernel_rfl)
  have h3 : (Op.equalIn 9999 3 (.int .i64 x.turns) (.int .i64 y.turns)).run Try.prog w = .ok (x.turns == y.turns) w := run_equalIn_int w 9998 _ .i64 .i64 _ _ (by kernel_rfl)
  have hm : (Try.prog.fieldsOf 34).toList.map (fun f => (f.name, f.type, f.offset)) = [("Name", 9, 0), ("Holder", 9, 1), ("Until", 2, 2), ("Turns", 3, 3)] := by kernel_rfl
  obtain ⟨s0, s1, s2, s3, hl, a0, b0, c0, a1, b1, c1, a2, b2, c2, a3, b3, c3⟩ := fields_four hm
  have p0 : (part 9 #[.string x.name, .string x.holder, .int .i64 x.till, .int .i64 x.turns] 0).run Try.prog w = .ok (.string x.name) w := by kernel_rfl
  have p1 : (part 9 #[.string x.name, .string x.holder, .int .i64 x.till, .int .i64 x.turns] 1).run Try.prog w = .ok (.string x.holder) w := by kernel_rfl
  have p2 : (part 2 #[.string x.name, .string x.holder, .int .i64 x.till, .int .i64 x.turns] 2).run Try.prog w = .ok (.int .i64 x.till) w := by kernel_rfl
  have p3 : (part 3 #[.string x.name, .string x.holder, .int .i64 x.till, .int .i64 x.turns] 3).run Try.prog w = .ok (.int .i64 x.turns) w := by kernel_rfl
  have r0 : (part 9 #[.string y.name, .string y.holder, .int .i64 y.till, .int .i64 y.turns] 0).run Try.prog w = .ok (.string y.name) w := by kernel_rfl
  have r1 : (part 9 #[.string y.name, .string y.holder, .int .i64 y.till, .int .i64 y.turns] 1).run Try.prog w = .ok (.string y.holder) w := by kernel_rfl
  have r2 : (part 2 #[.string y.name, .string y.holder, .int .i64 y.till, .int .i64 y.turns] 2).run Try.prog w = .ok (.int .i64 y.till) w := by kernel_rfl
  have r3 : (part 3 #[.string y.name, .string y.holder, .int .i64 y.till, .int .i64 y.turns] 3).run Try.prog w = .ok (.int .i64 y.turns) w := by kernel_rfl
  have d0 : "Name" ≠ "_" := by decide
  have d1 : "Holder" ≠ "_" := by decide
  have d2 : "Until" ≠ "_" := by decide
  have d3 : "Turns" ≠ "_" := by decide
  rw [hl]
  unfold eqL
  refine eqFields_step (by rw [a0]; exact d0) (by rw [b0, c0]; exact p0) (by rw [b0, c0]; exact r0) (by rw [b0]; exact h0) ?_
  refine eqFields_step (by rw [a1]; exact d1) (by rw [b1, c1]; exact p1) (by rw [b1, c1]; exact r1) (by rw [b1]; exact h1) ?_
  refine eqFields_step (by rw [a2]; exact d2) (by rw [b2, c2]; exact p2) (by rw [b2, c2]; exact r2) (by rw [b2]; exact h2) ?_
  have := eqFields_step (P := Try.prog) (d := 9999) (w := w) (fs := []) (s := true) (by rw [a3]; exact d3) (by rw [b3, c3]; exact p3) (by rw [b3, c3]; exact r3) (by rw [b3]; exact h3) rfl
  rw [Bool.and_true] at this
  exact this

theorem eql_lease (x y : Lease) (w : World) : (binOp .eql 34 (.agg #[.string x.name, .string x.holder, .int .i64 x.till, .int .i64 x.turns]) (.agg #[.string y.name, .string y.holder, .int .i64 y.till, .int .i64 y.turns])).run Try.prog w = .ok (.bool (eqL x y)) w := by
  rw [run_eql_struct, run_equalIn_lease]
  rfl
theorem neq_lease (x y : Lease) (w : World) : (binOp .neq 34 (.agg #[.string x.name, .string x.holder, .int .i64 x.till, .int .i64 x.turns]) (.agg #[.string y.name, .string y.holder, .int .i64 y.till, .int .i64 y.turns])).run Try.prog w = .ok (.bool (!eqL x y)) w := by
  rw [run_neq_struct, run_equalIn_lease]
  rfl

/-- A one-cell store into a new block. -/
theorem fr_set1 {S : Nat → Prop} {w0 w : World} (h : Fr S w0 w) {k : Nat} (hk : w0.heap.size ≤ k) (j : Nat) (x : Value) : Fr S w0 (w.setCell ⟨k, j, none⟩ x) :=
  ⟨h.os, h.tape, h.output, by simpa [World.setCell] using h.size, fun i hi hs => by
    rw [Below.heap_setCell _ _ _ _ (by show i ≠ k; omega)]
    exact h.block i hi hs⟩

/-- In the middle of an act. -/
structure DoMid (w wx : World) (bb bm ab xb gb : Nat) (act : Array Value) (b : Bd) (x g : Lease) : Prop where
  act : wx.heap[ab]? = some (.cells act 32 (0, 0))
  x : wx.heap[xb]? = some (.cells #[.string x.name, .string x.holder, .int .i64 x.till, .int .i64 x.turns] 34 (0, 0))
  g : wx.heap[gb]? = some (.cells #[.string g.name, .string g.holder, .int .i64 g.till, .int .i64 g.turns] 34 (0, 0))
  board : BoardAt wx bb bm b
  fr : Fr (fun k => k = bm) w wx
  sa : w.heap.size ≤ ab
  sx : w.heap.size ≤ xb
  sg : w.heap.size ≤ gb
  sb : bb < w.heap.size
  sm : bm < w.heap.size
  ax : ab ≠ xb
  ag : ab ≠ gb
  xg : xb ≠ gb

theorem BoardAt.set1 {w : World} {bb bm k : Nat} {b : Bd} (h : BoardAt w bb bm b) (h1 : k ≠ bb) (h2 : k ≠ bm) (j : Nat) (v : Value) : BoardAt (w.setCell ⟨k, j, none⟩ v) bb bm b :=
  ⟨by rw [Below.heap_setCell _ _ _ _ (by show bb ≠ k; omega)]; exact h.blk, MapIs.same h.map (Below.heap_setCell _ _ _ _ (by show bm ≠ k; omega))⟩

theorem DoMid.setX {w wx : World} {bb bm ab xb gb : Nat} {act : Array Value} {b : Bd} {x g : Lease} (h : DoMid w wx bb bm ab xb gb act b x g) (j : Nat) (v : Value) (y : Lease)
    (hy : (#[.string x.name, .string x.holder, .int .i64 x.till, .int .i64 x.turns] : Array Value).setIfInBounds j v = #[.string y.name, .string y.holder, .int .i64 y.till, .int .i64 y.turns]) : DoMid w (wx.setCell ⟨xb, j, none⟩ v) bb bm ab xb gb act b y g := by
  have := h.sx; have := h.sb; have := h.sm; have := h.ax; have := h.xg
  refine ⟨?_, ?_, ?_, h.board.set1 (by omega) (by omega) _ _, fr_set1 h.fr h.sx _ _, h.sa, h.sx, h.sg, h.sb, h.sm, h.ax, h.ag, h.xg⟩
  · rw [Below.heap_setCell _ _ _ _ (by show ab ≠ xb; omega)]; exact h.act
  · rw [row_setCell h.x, hy]
  · rw [Below.heap_setCell _ _ _ _ (by show gb ≠ xb; omega)]; exact h.g

theorem DoMid.setG {w wx : World} {bb bm ab xb gb : Nat} {act : Array Value} {b : Bd} {x g : Lease} (h : DoMid w wx bb bm ab xb gb act b x g) (j : Nat) (v : Value) (y : Lease)
    (hy : (#[.string g.name, .string g.holder, .int .i64 g.till, .int .i64 g.turns] : Array Value).setIfInBounds j v = #[.string y.name, .string y.holder, .int .i64 y.till, .int .i64 y.turns]) : DoMid w (wx.setCell ⟨gb, j, none⟩ v) bb bm ab xb gb act b x y := by
  have := h.sg; have := h.sb; have := h.sm; have := h.ag; have := h.xg
  refine ⟨?_, ?_, ?_, h.board.set1 (by omega) (by omega) _ _, fr_set1 h.fr h.sg _ _, h.sa, h.sx, h.sg, h.sb, h.sm, h.ax, h.ag, h.xg⟩
  · rw [Below.heap_setCell _ _ _ _ (by show ab ≠ gb; omega)]; exact h.act
  · rw [Below.heap_setCell _ _ _ _ (by show xb ≠ gb; omega)]; exact h.x
  · rw [row_setCell h.g, hy]

theorem DoMid.setG4 {w wx : World} {bb bm ab xb gb : Nat} {act : Array Value} {b : Bd} {x g : Lease} (h : DoMid w wx bb bm ab xb gb act b x g) (y : Lease) :
    DoMid w ((((wx.setCell ⟨gb, 0, none⟩ (.string y.name)).setCell ⟨gb, 1, none⟩ (.string y.holder)).setCell ⟨gb, 2, none⟩ (.int .i64 y.till)).setCell ⟨gb, 3, none⟩ (.int .i64 y.turns)) bb bm ab xb gb act b x y :=
  (((h.setG 0 (.string y.name) ⟨y.name, g.holder, g.till, g.turns⟩ rfl).setG 1 (.string y.holder) ⟨y.name, y.holder, g.till, g.turns⟩ rfl).setG 2 (.int .i64 y.till) ⟨y.name, y.holder, y.till, g.turns⟩ rfl).setG 3 (.int .i64 y.turns) y rfl

theorem DoMid.drew {w wx : World} {bb bm ab xb gb : Nat} {act : Array Value} {b : Bd} {x g : Lease} (h : DoMid w wx bb bm ab xb gb act b x g) : DoMid w wx.drew bb bm ab xb gb act b x g :=
  ⟨h.act, h.x, h.g, h.board.fr ((Fr.refl (fun _ => False) wx).drew) id id, h.fr.drew, h.sa, h.sx, h.sg, h.sb, h.sm, h.ax, h.ag, h.xg⟩

/-- Behind a call of the board's. -/
theorem DoMid.next {w wx w3 : World} {bb bm ab xb gb : Nat} {act : Array Value} {b b2 : Bd} {x g : Lease} (h : DoMid w wx bb bm ab xb gb act b x g) (hB : BoardAt w3 bb bm b2) (hF : Fr (fun k => k = bm) wx w3) : DoMid w w3 bb bm ab xb gb act b2 x g := by
  have := h.sa; have := h.sx; have := h.sg; have := h.sm
  exact ⟨hF.heap h.act (by omega), hF.heap h.x (by omega), hF.heap h.g (by omega), hB, h.fr.trans hF (fun _ q => .inl q), h.sa, h.sx, h.sg, h.sb, h.sm, h.ax, h.ag, h.xg⟩

theorem renew_val {bb bm : Nat} {b : Bd} {name holder : ByteArray} {now ticks : Int} {w : World} {l : Lease} {r : Int} {b' : Bd} (hB : BoardAt w bb bm b) (hn : name.size ≤ maxLen) (h512 : b.n ≤ 512) (ht : renewOf b name holder now ticks = (l, r, b')) :
    Calls Try.prog 17 #[.pointer (some ⟨bb, 0, none⟩), .string name, .string holder, .int .i64 now, .int .i64 ticks] w fun e w' =>
      e = .returned (.tuple #[.agg #[.string l.name, .string l.holder, .int .i64 l.till, .int .i64 l.turns], .int .i64 r]) ∧ BoardAt w' bb bm b' ∧ Fr (fun k => k = bm) w w' := by
  refine (renew_any bb bm b name holder now ticks w hB hn h512).mono fun e w' h => ?_
  unfold RenewPost at h
  rw [ht] at h
  exact h

theorem give_val {bb bm : Nat} {b : Bd} {name holder : ByteArray} {now : Int} {w : World} {r : Int} {b' : Bd} (hB : BoardAt w bb bm b) (hn : name.size ≤ maxLen) (h512 : b.n ≤ 512) (ht : giveOf b name holder now = (r, b')) :
    Calls Try.prog 18 #[.pointer (some ⟨bb, 0, none⟩), .string name, .string holder, .int .i64 now] w fun e w' =>
      e = .returned (.int .i64 r) ∧ BoardAt w' bb bm b' ∧ Fr (fun k => k = bm) w w' := by
  refine (give_any bb bm b name holder now w hB hn h512).mono fun e w' h => ?_
  unfold GivePost at h
  rw [ht] at h
  exact h

/-! ### what is wanted, case by case -/
theorem want_name {kd tk now i : Int} {nm ho : ByteArray} {x : Lease} (h : (nameOf nm.data.toList && nameOf ho.data.toList) = false) : wantOf kd tk nm ho now i x = 6 := by
  unfold wantOf
  rw [if_neg (by rw [← Bool.and_eq_true, h]; decide)]
theorem want_tick {kd tk now i : Int} {nm ho : ByteArray} {x : Lease} (h : (nameOf nm.data.toList && nameOf ho.data.toList) = true) (ht : tk < 1 ∨ 1800 < tk) : wantOf kd tk nm ho now i x = 1 := by
  unfold wantOf
  rw [if_pos (Bool.and_eq_true _ _ ▸ h), if_pos ht]
theorem want_none {kd tk now i : Int} {nm ho : ByteArray} {x : Lease} (h : (nameOf nm.data.toList && nameOf ho.data.toList) = true) (h1 : 1 ≤ tk) (h2 : tk ≤ 1800) (hk : kd ≠ 0 ∧ kd ≠ 1 ∧ i < 0) : wantOf kd tk nm ho now i x = 7 := by
  unfold wantOf
  rw [if_pos (Bool.and_eq_true _ _ ▸ h), if_neg (by omega), if_pos hk]
theorem want_state {kd tk now i : Int} {nm ho : ByteArray} {x : Lease} (h : (nameOf nm.data.toList && nameOf ho.data.toList) = true) (h1 : 1 ≤ tk) (h2 : tk ≤ 1800) (hk : ¬ (kd ≠ 0 ∧ kd ≠ 1 ∧ i < 0))
    (hs : (kd ≠ 0 ∧ kd ≠ 1 ∧ ¬ (0 ≤ i ∧ x.holder = ho ∧ now < x.till)) ∨ (0 ≤ i ∧ now < x.till ∧ x.holder ≠ ho)) : wantOf kd tk nm ho now i x = 12 := by
  unfold wantOf
  rw [if_pos (Bool.and_eq_true _ _ ▸ h), if_neg (by omega), if_neg hk, if_pos hs]
theorem want_ok {kd tk now i : Int} {nm ho : ByteArray} {x : Lease} (h : (nameOf nm.data.toList && nameOf ho.data.toList) = true) (h1 : 1 ≤ tk) (h2 : tk ≤ 1800) (hk : ¬ (kd ≠ 0 ∧ kd ≠ 1 ∧ i < 0))
    (hs : ¬ ((kd ≠ 0 ∧ kd ≠ 1 ∧ ¬ (0 ≤ i ∧ x.holder = ho ∧ now < x.till)) ∨ (0 ≤ i ∧ now < x.till ∧ x.holder ≠ ho))) : wantOf kd tk nm ho now i x = 0 := by
  unfold wantOf
  rw [if_pos (Bool.and_eq_true _ _ ▸ h), if_neg (by omega), if_neg hk, if_neg hs]

/-- Who comes in may be named. -/
theorem act_named {kd tk now i : Int} {nm ho : ByteArray} {x y : Lease} {ls : List Lease} (h : wantOf kd tk nm ho now i x = 0) (hy : y.holder = ho) (hyn : y.name = nm) : ∀ z ∈ mset ls i y, z ∈ ls ∨ (nameOf z.holder.data.toList = true ∧ nameOf z.name.data.toList = true) := by
  have hho : nameOf ho.data.toList = true ∧ nameOf nm.data.toList = true := by
    unfold wantOf at h
    by_cases hn : nameOf nm.data.toList = true ∧ nameOf ho.data.toList = true
    · exact ⟨hn.2, hn.1⟩
    · rw [if_neg hn] at h; cases h
  intro z hz
  unfold mset at hz
  split at hz
  · rcases List.mem_append.1 hz with q | q
    · exact .inl q
    · rw [List.mem_singleton.1 q, hy, hyn]; exact .inr hho
  · rcases List.mem_or_eq_of_mem_set hz with q | q
    · exact .inl q
    · rw [q, hy, hyn]; exact .inr hho

/-! ### the end of an act -/
structure DoEnd (w W : World) (bb bm mb B ab xb gb : Nat) (act : Array Value) (b : Bd) (x g : Lease) (ls' : List Lease) : Prop where
  act : W.heap[ab]? = some (.cells act 32 (0, 0))
  x : W.heap[xb]? = some (.cells #[.string x.name, .string x.holder, .int .i64 x.till, .int .i64 x.turns] 34 (0, 0))
  g : W.heap[gb]? = some (.cells #[.string g.name, .string g.holder, .int .i64 g.till, .int .i64 g.turns] 34 (0, 0))
  board : BoardAt W bb bm b
  mod : ∃ v', ModAt W mb B v' ls'
  below : Below B w W

theorem doEnd_of {w wd W : World} {bb bm mb B ab xb gb : Nat} {act : Array Value} {b : Bd} {x g : Lease} {ls ls' : List Lease} {v v' : Value} (h : DoMid w wd bb bm ab xb gb act b x g) (hM : ModAt w mb B v ls) (hne : mb ≠ bb ∧ mb ≠ bm ∧ v.ownBlock ≠ some bb ∧ v.ownBlock ≠ some bm)
    (hB : B ≤ w.heap.size) (hbm : B ≤ bm) (hmb : B ≤ mb) (hM' : ModAt W mb B v' ls') (hos : W.os = wd.os) (htape : W.tape = wd.tape) (hout : W.output = wd.output) (hsz : wd.heap.size ≤ W.heap.size)
    (hk : ∀ k, k < wd.heap.size → v.ownBlock ≠ some k → k ≠ mb → W.heap[k]? = wd.heap[k]?) : DoEnd w W bb bm mb B ab xb gb act b x g ls' := by
  have hms : mb < w.heap.size := (Array.getElem?_eq_some_iff.1 hM.blk).1
  have hvs : ∀ k, v.ownBlock = some k → B ≤ k ∧ k < w.heap.size := hM.own.lt
  have hlt : ∀ {k o}, wd.heap[k]? = some o → k < wd.heap.size := fun h => (Array.getElem?_eq_some_iff.1 h).1
  have hold : ∀ {k o}, w.heap.size ≤ k → wd.heap[k]? = some o → W.heap[k]? = some o := fun {k o} hle ho => by
    rw [hk k (hlt ho) (fun e => by have := (hvs k e).2; omega) (by omega), ho]
  have hbd : BoardAt W bb bm b := by
    refine ⟨?_, MapIs.same h.board.map (hk bm (MapIs.lt h.board.map) hne.2.2.2 (by omega))⟩
    rw [hk bb (hlt h.board.blk) hne.2.2.1 (by omega)]
    exact h.board.blk
  refine ⟨hold h.sa h.act, hold h.sx h.x, hold h.sg h.g, hbd, ⟨v', hM'⟩, ⟨hos.trans h.fr.os, htape.trans h.fr.tape, hout.trans h.fr.output, Nat.le_trans h.fr.size hsz, fun k hkB => ?_⟩⟩
  have hkw : k < w.heap.size := by omega
  rw [hk k (Nat.lt_of_lt_of_le hkw h.fr.size) (fun e => by have := (hvs k e).1; omega) (by omega), h.fr.block k hkw (by show ¬ k = bm; omega)]

theorem doEnd_app {w wd w' : World} {bb bm mb B ab xb gb : Nat} {act : Array Value} {b : Bd} {z g : Lease} {ls : List Lease} {v v' : Value} {o : Obj} (h : DoMid w wd bb bm ab xb gb act b z g) (hM : ModAt w mb B v ls) (hne : mb ≠ bb ∧ mb ≠ bm ∧ v.ownBlock ≠ some bb ∧ v.ownBlock ≠ some bm)
    (hB : B ≤ w.heap.size) (hbm : B ≤ bm) (hmb : B ≤ mb) (hown : w'.ownsRow B 34 4 v' (ls.length + 1) (ls.flatMap Lease.cells ++ z.cells)) (hgr : (wd.alloc o).drew.grownBy w' v.ownBlock) (hv' : v'.ownBlock ≠ some mb) :
    DoEnd w (w'.setCell ⟨mb, 0, none⟩ v') bb bm mb B ab xb gb act b z g (ls ++ [z]) := by
  have hmd : wd.heap[mb]? = some (.cells #[v] 29 (0, 0)) := h.fr.heap hM.blk (by show ¬ mb = bm; exact hne.2.1)
  have hms : mb < wd.heap.size := (Array.getElem?_eq_some_iff.1 hmd).1
  have hkk : ∀ k, k < wd.heap.size → v.ownBlock ≠ some k → w'.heap[k]? = wd.heap[k]? := fun k hk1 hk2 => by
    rw [hgr.block k (by simp [World.drew]; omega) (fun e => hk2 e.symm)]
    show (wd.alloc o).heap[k]? = _
    exact Below.heap_alloc _ _ _ hk1
  have hm' : w'.heap[mb]? = some (.cells #[v] 29 (0, 0)) := by rw [hkk mb hms hM.ne, hmd]
  refine doEnd_of (v' := v') h hM hne hB hbm hmb ⟨?_, ?_⟩ hgr.os hgr.tape hgr.output ?_ ?_
  · rw [row_setCell hm']; rfl
  · rw [List.length_append, List.flatMap_append]
    simpa using ownsRow_setCell_other hown (a := ⟨mb, 0, none⟩) hv' v'
  · have := hgr.size
    simp [World.drew, World.setCell] at this ⊢
    omega
  · intro k hk1 hk2 hk3
    rw [Below.heap_setCell _ _ _ _ (by show k ≠ mb; exact hk3), hkk k hk1 hk2]

theorem doEnd_app2 {w wd w' : World} {bb bm mb B ab xb gb g' n' cap' : Nat} {act : Array Value} {b : Bd} {z g : Lease} {ls : List Lease} {v : Value} {o : Obj} (h : DoMid w wd bb bm ab xb gb act b z g) (hM : ModAt w mb B v ls) (hne : mb ≠ bb ∧ mb ≠ bm ∧ v.ownBlock ≠ some bb ∧ v.ownBlock ≠ some bm)
    (hB : B ≤ w.heap.size) (hbm : B ≤ bm) (hmb : B ≤ mb) (hown : w'.ownsRow B 34 4 (.slice (some ⟨g', 0, none⟩) n' cap') (ls.length + 1) (ls.flatMap Lease.cells ++ z.cells)) (hgr : (wd.alloc o).drew.grownBy w' v.ownBlock) (hf : v.ownBlock = some g' ∨ (wd.alloc o).drew.heap.size ≤ g') :
    DoEnd w (w'.setCell ⟨mb, 0, none⟩ (.slice (some ⟨g', 0, none⟩) n' cap')) bb bm mb B ab xb gb act b z g (ls ++ [z]) := by
  have hms : mb < w.heap.size := (Array.getElem?_eq_some_iff.1 hM.blk).1
  have hsz := h.fr.size
  refine doEnd_app h hM hne hB hbm hmb hown hgr (fun e => ?_)
  have e2 : g' = mb := by
    have : some g' = some mb := e
    exact Option.some.inj this
  rcases hf with q | q
  · exact hM.ne (by rw [q, e2])
  · have : (wd.alloc o).heap.size ≤ g' := q
    rw [World.size_alloc] at this
    omega

theorem flatMap_set4 (ls : List Lease) (k : Nat) (z : Lease) (hk : k < ls.length) (rest : List Value) : (ls.flatMap Lease.cells ++ rest).take (k * 4) ++ z.cells ++ (ls.flatMap Lease.cells ++ rest).drop (k * 4 + 4) = (ls.set k z).flatMap Lease.cells ++ rest := by
  induction ls generalizing k with
  | nil => simp at hk
  | cons y ys ih =>
    have hy : y.cells.length = 4 := rfl
    cases k with
    | zero => simp [List.drop_append, Lease.cells]
    | succ k =>
      have := ih k (by simpa using hk)
      have e1 : (k + 1) * 4 = 4 + k * 4 := by omega
      rw [List.flatMap_cons, List.set_cons_succ, List.flatMap_cons, e1, List.append_assoc y.cells (ys.flatMap Lease.cells) rest, List.take_append, List.drop_append, List.take_of_length_le (by rw [hy]; omega), List.drop_eq_nil_of_le (by rw [hy]; omega), hy,
        show 4 + k * 4 - 4 = k * 4 from by omega, show 4 + k * 4 + 4 - 4 = k * 4 + 4 from by omega, List.nil_append, List.append_assoc y.cells ((ys.set k z).flatMap Lease.cells) rest, ← this]
      simp [List.append_assoc]

theorem doEnd_set {w wd w4 : World} {bb bm mb B ab xb gb g0 cap k : Nat} {act : Array Value} {b : Bd} {z g : Lease} {ls : List Lease} {rest : List Value} (h : DoMid w wd bb bm ab xb gb act b z g) (hM : ModAt w mb B (.slice (some ⟨g0, 0, none⟩) ls.length cap) ls) (hne : mb ≠ bb ∧ mb ≠ bm ∧ (Value.slice (some ⟨g0, 0, none⟩) ls.length cap).ownBlock ≠ some bb ∧ (Value.slice (some ⟨g0, 0, none⟩) ls.length cap).ownBlock ≠ some bm)
    (hB : B ≤ w.heap.size) (hbm : B ≤ bm) (hmb : B ≤ mb) (hb4 : Below wd.heap.size wd w4) (hk : k < ls.length) (hrow : wd.heap[g0]? = some (.cells (ls.flatMap Lease.cells ++ rest).toArray 34 (0, 0))) (hgB : B ≤ g0) (hnc : ls.length ≤ cap) (hcm : cap ≤ maxLen) (hrl : (ls.flatMap Lease.cells ++ rest).length = cap * 4) :
    DoEnd w (w4.setRow g0 ((ls.flatMap Lease.cells ++ rest).take (k * 4) ++ z.cells ++ (ls.flatMap Lease.cells ++ rest).drop (k * 4 + 4)).toArray) bb bm mb B ab xb gb act b z g (ls.set k z) := by
  rw [flatMap_set4 ls k z hk]
  have hg4 : w4.heap[g0]? = some (.cells (ls.flatMap Lease.cells ++ rest).toArray 34 (0, 0)) := by rw [hb4.block g0 (Array.getElem?_eq_some_iff.1 hrow).1, hrow]
  have hmd : wd.heap[mb]? = some (.cells #[(Value.slice (some ⟨g0, 0, none⟩) ls.length cap)] 29 (0, 0)) := h.fr.heap hM.blk (by show ¬ mb = bm; exact hne.2.1)
  have hms : mb < wd.heap.size := (Array.getElem?_eq_some_iff.1 hmd).1
  have hmg : g0 ≠ mb := fun e => hM.ne (by rw [e]; rfl)
  have hfl : ∀ l : List Lease, (l.flatMap Lease.cells).length = l.length * 4 := fun l => by
    induction l with
    | nil => rfl
    | cons y ys ih => rw [List.flatMap_cons, List.length_append, ih]; show 4 + _ = _; simp; omega
  have hsr : ∀ k', k' ≠ g0 → (w4.setRow g0 ((ls.set k z).flatMap Lease.cells ++ rest).toArray).heap[k']? = w4.heap[k']? := fun k' hk' => (Fr.setRow (fun j => j = g0) w4 g0 _ rfl).block k' |> fun f => by
    by_cases hl : k' < w4.heap.size
    · exact f hl hk'
    · rw [Array.getElem?_eq_none (by rw [setRow_size]; omega), Array.getElem?_eq_none (by omega)]
  refine doEnd_of (v' := .slice (some ⟨g0, 0, none⟩) ls.length cap) h hM hne hB hbm hmb ⟨?_, ?_⟩ hb4.os hb4.tape hb4.output ?_ ?_
  · rw [hsr mb (Ne.symm hmg), hb4.block mb hms, hmd]
  · rw [List.length_set]
    refine owns_of_row hgB hnc hcm (setRow_heap hg4) (by rw [hfl, List.length_set]) ?_
    rw [List.length_append, hfl, List.length_set, ← hfl, ← List.length_append]
    exact hrl
  · rw [setRow_size]; exact hb4.size
  · intro k' hk1 hk2 hk3
    rw [hsr k' (fun e => hk2 (by rw [e]; rfl)), hb4.block k' hk1]

theorem flat_len4 (l : List Lease) : (l.flatMap Lease.cells).length = l.length * 4 := by
  induction l with
  | nil => rfl
  | cons y ys ih => rw [List.flatMap_cons, List.length_append, ih]; show 4 + _ = _; simp; omega
end Go.Proofs.Ytcgfjbbdadjegaa
