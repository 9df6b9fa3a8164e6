/- Rows, maps and sizes that a loop's book-keeping leaves alone. No condition; no program. || The contract of scrape's Fresh. Condition: the book lies in blocks of the call's own; the tick is not below 0. -/
import Derived.RangeFuncNested
import Derived.RangeFuncBound
import Derived.RangeFuncCalls
import Derived.RangeFuncLeaves
import Derived.RangeFuncFrom
import Derived.Shelf.Abstract
import Derived.OwnWalkIn
import Derived.Test.YtoamjihchmokcaaNameM
import Derived.Test.YtoamjihchmokcaaBook4
namespace Go.Proofs.Ytoamjihchmokcaa
open Go.RowKit Go.Shelf Go.Maps

def RowAtF (W : World) (b : Nat) (cs : Array Value) (t : TypeId) : Prop := W.heap[b]? = some (.cells cs t (0, 0))
theorem RowAtF.lt {W : World} {b : Nat} {cs : Array Value} {t : TypeId} (h : RowAtF W b cs t) : b < W.heap.size := (Array.getElem?_eq_some_iff.1 h).1
theorem RowAtF.kept {W W' : World} {b : Nat} {cs : Array Value} {t : TypeId} {row : Option Nat} (h : RowAtF W b cs t) (hg : W.grownBy W' row) (hr : ∀ r, row = some r → ∃ o : Obj, W.heap[r]? = some o ∧ o.isCells = false) : RowAtF W' b cs t :=
  (hg.block b h.lt (fun e => by obtain ⟨o, ho, hc⟩ := hr b e.symm; rw [show W.heap[b]? = _ from h] at ho; cases ho; cases hc)).trans h
theorem RowAtF.own {β : Type} (B b : Nat) (f : β → Array Value) (t : TypeId) : OwnFrom B (fun (s : β) W => RowAtF W b (f s) t) := fun _ _ _ _ hs hg hr => hs.kept hg (fun r e => (hr r e).2)
theorem RowAtF.alloc {W : World} {b : Nat} {cs : Array Value} {t : TypeId} (h : RowAtF W b cs t) (o : Obj) : RowAtF (W.alloc o) b cs t := (Below.heap_alloc W o b h.lt).trans h
theorem RowAtF.new (W : World) (cs : Array Value) (t : TypeId) : RowAtF (W.alloc (.cells cs t)) W.heap.size cs t := heap_alloc_new W _
theorem RowAtF.other {W : World} {b b' j : Nat} {cs : Array Value} {t : TypeId} (h : RowAtF W b cs t) (hne : b ≠ b') (v : Value) : RowAtF (W.setCell ⟨b', j, none⟩ v) b cs t := (Below.heap_setCell _ _ _ _ hne).trans h
theorem size_own {β : Type} (B n : Nat) : OwnFrom B (fun (_ : β) W => n ≤ W.heap.size) := fun _ _ _ _ hs hg _ => Nat.le_trans hs hg.size
theorem frame_put {S : Nat → Prop} {N : Nat} (hS : ∀ k, N ≤ k → S k) {w : World} (hw : N ≤ w.heap.size) : ∀ (W : World) (l : Nat) (o o' : Obj), w.heap.size ≤ l → W.heap[l]? = some o → o.isCells = false → o.isWalk = false → Fr S W (W.putObj l o') := fun W l o o' hl _ _ _ =>
  Fr.grown (grownBy_putObj' W l o') (fun k hk => by cases hk; exact hS l (by omega))
end Go.Proofs.Ytoamjihchmokcaa
namespace Go.Proofs.Ytoamjihchmokcaa
open Go.RowKit Go.Shelf Go.Maps

attribute [local go_sem] Oper.semAt_some

def lastS (now : Int) (L : List Sm) : Option Sm := (L.filter fun x => decide (x.at0 ≤ now)).getLast?
theorem lastS_snoc (now : Int) (L : List Sm) (x : Sm) : lastS now (L ++ [x]) = if x.at0 ≤ now then some x else lastS now L := by
  unfold lastS
  rw [List.filter_append]
  by_cases h : x.at0 ≤ now
  · rw [if_pos h]; simp [h]
  · rw [if_neg h]; simp [h]

theorem streams_pos {w : World} {p : Option Addr} {L : List Sm} (h : Streams w p L) : ∀ x ∈ L, 0 ≤ x.at0 := by
  rcases h with ⟨_, rfl⟩ | ⟨_, _, _, _, _, h⟩
  · intro x hx; cases hx
  · exact h
theorem lastS_pos {now : Int} {L : List Sm} {x : Sm} (h : ∀ x ∈ L, 0 ≤ x.at0) (hl : lastS now L = some x) : 0 ≤ now := by
  have hm := List.mem_of_getLast? hl
  rw [List.mem_filter] at hm
  have h1 := h x hm.1
  have h2 := of_decide_eq_true hm.2
  omega

def freshOf (age now : Int) (L : List Sm) : Int × Int :=
  match lastS now L with
  | none => (0, 7)
  | some x => if x.at0 < now - age then (0, 13) else (x.v, 0)

def lastA (now : Int) (L : List Sm) : Int := match lastS now L with | some x => x.at0 | none => 0
def lastV (now : Int) (L : List Sm) : Int := match lastS now L with | some x => x.v | none => 0

set_option maxRecDepth 100000 in
set_option maxHeartbeats 4000000 in
theorem fresh_in (bb bm : Nat) (most age now : Int) (p : Option Addr) (L : List Sm) (f : Lit → Option Value) (n : Nat) (kl : Lit) (sub met : ByteArray) (w : World) (hblk : w.heap[bb]? = some (.cells #[.int .i64 most, .int .i64 age, .map (some bm)] 55 (0, 0)))
    (hM : MapIs w Try.prog 33 bm n f) (hkey : keyOf Try.prog 33 (.agg #[.string sub, .string met]) = some kl) (hf : (f kl).getD (.pointer none) = .pointer p) (hst : Streams w p L) (hnow2 : now ≤ 9223372036854775807) (ha1 : 1 ≤ age) (ha2 : age ≤ 1800) :
    CallsIn Fence.wide 6 Try.prog 13 #[.pointer (some ⟨bb, 0, none⟩), .int .i64 now, .agg #[.string sub, .string met]] w fun e w' => e = .returned (.tuple #[.int .i64 (freshOf age now L).1, .int .i64 (freshOf age now L).2]) ∧ Below w.heap.size w w' := by
  have hro : Fence.wide.round = none := rfl
  have h1 : 1 ≤ 6 := by decide
  have hmix : Try.prog.follows .mixedOrders = true := by kernel_rfl
  have hbb := (Array.getElem?_eq_some_iff.1 hblk).1
  refine callsIn_of_wp_marks Try.func13 rfl trivial ?_ hro
  simp only [Try.ntmps13, List.size_toArray, List.length_cons, List.length_nil, Nat.reduceAdd, Nat.reduceSub, Array.replicate_succ, Array.replicate_zero, List.push_toArray, List.append_toArray, List.nil_append, List.cons_append]
  gi_wp2
  obtain ⟨N, hN⟩ : ∃ N, w.heap.size = N := ⟨_, rfl⟩
  obtain ⟨W0, hW0⟩ : ∃ W0, (((w.alloc (.cells #[.int .i64 now] 2)).alloc (.cells #[.string sub, .string met] 33)).alloc (.cells #[.int .i64 0, .int .i64 0] 64)).alloc (.cells #[.bool false] 4) = W0 := ⟨_, rfl⟩
  have hsz : W0.heap.size = N + 4 := by rw [← hW0, ← hN]; simp
  have hB0 : Below w.heap.size w W0 := by rw [← hW0]; exact ((((Below.refl _ w).alloc (Nat.le_refl _) _).alloc (by simp) _).alloc (by simp; omega) _).alloc (by simp; omega) _
  have r4 : RowAtF W0 N #[.int .i64 now] 2 := by rw [← hW0, ← hN]; exact (((RowAtF.new w _ _).alloc _).alloc _).alloc _
  have r5 : RowAtF W0 (N + 1) #[.string sub, .string met] 33 := by
    rw [← hW0, ← hN]
    have := ((RowAtF.new (w.alloc (.cells #[.int .i64 now] 2)) #[.string sub, .string met] 33).alloc (.cells #[.int .i64 0, .int .i64 0] 64)).alloc (.cells #[.bool false] 4)
    rw [World.size_alloc] at this
    exact this
  have r8 : RowAtF W0 (N + 1 + 1) #[.int .i64 0, .int .i64 0] 64 := by
    rw [← hW0, ← hN]
    have := (RowAtF.new ((w.alloc (.cells #[.int .i64 now] 2)).alloc (.cells #[.string sub, .string met] 33)) #[.int .i64 0, .int .i64 0] 64).alloc (.cells #[.bool false] 4)
    rw [World.size_alloc, World.size_alloc] at this
    exact this
  have r9 : RowAtF W0 (N + 1 + 1 + 1) #[.bool false] 4 := by
    rw [← hW0, ← hN]
    have := RowAtF.new (((w.alloc (.cells #[.int .i64 now] 2)).alloc (.cells #[.string sub, .string met] 33)).alloc (.cells #[.int .i64 0, .int .i64 0] 64)) #[.bool false] 4
    rw [World.size_alloc, World.size_alloc, World.size_alloc] at this
    exact this
  rw [hW0]
  rw [hN] at hB0 ⊢
  have hbk0 : W0.heap[bb]? = _ := (hB0.block bb (by omega)).trans hblk
  obtain ⟨c0, c1, c2⟩ := cells3 hbk0
  have s0 := cell_of_row W0 (N + 1) 0 _ _ _ r5
  have s1 := cell_of_row W0 (N + 1) 1 _ _ _ r5
  simp at s0 s1
  have hM0 := MapIs.below hM (by rw [hN]; exact hB0)
  have hlk : ∀ q, (Instr.lookup 53 (.map (some bm)) (.agg #[.string sub, .string met]) false).run Try.prog (W0.drewN q) = .ok (.pointer p) (W0.drewN q) := fun q => by
    have := (MapIs.same hM0 (w' := W0.drewN q) rfl).look serKeyed Try.underlying53 (zeroRing _) hkey
    rw [hf] at this
    exact this
  clear hW0
  refine wpIn_wide.2 ?_
  refine wp_region_head_lit 6 (fun w' => ∃ q : Nat, w' = W0.drewN q) (by kernel_rfl) (by kernel_rfl) ⟨1, rfl⟩ ?_
  simp only [List.take_succ_cons, List.take_zero, List.drop_succ_cons, List.drop_zero]
  repeat (quiet_step (exact rfl))
  refine wpQuiet_nil ?_
  rintro w' ⟨q, rfl⟩
  go_wp2_with fail
  refine (since_any p 0 _).mono ?_
  rintro e w1 ⟨rfl, rfl⟩
  obtain ⟨W1, hW1⟩ : ∃ W1, ((W0.drewN q).alloc (.cells #[.pointer p] 58)).alloc (.cells #[.int .i64 0] 2) = W1 := ⟨_, rfl⟩
  have hb01 : Below W0.heap.size W0 W1 := by rw [← hW1]; exact ((drewN_below (Below.refl _ W0) q).alloc (Nat.le_refl _) _).alloc (by simp) _
  have hsz1 : W1.heap.size = N + 6 := by rw [← hW1]; simp [hsz]
  have a0 : RowAtF W1 (N + 4) #[.pointer p] 58 := by
    rw [← hW1, ← hsz]
    exact (RowAtF.new (W0.drewN q) _ _).alloc _
  have a1 : RowAtF W1 (N + 4 + 1) #[.int .i64 0] 2 := by
    rw [← hW1, ← hsz]
    have := RowAtF.new ((W0.drewN q).alloc (.cells #[.pointer p] 58)) #[.int .i64 0] 2
    rw [World.size_alloc] at this
    exact this
  rw [hW1]
  have p4 : RowAtF W1 N #[.int .i64 now] 2 := (hb01.block N (by omega)).trans r4
  have p8 : RowAtF W1 (N + 1 + 1) #[.int .i64 0, .int .i64 0] 64 := (hb01.block _ (by omega)).trans r8
  have p9 : RowAtF W1 (N + 1 + 1 + 1) #[.bool false] 4 := (hb01.block _ (by omega)).trans r9
  have hB1 : Below N w W1 := hB0.trans (hb01.mono (by omega))
  have d0 := cell_of_row W1 (N + 4) 0 _ _ _ a0
  have d1 := cell_of_row W1 (N + 4 + 1) 0 _ _ _ a1
  simp at d0 d1
  have hSt := streams_stops (6 - 1) (by decide) (N + 4) (N + 4 + 1) p L N (fun k => N + 6 ≤ k ∨ k = N + 1 + 1 ∨ k = N + 1 + 1 + 1) (fun k hk h => by omega) (by omega) (by omega) w W1 (by omega) hst (by rw [hN]; exact hB1) d0 d1
  clear hlk hW1 r4 r5 r8 r9 c0 c1 c2 s0 s1 hM0 hM
  go_wp2_with fail
  gi_wp2
  refine wpIn_rangeFunc_ownH hro h1 (gf := 44) (lb := #[.pointer (some ⟨N + 4, 0, none⟩), .pointer (some ⟨N + 4 + 1, 0, none⟩)]) rfl trivial (enters_of Try.func44 (by kernel_rfl) rfl)
    hSt (fun h k => h.trans k (fun _ hh => .inl hh)) (frame_put (N := N + 6) (fun k hk => .inl hk) (by omega)) (Below.refl _ _) (fun _ => rfl)
    (fun pre W => (RowAtF W (N + 1 + 1) #[.int .i64 (lastA now pre), .int .i64 (lastV now pre)] 64 ∧ RowAtF W (N + 1 + 1 + 1) #[.bool (lastS now pre).isSome] 4 ∧ RowAtF W N #[.int .i64 now] 2 ∧ N + 6 ≤ W.heap.size) ∧ Below N w W)
    (fun _ _ _ => False)
    (OwnFrom.and (OwnFrom.and (RowAtF.own _ _ _ _) (OwnFrom.and (RowAtF.own _ _ _ _) (OwnFrom.and (RowAtF.own _ _ (fun _ => #[.int .i64 now]) _) (size_own _ _)))) (ownFrom_below (by omega) (by omega)))
    (fun _ _ _ _ _ hs _ _ => hs)
    ⟨⟨p8, p9, p4, by omega⟩, hB1⟩
    (fun x a' W => ∃ Bx, N + 6 ≤ Bx ∧ RowAtF W Bx #[.int .i64 x.at0, .int .i64 x.v] 64 ∧ a' = { tmps := #[.pointer (some ⟨bb, 0, none⟩), .int .i64 now, .agg #[.string sub, .string met], undef, .pointer (some ⟨N, 0, none⟩), .pointer (some ⟨N + 1, 0, none⟩), .int .i64 0, .int .i64 0, .pointer (some ⟨N + 1 + 1, 0, none⟩), .pointer (some ⟨N + 1 + 1 + 1, 0, none⟩), .pointer (some ⟨Bx, 0, none⟩), .pointer (some ⟨bb, 0, none⟩), .bool false, .pointer (some ⟨bb, 0, none⟩), .pointer (some ⟨bb, 0, none⟩), .pointer (some ⟨bb, 2, none⟩), .map (some bm), .agg #[.string sub, .string met], .pointer p, .func (.func 44) #[] #[.pointer (some ⟨N + 4, 0, none⟩), .pointer (some ⟨N + 4 + 1, 0, none⟩)], .agg #[.int .i64 x.at0, .int .i64 x.v], undef, undef, undef, undef, undef, undef, undef, undef, undef, undef, undef, undef, undef, undef, undef, undef, undef, undef, undef, undef, undef], defers := [] })
    (fun x a' _ X Y row hs hg hr => by obtain ⟨Bx, h1, h2, h3⟩ := hs; exact ⟨Bx, h1, h2.kept hg (fun r e => (hr r e).2), h3⟩)
    ?assign ?body ?done ?stop
  case assign =>
    rintro l pre x W K ⟨⟨b8, b9, b4, hs⟩, hB⟩ hK
    dsimp only [encSm]
    gi_wp2
    exact hK _ _ ((KeepsOthers.alloc _ _).from _) (Fr.of_below ((Below.refl _ W).alloc (Nat.le_refl _) _) _) ⟨⟨b8.alloc _, b9.alloc _, b4.alloc _, by simp; omega⟩, hB.alloc (by omega) _⟩ ⟨W.heap.size, hs, RowAtF.new W _ _, rfl⟩
  case body =>
    rintro l pre x a' W hl ⟨r, hr⟩ ⟨⟨b8, b9, b4, hs⟩, hB⟩ ⟨Bx, hBx, bX, rfl⟩ hlt
    have x0 := cell_of_row W Bx 0 _ _ _ bX
    have x1 := cell_of_row W Bx 1 _ _ _ bX
    have y0 := cell_of_row W N 0 _ _ _ b4
    have z0 := cell_of_row W (N + 1 + 1) 0 _ _ _ b8
    have z1 := cell_of_row W (N + 1 + 1) 1 _ _ _ b8
    have z2 := row_free b8 0
    have z3 := row_free b8 1
    have v0 := cell_of_row W (N + 1 + 1 + 1) 0 _ _ _ b9
    have v1 := row_free b9 0
    simp at x0 x1 y0 z0 z1 v0
    have hsn := lastS_snoc now pre x
    by_cases hx : x.at0 ≤ now
    · rw [if_pos hx] at hsn
      have eA : lastA now (pre ++ [x]) = x.at0 := by unfold lastA; rw [hsn]
      have eV : lastV now (pre ++ [x]) = x.v := by unfold lastV; rw [hsn]
      have eS : (lastS now (pre ++ [x])).isSome = true := by rw [hsn]; rfl
      have EA := Lib.hid eA
      have EV := Lib.hid eV
      have ES := Lib.hid eS
      clear hsn eA eV eS
      gi_wp2
      have q8 : RowAtF ((W.setCell ⟨N + 1 + 1, 0, none⟩ (.int .i64 x.at0)).setCell ⟨N + 1 + 1, 1, none⟩ (.int .i64 x.v)) (N + 1 + 1) #[.int .i64 x.at0, .int .i64 x.v] 64 := row_setCell (row_setCell b8 _) _
      have q9 : RowAtF ((W.setCell ⟨N + 1 + 1, 0, none⟩ (.int .i64 x.at0)).setCell ⟨N + 1 + 1, 1, none⟩ (.int .i64 x.v)) (N + 1 + 1 + 1) _ 4 := (b9.other (by omega) _).other (by omega) _
      have q4 : RowAtF ((W.setCell ⟨N + 1 + 1, 0, none⟩ (.int .i64 x.at0)).setCell ⟨N + 1 + 1, 1, none⟩ (.int .i64 x.v)) N _ 2 := (b4.other (by omega) _).other (by omega) _
      have u9 : RowAtF (((W.setCell ⟨N + 1 + 1, 0, none⟩ (.int .i64 x.at0)).setCell ⟨N + 1 + 1, 1, none⟩ (.int .i64 x.v)).setCell ⟨N + 1 + 1 + 1, 0, none⟩ (.bool true)) (N + 1 + 1 + 1) #[.bool true] 4 := row_setCell q9 _
      have hFr : Fr (fun k => N + 6 ≤ k ∨ k = N + 1 + 1 ∨ k = N + 1 + 1 + 1) W (((W.setCell ⟨N + 1 + 1, 0, none⟩ (.int .i64 x.at0)).setCell ⟨N + 1 + 1, 1, none⟩ (.int .i64 x.v)).setCell ⟨N + 1 + 1 + 1, 0, none⟩ (.bool true)) := (((Fr.refl _ W).set1 (.inr (.inl rfl)) _).set1 (.inr (.inl rfl)) _).set1 (.inr (.inr rfl)) _
      refine ⟨(((KeepsOthers.setCell _ _ _).trans (KeepsOthers.setCell _ _ _)).trans (KeepsOthers.setCell _ _ _)).from _, hFr, ⟨⟨?_, ?_, q4.other (by omega) _, Nat.le_trans hs hFr.size⟩, hB.trans (hFr.below (by omega) (fun k hk => by omega))⟩⟩
      · rw [EA.out, EV.out]; exact q8.other (by omega) _
      · rw [ES.out]; exact u9
    · rw [if_neg hx] at hsn
      have eA : lastA now (pre ++ [x]) = lastA now pre := by unfold lastA; rw [hsn]
      have eV : lastV now (pre ++ [x]) = lastV now pre := by unfold lastV; rw [hsn]
      have EA := Lib.hid eA
      have EV := Lib.hid eV
      have ES := Lib.hid hsn
      clear hsn eA eV
      gi_wp2
      exact ⟨(KeepsOthers.refl _).from _, Fr.refl _ _, ⟨⟨by rw [EA.out, EV.out]; exact b8, by rw [ES.out]; exact b9, b4, hs⟩, hB⟩⟩
  case done =>
    rintro D ys W hD rfl ⟨⟨b8, b9, b4, hs⟩, hB⟩ hK
    have hbkW : W.heap[bb]? = _ := (hB.block bb (by omega)).trans hblk
    obtain ⟨c0, c1, c2⟩ := cells3 hbkW
    have y0 := cell_of_row W N 0 _ _ _ b4
    have z0 := cell_of_row W (N + 1 + 1) 0 _ _ _ b8
    have z1 := cell_of_row W (N + 1 + 1) 1 _ _ _ b8
    have v0 := cell_of_row W (N + 1 + 1 + 1) 0 _ _ _ b9
    simp at y0 z0 z1 v0
    have hBel : ∀ q, Below w.heap.size w ((W.drewN q).putObj D (.deferred none)) := fun q => by
      have := belowK_b (w := w) (Nat.le_refl _) (W.drewN q) D _ (.deferred none) (by omega) (show (W.drewN q).heap[D]? = _ from hK) rfl rfl
      rw [hN] at this ⊢
      exact (drewN_below hB q).trans this
    have HBel := Lib.hid hBel
    clear hBel
    cases hl : lastS now ys with
    | none =>
      have hF : Hid (freshOf age now ys = (0, 7)) := by show _ = _; unfold freshOf; rw [hl]
      rw [hl] at v0
      dsimp only [Option.isSome] at v0
      clear hl z0 z1
      gi_wp2
      refine ⟨by simp, .inl ⟨_, _, rfl, run_takeDeferred hK, ?_⟩⟩
      refine ⟨.tuple #[.int .i64 0, .int .i64 7], by simp [results, Try.f13, go_sem], ?_⟩
      rw [hF.out]
      exact ⟨rfl, HBel.out 0⟩
    | some x =>
      have eA : lastA now ys = x.at0 := by unfold lastA; rw [hl]
      have eV : lastV now ys = x.v := by unfold lastV; rw [hl]
      rw [eA] at z0
      rw [eV] at z1
      have hpx := lastS_pos (streams_pos hst) hl
      have hw : IntKind.i64.wrap (now - age) = now - age := IntWalk.i64_in _ (by omega)
      by_cases hlt : x.at0 < now - age
      · have hF : Hid (freshOf age now ys = (0, 13)) := by show _ = _; unfold freshOf; rw [hl]; exact if_pos hlt
        rw [hl] at v0
        dsimp only [Option.isSome] at v0
        clear hl eA eV
        gi_wp2
        refine wpIn_wide.2 ?_
        go_quiet (fail)
        gi_wp2
        rename_i nq
        refine ⟨by simp, .inl ⟨_, _, rfl, run_takeDeferred (show (W.drewN nq).heap[D]? = _ from hK), ?_⟩⟩
        refine ⟨.tuple #[.int .i64 0, .int .i64 13], by simp [results, Try.f13, go_sem], ?_⟩
        rw [hF.out]
        exact ⟨rfl, HBel.out _⟩
      · have hF : Hid (freshOf age now ys = (x.v, 0)) := by show _ = _; unfold freshOf; rw [hl]; exact if_neg hlt
        rw [hl] at v0
        dsimp only [Option.isSome] at v0
        clear hl eA eV
        gi_wp2
        refine wpIn_wide.2 ?_
        go_quiet (fail)
        gi_wp2
        refine ⟨by simp, .inl ⟨_, _, rfl, run_takeDeferred (show (W.drewN nq).heap[D]? = _ from hK), ?_⟩⟩
        refine ⟨.tuple #[.int .i64 x.v, .int .i64 0], by simp [results, Try.f13, go_sem], ?_⟩
        rw [hF.out]
        exact ⟨rfl, HBel.out _⟩
  case stop =>
    rintro D c pre W _ _ h _
    exact h.elim
end Go.Proofs.Ytoamjihchmokcaa
