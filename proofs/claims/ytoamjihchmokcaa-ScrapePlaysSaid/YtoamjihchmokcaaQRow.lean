/- The contract of scrape's Row. Condition: the book lies in blocks of the call's own. -/
import Derived.Test.YtoamjihchmokcaaFreshM
import Derived.RangeFuncBox
import Derived.OwnWalkIn
import Derived.Test.YtoamjihchmokcaaE40
namespace Go.Proofs.Ytoamjihchmokcaa
open Go.RowKit Go.Shelf Go.Maps

attribute [local go_sem] Oper.semAt_some

def isFreshS (c now : Int) (x : Sm) : Bool := decide (x.at0 ≤ now) && decide (c ≤ x.at0)
def rowOfL (c now : Int) (L : List Sm) : List Sm := L.filter (isFreshS c now)
def cellsS (L : List Sm) : List Value := L.flatMap fun x => [.int .i64 x.at0, .int .i64 x.v]
theorem rowOfL_hit {c now : Int} (L : List Sm) {x : Sm} (h : isFreshS c now x = true) : rowOfL c now (L ++ [x]) = rowOfL c now L ++ [x] := by
  unfold rowOfL
  rw [List.filter_append]
  simp [h]
theorem rowOfL_miss {c now : Int} (L : List Sm) {x : Sm} (h : isFreshS c now x = false) : rowOfL c now (L ++ [x]) = rowOfL c now L := by
  unfold rowOfL
  rw [List.filter_append]
  simp [h]
theorem cellsS_snoc (L : List Sm) (x : Sm) : cellsS (L ++ [x]) = cellsS L ++ [.int .i64 x.at0, .int .i64 x.v] := by
  unfold cellsS
  rw [List.flatMap_append]
  simp
theorem elemSmR : ElemOK Try.prog 42 64 2 16 := .mk' Try.underlying42 (by kernel_rfl) (by decide)
theorem cells_two_new (W : World) (a b : Value) (t : TypeId) (j : Nat) (u : Value) (h : [a, b][j]? = some u) : (W.alloc (.cells #[a, b] t)).cell? ((⟨W.heap.size, 0, none⟩ : Addr).add j) = some u := by
  rw [cell_new]
  simpa using h

theorem keepsOthers_below {W W' : World} (h : Below W.heap.size W W') : KeepsOthers W W' := ⟨h.size, fun k _ hk _ => (h.block k (Array.getElem?_eq_some_iff.1 hk).1).trans hk⟩
theorem own_belowQ {w w' : World} {B e size n : Nat} {v : Value} {xs : List Value} (h : w.ownsRow B e size v n xs) (hb : Below w.heap.size w w') : w'.ownsRow B e size v n xs := by
  obtain ⟨h1, h2⟩ := h
  refine ⟨h1, h2.imp id ?_⟩
  rintro ⟨g, cap, cur, e1, e2, e3, e4⟩
  exact ⟨g, cap, cur, e1, e2, (hb.block g (Array.getElem?_eq_some_iff.1 e3).1).trans e3, e4⟩

theorem own_baseQ {w : World} {B B' e size n : Nat} {v : Value} {xs : List Value} (h : w.ownsRow B e size v n xs) (hb : B' ≤ B) : w.ownsRow B' e size v n xs := by
  obtain ⟨h1, h2⟩ := h
  refine ⟨h1, h2.imp id ?_⟩
  rintro ⟨g, cap, cur, e1, e2, e3⟩
  exact ⟨g, cap, cur, e1, Nat.le_trans hb e2, e3⟩

set_option maxRecDepth 100000 in
set_option maxHeartbeats 4000000 in
theorem row_in (bb bm : Nat) (most age now : Int) (p : Option Addr) (L : List Sm) (f : Lit → Option Value) (n : Nat) (kl : Lit) (sub met : ByteArray) (w : World) (hblk : w.heap[bb]? = some (.cells #[.int .i64 most, .int .i64 age, .map (some bm)] 55 (0, 0)))
    (hM : MapIs w Try.prog 33 bm n f) (hkey : keyOf Try.prog 33 (.agg #[.string sub, .string met]) = some kl) (hf : (f kl).getD (.pointer none) = .pointer p) (hst : Streams w p L) (hlen : L.length ≤ 4096) (c : Int) (hcw : IntKind.i64.wrap (now - age) = c) :
    CallsIn Fence.wide 6 Try.prog 27 #[.pointer (some ⟨bb, 0, none⟩), .int .i64 now, .agg #[.string sub, .string met]] w fun e w' => ∃ v, e = .returned v ∧ w'.ownsRow w.heap.size 64 2 v (rowOfL c now L).length (cellsS (rowOfL c now L)) ∧ Below w.heap.size w w' := by
  have hro : Fence.wide.round = none := rfl
  have h1 : 1 ≤ 6 := by decide
  have hmix : Try.prog.follows .mixedOrders = true := by kernel_rfl
  have hbb := (Array.getElem?_eq_some_iff.1 hblk).1
  obtain ⟨ie, ze, hie, hze, hz1, hz2, hz3⟩ := elemSmR.info
  refine callsIn_of_wp_marks Try.func27 rfl trivial ?_ hro
  simp only [Try.ntmps27, List.size_toArray, List.length_cons, List.length_nil, Nat.reduceAdd, Nat.reduceSub, Array.replicate_succ, Array.replicate_zero, List.push_toArray, List.append_toArray, List.nil_append, List.cons_append]
  gi_wp2
  obtain ⟨N, hN⟩ : ∃ N, w.heap.size = N := ⟨_, rfl⟩
  obtain ⟨W0, hW0⟩ : ∃ W0, (((w.alloc (.cells #[.pointer (some ⟨bb, 0, none⟩)] 27)).alloc (.cells #[.int .i64 now] 2)).alloc (.cells #[.string sub, .string met] 33)).alloc (.cells #[.slice none 0 0] 42) = W0 := ⟨_, rfl⟩
  have hsz : W0.heap.size = N + 4 := by rw [← hW0, ← hN]; simp
  have hB0 : Below w.heap.size w W0 := by rw [← hW0]; exact ((((Below.refl _ w).alloc (Nat.le_refl _) _).alloc (by simp) _).alloc (by simp; omega) _).alloc (by simp; omega) _
  have r3 : RowAtF W0 N #[.pointer (some ⟨bb, 0, none⟩)] 27 := by rw [← hW0, ← hN]; exact (((RowAtF.new w _ _).alloc _).alloc _).alloc _
  have r4 : RowAtF W0 (N + 1) #[.int .i64 now] 2 := by
    rw [← hW0, ← hN]
    have := ((RowAtF.new (w.alloc (.cells #[.pointer (some ⟨bb, 0, none⟩)] 27)) #[.int .i64 now] 2).alloc (.cells #[.string sub, .string met] 33)).alloc (.cells #[.slice none 0 0] 42)
    rw [World.size_alloc] at this
    exact this
  have r5 : RowAtF W0 (N + 1 + 1) #[.string sub, .string met] 33 := by
    rw [← hW0, ← hN]
    have := (RowAtF.new ((w.alloc (.cells #[.pointer (some ⟨bb, 0, none⟩)] 27)).alloc (.cells #[.int .i64 now] 2)) #[.string sub, .string met] 33).alloc (.cells #[.slice none 0 0] 42)
    rw [World.size_alloc, World.size_alloc] at this
    exact this
  have r7 : Boxed W0 (N + 1 + 1 + 1) 42 (.slice none 0 0) := by
    rw [← hW0, ← hN]
    have := Boxed.new (((w.alloc (.cells #[.pointer (some ⟨bb, 0, none⟩)] 27)).alloc (.cells #[.int .i64 now] 2)).alloc (.cells #[.string sub, .string met] 33)) 42 (.slice none 0 0)
    rw [World.size_alloc, World.size_alloc, World.size_alloc] at this
    exact this
  rw [hW0]
  rw [hN] at hB0 ⊢
  have hbk0 : W0.heap[bb]? = _ := (hB0.block bb (by omega)).trans hblk
  obtain ⟨k0, k1, k2⟩ := cells3 hbk0
  have s0 := cell_of_row W0 (N + 1 + 1) 0 _ _ _ r5
  have s1 := cell_of_row W0 (N + 1 + 1) 1 _ _ _ r5
  have t0 := cell_of_row W0 N 0 _ _ _ r3
  simp at s0 s1 t0
  have hM0 := MapIs.below hM (by rw [hN]; exact hB0)
  have hlk : ∀ q, (Instr.lookup 53 (.map (some bm)) (.agg #[.string sub, .string met]) false).run Try.prog (W0.drewN q) = .ok (.pointer p) (W0.drewN q) := fun q => by
    have := (MapIs.same hM0 (w' := W0.drewN q) rfl).look serKeyed Try.underlying53 (zeroRing _) hkey
    rw [hf] at this
    exact this
  clear hW0
  refine wpIn_wide.2 ?_
  refine wp_region_head_lit 6 (fun w' => ∃ q : Nat, w' = W0.drewN q) (by kernel_rfl) (by kernel_rfl) ⟨1, rfl⟩ ?_
  simp only [List.take_succ_cons, List.take_zero, List.drop_succ_cons, List.drop_zero]
  repeat (quiet_step (exact rfl))
  refine wpQuiet_nil ?_
  rintro w' ⟨q, rfl⟩
  go_wp2_with fail
  refine (since_any p 0 _).mono ?_
  rintro e w1 ⟨rfl, rfl⟩
  obtain ⟨W1, hW1⟩ : ∃ W1, ((W0.drewN q).alloc (.cells #[.pointer p] 58)).alloc (.cells #[.int .i64 0] 2) = W1 := ⟨_, rfl⟩
  have hb01 : Below W0.heap.size W0 W1 := by rw [← hW1]; exact ((drewN_below (Below.refl _ W0) q).alloc (Nat.le_refl _) _).alloc (by simp) _
  have hsz1 : W1.heap.size = N + 6 := by rw [← hW1]; simp [hsz]
  have a0 : RowAtF W1 (N + 4) #[.pointer p] 58 := by
    rw [← hW1, ← hsz]
    exact (RowAtF.new (W0.drewN q) _ _).alloc _
  have a1 : RowAtF W1 (N + 4 + 1) #[.int .i64 0] 2 := by
    rw [← hW1, ← hsz]
    have := RowAtF.new ((W0.drewN q).alloc (.cells #[.pointer p] 58)) #[.int .i64 0] 2
    rw [World.size_alloc] at this
    exact this
  rw [hW1]
  have p3 : RowAtF W1 N #[.pointer (some ⟨bb, 0, none⟩)] 27 := (hb01.block N (by omega)).trans r3
  have p4 : RowAtF W1 (N + 1) #[.int .i64 now] 2 := (hb01.block _ (by omega)).trans r4
  have p7 : Boxed W1 (N + 1 + 1 + 1) 42 (.slice none 0 0) := (hb01.block _ (by omega)).trans r7
  have hB1 : Below N w W1 := hB0.trans (hb01.mono (by omega))
  have d0 := cell_of_row W1 (N + 4) 0 _ _ _ a0
  have d1 := cell_of_row W1 (N + 4 + 1) 0 _ _ _ a1
  simp at d0 d1
  have hSt := streams_stops (6 - 1) (by decide) (N + 4) (N + 4 + 1) p L N (fun k => N + 6 ≤ k ∨ k = N + 1 + 1 + 1) (fun k hk h => by omega) (by omega) (by omega) w W1 (by omega) hst (by rw [hN]; exact hB1) d0 d1
  clear hlk hW1 r3 r4 r5 r7 k0 k1 k2 s0 s1 t0 hM0 hM
  go_wp2_with fail
  gi_wp2
  refine wpIn_rangeFunc_ownH hro h1 (gf := 44) (lb := #[.pointer (some ⟨N + 4, 0, none⟩), .pointer (some ⟨N + 4 + 1, 0, none⟩)]) rfl trivial (enters_of Try.func44 (by kernel_rfl) rfl)
    hSt (fun h k => h.trans k (fun _ hh => .inl hh)) (frame_put (N := N + 6) (fun k hk => .inl hk) (by omega)) (Below.refl _ _) (fun _ => rfl)
    (fun pre W => (∃ v, Boxed W (N + 1 + 1 + 1) 42 v ∧ W.ownsRow (N + 6) 64 2 v (rowOfL c now pre).length (cellsS (rowOfL c now pre)) ∧ True) ∧ (RowAtF W N #[.pointer (some ⟨bb, 0, none⟩)] 27 ∧ RowAtF W (N + 1) #[.int .i64 now] 2 ∧ N + 6 ≤ W.heap.size) ∧ Below N w W)
    (fun _ _ _ => False)
    (OwnFrom.and (Own.from (holdsRow_own (N + 6) (N + 1 + 1 + 1) 42 64 2 (fun pre => (rowOfL c now pre).length) (fun pre => cellsS (rowOfL c now pre)) (fun _ _ => True)) _) (OwnFrom.and (OwnFrom.and (RowAtF.own _ _ (fun _ => #[.pointer (some ⟨bb, 0, none⟩)]) _) (OwnFrom.and (RowAtF.own _ _ (fun _ => #[.int .i64 now]) _) (size_own _ _))) (ownFrom_below (by omega) (by omega))))
    (fun _ _ _ _ _ hs _ _ => hs)
    ⟨⟨_, p7, World.ownsRow_nil _ _ _ _, trivial⟩, ⟨p3, p4, by omega⟩, hB1⟩
    (fun x a' W => ∃ Bx, N + 6 ≤ Bx ∧ RowAtF W Bx #[.int .i64 x.at0, .int .i64 x.v] 64 ∧ a' = { tmps := #[.pointer (some ⟨bb, 0, none⟩), .int .i64 now, .agg #[.string sub, .string met], .pointer (some ⟨N, 0, none⟩), .pointer (some ⟨N + 1, 0, none⟩), .pointer (some ⟨N + 1 + 1, 0, none⟩), .slice none 0 0, .pointer (some ⟨N + 1 + 1 + 1, 0, none⟩), .pointer (some ⟨Bx, 0, none⟩), .pointer (some ⟨bb, 0, none⟩), .bool false, .pointer (some ⟨bb, 0, none⟩), .pointer (some ⟨bb, 0, none⟩), .pointer (some ⟨bb, 2, none⟩), .map (some bm), .agg #[.string sub, .string met], .pointer p, .func (.func 44) #[] #[.pointer (some ⟨N + 4, 0, none⟩), .pointer (some ⟨N + 4 + 1, 0, none⟩)], .agg #[.int .i64 x.at0, .int .i64 x.v], undef, undef, undef, undef, undef, undef, undef, undef, undef, undef, undef, undef, undef, undef, undef, undef, undef, undef, undef, undef, undef], defers := [] })
    (fun x a' _ X Y row hs hg hr => by obtain ⟨Bx, h1, h2, h3⟩ := hs; exact ⟨Bx, h1, h2.kept hg (fun r e => (hr r e).2), h3⟩)
    ?assign ?body ?done ?stop
  case assign =>
    rintro l pre x W K ⟨⟨v, b7, hrow, _⟩, ⟨b3, b4, hs⟩, hB⟩ hK
    dsimp only [encSm]
    gi_wp2
    exact hK _ _ ((KeepsOthers.alloc _ _).from _) (Fr.of_below ((Below.refl _ W).alloc (Nat.le_refl _) _) _) ⟨⟨v, b7.alloc _, hrow.alloc _, trivial⟩, ⟨b3.alloc _, b4.alloc _, by simp; omega⟩, hB.alloc (by omega) _⟩ ⟨W.heap.size, hs, RowAtF.new W _ _, rfl⟩
  case body =>
    rintro l pre x a' W hl ⟨r, hr⟩ ⟨⟨v, b7, hrow, _⟩, ⟨b3, b4, hs⟩, hB⟩ ⟨Bx, hBx, bX, rfl⟩ hlt
    have x0 := cell_of_row W Bx 0 _ _ _ bX
    have x1 := cell_of_row W Bx 1 _ _ _ bX
    have y0 := cell_of_row W N 0 _ _ _ b3
    have y1 := cell_of_row W (N + 1) 0 _ _ _ b4
    have z0 := b7.cell
    have hbkW : W.heap[bb]? = _ := (hB.block bb (by omega)).trans hblk
    obtain ⟨k0, k1, k2⟩ := cells3 hbkW
    simp at x0 x1 y0 y1
    have hll : l < W.heap.size := (Array.getElem?_eq_some_iff.1 hr).1
    have hne : l ≠ Bx := fun e => by rw [e, show W.heap[Bx]? = _ from bX] at hr; cases hr
    have hBxlt := bX.lt
    have hl6 : N + 6 ≤ l := by omega
    have hnd : [l, N, N + 1, Bx, bb].Nodup := by simp; omega
    have hlt' : ∀ k ∈ [l, N, N + 1, Bx, bb], k < W.heap.size := by
      intro k hk
      simp only [List.mem_cons, List.not_mem_nil, or_false] at hk
      omega
    obtain ⟨AL, hAL⟩ : ∃ AL : List Value, AL = [.int .i64 now, .int .i64 x.at0, .int .i64 x.v, .int .i64 most, .int .i64 age, .map (some bm), .string sub, .string met, .pointer (some ⟨N + 1 + 1, 0, none⟩), .pointer (some ⟨N + 1 + 1 + 1, 0, none⟩), .pointer p, .func (.func 44) #[] #[.pointer (some ⟨N + 4, 0, none⟩), .pointer (some ⟨N + 4 + 1, 0, none⟩)], .int .i64 c] := ⟨_, rfl⟩
    have h1 : ∀ k, (E.atR AL k).oneCell' = true := fun k => E.atR_one (by rw [hAL]; rfl) k
    have i0 : E.asInt (E.atR AL) (.atom 0) = some (.i64, now) := by rw [hAL]; rfl
    have i1 : E.asInt (E.atR AL) (.atom 1) = some (.i64, x.at0) := by rw [hAL]; rfl
    have i4 : E.asInt (E.atR AL) (.atom 4) = some (.i64, age) := by rw [hAL]; rfl
    have i12 : E.asInt (E.atR AL) (.atom 12) = some (.i64, c) := by rw [hAL]; rfl
    have hlive : ∀ (b : Nat) (o : E.O) (k : Nat), ([.dead, .cells [.ptr 4 0] 27 false, .cells [.atom 0] 2 false, .cells [.atom 1, .atom 2] 64 false, .cells [.atom 3, .atom 4, .atom 5] 55 false] : List E.O)[b]? = some o → [l, N, N + 1, Bx, bb][b]? = some k → o ≠ .dead → ∃ obj, W.heap[k]? = some obj ∧ E.litO (E.mkI [l, N, N + 1, Bx, bb] (E.atR AL)) o = some obj := by
      intro b o k q1 q2 q3
      rcases b with _ | _ | _ | _ | _ | b
      · simp at q1; exact absurd q1.symm q3
      · simp at q1 q2; subst q1 q2; exact ⟨_, b3, by rfl⟩
      · simp at q1 q2; subst q1 q2; exact ⟨_, b4, by rw [hAL]; rfl⟩
      · simp at q1 q2; subst q1 q2; exact ⟨_, bX, by rw [hAL]; rfl⟩
      · simp at q1 q2; subst q1 q2; exact ⟨_, hbkW, by rw [hAL]; rfl⟩
      · simp at q1
    have hT0 : E.litsV (E.mkI [l, N, N + 1, Bx, bb] (E.atR AL)) [.ptr 4 0, .atom 0, .agg [.atom 6, .atom 7], .ptr 1 0, .ptr 2 0, .atom 8, .nilsl, .atom 9, .ptr 3 0, .ptr 4 0, .bool false, .ptr 4 0, .ptr 4 0, .ptr 4 2, .atom 5, .agg [.atom 6, .atom 7], .atom 10, .atom 11, .agg [.atom 1, .atom 2], .tup [], .tup [], .tup [], .tup [], .tup [], .tup [], .tup [], .tup [], .tup [], .tup [], .tup [], .tup [], .tup [], .tup [], .tup [], .tup [], .tup [], .tup [], .tup [], .tup [], .tup []] = some [.pointer (some ⟨bb, 0, none⟩), .int .i64 now, .agg #[.string sub, .string met], .pointer (some ⟨N, 0, none⟩), .pointer (some ⟨N + 1, 0, none⟩), .pointer (some ⟨N + 1 + 1, 0, none⟩), .slice none 0 0, .pointer (some ⟨N + 1 + 1 + 1, 0, none⟩), .pointer (some ⟨Bx, 0, none⟩), .pointer (some ⟨bb, 0, none⟩), .bool false, .pointer (some ⟨bb, 0, none⟩), .pointer (some ⟨bb, 0, none⟩), .pointer (some ⟨bb, 2, none⟩), .map (some bm), .agg #[.string sub, .string met], .pointer p, .func (.func 44) #[] #[.pointer (some ⟨N + 4, 0, none⟩), .pointer (some ⟨N + 4 + 1, 0, none⟩)], .agg #[.int .i64 x.at0, .int .i64 x.v], undef, undef, undef, undef, undef, undef, undef, undef, undef, undef, undef, undef, undef, undef, undef, undef, undef, undef, undef, undef, undef] := by rw [hAL]; rfl
    have fin : ∀ w', Below W.heap.size W w' → isFreshS c now x = false → ∀ tm', ownPostG W1.heap.size (Fr fun k => N + 6 ≤ k ∨ k = N + 1 + 1 + 1)
        (fun pre W => (∃ v, Boxed W (N + 1 + 1 + 1) 42 v ∧ W.ownsRow (N + 6) 64 2 v (rowOfL c now pre).length (cellsS (rowOfL c now pre)) ∧ True) ∧ (RowAtF W N #[.pointer (some ⟨bb, 0, none⟩)] 27 ∧ RowAtF W (N + 1) #[.int .i64 now] 2 ∧ N + 6 ≤ W.heap.size) ∧ Below N w W)
        (fun _ _ _ => False) (pre ++ [x]) W Exit.normal ⟨tm', []⟩ w' := fun w' hb hm tm' =>
      ⟨(keepsOthers_below hb).from _, Fr.of_below hb _, ⟨v, (hb.block _ b7.lt).trans b7, by rw [rowOfL_miss pre hm]; exact own_belowQ hrow hb, trivial⟩, ⟨(hb.block _ b3.lt).trans b3, (hb.block _ b4.lt).trans b4, Nat.le_trans hs hb.size⟩, hB.trans (hb.mono (by omega))⟩
    by_cases hx : x.at0 ≤ now
    · by_cases hx2 : c ≤ x.at0
      · have Hd2 := Lib.hid (decide_eq_true hx2)
        have Hit : Hid (isFreshS c now x = true) := by show _ = _; unfold isFreshS; rw [decide_eq_true hx, decide_eq_true hx2]; rfl
        have hT1 : E.litsV (E.mkI [l, N, N + 1, Bx, bb] (E.atR AL)) [.ptr 4 0, .atom 0, .agg [.atom 6, .atom 7], .ptr 1 0, .ptr 2 0, .atom 8, .nilsl, .atom 9, .ptr 3 0, .ptr 4 0, .bool false, .ptr 4 0, .ptr 4 0, .ptr 4 2, .atom 5, .agg [.atom 6, .atom 7], .atom 10, .atom 11, .agg [.atom 1, .atom 2], .ptr 3 0, .atom 1, .atom 0, .bool true, .bool true, .ptr 3 0, .atom 1, .atom 0, .ptr 4 0, .ptr 4 0, .ptr 4 0, .ptr 4 1, .atom 4, .atom 12, .bool true, .bool true, .tup [], .tup [], .tup [], .tup [], .tup []] = some [.pointer (some ⟨bb, 0, none⟩), .int .i64 now, .agg #[.string sub, .string met], .pointer (some ⟨N, 0, none⟩), .pointer (some ⟨N + 1, 0, none⟩), .pointer (some ⟨N + 1 + 1, 0, none⟩), .slice none 0 0, .pointer (some ⟨N + 1 + 1 + 1, 0, none⟩), .pointer (some ⟨Bx, 0, none⟩), .pointer (some ⟨bb, 0, none⟩), .bool false, .pointer (some ⟨bb, 0, none⟩), .pointer (some ⟨bb, 0, none⟩), .pointer (some ⟨bb, 2, none⟩), .map (some bm), .agg #[.string sub, .string met], .pointer p, .func (.func 44) #[] #[.pointer (some ⟨N + 4, 0, none⟩), .pointer (some ⟨N + 4 + 1, 0, none⟩)], .agg #[.int .i64 x.at0, .int .i64 x.v], .pointer (some ⟨Bx, 0, none⟩), .int .i64 x.at0, .int .i64 now, .bool true, .bool true, .pointer (some ⟨Bx, 0, none⟩), .int .i64 x.at0, .int .i64 now, .pointer (some ⟨bb, 0, none⟩), .pointer (some ⟨bb, 0, none⟩), .pointer (some ⟨bb, 0, none⟩), .pointer (some ⟨bb, 1, none⟩), .int .i64 age, .int .i64 c, .bool true, .bool true, undef, undef, undef, undef, undef] := by rw [hAL]; rfl
        gi_wp2
        refine E.exec_read (os := [.dead, .cells [.ptr 4 0] 27 false, .cells [.atom 0] 2 false, .cells [.atom 1, .atom 2] 64 false, .cells [.atom 3, .atom 4, .atom 5] 55 false]) (cs := [l, N, N + 1, Bx, bb]) (at_ := E.atR AL) (E.ok_mid (E.factA [⟨.leq, .atom 1, .atom 0, .bool true⟩, ⟨.sub, .atom 0, .atom 4, .atom 12⟩, ⟨.geq, .atom 1, .atom 12, .bool true⟩]) (E.factL [] []) E.noI E.noN hmix) (n := 60) (rd := some 0) (rb := some l) (ex := .normal)
          (L0 := [.ptr 4 0, .atom 0, .agg [.atom 6, .atom 7], .ptr 1 0, .ptr 2 0, .atom 8, .nilsl, .atom 9, .ptr 3 0, .ptr 4 0, .bool false, .ptr 4 0, .ptr 4 0, .ptr 4 2, .atom 5, .agg [.atom 6, .atom 7], .atom 10, .atom 11, .agg [.atom 1, .atom 2], .tup [], .tup [], .tup [], .tup [], .tup [], .tup [], .tup [], .tup [], .tup [], .tup [], .tup [], .tup [], .tup [], .tup [], .tup [], .tup [], .tup [], .tup [], .tup [], .tup [], .tup []])
          (L1 := [.ptr 4 0, .atom 0, .agg [.atom 6, .atom 7], .ptr 1 0, .ptr 2 0, .atom 8, .nilsl, .atom 9, .ptr 3 0, .ptr 4 0, .bool false, .ptr 4 0, .ptr 4 0, .ptr 4 2, .atom 5, .agg [.atom 6, .atom 7], .atom 10, .atom 11, .agg [.atom 1, .atom 2], .ptr 3 0, .atom 1, .atom 0, .bool true, .bool true, .ptr 3 0, .atom 1, .atom 0, .ptr 4 0, .ptr 4 0, .ptr 4 0, .ptr 4 1, .atom 4, .atom 12, .bool true, .bool true, .tup [], .tup [], .tup [], .tup [], .tup []])
          (by kernel_rfl) rfl rfl h1 rfl rfl hnd hlt' hlive (E.atoms_mid h1 (by
            intro f hf
            simp only [List.mem_cons, List.not_mem_nil, or_false] at hf
            rcases hf with rfl | rfl | rfl
            · exact E.fact_leq i1 i0 (decide_eq_true (by omega))
            · exact E.fact_sub i0 i4 (by rw [hcw]; exact i12)
            · exact E.fact_geq i1 i12 (Hd2.out))) rfl hT0 hT1 ?_
        rintro e w' he hb
        cases e <;> try exact he.elim
        clear fin
        have b7' : Boxed w' _ _ v := (hb.block _ b7.lt).trans b7
        have bX' : RowAtF w' Bx _ _ := (hb.block _ bX.lt).trans bX
        have hrow' := own_belowQ hrow hb
        have z0' := b7'.cell
        have x0' := cell_of_row w' Bx 0 _ _ _ bX'
        have x1' := cell_of_row w' Bx 1 _ _ _ bX'
        simp at x0' x1'
        have hpl : (rowOfL c now pre).length ≤ pre.length := List.length_filter_le _ _
        clear hlive h1 i0 i1 i4 i12 hT0 hT1 hAL hnd hlt' x0 x1 y0 y1 z0
        have hpn : (rowOfL c now pre).length + 1 ≤ 4096 := by omega
        have hs' : N + 6 ≤ w'.heap.size := Nat.le_trans hs hb.size
        have hte : (42 : Nat) ≠ 64 := by decide
        gi_wp2_with (gi_at_builtin; refine wpListIn_append_own _ rfl _ _ 42 rfl (N + 6) 64 ie ze 2 16 Try.underlying42 hie hze hz1 hz2 hz3 (by decide) _ _ _ rfl (hrow'.alloc _) ⟨w'.heap.size, 0, none⟩ 1 1 [.int .i64 x.at0, .int .i64 x.v] rfl rfl (cells_two_new _ _ _ _) (by intro u hu; simp at hu; rcases hu with rfl | rfl <;> rfl) (by unfold maxLen; omega) (by omega) (by simp; omega) ?_; intro v' w1 hown' hgrow _; obtain ⟨g', cap', rfl⟩ := ownsRow_succ hown'; have hv1 := (b7'.alloc (.cells #[.int .i64 x.at0, .int .i64 x.v] 64)).kept hgrow (b7'.not_row hte hrow'); have hc1 := hv1.cell; have hf1 := hv1.frozen)
        have hv2 := hv1.set (.slice (some ⟨g', 0, none⟩) ((rowOfL c now pre).length + 1) cap')
        have hr2 := hown'.kept (grownBy_setCell' w1 (N + 1 + 1 + 1) (.slice (some ⟨g', 0, none⟩) ((rowOfL c now pre).length + 1) cap')) (.inr (hv1.not_row hte hown').symm)
        have hk2 := (Boxed.appended (n₀ := 0) b7' hte (own_baseQ hrow' (Nat.zero_le _)) (Nat.zero_le _) (Nat.zero_le _) (own_baseQ hown' (Nat.zero_le _)) hgrow).2.2.2.1
        have hFr : Fr (fun k => N + 6 ≤ k ∨ k = N + 1 + 1 + 1) W (w1.setCell ⟨N + 1 + 1 + 1, 0, none⟩ (.slice (some ⟨g', 0, none⟩) ((rowOfL c now pre).length + 1) cap')) :=
          (((Fr.of_below (hb.alloc hb.size _) _).trans (T := fun k => N + 6 ≤ k ∨ k = N + 1 + 1 + 1) (Fr.grown hgrow fun k hk => .inl (World.ownsRow.lt hrow' k hk).1) (fun _ hh => .inl hh)).set1 (.inr rfl) _)
        have hBel : Below N W _ := hFr.below (by omega) (fun k hk => by omega)
        exact ⟨((keepsOthers_below hb).trans hk2).from _, hFr, ⟨_, hv2, by rw [rowOfL_hit pre Hit.out, cellsS_snoc, List.length_append]; exact hr2, trivial⟩, ⟨hFr.heap b3 (by omega), hFr.heap b4 (by omega), Nat.le_trans hs hFr.size⟩, hB.trans hBel⟩
      · have Hd2 := Lib.hid (decide_eq_false hx2)
        have Hit : Hid (isFreshS c now x = false) := by show _ = _; unfold isFreshS; rw [decide_eq_false hx2]; simp
        have hT1 : E.litsV (E.mkI [l, N, N + 1, Bx, bb] (E.atR AL)) [.ptr 4 0, .atom 0, .agg [.atom 6, .atom 7], .ptr 1 0, .ptr 2 0, .atom 8, .nilsl, .atom 9, .ptr 3 0, .ptr 4 0, .bool false, .ptr 4 0, .ptr 4 0, .ptr 4 2, .atom 5, .agg [.atom 6, .atom 7], .atom 10, .atom 11, .agg [.atom 1, .atom 2], .ptr 3 0, .atom 1, .atom 0, .bool true, .bool true, .ptr 3 0, .atom 1, .atom 0, .ptr 4 0, .ptr 4 0, .ptr 4 0, .ptr 4 1, .atom 4, .atom 12, .bool false, .bool false, .tup [], .tup [], .tup [], .tup [], .tup []] = some [.pointer (some ⟨bb, 0, none⟩), .int .i64 now, .agg #[.string sub, .string met], .pointer (some ⟨N, 0, none⟩), .pointer (some ⟨N + 1, 0, none⟩), .pointer (some ⟨N + 1 + 1, 0, none⟩), .slice none 0 0, .pointer (some ⟨N + 1 + 1 + 1, 0, none⟩), .pointer (some ⟨Bx, 0, none⟩), .pointer (some ⟨bb, 0, none⟩), .bool false, .pointer (some ⟨bb, 0, none⟩), .pointer (some ⟨bb, 0, none⟩), .pointer (some ⟨bb, 2, none⟩), .map (some bm), .agg #[.string sub, .string met], .pointer p, .func (.func 44) #[] #[.pointer (some ⟨N + 4, 0, none⟩), .pointer (some ⟨N + 4 + 1, 0, none⟩)], .agg #[.int .i64 x.at0, .int .i64 x.v], .pointer (some ⟨Bx, 0, none⟩), .int .i64 x.at0, .int .i64 now, .bool true, .bool true, .pointer (some ⟨Bx, 0, none⟩), .int .i64 x.at0, .int .i64 now, .pointer (some ⟨bb, 0, none⟩), .pointer (some ⟨bb, 0, none⟩), .pointer (some ⟨bb, 0, none⟩), .pointer (some ⟨bb, 1, none⟩), .int .i64 age, .int .i64 c, .bool false, .bool false, undef, undef, undef, undef, undef] := by rw [hAL]; rfl
        gi_wp2
        refine E.exec_read (os := [.dead, .cells [.ptr 4 0] 27 false, .cells [.atom 0] 2 false, .cells [.atom 1, .atom 2] 64 false, .cells [.atom 3, .atom 4, .atom 5] 55 false]) (cs := [l, N, N + 1, Bx, bb]) (at_ := E.atR AL) (E.ok_mid (E.factA [⟨.leq, .atom 1, .atom 0, .bool true⟩, ⟨.sub, .atom 0, .atom 4, .atom 12⟩, ⟨.geq, .atom 1, .atom 12, .bool false⟩]) (E.factL [] []) E.noI E.noN hmix) (n := 60) (rd := some 0) (rb := some l) (ex := .normal)
          (L0 := [.ptr 4 0, .atom 0, .agg [.atom 6, .atom 7], .ptr 1 0, .ptr 2 0, .atom 8, .nilsl, .atom 9, .ptr 3 0, .ptr 4 0, .bool false, .ptr 4 0, .ptr 4 0, .ptr 4 2, .atom 5, .agg [.atom 6, .atom 7], .atom 10, .atom 11, .agg [.atom 1, .atom 2], .tup [], .tup [], .tup [], .tup [], .tup [], .tup [], .tup [], .tup [], .tup [], .tup [], .tup [], .tup [], .tup [], .tup [], .tup [], .tup [], .tup [], .tup [], .tup [], .tup [], .tup []])
          (L1 := [.ptr 4 0, .atom 0, .agg [.atom 6, .atom 7], .ptr 1 0, .ptr 2 0, .atom 8, .nilsl, .atom 9, .ptr 3 0, .ptr 4 0, .bool false, .ptr 4 0, .ptr 4 0, .ptr 4 2, .atom 5, .agg [.atom 6, .atom 7], .atom 10, .atom 11, .agg [.atom 1, .atom 2], .ptr 3 0, .atom 1, .atom 0, .bool true, .bool true, .ptr 3 0, .atom 1, .atom 0, .ptr 4 0, .ptr 4 0, .ptr 4 0, .ptr 4 1, .atom 4, .atom 12, .bool false, .bool false, .tup [], .tup [], .tup [], .tup [], .tup []])
          (by kernel_rfl) rfl rfl h1 rfl rfl hnd hlt' hlive (E.atoms_mid h1 (by
            intro f hf
            simp only [List.mem_cons, List.not_mem_nil, or_false] at hf
            rcases hf with rfl | rfl | rfl
            · exact E.fact_leq i1 i0 (decide_eq_true (by omega))
            · exact E.fact_sub i0 i4 (by rw [hcw]; exact i12)
            · exact E.fact_geq i1 i12 (Hd2.out))) rfl hT0 hT1 ?_
        rintro e w' he hb
        cases e <;> try exact he.elim
        gi_wp2
        exact fin w' hb Hit.out _
    · have Hit : Hid (isFreshS c now x = false) := by show _ = _; unfold isFreshS; rw [decide_eq_false hx]; rfl
      have hT1 : E.litsV (E.mkI [l, N, N + 1, Bx, bb] (E.atR AL)) [.ptr 4 0, .atom 0, .agg [.atom 6, .atom 7], .ptr 1 0, .ptr 2 0, .atom 8, .nilsl, .atom 9, .ptr 3 0, .ptr 4 0, .bool false, .ptr 4 0, .ptr 4 0, .ptr 4 2, .atom 5, .agg [.atom 6, .atom 7], .atom 10, .atom 11, .agg [.atom 1, .atom 2], .ptr 3 0, .atom 1, .atom 0, .bool false, .bool false, .tup [], .tup [], .tup [], .tup [], .tup [], .tup [], .tup [], .tup [], .tup [], .tup [], .bool false, .tup [], .tup [], .tup [], .tup [], .tup []] = some [.pointer (some ⟨bb, 0, none⟩), .int .i64 now, .agg #[.string sub, .string met], .pointer (some ⟨N, 0, none⟩), .pointer (some ⟨N + 1, 0, none⟩), .pointer (some ⟨N + 1 + 1, 0, none⟩), .slice none 0 0, .pointer (some ⟨N + 1 + 1 + 1, 0, none⟩), .pointer (some ⟨Bx, 0, none⟩), .pointer (some ⟨bb, 0, none⟩), .bool false, .pointer (some ⟨bb, 0, none⟩), .pointer (some ⟨bb, 0, none⟩), .pointer (some ⟨bb, 2, none⟩), .map (some bm), .agg #[.string sub, .string met], .pointer p, .func (.func 44) #[] #[.pointer (some ⟨N + 4, 0, none⟩), .pointer (some ⟨N + 4 + 1, 0, none⟩)], .agg #[.int .i64 x.at0, .int .i64 x.v], .pointer (some ⟨Bx, 0, none⟩), .int .i64 x.at0, .int .i64 now, .bool false, .bool false, undef, undef, undef, undef, undef, undef, undef, undef, undef, undef, .bool false, undef, undef, undef, undef, undef] := by rw [hAL]; rfl
      gi_wp2
      refine E.exec_read (os := [.dead, .cells [.ptr 4 0] 27 false, .cells [.atom 0] 2 false, .cells [.atom 1, .atom 2] 64 false, .cells [.atom 3, .atom 4, .atom 5] 55 false]) (cs := [l, N, N + 1, Bx, bb]) (at_ := E.atR AL) (E.ok_mid (E.factA [⟨.leq, .atom 1, .atom 0, .bool false⟩]) (E.factL [] []) E.noI E.noN hmix) (n := 60) (rd := some 0) (rb := some l) (ex := .normal)
        (L0 := [.ptr 4 0, .atom 0, .agg [.atom 6, .atom 7], .ptr 1 0, .ptr 2 0, .atom 8, .nilsl, .atom 9, .ptr 3 0, .ptr 4 0, .bool false, .ptr 4 0, .ptr 4 0, .ptr 4 2, .atom 5, .agg [.atom 6, .atom 7], .atom 10, .atom 11, .agg [.atom 1, .atom 2], .tup [], .tup [], .tup [], .tup [], .tup [], .tup [], .tup [], .tup [], .tup [], .tup [], .tup [], .tup [], .tup [], .tup [], .tup [], .tup [], .tup [], .tup [], .tup [], .tup [], .tup []])
        (L1 := [.ptr 4 0, .atom 0, .agg [.atom 6, .atom 7], .ptr 1 0, .ptr 2 0, .atom 8, .nilsl, .atom 9, .ptr 3 0, .ptr 4 0, .bool false, .ptr 4 0, .ptr 4 0, .ptr 4 2, .atom 5, .agg [.atom 6, .atom 7], .atom 10, .atom 11, .agg [.atom 1, .atom 2], .ptr 3 0, .atom 1, .atom 0, .bool false, .bool false, .tup [], .tup [], .tup [], .tup [], .tup [], .tup [], .tup [], .tup [], .tup [], .tup [], .bool false, .tup [], .tup [], .tup [], .tup [], .tup []])
        (by kernel_rfl) rfl rfl h1 rfl rfl hnd hlt' hlive (E.atoms_mid h1 (by
          intro f hf
          simp only [List.mem_cons, List.not_mem_nil, or_false] at hf
          subst hf
          exact E.fact_leq i1 i0 (decide_eq_false (by omega)))) rfl hT0 hT1 ?_
      rintro e w' he hb
      cases e <;> try exact he.elim
      gi_wp2
      exact fin w' hb Hit.out _
  case done =>
    rintro D ys W hD rfl ⟨⟨v, b7, hrow, _⟩, ⟨b3, b4, hs⟩, hB⟩ hK
    have z0 := b7.cell
    gi_wp2
    refine ⟨by simp, .inl ⟨_, _, rfl, run_takeDeferred hK, ?_⟩⟩
    refine ⟨_, results_tmp rfl _ _ _, v, rfl, ?_, ?_⟩
    · exact own_baseQ (ownsRow_putObj hrow _ hK rfl) (by omega)
    · have := belowK_b (w := w) (Nat.le_refl _) W D _ (.deferred none) (by omega) hK rfl rfl
      rw [hN] at this ⊢
      exact hB.trans this
  case stop =>
    rintro D c pre W _ _ h _
    exact h.elim
end Go.Proofs.Ytoamjihchmokcaa
