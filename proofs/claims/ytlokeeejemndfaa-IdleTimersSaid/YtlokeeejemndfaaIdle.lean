/- Contracts of package idle's timers: New, Reset, Since, Look. Condition: the timers lie in blocks of the call's own. -/
import Derived.Test.YtlokeeejemndfaaIdleKeys
import Derived.Test.YtlokeeejemndfaaCells
namespace Go.Proofs.Ytlokeeejemndfaa
open Go.ChangeShapes Go.WideShapes Go.ChangeAt Go.RowKit Go.Deep Go.Maps

/-- Timers: since when each runs. -/
structure Tm where
  f : List UInt8 → Option Int
  last : Int
  looked : Bool

def Tm.zero : Tm := ⟨fun _ => none, 0, false⟩

abbrev encI (x : Int) : Value := .int .i64 x

structure TimersAt (w : World) (tb tm n : Nat) (m : Tm) : Prop where
  blk : w.heap[tb]? = some (.cells #[.map (some tm), .int .i64 m.last, .bool m.looked] 45 (0, 0))
  map : StrMap encI w Try.prog 9 tm n m.f

theorem TimersAt.ne {w : World} {tb tm n : Nat} {m : Tm} (h : TimersAt w tb tm n m) : tm ≠ tb := by
  intro e
  obtain ⟨D, ⟨es, clock, h1, _⟩, _⟩ := h.map
  rw [e, h.blk] at h1
  cases h1

theorem TimersAt.fr {S : Nat → Prop} {w w' : World} {tb tm n : Nat} {m : Tm} (h : TimersAt w tb tm n m) (hf : Fr S w w') (h1 : ¬ S tb) (h2 : ¬ S tm) : TimersAt w' tb tm n m :=
  ⟨hf.heap h.blk h1, MapIs.fr h.map hf h2⟩

theorem TimersAt.below {w w' : World} {tb tm n : Nat} {m : Tm} (h : TimersAt w tb tm n m) (hb : Below w.heap.size w w') : TimersAt w' tb tm n m := h.fr (Fr.of_below hb (fun _ => False)) id id

theorem TimersAt.lt {w : World} {tb tm n : Nat} {m : Tm} (h : TimersAt w tb tm n m) : tb < w.heap.size ∧ tm < w.heap.size := ⟨(Array.getElem?_eq_some_iff.1 h.blk).1, MapIs.lt h.map⟩

theorem row3_cells {w : World} {b : Nat} {t : TypeId} {x0 x1 x2 : Value} {fr : Nat × Nat} (h : w.heap[b]? = some (.cells #[x0, x1, x2] t fr)) :
    w.cell? ⟨b, 0, none⟩ = some x0 ∧ w.cell? ⟨b, 1, none⟩ = some x1 ∧ w.cell? ⟨b, 2, none⟩ = some x2 :=
  ⟨cell_of_row w b 0 _ t _ h, cell_of_row w b 1 _ t _ h, cell_of_row w b 2 _ t _ h⟩

theorem row3 {w : World} {b : Nat} {t : TypeId} {a0 a1 a2 : Value} (h : w.heap[b]? = some (.cells #[a0, a1, a2] t (0, 0))) (x0 x1 x2 : Value) :
    (((w.setCell ⟨b, 0, none⟩ x0).setCell ⟨b, 1, none⟩ x1).setCell ⟨b, 2, none⟩ x2).heap[b]? = some (.cells #[x0, x1, x2] t (0, 0)) := by
  rw [row_setCell (row_setCell (row_setCell h x0) x1) x2]
  rfl

theorem heap_set3 {w : World} {b k : Nat} (hk : k ≠ b) (x0 x1 x2 : Value) :
    (((w.setCell ⟨b, 0, none⟩ x0).setCell ⟨b, 1, none⟩ x1).setCell ⟨b, 2, none⟩ x2).heap[k]? = w.heap[k]? := by
  rw [Below.heap_setCell _ _ _ _ hk, Below.heap_setCell _ _ _ _ hk, Below.heap_setCell _ _ _ _ hk]

theorem fr_set3 {S : Nat → Prop} {w w2 : World} {b : Nat} (h : Fr S w w2) (hb : S b) (x0 x1 x2 : Value) :
    Fr S w (((w2.setCell ⟨b, 0, none⟩ x0).setCell ⟨b, 1, none⟩ x1).setCell ⟨b, 2, none⟩ x2) := by
  have hB := (((Below.refl 0 w2).setCell (p := ⟨b, 0, none⟩) (Nat.zero_le _) x0).setCell (p := ⟨b, 1, none⟩) (Nat.zero_le _) x1).setCell (p := ⟨b, 2, none⟩) (Nat.zero_le _) x2
  exact ⟨hB.os.trans h.os, hB.tape.trans h.tape, hB.output.trans h.output, Nat.le_trans h.size hB.size, fun k hk hs => by
    rw [heap_set3 (by rintro rfl; exact hs hb), h.block k hk hs]⟩

theorem TimersAt.made (w : World) : TimersAt ((w.alloc (.map #[] 0)).alloc (.cells #[.map (some w.heap.size), .int .i64 0, .bool false] 45)) (w.heap.size + 1) w.heap.size 0 Tm.zero := by
  refine ⟨heap_alloc3 w _ _, ?_⟩
  have := StrMap.made encI w Try.prog 9
  exact MapIs.fr this ((Fr.refl (fun _ => False) _).alloc _) id

theorem newTimers_any (w : World) : Calls Try.prog 6 #[] w fun e w' => e = .returned (.pointer (some ⟨w.heap.size + 1, 0, none⟩)) ∧ w' = (w.alloc (.map #[] 0)).alloc (.cells #[.map (some w.heap.size), .int .i64 0, .bool false] 45) := by
  have hmm := @run_makeMap Try.prog
  go_enter Try.func6, Try.ntmps6
  go_wp2
  go_ret
  exact ⟨rfl, rfl⟩

theorem zeroI64 (w : World) : (zeroValue 2).run Try.prog w = .ok (.int .i64 0) w := by kernel_rfl

/-! ### Reset -/

theorem resetNil_any (w : World) : Calls Try.prog 7 #[.pointer none] w fun e w' => e = .returned (.tuple #[]) ∧ w = w' := by
  go_enter Try.func7, Try.ntmps7
  go_wp2
  go_end0
  exact ⟨rfl, rfl⟩

/-! ### Since -/

theorem sinceNil_any (s : ByteArray) (w : World) : Calls Try.prog 12 #[.pointer none, .string s] w fun e w' => e = .returned (.tuple #[.int .i64 0, .bool false]) ∧ w = w' := by
  go_enter Try.func12, Try.ntmps12
  go_wp2
  go_ret2
  exact ⟨rfl, rfl⟩

theorem byStr_get (f : List UInt8 → Option Int) (s : List UInt8) : (byStr encI f (.string s)).getD (.int .i64 0) = .int .i64 ((f s).getD 0) ∧ (byStr encI f (.string s)).isSome = (f s).isSome := by
  show ((f s).map encI).getD _ = _ ∧ ((f s).map encI).isSome = _
  cases f s <;> exact ⟨rfl, rfl⟩

theorem since_any (tb tm n : Nat) (m : Tm) (s : SStr) (w : World) (hT : TimersAt w tb tm n m) :
    Calls Try.prog 12 #[.pointer (some ⟨tb, 0, none⟩), .string s.1] w fun e w' => e = .returned (.tuple #[.int .i64 ((m.f s.key).getD 0), .bool (m.f s.key).isSome]) ∧ w = w' := by
  obtain ⟨c0, _, _⟩ := row3_cells hT.blk
  have HM := Lib.hid hT.map
  have HK := Lib.hid (strKey s.2)
  obtain ⟨v, hv⟩ : ∃ v, (m.f s.key).getD 0 = v := ⟨_, rfl⟩
  obtain ⟨b, hb⟩ : ∃ b, (m.f s.key).isSome = b := ⟨_, rfl⟩
  have HV := Lib.hid (byStr_get m.f s.key)
  rw [hv, hb] at HV
  rw [hv, hb]
  clear hv hb hT
  go_enter Try.func12, Try.ntmps12
  go_wp2_with (at_lookup; refine wpList_look_ok _ rfl _ _ 43 rfl 9 2 strKeyed Try.underlying43 (zeroI64 _) tm n _ rfl HM.out _ _ rfl HK.out (.int .i64 v) b HV.out.1 HV.out.2 ?_)
  go_ret2
  exact ⟨rfl, rfl⟩

/-! ### Look -/

/-- What Look answers. -/
def lookOf (m : Tm) (now : Int) : Int := if now < 0 ∨ 4611686018427387904 < now then 1 else if m.looked = true ∧ now < m.last then 13 else 0

/-- The timers behind a look at these names. -/
def nextF (f : List UInt8 → Option Int) (now : Int) (xs : List SStr) : List UInt8 → Option Int := fun s => if s ∈ xs.map SStr.key then some ((f s).getD now) else none

theorem nextF_nil (f : List UInt8 → Option Int) (now : Int) : nextF f now [] = fun _ => none := by funext s; simp [nextF]

theorem nextF_snoc (f : List UInt8 → Option Int) (now : Int) (xs : List SStr) (x : SStr) : sset (nextF f now xs) x.key ((f x.key).getD now) = nextF f now (xs ++ [x]) := by
  funext s
  unfold sset nextF
  by_cases h : s = x.key
  · subst h; rw [if_pos rfl, if_pos (by simp)]
  · rw [if_neg h]
    congr 1
    simp [h]

def Tm.next (m : Tm) (now : Int) (xs : List SStr) : Tm := ⟨nextF m.f now xs, now, true⟩

theorem lookNil_any (now : Int) (v : Value) (w : World) : Calls Try.prog 9 #[.pointer none, .int .i64 now, v] w fun e w' => e = .returned (.int .i64 1) ∧ w = w' := by
  go_enter Try.func9, Try.ntmps9
  go_wp2
  go_ret
  exact ⟨rfl, rfl⟩

set_option maxRecDepth 100000 in
theorem lookErr_any (tb tm n : Nat) (m : Tm) (now : Int) (v : Value) (w : World) (hT : TimersAt w tb tm n m) (h : lookOf m now ≠ 0) :
    Calls Try.prog 9 #[.pointer (some ⟨tb, 0, none⟩), .int .i64 now, v] w fun e w' => e = .returned (.int .i64 (lookOf m now)) ∧ w = w' := by
  obtain ⟨c0, c1, c2⟩ := row3_cells hT.blk
  obtain ⟨f, last, looked⟩ := m
  dsimp only at c1 c2
  clear hT
  unfold lookOf at h ⊢
  dsimp only at h ⊢
  by_cases h1 : now < 0
  · rw [if_pos (.inl h1)]
    clear h
    go_enter Try.func9, Try.ntmps9
    go_wp2
    go_ret
    exact ⟨rfl, rfl⟩
  by_cases h2 : 4611686018427387904 < now
  · rw [if_pos (.inr h2)]
    clear h
    go_enter Try.func9, Try.ntmps9
    go_wp2
    go_ret
    exact ⟨rfl, rfl⟩
  rw [if_neg (by omega)] at h ⊢
  by_cases h3 : looked = true ∧ now < last
  · rw [if_pos h3]
    obtain ⟨rfl, h3⟩ := h3
    clear h
    go_enter Try.func9, Try.ntmps9
    go_wp2
    go_ret
    exact ⟨rfl, rfl⟩
  · rw [if_neg h3] at h
    exact absurd rfl h

def LookPost (tb : Nat) (m : Tm) (now : Int) (xs : List SStr) (w : World) (e : Ending) (w' : World) : Prop :=
  e = .returned (.int .i64 0) ∧ (∃ tm' n', n' ≤ xs.length ∧ w.heap.size ≤ tm' ∧ TimersAt w' tb tm' n' (m.next now xs)) ∧ Fr (fun k => k = tb) w w'

set_option maxRecDepth 100000 in
set_option maxHeartbeats 1000000 in
theorem look_any (tb tm n : Nat) (m : Tm) (now : Int) (xs : List SStr) (ao : Option Addr) (ln cap : Nat) (w : World) (hT : TimersAt w tb tm n m) (hS : SlR (Flat cS) 1 w ao ln cap xs) (hln : ln ≤ 1000) (h : lookOf m now = 0) :
    Calls Try.prog 9 #[.pointer (some ⟨tb, 0, none⟩), .int .i64 now, .slice ao ln cap] w (LookPost tb m now xs w) := by
  have hmm := @run_makeMap Try.prog
  obtain ⟨c0, c1, c2⟩ := row3_cells hT.blk
  have hf0 := row_free hT.blk 0
  have hf1 := row_free hT.blk 1
  have hf2 := row_free hT.blk 2
  have hblt := hT.lt
  have HT := Lib.hid hT
  have HS := Lib.hid hS
  have hm1 := hS.hmax
  have hm2 := hS.hcap
  have HL := Lib.hid hS.hlen
  unfold maxLen at hm1
  obtain ⟨f, last, looked⟩ := m
  dsimp only at c1 c2
  unfold lookOf at h
  dsimp only at h
  by_cases h1 : now < 0 ∨ 4611686018427387904 < now
  · rw [if_pos h1] at h; omega
  rw [if_neg h1] at h
  by_cases h3 : looked = true ∧ now < last
  · rw [if_pos h3] at h; omega
  clear h hT hS
  have g1 : 0 ≤ now := by omega
  have g2 : now ≤ 4611686018427387904 := by omega
  clear h1
  have hcase : looked = false ∨ (looked = true ∧ last ≤ now) := by
    cases looked
    · exact .inl rfl
    · exact .inr ⟨rfl, by
        have : ¬ now < last := fun hh => h3 ⟨rfl, hh⟩
        omega⟩
  clear h3
  rcases hcase with rfl | ⟨rfl, h4⟩
  all_goals
    go_enter Try.func9, Try.ntmps9
    go_wp2_with fail
    go_loopw [9, 10, 11, 39] (fun _ _ _ vi wr => ∃ (k n' : Nat), vi = .int .i64 k ∧ k ≤ ln ∧ n' ≤ k ∧ Hid (StrMap encI wr Try.prog 9 w.heap.size n' (nextF f now (xs.take k))) ∧ Hid (Below w.heap.size w wr)) (fun _ _ _ vi _ => ln - (intOf vi).toNat)
    case atStart => exact ⟨0, 0, rfl, Nat.zero_le _, Nat.le_refl _, by rw [List.take_zero, nextF_nil]; exact StrMap.made encI w _ _, (Below.refl _ _).alloc (Nat.le_refl _) _⟩
    case round =>
      obtain ⟨k, n', rfl, hk, hn', hM, hB⟩ := hrel
      obtain ⟨wp, rfl⟩ : ∃ wp : World, wp = wr := ⟨_, rfl⟩
      have d0 := Below.cell_some hB.out c0
      have d1 := Below.cell_some hB.out c1
      have d2 := Below.cell_some hB.out c2
      have hz := hB.out.size
      by_cases hlt : k < ln
      · obtain ⟨b, off, rfl⟩ := HS.out.ptr (by decide) (by omega)
        have kx : k < xs.length := by rw [HL.out]; exact hlt
        have ha := (HS.out.flatKeeps (Keeps.below hB.out)).flat kx
        have hnx := nextF_snoc f now (xs.take k) xs[k]
        rw [← List.take_succ_eq_append_getElem kx] at hnx
        obtain ⟨x, hx⟩ : ∃ x, xs[k] = x := ⟨_, rfl⟩
        rw [hx] at ha hnx
        have e0 := ha 0 _ rfl
        rw [Nat.add_zero, Nat.mul_one] at e0
        have HN := Lib.hid hnx
        have HV := Lib.hid (byStr_get f x.key)
        have HM := Lib.hid (MapIs.below HT.out.map hB.out)
        have HK := Lib.hid (strKey x.2)
        have hM' := hM
        have hB' := hB
        clear ha hnx hx kx
        obtain ⟨q, hq⟩ : ∃ q, f x.key = q := ⟨_, rfl⟩
        rw [hq] at HN HV
        clear hq
        rcases q with _ | v
        · go_wp2_with (first
            | (at_lookup; go_must (refine wpList_look_ok _ rfl _ _ 43 rfl 9 2 strKeyed Try.underlying43 (zeroI64 _) tm n _ rfl HM.out _ _ rfl HK.out (.int .i64 0) false HV.out.1 HV.out.2 ?_))
            | (at_mapUpdate; go_must (refine wpList_map_store _ rfl _ _ _ 43 rfl 9 2 strKeyed Try.underlying43 w.heap.size n' _ rfl hM'.out (by unfold maxLen; omega) _ (.int .i64 now) _ rfl rfl HK.out _ rfl ?_; intro w5 hM5 hT5; have HM5 := Lib.hid hM5; have HT5 := Lib.hid (Fr.turned (fun j => j = w.heap.size) hT5 rfl); clear hM5 hT5)))
          go_roundw
          case rel =>
            have h6 := HM5.out
            rw [fset_byStr encI] at h6
            have h7 := HN.out
            dsimp only [Option.getD] at h7
            rw [h7] at h6
            refine ⟨k + 1, _, by go_num, by omega, ?_, h6, hB'.out.trans (HT5.out.below hB'.out.size (fun j hj => by omega))⟩
            split <;> omega
          case measure => simp [intOf]; omega
        · go_wp2_with (first
            | (at_lookup; go_must (refine wpList_look_ok _ rfl _ _ 43 rfl 9 2 strKeyed Try.underlying43 (zeroI64 _) tm n _ rfl HM.out _ _ rfl HK.out (.int .i64 v) true HV.out.1 HV.out.2 ?_))
            | (at_mapUpdate; go_must (refine wpList_map_store _ rfl _ _ _ 43 rfl 9 2 strKeyed Try.underlying43 w.heap.size n' _ rfl hM'.out (by unfold maxLen; omega) _ (.int .i64 v) _ rfl rfl HK.out _ rfl ?_; intro w5 hM5 hT5; have HM5 := Lib.hid hM5; have HT5 := Lib.hid (Fr.turned (fun j => j = w.heap.size) hT5 rfl); clear hM5 hT5)))
          go_roundw
          case rel =>
            have h6 := HM5.out
            rw [fset_byStr encI] at h6
            have h7 := HN.out
            dsimp only [Option.getD] at h7
            rw [h7] at h6
            refine ⟨k + 1, _, by go_num, by omega, ?_, h6, hB'.out.trans (HT5.out.below hB'.out.size (fun j hj => by omega))⟩
            split <;> omega
          case measure => simp [intOf]; omega
      · obtain rfl : k = ln := by omega
        have htk : xs.take k = xs := List.take_of_length_le (by rw [HL.out]; exact Nat.le_refl _)
        have hM2 : Hid (StrMap encI wp Try.prog 9 w.heap.size n' (nextF f now xs)) := by have := hM.out; rw [htk] at this; exact this
        have hblk := hB.out.block tb hblt.1
        have g0 : wp.frozen? ⟨tb, 0, none⟩ = false := by rw [hB.out.frozen (p := ⟨tb, 0, none⟩) hblt.1]; exact hf0
        have g1 : wp.frozen? ⟨tb, 1, none⟩ = false := by rw [hB.out.frozen (p := ⟨tb, 1, none⟩) hblt.1]; exact hf1
        have g2 : wp.frozen? ⟨tb, 2, none⟩ = false := by rw [hB.out.frozen (p := ⟨tb, 2, none⟩) hblt.1]; exact hf2
        have hR : Hid (wp.heap[tb]? = _) := hblk.trans HT.out.blk
        have HB := hB
        clear hM hB htk hblk
        go_wp2_with fail
        go_ret
        have hF := fr_set3 (S := fun j => j = tb) (Fr.of_below HB.out _) rfl (.map (some w.heap.size)) (.int .i64 now) (.bool true)
        refine ⟨rfl, ⟨w.heap.size, n', by rw [HL.out]; omega, Nat.le_refl _, ⟨row3 hR.out _ _ _, ?_⟩⟩, hF⟩
        exact MapIs.same hM2.out (heap_set3 (by omega) _ _ _)
end Go.Proofs.Ytlokeeejemndfaa
