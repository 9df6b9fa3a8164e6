/- watch.Folded at three events of one thing, none of which deletes it. Condition: the events lie in a block. -/
import Derived.Test.YtkppmdbapcfmnaaWatchFold
import Derived.Test.YtkppmdbapcfmnaaWatchSort
import Derived.Test.YtkppmdbapcfmnaaAppOne
namespace Go.Proofs.Ytkppmdbapcfmnaa
open Go.ChangeShapes Go.WideShapes Go.ChangeAt Go.RowKit Go.Deep Go.Maps

/-- The events' cells. -/
def EvsAt (w : World) (sb : Nat) (ty ver : Nat → Int) (nm : ByteArray) : Prop :=
  ∀ k, k < 3 → w.cell? ⟨sb, k * 4, none⟩ = some (.int .i64 (ty k)) ∧ w.cell? ⟨sb, k * 4 + 1, none⟩ = some (.int .i64 0) ∧ w.cell? ⟨sb, k * 4 + 2, none⟩ = some (.string nm) ∧ w.cell? ⟨sb, k * 4 + 3, none⟩ = some (.int .u64 (ver k))

/-- The map behind k rounds. -/
def MapK (w : World) (mb : Nat) (ty ver : Nat → Int) (nm : ByteArray) : Nat → Prop
  | 0 => MapIs w Try.prog 74 mb 0 (fun _ => none)
  | k + 1 => MapIs w Try.prog 74 mb 1 (fset (fun _ => none) (.string (thBytes nm.data.toList)) (foldV nm (ty k) (ver k)))

theorem Fr.set1 {S : Nat → Prop} {w0 w : World} (h : Fr S w0 w) {k : Nat} (hk : w0.heap.size ≤ k) (j : Nat) (x : Value) : Fr S w0 (w.setCell ⟨k, j, none⟩ x) :=
  ⟨h.os, h.tape, h.output, by simpa [World.setCell] using h.size, fun i hi hs => by
    rw [Below.heap_setCell _ _ _ _ (by show i ≠ k; omega)]
    exact h.block i hi hs⟩

/-- In the middle of a round. -/
structure FoldMid (wr wx : World) (nm : ByteArray) (tk vk : Int) (f : Array Value) : Prop where
  e : wx.heap[wr.heap.size]? = some (.cells #[.int .i64 tk, .int .i64 0, .string nm, .int .u64 vk] 38 (0, 0))
  t : wx.heap[wr.heap.size + 1]? = some (.cells #[.int .i64 0, .string nm] 74 (0, 0))
  f : wx.heap[wr.heap.size + 1 + 1]? = some (.cells f 76 (0, 0))
  fr : Fr (fun _ => False) wr wx

theorem foldMid_new (wr : World) (nm : ByteArray) (tk vk : Int) (f : Array Value) :
    FoldMid wr (((wr.alloc (.cells #[.int .i64 tk, .int .i64 0, .string nm, .int .u64 vk] 38)).alloc (.cells #[.int .i64 0, .string nm] 74)).alloc (.cells f 76)) nm tk vk f := by
  refine ⟨?_, ?_, ?_, ((Fr.refl _ wr).alloc _ |>.alloc _).alloc _⟩
  · rw [Below.heap_alloc _ _ _ (by simp; omega)]; exact heap_alloc2 _ _ _
  · rw [Below.heap_alloc _ _ _ (by simp)]; exact heap_alloc3 _ _ _
  · have := heap_alloc_new ((wr.alloc (.cells #[.int .i64 tk, .int .i64 0, .string nm, .int .u64 vk] 38)).alloc (.cells #[.int .i64 0, .string nm] 74)) (.cells f 76)
    simpa using this

theorem FoldMid.drew {wr wx : World} {nm : ByteArray} {tk vk : Int} {f : Array Value} (h : FoldMid wr wx nm tk vk f) : FoldMid wr wx.drew nm tk vk f := ⟨h.e, h.t, h.f, h.fr.drew⟩
theorem FoldMid.set {wr wx : World} {nm : ByteArray} {tk vk : Int} {f : Array Value} (h : FoldMid wr wx nm tk vk f) (j : Nat) (v : Value) : FoldMid wr (wx.setCell ⟨wr.heap.size + 1 + 1, j, none⟩ v) nm tk vk (f.setIfInBounds j v) :=
  ⟨by rw [Below.heap_setCell _ _ _ _ (by show wr.heap.size ≠ wr.heap.size + 1 + 1; omega)]; exact h.e, by rw [Below.heap_setCell _ _ _ _ (by show wr.heap.size + 1 ≠ wr.heap.size + 1 + 1; omega)]; exact h.t, row_setCell h.f v, h.fr.set1 (by omega) j v⟩

/-- What it answers: one event. -/
def FoldPost (w : World) (ver : Nat → Int) (nm : ByteArray) (e : Ending) (w' : World) : Prop :=
  ∃ nb cap, e = .returned (.slice (some ⟨nb, 0, none⟩) 1 cap) ∧ (∀ j u, (Ev.cells ⟨0, 0, nm, ver 2⟩)[j]? = some u → w'.cell? ⟨nb, j, none⟩ = some u) ∧ Below w.heap.size w w'

/-- The range over the map: what is out. -/
def OutAt (w wx : World) (D : DataW Value) (left : Lit → Bool) (o : Value) (cs : List Value) : Prop :=
  (left = Maps.has D ∧ o = .slice none 0 0) ∨ ((∀ kl, left kl = false) ∧ wx.ownsRow w.heap.size 38 4 o 1 cs)

theorem elemEvent : ElemOK Try.prog 26 38 4 40 := .mk' Try.underlying26 (by kernel_rfl) (by decide)

theorem only_key {D : DataW Value} {kb : List UInt8} {v : Value} (h : Tells D (fset (fun _ => none) (.string kb) v)) {kl : Lit} (hl : Maps.has D kl = true) : kl.sameKey (.string kb) = true := by
  rw [(h kl).1] at hl
  unfold fset at hl
  by_cases e : kl.sameKey (.string kb) = true
  · exact e
  · rw [if_neg e] at hl; cases hl

theorem only_val {D : DataW Value} {kb : List UInt8} {v c : Value} (h : Tells D (fset (fun _ => none) (.string kb) v)) {kl : Lit} (hl : Maps.has D kl = true) (hat : ∀ zd, D.atKey kl zd = .held c) : c = v := by
  have hk := only_key h hl
  have := hat (.held v)
  rw [(h kl).2] at this
  unfold fset at this
  rw [if_pos hk] at this
  simp at this
  exact this.symm

theorem only_left {D : DataW Value} {kb : List UInt8} {v : Value} (h : Tells D (fset (fun _ => none) (.string kb) v)) {kl : Lit} (hl : Maps.has D kl = true) (z : Lit) : (Maps.has D z && !z.sameKey kl) = false := by
  have hk := only_key h hl
  have e : kl = .string kb := by
    cases kl <;> simp [Lit.sameKey] at hk
    rw [hk]
  subst e
  cases hz : Maps.has D z
  · rfl
  · rw [only_key h hz]; rfl

theorem has_key {D : DataW Value} {kb : List UInt8} {v : Value} (h : Tells D (fset (fun _ => none) (.string kb) v)) : Maps.has D (.string kb) = true := by
  rw [(h _).1]
  simp [fset, Lit.sameKey]

set_option maxRecDepth 100000 in
set_option maxHeartbeats 2000000 in
theorem folded_three (sb : Nat) (ty ver : Nat → Int) (nm : ByteArray) (w : World) (hnm : nm.size ≤ maxLen) (h0 : ty 0 = 0) (h2 : ∀ k, k < 3 → ty k ≠ 2) (hE : EvsAt w sb ty ver nm) :
    Calls Try.prog 10 #[.slice (some ⟨sb, 0, none⟩) 3 3] w fun e w' => FoldPost w ver nm e w' := by
  have HE := Lib.hid hE
  have H2 := Lib.hid h2
  have H0 := Lib.hid h0
  have HK := Lib.hid (thKey hnm)
  have hmm := @run_makeMap Try.prog
  clear hE h2 h0 hnm
  go_enter Try.func10, Try.ntmps10
  go_wp2_with fail
  go_loopw [15] (fun i wr => ∃ k : Nat, k ≤ 3 ∧ i = .int .i64 k ∧ Hid (MapK wr w.heap.size ty ver nm k) ∧ Hid (Below w.heap.size w wr)) (fun i _ => 3 - (intOf i).toNat)
  case atStart => exact ⟨0, by decide, rfl, MapIs.made _ _ _, (Below.refl _ _).alloc (Nat.le_refl _) _⟩
  case round =>
    obtain ⟨k, hk, rfl, HM, HB⟩ := hrel
    by_cases hlt : k < 3
    · have hE := HE.out k hlt
      obtain ⟨c0, c1, c2, c3⟩ := hE
      replace c0 := Below.cell_some HB.out c0
      replace c1 := Below.cell_some HB.out c1
      replace c2 := Below.cell_some HB.out c2
      replace c3 := Below.cell_some HB.out c3
      obtain ⟨tk, htk⟩ : ∃ q, ty k = q := ⟨_, rfl⟩
      obtain ⟨vk, hvk⟩ : ∃ q, ver k = q := ⟨_, rfl⟩
      rw [htk] at c0
      rw [hvk] at c3
      have Htk := Lib.hid htk
      have Hvk := Lib.hid hvk
      clear htk hvk
      cases k with
      | zero =>
        have HM0 : Hid (MapIs wr Try.prog 74 w.heap.size 0 (fun _ => none)) := HM
        have s0 := HM0.out.lt
        obtain rfl : tk = 0 := Htk.out.symm.trans H0.out
        go_upto_region 9 with (at_lookup; go_must (refine wpList_look_ok _ rfl _ _ 72 rfl 74 76 thKeyed Try.underlying72 (zeroFold _) w.heap.size 0 _ rfl ((HM0.out.fr (Fr.alloc (Fr.alloc (Fr.refl (fun _ => False) wr) _) _) id)) _ _ rfl HK.out (.agg #[.bool false, .bool false, .int .i64 0, .int .i64 0, .string ⟨#[]⟩, .int .u64 0]) false rfl rfl ?_))
        obtain ⟨W3, hW3⟩ : ∃ W3, ((wr.alloc (.cells #[.int .i64 0, .int .i64 0, .string nm, .int .u64 vk] 38)).alloc (.cells #[.int .i64 0, .string nm] 74)).alloc (.cells #[.bool false, .bool false, .int .i64 0, .int .i64 0, .string ⟨#[]⟩, .int .u64 0] 76) = W3 := ⟨_, rfl⟩
        have hmid := foldMid_new wr nm 0 vk #[.bool false, .bool false, .int .i64 0, .int .i64 0, .string ⟨#[]⟩, .int .u64 0]
        rw [hW3] at hmid
        rw [hW3]
        have Hmid := Lib.hid hmid
        obtain ⟨e0, e1, e2, e3⟩ := row4_cells hmid.e
        have f0 := cell_of_row W3 _ 0 _ _ _ hmid.f
        have f1 := cell_of_row W3 _ 1 _ _ _ hmid.f
        have f2 := cell_of_row W3 _ 2 _ _ _ hmid.f
        have f3 := cell_of_row W3 _ 3 _ _ _ hmid.f
        have f4 := cell_of_row W3 _ 4 _ _ _ hmid.f
        have f5 := cell_of_row W3 _ 5 _ _ _ hmid.f
        have z0 := row_free hmid.f
        clear hmid hW3
        go_cut [] from 36 to 45 (fun wx => Hid (FoldMid wr wx nm 0 vk #[.bool false, .bool true, .int .i64 0, .int .i64 0, .string nm, .int .u64 vk]))
        case first =>
          clear HM HB c0 c1 c2 c3
          go_region
          all_goals
            go_wp2_with fail
            go_meet
            exact ((((Hmid.out.drew.set _ _).set _ _).set _ _).set _ _).set _ _
        case rest =>
          have hmid := hcut.out
          have Hmid := Lib.hid hmid
          clear hcut e0 e1 e2 e3 f0 f1 f2 f3 f4 f5 z0
          have t0 := cell_of_row wc _ 0 _ _ _ hmid.t
          have t1 := cell_of_row wc _ 1 _ _ _ hmid.t
          have f0 := cell_of_row wc _ 0 _ _ _ hmid.f
          have f1 := cell_of_row wc _ 1 _ _ _ hmid.f
          have f2 := cell_of_row wc _ 2 _ _ _ hmid.f
          have f3 := cell_of_row wc _ 3 _ _ _ hmid.f
          have f4 := cell_of_row wc _ 4 _ _ _ hmid.f
          have f5 := cell_of_row wc _ 5 _ _ _ hmid.f
          clear hmid
          go_wp2_with (at_mapUpdate; go_must (refine wpList_map_store _ rfl _ _ _ 72 rfl 74 76 thKeyed Try.underlying72 w.heap.size 0 _ rfl (HM0.out.fr Hmid.out.fr id) (by decide) _ (foldV nm 0 vk) _ rfl rfl HK.out 1 (by rfl) ?_; intro w5 hown5 hturn5; have Hown5 := Lib.hid hown5; have Hturn5 := Lib.hid hturn5; clear hown5 hturn5))
          go_roundw
          case rel => exact ⟨1, by omega, by go_num, by show MapIs _ _ _ _ _ _; have q1 := Htk.out; have q2 := Hvk.out; rw [show ty 0 = 0 from q1, show ver 0 = vk from q2]; exact Hown5.out, (HB.out.trans ((Hmid.out.fr.below (Nat.le_refl _) (fun _ h => h.elim)).mono HB.out.size)).grown Hturn5.out.grown (Nat.le_trans HB.out.size Hmid.out.fr.size) (fun k hk => by cases hk; exact Nat.le_refl _)⟩
          case measure => first | (simp [intOf]; done) | (simp [intOf]; omega)
      | succ k =>
        have HM0 : Hid (MapIs wr Try.prog 74 w.heap.size 1 (fset (fun _ => none) (.string (thBytes nm.data.toList)) (foldV nm (ty k) (ver k)))) := HM
        have s0 := HM0.out.lt
        have ht2 : (tk != 2) = true := by have := H2.out _ hlt; rw [Htk.out] at this; simpa using this
        have hl1 : Hid ((fset (fun _ => none) (.string (thBytes nm.data.toList)) (foldV nm (ty k) (ver k)) (.string (thBytes nm.data.toList))) = some (foldV nm (ty k) (ver k))) := by show _ = _; simp [fset, Lit.sameKey]
        go_upto_region 9 with (at_lookup; go_must (refine wpList_look_ok _ rfl _ _ 72 rfl 74 76 thKeyed Try.underlying72 (zeroFold _) w.heap.size 1 _ rfl ((HM0.out.fr (Fr.alloc (Fr.alloc (Fr.refl (fun _ => False) wr) _) _) id)) _ _ rfl HK.out (.agg #[.bool false, .bool true, .int .i64 (ty k), .int .i64 0, .string nm, .int .u64 (ver k)]) true (by rw [hl1.out]; rfl) (by rw [hl1.out]; rfl) ?_))
        obtain ⟨W3, hW3⟩ : ∃ W3, ((wr.alloc (.cells #[.int .i64 tk, .int .i64 0, .string nm, .int .u64 vk] 38)).alloc (.cells #[.int .i64 0, .string nm] 74)).alloc (.cells #[.bool false, .bool true, .int .i64 (ty k), .int .i64 0, .string nm, .int .u64 (ver k)] 76) = W3 := ⟨_, rfl⟩
        have hmid := foldMid_new wr nm tk vk #[.bool false, .bool true, .int .i64 (ty k), .int .i64 0, .string nm, .int .u64 (ver k)]
        rw [hW3] at hmid
        rw [hW3]
        have Hmid := Lib.hid hmid
        obtain ⟨e0, e1, e2, e3⟩ := row4_cells hmid.e
        have f0 := cell_of_row W3 _ 0 _ _ _ hmid.f
        have f1 := cell_of_row W3 _ 1 _ _ _ hmid.f
        have f2 := cell_of_row W3 _ 2 _ _ _ hmid.f
        have f3 := cell_of_row W3 _ 3 _ _ _ hmid.f
        have f4 := cell_of_row W3 _ 4 _ _ _ hmid.f
        have f5 := cell_of_row W3 _ 5 _ _ _ hmid.f
        have z0 := row_free hmid.f
        clear hmid hW3
        go_cut [] from 36 to 45 (fun wx => Hid (FoldMid wr wx nm tk vk #[.bool false, .bool true, .int .i64 tk, .int .i64 0, .string nm, .int .u64 vk]))
        case first =>
          clear HM HB c0 c1 c2 c3
          go_region
          all_goals
            go_wp2_with fail
            go_meet
            exact ((((Hmid.out.drew.set _ _).set _ _).set _ _).set _ _).set _ _
        case rest =>
          have hmid := hcut.out
          have Hmid := Lib.hid hmid
          clear hcut e0 e1 e2 e3 f0 f1 f2 f3 f4 f5 z0
          have t0 := cell_of_row wc _ 0 _ _ _ hmid.t
          have t1 := cell_of_row wc _ 1 _ _ _ hmid.t
          have f0 := cell_of_row wc _ 0 _ _ _ hmid.f
          have f1 := cell_of_row wc _ 1 _ _ _ hmid.f
          have f2 := cell_of_row wc _ 2 _ _ _ hmid.f
          have f3 := cell_of_row wc _ 3 _ _ _ hmid.f
          have f4 := cell_of_row wc _ 4 _ _ _ hmid.f
          have f5 := cell_of_row wc _ 5 _ _ _ hmid.f
          clear hmid
          go_wp2_with (at_mapUpdate; go_must (refine wpList_map_store _ rfl _ _ _ 72 rfl 74 76 thKeyed Try.underlying72 w.heap.size 1 _ rfl (HM0.out.fr Hmid.out.fr id) (by decide) _ (foldV nm tk vk) _ rfl rfl HK.out 1 (by simp [fset, Lit.sameKey]) ?_; intro w5 hown5 hturn5; have Hown5 := Lib.hid hown5; have Hturn5 := Lib.hid hturn5; clear hown5 hturn5))
          go_roundw
          case rel => exact ⟨k + 1 + 1, by omega, by go_num, by show MapIs _ _ _ _ _ _; have q1 := Htk.out; have q2 := Hvk.out; rw [show ty (k + 1) = tk from q1, show ver (k + 1) = vk from q2, ← fset_twice _ (foldV nm (ty k) (ver k))]; exact Hown5.out, (HB.out.trans ((Hmid.out.fr.below (Nat.le_refl _) (fun _ h => h.elim)).mono HB.out.size)).grown Hturn5.out.grown (Nat.le_trans HB.out.size Hmid.out.fr.size) (fun k hk => by cases hk; exact Nat.le_refl _)⟩
          case measure => first | (simp [intOf]; done) | (simp [intOf]; omega)
    · obtain rfl : k = 3 := by omega
      have HM1 : Hid (MapIs wr Try.prog 74 w.heap.size 1 (fset (fun _ => none) (.string (thBytes nm.data.toList)) (foldV nm (ty 2) (ver 2)))) := HM
      obtain ⟨tz, htz⟩ : ∃ q, ty 2 = q := ⟨_, rfl⟩
      obtain ⟨vz, hvz⟩ : ∃ q, ver 2 = q := ⟨_, rfl⟩
      rw [htz, hvz] at HM1
      obtain ⟨D, hown, -, htl⟩ := HM1.out
      obtain ⟨wq, rfl⟩ : ∃ wq : World, wq = wr := ⟨_, rfl⟩
      have HT := Lib.hid htl
      have Hvz := Lib.hid hvz
      clear HM HM1 htl hk hlt htz HE H2 H0 HK hmm
      go_wp2_with (at_range; go_must (refine wpList_range_own _ rfl _ 72 rfl 74 76 thKeyed Try.underlying72 heldElem w.heap.size 1 D rfl hown ?_; intro w0 hrg0 hg0 hs0))
      go_frame
      have hB0 := HB.out.grown hg0 HB.out.size (fun k hk => by cases hk)
      go_loopw [9] (fun o wx => ∃ (left : Lit → Bool) (cnt : Nat), wx.ranges Try.prog 74 heldElem w.heap.size wq.heap.size 1 D left cnt ∧ Hid (Below w.heap.size w wx) ∧ Hid (OutAt w wx D left o [.int .i64 0, .int .i64 0, .string nm, .int .u64 vz]))
        (fun _ wx => wx.rangeLeft w.heap.size wq.heap.size)
      case atStart => exact ⟨_, _, hrg0, hB0, .inl ⟨rfl, rfl⟩⟩
      case round =>
        obtain ⟨left, cnt, hrg, hB1, hO⟩ := hrel
        obtain ⟨wx0, rfl⟩ : ∃ q : World, q = wr := ⟨_, rfl⟩
        clear hrg0 hg0 hs0 hB0 hown
        go_wp2_with (at_next; go_must (refine wpList_next_ranges (α := Value) (β := Value) _ rfl _ rfl 74 thKeyed heldElem id id (fun key kl hk => ⟨key, rfl⟩) (fun v _ _ => ⟨v, rfl⟩) w.heap.size wq.heap.size 1 _ _ _ rfl hrg ?_ ?_))
        · intro _ hl0
          rcases hO.out with ⟨hl1, -⟩ | ⟨-, hown1⟩
          · have := has_key HT.out
            rw [← hl1, hl0] at this
            cases this
          · obtain ⟨gb, cap, rfl, hgB, -, -, -⟩ := owns_shape hown1 (by decide)
            obtain ⟨-, -, -, rest, hrow, -⟩ := owns_row hown1
            subst hvz
            have hs := Lib.hid (sort_one ⟨0, 0, nm, ver 2⟩ rest gb cap wx0 hrow)
            clear hrow hown1 hO hrg hl0
            go_wp2_with fail
            refine hs.out.mono ?_
            rintro e w5 ⟨rfl, hcs, hgr⟩
            have HEnd : Hid (FoldPost w ver nm (.returned (.slice (some ⟨gb, 0, none⟩) 1 cap)) w5) := ⟨gb, cap, rfl, hcs, hB1.out.grown hgr hB1.out.size (fun k hk => by cases hk; exact hgB)⟩
            clear hcs hgr
            go_wp2_with fail
            go_ret
            exact HEnd.out
        · intro key c kl yd yp wn cnt1 hkey hlk hv hat hrgn hlt hgn hsn hen
          rcases hO.out with ⟨hl1, rfl⟩ | ⟨hl1, -⟩
          · have hc : c = foldV nm tz vz := by
              rw [hl1] at hlk
              have e1 : yd = .held c := by
                unfold heldElem at hv
                simp only [Option.some.injEq, Prod.mk.injEq] at hv
                exact hv.1.symm
              exact only_val HT.out hlk (fun zd => (hat zd).trans e1)
            subst hc
            have HL : Hid (∀ z, (left z && !z.sameKey kl) = false) := fun z => by
              rw [hl1] at hlk ⊢
              exact only_left HT.out hlk z
            have Hlt := Lib.hid hlt
            have Hrgn := Lib.hid hrgn
            have Hgn := Lib.hid hgn
            have hBn := hB1.out.grown hgn hB1.out.size (fun k hk => by cases hk; exact HB.out.size)
            have HBn := Lib.hid hBn
            have Hle := Lib.hid hrg.left_eq
            clear hl1 hlk hv hat hrgn hlt hgn hO hkey hBn hrg hsn
            unfold foldV at hen ⊢
            go_wp2_with (at_builtin; go_must (refine wpList_append_one_g elemEvent rfl _ _ rfl (wn.alloc (.cells #[.bool false, .bool true, .int .i64 0, .int .i64 0, .string nm, .int .u64 vz] 76)) w.heap.size #[.int .i64 0, .int .i64 0, .string nm, .int .u64 vz] (.slice none 0 0) 0 [] rfl (World.ownsRow_nil _ _ _ _) (Nat.le_trans HBn.out.size (by rw [World.size_alloc]; omega)) (by rw [World.size_alloc]; rfl) rfl rfl (by decide) (by decide) ?_; intro v5 w5 hown5 hgr5; have Hown5 := Lib.hid hown5; have Hgr5 := Lib.hid hgr5; clear hown5 hgr5))
            have hrg5 := ((Hrgn.out.alloc (.cells #[.bool false, .bool true, .int .i64 0, .int .i64 0, .string nm, .int .u64 vz] 76)).alloc (.cells #[.int .i64 0, .int .i64 0, .string nm, .int .u64 vz] 38)).kept Hgr5.out (by simp [Value.ownBlock]) (by simp [Value.ownBlock])
            have hb5 := ((HBn.out.alloc HBn.out.size (.cells #[.bool false, .bool true, .int .i64 0, .int .i64 0, .string nm, .int .u64 vz] 76)).alloc (Nat.le_trans HBn.out.size (by rw [World.size_alloc]; omega)) (.cells #[.int .i64 0, .int .i64 0, .string nm, .int .u64 vz] 38)).grown Hgr5.out (Nat.le_trans HBn.out.size (by simp; omega)) (fun k hk => by cases hk)
            have Hrg5 := Lib.hid hrg5
            have Hb5 := Lib.hid hb5
            clear hrg5 hb5
            go_roundw
            case rel => exact ⟨_, ⟨_, Hrg5.out⟩, Hb5.out, .inr ⟨HL.out, Hown5.out⟩⟩
            case measure => rw [Hrg5.out.left_eq, Hle.out]; exact Hlt.out
          · rw [hl1] at hlk; cases hlk
end Go.Proofs.Ytkppmdbapcfmnaa
