/- Contracts of scrape's Fresh at a book, and the chapter's example. Condition: the book lies in blocks of the call's own. -/
import Derived.Test.YtolgkehlnhkgiaaFresh
namespace Go.Proofs.Ytolgkehlnhkgiaa
open Go.ChangeShapes Go.WideShapes Go.ChangeAt Go.RowKit Go.Deep Go.Maps

/-- What a book holds of a series. -/
def heldL (E : List En) (k : List UInt8) : List Sm := match findE E k with | some e => e.L | none => []

theorem fresh_book (B bb bm most : Nat) (age now : Int) (E : List En) (sub met : ByteArray) (w : World) (hB : BookAt w B bb bm most age E) (hsub : sub.size ≤ maxLen) (hmet : met.size ≤ maxLen) (hnow : 0 ≤ now) (hnow2 : now ≤ 9223372036854775807) (ha1 : 1 ≤ age) (ha2 : age ≤ 1800) :
    Calls Try.prog 11 #[.pointer (some ⟨bb, 0, none⟩), .int .i64 now, .agg #[.string sub, .string met]] w fun e w' =>
      e = .returned (.tuple #[.int .i64 (freshOf age now (heldL E (serBytes sub.data.toList met.data.toList))).1, .int .i64 (freshOf age now (heldL E (serBytes sub.data.toList met.data.toList))).2]) ∧ Below w.heap.size w w' := by
  unfold heldL
  cases hf : findE E (serBytes sub.data.toList met.data.toList) with
  | none => exact (callsIn_wide (n := 6)).1 (fresh_in bb bm most age now none [] _ _ _ sub met w hB.blk hB.map (serKey hsub hmet) (by rw [enMap_str, hf]; rfl) (.inl ⟨rfl, rfl⟩) hnow hnow2 ha1 ha2)
  | some e => exact (callsIn_wide (n := 6)).1 (fresh_in bb bm most age now (some ⟨e.rb, 0, none⟩) e.L _ _ _ sub met w hB.blk hB.map (serKey hsub hmet) (by rw [enMap_str, hf]; rfl) (.inr ⟨e.rb, e.lb, most, rfl, hB.rings e (findE_mem hf), hB.pos e (findE_mem hf)⟩) hnow hnow2 ha1 ha2)

def sP : ByteArray := ⟨#[112]⟩
def sCpu : ByteArray := ⟨#[99, 112, 117]⟩

theorem liveKey (rb lb : Nat) (L : List Sm) : heldL ([] ++ [⟨sP, sCpu, rb, lb, L⟩]) (serBytes sP.data.toList sCpu.data.toList) = L := by
  unfold heldL
  have : findE ([] ++ [⟨sP, sCpu, rb, lb, L⟩]) (serBytes sP.data.toList sCpu.data.toList) = some ⟨sP, sCpu, rb, lb, L⟩ := by
    show List.find? _ [_] = _
    rw [List.find?_cons_of_pos]
    exact beq_self_eq_true _
  rw [this]

set_option maxRecDepth 100000 in
set_option maxHeartbeats 1600000 in
theorem lives11 (w : World) : Calls Try.prog 6 #[] w fun e w' => e = .returned (.bool true) ∧ Below w.heap.size w w' := by
  have href : refOf 4607182418800017408 = (1000, 0) := by kernel_rfl
  have hpre : preOf 5 sP sCpu 4607182418800017408 = 0 := by
    unfold preOf
    rw [if_neg (by decide), if_pos ⟨by kernel_rfl, by kernel_rfl⟩, href]
  have Href := Lib.hid href
  have Hpre := Lib.hid hpre
  clear href hpre
  go_enter Try.func6, Try.ntmps6
  go_wp2_with fail
  refine (newBook_any 4 10 w (by decide) (by decide) (by decide) (by decide)).mono ?_
  rintro e w1 ⟨bb, bm, rfl, hB1, hb1⟩
  have HB1 := Lib.hid hB1
  have Hb1 := Lib.hid hb1
  clear hB1 hb1
  go_wp2_with fail
  obtain ⟨w2, hw2⟩ : ∃ w2, w1.alloc (.cells #[.string ⟨#[112]⟩, .string ⟨#[99, 112, 117]⟩] 36) = w2 := ⟨_, rfl⟩
  have hb2 : Below w.heap.size w w2 := by rw [← hw2]; exact Hb1.out.alloc Hb1.out.size _
  have hB2 : BookAt w2 w.heap.size bb bm 4 10 [] := by rw [← hw2]; exact HB1.out.keep ((Below.refl _ _).alloc (Nat.le_refl _) _)
  obtain ⟨sb, hsb⟩ : ∃ q, w1.heap.size = q := ⟨_, rfl⟩
  have r0 : w2.heap[sb]? = some (.cells #[.string ⟨#[112]⟩, .string ⟨#[99, 112, 117]⟩] 36 (0, 0)) := by rw [← hw2, ← hsb]; exact heap_alloc_new _ _
  rw [hw2, hsb]
  have HB2 := Lib.hid hB2
  have Hb2 := Lib.hid hb2
  have Hr0 := Lib.hid r0
  have hwb := HB1.out.base
  have hlt1 := HB1.out.lt
  clear hw2 hsb hB2 hb2 r0 HB1 Hb1
  refine (scrape_new w.heap.size bb bm 4 10 [] 5 sP sCpu 4607182418800017408 w2 HB2.out (by decide) (by decide) (by decide) Hpre.out rfl (by decide)).mono ?_
  rintro e w3 ⟨rb, lb, rfl, hB3, hr, hl, hF3⟩
  have e1 : (((refOf 4607182418800017408).1 : Nat) : Int) = 1000 := by rw [Href.out]; rfl
  rw [e1] at hB3 ⊢
  have hne : sb ≠ bm := fun hh => map_ne_cells HB2.out.map Hr0.out hh.symm
  have r3 : w3.heap[sb]? = _ := hF3.heap Hr0.out hne
  have hb3 : Below w.heap.size w w3 := Hb2.out.trans (hF3.below Hb2.out.size (fun k hk => by rw [hk]; exact hwb.2.1))
  have s0 := cell_of_row w3 sb 0 _ _ _ r3
  have s1 := cell_of_row w3 sb 1 _ _ _ r3
  simp at s0 s1
  have hk := liveKey rb lb [⟨5, 1000⟩]
  have H15 := fresh_book w.heap.size bb bm 4 10 15 _ sP sCpu w3 hB3 (by decide) (by decide) (by decide) (by decide) (by decide) (by decide)
  have H16 := fun wx hb => fresh_book w.heap.size bb bm 4 10 16 _ sP sCpu wx (hB3.keep hb) (by decide) (by decide) (by decide) (by decide) (by decide) (by decide)
  have hE : ([] ++ [⟨⟨#[112]⟩, ⟨#[99, 112, 117]⟩, rb, lb, [⟨5, 1000⟩]⟩] : List En) = [] ++ [⟨sP, sCpu, rb, lb, [⟨5, 1000⟩]⟩] := rfl
  rw [hk] at H15
  have f15 : freshOf 10 15 [⟨5, 1000⟩] = (1000, 0) := by decide
  have f16 : freshOf 10 16 [⟨5, 1000⟩] = (0, 13) := by decide
  rw [f15] at H15
  have H16' : ∀ wx, Below w3.heap.size w3 wx → Calls Try.prog 11 #[.pointer (some ⟨bb, 0, none⟩), .int .i64 16, .agg #[.string sP, .string sCpu]] wx fun e w' => e = .returned (.tuple #[.int .i64 0, .int .i64 13]) ∧ Below wx.heap.size wx w' := fun wx hb => by
    have := H16 wx hb
    rw [hk, f16] at this
    exact this
  have HH15 := Lib.hid H15
  have HH16 := Lib.hid H16'
  have Hb3 := Lib.hid hb3
  clear H15 H16 H16' hk f15 f16 hE hb3 r3 hF3 hB3 hne e1
  go_wp2_with fail
  refine HH15.out.mono ?_
  rintro e w4 ⟨rfl, hb4⟩
  have s0 := Below.cell_some hb4 s0
  have s1 := Below.cell_some hb4 s1
  have Hb4 := Lib.hid hb4
  clear hb4
  go_wp2_with fail
  refine (HH16.out w4 Hb4.out).mono ?_
  rintro e w5 ⟨rfl, hb5⟩
  have Hb5 := Lib.hid hb5
  clear hb5
  go_wp2_with fail
  go_ret
  exact ⟨rfl, (Hb3.out.trans (Hb4.out.mono Hb3.out.size)).trans (Hb5.out.mono (Nat.le_trans Hb3.out.size Hb4.out.size))⟩

/-! ### a book that isn't there -/

theorem rowNil_any (now : Int) (sub met : ByteArray) (w : World) : Calls Try.prog 12 #[.pointer none, .int .i64 now, .agg #[.string sub, .string met]] w fun e w' => e = .returned (.slice none 0 0) ∧ Below w.heap.size w w' := by
  go_enter Try.func12, Try.ntmps12
  go_wp2
  go_ret
  exact ⟨rfl, (((Below.refl _ _).alloc (Nat.le_refl _) _).alloc (by simp) _).alloc (by simp; omega) _⟩

theorem freshNil_any (now : Int) (sub met : ByteArray) (w : World) : Calls Try.prog 11 #[.pointer none, .int .i64 now, .agg #[.string sub, .string met]] w fun e w' => e = .returned (.tuple #[.int .i64 0, .int .i64 1]) ∧ Below w.heap.size w w' := by
  go_enter Try.func11, Try.ntmps11
  go_wp2
  go_ret2
  exact ⟨rfl, ((Below.refl _ _).alloc (Nat.le_refl _) _).alloc (by simp) _⟩

theorem forgetNil_any (s : ByteArray) (w : World) : Calls Try.prog 10 #[.pointer none, .string s] w fun e w' => e = .returned (.int .i64 0) ∧ Below w.heap.size w w' := by
  go_enter Try.func10, Try.ntmps10
  go_wp2
  go_ret
  exact ⟨rfl, (Below.refl _ _).alloc (Nat.le_refl _) _⟩

theorem allNil_any (w : World) : Calls Try.prog 13 #[.pointer none] w fun e w' => e = .returned (.slice none 0 0) ∧ Below w.heap.size w w' := by
  go_enter Try.func13, Try.ntmps13
  go_wp2
  go_ret
  exact ⟨rfl, Below.refl _ _⟩

theorem copyNil_any (w : World) : Calls Try.prog 14 #[.pointer none] w fun e w' => e = .returned (.pointer none) ∧ Below w.heap.size w w' := by
  go_enter Try.func14, Try.ntmps14
  go_wp2
  go_ret
  exact ⟨rfl, Below.refl _ _⟩
end Go.Proofs.Ytolgkehlnhkgiaa
