/- A book made of samples. Condition: the samples read. || The contract of law 20's lives. No condition. -/
import Derived.Test.YtojealgjfbjnoaaFresh
import Derived.Test.YtojealgjfbjnoaaRow
namespace Go.Proofs.Ytojealgjfbjnoaa
open Go.ChangeShapes Go.WideShapes Go.ChangeAt Go.RowKit Go.Deep Go.Maps

/-- The ticks that a book holds are at most the clock's last. -/
def AtOk (E : List En) : Prop := ∀ e ∈ E, ∀ x ∈ e.L, x.at0 ≤ 4611686018427387904
theorem BookAt.base_le {w : World} {B B' bb bm most : Nat} {age : Int} {E : List En} (h : BookAt w B bb bm most age E) (hb : B' ≤ B) : BookAt w B' bb bm most age E :=
  ⟨h.blk, h.map, h.rings, h.keys, h.apart, h.pos, ⟨by have := h.base.1; omega, by have := h.base.2.1; omega, fun e he => ⟨by have := (h.base.2.2 e he).1; omega, by have := (h.base.2.2 e he).2; omega⟩⟩, h.m1⟩
theorem putOf_mem {most : Nat} {L : List Sm} {x y : Sm} (h : y ∈ (putOf most L x).2) : y ∈ L ∨ y = x := by
  have key : ∀ b : Bool, y ∈ ((if b = true then ((13 : Int), L) else (0, (if L.length = most then L.tail else L) ++ [x])) : Int × List Sm).2 → y ∈ L ∨ y = x := by
    intro b h
    cases b
    · simp only [Bool.false_eq_true, if_false] at h
      rcases List.mem_append.1 h with h | h
      · split at h
        · exact .inl (List.mem_of_mem_tail h)
        · exact .inl h
      · exact .inr (List.mem_singleton.1 h)
    · exact .inl h
  exact key _ h

theorem scrape_any (B bb bm most : Nat) (age : Int) (E : List En) (at0 : Int) (sub met : ByteArray) (bits : Nat) (w : World) (hB : BookAt w B bb bm most age E) (hA : AtOk E) (hl : E.length < 512) (hbits : bits < 18446744073709551616)
    (hsub : sub.size ≤ maxLen) (hmet : met.size ≤ maxLen) :
    Calls Try.prog 13 #[.pointer (some ⟨bb, 0, none⟩), .int .i64 at0, .agg #[.string sub, .string met], .int .u64 bits] w fun e w' =>
      ∃ v x E', e = .returned (.tuple #[.int .i64 v, .int .i64 x]) ∧ BookAt w' B bb bm most age E' ∧ AtOk E' ∧ E'.length ≤ E.length + 1 ∧ Below B w w' := by
  have hbs : B ≤ w.heap.size := by have := hB.base.1; have := hB.lt.1; omega
  by_cases hp : preOf at0 sub met bits = 0
  · have hat : at0 ≤ 4611686018427387904 := by
      unfold preOf at hp
      split at hp
      · cases hp
      · omega
    cases hf : findE E (serBytes sub.data.toList met.data.toList) with
    | none =>
      refine (scrape_new B bb bm most age E at0 sub met bits w hB hbits hsub hmet hp hf hl).mono ?_
      rintro e w' ⟨rb, lb, rfl, h1, h2, h3, h4⟩
      refine ⟨_, _, _, rfl, h1, fun e he x hx => ?_, by simp, h4.below hbs (fun q hq => by rw [hq]; exact hB.base.2.1)⟩
      rcases List.mem_append.1 he with h | h
      · exact hA e h x hx
      · rw [List.mem_singleton.1 h] at hx
        rw [List.mem_singleton.1 hx]
        exact hat
    | some en =>
      refine (scrape_put B bb bm most age E at0 sub met bits w hB hbits hsub hmet hp (by omega) en hf).mono ?_
      rintro e w' ⟨rfl, h1, h2⟩
      have hem := findE_mem hf
      refine ⟨_, _, _, rfl, h1, fun e he x hx => ?_, by rw [setL_len]; omega, h2.below hbs (fun q hq => by rcases hq with rfl | rfl | rfl; exact hB.base.2.1; exact (hB.base.2.2 en hem).1; exact (hB.base.2.2 en hem).2)⟩
      unfold setL at he
      obtain ⟨e0, h3, rfl⟩ := List.mem_map.1 he
      split at hx
      · rcases putOf_mem hx with h | rfl
        · exact hA en hem x h
        · exact hat
      · exact hA e0 h3 x hx
  · refine (scrape_pre ⟨bb, 0, none⟩ at0 sub met bits w hbits hp).mono ?_
    rintro e w' ⟨rfl, hb⟩
    exact ⟨_, _, E, rfl, hB.keep hb, hA, by omega, hb.mono hbs⟩

/-- A sample that comes. -/
structure SmQ where
  at0 : Int
  sub : ByteArray
  met : ByteArray
  bits : Nat
  hbits : bits < 18446744073709551616
  hsub : sub.size ≤ maxLen
  hmet : met.size ≤ maxLen
instance : Inhabited SmQ := ⟨⟨0, ⟨#[]⟩, ⟨#[]⟩, 0, by decide, by decide, by decide⟩⟩
def SmQ.cells (x : SmQ) : List Value := [.int .i64 x.at0, .string x.sub, .string x.met, .int .u64 x.bits]

def BookPost (age : Int) (w : World) (e : Ending) (w' : World) : Prop :=
  Below w.heap.size w w' ∧ (e = .returned (.pointer none) ∨ ∃ bb bm mo E, e = .returned (.pointer (some ⟨bb, 0, none⟩)) ∧ BookAt w' w.heap.size bb bm mo age E ∧ AtOk E ∧ 1 ≤ age ∧ age ≤ 1800)

set_option maxRecDepth 100000 in
set_option maxHeartbeats 2000000 in
theorem book_any (most age : Int) (l : List SmQ) (ao : Option Addr) (n cap : Nat) (w : World) (hS : SlR (Flat SmQ.cells) 4 w ao n cap l) :
    Calls Try.prog 4 #[.agg #[.int .i64 most, .int .i64 age], .slice ao n cap] w (BookPost age w) := by
  unfold BookPost
  have hlen := hS.hlen
  obtain ⟨w1, hw1⟩ : ∃ w1, w.alloc (.cells #[.int .i64 most, .int .i64 age] 23) = w1 := ⟨_, rfl⟩
  have hb1 : Below w.heap.size w w1 := by rw [← hw1]; exact (Below.refl _ _).alloc (Nat.le_refl _) _
  have HSw := Lib.hid hS
  have hS1 := hS.flatKeeps (Keeps.below hb1)
  have c0 : w1.cell? ⟨w.heap.size, 0, none⟩ = some (.int .i64 most) := by rw [← hw1]; exact cell_new w _ _ 0
  have c1 : w1.cell? ⟨w.heap.size, 1, none⟩ = some (.int .i64 age) := by rw [← hw1]; exact cell_new w _ _ 1
  have H1 := Lib.hid hb1
  have HS1 := Lib.hid hS1
  by_cases hbad : most < 1 ∨ 32 < most ∨ age < 1 ∨ 1800 < age
  · have HN := Lib.hid (newBad_any most age w1 hbad)
    clear hS hS1 hb1 hbad
    go_enter Try.func4, Try.ntmps4
    go_wp2_with fail
    refine HN.out.mono ?_
    rintro e w2 ⟨rfl, hb2⟩
    have H2 := Lib.hid (H1.out.trans (hb2.mono H1.out.size))
    clear hb2
    go_wp2_with fail
    go_ret
    exact ⟨H2.out, .inl rfl⟩
  · obtain ⟨mo, rfl⟩ : ∃ mo : Nat, most = mo := ⟨most.toNat, by omega⟩
    have ha : 1 ≤ age ∧ age ≤ 1800 := by omega
    have Ha := Lib.hid ha
    have HN := Lib.hid (newBook_any mo age w1 (by omega) (by omega) ha.1 ha.2)
    clear hS hS1 hb1 hbad ha
    go_enter Try.func4, Try.ntmps4
    go_wp2_with fail
    refine HN.out.mono ?_
    rintro e w2 ⟨bb, bm, rfl, hB2, hb2⟩
    have hB2 := hB2.base_le H1.out.size
    have HB2 := Lib.hid hB2
    have hS2 := HS1.out.flatKeeps (Keeps.below hb2)
    have H2 := Lib.hid (H1.out.trans (hb2.mono H1.out.size))
    have HS2 := Lib.hid hS2
    clear hb2 hB2 HN HS1
    by_cases h100 : 100 < n
    · have hd : decide ((100 : Int) < (n : Int)) = true := decide_eq_true (by omega)
      clear hS2 hlen
      go_wp2_with fail
      go_ret
      exact ⟨H2.out, .inl rfl⟩
    · have hd : decide ((100 : Int) < (n : Int)) = false := decide_eq_false (by omega)
      have Hn := Lib.hid h100
      have hcp := Lib.hid hS2.hcap
      clear hS2 hlen h100
      go_wp2_with fail
      go_loopw [23] (fun i wr => ∃ (k : Nat) (E : List En), k ≤ n ∧ i = .int .i64 k ∧ Hid (BookAt wr w.heap.size bb bm mo age E ∧ AtOk E ∧ E.length ≤ k ∧ Below w.heap.size w2 wr)) (fun i _ => n - (intOf i).toNat)
      case atStart => exact ⟨0, [], by omega, rfl, HB2.out, (fun e he => by cases he), by simp, (Below.refl _ w2).mono H2.out.size⟩
      case round =>
        obtain ⟨k, E, hk, rfl, hI⟩ := hrel
        obtain ⟨wp, rfl⟩ : ∃ wp : World, wp = wr := ⟨_, rfl⟩
        by_cases hlt : k < n
        · obtain ⟨HB, HA, HL, Hb⟩ := hI.out
          have hSk := HSw.out.flatKeeps (Keeps.below (H2.out.trans Hb))
          obtain ⟨b, off, rfl⟩ := hSk.ptr (by decide) (by omega)
          have kx : k < l.length := by have := hSk.hlen; omega
          have hc := hSk.flat kx
          obtain ⟨x, hx⟩ : ∃ x, l[k] = x := ⟨_, rfl⟩
          rw [hx] at hc
          have d0 := hc 0 _ rfl
          have d1 := hc 1 _ rfl
          have d2 := hc 2 _ rfl
          have d3 := hc 3 _ rfl
          simp only [Nat.add_zero] at d0
          have hs : w.heap.size ≤ wp.heap.size := Nat.le_trans H2.out.size Hb.size
          have HB := Lib.hid HB
          have HA := Lib.hid HA
          have HL := Lib.hid HL
          have Hb := Lib.hid Hb
          clear hSk hc hx kx hI
          go_wp2_with fail
          have hba : Below wp.heap.size wp (wp.alloc (.cells #[.int .i64 x.at0, .string x.sub, .string x.met, .int .u64 x.bits] 48)) := (Below.refl _ _).alloc (Nat.le_refl _) _
          have hrun := scrape_any w.heap.size bb bm mo age E x.at0 x.sub x.met x.bits _ (HB.out.keep hba) HA.out (by have := HL.out; have := Hn.out; omega) x.hbits x.hsub x.hmet
          refine hrun.mono ?_
          rintro e wb ⟨v, er, E', rfl, hB', hA', hl', hbb⟩
          have HI : Hid (BookAt wb w.heap.size bb bm mo age E' ∧ AtOk E' ∧ E'.length ≤ k + 1 ∧ Below w.heap.size w2 wb) := ⟨hB', hA', by have := HL.out; omega, Hb.out.trans ((hba.mono hs).trans hbb)⟩
          clear hrun hba hB' hA' hl' hbb
          have hk6 : k < 100 := by have := Hn.out; omega
          go_wp2_with fail
          go_roundw
          case rel => exact ⟨k + 1, E', by omega, by go_num, HI.out⟩
          case measure => simp [intOf]; omega
        · obtain ⟨HB, HA, HL, Hb⟩ := hI.out
          have HB := Lib.hid HB
          have HA := Lib.hid HA
          have HL := Lib.hid HL
          have Hb := Lib.hid Hb
          clear hI
          go_wp2_with fail
          go_ret
          exact ⟨H2.out.trans Hb.out, .inr ⟨bb, bm, mo, E, rfl, HB.out, HA.out, Ha.out⟩⟩
end Go.Proofs.Ytojealgjfbjnoaa
namespace Go.Proofs.Ytojealgjfbjnoaa
open Go.ChangeShapes Go.WideShapes Go.ChangeAt Go.RowKit Go.Deep

def livesUse : UseI := ⟨⟨#[]⟩, true, true, 1000, 900⟩

theorem rowF_lives : rowF 0 500 [livesUse, livesUse] 2 100 = (4, 0) := by decide +kernel

set_option maxRecDepth 100000 in
theorem lives20 (w : World) : Calls Try.prog 5 #[] w fun e w' => e = .returned (.bool true) ∧ Below w.heap.size w w' := by
  have hS := SlR.of_new (f := UseI.cells) (sz := 5) (w.alloc (.cells #[.string ⟨#[]⟩, .bool true, .bool true, .int .i64 1000, .int .i64 900] 51)) [livesUse, livesUse] 51
    #[.string ⟨#[]⟩, .bool true, .bool true, .int .i64 1000, .int .i64 900, .string ⟨#[]⟩, .bool true, .bool true, .int .i64 1000, .int .i64 900] 2 rfl (by unfold maxLen; omega) (fun _ => rfl) rfl
  have HR := Lib.hid (row_any 0 500 2 100 ⟨#[99, 112, 117]⟩ [livesUse, livesUse] _ 2 2 _ hS (by omega))
  rw [rowF_lives, World.size_alloc] at HR
  clear hS
  go_enter Try.func5, Try.ntmps5
  go_wp2_with fail
  refine HR.out.mono ?_
  rintro e w1 ⟨rfl, hb1⟩
  have Hb1 : Hid (Below w.heap.size w w1) := (((Below.refl _ _).alloc (Nat.le_refl _) _).alloc (by simp) _).trans (hb1.mono (by simp; omega))
  clear hb1
  go_wp2_with fail
  go_ret
  exact ⟨rfl, Hb1.out⟩
end Go.Proofs.Ytojealgjfbjnoaa
