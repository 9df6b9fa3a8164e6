/- The contract of chapter 11's is: a book tells what the model has. Conditions: the book and the model hold the same series, their samples rising; a tick of a clock. || The walk of chapter 11's is: it always answers yes. Conditions: the book and the model hold the same series, their samples rising; a tick that isn't negative. -/
import Derived.Test.YtoamjihchmokcaaScraped
import Derived.Test.YtoamjihchmokcaaQRow
namespace Go.Proofs.Ytoamjihchmokcaa
open Go.ChangeShapes Go.WideShapes Go.ChangeAt Go.RowKit Go.Deep Go.Maps

def RiseL (L : List Sm) : Prop := L.Pairwise fun x y => x.at0 < y.at0
def wantP (age now : Int) (P : List Sm) : Int × Int := match P.getLast? with
  | none => (0, 7)
  | some x => if now - x.at0 > age then (0, 13) else (x.v, 0)
def rowP (age now : Int) (P : List Sm) : List Sm := P.filter fun x => !decide (now - x.at0 > age)
theorem wantP_snoc (age now : Int) (P : List Sm) (x : Sm) : wantP age now (P ++ [x]) = if now - x.at0 > age then (0, 13) else (x.v, 0) := by unfold wantP; rw [List.getLast?_concat]
theorem rowP_snoc (age now : Int) (P : List Sm) (x : Sm) : rowP age now (P ++ [x]) = if now - x.at0 > age then rowP age now P else rowP age now P ++ [x] := by
  unfold rowP
  rw [List.filter_append]
  by_cases h : now - x.at0 > age
  · rw [if_pos h]; simp [h]
  · rw [if_neg h]; simp [h]
structure EndP (now : Int) (L P : List Sm) : Prop where
  old : ∀ x ∈ P, x.at0 ≤ now
  cut : L.filter (fun x => decide (x.at0 ≤ now)) = P
theorem endP_of {now : Int} {L : List Sm} (hr : RiseL L) {k : Nat} (hk : k ≤ L.length) (h1 : ∀ x ∈ L.take k, x.at0 ≤ now) (h2 : ∀ (h : k < L.length), L[k].at0 > now) : EndP now L (L.take k) := by
  refine ⟨h1, ?_⟩
  rw [← List.take_append_drop k L, List.filter_append, List.take_append_drop]
  have e1 : (L.take k).filter (fun x => decide (x.at0 ≤ now)) = L.take k := List.filter_eq_self.2 fun x hx => by simpa using h1 x hx
  have e2 : (L.drop k).filter (fun x => decide (x.at0 ≤ now)) = [] := by
    rw [List.filter_eq_nil_iff]
    intro x hx
    obtain ⟨j, hj, rfl⟩ := List.getElem_of_mem hx
    rw [List.getElem_drop]
    rw [List.length_drop] at hj
    have hkl : k < L.length := by omega
    have a := h2 hkl
    rcases Nat.eq_zero_or_pos j with h0 | h0
    · subst h0
      simp only [Nat.add_zero]
      simpa using a
    · have b := List.pairwise_iff_getElem.1 hr k (k + j) hkl (by omega) (by omega)
      have : ¬ L[k + j].at0 ≤ now := by omega
      simpa using this
  rw [e1, e2, List.append_nil]
theorem EndP.fresh {now : Int} {L P : List Sm} (h : EndP now L P) (age : Int) : freshOf age now L = wantP age now P := by
  unfold freshOf lastS wantP
  rw [h.cut]
  cases P.getLast? with
  | none => rfl
  | some x =>
    show (if x.at0 < now - age then ((0 : Int), (13 : Int)) else (x.v, 0)) = if now - x.at0 > age then (0, 13) else (x.v, 0)
    by_cases hc : x.at0 < now - age
    · rw [if_pos hc, if_pos (by omega)]
    · rw [if_neg hc, if_neg (by omega)]
theorem EndP.row {now : Int} {L P : List Sm} (h : EndP now L P) (age : Int) : rowOfL (now - age) now L = rowP age now P := by
  rw [← h.cut]
  unfold rowOfL rowP
  rw [List.filter_filter]
  refine List.filter_congr fun x _ => ?_
  unfold isFreshS
  rw [Bool.eq_iff_iff]
  simp
  omega
theorem rowB_any (B bb bm most : Nat) (age now : Int) (E : List En) (sub met : ByteArray) (w : World) (hB : BookAt w B bb bm most age E) (hsub : sub.size ≤ maxLen) (hmet : met.size ≤ maxLen) :
    Calls Try.prog 27 #[.pointer (some ⟨bb, 0, none⟩), .int .i64 now, .agg #[.string sub, .string met]] w fun e w' =>
      ∃ ao cap, e = .returned (.slice ao (rowOfL (IntKind.i64.wrap (now - age)) now (heldL E (serBytes sub.data.toList met.data.toList))).length cap) ∧ SlR (Flat Sm.cells) 2 w' ao (rowOfL (IntKind.i64.wrap (now - age)) now (heldL E (serBytes sub.data.toList met.data.toList))).length cap (rowOfL (IntKind.i64.wrap (now - age)) now (heldL E (serBytes sub.data.toList met.data.toList))) ∧ Below w.heap.size w w' := by
  have fin : ∀ (L : List Sm) (e : Ending) (w' : World), (∃ v, e = .returned v ∧ w'.ownsRow w.heap.size 64 2 v (rowOfL (IntKind.i64.wrap (now - age)) now L).length (cellsS (rowOfL (IntKind.i64.wrap (now - age)) now L)) ∧ Below w.heap.size w w') →
      ∃ ao cap, e = .returned (.slice ao (rowOfL (IntKind.i64.wrap (now - age)) now L).length cap) ∧ SlR (Flat Sm.cells) 2 w' ao (rowOfL (IntKind.i64.wrap (now - age)) now L).length cap (rowOfL (IntKind.i64.wrap (now - age)) now L) ∧ Below w.heap.size w w' := by
    rintro L e w' ⟨v, rfl, h1, h2⟩
    obtain ⟨ao, cap, rfl, h3, _⟩ := SlR.of_owns (f := Sm.cells) (sz := 2) (xs := rowOfL (IntKind.i64.wrap (now - age)) now L) h1 rfl (fun _ => rfl)
    exact ⟨_, _, rfl, h3, h2⟩
  unfold heldL
  cases hf : findE E (serBytes sub.data.toList met.data.toList) with
  | none => exact ((callsIn_wide (n := 6)).1 (row_in bb bm most age now none [] _ _ _ sub met w hB.blk hB.map (serKey hsub hmet) (by rw [enMap_str, hf]; rfl) (.inl ⟨rfl, rfl⟩) (by simp) _ rfl)).mono (fin [])
  | some e =>
    have hl : e.L.length ≤ 4096 := by
      obtain ⟨_, _, q, _⟩ := hB.rings e (findE_mem hf)
      have := q.hn
      have := hB.m1.2
      omega
    exact ((callsIn_wide (n := 6)).1 (row_in bb bm most age now (some ⟨e.rb, 0, none⟩) e.L _ _ _ sub met w hB.blk hB.map (serKey hsub hmet) (by rw [enMap_str, hf]; rfl) (.inr ⟨e.rb, e.lb, most, rfl, hB.rings e (findE_mem hf), hB.pos e (findE_mem hf)⟩) hl _ rfl)).mono (fin e.L)
theorem heldL_at {M : List Mo} {s m : ByteArray} (hM : ∀ x ∈ M, x.en.sub.size ≤ maxLen ∧ x.en.met.size ≤ maxLen) (hs : s.size ≤ maxLen) (hm : m.size ≤ maxLen) {k : Nat} (h : findM M s m = some k) : ∃ hk : k < M.length, heldL (M.map Mo.en) (serBytes s.data.toList m.data.toList) = M[k].en.L := by
  obtain ⟨hk, h1, _⟩ := findM_get h
  refine ⟨hk, ?_⟩
  unfold heldL
  rw [findE_of hM hs hm, h1]
  rfl
theorem heldL_no {M : List Mo} {s m : ByteArray} (hM : ∀ x ∈ M, x.en.sub.size ≤ maxLen ∧ x.en.met.size ≤ maxLen) (hs : s.size ≤ maxLen) (hm : m.size ≤ maxLen) (h : findM M s m = none) : heldL (M.map Mo.en) (serBytes s.data.toList m.data.toList) = [] := by
  unfold heldL
  rw [findE_of hM hs hm, findM_none h]
  rfl
end Go.Proofs.Ytoamjihchmokcaa
namespace Go.Proofs.Ytoamjihchmokcaa
open Go.ChangeShapes Go.WideShapes Go.ChangeAt Go.RowKit Go.Deep Go.Maps

def OwnSm (w : World) (B : Nat) (v : Value) (xs : List Sm) : Prop := w.ownsRow B 64 2 v xs.length (xs.flatMap Sm.cells)
theorem OwnSm.reads {w : World} {B : Nat} {v : Value} {xs : List Sm} (h : OwnSm w B v xs) : ∃ ao cap, v = .slice ao xs.length cap ∧ SlR (Flat Sm.cells) 2 w ao xs.length cap xs := by
  obtain ⟨ao, cap, e, hS, _⟩ := SlR.of_owns (f := Sm.cells) (sz := 2) h rfl (fun _ => rfl)
  exact ⟨ao, cap, e, hS⟩

set_option maxRecDepth 100000 in
set_option maxHeartbeats 4000000 in
theorem is_any (B bb bm most : Nat) (age now : Int) (M : List Mo) (s m : ByteArray) (ao : Option Addr) (n cap : Nat) (w : World) (hB : BookAt w B bb bm most age (M.map Mo.en)) (hS : SlR (Flat Mo.cells) 3 w ao n cap M)
    (hV : ∀ x ∈ M, ∃ lo lcap, x.v = .slice lo x.en.L.length lcap ∧ SlR (Flat Sm.cells) 2 w lo x.en.L.length lcap x.en.L) (hR : ∀ x ∈ M, RiseL x.en.L ∧ x.en.L.length ≤ 32 ∧ ∀ y ∈ x.en.L, 0 ≤ y.at0 ∧ y.at0 ≤ 4611686018427387904)
    (hn : ∀ x ∈ M, x.en.sub.size ≤ maxLen ∧ x.en.met.size ≤ maxLen) (hs : s.size ≤ maxLen) (hm : m.size ≤ maxLen) (h0 : 0 ≤ now) (h1 : now ≤ 9223372036854775807) (ha1 : 1 ≤ age) (ha2 : age ≤ 1800) :
    Calls Try.prog 12 #[.pointer (some ⟨bb, 0, none⟩), .slice ao n cap, .int .i64 age, .int .i64 now, .agg #[.string s, .string m]] w fun e w' => e = .returned (.bool true) ∧ Below w.heap.size w w' := by
  have hcm := hS.hmax
  have hlc := hS.hcap
  unfold maxLen at hcm
  have hwr : IntKind.i64.wrap (now - age) = now - age := IntWalk.i64_in _ (by omega)
  have HF : Hid (∀ wx, Below w.heap.size w wx → Calls Try.prog 13 #[.pointer (some ⟨bb, 0, none⟩), .int .i64 now, .agg #[.string s, .string m]] wx fun e w' =>
      e = .returned (.tuple #[.int .i64 (freshOf age now (heldL (M.map Mo.en) (serBytes s.data.toList m.data.toList))).1, .int .i64 (freshOf age now (heldL (M.map Mo.en) (serBytes s.data.toList m.data.toList))).2]) ∧ Below wx.heap.size wx w') := fun wx hb => fresh_book B bb bm most age now (M.map Mo.en) s m wx (hB.keep hb) hs hm h1 ha1 ha2
  have HRw : Hid (∀ wx, Below w.heap.size w wx → Calls Try.prog 27 #[.pointer (some ⟨bb, 0, none⟩), .int .i64 now, .agg #[.string s, .string m]] wx fun e w' =>
      ∃ ao cap, e = .returned (.slice ao (rowOfL (now - age) now (heldL (M.map Mo.en) (serBytes s.data.toList m.data.toList))).length cap) ∧ SlR (Flat Sm.cells) 2 w' ao (rowOfL (now - age) now (heldL (M.map Mo.en) (serBytes s.data.toList m.data.toList))).length cap (rowOfL (now - age) now (heldL (M.map Mo.en) (serBytes s.data.toList m.data.toList))) ∧ Below wx.heap.size wx w') := fun wx hb => by
    have h := rowB_any B bb bm most age now (M.map Mo.en) s m wx (hB.keep hb) hs hm
    rw [hwr] at h
    exact h
  have HFd : Hid (∀ wx, Below w.heap.size w wx → Calls Try.prog 11 #[.slice ao n cap, .agg #[.string s, .string m]] wx fun e w' => e = .returned (.int .i64 (findI M s m)) ∧ Below wx.heap.size wx w') := fun wx hb => find_any M s m ao n cap wx (hS.flatKeeps (Keeps.below hb))
  have HAt : Hid (∀ k, findM M s m = some k → ∃ hk : k < M.length, heldL (M.map Mo.en) (serBytes s.data.toList m.data.toList) = M[k].en.L) := fun k h => heldL_at hn hs hm h
  have HNo : Hid (findM M s m = none → heldL (M.map Mo.en) (serBytes s.data.toList m.data.toList) = []) := fun h => heldL_no hn hs hm h
  obtain ⟨HL, hHL⟩ : ∃ q, heldL (M.map Mo.en) (serBytes s.data.toList m.data.toList) = q := ⟨_, rfl⟩
  rw [hHL] at HF HRw HAt HNo
  have HS := Lib.hid hS
  have HV := Lib.hid hV
  have HRs := Lib.hid hR
  have b0 : (w.alloc (.cells #[.string s, .string m] 33)).cell? ⟨w.heap.size, 0, none⟩ = some (.string s) := cell_new w _ _ 0
  have b1 : (w.alloc (.cells #[.string s, .string m] 33)).cell? ⟨w.heap.size, 1, none⟩ = some (.string m) := cell_new w _ _ 1
  obtain ⟨W, hW⟩ : ∃ W, w.alloc (.cells #[.string s, .string m] 33) = W := ⟨_, rfl⟩
  have HB : Hid (Below w.heap.size w W) := by rw [← hW]; exact (Below.refl _ _).alloc (Nat.le_refl _) _
  have hzW : W.heap.size = w.heap.size + 1 := by rw [← hW, World.size_alloc]
  rw [hW] at b0 b1
  have HB0 := Lib.hid b0
  have HB1 := Lib.hid b1
  obtain ⟨N, hN⟩ : ∃ N, w.heap.size = N := ⟨_, rfl⟩
  rw [hN] at HB HB0 HB1 HF HRw HFd hzW b0 b1 ⊢
  have HN := Lib.hid hN
  clear hB hS hV hR hn hs hm hHL
  go_enter Try.func12, Try.ntmps12
  go_wp2_with fail
  clear hW hN
  refine (HFd.out W HB.out).mono ?_
  rintro e w1 ⟨rfl, hb1⟩
  have HB1w : Hid (Below N w w1) := HB.out.trans (hb1.mono (by omega))
  have Hb1 := Lib.hid hb1
  have hz1 : N + 1 ≤ w1.heap.size := by have := hb1.size; omega
  obtain ⟨fi, hfi⟩ : ∃ c, findI M s m = c := ⟨_, rfl⟩
  rw [hfi]
  have Hfi := Lib.hid hfi
  clear hb1 hfi b0 b1
  go_upto_if 25 with fail
  go_cut [11, 12, 13] from 25 to 52 (fun v11 v12 v13 wx => ∃ P, Hid (EndP now HL P) ∧ Hid (OwnSm wx w1.heap.size v11 (rowP age now P)) ∧ v12 = .int .i64 (wantP age now P).1 ∧ v13 = .int .i64 (wantP age now P).2 ∧ (rowP age now P).length ≤ 32 ∧ Hid (Below w1.heap.size w1 wx))
  case first =>
    cases hf : findM M s m with
    | none =>
      obtain rfl : fi = -1 := Hfi.out.symm.trans (findI_none hf)
      obtain rfl := HNo.out hf
      clear hf
      go_wp2_with fail
      go_meet
      case rel => exact ⟨[], ⟨fun x hx => (by cases hx), rfl⟩, World.ownsRow_nil _ _ _ _, rfl, rfl, Nat.zero_le _, Below.refl _ _⟩
    | some k =>
      obtain rfl : fi = k := Hfi.out.symm.trans (findI_some hf)
      obtain ⟨hk, hL⟩ := HAt.out k hf
      have hd3 : decide ((k : Int) ≥ 0) = true := decide_eq_true (by omega)
      have hS1 := HS.out.flatKeeps (Keeps.below (by rw [HN.out]; exact HB1w.out))
      have hkn : k < n := by have := hS1.hlen; omega
      obtain ⟨b0, off, rfl⟩ := hS1.ptr (by decide) (by omega)
      have cv := hS1.flat hk 2 _ rfl
      obtain ⟨lo, lcap, hv, hSv⟩ := HV.out _ (List.getElem_mem hk)
      obtain ⟨hri, hl32, hat⟩ := HRs.out _ (List.getElem_mem hk)
      rw [← hL] at hv hSv hri hl32 hat
      rw [hv] at cv
      have hSv1 := hSv.flatKeeps (Keeps.below (by rw [HN.out]; exact HB1w.out))
      have hlm := hSv1.hmax
      have hlc2 := hSv1.hcap
      unfold maxLen at hlm
      obtain ⟨ln, hln⟩ : ∃ q, HL.length = q := ⟨_, rfl⟩
      rw [hln] at hSv1 hlc2 cv hl32
      have HSv := Lib.hid hSv1
      have Hri := Lib.hid hri
      have Hat := Lib.hid hat
      have Hln := Lib.hid hln
      clear hf hk hL hS1 hv hSv hri hat hSv1 hln
      go_wp2_with fail
      go_loopw [11, 12, 13, 32] (fun v11 v12 v13 i wr => ∃ j : Nat, j ≤ ln ∧ i = .int .i64 j ∧ Hid (∀ x ∈ HL.take j, x.at0 ≤ now) ∧ Hid (OwnSm wr w1.heap.size v11 (rowP age now (HL.take j))) ∧ v12 = .int .i64 (wantP age now (HL.take j)).1 ∧ v13 = .int .i64 (wantP age now (HL.take j)).2 ∧ Hid (Below w1.heap.size w1 wr)) (fun _ _ _ i _ => ln - (intOf i).toNat)
      case atStart => exact ⟨0, Nat.zero_le _, rfl, (fun x hx => by simp at hx), World.ownsRow_nil _ _ _ _, rfl, rfl, Below.refl _ _⟩
      case round =>
        obtain ⟨j, hj, rfl, hall, ho, rfl, rfl, hb⟩ := hrel
        obtain ⟨wq, rfl⟩ : ∃ wq : World, wq = wr := ⟨_, rfl⟩
        have hrl : (rowP age now (HL.take j)).length ≤ 32 := by have := List.length_filter_le (fun x : Sm => !decide (now - x.at0 > age)) (HL.take j); rw [List.length_take] at this; unfold rowP; omega
        by_cases hlt : j < ln
        · skip
          have hS2 := HSv.out.flatKeeps (Keeps.below hb.out)
          obtain ⟨g0, of0, rfl⟩ := hS2.ptr (by decide) (by omega)
          have jx : j < HL.length := by have := Hln.out; omega
          have c0 := hS2.flat jx 0 _ rfl
          have c1 := hS2.flat jx 1 _ rfl
          rw [Nat.add_zero] at c0
          have htk : HL.take (j + 1) = HL.take j ++ [HL[j]] := List.take_succ_eq_append_getElem jx
          have hya := Hat.out _ (List.getElem_mem jx)
          have hEnd := fun (h2 : HL[j].at0 > now) => endP_of (now := now) Hri.out (k := j) (Nat.le_of_lt jx) hall.out (fun _ => h2)
          obtain ⟨y, hy⟩ : ∃ y, HL[j] = y := ⟨_, rfl⟩
          rw [hy] at c0 c1 htk hya hEnd
          have hw := wantP_snoc age now (HL.take j) y
          have hr := rowP_snoc age now (HL.take j) y
          rw [← htk] at hw hr
          obtain ⟨ya, yv⟩ := y
          dsimp only at c0 c1 hya hw hr hEnd
          have Hw := Lib.hid hw
          have Hr := Lib.hid hr
          have Htk := Lib.hid htk
          have HEnd := Lib.hid hEnd
          obtain ⟨Q, hQ⟩ : ∃ Q, rowP age now (HL.take j) = Q := ⟨_, rfl⟩
          rw [hQ] at ho Hr hrl
          have HQ := Lib.hid hQ
          have hsz := hb.out.size
          have k0 := cell_new wq #[.int .i64 ya, .int .i64 yv] 64 0
          have k1 := cell_new wq #[.int .i64 ya, .int .i64 yv] 64 1
          rw [Addr.add_lit, Nat.zero_add] at k0 k1
          obtain ⟨Wy, hWy⟩ : ∃ W, wq.alloc (.cells #[.int .i64 ya, .int .i64 yv] 64) = W := ⟨_, rfl⟩
          have hbW : Below wq.heap.size wq Wy := by rw [← hWy]; exact (Below.refl _ _).alloc (Nat.le_refl _) _
          rw [hWy] at k0 k1
          have HbW := Lib.hid (hb.out.trans (hbW.mono hsz))
          have HoW : Hid (OwnSm Wy w1.heap.size u11 Q) := owns_fr (Fr.of_below hbW (fun _ => False)) ho.out (fun _ _ h => h)
          have hsW := HbW.out.size
          have Hall := hall
          clear hS2 htk hw hr hy hQ hbW hEnd ho
          by_cases hgt : ya > now
          · skip
            have hd4 : decide (ya > now) = true := decide_eq_true hgt
            have HE := Lib.hid (HEnd.out hgt)
            clear hgt
            go_wp2_with fail
            go_meet
            case rel => exact ⟨HL.take j, HE.out, by rw [HQ.out]; exact HoW, rfl, rfl, by rw [HQ.out]; exact hrl, HbW⟩
          · have hd4 : decide (ya > now) = false := decide_eq_false hgt
            have hall2 : Hid (∀ x ∈ HL.take (j + 1), x.at0 ≤ now) := fun x hx => by
              rw [Htk.out] at hx
              rcases List.mem_append.1 hx with h | h
              · exact Hall.out x h
              · rw [List.mem_singleton.1 h]; show ya ≤ now; omega
            by_cases hag : now - ya > age
            · skip
              have hd5 : decide (now - ya > age) = true := decide_eq_true hag
              have Hw2 : Hid (wantP age now (HL.take (j + 1)) = (0, 13)) := Hw.out.trans (if_pos hag)
              have Hr2 : Hid (rowP age now (HL.take (j + 1)) = Q) := Hr.out.trans (if_pos hag)
              clear hag hgt
              go_wp2_with fail
              go_roundw
              case rel => exact ⟨j + 1, by omega, by go_num, hall2, by rw [Hr2.out]; exact HoW, by rw [Hw2.out], by rw [Hw2.out], HbW⟩
              case measure => simp [intOf]; omega
            · skip
              have hd5 : decide (now - ya > age) = false := decide_eq_false hag
              have Hw2 : Hid (wantP age now (HL.take (j + 1)) = (yv, 0)) := Hw.out.trans (if_neg hag)
              have Hr2 : Hid (rowP age now (HL.take (j + 1)) = Q ++ [⟨ya, yv⟩]) := Hr.out.trans (if_neg hag)
              clear hag hgt
              go_wp2_with ((with_reducible refine at_slot 50 ?_); go_must (refine wpList_buildSlice rfl 42 1 [(0, _)] rfl [(0, .agg #[.int .i64 ya, .int .i64 yv])] rfl _ _ (oneSm ya yv) ?_; refine wpList_append_new elemSmR rfl _ _ rfl w1.heap.size u11 Q.length (Q.flatMap Sm.cells) rfl (HoW.out.alloc _) (by simp; omega) _ _ rfl (heap_alloc_new _ _) rfl (by simp [Value.oneCell']) (by unfold maxLen; omega) (by omega) ?_; intro g' cap' w' ho' hg' hn'; have HO' := Lib.hid ho'; have HG' := Lib.hid hg'; clear ho' hg' hn'))
              have hB9 : Hid (Below w1.heap.size w1 w') := (HbW.out.alloc hsW _).grown HG'.out (by simp; omega) (fun q hq => (World.ownsRow.lt HoW.out q hq).1)
              have O9 : Hid (OwnSm w' w1.heap.size (.slice (some ⟨g', 0, none⟩) (Q.length + 1) cap') (Q ++ [⟨ya, yv⟩])) := by
                show w'.ownsRow _ _ _ _ _ _
                rw [List.length_append, List.flatMap_append]
                exact HO'.out
              go_roundw
              case rel => exact ⟨.slice (some ⟨g', 0, none⟩) (Q.length + 1) cap', .int .i64 yv, .int .i64 0, .pointer (some ⟨wq.heap.size, 0, none⟩), .int .i64 ((j : Int) + 1), ⟨j + 1, by omega, by go_num, hall2, by rw [Hr2.out]; exact O9, by rw [Hw2.out], by rw [Hw2.out], hB9⟩, rfl, rfl, rfl, rfl, rfl⟩
              case measure => simp [intOf]; omega
        · obtain rfl : j = ln := by omega
          have HE := Lib.hid (endP_of (now := now) Hri.out (k := j) (by have := Hln.out; omega) hall.out (fun h => by have := Hln.out; omega))
          have ho' := ho
          have hb' := hb
          go_wp2_with fail
          go_meet
          case rel => exact ⟨HL.take j, HE.out, ho', rfl, rfl, hrl, hb'⟩
  case rest =>
    obtain ⟨P, hE, ho, rfl, rfl, hr32, hb⟩ := hcut
    obtain ⟨wx, rfl⟩ : ∃ wx : World, wx = wc := ⟨_, rfl⟩
    have hNx : Below N w wx := HB1w.out.trans (hb.out.mono (by omega))
    have hWx : Below W.heap.size W wx := Hb1.out.trans (hb.out.mono Hb1.out.size)
    have x0 := Below.cell_some hWx HB0.out
    have x1 := Below.cell_some hWx HB1.out
    have hzx : N + 1 ≤ wx.heap.size := by have := hb.out.size; omega
    have hF := HF.out wx hNx
    rw [hE.out.fresh age] at hF
    have hRw : ∀ wy, Below N w wy → _ := fun wy h => HRw.out wy h
    rw [hE.out.row age] at hRw
    obtain ⟨R, hR⟩ : ∃ R, rowP age now P = R := ⟨_, rfl⟩
    rw [hR] at ho hr32 hRw
    obtain ⟨pa, hpa⟩ : ∃ q, (wantP age now P).1 = q := ⟨_, rfl⟩
    obtain ⟨pb, hpb⟩ : ∃ q, (wantP age now P).2 = q := ⟨_, rfl⟩
    rw [hpa, hpb] at hF ⊢
    obtain ⟨ro, rc, rfl, hSr⟩ := ho.out.reads
    have HSr := Lib.hid hSr
    have HF2 := Lib.hid hF
    have HR2 := Lib.hid hRw
    have HNx := Lib.hid hNx
    have Hx0 := Lib.hid x0
    have Hx1 := Lib.hid x1
    clear hF hRw hR hpa hpb hSr ho hE hb hNx hWx HF HRw HAt HNo
    go_wp2_with fail
    refine HF2.out.mono ?_
    rintro e w2 ⟨rfl, hb2⟩
    have HN2 : Hid (Below N w w2) := HNx.out.trans (hb2.mono (by omega))
    have Hb2 := Lib.hid hb2
    have y0 := Below.cell_some hb2 Hx0.out
    have y1 := Below.cell_some hb2 Hx1.out
    have hz2 : N + 1 ≤ w2.heap.size := by have := hb2.size; omega
    clear hb2 x0 x1
    go_wp2_with fail
    refine (HR2.out w2 HN2.out).mono ?_
    rintro e w3 ⟨qo, qc, rfl, hS3, hb3⟩
    have HN3 : Hid (Below N w w3) := HN2.out.trans (hb3.mono (by omega))
    have HSq := Lib.hid hS3
    have HSr3 := Lib.hid (HSr.out.flatKeeps (Keeps.below (Hb2.out.trans (hb3.mono Hb2.out.size))))
    obtain ⟨rn, hrn⟩ : ∃ q, R.length = q := ⟨_, rfl⟩
    have hz3 : N + 1 ≤ w3.heap.size := by have := hb3.size; omega
    rw [hrn] at hr32 HSq HSr3 ⊢
    have Hrn := Lib.hid hrn
    have q1 := HSq.out.hcap
    have q2 := HSq.out.hmax
    have q3 := HSr3.out.hcap
    have q4 := HSr3.out.hmax
    unfold maxLen at q2 q4
    clear hS3 hb3 hrn y0 y1 HSr
    go_wp2_with fail
    go_loopw [81] (fun i wr => ∃ k : Nat, k ≤ rn ∧ i = .int .i64 k ∧ Hid (Below w3.heap.size w3 wr)) (fun i _ => rn - (intOf i).toNat)
    case atStart => exact ⟨0, Nat.zero_le _, rfl, Below.refl _ _⟩
    case round =>
      obtain ⟨k, hk, rfl, hb⟩ := hrel
      obtain ⟨wq, rfl⟩ : ∃ wq : World, wq = wr := ⟨_, rfl⟩
      by_cases hlt : k < rn
      · have hSa := HSq.out.flatKeeps (Keeps.below hb.out)
        have hSb := HSr3.out.flatKeeps (Keeps.below hb.out)
        obtain ⟨ga, oa, rfl⟩ := hSa.ptr (by decide) (by omega)
        obtain ⟨gb, ob, rfl⟩ := hSb.ptr (by decide) (by omega)
        have kx : k < R.length := by have := Hrn.out; omega
        have d0 := hSa.flat kx 0 _ rfl
        have d1 := hSa.flat kx 1 _ rfl
        have e0 := hSb.flat kx 0 _ rfl
        have e1 := hSb.flat kx 1 _ rfl
        rw [Nat.add_zero] at d0 e0
        obtain ⟨y, hy⟩ : ∃ y, R[k] = y := ⟨_, rfl⟩
        rw [hy] at d0 d1 e0 e1
        obtain ⟨ya, yv⟩ := y
        dsimp only at d0 d1 e0 e1
        clear hSa hSb hy kx
        go_wp2_with fail
        go_quiet (fail)
        go_wp2_with fail
        go_roundw
        case rel => exact ⟨k + 1, by omega, by go_num, drewN_below hb.out _⟩
        case measure => simp [intOf]; omega
      · obtain rfl : k = rn := by omega
        go_wp2_with fail
        go_ret
        exact ⟨rfl, HN3.out.trans (hb.out.mono (by omega))⟩
end Go.Proofs.Ytoamjihchmokcaa
