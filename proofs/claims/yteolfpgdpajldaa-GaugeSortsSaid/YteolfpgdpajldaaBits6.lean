/- The contract of the reference's Div on numbers in bits. Condition: the rows read, the divisor is not 0. -/
import Derived.Test.YteolfpgdpajldaaBitsMk
import Derived.Test.YteolfpgdpajldaaCells
namespace Go.Proofs.Yteolfpgdpajldaa
open Go.ChangeShapes Go.WideShapes Go.ChangeAt Go.RowKit Go.Deep

theorem wpList_append_many' {P : Program} {ops : Array Oper} {rest : List Oper} {o : Oper} {a : Act} {w : World} {Q : Exit → Act → World → Prop} {t e : TypeId} {size bytes : Nat} (E : ElemOK P t e size bytes)
    (hgd : o.guard = none) (s x : Operand) (ho : o.op = .call { callee := .builtin .append, args := #[s, x], argTypes := #[t, t] })
    (B : Nat) (v : Value) (n : Nat) (xs : List Value) (hs : a.eval s = v) (hown : w.ownsRow B e size v n xs) (hB : B ≤ w.heap.size)
    (ad : Addr) (m c : Nat) (news : List Value) (hx : a.eval x = .slice (some ad) m c) (hl : news.length = m * size) (hnews : ∀ j u, news[j]? = some u → w.cell? (ad.add j) = some u) (h1 : ∀ u ∈ news, u.oneCell' = true)
    (h63 : n + m ≤ maxLen) (hbytes : (n + m) * bytes ≤ 140737488355328)
    (h : ∀ v' w', w'.ownsRow B e size v' (n + m) (xs ++ news) → w.grownBy w' v.ownBlock → wpList P ops Q rest (a.put o.dst v') w') : wpList P ops Q (o :: rest) a w := by
  obtain ⟨i, z, hi, hz, h2, h3, h4⟩ := E.info
  exact wpList_append_own _ hgd s x t ho B e i z size bytes E.under hi hz h2 h3 h4 E.pos v n xs hs hown ad m c news hx hl hnews h1 h63 hbytes hB fun v' w' h1 h2 _ => h v' w' h1 h2

theorem bitC_one (l : List Nat) : ∀ u ∈ l.flatMap bitC, u.oneCell' = true := by
  intro u hu
  obtain ⟨d, _, hd⟩ := List.mem_flatMap.1 hu
  rw [List.mem_singleton.1 hd]
  rfl

theorem BitsAt.cells {w : World} {a : Addr} {len cap : Nat} {l : List Nat} (h : BitsAt w (some a) len cap l) (j : Nat) (u : Value) (hu : (l.flatMap bitC)[j]? = some u) : w.cell? (a.add j) = some u := by
  have e : ∀ m : List Nat, m.flatMap bitC = m.map fun (d : Nat) => Value.int .u8 (d : Int) := fun m => by
    induction m with
    | nil => rfl
    | cons x m ih => rw [List.flatMap_cons, ih]; rfl
  rw [e, List.getElem?_map] at hu
  obtain ⟨d, hd, rfl⟩ := Option.map_eq_some_iff.1 hu
  obtain ⟨hj, rfl⟩ := List.getElem?_eq_some_iff.1 hd
  obtain ⟨c, h1, h2, h3⟩ := h.read.hat a rfl j hj
  have h4 := h2 0 (.int .u8 (l[j] : Int)) (by rw [show c = _ from h3]; rfl)
  rw [Nat.mul_one, Nat.add_zero] at h4
  exact h4

/-- A store into another block. -/
theorem BitsAt.keeps' {w : World} {a : Addr} {len cap : Nat} {l : List Nat} (h : BitsAt w (some a) len cap l) {B g j : Nat} {u : Value} (hB : B ≤ a.block) (hg : g < B) : BitsAt (w.setCell ⟨g, j, none⟩ u) (some a) len cap l := by
  refine ⟨⟨h.read.hlen, h.read.hcap, h.read.hmax, h.read.hnil, fun a' ha i hi => ?_⟩, h.bin⟩
  obtain rfl := Option.some.inj ha
  obtain ⟨c, h1, h2, h3⟩ := h.read.hat a rfl i hi
  refine ⟨c, h1, fun q v hv => ?_, h3⟩
  rw [World.cell?_setCell_other _ _ _ _ (fun e => ?_)]
  · exact h2 q v hv
  · have := congrArg Addr.block e
    have hbl : (a.add (i * 1 + q)).block = a.block := by unfold Addr.add; split <;> rfl
    rw [hbl] at this
    have : g = a.block := this
    omega

theorem bits_map (m : List Nat) : m.flatMap bitC = m.map fun (d : Nat) => Value.int .u8 (d : Int) := by
  induction m with
  | nil => rfl
  | cons x m ih => rw [List.flatMap_cons, ih]; rfl

theorem bits_set (qs : List Nat) (j : Nat) : ((qs.flatMap bitC).toArray.setIfInBounds j (Value.int .u8 1)) = ((qs.set j 1).flatMap bitC).toArray := by
  rw [bits_map, bits_map, List.map_set]
  simp

/-- What the division bears at a round's head. -/
structure DivInv (na nb k r : Nat) (qs : List Nat) : Prop where
  bin : Bin qs
  low : ∀ j, j < k → qs.getD j 0 = 0
  eq : bval ((bitsOf na).drop k) = nb * bval (qs.drop k) + r
  lt : r < nb

theorem DivInv.stay {na nb j r d : Nat} {qs : List Nat} (h : DivInv na nb (j + 1) r qs) (hd : (bitsOf na).getD j 0 = d) (hlt : d + 2 * r < nb) : DivInv na nb j (d + 2 * r) qs := by
  refine ⟨h.bin, fun i hi => h.low i (by omega), ?_, hlt⟩
  rw [bval_drop, bval_drop qs j, h.eq, hd, h.low j (by omega), Nat.zero_add, Nat.mul_add, Nat.mul_left_comm nb 2]
  omega

theorem DivInv.put {na nb j r d : Nat} {qs : List Nat} (h : DivInv na nb (j + 1) r qs) (hd : (bitsOf na).getD j 0 = d) (hd2 : d < 2) (hj : j < qs.length) (hge : nb ≤ d + 2 * r) : DivInv na nb j (d + 2 * r - nb) (qs.set j 1) := by
  have hlt := h.lt
  refine ⟨?_, fun i hi => ?_, ?_, by omega⟩
  · intro x hx
    rcases List.mem_or_eq_of_mem_set hx with hx | rfl
    · exact h.bin x hx
    · omega
  · have := h.low i (by omega)
    simp only [List.getD, List.getElem?_set_ne (show j ≠ i by omega)] at this ⊢
    exact this
  · have e1 : (qs.set j 1).getD j 0 = 1 := by simp [List.getD, hj]
    have e2 : (qs.set j 1).drop (j + 1) = qs.drop (j + 1) := by rw [List.drop_set_of_lt (by omega)]
    rw [bval_drop, bval_drop (qs.set j 1) j, e1, e2, h.eq, hd, Nat.mul_add, Nat.mul_add, Nat.mul_left_comm nb 2, Nat.mul_one]
    omega

set_option maxRecDepth 100000 in
set_option maxHeartbeats 4000000 in
theorem div_num (v u : Value) (na nb : Nat) (w : World) (hv : NumAt w v na) (hu : NumAt w u nb) (h1 : blen na ≤ 10000) (h2 : blen nb ≤ 10000) (h0 : 0 < nb) :
    Calls Try.prog 22 #[v, u] w fun e w' => (∃ q r, e = .returned (.tuple #[q, r]) ∧ NumAt w' q (na / nb) ∧ NumAt w' r (na % nb)) ∧ Below w.heap.size w w' := by
  obtain ⟨a, la, ca, rfl, hA⟩ := hv
  have c1 := hA.read.hmax; have c2 := hA.read.hcap
  have hla : la ≤ 10000 := by rw [← hA.read.hlen]; exact h1
  unfold maxLen at c1
  have HA := Lib.hid hA
  have HU := Lib.hid hu
  have H0 := Lib.hid h0
  have H2 := Lib.hid h2
  have Hln := Lib.hid hA.read.hlen
  obtain ⟨i0, hi, hz0, hz1, hz2⟩ := info_parts infoByte
  have hi' := Lib.hid hi
  have hz0' := Lib.hid hz0
  have hz1' := Lib.hid hz1
  have hz2' := Lib.hid hz2
  clear hA hu h0 h2 hi hz0 hz1 hz2 h1
  go_enter Try.func22, Try.ntmps22
  go_wp2_with (at_make; go_must (refine wpList_make_full _ rfl _ _ 44 rfl w.heap.size 5 i0 (.int .u8 0) 1 Try.underlying44 hi'.out hz0'.out hz1'.out .i64 .i64 la la la rfl rfl rfl rfl (by rw [hz2'.out]; omega) (by unfold maxLen; omega) (Nat.le_refl _) ?_; intro w1 hown1 hg1; have Hown1 := Lib.hid hown1; have Hg1 := Lib.hid hg1; clear hown1 hg1))
  have hrow : ∃ cur : List Nat, cur = List.replicate la 0 ∧ w1.heap[w.heap.size]? = some (.cells (cur.flatMap bitC).toArray 5 (0, 0)) := by
    obtain ⟨_, _, _, rest, hr, hl⟩ := owns_row Hown1.out
    have hlen : ((madeCells (Value.int .u8 0).cells (la * 1)).toList).length = la * 1 := by simp [size_madeCells]
    have hnil : rest = [] := by
      rw [List.length_append, hlen] at hl
      exact List.eq_nil_of_length_eq_zero (by omega)
    subst hnil
    exact ⟨_, rfl, by rw [hr, List.append_nil, made_bits]⟩
  obtain ⟨qs0, hq0, hrow0⟩ := hrow
  have Hq0 := Lib.hid hq0
  have Hrow0 := Lib.hid hrow0
  have hgs := Hg1.out.size
  clear hq0 hrow0
  go_loopw [7, 8] (fun s7 s8 wr => ∃ (k r : Nat) (qs : List Nat), k ≤ la ∧ s8 = .int .i64 ((k : Int) - 1) ∧ Hid (NumAt wr s7 r) ∧ Hid (qs.length = la ∧ DivInv na nb k r qs) ∧ Hid (wr.heap[w.heap.size]? = some (.cells (qs.flatMap bitC).toArray 5 (0, 0))) ∧ Below w.heap.size w wr) (fun _ s8 _ => (intOf s8 + 1).toNat)
  case atStart =>
    refine ⟨la, 0, qs0, Nat.le_refl _, rfl, ?_, ⟨by rw [Hq0.out]; simp, ?_⟩, ?_, ?_⟩
    · obtain ⟨ao, cap, hv, hR⟩ := ownsRow_bits (l := []) (empty_owns w1) rfl (fun d hd => by cases hd) (by simp)
      exact ⟨ao, 0, cap, hv, by rw [bitsOf_zero]; exact hR⟩
    · rw [Hq0.out]
      refine ⟨fun d hd => by rw [(List.mem_replicate.1 hd).2]; omega, fun j hj => by simp [List.getD, hj], ?_, H0.out⟩
      rw [List.drop_eq_nil_of_le (by rw [Hln.out]; omega), List.drop_eq_nil_of_le (by simp)]
      rfl
    · exact (Below.heap_alloc w1 _ _ (Array.getElem?_eq_some_iff.1 Hrow0.out).1).trans Hrow0.out
    · exact ((Below.refl _ w).grown Hg1.out (Nat.le_refl _) (fun _ h => by cases h)).alloc hgs _
  case round =>
    obtain ⟨k, r, qs, hk, rfl, hN, hI, hrow, hb⟩ := hrel
    cases k with
    | zero =>
      rw [show (((0 : Nat) : Int) - 1) = -1 from rfl]
      have hq : wr.ownsRow w.heap.size 5 1 (.slice (some ⟨w.heap.size, 0, none⟩) la la) la (qs.flatMap bitC) :=
        owns_of_row (rest := []) (Nat.le_refl _) (Nat.le_refl _) (by unfold maxLen; omega) (by rw [List.append_nil]; exact hrow.out) (by rw [flatMap_len (fun _ => rfl : ∀ d, (bitC d).length = 1), hI.out.1]) (by rw [List.append_nil, flatMap_len (fun _ => rfl : ∀ d, (bitC d).length = 1), hI.out.1])
      obtain ⟨ao, cap, hv, hR⟩ := ownsRow_bits hq hI.out.1 hI.out.2.bin (by simp)
      cases hv
      have HT := Lib.hid (trim_any qs _ la la wr hR)
      have HRR := Lib.hid hR
      have Hb := Lib.hid hb
      clear hq hR hb
      go_wp2_with fail
      refine HT.out.mono ?_
      rintro e w' ⟨⟨k, rfl, hk, hkk⟩, rfl⟩
      have Hkk := Lib.hid hkk
      clear hkk
      go_wp2_with fail
      go_ret2
      have he := hI.out.2.eq
      rw [List.drop_zero, List.drop_zero, bval_bitsOf] at he
      have hlt := hI.out.2.lt
      have e1 : na / nb = bval qs := by
        rw [he, Nat.mul_add_div H0.out, Nat.div_eq_of_lt hlt, Nat.add_zero]
      have e2 : na % nb = r := by
        rw [he, Nat.mul_add_mod, Nat.mod_eq_of_lt hlt]
      rw [e1, e2]
      exact ⟨⟨_, _, rfl, ⟨_, k, la, rfl, by rw [← Hkk.out]; exact HRR.out.take hk⟩, hN.out⟩, Hb.out⟩
    | succ j =>
      rw [show (((j + 1 : Nat) : Int) - 1) = (j : Int) from by omega]
      obtain ⟨b, off, hbo⟩ := HA.out.read.ptr (by decide) (by omega)
      obtain rfl := Option.some.inj hbo
      have c := (HA.out.below hb).cell (i := j) (by omega)
      have hd2 := HA.out.bin.getD j
      obtain ⟨d, hd⟩ : ∃ d, (bitsOf na).getD j 0 = d := ⟨_, rfl⟩
      rw [hd] at c hd2
      have HD := Lib.hid hd
      obtain ⟨ra, rl, rc, rfl, hR⟩ := hN.out
      have hrl : rl ≤ 10000 := by
        have h3 := blen_mono (Nat.le_of_lt hI.out.2.lt)
        have h4 := hR.read.hlen
        have h5 := H2.out
        unfold blen at h3 h5
        omega
      have HR := Lib.hid (hR.below ((Below.refl _ wr).alloc (Nat.le_refl _) (.cells #[.int .u8 (d : Int)] 5)))
      have hq1 := (Array.getElem?_eq_some_iff.1 hrow.out).1
      have hbz := hb.size
      have Hb := Lib.hid hb
      clear hd hR hb
      go_wp2_with (at_builtin; go_must (refine wpList_append_many' elemByte rfl (.tmp 24) (.tmp 25) rfl w.heap.size (.slice (some ⟨wr.heap.size, 0, none⟩) 1 1) 1 [.int .u8 (d : Int)] rfl (owns_of_row (rest := []) hbz (Nat.le_refl _) (by decide) (heap_alloc_new wr _) rfl rfl) (by rw [World.size_alloc]; omega) ra rl rc ((bitsOf r).flatMap bitC) rfl (by rw [flatMap_len (fun _ => rfl : ∀ d, (bitC d).length = 1), HR.out.read.hlen]) HR.out.cells (bitC_one _) (by unfold maxLen; omega) (by omega) ?_); intro v1 w2 hown2 hg2; have Hown2 := Lib.hid hown2; have Hg2 := Lib.hid hg2; clear hown2 hg2)
      have hbinr : Bin (d :: bitsOf r) := fun x hx => by
        rcases List.mem_cons.1 hx with rfl | hx
        · exact hd2
        · exact bin_bitsOf r x hx
      obtain ⟨a2, cap2, hv2, hR2⟩ := ownsRow_bits (l := d :: bitsOf r) Hown2.out (by have := HR.out.read.hlen; simp; omega) hbinr (owns_some Hown2.out (by omega))
      subst hv2
      have HT := Lib.hid (trim_any _ _ _ cap2 w2 hR2)
      have HR2 := Lib.hid hR2
      have hb2 : Below w.heap.size w w2 := (Hb.out.alloc hbz _).grown Hg2.out (by rw [World.size_alloc]; omega) (fun q hq => by cases hq; exact hbz)
      have Hrow2 : Hid (w2.heap[w.heap.size]? = some (.cells (qs.flatMap bitC).toArray 5 (0, 0))) := (Hg2.out.block w.heap.size (by rw [World.size_alloc]; omega) (by simp [Value.ownBlock]; omega)).trans ((Below.heap_alloc wr _ _ hq1).trans hrow.out)
      have Hb2 := Lib.hid hb2
      have hq2 := (Array.getElem?_eq_some_iff.1 Hrow2.out).1
      clear hR2 hb2
      go_wp2_with fail
      refine HT.out.mono ?_
      rintro e w3 ⟨⟨k2, rfl, hk2, hkk⟩, rfl⟩
      have HN2 : Hid (NumAt w2 (.slice (some a2) k2 cap2) (d + 2 * r)) := ⟨a2, k2, cap2, rfl, by
        have h3 := HR2.out.take hk2
        rw [hkk] at h3
        have e3 : bval (d :: bitsOf r) = d + 2 * r := by rw [bval, bval_bitsOf]
        rw [e3] at h3
        exact h3⟩
      have hbl2 : blen (d + 2 * r) ≤ 100000 := by
        have h3 := blen_mono (Nat.le_of_lt hI.out.2.lt)
        have h4 := blen_add r r 10000 (by have := H2.out; omega) (by have := H2.out; omega)
        have h5 := blen_add (r + r) d 10001 h4 (by have := blen_le (n := d) (k := 1) (by omega); omega)
        rw [show d + 2 * r = r + r + d from by omega]
        omega
      have HC := Lib.hid (cmp_num _ _ _ _ w2 HN2.out (HU.out.below Hb2.out) hbl2 (by have := H2.out; omega))
      have Hbl2 := Lib.hid hbl2
      clear hkk hbl2
      go_wp2_with fail
      refine HC.out.mono ?_
      rintro e w3 ⟨he, rfl⟩
      by_cases hge : nb ≤ d + 2 * r
      · have hcc : ∃ cc : Int, cmpN (d + 2 * r) nb = cc ∧ 0 ≤ cc := by
          unfold cmpN
          by_cases h : nb < d + 2 * r
          · rw [if_pos h]; exact ⟨_, rfl, by decide⟩
          · rw [if_neg h, if_neg (by omega)]; exact ⟨_, rfl, by decide⟩
        obtain ⟨cc, hcc1, hcc2⟩ := hcc
        rw [hcc1] at he
        subst he
        have HS := Lib.hid (sub_num _ _ _ _ w2 HN2.out (HU.out.below Hb2.out) Hbl2.out hge)
        have HI2 := Lib.hid (hI.out.2.put HD.out hd2 (by rw [hI.out.1]; omega) hge)
        clear hcc1 hge
        go_wp2_with fail
        refine HS.out.mono ?_
        rintro e w3 ⟨⟨v3, rfl, hN3⟩, hb3⟩
        have hrow3 := (hb3.block w.heap.size hq2).trans Hrow2.out
        have hcq : w3.cell? ⟨w.heap.size, j, none⟩ = some (.int .u8 0) := by
          rw [cell_of_row w3 w.heap.size j _ _ _ hrow3, bits_map]
          have h3 := hI.out.2.low j (by omega)
          have h4 : j < qs.length := by rw [hI.out.1]; omega
          rw [getD_in h4] at h3
          simp [h4, h3]
        have zq := row_free hrow3
        have Hrow4 := Lib.hid (row_setCell (i := j) hrow3 (.int .u8 1))
        rw [bits_set] at Hrow4
        have hq3 := (Array.getElem?_eq_some_iff.1 hrow3).1
        have HN3 := Lib.hid hN3
        have Hb3 := Lib.hid ((Hb2.out.trans (hb3.mono Hb2.out.size)).setCell (p := ⟨w.heap.size, j, none⟩) (Nat.le_refl _) (.int .u8 1))
        have hns : Hid (NumAt (w3.setCell ⟨w.heap.size, j, none⟩ (.int .u8 1)) v3 (d + 2 * r - nb)) := by
          obtain ⟨a3, l3, cp3, hv3, hB3, hbs3⟩ := hN3
          refine ⟨a3, l3, cp3, hv3, hB3.keeps' hbs3 (by omega)⟩
        clear hrow3 hN3 hb3
        go_wp2_with fail
        go_roundw
        case rel => exact ⟨j, d + 2 * r - nb, qs.set j 1, by omega, rfl, hns.out, ⟨by simp [hI.out.1], HI2.out⟩, Hrow4.out, Hb3.out⟩
        case measure => simp [intOf]
      · have hcc : cmpN (d + 2 * r) nb = -1 := by unfold cmpN; rw [if_neg (by omega), if_pos (by omega)]
        rw [hcc] at he
        subst he
        have HI2 := Lib.hid (hI.out.2.stay HD.out (by omega))
        clear hge hcc
        go_wp2_with fail
        go_roundw
        case rel => exact ⟨j, d + 2 * r, qs, by omega, rfl, HN2.out, ⟨hI.out.1, HI2.out⟩, Hrow2.out, Hb2.out⟩
        case measure => simp [intOf]
end Go.Proofs.Yteolfpgdpajldaa
