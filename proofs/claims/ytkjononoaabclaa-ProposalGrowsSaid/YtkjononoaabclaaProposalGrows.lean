/- ProposalGrows holds: for every input the law returns true. No condition. -/
import Derived.Test.YtkjononoaabclaaProposalGrowsLift
import Derived.Test.YtkjononoaabclaaProp5
namespace Go.Proofs.Ytkjononoaabclaa
open Go.ChangeShapes Go.WideShapes Go.ChangeAt Go.RowKit Go.Deep

theorem wpList_append_many {P : Program} {ops : Array Oper} {rest : List Oper} {o : Oper} {a : Act} {w : World} {Q : Exit → Act → World → Prop} {t e : TypeId} {size bytes : Nat} (E : ElemOK P t e size bytes)
    (hgd : o.guard = none) (s x : Operand) (ho : o.op = .call { callee := .builtin .append, args := #[s, x], argTypes := #[t, t] })
    (B : Nat) (v : Value) (n : Nat) (xs : List Value) (hs : a.eval s = v) (hown : w.ownsRow B e size v n xs) (hB : B ≤ w.heap.size)
    (ad : Addr) (m c : Nat) (news : List Value) (hx : a.eval x = .slice (some ad) m c) (hl : news.length = m * size) (hnews : ∀ j u, news[j]? = some u → w.cell? (ad.add j) = some u) (h1 : news.all (fun u => u.oneCell') = true)
    (h63 : n + m ≤ maxLen) (hbytes : (n + m) * bytes ≤ 140737488355328)
    (h : ∀ v' w', w'.ownsRow B e size v' (n + m) (xs ++ news) → w.grownBy w' v.ownBlock → wpList P ops Q rest (a.put o.dst v') w') : wpList P ops Q (o :: rest) a w := by
  obtain ⟨i, z, hi, hz, h2, h3, h4⟩ := E.info
  exact wpList_append_own _ hgd s x t ho B e i z size bytes E.under hi hz h2 h3 h4 E.pos v n xs hs hown ad m c news hx hl hnews (List.all_eq_true.1 h1) h63 hbytes hB fun v' w' h1 h2 _ => h v' w' h1 h2

theorem zeroUses (w : World) : (Instr.buildSlice 25 0 (([] : List (Nat × Value))).toArray).run Try.prog w = .ok (.slice (some ⟨w.heap.size, 0, none⟩) 0 0) (w.alloc (.cells #[] 30)) := by kernel_rfl

/-- All cells of a slice, one behind the other. -/
theorem SlR.all {α : Type} {f : α → List Value} {sz : Nat} {w : World} {b off : Nat} {n cap : Nat} {xs : List α} (hf : ∀ x, (f x).length = sz) (hsz : 0 < sz) (h : SlR (Flat f) sz w (some ⟨b, off, none⟩) n cap xs) :
    ∀ j u, (xs.flatMap f)[j]? = some u → w.cell? ((⟨b, off, none⟩ : Addr).add j) = some u := by
  intro j u hj
  have hlt := (List.getElem?_eq_some_iff.1 hj).1
  rw [flatMap_len hf] at hlt
  have hi : j / sz < xs.length := by rw [Nat.div_lt_iff_lt_mul hsz]; exact hlt
  have hr := Nat.mod_lt j hsz
  have e : j / sz * sz + j % sz = j := by rw [Nat.mul_comm]; exact Nat.div_add_mod j sz
  have h2 := flatMap_get hf xs (j / sz) (j % sz) hi hr
  rw [e, hj] at h2
  have h3 := h.flat hi (j % sz) u h2.symm
  rw [Nat.add_assoc, e] at h3
  rw [Addr.add_lit]
  exact h3

theorem use_set (y : Int) : ∀ (l : List UseI) (i : Nat) (h : i < l.length), (l.flatMap UseI.cells).set (i * 5 + 4) (.int .i64 y) = (l.set i { l[i] with use := y }).flatMap UseI.cells
  | x :: l, 0, _ => rfl
  | x :: l, i + 1, h => by
    have e := use_set y l i (by simpa using h)
    have hl : x.cells.length = 5 := rfl
    rw [List.flatMap_cons, List.set_append_right _ _ (by rw [hl]; omega), hl, show (i + 1) * 5 + 4 - 5 = i * 5 + 4 by omega, e]
    rfl

theorem uses_one : ∀ (l : List UseI), (l.flatMap UseI.cells).all (fun u => u.oneCell') = true
  | [] => rfl
  | x :: l => by rw [List.flatMap_cons, List.all_append, uses_one l]; rfl

/-- The law, of the answers. -/
theorem rowF_grows {kind target rep tol n e w f d : Int} {l : List UseI} {i : Nat} (hi : i < l.length) (hd : 0 ≤ d) (h : rowF kind target l rep tol = (n, e)) (h' : rowF kind target (l.set i { l[i] with use := l[i].use + d }) rep tol = (w, f)) (he : e = 0) (hf : f = 0) : n ≤ w := by
  subst he hf
  unfold rowF at h h'
  split at h
  · simp at h
  · rename_i hc
    split at h'
    · simp at h'
    · have hr : rightP target rep tol = true := by
        cases hq : rightP target rep tol
        · exact absurd (.inr hq) hc
        · rfl
      obtain ⟨_, _, ht, _⟩ := rightP_yes hr
      refine rowI_grows hi (of_decide_eq_true ht).1 (fun x hx => ?_) hd h h'
      have hb : badUse x = false := by
        cases hq : badUse x
        · rfl
        · exact absurd (.inl (List.any_eq_true.2 ⟨x, hx, hq⟩)) hc
      unfold badUse at hb
      simp only [Bool.or_eq_false_iff, Bool.not_eq_false'] at hb
      exact (of_decide_eq_true hb.1).1

set_option maxRecDepth 100000 in
set_option maxHeartbeats 4000000 in
theorem proposalGrows_core (kind target at_ more rep tol : Int) (nm : ByteArray) (l : List UseI) (ao : Option Addr) (n cap : Nat) (w : World) (hS : SlR (Flat UseI.cells) 5 w ao n cap l) (hmore : 0 ≤ more ∧ more ≤ 4294967295) :
    Calls Try.prog 3 #[.agg #[.int .i64 kind, .string nm, .int .i64 target], .slice ao n cap, .int .i64 at_, .int .u32 more, .int .i64 rep, .int .i64 tol] w fun e w' => e = .returned (.bool true) ∧ Below w.heap.size w w' := by
  have hlen := hS.hlen
  have hcm := hS.hmax
  have hlc := hS.hcap
  unfold maxLen at hcm
  have hb0 : Below w.heap.size w (w.alloc (.cells #[.int .i64 kind, .string nm, .int .i64 target] 24)) := (Below.refl _ _).alloc (Nat.le_refl _) _
  go_enter Try.func3, Try.ntmps3
  go_wp2_with fail
  refine (lives20 _).mono ?_
  rintro e w1 ⟨rfl, hb1⟩
  have hm1 := (hb1.block w.heap.size (by simp)).trans (heap_alloc_new w _)
  have H1 : Hid (Below w.heap.size w w1) := hb0.trans (hb1.mono (by simp))
  have hs1 : w.heap.size < w1.heap.size := (Array.getElem?_eq_some_iff.1 hm1).1
  have HM1 := Lib.hid hm1
  clear hb1 hb0 hm1
  by_cases hbig : 60 < n ∨ n = 0
  · rcases hbig with hn | hn
    · have hd : decide ((60 : Int) < (n : Int)) = true := decide_eq_true (by omega)
      go_wp2_with fail
      refine (lives20 _).mono ?_
      rintro e w2 ⟨rfl, hb2⟩
      have H2 := Lib.hid (H1.out.trans (hb2.mono H1.out.size))
      clear hb2
      go_wp2_with fail
      go_ret
      exact ⟨rfl, H2.out⟩
    · subst hn
      go_wp2_with fail
      refine (lives20 _).mono ?_
      rintro e w2 ⟨rfl, hb2⟩
      have H2 := Lib.hid (H1.out.trans (hb2.mono H1.out.size))
      clear hb2
      go_wp2_with fail
      go_ret
      exact ⟨rfl, H2.out⟩
  · have hd : decide ((60 : Int) < (n : Int)) = false := decide_eq_false (by omega)
    have hn60 : n ≤ 60 := by omega
    have hn0 : 0 < n := by omega
    have hnb : ((n : Int) == 0) = false := by rw [beq_eq_false_iff_ne]; omega
    have hnz : ¬ n = 0 := by omega
    obtain ⟨a, ha⟩ : ∃ a : Nat, (a : Int) = IntKind.u64.wrap at_ := ⟨(IntKind.u64.wrap at_).toNat, by rw [IntKind.wrap_u64]; omega⟩
    have ha2 : a < 18446744073709551616 := by rw [IntKind.wrap_u64] at ha; omega
    have w1a : IntKind.u64.wrap at_ = (a : Int) := ha.symm
    have w2a : IntKind.u64.wrap (n : Int) = (n : Int) := u64w _ (by omega)
    have hml := Nat.mod_lt a hn0
    have r1 : (a : Int) % (n : Int) = ((a % n : Nat) : Int) := by simp
    have r2 : (a : Int).tmod (n : Int) = ((a % n : Nat) : Int) := rfl
    obtain ⟨i, hi⟩ : ∃ i, a % n = i := ⟨_, rfl⟩
    rw [hi] at hml r1 r2
    have w3a : IntKind.u64.wrap (i : Int) = (i : Int) := u64w _ (by omega)
    obtain ⟨b0, off, rfl⟩ := hS.ptr (by decide) hn0
    have hx : i < l.length := by omega
    have HS1 : Hid (SlR (Flat UseI.cells) 5 w1 (some ⟨b0, off, none⟩) n cap l) := hS.flatKeeps (Keeps.below H1.out)
    have c4 := HS1.out.flat hx 4 _ rfl
    have hb0w := blk (hS.flat hx 4 _ rfl)
    obtain ⟨u, hu⟩ : ∃ u, l[i].use = u := ⟨_, rfl⟩
    rw [hu] at c4
    have HU := Lib.hid hu
    have Ha2 := Lib.hid ha2
    clear ha hi hbig hS hu ha2
    by_cases hu0 : u < 0 ∨ 1125899906842624 < u
    · rcases (show u < 0 ∨ (0 ≤ u ∧ 1125899906842624 < u) by omega) with h | ⟨h, h2⟩
      · have hd1 : decide (u < 0) = true := decide_eq_true h
        clear hu0
        go_wp2_with fail
        go_ret
        exact ⟨rfl, H1.out⟩
      · have hd1 : decide (u < 0) = false := decide_eq_false (by omega)
        have hd2 : decide (1125899906842624 < u) = true := decide_eq_true h2
        clear hu0
        go_wp2_with fail
        go_ret
        exact ⟨rfl, H1.out⟩
    · have hd1 : decide (u < 0) = false := decide_eq_false (by omega)
      have hd2 : decide (1125899906842624 < u) = false := decide_eq_false (by omega)
      have wm : IntKind.i64.wrap more = more := IntWalk.i64_in _ (by omega)
      have wm2 : wrap64 more = more := IntWalk.wrap64_in _ (by omega)
      have wu : IntKind.i64.wrap (u + more) = u + more := IntWalk.i64_in _ (by omega)
      have wu2 : wrap64 (u + more) = u + more := IntWalk.wrap64_in _ (by omega)
      have HC := Lib.hid (SlR.all (f := UseI.cells) (sz := 5) (fun _ => rfl) (by decide) (HS1.out.flatKeeps (w' := w1.alloc (.cells #[] 30)) (Keeps.below ((Below.refl _ _).alloc (Nat.le_refl _) _))))
      have HL : Hid ((l.flatMap UseI.cells).length = n * 5) := (flatMap_len (f := UseI.cells) (sz := 5) (fun _ => rfl) l).trans (by rw [hlen])
      have HO := Lib.hid (uses_one l)
      clear hu0
      have hg5 : (l.flatMap UseI.cells)[i * 5 + 4]? = some (.int .i64 u) := by
        rw [flatMap_get (f := UseI.cells) (sz := 5) (fun _ => rfl) l i 4 hx (by decide), ← HU.out]
        rfl
      have HG5 := Lib.hid hg5
      clear hg5
      go_upto_region 8 with (first | ((with_reducible refine at_slot 52 ?_); go_must (refine wpList_buildSlice rfl 25 0 _ rfl [] rfl _ _ zeroUses ?_)) | ((with_reducible refine at_slot 54 ?_); go_must (refine wpList_append_many elemUse rfl _ _ rfl w1.heap.size _ 0 [] rfl (World.ownsRow_made w1 _ 0 (Nat.le_refl _) (by decide) rfl) (by rw [World.size_alloc]; omega) _ n _ (l.flatMap UseI.cells) rfl (by exact HL.out) (by exact HC.out) HO.out (by unfold maxLen; omega) (by omega) ?_; intro v2 w2 hown2 hgr2; rw [Nat.zero_add, List.nil_append] at hown2; obtain ⟨g, cap2, rfl, hg, hc1, hc2, hcell⟩ := owns_shape hown2 hn0; have k4 := hcell _ _ HG5.out; obtain ⟨_, _, _, rest2, hrow2, _⟩ := owns_row hown2; have z4 := row_free hrow2; have Hown2 := Lib.hid hown2; have Hgr2 := Lib.hid hgr2; clear hown2 hgr2 hcell hrow2)))
      have hB2 : Below w1.heap.size w1 w2 := ((Below.refl _ w1).alloc (Nat.le_refl _) (.cells #[] 30)).grown Hgr2.out (by rw [World.size_alloc]; omega) (fun k hk => by cases hk; exact Nat.le_refl _)
      have hB3 : Below w1.heap.size w1 (w2.setCell ⟨g, i * 5 + 4, none⟩ (.int .i64 (u + more))) := hB2.setCell hg _
      have hown3 := (Hown2.out.stored (i * 5 + 4) (.int .i64 (u + more))).1
      rw [use_set (u + more) l i hx] at hown3
      obtain ⟨w3, hw3⟩ : ∃ w3, w2.setCell ⟨g, i * 5 + 4, none⟩ (.int .i64 (u + more)) = w3 := ⟨_, rfl⟩
      rw [hw3] at hB3 hown3 ⊢
      have hl3 : (l.set i { l[i] with use := u + more }).length = n := by rw [List.length_set]; exact hlen
      obtain ⟨ao3, cap3, he3, hS3, _⟩ := SlR.of_owns (f := UseI.cells) (sz := 5) hown3 hl3 (fun _ => rfl)
      rw [he3]
      have H3 : Hid (Below w.heap.size w w3) := H1.out.trans (hB3.mono (Nat.le_of_lt hs1))
      have hm3 := (hB3.block w.heap.size hs1).trans HM1.out
      have m0 := cell_of_row w3 w.heap.size 0 _ _ _ hm3
      have m1 := cell_of_row w3 w.heap.size 1 _ _ _ hm3
      have m2 := cell_of_row w3 w.heap.size 2 _ _ _ hm3
      have HR1 := Lib.hid (row_any kind target rep tol nm l _ n cap w3 (HS1.out.flatKeeps (Keeps.below hB3)) (by omega))
      have HR2 := Lib.hid (fun (w4 : World) (hb : Below w3.heap.size w3 w4) => row_any kind target rep tol nm (l.set i { l[i] with use := u + more }) _ n cap3 w4 (hS3.flatKeeps (Keeps.below hb)) (by omega))
      have HGr := Lib.hid (fun (p q r s : Int) => rowF_grows (kind := kind) (target := target) (rep := rep) (tol := tol) (n := p) (e := q) (w := r) (f := s) (d := more) hx hmore.1)
      rw [HU.out] at HGr
      obtain ⟨⟨p, q⟩, hp⟩ : ∃ x, rowF kind target l rep tol = x := ⟨_, rfl⟩
      obtain ⟨⟨r, s⟩, hr⟩ : ∃ x, rowF kind target (l.set i { l[i] with use := u + more }) rep tol = x := ⟨_, rfl⟩
      rw [hp] at HR1 HGr
      rw [hr] at HR2 HGr
      dsimp only at HR1 HR2
      have HG2 : Hid (q = 0 → s = 0 → p ≤ r) := HGr.out p q r s rfl rfl
      have HM3 := Lib.hid hm3
      clear HGr hp hr hm3 hB2 hB3 hown3 hS3 k4 z4 hw3 hl3 c4
      go_wp2_with fail
      refine HR1.out.mono ?_
      rintro e w4 ⟨rfl, hb4⟩
      have hm4 := (hb4.block w.heap.size (Array.getElem?_eq_some_iff.1 HM3.out).1).trans HM3.out
      clear m0 m1 m2
      have m0 := cell_of_row w4 w.heap.size 0 _ _ _ hm4
      have m1 := cell_of_row w4 w.heap.size 1 _ _ _ hm4
      have m2 := cell_of_row w4 w.heap.size 2 _ _ _ hm4
      have HR3 := Lib.hid (HR2.out w4 hb4)
      have H4 := Lib.hid (H3.out.trans (hb4.mono H3.out.size))
      clear hm4 hb4
      go_wp2_with fail
      refine HR3.out.mono ?_
      rintro e w5 ⟨rfl, hb5⟩
      have H5 := Lib.hid (H4.out.trans (hb5.mono H4.out.size))
      clear hb5 m0 m1 m2
      by_cases hq : q = 0
      · subst hq
        by_cases hs : s = 0
        · subst hs
          have hle := HG2.out rfl rfl
          have hled : decide (p ≤ r) = true := decide_eq_true hle
          go_wp2_with fail
          go_ret
          exact ⟨by simp, H5.out⟩
        · have hsb : (s == 0) = false := by rw [beq_eq_false_iff_ne]; exact hs
          have hsb2 : (s != 0) = true := by simp [bne, hsb]
          go_wp2_with fail
          go_ret
          exact ⟨by simp, H5.out⟩
      · have hqb : (q == 0) = false := by rw [beq_eq_false_iff_ne]; exact hq
        have hqb2 : (q != 0) = true := by simp [bne, hqb]
        go_wp2_with fail
        go_ret
        exact ⟨by simp, H5.out⟩

theorem use_of (w : World) (c : List Value) (h : Rel (.pair .str (.pair .bool (.pair .bool (.pair (.int .i64) (.pair (.int .i64) .unit))))) w c) : ∃ x, Flat UseI.cells w x c := by
  obtain ⟨c1, c2, rfl, _, ⟨s, rfl, _⟩, c3, c4, rfl, _, ⟨b, rfl⟩, c5, c6, rfl, _, ⟨d, rfl⟩, c7, c8, rfl, _, ⟨m, rfl, _⟩, c9, c10, rfl, _, ⟨k, rfl, _⟩, rfl⟩ := h
  exact ⟨⟨s, b, d, m, k⟩, rfl⟩

theorem ProposalGrows_holds : Rows.ProposalGrowsSaid := lProposalGrows.over fun c0 a1 len1 cap1 n2 n3 n4 n5 w h0 h1 _ h3 _ _ => by
  obtain ⟨c1, c2, e1, _, ⟨kind, rfl, _⟩, c3, c4, rfl, _, ⟨nm, rfl, _⟩, c5, c6, rfl, _, ⟨target, rfl, _⟩, rfl⟩ := h0
  obtain ⟨_, _, _, l, e0, hL⟩ := SlR.of_rel (R := Flat UseI.cells) h1 (fun c hc => use_of w c hc)
  simp [Value.cells] at e0 e1
  obtain ⟨rfl, rfl, rfl⟩ := e0
  obtain ⟨x, hx, hxw⟩ := h3
  simp [Value.cells] at hx
  subst hx
  simp [Lit.wf, IntKind.min, IntKind.max, IntKind.signed, IntKind.bits] at hxw
  have hc0 : c0 = #[.int .i64 kind, .string nm, .int .i64 target] := by
    cases c0
    simpa using e1
  subst hc0
  exact proposalGrows_core kind target n2 n3 n4 n5 nm l _ _ _ w hL (by omega)
end Go.Proofs.Ytkjononoaabclaa
