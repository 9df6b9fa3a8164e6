/- The contracts of slices.Clone at samples and of ring's Copy. Condition: the ring lies in blocks of the call's own. || A region that draws its order, amid a round of a range over a function: what was walked in the plain way holds there. No condition; no program. || A store into a map amid a region that draws its order, walked phase by phase. No condition; no program. || The contract of scrape's Copy: a book apart, of as many series at most. Condition: the book lies in blocks of the call's own, with at most 512 series. -/
import Derived.Test.YtoamjihchmokcaaRing4M
import Derived.Test.YtoamjihchmokcaaAppLoudM
import Derived.RangeFuncCalls
import Derived.OrdersIn
import Derived.ControlIn
import Derived.Test.YtoamjihchmokcaaNameM
import Derived.Test.YtoamjihchmokcaaModelM
namespace Go.Proofs.Ytoamjihchmokcaa
open Go.ChangeShapes Go.WideShapes Go.ChangeAt Go.RowKit Go.Deep

theorem elemCSm : ElemOK Try.prog 42 64 2 16 := .mk' (by kernel_rfl) (by kernel_rfl) (by decide)
theorem zeroCSm (w : World) : (Instr.buildSlice 42 0 (([] : List (Nat × Value))).toArray).run Try.prog w = .ok (.slice (some ⟨w.heap.size, 0, none⟩) 0 0) (w.alloc (.cells #[] 64)) := by kernel_rfl
theorem oneCSm (y : Sm) (u : Value) (h : u ∈ y.cells) : u.oneCell' = true := by
  simp only [Sm.cells, List.mem_cons, List.not_mem_nil, or_false] at h
  rcases h with rfl | rfl <;> rfl

set_option maxRecDepth 100000 in
set_option maxHeartbeats 1000000 in
theorem cloneSm_any (xs : List Sm) (ao : Option Addr) (n cap : Nat) (w : World) (hS : SlR (Flat Sm.cells) 2 w ao n cap xs) (hn : n ≤ 1000000) :
    Calls Try.prog 39 #[.slice ao n cap] w fun e w' => ∃ v', e = .returned v' ∧ w'.ownsRow w.heap.size 64 2 v' n (xs.flatMap Sm.cells) ∧ Below w.heap.size w w' := by
  cases ao with
  | none =>
    have hc := hS.hnil rfl
    have hm : n = 0 := by have := hS.hcap; omega
    subst hc hm
    have hx : xs = [] := List.eq_nil_of_length_eq_zero hS.hlen
    subst hx
    clear hS hn
    have hq : ∀ w, (binOp .eql 42 (.slice none 0 0) (.slice none 0 0)).run Try.prog w = .ok (.bool true) w := fun _ => by kernel_rfl
    go_enter Try.func39, Try.ntmps39
    go_wp2
    go_ret
    exact ⟨_, rfl, World.ownsRow_nil _ _ _ _, Below.refl _ _⟩
  | some ad =>
    have HS := Lib.hid (hS.flatKeeps (Keeps.below ((Below.refl w.heap.size w).alloc (Nat.le_refl _) (.cells #[] 64))))
    clear hS
    have hq : ∀ w, (binOp .eql 42 (.slice (some ad) n cap) (.slice none 0 0)).run Try.prog w = .ok (.bool false) w := fun _ => by kernel_rfl
    go_enter Try.func39, Try.ntmps39
    go_wp2_with (first | ((with_reducible refine at_slot 5 ?_); go_must (refine wpList_buildSlice rfl 42 0 _ rfl [] rfl _ _ zeroCSm ?_)) | ((with_reducible refine at_slot 7 ?_); go_must (refine wpList_append_slr elemCSm rfl _ _ rfl w.heap.size _ 0 [] rfl (World.ownsRow_made w _ 0 (Nat.le_refl _) (by decide) rfl) (by rw [World.size_alloc]; omega) (fun _ => rfl) (some ad) n cap xs rfl (by exact HS.out) oneCSm (by unfold maxLen; omega) (by omega) ?_; intro v2 w2 hown2 hgr2)))
    go_ret
    rw [Nat.zero_add, List.nil_append] at hown2
    exact ⟨_, rfl, hown2, ((Below.refl _ w).alloc (Nat.le_refl _) _).grown hgr2 (by rw [World.size_alloc]; omega) (fun k hk => by cases hk; exact Nat.le_refl _)⟩

theorem ring_of_clone {w w' : World} {rb lb most first n : Nat} {buf : List Sm} (h : RingAt w rb lb most first n buf) {B g cap rb' : Nat} (hown : w'.ownsRow B 64 2 (.slice (some ⟨g, 0, none⟩) most cap) most (buf.flatMap Sm.cells)) (hblk : w'.heap[rb']? = some (.cells #[.slice (some ⟨g, 0, none⟩) most cap, .int .i64 first, .int .i64 n] 91 (0, 0))) :
    RingAt w' rb' g most first n buf := by
  rcases hown.2 with ⟨e, _⟩ | ⟨g', cap', cur, e, hb, hg, hn, hcm, hcs, ht⟩
  · cases e
  · cases e
    have hne : rb' ≠ g := fun e => by
      subst e
      rw [hblk] at hg
      cases hg
    refine .mk' (sl := cur.toList.drop (most * 2)) hblk ?_ h.len h.hf h.hn h.hm hne ⟨hn, hcm⟩
    rw [hg, ← ht, List.take_append_drop]
theorem buildRing3 (p : Option Addr) (m c : Nat) (a b : Int) (w : World) : (Instr.build 91 [(0, .slice p m c), (1, .int .i64 a), (2, .int .i64 b)].toArray).run Try.prog w = .ok (.agg #[.slice p m c, .int .i64 a, .int .i64 b]) w := by kernel_rfl

set_option maxRecDepth 100000 in
set_option maxHeartbeats 1000000 in
theorem ringCopy_any (rb lb most first n : Nat) (buf : List Sm) (w : World) (h : RingAt w rb lb most first n buf) :
    Calls Try.prog 21 #[.pointer (some ⟨rb, 0, none⟩)] w fun e w' => ∃ rb' lb', e = .returned (.pointer (some ⟨rb', 0, none⟩)) ∧ RingAt w' rb' lb' most first n buf ∧ w.heap.size ≤ rb' ∧ w.heap.size ≤ lb' ∧ Below w.heap.size w w' := by
  have HR := Lib.hid h
  have hSl : ∀ w', Below w.heap.size w w' → SlR (Flat Sm.cells) 2 w' (some ⟨lb, 0, none⟩) most (capOf w rb) buf := fun w' hb => by
    have h0 : SlR (Flat Sm.cells) 2 w (some ⟨lb, 0, none⟩) most (capOf w rb) buf := by
     refine ⟨h.len, h.cap.1, h.cap.2, fun h => (by cases h), fun a ha i hi => ?_⟩
     cases ha
     refine ⟨Sm.cells buf[i], rfl, fun j u hu => ?_, rfl⟩
     rw [Addr.add_lit, Nat.zero_add]
     obtain ⟨c0, c1⟩ := h.cell hi
     rcases j with _ | _ | j
     · cases hu; exact c0
     · cases hu; exact c1
     · simp [Sm.cells] at hu
    exact h0.flatKeeps (Keeps.below hb)
  have hblk := h.blk
  have hbuf := h.len
  have hm := h.hm
  obtain ⟨cp, hcp⟩ : ∃ c, capOf w rb = c := ⟨_, rfl⟩
  rw [hcp] at hSl hblk
  obtain ⟨c0, c1, c2⟩ := cells3 hblk
  have HSl := Lib.hid hSl
  have mixed : Try.prog.follows .mixedOrders = true := by kernel_rfl
  have hrb := h.lt.1
  clear h hSl hblk hcp
  go_enter Try.func21, Try.ntmps21
  go_upto_region 3 with fail
  replace c0 := BW.cell c0
  replace c1 := BW.cell c1
  replace c2 := BW.cell c2
  refine region_later mixed ?_
  obtain ⟨wD, hwD⟩ : ∃ q : World, { w with drawn := w.drawn + 1 } = q := ⟨_, rfl⟩
  have hbD : Below w.heap.size w wD := by rw [← hwD]; exact ⟨rfl, rfl, rfl, Nat.le_refl _, fun _ _ => rfl⟩
  have hzD : wD.heap.size = w.heap.size := by rw [← hwD]
  rw [hwD]
  refine later_phase (fun w' => ∃ b : BW w, w' = b.w') [4] 5 0 13 30 (by kernel_rfl) (by kernel_rfl) ⟨⟨wD, hbD⟩, rfl⟩ ?_
  repeat (first | (refine wpVal_skipR rfl ?_) | (refine wpVal_takeR rfl ?_; first | (refine wpVal_oneK rfl (fun K hK => ?_); refine ⟨_, fun w => by go_simp; rfl, ?_⟩; go_simp; refine hK _ ?_; clear hK K) | (refine wpVal_mem rfl rfl (fun K hK => ?_); refine ⟨_, by rintro _ ⟨bw, rfl⟩; go_simp; rfl, ?_⟩; go_simp; refine hK _ ?_; clear hK K)))
  refine wpVal_endR ?_
  refine wpLoud_call rfl rfl 39 [.tmp 8] _ rfl Try.func39 (by kernel_rfl) rfl [.slice (some ⟨lb, 0, none⟩) most cp] (by as_aux_lemma => kernel_rfl) ((cloneSm_any buf _ most cp wD (HSl.out wD hbD) (by omega)).mono ?_)
  rintro e w1 ⟨v1, rfl, hown, hb1⟩
  have hb1' : Below w.heap.size w w1 := hbD.trans (hb1.mono (by omega))
  refine ⟨_, rfl, fun _ => ⟨⟨w1, hb1'⟩, rfl⟩, ?_⟩
  refine wpLoud_nil ?_
  obtain ⟨g, cap1, rfl⟩ : ∃ g cap1, v1 = .slice (some ⟨g, 0, none⟩) most cap1 := by
    rcases hown.2 with ⟨_, h0⟩ | ⟨g, c, _, e, _⟩
    · have := HR.out.hf; omega
    · exact ⟨g, c, e⟩
  have HO := Lib.hid hown
  have Hb1 := Lib.hid hb1'
  clear hown hb1 hb1' c0 c1 c2
  refine later_phase (fun _ => True) [14] 0 13 15 30 (by kernel_rfl) (by kernel_rfl) trivial ?_
  repeat (refine wpVal_skipR rfl ?_)
  refine wpVal_takeR rfl ?_
  refine wpVal_oneK rfl (fun K hK => ?_)
  refine ⟨.agg #[.slice (some ⟨g, 0, none⟩) most cap1, .int .i64 first, .int .i64 n], fun w => ?_, ?_⟩
  · have := buildRing3 (some ⟨g, 0, none⟩) most cap1 first n w
    go_simp
  go_simp; refine hK _ ?_; clear hK K
  repeat (refine wpVal_skipR rfl ?_)
  refine wpVal_endR ?_
  refine wpLoud_run (v := .pointer (some ⟨w1.heap.size, 0, none⟩)) (w' := w1.alloc (.cells #[.slice (some ⟨g, 0, none⟩) most cap1, .int .i64 first, .int .i64 n] 91)) rfl rfl (by go_simp) ⟨fun _ => trivial, ?_⟩
  refine wpLoud_nil ?_
  have hblk := heap_alloc_new w1 (.cells #[.slice (some ⟨g, 0, none⟩) most cap1, .int .i64 first, .int .i64 n] 91)
  obtain ⟨w2, hw2⟩ : ∃ q, w1.alloc (.cells #[.slice (some ⟨g, 0, none⟩) most cap1, .int .i64 first, .int .i64 n] 91) = q := ⟨_, rfl⟩
  have hown2 := HO.out.alloc (.cells #[.slice (some ⟨g, 0, none⟩) most cap1, .int .i64 first, .int .i64 n] 91)
  have hB2 : Hid (Below w.heap.size w w2) := by show Below _ _ _; rw [← hw2]; exact Hb1.out.alloc Hb1.out.size _
  rw [hw2] at hblk hown2 ⊢
  have HRc := Lib.hid (ring_of_clone HR.out hown2 hblk)
  have hg := (World.ownsRow.lt HO.out g rfl).1
  have hz := Hb1.out.size
  clear hw2 hblk hown2
  refine later_phase (fun _ => True) [] 0 15 16 30 (by kernel_rfl) (by kernel_rfl) trivial ?_
  repeat (first | (refine wpVal_skipR rfl ?_) | (refine wpVal_takeR rfl ?_; refine wpVal_oneK rfl (fun K hK => ?_); refine ⟨_, fun w => by go_simp; rfl, ?_⟩; go_simp; refine hK _ ?_; clear hK K))
  refine wpVal_endR ?_
  refine wpLoud_nil ?_
  refine later_end 16 rfl ?_
  go_simp
  go_wp2_with fail
  go_ret
  exact ⟨_, g, rfl, HRc.out, hz, by omega, hB2.out⟩
end Go.Proofs.Ytoamjihchmokcaa
namespace Go.Proofs.Ytoamjihchmokcaa
open Go.ChangeShapes Go.WideShapes Go.ChangeAt Go.RowKit Go.Deep

end Go.Proofs.Ytoamjihchmokcaa
namespace Go.Proofs.Ytoamjihchmokcaa
open Go.ChangeShapes Go.WideShapes Go.ChangeAt Go.RowKit Go.Deep Go.Maps

theorem wpLoud_map_store {P : Program} {C : World → Prop} {bb : Nat} {R : Act → World → Prop} {j : Nat} {r : List Nat} {A : Act} {w : World} {l : List Oper} {o : Oper} (ho : nthOp j l = some o) (hg : o.guard = none) (m x v : Operand) (t : TypeId) (hop : o.op = Op.mapUpdate t m x v) (k e : TypeId) (K : Keyed P k) (ht : P.underlying t = some (.map k e))
    (b n : Nat) (f : Lit → Option Value) (hm : A.eval m = .map (some b)) (hown : MapIs w P k b n f) (hn : n < maxLen) (key val : Value) (kl : Lit) (hx : A.eval x = key) (hv : A.eval v = val) (hkey : keyOf P k key = some kl)
    (h : ∀ w', MapIs w' P k b (if (f kl).isSome then n else n + 1) (fset f kl val) → w.mapTurned w' b → (j < bb → C w') ∧ wpLoud P l.toArray C bb R r (A.put o.dst undef) w') : wpLoud P l.toArray C bb R (j :: r) A w := by
  obtain ⟨w', hrun, r1, r2⟩ := hown.store K ht hn (val := val) hkey
  refine wpLoud_one (nthOp_spec ho) hg ?_
  have e2 : (execOp A.eval o).run P w = .ok .skip w' := by
    unfold execOp
    simp only [hop, hm, hx, hv]
    rw [Sem.run_bind, hrun]
    rfl
  rw [e2]
  exact h w' r1 r2
end Go.Proofs.Ytoamjihchmokcaa
namespace Go.Proofs.Ytoamjihchmokcaa
open Go.ChangeShapes Go.WideShapes Go.ChangeAt Go.RowKit Go.Deep Go.Maps

theorem aggSerC : AggOK Try.prog 33 2 := .mk' (by kernel_rfl) (by kernel_rfl)
theorem BookAt.fr {w w' : World} {B bb bm most : Nat} {age : Int} {E : List En} {S : Nat → Prop} (h : BookAt w B bb bm most age E) (hf : Fr S w w') (h1 : ¬ S bb) (h2 : ¬ S bm) (h3 : ∀ e ∈ E, ¬ S e.rb ∧ ¬ S e.lb) : BookAt w' B bb bm most age E :=
  ⟨hf.heap h.blk h1, h.map.fr hf h2, fun e he => (h.rings e he).fr hf (h3 e he).1 (h3 e he).2, h.keys, h.apart, h.pos, h.base, h.m1⟩
theorem ringIs_copy (rb lb most : Nat) (L : List Sm) (w : World) (h : RingIs w rb lb most L) :
    Calls Try.prog 21 #[.pointer (some ⟨rb, 0, none⟩)] w fun e w' => ∃ rb' lb', e = .returned (.pointer (some ⟨rb', 0, none⟩)) ∧ RingIs w' rb' lb' most L ∧ w.heap.size ≤ rb' ∧ w.heap.size ≤ lb' ∧ Below w.heap.size w w' := by
  obtain ⟨first, buf, h1, h2⟩ := h
  refine (ringCopy_any rb lb most first L.length buf w h1).mono ?_
  rintro e w' ⟨rb', lb', rfl, h3, h4, h5, h6⟩
  exact ⟨rb', lb', rfl, ⟨first, buf, h3, h2⟩, h4, h5, h6⟩
theorem tells_at {D : DataW Value} {f : Lit → Option Value} (h : Tells D f) {kl : Lit} {c : Value} (hat : ∀ z, D.atKey kl z = .held c) : f kl = some c := by
  have h1 := (h kl).2
  cases e : f kl with
  | none =>
    have a := hat (.map [])
    rw [h1 (.map []), e] at a
    cases a
  | some v =>
    have a := hat (.map [])
    rw [h1 (.map []), e] at a
    cases a
    rfl
structure CpTo (w0 w : World) (bb' bm' most : Nat) (age : Int) (left : Lit → Bool) (cnt n0 : Nat) (E' : List En) : Prop where
  book : BookAt w w0.heap.size bb' bm' most age E'
  done : ∀ e ∈ E', left (.string e.key) = false
  small : ∀ e ∈ E', e.sub.size ≤ maxLen ∧ e.met.size ≤ maxLen
  len : E'.length + cnt ≤ n0
  below : Below w0.heap.size w0 w
theorem CpTo.fr {w0 w w' : World} {bb' bm' most : Nat} {age : Int} {left : Lit → Bool} {cnt n0 : Nat} {E' : List En} (h : CpTo w0 w bb' bm' most age left cnt n0 E') {r : Nat} {es : Option Nat} {q0 c0 : Nat} {s0 : Array Nat} (hr : w.heap[r]? = some (.mapIter es q0 s0 c0)) (hr0 : w0.heap.size ≤ r) (hg : w.grownBy w' (some r)) : CpTo w0 w' bb' bm' most age left cnt n0 E' := by
  have hf : Fr (fun q => q = r) w w' := Fr.grown hg (fun k hk => by cases hk; rfl)
  have ne : ∀ {q : Nat} {o : Obj}, w.heap[q]? = some o → (∀ a b c d, o ≠ .mapIter a b c d) → q ≠ r := fun ho hn e => by
    subst e; rw [hr] at ho; cases ho; exact hn _ _ _ _ rfl
  refine ⟨h.book.fr hf (ne h.book.blk (fun _ _ _ _ e => by cases e)) ?_ (fun e he => ?_), h.done, h.small, h.len, h.below.trans (hf.below h.below.size (fun k hk => by omega))⟩
  · obtain ⟨D, ⟨es, cl, h1, _⟩, _⟩ := h.book.map
    exact ne h1 (fun _ _ _ _ e => by cases e)
  · obtain ⟨⟨_, r1⟩, _, r2⟩ := ring_row (h.book.rings e he)
    exact ⟨ne r1 (fun _ _ _ _ e => by cases e), ne r2 (fun _ _ _ _ e => by cases e)⟩

theorem CpTo.keep {w0 w w' : World} {bb' bm' most : Nat} {age : Int} {left : Lit → Bool} {cnt n0 : Nat} {E' : List En} (h : CpTo w0 w bb' bm' most age left cnt n0 E') (hb : Below w.heap.size w w') : CpTo w0 w' bb' bm' most age left cnt n0 E' :=
  ⟨h.book.keep hb, h.done, h.small, h.len, h.below.trans (hb.mono h.below.size)⟩
theorem CpTo.more {w0 w w' : World} {bb' bm' most : Nat} {age : Int} {left : Lit → Bool} {cnt cnt' n0 : Nat} {E' : List En} (h : CpTo w0 w bb' bm' most age left cnt n0 E') (en : En) (hR : RingIs w en.rb en.lb most en.L) (hrb : ∀ e ∈ E', e.rb ≠ en.rb ∧ e.lb ≠ en.lb) (hB : w0.heap.size ≤ en.rb ∧ w0.heap.size ≤ en.lb) (hp : ∀ x ∈ en.L, 0 ≤ x.at0)
    (hs : en.sub.size ≤ maxLen ∧ en.met.size ≤ maxLen) (hl : left (.string en.key) = true) (hc : cnt' < cnt) (hf : Fr (fun q => q = bm') w w') (hM : MapIs w' Try.prog 33 bm' (E' ++ [en]).length (enMap (E' ++ [en]))) (hbm : w0.heap.size ≤ bm') :
    CpTo w0 w' bb' bm' most age (fun z => left z && !z.sameKey (.string en.key)) cnt' n0 (E' ++ [en]) := by
  have hE : ∀ e ∈ E' ++ [en], e ∈ E' ∨ e = en := fun e he => by simpa using he
  refine ⟨h.book.turn hf hM (fun e he => ?_) ?_ ?_, fun e he => ?_, fun e he => ?_, by rw [List.length_append, List.length_singleton]; have := h.len; omega, h.below.trans (hf.below h.below.size (fun k hk => by omega))⟩
  · rcases hE e he with h1 | rfl
    · exact ⟨h.book.rings e h1, h.book.pos e h1, h.book.base.2.2 e h1⟩
    · exact ⟨hR, hp, hB⟩
  · refine List.pairwise_append.2 ⟨h.book.keys, by simp, fun x hx y hy => ?_⟩
    rw [List.mem_singleton.1 hy]
    intro hh
    have := h.done x hx
    rw [hh, hl] at this
    cases this
  · refine List.pairwise_append.2 ⟨h.book.apart, by simp, fun x hx y hy => ?_⟩
    rw [List.mem_singleton.1 hy]
    exact hrb x hx
  · rcases hE e he with h1 | rfl
    · rw [h.done e h1]; rfl
    · simp [Lit.sameKey]
  · rcases hE e he with h1 | rfl
    · exact h.small e h1
    · exact hs

set_option maxRecDepth 100000 in
set_option maxHeartbeats 4000000 in
theorem copy_any (B bb bm most : Nat) (age : Int) (E : List En) (w : World) (hB : BookAt w B bb bm most age E) (hE : ∀ e ∈ E, e.sub.size ≤ maxLen ∧ e.met.size ≤ maxLen) (hlen : E.length ≤ 512) :
    Calls Try.prog 9 #[.pointer (some ⟨bb, 0, none⟩)] w fun e w' => ∃ bb' bm' E', e = .returned (.pointer (some ⟨bb', 0, none⟩)) ∧ BookAt w' w.heap.size bb' bm' most age E' ∧ (∀ e ∈ E', e.sub.size ≤ maxLen ∧ e.met.size ≤ maxLen) ∧ E'.length ≤ E.length ∧ Below w.heap.size w w' := by
  obtain ⟨c0, c1, c2⟩ := cells3 hB.blk
  obtain ⟨D, hown, hsz, hT⟩ := hB.map
  have HT := Lib.hid hT
  have HBk := Lib.hid hB
  have hmm := @run_makeMap Try.prog
  have hm1 := hB.m1
  have HE := Lib.hid hE
  have Hsz := Lib.hid hsz
  have hbm := hB.lt.2
  obtain ⟨N, hN⟩ : ∃ N, w.heap.size = N := ⟨_, rfl⟩
  obtain ⟨w1, hw1⟩ : ∃ q, w.alloc (.map #[] 0) = q := ⟨_, rfl⟩
  obtain ⟨w2, hw2⟩ : ∃ q, w1.alloc (.cells #[.int .i64 most, .int .i64 age, .map (some N)] 55) = q := ⟨_, rfl⟩
  have hz1 : w1.heap.size = N + 1 := by rw [← hw1, World.size_alloc, hN]
  have hz2 : w2.heap.size = N + 2 := by rw [← hw2, World.size_alloc, hz1]
  have hb1 : Below w.heap.size w w1 := by rw [← hw1]; exact (Below.refl _ _).alloc (Nat.le_refl _) _
  have hb2' : Below w1.heap.size w1 w2 := by rw [← hw2]; exact (Below.refl _ _).alloc (Nat.le_refl _) _
  have hb2 : Below w.heap.size w w2 := hb1.trans (hb2'.mono (by omega))
  have hblk2 : w2.heap[N + 1]? = some (.cells #[.int .i64 most, .int .i64 age, .map (some N)] 55 (0, 0)) := by rw [← hw2, ← hz1]; exact heap_alloc_new _ _
  have hmap2 : MapIs w2 Try.prog 33 N 0 (enMap []) := by
    have h := (MapIs.made w Try.prog 33).below (w' := w2) (by rw [hw1]; exact hb2')
    rw [hN] at h
    rwa [show enMap [] = fun _ => none by funext kl; cases kl <;> rfl]
  have hown2 : w2.ownsMap Try.prog 33 heldElem bm E.length D := by
    obtain ⟨es, cl, h1, r⟩ := hown
    exact ⟨es, cl, (hb2.block bm (by omega)).trans h1, r⟩
  have hd0 := Below.cell_some hb2 c2
  have hc2 : w2.cell? ⟨N + 1, 2, none⟩ = some (.map (some N)) := (cells3 hblk2).2.2
  have Hb2 := Lib.hid hb2
  have HN := Lib.hid hN
  have HCp : Hid (CpTo w w2 (N + 1) N most age (Maps.has D) (Maps.size D) E.length []) := ⟨⟨hblk2, hmap2, fun e he => (by cases he), .nil, .nil, fun e he => (by cases he), ⟨by omega, by omega, fun e he => (by cases he)⟩, hm1⟩, fun e he => (by cases he), fun e he => (by cases he), by rw [hsz]; simp, hb2⟩
  have HO2 := Lib.hid hown2
  obtain ⟨n0, hn0⟩ : ∃ n, E.length = n := ⟨_, rfl⟩
  rw [hn0] at HO2 HCp hlen
  have Hn0 := Lib.hid hn0
  have K := serKeyed
  have mixed : Try.prog.follows .mixedOrders = true := by kernel_rfl
  clear hT hB hE hsz hb1 hb2 hb2' hblk2 hmap2 hown hown2 hn0
  go_enter Try.func9, Try.ntmps9
  go_wp2_with (at_range; go_must (refine wpList_range_own _ rfl _ 53 rfl 33 58 K Try.underlying53 heldElem bm n0 _ rfl HO2.out ?_; intro w3 hrg3 hg3 hs3))
  obtain ⟨r, hr⟩ : ∃ r, w2.heap.size = r := ⟨_, rfl⟩
  have hC3 : Hid (CpTo w w3 (N + 1) N most age (Maps.has D) (Maps.size D) n0 []) := HCp.out.keep ((Below.refl _ _).grown hg3 (Nat.le_refl _) (fun k hk => by cases hk))
  rw [hr] at hrg3 ⊢
  have hrN : N ≤ r := by omega
  clear c0 c1 c2 hd0 hc2 HO2 HCp hg3 hs3 hw1 hw2
  go_frame
  go_loopw [4, 5] (fun _ _ wr => ∃ (left : Lit → Bool) (cnt : Nat) (E' : List En), wr.ranges Try.prog 33 heldElem bm r n0 D left cnt ∧ Hid (CpTo w wr (N + 1) N most age left cnt n0 E')) (fun _ _ wr => wr.rangeLeft bm r)
  case atStart => exact ⟨_, _, [], hrg3, hC3⟩
  case round =>
    obtain ⟨left, cnt, E', hrg, hC⟩ := hrel
    obtain ⟨wq, rfl⟩ : ∃ wq : World, wq = wr := ⟨_, rfl⟩
    obtain ⟨it0, it1, it2, it3, hit⟩ : ∃ a b c d, wq.heap[r]? = some (.mapIter a b c d) := by
      obtain ⟨_, _, _, _, _, _, _, _, _, h, _⟩ := hrg
      exact ⟨_, _, _, _, h⟩
    go_wp2_with (at_next; go_must (refine wpList_next_ranges (α := ByteArray × ByteArray) (β := Value) _ rfl _ rfl 33 K heldElem (fun x => .agg #[.string x.1, .string x.2]) id (fun key kl hk => by obtain ⟨x, y, h, _⟩ := serKey_inv hk; exact ⟨(x, y), h⟩) (fun v _ _ => ⟨v, rfl⟩) bm r n0 _ _ _ rfl hrg ?_ ?_))
    · intro _ hl0
      go_wp2_with fail
      go_ret
      exact ⟨N + 1, N, E', rfl, hC.out.book, hC.out.small, by have := hC.out.len; have := Hn0.out; omega, hC.out.below⟩
    · intro x1 x2 c kl yd yp w4 cnt4 hkey hlx hv hat hrg4 hlt hg4 hs4 hen
      obtain ⟨y1, y2, hy, rfl, hy1, hy2⟩ := serKey_inv hkey
      injection hy with hy
      injection hy with hy
      injection hy with e1 hy
      injection hy with e2 hy
      injection e1 with e1
      injection e2 with e2
      subst e1 e2
      have hyd : yd = .held c := by
        have h1 := Option.some.inj hv
        exact (congrArg Prod.fst h1).symm
      subst hyd
      have hf := tells_at HT.out hat
      rw [enMap_str] at hf
      obtain ⟨en, hfe, hpt⟩ : ∃ en, findE E (serBytes x1.data.toList x2.data.toList) = some en ∧ en.ptr = c := by
        cases e : findE E (serBytes x1.data.toList x2.data.toList) with
        | none => rw [e] at hf; cases hf
        | some en => rw [e] at hf; exact ⟨en, rfl, Option.some.inj hf⟩
      subst hpt
      have hen' := findE_mem hfe
      have hek := findE_key hfe
      have hC4 : CpTo w w4 (N + 1) N most age left cnt n0 E' := hC.out.fr hit (by omega) hg4
      obtain ⟨w5, hw5⟩ : ∃ q, w4.alloc (.cells #[.string x1, .string x2] 33) = q := ⟨_, rfl⟩
      have hb5 : Below w4.heap.size w4 w5 := by rw [← hw5]; exact (Below.refl _ _).alloc (Nat.le_refl _) _
      have hrg5 : w5.ranges Try.prog 33 heldElem bm r n0 D (fun z => left z && !z.sameKey (.string (serBytes x1.data.toList x2.data.toList))) cnt4 := by rw [← hw5]; exact hrg4.alloc _
      have hC5 := hC4.keep hb5
      have hR5 : RingIs w5 en.rb en.lb most en.L := (HBk.out.rings en hen').below hC5.below
      have hz4 : N ≤ w4.heap.size := by have := hC4.below.size; omega
      have hrow5 : w5.heap[w4.heap.size]? = some (.cells #[.string x1, .string x2] 33 (0, 0)) := by rw [← hw5]; exact heap_alloc_new _ _
      have hsv := BW.cells (w := w5) (p := ⟨w4.heap.size, 0, none⟩) (cs := [.string x1, .string x2]) (fun t u hu => by
        rw [Addr.add_lit, Nat.zero_add, cell_of_row w5 _ _ _ _ _ hrow5]
        simpa using hu)
      have hbc : w5.cell? ⟨N + 1, 2, none⟩ = some (.map (some N)) := (cells3 hC5.book.blk).2.2
      have HCp := Lib.hid (ringIs_copy en.rb en.lb most en.L)
      have HR5 := Lib.hid hR5
      have HC5 := Lib.hid hC5
      have Hrg5 := Lib.hid hrg5
      have Hek := Lib.hid hek
      have Hen' := Lib.hid hen'
      have Hlx := Lib.hid hlx
      have Hlt := Lib.hid hlt
      have Hkey := Lib.hid hkey
      have Hy := Lib.hid (And.intro hy1 hy2)
      have Hlf := Lib.hid hrg.left_eq
      have hz5 : w4.heap.size < w5.heap.size := (Array.getElem?_eq_some_iff.1 hrow5).1
      rw [show en.ptr = .pointer (some ⟨en.rb, 0, none⟩) from rfl] at hen ⊢
      obtain ⟨erb, herb⟩ : ∃ q, en.rb = q := ⟨_, rfl⟩
      rw [herb] at hen HCp HR5 ⊢
      replace hbc := BW.cell hbc
      obtain ⟨sb, hsb⟩ : ∃ q, w4.heap.size = q := ⟨_, rfl⟩
      rw [hsb] at hsv hz5 hz4
      rw [hs4] at hsb
      clear hf hfe hen' hek hC4 hb5 hrg5 hC5 hR5 hrow5 hlx hlt hkey hy1 hy2 hrg4 hrg hit hC hv hat herb hg4
      go_upto_region 7 with fail
      refine region_later mixed ?_
      obtain ⟨wD, hwD⟩ : ∃ q : World, { w5 with drawn := w5.drawn + 1 } = q := ⟨_, rfl⟩
      have hbD : Below w5.heap.size w5 wD := by rw [← hwD]; exact ⟨rfl, rfl, rfl, Nat.le_refl _, fun _ _ => rfl⟩
      have hzD : wD.heap.size = w5.heap.size := by rw [← hwD]
      rw [hwD]
      refine later_phase (fun w' => ∃ b : BW w5, w' = b.w') [6, 7] 7 0 8 30 (by kernel_rfl) (by kernel_rfl) ⟨⟨wD, hbD⟩, rfl⟩ ?_
      clear hwD hw5 hen
      repeat (first | (refine wpVal_skipR rfl ?_) | (refine wpVal_takeR rfl ?_; first | (refine wpVal_loadK aggSerC rfl _ rfl ⟨sb, 0, none⟩ rfl _ rfl (by rintro _ ⟨bw, rfl⟩; exact hsv bw) (fun K hK => ?_); go_simp; refine hK _ ?_; clear hK K) | (refine wpVal_oneK rfl (fun K hK => ?_); refine ⟨_, fun w => by go_simp; rfl, ?_⟩; go_simp; refine hK _ ?_; clear hK K) | (refine wpVal_mem rfl rfl (fun K hK => ?_); refine ⟨_, by rintro _ ⟨bw, rfl⟩; go_simp; rfl, ?_⟩; go_simp; refine hK _ ?_; clear hK K)))
      refine wpVal_endR ?_
      refine wpLoud_call rfl rfl 21 [.tmp 30] _ rfl Try.func21 (by kernel_rfl) rfl [.pointer (some ⟨erb, 0, none⟩)] (by as_aux_lemma => kernel_rfl) ((HCp.out wD (HR5.out.below hbD)).mono ?_)
      rintro e w6 ⟨rb', lb', rfl, hR6, hr6, hl6, hb6⟩
      have hb56 : Below w5.heap.size w5 w6 := hbD.trans (hb6.mono (by omega))
      refine ⟨_, rfl, fun _ => ⟨⟨w6, hb56⟩, rfl⟩, ?_⟩
      have hC6 := HC5.out.keep hb56
      have hM6 := hC6.book.map
      have hlE : E'.length ≤ 512 := by have := hC6.len; omega
      have hno : findE E' (serBytes x1.data.toList x2.data.toList) = none := by
        cases e : findE E' (serBytes x1.data.toList x2.data.toList) with
        | none => rfl
        | some en2 =>
          have h1 := hC6.done _ (findE_mem e)
          rw [findE_key e, Hlx.out] at h1
          cases h1
      refine wpLoud_map_store rfl rfl (.tmp 28) (.tmp 29) (.tmp 31) 53 rfl 33 58 serKeyed Try.underlying53 N E'.length (enMap E') rfl hM6 (by unfold maxLen; omega) (.agg #[.string x1, .string x2]) (.pointer (some ⟨rb', 0, none⟩)) _ rfl rfl Hkey.out ?_
      intro w7 hM7 hT7
      refine ⟨fun h => absurd h (by decide), ?_⟩
      refine wpLoud_nil ?_
      refine later_end 8 rfl ?_
      rw [enMap_str, hno] at hM7
      have hM8 : MapIs w7 Try.prog 33 N (E' ++ [(⟨x1, x2, rb', lb', en.L⟩ : En)]).length (enMap (E' ++ [⟨x1, x2, rb', lb', en.L⟩])) := by
        rw [List.length_append, ← enMap_new E' ⟨x1, x2, rb', lb', en.L⟩ hno]
        exact hM7
      have hT8 := Fr.turned (fun q => q = N) hT7 rfl
      have hC7 : CpTo w w7 (N + 1) N most age (fun z => left z && !z.sameKey (.string (serBytes x1.data.toList x2.data.toList))) cnt4 n0 (E' ++ [⟨x1, x2, rb', lb', en.L⟩]) :=
        hC6.more ⟨x1, x2, rb', lb', en.L⟩ hR6 (fun e he => by
          have h3 := (HC5.out.book.rings e he).lt
          constructor
          · show e.rb ≠ rb'; omega
          · show e.lb ≠ lb'; omega) ⟨by show w.heap.size ≤ rb'; have := HN.out; omega, by show w.heap.size ≤ lb'; have := HN.out; omega⟩ (HBk.out.pos en Hen'.out) Hy.out Hlx.out Hlt.out hT8 hM8 (by rw [HN.out]; exact Nat.le_refl _)
      have hrg7 : w7.ranges Try.prog 33 heldElem bm r n0 D (fun z => left z && !z.sameKey (.string (serBytes x1.data.toList x2.data.toList))) cnt4 :=
        (Hrg5.out.kept (row := none) ⟨hb56.os, hb56.tape, hb56.output, hb56.size, fun k hk _ => hb56.block k hk⟩ (by simp) (by simp)).kept hT7.grown (by simp; omega) (by simp; omega)
      have HC7 := Lib.hid hC7
      have Hrg7 := Lib.hid hrg7
      clear hM6 hM7 hM8 hT7 hT8 hC6 hC7 hR6 hb6 hb56 hrg7 hsv hbc hno
      go_simp
      go_roundw
      case rel => exact ⟨_, _, _, _, _, _, _, _, _, _, _, _, _, _, ⟨_, cnt4, _, Hrg7.out, HC7.out⟩, rfl⟩
      case measure => rw [Hrg7.out.left_eq, Hlf.out]; exact Hlt.out
end Go.Proofs.Ytoamjihchmokcaa
