/- A book and its model side by side: what a sample does to both. Conditions: the book and the model lie in blocks of the call's own. || A book and its model side by side: a sample, and forgetting a subject. Conditions: the book and the model lie in blocks of the call's own. -/
import Derived.Test.YtoamjihchmokcaaIs2M
import Derived.Test.YtoamjihchmokcaaBookCopyM
namespace Go.Proofs.Ytoamjihchmokcaa
open Go.ChangeShapes Go.WideShapes Go.ChangeAt Go.RowKit Go.Deep Go.Maps

structure GoodL (most : Nat) (L : List Sm) : Prop where
  rise : RiseL L
  len : L.length ≤ most
  at_ : ∀ y ∈ L, 0 ≤ y.at0 ∧ y.at0 ≤ 4611686018427387904
theorem goodL_put {most : Nat} {L : List Sm} {x : Sm} (h : GoodL most L) (hm : 1 ≤ most) (hx : 0 ≤ x.at0 ∧ x.at0 ≤ 4611686018427387904) : GoodL most (putOf most L x).2 := by
  have hP : putOf most L x = if (match L.getLast? with | some y => decide (x.at0 ≤ y.at0) | none => false) = true then (13, L) else (0, (if L.length = most then L.tail else L) ++ [x]) := rfl
  rcases nil_or_app L with rfl | ⟨L0, y, rfl⟩
  · have h0 : ¬ (0 = most) := by omega
    have e : (putOf most ([] : List Sm) x).2 = [x] := by rw [hP]; simp [h0]
    rw [e]
    exact ⟨List.pairwise_singleton _ _, by simpa using hm, fun y hy => by rw [List.mem_singleton.1 hy]; exact hx⟩
  · have hgl : (L0 ++ [y]).getLast? = some y := by simp
    rw [hgl] at hP
    by_cases hst : x.at0 ≤ y.at0
    · rw [hP, if_pos (by simpa using hst)]; exact h
    · rw [hP, if_neg (by simpa using hst)]
      have hlt : ∀ z ∈ L0 ++ [y], z.at0 < x.at0 := fun z hz => by
        rcases List.mem_append.1 hz with h1 | h1
        · have := (List.pairwise_append.1 h.rise).2.2 z h1 y (by simp)
          omega
        · rw [List.mem_singleton.1 h1]; omega
      show GoodL most ((if (L0 ++ [y]).length = most then (L0 ++ [y]).tail else L0 ++ [y]) ++ [x])
      have hsub : (if (L0 ++ [y]).length = most then (L0 ++ [y]).tail else L0 ++ [y]).Sublist (L0 ++ [y]) := by
        split
        · exact List.tail_sublist _
        · exact List.Sublist.refl _
      refine ⟨List.pairwise_append.2 ⟨h.rise.sublist hsub, List.pairwise_singleton _ _, fun a ha b hb => ?_⟩, ?_, fun z hz => ?_⟩
      · rw [List.mem_singleton.1 hb]; exact hlt a (hsub.subset ha)
      · have := h.len
        rw [List.length_append, List.length_singleton]
        split
        · rw [List.length_tail]; omega
        · omega
      · rcases List.mem_append.1 hz with h1 | h1
        · exact h.at_ z (hsub.subset h1)
        · rw [List.mem_singleton.1 h1]; exact hx
theorem pre_at {at0 : Int} {s m : ByteArray} {bits : Nat} (h : preOf at0 s m bits = 0) : 0 ≤ at0 ∧ at0 ≤ 4611686018427387904 := by
  unfold preOf at h
  split at h
  · cases h
  · rename_i h1; omega
theorem actOf_all {most : Nat} {E : List En} {at0 : Int} {s m : ByteArray} {bits rb lb : Nat} (hm : 1 ≤ most) (hE : ∀ e ∈ E, (e.sub.size ≤ 60 ∧ e.met.size ≤ 60) ∧ GoodL most e.L) (hs : s.size ≤ 60 ∧ m.size ≤ 60) :
    ∀ e ∈ (actOf most E at0 s m bits rb lb).2, (e.sub.size ≤ 60 ∧ e.met.size ≤ 60) ∧ GoodL most e.L := by
  unfold actOf
  by_cases hp : preOf at0 s m bits = 0
  · rw [if_pos hp]
    have hx := pre_at hp
    cases hf : findE E (serBytes s.data.toList m.data.toList) with
    | none =>
      intro e he
      rcases List.mem_append.1 he with h | h
      · exact hE e h
      · rw [List.mem_singleton.1 h]
        exact ⟨hs, ⟨List.pairwise_singleton _ _, by simpa using hm, fun y hy => by rw [List.mem_singleton.1 hy]; exact hx⟩⟩
    | some en =>
      intro e he
      obtain ⟨e0, h0, rfl⟩ := List.mem_map.1 he
      have h1 := hE e0 h0
      split
      · exact ⟨h1.1, goodL_put (hE en (findE_mem hf)).2 hm hx⟩
      · exact h1
  · rw [if_neg hp]
    exact hE
theorem actOf_len {most : Nat} {E : List En} {at0 : Int} {s m : ByteArray} {bits rb lb : Nat} : (actOf most E at0 s m bits rb lb).2.length ≤ E.length + 1 := by
  unfold actOf
  split
  · split
    · simp
    · show (setL E _ _).length ≤ _
      rw [setL_len]; omega
  · exact Nat.le_succ _
def SB (bb bm : Nat) (E : List En) (q : Nat) : Prop := q = bb ∨ q = bm ∨ ∃ e ∈ E, q = e.rb ∨ q = e.lb
theorem scrapeB_any (B bb bm most : Nat) (age : Int) (E : List En) (at0 : Int) (s m : ByteArray) (bits : Nat) (w : World) (hB : BookAt w B bb bm most age E) (hbits : bits < 18446744073709551616) (hs : s.size ≤ maxLen) (hm : m.size ≤ maxLen) (hlen : E.length < 512) :
    Calls Try.prog 6 #[.pointer (some ⟨bb, 0, none⟩), .int .i64 at0, .agg #[.string s, .string m], .int .u64 bits] w fun e w' => ∃ rb lb, e = .returned (.tuple #[.int .i64 (actOf most E at0 s m bits rb lb).1.1, .int .i64 (actOf most E at0 s m bits rb lb).1.2]) ∧ BookAt w' B bb bm most age (actOf most E at0 s m bits rb lb).2 ∧ Fr (SB bb bm E) w w' ∧ ∀ e ∈ (actOf most E at0 s m bits rb lb).2, (∃ e0 ∈ E, e0.rb = e.rb ∧ e0.lb = e.lb) ∨ (w.heap.size ≤ e.rb ∧ w.heap.size ≤ e.lb) := by
  by_cases hp : preOf at0 s m bits = 0
  · cases hf : findE E (serBytes s.data.toList m.data.toList) with
    | none =>
      refine (scrape_new B bb bm most age E at0 s m bits w hB hbits hs hm hp hf hlen).mono ?_
      rintro e w' ⟨rb, lb, rfl, h1, h2, h3, h4⟩
      have ha : actOf most E at0 s m bits rb lb = ((((refOf bits).1 : Int), 0), E ++ [⟨s, m, rb, lb, [⟨at0, (refOf bits).1⟩]⟩]) := by unfold actOf; rw [if_pos hp, hf]
      refine ⟨rb, lb, by rw [ha], by rw [ha]; exact h1, h4.weaken (fun q hq => .inr (.inl hq)), fun e he => ?_⟩
      rw [ha] at he
      rcases List.mem_append.1 he with h | h
      · exact .inl ⟨e, h, rfl, rfl⟩
      · rw [List.mem_singleton.1 h]; exact .inr ⟨h2, h3⟩
    | some en =>
      refine (scrape_put B bb bm most age E at0 s m bits w hB hbits hs hm hp (by omega) en hf).mono ?_
      rintro e w' ⟨rfl, h1, h2⟩
      have ha : actOf most E at0 s m bits 0 0 = ((if (putOf most en.L ⟨at0, (refOf bits).1⟩).1 = 0 then ((refOf bits).1 : Int) else 0, (putOf most en.L ⟨at0, (refOf bits).1⟩).1), setL E (serBytes s.data.toList m.data.toList) (putOf most en.L ⟨at0, (refOf bits).1⟩).2) := by unfold actOf; rw [if_pos hp, hf]
      refine ⟨0, 0, by rw [ha], by rw [ha]; exact h1, h2.weaken (fun q hq => hq.elim (fun h => .inr (.inl h)) (fun h => .inr (.inr ⟨en, findE_mem hf, h⟩))), fun e he => ?_⟩
      rw [ha] at he
      obtain ⟨e0, h0, rfl⟩ := List.mem_map.1 he
      refine .inl ⟨e0, h0, ?_⟩
      split <;> exact ⟨rfl, rfl⟩
  · refine (scrape_pre ⟨bb, 0, none⟩ at0 s m bits w hbits hp).mono ?_
    rintro e w' ⟨rfl, hb⟩
    have ha : actOf most E at0 s m bits 0 0 = ((0, preOf at0 s m bits), E) := by unfold actOf; rw [if_neg hp]
    exact ⟨0, 0, by rw [ha], by rw [ha]; exact hB.keep hb, Fr.of_below hb _, fun e he => by rw [ha] at he; exact .inl ⟨e, he, rfl, rfl⟩⟩
structure PlayAt (w : World) (B bb bm pb most : Nat) (age : Int) (mv : Value) (M : List Mo) (k : Nat) : Prop where
  book : BookAt w B bb bm most age (M.map Mo.en)
  mod : ModelAt w B pb mv M
  cross : ∀ x ∈ M, ∀ y ∈ M, x.v.ownBlock ≠ some y.en.lb
  good : ∀ x ∈ M, (x.en.sub.size ≤ 60 ∧ x.en.met.size ≤ 60) ∧ GoodL most x.en.L
  len : M.length ≤ k
theorem PlayAt.below {w w' : World} {B bb bm pb most : Nat} {age : Int} {mv : Value} {M : List Mo} {k : Nat} (h : PlayAt w B bb bm pb most age mv M k) (hb : Below w.heap.size w w') : PlayAt w' B bb bm pb most age mv M k := ⟨h.book.keep hb, h.mod.below hb, h.cross, h.good, h.len⟩
theorem play_apart {w : World} {B bb bm pb most : Nat} {age : Int} {mv : Value} {M : List Mo} {E : List En} (hB : BookAt w B bb bm most age E) (hM : ModelAt w B pb mv M) (hc : ∀ x ∈ M, ∀ e ∈ E, x.v.ownBlock ≠ some e.lb) {q : Nat} (h1 : SB bb bm E q) (h2 : SM pb mv M q) : False := by
  have hT : ∃ cs t, w.heap[q]? = some (.cells cs t (0, 0)) ∧ (t = 31 ∨ t = 44 ∨ (t = 64 ∧ ∃ x ∈ M, x.v.ownBlock = some q)) := by
    rcases h2 with rfl | h | ⟨x, hx, h⟩
    · exact ⟨_, _, hM.cell, .inl rfl⟩
    · obtain ⟨cs, hc⟩ := own_type hM.row h
      exact ⟨cs, _, hc, .inr (.inl rfl)⟩
    · obtain ⟨cs, hc⟩ := ViewAt.type (hM.views x hx) h
      exact ⟨cs, _, hc, .inr (.inr ⟨rfl, x, hx, h⟩)⟩
  obtain ⟨cs, t, hq, ht⟩ := hT
  rcases h1 with rfl | rfl | ⟨e, he, h1⟩
  · have := hB.blk
    rw [hq] at this
    injection this with this
    injection this with _ ht2 _
    rcases ht with h | h | ⟨h, _⟩ <;> (rw [h] at ht2; exact absurd ht2 (by decide))
  · exact map_ne_cells hB.map hq rfl
  · obtain ⟨⟨c1, r1⟩, c2, r2⟩ := ring_row (hB.rings e he)
    rcases h1 with rfl | rfl
    · rw [hq] at r1
      injection r1 with r1
      injection r1 with _ ht2 _
      rcases ht with h | h | ⟨h, _⟩ <;> (rw [h] at ht2; exact absurd ht2 (by decide))
    · rcases ht with h | h | ⟨_, x, hx, h⟩
      · rw [hq] at r2
        injection r2 with r2
        injection r2 with _ ht2 _
        rw [h] at ht2; exact absurd ht2 (by decide)
      · rw [hq] at r2
        injection r2 with r2
        injection r2 with _ ht2 _
        rw [h] at ht2; exact absurd ht2 (by decide)
      · exact hc x hx e he h
end Go.Proofs.Ytoamjihchmokcaa
namespace Go.Proofs.Ytoamjihchmokcaa
open Go.ChangeShapes Go.WideShapes Go.ChangeAt Go.RowKit Go.Deep Go.Maps

theorem PlayAt.step {w w1 w2 : World} {B bb bm pb most : Nat} {age : Int} {mv : Value} {M : List Mo} {k : Nat} (h : PlayAt w B bb bm pb most age mv M k) {at0 : Int} {s m : ByteArray} {bits rb lb : Nat} {e : Ending} (hm : 1 ≤ most) (hs : s.size ≤ 60 ∧ m.size ≤ 60)
    (hB : BookAt w1 B bb bm most age (actOf most (M.map Mo.en) at0 s m bits rb lb).2) (hf : Fr (SB bb bm (M.map Mo.en)) w w1) (hl : ∀ e ∈ (actOf most (M.map Mo.en) at0 s m bits rb lb).2, (∃ e0 ∈ M.map Mo.en, e0.rb = e.rb ∧ e0.lb = e.lb) ∨ (w.heap.size ≤ e.rb ∧ w.heap.size ≤ e.lb))
    (hp : ScrapedPost B pb mv M (actOf most (M.map Mo.en) at0 s m bits rb lb) w1 e w2) : ∃ mv' M', PlayAt w2 B bb bm pb most age mv' M' (k + 1) := by
  have hM1 : ModelAt w1 B pb mv M := h.mod.fr hf (fun q h2 h1 => play_apart h.book h.mod (fun x hx e he => by obtain ⟨y, hy, rfl⟩ := List.mem_map.1 he; exact h.cross x hx y hy) h1 h2)
  have hc1 : ∀ x ∈ M, ∀ e ∈ (actOf most (M.map Mo.en) at0 s m bits rb lb).2, x.v.ownBlock ≠ some e.lb := fun x hx e he hq => by
    rcases hl e he with ⟨e0, h0, _, h2⟩ | ⟨_, h2⟩
    · obtain ⟨y, hy, rfl⟩ := List.mem_map.1 h0
      exact h.cross x hx y hy (by rw [h2]; exact hq)
    · have := (ViewAt.lt (h.mod.views x hx) _ hq).2
      omega
  obtain ⟨_, mv', M', hM2, hE, hf2, hsm⟩ := hp
  have hap : ∀ q, SB bb bm (actOf most (M.map Mo.en) at0 s m bits rb lb).2 q → ¬ SM pb mv M q := fun q h1 h2 => play_apart hB hM1 hc1 h1 h2
  have hB2 : BookAt w2 B bb bm most age (actOf most (M.map Mo.en) at0 s m bits rb lb).2 := hB.fr hf2 (hap bb (.inl rfl)) (hap bm (.inr (.inl rfl))) (fun e he => ⟨hap _ (.inr (.inr ⟨e, he, .inl rfl⟩)), hap _ (.inr (.inr ⟨e, he, .inr rfl⟩))⟩)
  have hall := actOf_all (most := most) (E := M.map Mo.en) (at0 := at0) (s := s) (m := m) (bits := bits) (rb := rb) (lb := lb) hm (fun e he => by obtain ⟨x, hx, rfl⟩ := List.mem_map.1 he; exact h.good x hx) hs
  have hlen := actOf_len (most := most) (E := M.map Mo.en) (at0 := at0) (s := s) (m := m) (bits := bits) (rb := rb) (lb := lb)
  rw [← hE] at hB2 hall hlen hap
  rw [List.length_map, List.length_map] at hlen
  refine ⟨mv', M', hB2, hM2, fun x hx y hy hq => ?_, fun x hx => hall _ (List.mem_map.2 ⟨x, hx, rfl⟩), by have := h.len; omega⟩
  rcases hsm _ (.inr (.inr ⟨x, hx, hq⟩)) with h1 | h1
  · exact hap y.en.lb (.inr (.inr ⟨y.en, List.mem_map.2 ⟨y, hy, rfl⟩, .inr rfl⟩)) h1
  · have := (hB.rings y.en (by rw [← hE]; exact List.mem_map.2 ⟨y, hy, rfl⟩)).lt.2
    omega
theorem step_below {w w1 w2 : World} {B bb bm pb most : Nat} {age : Int} {mv : Value} {M : List Mo} {k : Nat} (h : PlayAt w B bb bm pb most age mv M k) (hf : Fr (SB bb bm (M.map Mo.en)) w w1) (hf2 : Fr (SM pb mv M) w1 w2) {B0 : Nat} (h0 : B0 ≤ B) : Below B0 w w2 := by
  have hBw : B ≤ w.heap.size := Nat.le_trans h.mod.pbB (Nat.le_of_lt h.mod.pbLt)
  have b1 : Below B0 w w1 := hf.below (by omega) (fun q hq => by
    have hb := h.book.base
    rcases hq with rfl | rfl | ⟨e, he, rfl | rfl⟩
    · omega
    · omega
    · have := (hb.2.2 e he).1; omega
    · have := (hb.2.2 e he).2; omega)
  exact b1.trans (hf2.below (by have := hf.size; omega) (fun q hq => by have := (h.mod.smLt hq).1; omega))

theorem ModelAt.swap {w w1 : World} {B pb : Nat} {mv : Value} {M M' : List Mo} (h : ModelAt w B pb mv M) (hb : Below w.heap.size w w1) (hsub : M'.Sublist M) {v : Value} (hrow : w1.ownsRow w.heap.size 44 3 v M'.length (M'.flatMap Mo.cells)) :
    ModelAt (w1.setCell ⟨pb, 0, none⟩ v) B pb v M' := by
  have hM1 := h.below hb
  have hB : B ≤ w.heap.size := Nat.le_trans h.pbB (Nat.le_of_lt h.pbLt)
  have hf2 : Fr (fun q => q = pb) w1 (w1.setCell ⟨pb, 0, none⟩ v) := (Fr.refl (fun q => q = pb) w1).set1 (g := pb) rfl _
  refine ⟨row_setCell hM1.cell _, ?_, fun x hx => ?_, h.apart.sublist hsub, h.pbB⟩
  · have h1 := owns_fr hf2 hrow (fun k hk e => by have := (World.ownsRow.lt hrow k hk).1; have := h.pbLt; omega)
    refine ⟨h1.1, ?_⟩
    rcases h1.2 with h2 | ⟨g, cap, cur, e1, e2, e3⟩
    · exact .inl h2
    · exact .inr ⟨g, cap, cur, e1, Nat.le_trans hB e2, e3⟩
  · have hxM := hsub.subset hx
    exact (hM1.views x hxM).keep fun q hq => hf2.block q (ViewAt.lt (hM1.views x hxM) q hq).2 (fun e => hM1.view_pb hxM (e ▸ hq))
def notOf (s : ByteArray) (x : Mo) : Bool := !(x.en.sub.toList == s.toList)
theorem forget_map (M : List Mo) (s : ByteArray) : forgetE (M.map Mo.en) s = (M.filter (notOf s)).map Mo.en := by
  unfold forgetE
  rw [List.filter_map]
  rfl
theorem PlayAt.forget {w w1 w2 : World} {B bb bm pb most : Nat} {age : Int} {mv v : Value} {M : List Mo} {k : Nat} (h : PlayAt w B bb bm pb most age mv M k) (s : ByteArray) (hb : Below w.heap.size w w1) (hrow : w1.ownsRow w.heap.size 44 3 v (M.filter (notOf s)).length ((M.filter (notOf s)).flatMap Mo.cells))
    (hB : BookAt w2 B bb bm most age (forgetE (M.map Mo.en) s)) (hf : Fr (fun q => q = bm) (w1.setCell ⟨pb, 0, none⟩ v) w2) : PlayAt w2 B bb bm pb most age v (M.filter (notOf s)) k := by
  have hsub : (M.filter (notOf s)).Sublist M := List.filter_sublist
  have hM := h.mod.swap hb hsub hrow
  have hMb : BookAt (w1.setCell ⟨pb, 0, none⟩ v) B bb bm most age (M.map Mo.en) := by
    have hf2 : Fr (fun q => q = pb) w1 (w1.setCell ⟨pb, 0, none⟩ v) := (Fr.refl (fun q => q = pb) w1).set1 (g := pb) rfl _
    have hap : ∀ q, SB bb bm (M.map Mo.en) q → q ≠ pb := fun q h1 e => by
      subst e
      exact play_apart h.book h.mod (fun x hx e he => by obtain ⟨y, hy, rfl⟩ := List.mem_map.1 he; exact h.cross x hx y hy) h1 (.inl rfl)
    exact (h.book.keep hb).fr hf2 (hap bb (.inl rfl)) (hap bm (.inr (.inl rfl))) (fun e he => ⟨hap _ (.inr (.inr ⟨e, he, .inl rfl⟩)), hap _ (.inr (.inr ⟨e, he, .inr rfl⟩))⟩)
  have hc : ∀ x ∈ M.filter (notOf s), ∀ e ∈ M.map Mo.en, x.v.ownBlock ≠ some e.lb := fun x hx e he => by
    obtain ⟨y, hy, rfl⟩ := List.mem_map.1 he
    exact h.cross x (hsub.subset hx) y hy
  have hM2 : ModelAt w2 B pb v (M.filter (notOf s)) := hM.fr hf (fun q h2 e => play_apart hMb hM hc (.inr (.inl e)) h2)
  exact ⟨by rw [← forget_map]; exact hB, hM2, fun x hx y hy => h.cross x (hsub.subset hx) y (hsub.subset hy), fun x hx => h.good x (hsub.subset hx), Nat.le_trans hsub.length_le h.len⟩
theorem PlayAt.bookSwap {w w1 : World} {B bb bm pb most : Nat} {age : Int} {mv v : Value} {M : List Mo} {k : Nat} (h : PlayAt w B bb bm pb most age mv M k) (hb : Below w.heap.size w w1) : BookAt (w1.setCell ⟨pb, 0, none⟩ v) B bb bm most age (M.map Mo.en) := by
  have hf2 : Fr (fun q => q = pb) w1 (w1.setCell ⟨pb, 0, none⟩ v) := (Fr.refl (fun q => q = pb) w1).set1 (g := pb) rfl _
  have hap : ∀ q, SB bb bm (M.map Mo.en) q → q ≠ pb := fun q h1 e => by
    subst e
    exact play_apart h.book h.mod (fun x hx e he => by obtain ⟨y, hy, rfl⟩ := List.mem_map.1 he; exact h.cross x hx y hy) h1 (.inl rfl)
  exact (h.book.keep hb).fr hf2 (hap bb (.inl rfl)) (hap bm (.inr (.inl rfl))) (fun e he => ⟨hap _ (.inr (.inr ⟨e, he, .inl rfl⟩)), hap _ (.inr (.inr ⟨e, he, .inr rfl⟩))⟩)
end Go.Proofs.Ytoamjihchmokcaa
