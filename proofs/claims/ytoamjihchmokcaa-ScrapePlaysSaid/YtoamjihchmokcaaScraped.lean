/- The contract of chapter 11's scraped: what a sample should answer, by the model. Condition: the model lies in blocks of the call's own; names and bits are what Go bears. -/
import Derived.Test.YtoamjihchmokcaaRefNmM
import Derived.Test.YtoamjihchmokcaaQRow
import Derived.Test.YtoamjihchmokcaaAppLoudM
namespace Go.Proofs.Ytoamjihchmokcaa
open Go.ChangeShapes Go.WideShapes Go.ChangeAt Go.RowKit Go.Deep Go.Maps

def actOf (most : Nat) (E : List En) (at0 : Int) (sub met : ByteArray) (bits rb lb : Nat) : (Int × Int) × List En :=
  if preOf at0 sub met bits = 0 then
    match findE E (serBytes sub.data.toList met.data.toList) with
    | none => ((((refOf bits).1 : Int), 0), E ++ [⟨sub, met, rb, lb, [⟨at0, (refOf bits).1⟩]⟩])
    | some en => ((if (putOf most en.L ⟨at0, (refOf bits).1⟩).1 = 0 then ((refOf bits).1 : Int) else 0, (putOf most en.L ⟨at0, (refOf bits).1⟩).1), setL E (serBytes sub.data.toList met.data.toList) (putOf most en.L ⟨at0, (refOf bits).1⟩).2)
  else ((0, preOf at0 sub met bits), E)
theorem find_congr {α : Type} {p q : α → Bool} : ∀ {l : List α}, (∀ x ∈ l, p x = q x) → l.find? p = l.find? q
  | [], _ => rfl
  | x :: l, h => by
    rw [List.find?_cons, List.find?_cons, h x (by simp), find_congr fun y hy => h y (by simp [hy])]
theorem findE_of {M : List Mo} {s m : ByteArray} (hM : ∀ x ∈ M, x.en.sub.size ≤ maxLen ∧ x.en.met.size ≤ maxLen) (hs : s.size ≤ maxLen) (hm : m.size ≤ maxLen) : findE (M.map Mo.en) (serBytes s.data.toList m.data.toList) = (M.find? fun x => serB x.en s m).map Mo.en := by
  unfold findE
  rw [List.find?_map]
  congr 1
  refine find_congr fun x hx => ?_
  exact (serB_key (hM x hx).1 (hM x hx).2 hs hm).symm
theorem findM_get {M : List Mo} {s m : ByteArray} {k : Nat} (h : findM M s m = some k) : ∃ hk : k < M.length, (M.find? fun x => serB x.en s m) = some M[k] ∧ serB M[k].en s m = true := by
  unfold findM at h
  obtain ⟨hk, h1, h2⟩ := List.findIdx?_eq_some_iff_getElem.1 h
  refine ⟨hk, ?_, h1⟩
  rw [List.find?_eq_some_iff_getElem]
  exact ⟨h1, k, hk, rfl, fun j hj => by simpa using h2 j hj⟩
theorem findM_none {M : List Mo} {s m : ByteArray} (h : findM M s m = none) : (M.find? fun x => serB x.en s m) = none := by
  unfold findM at h
  rw [List.findIdx?_eq_none_iff] at h
  exact List.find?_eq_none.2 fun x hx => by rw [h x hx]; decide
theorem setL_set {M : List Mo} {k : Nat} (hk : k < M.length) (hd : M.Pairwise fun x y => x.en.key ≠ y.en.key) (L : List Sm) (v : Value) : (M.set k ⟨{ M[k].en with L := L }, v⟩).map Mo.en = setL (M.map Mo.en) M[k].en.key L := by
  refine List.ext_getElem (by simp [setL]) fun j h1 h2 => ?_
  simp only [setL, List.getElem_map, List.getElem_set]
  have hj : j < M.length := by simpa using h1
  by_cases hjk : k = j
  · subst hjk
    simp
  · rw [if_neg hjk, if_neg]
    intro e
    rcases Nat.lt_or_gt_of_ne hjk with h | h
    · exact List.pairwise_iff_getElem.1 hd k j hk hj h e.symm
    · exact List.pairwise_iff_getElem.1 hd j k hj hk h e
def ScrapedPost (B pb : Nat) (mv : Value) (M : List Mo) (r : (Int × Int) × List En) (w : World) (e : Ending) (w' : World) : Prop :=
  e = .returned (.tuple #[.int .i64 r.1.1, .int .i64 r.1.2]) ∧ ∃ mv' M', ModelAt w' B pb mv' M' ∧ M'.map Mo.en = r.2 ∧ Fr (SM pb mv M) w w' ∧ ∀ q, SM pb mv' M' q → SM pb mv M q ∨ w.heap.size ≤ q
theorem ViewAt.capLe {w : World} {B : Nat} {e : TypeId} {size : Nat} {a : Addr} {m cap n : Nat} {xs : List Value} (h : ViewAt w B e size (.slice (some a) m cap) n xs) : n ≤ cap := by
  rcases h.2 with ⟨h1, _⟩ | ⟨g, off, cap', cur, h1, _, _, h2, _⟩
  · cases h1
  · cases h1; exact h2
theorem nil_or_app {α : Type} (L : List α) : L = [] ∨ ∃ L0 y, L = L0 ++ [y] := by
  rcases List.eq_nil_or_concat L with h | ⟨a, b, h⟩
  · exact .inl h
  · exact .inr ⟨a, b, by rw [h, List.concat_eq_append]⟩
theorem SlR.flat' {w : World} {ao : Option Addr} {n cap : Nat} {L : List Sm} (h : SlR (Flat Sm.cells) 2 w ao n cap L) {j : Nat} (hj : j < L.length) : ∃ g off, ao = some ⟨g, off, none⟩ ∧ w.cell? ⟨g, off + j * 2, none⟩ = some (.int .i64 L[j].at0) := by
  obtain ⟨g, off, rfl⟩ := h.ptr (by decide) (by rw [← h.hlen]; omega)
  exact ⟨g, off, rfl, by have := h.flat hj 0 _ rfl; rwa [Nat.add_zero] at this⟩
theorem elemSer : ElemOK Try.prog 31 44 3 56 := .mk' Try.underlying31 (by kernel_rfl) (by decide)
theorem oneSer (s m : ByteArray) (w : World) : (Instr.buildSlice 31 1 [(0, .agg #[.string s, .string m, .slice none 0 0])].toArray).run Try.prog w = .ok (.slice (some ⟨w.heap.size, 0, none⟩) 1 1) (w.alloc (.cells #[.string s, .string m, .slice none 0 0] 44)) := by kernel_rfl
theorem oneSm (a v : Int) (w : World) : (Instr.buildSlice 42 1 [(0, .agg #[.int .i64 a, .int .i64 v])].toArray).run Try.prog w = .ok (.slice (some ⟨w.heap.size, 0, none⟩) 1 1) (w.alloc (.cells #[.int .i64 a, .int .i64 v] 64)) := by kernel_rfl
theorem aggSeries : AggOK Try.prog 33 2 := .mk' (by kernel_rfl) (by kernel_rfl)
theorem store_sl11 {w : World} {q : Addr} {ao : Option Addr} {n cap : Nat} (t : TypeId) (ht : (sizeOf t).run Try.prog w = .ok 1 w) (hc : (w.cell? q).isSome = true) (hf : w.frozen? q = false) : (Instr.storeAt t (.pointer (some q)) (.slice ao n cap)).run Try.prog w = .ok () (w.setCell q (.slice ao n cap)) := by
  obtain ⟨u, hu⟩ := Option.isSome_iff_exists.1 hc
  simp [go_sem, ht, hu, hf, storeVar]
theorem buildSer (s m : ByteArray) (w : World) : (Instr.build 44 [(0, .agg #[.string s, .string m])].toArray).run Try.prog w = .ok (.agg #[.string s, .string m, .slice none 0 0]) w := by kernel_rfl
theorem wpLoud_append_one {P : Program} {C : World → Prop} {b : Nat} {R : Act → World → Prop} {t e : TypeId} {size bytes : Nat} (E : ElemOK P t e size bytes) {j : Nat} {r : List Nat} {A : Act} {w : World} {l : List Oper} {o : Oper} (ho : nthOp j l = some o) (hg : o.guard = none)
    (s x : Operand) (hop : o.op = Op.call { callee := Callee.builtin Builtin.append, args := #[s, x], argTypes := #[t, t] })
    (B : Nat) (v : Value) (n : Nat) (xs : List Value) (hs : A.eval s = v) (hown : w.ownsRow B e size v n xs) (hB : B ≤ w.heap.size) (g : Nat) (cur : Array Value) (hx : A.eval x = .slice (some ⟨g, 0, none⟩) 1 1)
    (hcur : w.heap[g]? = some (.cells cur e (0, 0))) (hl : cur.size = size) (h1 : cur.toList.all (fun u => u.oneCell') = true) (h63 : n + 1 ≤ maxLen) (hbytes : (n + 1) * bytes ≤ 140737488355328)
    (hK : ∀ g' cap' w', w'.ownsRow B e size (.slice (some ⟨g', 0, none⟩) (n + 1) cap') (n + 1) (xs ++ cur.toList) → w.grownBy w' v.ownBlock → (v.ownBlock = some g' ∨ w.heap.size ≤ g') → (j < b → C w') ∧ wpLoud P l.toArray C b R r (A.put o.dst (.slice (some ⟨g', 0, none⟩) (n + 1) cap')) w') :
    wpLoud P l.toArray C b R (j :: r) A w := by
  obtain ⟨g', cap', w', hr, r1, r2, r3⟩ := run_append_new E o.type w B v n xs hown hB g cur hcur hl h1 h63 hbytes
  refine wpLoud_run (v := .slice (some ⟨g', 0, none⟩) (n + 1) cap') (w' := w') ho hg ?_ (hK g' cap' w' r1 r2 r3)
  unfold execOp
  simp only [hop, resolve, invoke, builtin, Sem.run_bind, Sem.run_pure, Result.andThen_ok, List.map_toArray, List.map_cons, List.map_nil, hs, hx, hr]

structure MidS (w0 W wx : World) (B pb : Nat) (mv : Value) (M : List Mo) (most : Nat) (at0 x : Int) (r : (Int × Int) × List En) (mv1 : Value) (M1 : List Mo) (k : Nat) : Prop where
  lt : k < M1.length
  at_ : ModelAt wx B pb mv1 M1
  fr : Fr (SM pb mv M) W wx
  sm : ∀ q, SM pb mv1 M1 q → SM pb mv M q ∨ w0.heap.size ≤ q
  set_ : ∀ v, (M1.set k ⟨{ M1[k].en with L := (putOf most M1[k].en.L ⟨at0, x⟩).2 }, v⟩).map Mo.en = r.2
  same : (putOf most M1[k].en.L ⟨at0, x⟩).1 ≠ 0 → M1.map Mo.en = r.2
  ans : r.1 = (if (putOf most M1[k].en.L ⟨at0, x⟩).1 = 0 then x else 0, (putOf most M1[k].en.L ⟨at0, x⟩).1)
  len : M1[k].en.L.length ≤ most
theorem putOf_or (most : Nat) (L : List Sm) (x : Sm) : putOf most L x = (13, L) ∨ putOf most L x = (0, (if L.length = most then L.tail else L) ++ [x]) := by
  unfold putOf
  exact (Decidable.em _).imp (fun h => if_pos h) (fun h => if_neg h)
theorem putOf_stale {most : Nat} {L : List Sm} {x : Sm} (h : (putOf most L x).1 ≠ 0) : (putOf most L x).2 = L := by
  rcases putOf_or most L x with e | e
  · rw [e]
  · rw [e] at h
    exact absurd rfl h
theorem set_same {M : List Mo} {k : Nat} (hk : k < M.length) (v : Value) : (M.set k ⟨{ M[k].en with L := M[k].en.L }, v⟩).map Mo.en = M.map Mo.en := by
  refine List.ext_getElem (by simp) fun j h1 h2 => ?_
  simp only [List.getElem_map, List.getElem_set]
  split
  · rename_i e; subst e; rfl
  · rfl
theorem MidS.old {w0 W wx : World} {B pb : Nat} {mv : Value} {M : List Mo} {most : Nat} {at0 : Int} {s m : ByteArray} {bits rb lb k : Nat} (hM : ModelAt wx B pb mv M) (hf : Fr (SM pb mv M) W wx) (hn : ∀ x ∈ M, x.en.sub.size ≤ maxLen ∧ x.en.met.size ≤ maxLen) (hs : s.size ≤ maxLen) (hm : m.size ≤ maxLen)
    (hd : M.Pairwise fun x y => x.en.key ≠ y.en.key) (hl : ∀ x ∈ M, x.en.L.length ≤ most) (hp : preOf at0 s m bits = 0) (h : findM M s m = some k) : MidS w0 W wx B pb mv M most at0 (refOf bits).1 (actOf most (M.map Mo.en) at0 s m bits rb lb) mv M k := by
  obtain ⟨hk, h1, h2⟩ := findM_get h
  have hkey : M[k].en.key = serBytes s.data.toList m.data.toList := eq_of_beq ((serB_key (hn _ (List.getElem_mem hk)).1 (hn _ (List.getElem_mem hk)).2 hs hm).symm.trans h2)
  have ha : actOf most (M.map Mo.en) at0 s m bits rb lb = ((if (putOf most M[k].en.L ⟨at0, (refOf bits).1⟩).1 = 0 then ((refOf bits).1 : Int) else 0, (putOf most M[k].en.L ⟨at0, (refOf bits).1⟩).1), setL (M.map Mo.en) M[k].en.key (putOf most M[k].en.L ⟨at0, (refOf bits).1⟩).2) := by
    unfold actOf
    rw [if_pos hp, findE_of hn hs hm, h1, hkey]
    rfl
  refine ⟨hk, hM, hf, fun q h => .inl h, fun v => by rw [ha]; exact setL_set hk hd _ v, fun h3 => ?_, by rw [ha], hl _ (List.getElem_mem hk)⟩
  rw [ha]
  show _ = setL _ _ _
  rw [← setL_set hk hd _ (.slice none 0 0), putOf_stale h3]
  exact (set_same hk _).symm
theorem MidS.fresh {w0 W wx : World} {B pb : Nat} {mv mv1 : Value} {M : List Mo} {most : Nat} {at0 : Int} {s m : ByteArray} {bits rb lb : Nat} (hM : ModelAt wx B pb mv1 (M ++ [⟨⟨s, m, rb, lb, []⟩, .slice none 0 0⟩])) (hf : Fr (SM pb mv M) W wx) (hsm : ∀ q, mv1.ownBlock = some q → mv.ownBlock = some q ∨ w0.heap.size ≤ q)
    (hn : ∀ x ∈ M, x.en.sub.size ≤ maxLen ∧ x.en.met.size ≤ maxLen) (hs : s.size ≤ maxLen) (hm : m.size ≤ maxLen) (h1 : 1 ≤ most) (hp : preOf at0 s m bits = 0) (h : findM M s m = none) :
    MidS w0 W wx B pb mv M most at0 (refOf bits).1 (actOf most (M.map Mo.en) at0 s m bits rb lb) mv1 (M ++ [⟨⟨s, m, rb, lb, []⟩, .slice none 0 0⟩]) M.length := by
  have ha : actOf most (M.map Mo.en) at0 s m bits rb lb = ((((refOf bits).1 : Int), 0), M.map Mo.en ++ [⟨s, m, rb, lb, [⟨at0, (refOf bits).1⟩]⟩]) := by
    unfold actOf
    rw [if_pos hp, findE_of hn hs hm, findM_none h]
    rfl
  have hg : (M ++ [(⟨⟨s, m, rb, lb, []⟩, .slice none 0 0⟩ : Mo)])[M.length]'(by simp) = ⟨⟨s, m, rb, lb, []⟩, .slice none 0 0⟩ := by simp
  have hpo : putOf most ([] : List Sm) ⟨at0, (refOf bits).1⟩ = (0, [⟨at0, (refOf bits).1⟩]) := by
    have h0 : ¬ (0 = most) := by omega
    simp [putOf, h0]
  refine ⟨by simp, hM, hf, ?_, ?_, ?_, ?_, ?_⟩
  · rintro q (h | h | ⟨x, hx, h⟩)
    · exact .inl (.inl h)
    · exact (hsm q h).imp (fun h => .inr (.inl h)) id
    · rcases List.mem_append.1 hx with hx | hx
      · exact .inl (.inr (.inr ⟨x, hx, h⟩))
      · rw [List.mem_singleton.1 hx] at h; cases h
  · intro v
    rw [hg, ha]
    simp [hpo]
  · rw [hg, hpo]; exact fun h => absurd rfl h
  · rw [hg, ha, hpo]; rfl
  · rw [hg]; exact Nat.zero_le _

theorem MidS.stale {w0 W wx wn : World} {B pb : Nat} {mv : Value} {M : List Mo} {most : Nat} {at0 x : Int} {r : (Int × Int) × List En} {mv1 : Value} {M1 : List Mo} {k : Nat} (h : MidS w0 W wx B pb mv M most at0 x r mv1 M1 k) (hW : Below w0.heap.size w0 W) (hn : Below wx.heap.size wx wn) (h1 : (putOf most (M1[k]'h.lt).en.L ⟨at0, x⟩).1 = 13) :
    ScrapedPost B pb mv M r w0 (.returned (.tuple #[.int .i64 0, .int .i64 13])) wn := by
  have ha := h.ans
  rw [h1] at ha
  refine ⟨by rw [ha]; rfl, mv1, M1, h.at_.below hn, h.same (by rw [h1]; decide), ((Fr.of_below hW _).trans h.fr (fun i hi => .inl hi)).then hn, h.sm⟩
theorem MidS.done {w0 W wx wn w1 : World} {B pb : Nat} {mv : Value} {M : List Mo} {most : Nat} {at0 x : Int} {r : (Int × Int) × List En} {M1 : List Mo} {k g n cap : Nat} (h : MidS w0 W wx B pb mv M most at0 x r (.slice (some ⟨g, 0, none⟩) n cap) M1 k) (hW : Below w0.heap.size w0 W) (hn : Below wx.heap.size wx wn)
    (h1 : (putOf most (M1[k]'h.lt).en.L ⟨at0, x⟩).1 = 0) (L' : List Sm) (h2 : (putOf most (M1[k]'h.lt).en.L ⟨at0, x⟩).2 = L') (hf : Fr (fun q => (M1[k]'h.lt).v.ownBlock = some q) wn w1) (v' : Value) (hv : ViewAt w1 B 64 2 v' L'.length (L'.flatMap Sm.cells))
    (hnew : ∀ q, v'.ownBlock = some q → (M1[k]'h.lt).v.ownBlock = some q ∨ wn.heap.size ≤ q) :
    ScrapedPost B pb mv M r w0 (.returned (.tuple #[.int .i64 x, .int .i64 0])) (w1.setCell ⟨g, k * 3 + 2, none⟩ v') := by
  have ha := h.ans
  rw [h1, if_pos rfl] at ha
  have hMn := h.at_.below hn
  have hset := h.set_ v'
  rw [h2] at hset
  have hfW : Fr (SM pb mv M) w0 wn := ((Fr.of_below hW _).trans h.fr (fun i hi => .inl hi)).then hn
  have hsz : w0.heap.size ≤ wn.heap.size := hfW.size
  have hS1 : ∀ q, (M1[k]'h.lt).v.ownBlock = some q → SM pb mv M q ∨ w0.heap.size ≤ q := fun q hq => h.sm q (.inr (.inr ⟨_, List.getElem_mem h.lt, hq⟩))
  have hS2 : SM pb mv M g ∨ w0.heap.size ≤ g := h.sm g (.inr (.inl rfl))
  refine ⟨by rw [ha], _, _, hMn.setL h.lt L' v' hf hv hnew, hset, ?_, ?_⟩
  · refine hfW.trans (T := fun q => (M1[k]'h.lt).v.ownBlock = some q ∨ q = g) ((hf.weaken fun i hi => .inl hi).set1 (g := g) (.inr rfl) _) ?_
    rintro i (hi | rfl)
    · exact hS1 i hi
    · exact hS2
  · rintro q (hq | hq | ⟨y, hy, hq⟩)
    · exact .inl (.inl hq)
    · exact h.sm q (.inr (.inl hq))
    · obtain ⟨j, hj, rfl⟩ := List.getElem_of_mem hy
      rw [List.length_set] at hj
      by_cases hjk : k = j
      · subst hjk
        rw [List.getElem_set_self] at hq
        rcases hnew q hq with e | e
        · exact hS1 q e
        · exact .inr (by omega)
      · rw [List.getElem_set_ne hjk] at hq
        exact h.sm q (.inr (.inr ⟨_, List.getElem_mem hj, hq⟩))

set_option maxRecDepth 100000 in
set_option maxHeartbeats 4000000 in
theorem scraped_any (M : List Mo) (B pb most : Nat) (mv : Value) (kd at0 : Int) (s m : ByteArray) (bits rb lb : Nat) (w : World) (hM : ModelAt w B pb mv M) (hn : ∀ x ∈ M, x.en.sub.size ≤ maxLen ∧ x.en.met.size ≤ maxLen) (hd : M.Pairwise fun x y => x.en.key ≠ y.en.key)
    (hl : ∀ x ∈ M, x.en.L.length ≤ most) (hs : s.size ≤ 60) (hm : m.size ≤ 60) (hbits : bits < 18446744073709551616) (hm1 : 1 ≤ most) (hm2 : most ≤ 32) (hlen : M.length ≤ 512) :
    Calls Try.prog 7 #[.pointer (some ⟨pb, 0, none⟩), .int .i64 most, .agg #[.int .i64 kd, .int .i64 at0, .string s, .string m, .int .u64 bits]] w (ScrapedPost B pb mv M (actOf most (M.map Mo.en) at0 s m bits rb lb) w) := by
  have hs' : s.size ≤ maxLen := by unfold maxLen; omega
  have hm' : m.size ≤ maxLen := by unfold maxLen; omega
  obtain ⟨W, hW⟩ : ∃ W, w.alloc (.cells #[.int .i64 kd, .int .i64 at0, .string s, .string m, .int .u64 bits] 36) = W := ⟨_, rfl⟩
  have hB : Below w.heap.size w W := by rw [← hW]; exact (Below.refl _ _).alloc (Nat.le_refl _) _
  have hzW : W.heap.size = w.heap.size + 1 := by rw [← hW, World.size_alloc]
  have hbox : W.heap[w.heap.size]? = some (.cells #[.int .i64 kd, .int .i64 at0, .string s, .string m, .int .u64 bits] 36 (0, 0)) := by rw [← hW]; exact heap_alloc_new _ _
  have HBoxAll : Hid (∀ wx, Fr (SM pb mv M) W wx → wx.cell? ⟨w.heap.size, 1, none⟩ = some (.int .i64 at0) ∧ wx.cell? ⟨w.heap.size, 2, none⟩ = some (.string s) ∧ wx.cell? ⟨w.heap.size, 3, none⟩ = some (.string m) ∧ wx.cell? ⟨w.heap.size, 4, none⟩ = some (.int .u64 bits)) := fun wx hf => by
    have hb := hf.heap hbox (fun h => by have := (hM.smLt h).2; omega)
    exact ⟨cell_of_row wx _ 1 _ _ _ hb, cell_of_row wx _ 2 _ _ _ hb, cell_of_row wx _ 3 _ _ _ hb, cell_of_row wx _ 4 _ _ _ hb⟩
  have HFin : Hid (∀ wx c, Below W.heap.size W wx → preOf at0 s m bits = c → c ≠ 0 → ScrapedPost B pb mv M (actOf most (M.map Mo.en) at0 s m bits rb lb) w (.returned (.tuple #[.int .i64 0, .int .i64 c])) wx) := fun wx c hb hc h0 => by
    have hbw : Below w.heap.size w wx := hB.trans (hb.mono (by omega))
    have ha : actOf most (M.map Mo.en) at0 s m bits rb lb = ((0, c), M.map Mo.en) := by unfold actOf; rw [if_neg (by rw [hc]; exact h0), hc]
    rw [ha]
    exact ⟨rfl, mv, M, hM.below hbw, rfl, Fr.of_below hbw _, fun q h => .inl h⟩
  have HMW : Hid (∀ wx, Below W.heap.size W wx → ModelAt wx B pb mv M) := fun wx hb => hM.below (hB.trans (hb.mono (by omega)))
  obtain ⟨ao, cap, hmv, hSM⟩ := hM.reads
  have HSM := Lib.hid hSM
  have Hmv := Lib.hid hmv
  have HMid1 : Hid (∀ k wx, findM M s m = some k → preOf at0 s m bits = 0 → Fr (SM pb mv M) W wx → ModelAt wx B pb mv M → MidS w W wx B pb mv M most at0 (refOf bits).1 (actOf most (M.map Mo.en) at0 s m bits rb lb) mv M k) := fun k wx h hp hf hM => MidS.old hM hf hn hs' hm' hd hl hp h
  have HMid2 : Hid (∀ wx mv1, findM M s m = none → preOf at0 s m bits = 0 → Fr (SM pb mv M) W wx → ModelAt wx B pb mv1 (M ++ [⟨⟨s, m, rb, lb, []⟩, .slice none 0 0⟩]) → (∀ q, mv1.ownBlock = some q → mv.ownBlock = some q ∨ w.heap.size ≤ q) →
      MidS w W wx B pb mv M most at0 (refOf bits).1 (actOf most (M.map Mo.en) at0 s m bits rb lb) mv1 (M ++ [⟨⟨s, m, rb, lb, []⟩, .slice none 0 0⟩]) M.length) := fun wx mv1 h hp hf hM hsm => MidS.fresh hM hf hsm hn hs' hm' hm1 hp h
  have HPre : Hid (preOf at0 s m bits = if at0 < 0 ∨ 4611686018427387904 < at0 then 1 else if nameOf s.data.toList = true ∧ nameOf m.data.toList = true then (refOf bits).2 else 6) := rfl
  have HN1 := Lib.hid (fun w => refName_any s hs' w)
  have HN2 := Lib.hid (fun w => refName_any m hm' w)
  have HRd := Lib.hid (fun w => read_any bits w hbits)
  obtain ⟨b0, b1, b2, b3⟩ := HBoxAll.out W (Fr.refl _ _)
  have HmW := Lib.hid (hM.below hB)
  have HBw := Lib.hid hB
  obtain ⟨pre, hpre⟩ : ∃ c, preOf at0 s m bits = c := ⟨_, rfl⟩
  obtain ⟨rx, hrx⟩ : ∃ c : Int, ((refOf bits).1 : Int) = c := ⟨_, rfl⟩
  obtain ⟨re, hre⟩ : ∃ c, (refOf bits).2 = c := ⟨_, rfl⟩
  obtain ⟨R, hR⟩ : ∃ c, actOf most (M.map Mo.en) at0 s m bits rb lb = c := ⟨_, rfl⟩
  obtain ⟨n1, hn1⟩ : ∃ c, nameOf s.data.toList = c := ⟨_, rfl⟩
  obtain ⟨n2, hn2⟩ : ∃ c, nameOf m.data.toList = c := ⟨_, rfl⟩
  rw [hpre] at HFin HMid1 HMid2 HPre
  rw [hrx] at HMid1 HMid2 HRd
  rw [hre] at HPre HRd
  rw [hR] at HFin HMid1 HMid2 ⊢
  rw [hn1] at HPre HN1
  rw [hn2] at HPre HN2
  clear hpre hrx hre hR hn1 hn2 hM hn hd hl hB hbox hbits hSM hs hm hmv
  obtain ⟨N, hN⟩ : ∃ N, w.heap.size = N := ⟨_, rfl⟩
  rw [hN] at b0 b1 b2 b3 HBoxAll hzW
  have HN := Lib.hid hN
  go_enter Try.func7, Try.ntmps7
  by_cases h1 : at0 < 0
  · skip
    have hd1 : decide (at0 < 0) = true := decide_eq_true h1
    have Hc : Hid (pre = 1) := HPre.out.trans (if_pos (.inl h1))
    clear h1
    go_wp2_with fail
    go_ret2
    exact HFin.out _ 1 (Below.refl _ _) Hc.out (by decide)
  have hd1 : decide (at0 < 0) = false := decide_eq_false h1
  by_cases h2 : at0 > 4611686018427387904
  · skip
    have hd2 : decide (at0 > 4611686018427387904) = true := decide_eq_true h2
    have Hc : Hid (pre = 1) := HPre.out.trans (if_pos (.inr h2))
    clear h1 h2
    go_wp2_with fail
    go_ret2
    exact HFin.out _ 1 (Below.refl _ _) Hc.out (by decide)
  have hd2 : decide (at0 > 4611686018427387904) = false := decide_eq_false h2
  have HPre2 : Hid (pre = if n1 = true ∧ n2 = true then re else 6) := HPre.out.trans (if_neg (by omega))
  have hat : 0 ≤ at0 ∧ at0 ≤ 4611686018427387904 := by omega
  clear h1 h2
  go_wp2_with fail
  refine (HN1.out W).mono ?_
  rintro e w1 ⟨rfl, hw⟩
  obtain rfl := hw.symm
  cases n1
  · skip
    have Hc : Hid (pre = 6) := HPre2.out.trans (if_neg (by simp))
    go_wp2_with fail
    go_ret2
    exact HFin.out _ 6 (Below.refl _ _) Hc.out (by decide)
  go_wp2_with fail
  refine (HN2.out W).mono ?_
  rintro e w2 ⟨rfl, hw⟩
  obtain rfl := hw.symm
  cases n2
  · skip
    have Hc : Hid (pre = 6) := HPre2.out.trans (if_neg (by simp))
    go_wp2_with fail
    go_ret2
    exact HFin.out _ 6 (Below.refl _ _) Hc.out (by decide)
  have Hc : Hid (pre = re) := HPre2.out.trans (if_pos (by simp))
  go_wp2_with fail
  refine (HRd.out W).mono ?_
  rintro e w3 ⟨rfl, hb3⟩
  have HB3 := Lib.hid hb3
  have hz3 : N + 1 ≤ w3.heap.size := by have := hb3.size; omega
  clear hb3
  by_cases hre0 : re = 0
  · subst hre0
    have HM3 := Lib.hid (HMW.out w3 HB3.out)
    obtain ⟨c0, c1, c2, c3⟩ := HBoxAll.out w3 (Fr.of_below HB3.out _)
    have cm : w3.cell? ⟨pb, 0, none⟩ = some mv := cell_of_row w3 pb 0 _ _ _ HM3.out.cell
    have HFd : Hid (∀ wx, Below w3.heap.size w3 wx → Calls Try.prog 11 #[mv, .agg #[.string s, .string m]] wx fun e w' => e = .returned (.int .i64 (findI M s m)) ∧ Below wx.heap.size wx w') := fun wx hb => by
      rw [Hmv.out]
      exact find_any M s m ao M.length cap wx (HSM.out.flatKeeps (Keeps.below (HBw.out.trans ((HB3.out.trans (hb.mono HB3.out.size)).mono (by omega)))))
    obtain ⟨fi, hfi⟩ : ∃ c, findI M s m = c := ⟨_, rfl⟩
    rw [hfi] at HFd
    have Hfi := Lib.hid hfi
    replace c1 := BW.cell c1
    replace c2 := BW.cell c2
    replace cm := BW.cell cm
    clear hfi b0 b1 b2 b3
    go_upto_region 8 with fail
    refine wp_region_head_lit 6 (fun w' => ∃ p : BW w3, w' = p.w') (by kernel_rfl) (by kernel_rfl) ⟨⟨{ w3 with drawn := w3.drawn + 1 }, ⟨rfl, rfl, rfl, Nat.le_refl _, fun _ _ => rfl⟩⟩, rfl⟩ ?_
    simp only [List.take_succ_cons, List.take_zero, List.drop_succ_cons, List.drop_zero]
    repeat (quiet_step (first | (go_at_call 11; with_reducible exact BW.call _ (HFd.out _ (BW.h _))) | exact rfl))
    refine wpQuiet_nil ?_
    intro w4 hw'
    obtain ⟨⟨_, hb4⟩, e4⟩ := hw'
    dsimp only at e4
    subst e4
    have HB4 := Lib.hid (HB3.out.trans (hb4.mono HB3.out.size))
    have hz4 : N + 1 ≤ w4.heap.size := by have := hb4.size; omega
    clear hb4 c0 c1 c2 c3 HM3 HFd HB3
    clear cm
    have HM4 := Lib.hid (HMW.out w4 HB4.out)
    obtain ⟨c0, c1, c2, c3⟩ := HBoxAll.out w4 (Fr.of_below HB4.out _)
    have cm : w4.cell? ⟨pb, 0, none⟩ = some mv := cell_of_row w4 pb 0 _ _ _ HM4.out.cell
    go_upto_if 48 with fail
    go_cut [10] from 48 to 63 (fun v10 wx => ∃ mv1 M1 k, v10 = .int .i64 (k : Nat) ∧ Hid (MidS w W wx B pb mv M most at0 rx R mv1 M1 k))
    case first =>
      cases hf : findM M s m with
      | some k =>
        obtain rfl : fi = k := Hfi.out.symm.trans (findI_some hf)
        have hd3 : decide ((k : Int) < 0) = false := decide_eq_false (by omega)
        have HMi := Lib.hid (HMid1.out k w4 hf Hc.out (Fr.of_below HB4.out _) HM4.out)
        clear hf
        go_wp2_with fail
        go_meet
        case rel => exact ⟨mv, M, k, rfl, HMi⟩
      | none =>
        obtain rfl : fi = -1 := Hfi.out.symm.trans (findI_none hf)
        have Hf := Lib.hid hf
        obtain ⟨ml, hml⟩ : ∃ k, M.length = k := ⟨_, rfl⟩
        have Hml := Lib.hid hml
        have mixed : Try.prog.follows .mixedOrders = true := by kernel_rfl
        have hd4 := BW.cells (w := w4) (p := ⟨N, 2, none⟩) (cs := [.string s, .string m]) (fun t u hu => by
          rw [Addr.add_lit]
          rcases t with _ | _ | t
          · cases hu; exact c1
          · cases hu; exact c2
          · simp at hu)
        replace cm := BW.cell cm
        have hpbz : pb < w4.heap.size := HM4.out.pbLt
        clear hf hml
        go_upto_region 10 with fail
        refine region_later mixed ?_
        obtain ⟨w5, hw5⟩ : ∃ q : World, { w4 with drawn := w4.drawn + 1 } = q := ⟨_, rfl⟩
        have hb5 : Below w4.heap.size w4 w5 := by rw [← hw5]; exact ⟨rfl, rfl, rfl, Nat.le_refl _, fun _ _ => rfl⟩
        have hz5 : w5.heap.size = w4.heap.size := by rw [← hw5]
        rw [hw5]
        refine later_phase (fun w' => ∃ b : BW w4, w' = b.w') [7, 8, 10] 8 0 11 30 (by kernel_rfl) (by kernel_rfl) ⟨⟨w5, hb5⟩, rfl⟩ ?_
        have HM5 := Lib.hid (HM4.out.below hb5)
        have HB5 := Lib.hid (HB4.out.trans (hb5.mono HB4.out.size))
        clear hw5
        repeat (first | (refine wpVal_skipR rfl ?_) | (refine wpVal_takeR rfl ?_; first | (refine wpVal_loadK aggSeries rfl _ rfl ⟨N, 2, none⟩ rfl _ rfl (by rintro _ ⟨bw, rfl⟩; exact hd4 bw) (fun K hK => ?_); go_simp; refine hK _ ?_; clear hK K) | (refine wpVal_oneK rfl (fun K hK => ?_); refine ⟨.agg #[.string s, .string m, .slice none 0 0], fun w => by unfold execOp; exact congrArg _ (buildSer s m w), ?_⟩; go_simp; refine hK _ ?_; clear hK K) | (refine wpVal_oneK rfl (fun K hK => ?_); refine ⟨_, fun w => by go_simp; rfl, ?_⟩; go_simp; refine hK _ ?_; clear hK K) | (refine wpVal_mem rfl rfl (fun K hK => ?_); refine ⟨_, by rintro _ ⟨bw, rfl⟩; go_simp; rfl, ?_⟩; go_simp; refine hK _ ?_; clear hK K)))
        refine wpVal_endR ?_
        refine wpLoud_build rfl rfl 31 1 [(0, .tmp 55)] rfl [(0, .agg #[.string s, .string m, .slice none 0 0])] rfl _ 44 (oneSer s m) ⟨fun _ => ⟨⟨w5.alloc (.cells #[.string s, .string m, .slice none 0 0] 44), hb5.alloc (by omega) _⟩, rfl⟩, ?_⟩
        obtain ⟨w6, hw6⟩ : ∃ q, w5.alloc (.cells #[.string s, .string m, .slice none 0 0] 44) = q := ⟨_, rfl⟩
        have hr6 : w6.heap[w5.heap.size]? = some (.cells #[.string s, .string m, .slice none 0 0] 44 (0, 0)) := by rw [← hw6]; exact heap_alloc_new _ _
        have hb6 : Below w5.heap.size w5 w6 := by rw [← hw6]; exact (Below.refl _ _).alloc (Nat.le_refl _) _
        rw [hw6]
        have hB6 : Below W.heap.size W w6 := HB5.out.trans (hb6.mono HB5.out.size)
        have HM6 := Lib.hid (HMW.out w6 hB6)
        have hrow6 := HM6.out.row
        rw [Hml.out] at hrow6
        refine wpLoud_append_one elemSer rfl rfl (.tmp 52) (.tmp 56) rfl B mv ml (M.flatMap Mo.cells) rfl hrow6 (Nat.le_trans HM6.out.pbB (Nat.le_of_lt HM6.out.pbLt)) w5.heap.size _ rfl hr6 rfl (by simp [Value.oneCell']) (by have := Hml.out; unfold maxLen; omega) (by have := Hml.out; omega) ?_
        intro g cap1 w7 hrow7 hg7 hn7
        refine ⟨fun h => absurd h (by decide), ?_⟩
        have hpb7 : w7.heap[pb]? = some (.cells #[mv] 31 (0, 0)) := (Fr.grown (S := fun q => mv.ownBlock = some q) hg7 (fun k hk => hk)).heap HM6.out.cell HM6.out.row_pb
        have HMi : Hid (MidS w W (w7.setCell ⟨pb, 0, none⟩ (.slice (some ⟨g, 0, none⟩) (ml + 1) cap1)) B pb mv M most at0 rx R (.slice (some ⟨g, 0, none⟩) (ml + 1) cap1) (M ++ [⟨⟨s, m, rb, lb, []⟩, .slice none 0 0⟩]) ml) := by
          have hmp := ModelAt.push HM4.out ⟨s, m, rb, lb, []⟩ rfl w6 ((hb5.trans (hb6.mono (by omega)))) (w1 := w7) (g := g) (cap := cap1) (by rw [Hml.out]; exact hrow7) hg7 hn7
          rw [Hml.out] at hmp
          have hfr : Fr (SM pb mv M) W (w7.setCell ⟨pb, 0, none⟩ (.slice (some ⟨g, 0, none⟩) (ml + 1) cap1)) := ((Fr.of_below hB6 (SM pb mv M)).trans (Fr.grown (S := SM pb mv M) hg7 (fun k hk => .inr (.inl hk))) (fun i hi => .inl hi)).set1 (g := pb) (.inl rfl) _
          have := HMid2.out _ _ Hf.out Hc.out hfr hmp (fun q hq => by
            simp only [Value.ownBlock, Option.some.injEq] at hq
            subst hq
            exact hn7.imp id (fun h => by have := hB6.size; rw [HN.out]; omega))
          rwa [Hml.out] at this
        have hcs : (Instr.storeAt 31 (.pointer (some ⟨pb, 0, none⟩)) (.slice (some ⟨g, 0, none⟩) (ml + 1) cap1)).run Try.prog w7 = .ok () (w7.setCell ⟨pb, 0, none⟩ (.slice (some ⟨g, 0, none⟩) (ml + 1) cap1)) := store_sl11 _ (by kernel_rfl) (by rw [cell_of_row w7 pb 0 _ _ _ hpb7]; rfl) (row_free hpb7 0)
        refine wpLoud_store rfl rfl 31 (.tmp 58) (.tmp 57) rfl ⟨pb, 0, none⟩ (.slice (some ⟨g, 0, none⟩) (ml + 1) cap1) rfl rfl hcs ⟨fun h => absurd h (by decide), ?_⟩
        obtain ⟨w8, hw8⟩ : ∃ q, w7.setCell ⟨pb, 0, none⟩ (.slice (some ⟨g, 0, none⟩) (ml + 1) cap1) = q := ⟨_, rfl⟩
        rw [hw8] at HMi ⊢
        refine wpLoud_nil ?_
        refine later_end 11 rfl ?_
        have cm8 : w8.cell? ⟨pb, 0, none⟩ = some (.slice (some ⟨g, 0, none⟩) (ml + 1) cap1) := cell_of_row w8 pb 0 _ _ _ HMi.out.at_.cell
        have hmlb : ml ≤ 512 := by have := Hml.out; omega
        clear hr6 hb6 hB6 HM6 hrow6 hrow7 hg7 hn7 hpb7 hd4 cm c0 c1 c2 c3 hb5 hw8 hcs hw6
        go_simp
        go_wp2_with fail
        go_meet
        case rel => exact ⟨_, _, ml, rfl, HMi⟩
    case rest =>
      obtain ⟨mv1, M1, k, rfl, HMi⟩ := hcut
      obtain ⟨wx, rfl⟩ : ∃ wx : World, wx = wc := ⟨_, rfl⟩
      have hk := HMi.out.lt
      have hM1 := HMi.out.at_
      have hll := HMi.out.len
      have hrow := hM1.row
      rcases hrow.2 with ⟨_, h0⟩ | ⟨g, cap1, cur, he, hbg, hg, hnc, hcm, _, _⟩
      · omega
      subst he
      have hreads := hM1.reads
      obtain ⟨ao1, cap2, e, hS1⟩ := hreads
      cases e
      have cv := hS1.flat hk 2 _ rfl
      rw [Nat.zero_add] at cv
      have hmk : M1[k] ∈ M1 := List.getElem_mem hk
      have hvw := hM1.views _ hmk
      have hvpb := hM1.view_pb hmk
      have hvrow : M1[k].v.ownBlock ≠ some g := hM1.view_row hmk rfl
      obtain ⟨x0, x1, x2, x3⟩ := HBoxAll.out wx HMi.out.fr
      have cm1 : wx.cell? ⟨pb, 0, none⟩ = some (.slice (some ⟨g, 0, none⟩) M1.length cap1) := cell_of_row wx pb 0 _ _ _ hM1.cell
      have HStale : Hid (∀ wn, Below wx.heap.size wx wn → (putOf most M1[k].en.L ⟨at0, rx⟩).1 = 13 → ScrapedPost B pb mv M R w (.returned (.tuple #[.int .i64 0, .int .i64 13])) wn) := fun wn hb h1 => MidS.stale HMi.out HBw.out hb h1
      have HDone : Hid (∀ wn w1 v' L', Below wx.heap.size wx wn → putOf most M1[k].en.L ⟨at0, rx⟩ = (0, L') → Fr (fun q => M1[k].v.ownBlock = some q) wn w1 → ViewAt w1 B 64 2 v' L'.length (L'.flatMap Sm.cells) →
          (∀ q, v'.ownBlock = some q → M1[k].v.ownBlock = some q ∨ wn.heap.size ≤ q) → ScrapedPost B pb mv M R w (.returned (.tuple #[.int .i64 rx, .int .i64 0])) (w1.setCell ⟨g, k * 3 + 2, none⟩ v')) := fun wn w1 v' L' hb h1 hf hv hnew => MidS.done HMi.out HBw.out hb (by rw [h1]) L' (by rw [h1]) hf v' hv hnew
      have HM1 := Lib.hid hM1
      obtain ⟨L, hL⟩ : ∃ L, M1[k].en.L = L := ⟨_, rfl⟩
      obtain ⟨v, hv⟩ : ∃ v, M1[k].v = v := ⟨_, rfl⟩
      rw [hL] at HStale HDone hvw hll
      rw [hv] at HDone hvw hvpb hvrow cv
      obtain ⟨n1, hn1⟩ : ∃ n, M1.length = n := ⟨_, rfl⟩
      have hkn : k < n1 := by omega
      have Hn1 := Lib.hid hn1
      rw [hn1] at cm1 hnc
      unfold maxLen at hcm
      have hPut := putOf_or most L ⟨at0, rx⟩
      have hPutE : putOf most L ⟨at0, rx⟩ = if (match L.getLast? with | some y => decide (at0 ≤ y.at0) | none => false) = true then (13, L) else (0, (if L.length = most then L.tail else L) ++ [⟨at0, rx⟩]) := rfl
      obtain ⟨lo, lcap, hve, hSv⟩ := ViewAt.reads (f := Sm.cells) hvw (fun _ => rfl) rfl
      subst hve
      have hB1 : B ≤ wx.heap.size := Nat.le_trans HM1.out.pbB (Nat.le_of_lt HM1.out.pbLt)
      have Hg := Lib.hid hg
      have HMc := Lib.hid hM1.cell
      have hlc := hSv.hcap
      have hlm := hSv.hmax
      unfold maxLen at hlm
      have hpbz : pb < wx.heap.size := HM1.out.pbLt
      have hgz : g < wx.heap.size := (Array.getElem?_eq_some_iff.1 hg).1
      obtain ⟨ln, hln⟩ : ∃ n, L.length = n := ⟨_, rfl⟩
      rw [hln] at cv hlc hvpb hvrow hSv HDone hvw hll
      have Hvw := Lib.hid hvw
      clear hrow hS1 hmk hM1 hvw hL hv hn1 hPut HMi hg hk
      rcases nil_or_app L with rfl | ⟨L0, y, rfl⟩
      · skip
        obtain rfl : ln = 0 := hln.symm
        have hp : putOf most ([] : List Sm) ⟨at0, rx⟩ = (0, [⟨at0, rx⟩]) := by
          have h0 : ¬ (0 = most) := by omega
          simp [putOf, h0]
        have Hp := Lib.hid hp
        clear hp hPutE
        go_wp2_with fail
        go_quiet (fail)
        obtain ⟨wn, hwn⟩ : ∃ q, wx.drewN nq = q := ⟨_, rfl⟩
        have hbn : Below wx.heap.size wx wn := by rw [← hwn]; exact drewN_below (Below.refl _ _) _
        rw [hwn]
        have y0 : wn.cell? ⟨N, 1, none⟩ = some (.int .i64 at0) := Below.cell_some hbn x0
        have hvn := (Hvw.out).keep (w' := wn) (fun q hq => hbn.block q (ViewAt.lt Hvw.out q hq).2)
        have hzn : wx.heap.size ≤ wn.heap.size := hbn.size
        have hgn := (hbn.block g hgz).trans Hg.out
        have hcn := (hbn.block pb hpbz).trans HMc.out
        have cvn := Below.cell_some hbn cv
        have HVn := Lib.hid (hvn.keep (w' := wn.alloc (.cells #[.int .i64 at0, .int .i64 rx] 64)) (fun q hq => ((Below.refl wn.heap.size wn).alloc (Nat.le_refl _) _).block q (ViewAt.lt hvn q hq).2))
        have HNew : Hid (∀ (j : Nat) u, [Value.int .i64 at0, .int .i64 rx][j]? = some u → (wn.alloc (.cells #[.int .i64 at0, .int .i64 rx] 64)).cell? (Addr.add ⟨wn.heap.size, 0, none⟩ j) = some u) := fun j u hu => (cell_new wn _ _ j).trans (by simpa using hu)
        have Hgn := Lib.hid hgn
        have Hcn := Lib.hid hcn
        have Hcvn := Lib.hid cvn
        have Hbn := Lib.hid hbn
        have hlen7 : ((([] : List Sm)).flatMap Sm.cells).length = (0) * 2 := Hvw.out.1
        clear hwn hvn hgn hcn cvn hbn x0 x1 x2 x3 cv cm1 hSv hlen7
        have HW : True := trivial
        have hd5 : decide ((1 : Int) > (most : Int)) = false := decide_eq_false (by omega)
        go_wp2_with (first
          | ((with_reducible refine at_slot 90 ?_); go_must (refine wpList_build rfl 64 [(0, _), (1, _)] rfl _ rfl (.agg #[.int .i64 at0, .int .i64 rx]) (fun w => buildSm at0 rx w) ?_))
          | ((with_reducible refine at_slot 91 ?_); go_must (refine wpList_buildSlice rfl 42 1 [(0, _)] rfl [(0, .agg #[.int .i64 at0, .int .i64 rx])] rfl _ _ (oneSm at0 rx) ?_; refine wpList_append_view elemSmR rfl _ _ rfl B (.slice lo (0) lcap) (0) ((([] : List Sm)).flatMap Sm.cells) rfl HVn.out (by rw [World.size_alloc]; omega) ⟨wn.heap.size, 0, none⟩ 1 1 [.int .i64 at0, .int .i64 rx] rfl rfl HNew.out (fun u hu => by simp only [List.mem_cons, List.not_mem_nil, or_false] at hu; rcases hu with rfl | rfl <;> rfl) (by decide) (by unfold maxLen; omega) (by omega) ?_; intro g6 off6 cap6 w6 hv6 hg6 hn6; have Hv6 := Lib.hid hv6; have Hn6 := Lib.hid hn6; have hf6 : Fr (fun q => (Value.slice lo (0) lcap).ownBlock = some q) wn w6 := ((Fr.refl _ wn).alloc _).trans (Fr.grown hg6 (fun k hk => hk)) (fun i hi => .inl hi); have hg7 := hf6.heap Hgn.out hvrow; have wm6 : w6.cell? ⟨pb, 0, none⟩ = some (.slice (some ⟨g, 0, none⟩) n1 cap1) := cell_of_row w6 pb 0 _ _ _ (hf6.heap (Hn1.out ▸ Hcn.out) hvpb); have wc6 : w6.cell? ⟨g, k * 3 + 2, none⟩ = some (.slice lo (0) lcap) := hf6.cell Hcvn.out hvrow; have wf6 : w6.frozen? ⟨g, k * 3 + 2, none⟩ = false := row_free hg7 _; have hcap6 : (0) + 1 ≤ cap6 := hv6.capLe; have Hf6 := Lib.hid hf6; clear hv6 hg6 hn6 hf6 hg7)))
        go_ret2
        have hv7 : ViewAt w6 B 64 2 (.slice (some ⟨g6, off6, none⟩) 1 cap6) 1 ([(⟨at0, rx⟩ : Sm)].flatMap Sm.cells) := Hv6.out
        exact HDone.out wn w6 _ [⟨at0, rx⟩] Hbn.out Hp.out Hf6.out hv7 (fun q hq => by simp only [Value.ownBlock, Option.some.injEq] at hq; subst hq; exact Hn6.out.imp id (fun h => by rw [World.size_alloc] at h; omega))
      · skip
        obtain ⟨j, hj⟩ : ∃ j, L0.length = j := ⟨_, rfl⟩
        obtain rfl : ln = j + 1 := by rw [← hln, List.length_append, hj]; rfl
        have hgl : (L0 ++ [y]).getLast? = some y := by simp
        rw [hgl] at hPutE
        have hx : j < (L0 ++ [y]).length := by omega
        obtain ⟨g0, of0, rfl, hcl⟩ := hSv.flat' hx
        have hyj : (L0 ++ [y])[j] = y := by subst hj; simp
        rw [hyj] at hcl
        by_cases hst : y.at0 ≥ at0
        · skip
          have hp : (putOf most (L0 ++ [y]) ⟨at0, rx⟩).1 = 13 := by rw [hPutE, if_pos (by simpa using hst)]
          have Hp := Lib.hid hp
          have hd4 : decide (y.at0 ≥ at0) = true := decide_eq_true hst
          clear hp hPutE hst
          go_wp2_with fail
          go_quiet (fail)
          go_wp2_with fail
          go_ret2
          exact HStale.out _ (drewN_below (Below.refl _ _) _) Hp.out
        · skip
          have hp : putOf most (L0 ++ [y]) ⟨at0, rx⟩ = (0, (if j + 1 = most then (L0 ++ [y]).tail else L0 ++ [y]) ++ [⟨at0, rx⟩]) := by rw [hPutE, if_neg (by simpa using hst), hln]
          have Hp := Lib.hid hp
          have hd4 : decide (y.at0 ≥ at0) = false := decide_eq_false hst
          clear hp hPutE hst
          go_wp2_with fail
          go_quiet (fail)
          obtain ⟨wn, hwn⟩ : ∃ q, wx.drewN nq = q := ⟨_, rfl⟩
          have hbn : Below wx.heap.size wx wn := by rw [← hwn]; exact drewN_below (Below.refl _ _) _
          rw [hwn]
          have y0 : wn.cell? ⟨N, 1, none⟩ = some (.int .i64 at0) := Below.cell_some hbn x0
          have hvn := (Hvw.out).keep (w' := wn) (fun q hq => hbn.block q (ViewAt.lt Hvw.out q hq).2)
          have hzn : wx.heap.size ≤ wn.heap.size := hbn.size
          have hgn := (hbn.block g hgz).trans Hg.out
          have hcn := (hbn.block pb hpbz).trans HMc.out
          have cvn := Below.cell_some hbn cv
          have HVn := Lib.hid (hvn.keep (w' := wn.alloc (.cells #[.int .i64 at0, .int .i64 rx] 64)) (fun q hq => ((Below.refl wn.heap.size wn).alloc (Nat.le_refl _) _).block q (ViewAt.lt hvn q hq).2))
          have HNew : Hid (∀ (j : Nat) u, [Value.int .i64 at0, .int .i64 rx][j]? = some u → (wn.alloc (.cells #[.int .i64 at0, .int .i64 rx] 64)).cell? (Addr.add ⟨wn.heap.size, 0, none⟩ j) = some u) := fun j u hu => (cell_new wn _ _ j).trans (by simpa using hu)
          have Hgn := Lib.hid hgn
          have Hcn := Lib.hid hcn
          have Hcvn := Lib.hid cvn
          have Hbn := Lib.hid hbn
          have hlen7 : ((L0 ++ [y]).flatMap Sm.cells).length = (j + 1) * 2 := Hvw.out.1
          clear hwn hvn hgn hcn cvn hbn x0 x1 x2 x3 cv cm1 hSv hlen7 hcl
          have HW : True := trivial
          by_cases hmx : (j + 1) + 1 > most
          · skip
            have hd5 : decide ((j : Int) + 1 + 1 > (most : Int)) = true := decide_eq_true (by omega)
            have Hmx := Lib.hid hmx
            clear hmx
            go_wp2_with (first
              | ((with_reducible refine at_slot 90 ?_); go_must (refine wpList_build rfl 64 [(0, _), (1, _)] rfl _ rfl (.agg #[.int .i64 at0, .int .i64 rx]) (fun w => buildSm at0 rx w) ?_))
              | ((with_reducible refine at_slot 91 ?_); go_must (refine wpList_buildSlice rfl 42 1 [(0, _)] rfl [(0, .agg #[.int .i64 at0, .int .i64 rx])] rfl _ _ (oneSm at0 rx) ?_; refine wpList_append_view elemSmR rfl _ _ rfl B (.slice (some ⟨g0, of0, none⟩) (j + 1) lcap) (j + 1) ((L0 ++ [y]).flatMap Sm.cells) rfl HVn.out (by rw [World.size_alloc]; omega) ⟨wn.heap.size, 0, none⟩ 1 1 [.int .i64 at0, .int .i64 rx] rfl rfl HNew.out (fun u hu => by simp only [List.mem_cons, List.not_mem_nil, or_false] at hu; rcases hu with rfl | rfl <;> rfl) (by decide) (by unfold maxLen; omega) (by omega) ?_; intro g6 off6 cap6 w6 hv6 hg6 hn6; have Hv6 := Lib.hid hv6; have Hn6 := Lib.hid hn6; have hf6 : Fr (fun q => (Value.slice (some ⟨g0, of0, none⟩) (j + 1) lcap).ownBlock = some q) wn w6 := ((Fr.refl _ wn).alloc _).trans (Fr.grown hg6 (fun k hk => hk)) (fun i hi => .inl hi); have hg7 := hf6.heap Hgn.out hvrow; have wm6 : w6.cell? ⟨pb, 0, none⟩ = some (.slice (some ⟨g, 0, none⟩) n1 cap1) := cell_of_row w6 pb 0 _ _ _ (hf6.heap (Hn1.out ▸ Hcn.out) hvpb); have wc6 : w6.cell? ⟨g, k * 3 + 2, none⟩ = some (.slice (some ⟨g0, of0, none⟩) (j + 1) lcap) := hf6.cell Hcvn.out hvrow; have wf6 : w6.frozen? ⟨g, k * 3 + 2, none⟩ = false := row_free hg7 _; have hcap6 : (j + 1) + 1 ≤ cap6 := hv6.capLe; have Hf6 := Lib.hid hf6; clear hv6 hg6 hn6 hf6 hg7)))
            go_ret2
            obtain ⟨a, L2, hal⟩ : ∃ a L2, L0 ++ [y] = a :: L2 := by cases L0 <;> exact ⟨_, _, rfl⟩
            have hv7 := Hv6.out
            rw [hal, List.flatMap_cons, List.append_assoc] at hv7
            have hv8 := ViewAt.rest (size := 2) (ys := a.cells) rfl hv7
            have hl2 : L2.length = j := by have := hln; rw [hal] at this; simpa using this
            refine HDone.out wn w6 _ (L2 ++ [⟨at0, rx⟩]) Hbn.out (by rw [Hp.out, if_pos (by have := Hmx.out; omega), hal]; rfl) Hf6.out ?_ (fun q hq => by simp only [Value.ownBlock, Option.some.injEq] at hq; subst hq; exact Hn6.out.imp id (fun h => by rw [World.size_alloc] at h; omega))
            rw [List.length_append, List.flatMap_append, hl2]
            exact hv8
          · skip
            have hd5 : decide ((j : Int) + 1 + 1 > (most : Int)) = false := decide_eq_false (by omega)
            have Hmx := Lib.hid hmx
            clear hmx
            go_wp2_with (first
              | ((with_reducible refine at_slot 90 ?_); go_must (refine wpList_build rfl 64 [(0, _), (1, _)] rfl _ rfl (.agg #[.int .i64 at0, .int .i64 rx]) (fun w => buildSm at0 rx w) ?_))
              | ((with_reducible refine at_slot 91 ?_); go_must (refine wpList_buildSlice rfl 42 1 [(0, _)] rfl [(0, .agg #[.int .i64 at0, .int .i64 rx])] rfl _ _ (oneSm at0 rx) ?_; refine wpList_append_view elemSmR rfl _ _ rfl B (.slice (some ⟨g0, of0, none⟩) (j + 1) lcap) (j + 1) ((L0 ++ [y]).flatMap Sm.cells) rfl HVn.out (by rw [World.size_alloc]; omega) ⟨wn.heap.size, 0, none⟩ 1 1 [.int .i64 at0, .int .i64 rx] rfl rfl HNew.out (fun u hu => by simp only [List.mem_cons, List.not_mem_nil, or_false] at hu; rcases hu with rfl | rfl <;> rfl) (by decide) (by unfold maxLen; omega) (by omega) ?_; intro g6 off6 cap6 w6 hv6 hg6 hn6; have Hv6 := Lib.hid hv6; have Hn6 := Lib.hid hn6; have hf6 : Fr (fun q => (Value.slice (some ⟨g0, of0, none⟩) (j + 1) lcap).ownBlock = some q) wn w6 := ((Fr.refl _ wn).alloc _).trans (Fr.grown hg6 (fun k hk => hk)) (fun i hi => .inl hi); have hg7 := hf6.heap Hgn.out hvrow; have wm6 : w6.cell? ⟨pb, 0, none⟩ = some (.slice (some ⟨g, 0, none⟩) n1 cap1) := cell_of_row w6 pb 0 _ _ _ (hf6.heap (Hn1.out ▸ Hcn.out) hvpb); have wc6 : w6.cell? ⟨g, k * 3 + 2, none⟩ = some (.slice (some ⟨g0, of0, none⟩) (j + 1) lcap) := hf6.cell Hcvn.out hvrow; have wf6 : w6.frozen? ⟨g, k * 3 + 2, none⟩ = false := row_free hg7 _; have hcap6 : (j + 1) + 1 ≤ cap6 := hv6.capLe; have Hf6 := Lib.hid hf6; clear hv6 hg6 hn6 hf6 hg7)))
            go_ret2
            have hv7 : ViewAt w6 B 64 2 (.slice (some ⟨g6, off6, none⟩) (j + 1 + 1) cap6) (j + 1 + 1) ((L0 ++ [y] ++ [(⟨at0, rx⟩ : Sm)]).flatMap Sm.cells) := by
              rw [List.flatMap_append]; exact Hv6.out
            refine HDone.out wn w6 _ (L0 ++ [y] ++ [⟨at0, rx⟩]) Hbn.out (by rw [Hp.out, if_neg (by have := Hmx.out; omega)]) Hf6.out ?_ (fun q hq => by simp only [Value.ownBlock, Option.some.injEq] at hq; subst hq; exact Hn6.out.imp id (fun h => by rw [World.size_alloc] at h; omega))
            rw [List.length_append, hln]
            exact hv7
  · skip
    have hne : (re != 0) = true := by simpa using hre0
    have Hre := Lib.hid hre0
    clear hre0
    go_wp2_with fail
    go_ret2
    exact HFin.out _ re HB3.out Hc.out Hre.out
end Go.Proofs.Ytoamjihchmokcaa
