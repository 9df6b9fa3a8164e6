/- Plain lemmas on lists, for the walks. No condition. || append of any slice that reads, nil too, onto a row of the call's own. No condition. || Views: slices that start anywhere in a block of the call's own; append onto them, their rest. No condition. || A row of four cells that is stored whole. No condition. -/
import Derived.Test.YtoamjihchmokcaaBase
import Derived.Test.YtoamjihchmokcaaFrame
import Derived.Laws.AppendOwnNone
namespace Go.Proofs.Ytoamjihchmokcaa
theorem flatMap_len {α : Type} {f : α → List Value} {sz : Nat} (hf : ∀ x, (f x).length = sz) : ∀ (xs : List α), (xs.flatMap f).length = xs.length * sz
  | [] => by simp
  | x :: xs => by rw [List.flatMap_cons, List.length_append, hf, flatMap_len hf xs, List.length_cons, Nat.add_mul]; omega

theorem flatMap_take {α : Type} {f : α → List Value} {sz : Nat} (hf : ∀ x, (f x).length = sz) : ∀ (xs : List α) (q : Nat) (rest : List Value), q ≤ xs.length → (xs.flatMap f ++ rest).take (q * sz) = (xs.take q).flatMap f
  | _, 0, _, _ => by simp
  | [], q + 1, _, h => by simp at h
  | x :: xs, q + 1, rest, h => by
    have e : (q + 1) * sz = (f x).length + q * sz := by rw [hf, Nat.add_mul]; omega
    rw [List.flatMap_cons, List.append_assoc, e, List.take_length_add_append, flatMap_take hf xs q rest (by simpa using h)]
    rfl

theorem flatMap_drop {α : Type} {f : α → List Value} {sz : Nat} (hf : ∀ x, (f x).length = sz) : ∀ (xs : List α) (q : Nat) (rest : List Value), q ≤ xs.length → (xs.flatMap f ++ rest).drop (q * sz) = (xs.drop q).flatMap f ++ rest
  | _, 0, _, _ => by simp
  | [], q + 1, _, h => by simp at h
  | x :: xs, q + 1, rest, h => by
    have e : (q + 1) * sz = (f x).length + q * sz := by rw [hf, Nat.add_mul]; omega
    rw [List.flatMap_cons, List.append_assoc, e, List.drop_length_add_append, flatMap_drop hf xs q rest (by simpa using h)]
    rfl

theorem flatMap_set {α : Type} {f : α → List Value} {sz : Nat} (hf : ∀ x, (f x).length = sz) (xs : List α) (q : Nat) (x : α) (rest : List Value) (h : q < xs.length) :
    (xs.flatMap f ++ rest).take (q * sz) ++ f x ++ (xs.flatMap f ++ rest).drop (q * sz + sz) = (xs.set q x).flatMap f ++ rest := by
  have e : q * sz + sz = (q + 1) * sz := by rw [Nat.add_mul]; omega
  rw [e, flatMap_take hf _ _ _ (by omega), flatMap_drop hf _ _ _ (by omega), List.set_eq_take_append_cons_drop, if_pos h]
  simp

end Go.Proofs.Ytoamjihchmokcaa
namespace Go.Proofs.Ytoamjihchmokcaa
open Go.ChangeShapes Go.WideShapes Go.ChangeAt Go.RowKit Go.Deep

theorem SlR.allA {α : Type} {f : α → List Value} {sz : Nat} {w : World} {ad : Addr} {n cap : Nat} {xs : List α} (hf : ∀ x, (f x).length = sz) (hsz : 0 < sz) (h : SlR (Flat f) sz w (some ad) n cap xs) :
    ∀ j u, (xs.flatMap f)[j]? = some u → w.cell? (ad.add j) = some u := by
  intro j u hj
  have hlt := (List.getElem?_eq_some_iff.1 hj).1
  rw [flatMap_len hf] at hlt
  have hi : j / sz < xs.length := by rw [Nat.div_lt_iff_lt_mul hsz]; exact hlt
  have hr := Nat.mod_lt j hsz
  have e : j / sz * sz + j % sz = j := by rw [Nat.mul_comm]; exact Nat.div_add_mod j sz
  have h2 := flatMap_get hf xs (j / sz) (j % sz) hi hr
  rw [e, hj] at h2
  obtain ⟨c, _, h3, h4⟩ := h.hat ad rfl (j / sz) hi
  rw [show c = f xs[j / sz] from h4] at h3
  have h5 := h3 (j % sz) u h2.symm
  rwa [e] at h5

theorem World.grownBy_refl (w : World) (r : Option Nat) : w.grownBy w r := ⟨rfl, rfl, rfl, Nat.le_refl _, fun _ _ _ => rfl⟩

theorem wpList_append_slr {P : Program} {ops : Array Oper} {rest : List Oper} {o : Oper} {a : Act} {w : World} {Q : Exit → Act → World → Prop} {t e : TypeId} {size bytes : Nat} (E : ElemOK P t e size bytes)
    (hgd : o.guard = none) (s x : Operand) (ho : o.op = .call { callee := .builtin .append, args := #[s, x], argTypes := #[t, t] })
    (B : Nat) (v : Value) (n : Nat) (xs : List Value) (hs : a.eval s = v) (hown : w.ownsRow B e size v n xs) (hB : B ≤ w.heap.size)
    {α : Type} {f : α → List Value} (hf : ∀ x, (f x).length = size) (ao : Option Addr) (m c : Nat) (ys : List α) (hx : a.eval x = .slice ao m c) (hS : SlR (Flat f) size w ao m c ys) (h1 : ∀ y u, u ∈ f y → u.oneCell' = true)
    (h63 : n + m ≤ maxLen) (hbytes : (n + m) * bytes ≤ 140737488355328)
    (h : ∀ v' w', w'.ownsRow B e size v' (n + m) (xs ++ ys.flatMap f) → w.grownBy w' v.ownBlock → wpList P ops Q rest (a.put o.dst v') w') : wpList P ops Q (o :: rest) a w := by
  obtain ⟨i, z, hi, hz, h2, h3, h4⟩ := E.info
  cases ao with
  | none =>
    have hc := hS.hnil rfl
    have hm : m = 0 := by have := hS.hcap; omega
    subst hc hm
    have hy : ys = [] := List.eq_nil_of_length_eq_zero hS.hlen
    subst hy
    refine wpList_append_own_none hgd s x t ho B e i size E.under hi v n xs hs hown hx (h v w ?_ (World.grownBy_refl _ _))
    simpa using hown
  | some ad =>
    refine wpList_append_own _ hgd s x t ho B e i z size bytes E.under hi hz h2 h3 h4 E.pos v n xs hs hown ad m c (ys.flatMap f) hx (by rw [flatMap_len hf, hS.hlen]) (hS.allA hf E.pos) (fun u hu => ?_) h63 hbytes hB fun v' w' h1 h2 _ => h v' w' h1 h2
    obtain ⟨y, _, hu⟩ := List.mem_flatMap.1 hu
    exact h1 y u hu
end Go.Proofs.Ytoamjihchmokcaa
namespace Go.Proofs.Ytoamjihchmokcaa
open Go.ChangeShapes Go.WideShapes Go.ChangeAt Go.RowKit Go.Deep

def ViewAt (w : World) (base : Nat) (e : TypeId) (size : Nat) (v : Value) (n : Nat) (xs : List Value) : Prop :=
  xs.length = n * size ∧ ((v = .slice none 0 0 ∧ n = 0) ∨ ∃ g off cap cur, v = .slice (some ⟨g, off, none⟩) n cap ∧ base ≤ g ∧ w.heap[g]? = some (.cells cur e (0, 0)) ∧ n ≤ cap ∧ cap ≤ maxLen ∧ off + cap * size ≤ cur.size ∧ (cur.toList.drop off).take (n * size) = xs)
theorem ViewAt.nil (w : World) (base : Nat) (e : TypeId) (size : Nat) : ViewAt w base e size (.slice none 0 0) 0 [] := ⟨by simp, .inl ⟨rfl, rfl⟩⟩
theorem ViewAt.lt {w : World} {base : Nat} {e : TypeId} {size : Nat} {v : Value} {n : Nat} {xs : List Value} (h : ViewAt w base e size v n xs) : ∀ k, v.ownBlock = some k → base ≤ k ∧ k < w.heap.size := by
  intro k hk
  rcases h.2 with ⟨rfl, _⟩ | ⟨g, off, cap, cur, rfl, hb, hg, _⟩
  · cases hk
  · simp only [Value.ownBlock, Option.some.injEq] at hk
    subst hk
    exact ⟨hb, (Array.getElem?_eq_some_iff.1 hg).1⟩
theorem ViewAt.keep {w w' : World} {base : Nat} {e : TypeId} {size : Nat} {v : Value} {n : Nat} {xs : List Value} (h : ViewAt w base e size v n xs) (hk : ∀ k, v.ownBlock = some k → w'.heap[k]? = w.heap[k]?) : ViewAt w' base e size v n xs := by
  refine ⟨h.1, ?_⟩
  rcases h.2 with h | ⟨g, off, cap, cur, rfl, hb, hg, hr⟩
  · exact .inl h
  · exact .inr ⟨g, off, cap, cur, rfl, hb, (hk g rfl).trans hg, hr⟩
theorem ViewAt.reads {w : World} {base : Nat} {e : TypeId} {size : Nat} {v : Value} {n : Nat} {α : Type} {f : α → List Value} {xs : List α} (h : ViewAt w base e size v n (xs.flatMap f)) (hf : ∀ x, (f x).length = size) (hl : xs.length = n) :
    ∃ ao cap, v = .slice ao n cap ∧ SlR (Flat f) size w ao n cap xs := by
  rcases h.2 with ⟨rfl, rfl⟩ | ⟨g, off, cap, cur, rfl, hb, hg, hnc, hcm, hfit, ht⟩
  · have : xs = [] := List.eq_nil_of_length_eq_zero hl
    subst this
    exact ⟨none, 0, rfl, ⟨rfl, Nat.le_refl _, Nat.zero_le _, fun _ => rfl, fun a h => by cases h⟩⟩
  · refine ⟨some ⟨g, off, none⟩, cap, rfl, ⟨hl, hnc, hcm, fun h => (by cases h), fun a ha i hi => ?_⟩⟩
    cases ha
    refine ⟨f xs[i], hf _, fun j u hu => ?_, rfl⟩
    have hjs : j < size := by have := (List.getElem?_eq_some_iff.1 hu).1; rwa [hf] at this
    rw [Addr.add_lit, cell_of_row w g _ cur e (0, 0) hg]
    have h2 := flatMap_get hf xs i j hi hjs
    rw [hu] at h2
    rw [← ht, List.getElem?_take] at h2
    split at h2
    · rw [List.getElem?_drop] at h2
      simpa using h2
    · cases h2
theorem ViewAt.rest {w : World} {base : Nat} {e : TypeId} {size : Nat} {g off cap n : Nat} {ys xs : List Value} (hy : ys.length = size) (h : ViewAt w base e size (.slice (some ⟨g, off, none⟩) (n + 1) cap) (n + 1) (ys ++ xs)) :
    ViewAt w base e size (.slice (some ⟨g, off + size, none⟩) n (cap - 1)) n xs := by
  have hl := h.1
  rw [List.length_append, hy, Nat.add_mul, Nat.one_mul] at hl
  refine ⟨by omega, ?_⟩
  rcases h.2 with ⟨h2, _⟩ | ⟨g', off', cap', cur, he, hb, hg, hnc, hcm, hfit, ht⟩
  · cases h2
  · cases he
    refine .inr ⟨g, off + size, cap - 1, cur, rfl, hb, hg, by omega, by omega, ?_, ?_⟩
    · have : cap * size = (cap - 1) * size + size := by
        obtain ⟨c, rfl⟩ : ∃ c, cap = c + 1 := ⟨cap - 1, by omega⟩
        rw [Nat.add_sub_cancel, Nat.add_mul, Nat.one_mul]
      omega
    · have h3 := congrArg (List.drop size) ht
      rw [List.drop_left' hy, List.drop_take, List.drop_drop] at h3
      rw [← h3]
      congr 1
      rw [Nat.add_mul, Nat.one_mul]
      omega

theorem run_append_room_at {P : Program} (w : World) (t ty e : TypeId) (i : TypeInfo) (ht : P.underlying t = some (.slice e)) (hi : P.info? e = some i)
    (g off sLen sCap : Nat) (cur : Array Value) (hg : w.heap[g]? = some (.cells cur e (0, 0)))
    (a : Addr) (m c : Nat) (news : List Value) (hl : news.length = m * i.size) (hnews : ∀ j u, news[j]? = some u → w.cell? (a.add j) = some u) (h1 : ∀ u ∈ news, u.oneCell' = true)
    (hroom : sLen + m ≤ sCap) (hfit : off + sLen * i.size + news.length ≤ cur.size) :
    (Builtin.append_ #[t, t] ty #[.slice (some ⟨g, off, none⟩) sLen sCap, .slice (some a) m c]).run P w =
      .ok (.slice (some ⟨g, off, none⟩) (sLen + m) sCap) (w.setRow g (cur.toList.take (off + sLen * i.size) ++ news ++ cur.toList.drop (off + sLen * i.size + news.length)).toArray) := by
  have hf := run_firstCells_some (P := P) w i.size m a m c news hl hnews
  have hst := run_storeCells_at P g (off + sLen * i.size) e news 0 cur w hg (by simpa using hfit) h1
  simp only [Nat.add_zero] at hst
  simp [Builtin.append_, run_underlying ht, sizeOf, typeInfo, hi, Builtin.lenOf, hroom, hf, Addr.add_lit, hst]

theorem run_append_view {P : Program} (w : World) (base : Nat) (t ty e : TypeId) (i : TypeInfo) (z : Value) (size bytes : Nat) (ht : P.underlying t = some (.slice e)) (hi : P.info? e = some i) (hz : i.zero = some z)
    (hsize : i.size = size) (hby : i.bytes = bytes) (hzs : z.cells.size = size)
    (v : Value) (n : Nat) (xs : List Value) (hown : ViewAt w base e size v n xs)
    (a : Addr) (m c : Nat) (news : List Value) (hl : news.length = m * size) (hnews : ∀ j u, news[j]? = some u → w.cell? (a.add j) = some u) (h1 : ∀ u ∈ news, u.oneCell' = true) (hm : 0 < m)
    (h63 : n + m ≤ maxLen) (hbytes : (n + m) * bytes ≤ 140737488355328) (hbase : base ≤ w.heap.size) :
    ∃ v' w', (Builtin.append_ #[t, t] ty #[v, .slice (some a) m c]).run P w = .ok v' w' ∧ ViewAt w' base e size v' (n + m) (xs ++ news) ∧ w.grownBy w' v.ownBlock ∧
      ∃ g' off' cap', v' = .slice (some ⟨g', off', none⟩) (n + m) cap' ∧ (v.ownBlock = some g' ∨ w.heap.size ≤ g') := by
  subst hsize
  subst hby
  have hsmall : n + m ≤ 9223372036854775807 := by simp only [maxLen] at h63; omega
  have hlen : (xs ++ news).length = (n + m) * i.size := by rw [List.length_append, hown.1, hl, Nat.add_mul]
  have grown : ∀ (old : Nat), old < n + m → ∀ (row : Option Nat),
      ViewAt (w.drew.alloc (.cells (xs.toArray ++ news.toArray ++ Builtin.zeroCells z.cells (grownCap w (n + m) old e - (n + m))) e)) base e i.size
        (.slice (some ⟨w.heap.size, 0, none⟩) (n + m) (grownCap w (n + m) old e)) (n + m) (xs ++ news) ∧
      w.grownBy (w.drew.alloc (.cells (xs.toArray ++ news.toArray ++ Builtin.zeroCells z.cells (grownCap w (n + m) old e - (n + m))) e)) row := by
    intro old ho row
    have hge := grownCap_ge w (n + m) old e
    have hcm : grownCap w (n + m) old e ≤ maxLen := grownCap_le_maxLen w (n + m) old e h63
    refine ⟨⟨hlen, .inr ⟨w.heap.size, 0, _, _, rfl, hbase, heap_alloc_new w.drew _, hge, hcm, ?_, ?_⟩⟩, ⟨rfl, rfl, rfl, by simp, fun k hk _ => _root_.Go.heap_alloc_old w.drew _ hk⟩⟩
    · simp only [Array.size_append, List.size_toArray, size_zeroCells, hzs, hown.1, hl, ← Nat.add_mul, Nat.zero_add]
      refine Nat.le_of_eq ?_
      congr 1
      omega
    · simp only [Array.toList_append, List.append_assoc, List.drop_zero]
      rw [← List.append_assoc, ← hlen]
      exact List.take_left
  rcases hown.2 with ⟨rfl, rfl⟩ | ⟨g, off, cap, cur, rfl, hbg, hg, hnc, hcm, hcs, htake⟩
  · have hx : xs = [] := List.eq_nil_of_length_eq_zero (by simpa using hown.1)
    subst hx
    have hr := run_append_nil (P := P) w t ty e i z ht hi hz a m c news hl hnews (by omega) (by omega) (by have hb := hbytes; simp only [Nat.zero_add] at hb; omega)
    have hgr := grown 0 (by omega) (Value.ownBlock (.slice none 0 0))
    simp only [Nat.zero_add, List.nil_append, Array.empty_append] at hgr ⊢
    exact ⟨_, _, hr, hgr.1, hgr.2, _, _, _, rfl, .inr (Nat.le_refl _)⟩
  · by_cases hroom : n + m ≤ cap
    · have hmul : (n + m) * i.size ≤ cap * i.size := Nat.mul_le_mul_right _ hroom
      rw [Nat.add_mul] at hmul
      have hfit : off + n * i.size + news.length ≤ cur.size := by rw [hl]; omega
      have hr := run_append_room_at (P := P) w t ty e i ht hi g off n cap cur hg a m c news hl hnews h1 hroom hfit
      have htl : (cur.toList.take (off + n * i.size)).length = off + n * i.size := by rw [List.length_take, Array.length_toList]; omega
      refine ⟨_, _, hr, ⟨hlen, .inr ⟨g, off, cap, _, rfl, hbg, _root_.Go.setRow_heap w g cur _ e _ hg, hroom, hcm, ?_, ?_⟩⟩, ⟨rfl, rfl, rfl, by simp, fun k _ hk => _root_.Go.setRow_other w g k _ (fun e => hk (by simp [Value.ownBlock, e]))⟩, g, off, cap, rfl, .inl rfl⟩
      · simp only [List.size_toArray, List.length_append, htl, List.length_drop, Array.length_toList]
        omega
      · show List.take ((n + m) * i.size) (List.drop off (List.take (off + n * i.size) cur.toList ++ news ++ List.drop (off + n * i.size + news.length) cur.toList)) = xs ++ news
        rw [List.append_assoc, List.drop_append_of_le_length (by rw [htl]; omega), List.drop_take, Nat.add_sub_cancel_left, htake, ← List.append_assoc, ← hlen]
        exact List.take_left
    · have holds : ∀ j u, xs[j]? = some u → w.cell? ((⟨g, off, none⟩ : Addr).add j) = some u := fun j u hu => by
        rw [Addr.add_lit, cell_of_row w g _ cur e (0, 0) hg]
        rw [← htake, List.getElem?_take] at hu
        split at hu
        · rw [List.getElem?_drop] at hu
          simpa using hu
        · cases hu
      have hr := run_append_grow (P := P) w t ty e i z ht hi hz ⟨g, off, none⟩ n cap xs hown.1 holds a m c news hl hnews (by omega) (by omega) (growslice_fits (by omega) hbytes)
      have hgr := grown cap (by omega) (Value.ownBlock (.slice (some ⟨g, off, none⟩) n cap))
      exact ⟨_, _, hr, hgr.1, hgr.2, _, _, _, rfl, .inr (Nat.le_refl _)⟩

theorem wpList_append_view {P : Program} {ops : Array Oper} {rest : List Oper} {o : Oper} {a : Act} {w : World} {Q : Exit → Act → World → Prop} {t e : TypeId} {size bytes : Nat} (E : ElemOK P t e size bytes)
    (hgd : o.guard = none) (s x : Operand) (ho : o.op = .call { callee := .builtin .append, args := #[s, x], argTypes := #[t, t] })
    (B : Nat) (v : Value) (n : Nat) (xs : List Value) (hs : a.eval s = v) (hown : ViewAt w B e size v n xs) (hB : B ≤ w.heap.size)
    (ad : Addr) (m c : Nat) (news : List Value) (hx : a.eval x = .slice (some ad) m c) (hl : news.length = m * size) (hnews : ∀ j u, news[j]? = some u → w.cell? (ad.add j) = some u) (h1 : ∀ u ∈ news, u.oneCell' = true) (hm : 0 < m)
    (h63 : n + m ≤ maxLen) (hbytes : (n + m) * bytes ≤ 140737488355328)
    (h : ∀ g' off' cap' w', ViewAt w' B e size (.slice (some ⟨g', off', none⟩) (n + m) cap') (n + m) (xs ++ news) → w.grownBy w' v.ownBlock → (v.ownBlock = some g' ∨ w.heap.size ≤ g') → wpList P ops Q rest (a.put o.dst (.slice (some ⟨g', off', none⟩) (n + m) cap')) w') : wpList P ops Q (o :: rest) a w := by
  obtain ⟨i, z, hi, hz, h2, h3, h4⟩ := E.info
  refine wpList_plain hgd fun _ hK => ?_
  obtain ⟨v', w', hr, q1, q2, g', off', cap', rfl, q3⟩ := run_append_view (P := P) w B t o.type e i z size bytes E.under hi hz h2 h3 h4 v n xs hown ad m c news hl hnews h1 hm h63 hbytes hB
  unfold Oper.wp execOp
  simp only [ho, resolve, invoke, builtin, Sem.run_bind, Sem.run_pure, Result.andThen_ok, List.map_toArray, List.map_cons, List.map_nil, hs, hx, hr]
  exact hK _ _ (h g' off' cap' w' q1 q2 q3)
end Go.Proofs.Ytoamjihchmokcaa
namespace Go.Proofs.Ytoamjihchmokcaa
open Go.ChangeShapes Go.WideShapes Go.ChangeAt Go.RowKit Go.Deep

theorem row_setCell {w : World} {b i : Nat} {cs : Array Value} {t : TypeId} {fr : Nat × Nat} (h : w.heap[b]? = some (.cells cs t fr)) (v : Value) : (w.setCell ⟨b, i, none⟩ v).heap[b]? = some (.cells (cs.setIfInBounds i v) t fr) := by
  simp [World.setCell, Array.getElem?_modify, h]

theorem row_free {w : World} {b : Nat} {t : TypeId} {cs : Array Value} (h : w.heap[b]? = some (.cells cs t (0, 0))) (j : Nat) : w.frozen? ⟨b, j, none⟩ = false := by simp [World.frozen?, h]

end Go.Proofs.Ytoamjihchmokcaa
