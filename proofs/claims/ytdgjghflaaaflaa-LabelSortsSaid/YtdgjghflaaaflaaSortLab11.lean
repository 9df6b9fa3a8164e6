/- slices.Clone at labels, and label.Sort. Condition: the slices read. -/
import Derived.Test.YtdgjghflaaaflaaSortLab10
import Derived.Laws.AppendOwnNone
namespace Go.Proofs.Ytdgjghflaaaflaa
open Go.ChangeShapes Go.WideShapes Go.ChangeAt Go.RowKit Go.Deep

theorem SlR.allA {α : Type} {f : α → List Value} {sz : Nat} {w : World} {ad : Addr} {n cap : Nat} {xs : List α} (hf : ∀ x, (f x).length = sz) (hsz : 0 < sz) (h : SlR (Flat f) sz w (some ad) n cap xs) :
    ∀ j u, (xs.flatMap f)[j]? = some u → w.cell? (ad.add j) = some u := by
  intro j u hj
  have hlt := (List.getElem?_eq_some_iff.1 hj).1
  rw [flatMap_len hf] at hlt
  have hi : j / sz < xs.length := by rw [Nat.div_lt_iff_lt_mul hsz]; exact hlt
  have hr := Nat.mod_lt j hsz
  have e : j / sz * sz + j % sz = j := by rw [Nat.mul_comm]; exact Nat.div_add_mod j sz
  have h2 := flatMap_get hf xs (j / sz) (j % sz) hi hr
  rw [e, hj] at h2
  obtain ⟨c, _, h3, h4⟩ := h.hat ad rfl (j / sz) hi
  rw [show c = f xs[j / sz] from h4] at h3
  have h5 := h3 (j % sz) u h2.symm
  rwa [e] at h5

theorem World.grownBy_refl (w : World) (r : Option Nat) : w.grownBy w r := ⟨rfl, rfl, rfl, Nat.le_refl _, fun _ _ _ => rfl⟩

theorem wpList_append_slr {P : Program} {ops : Array Oper} {rest : List Oper} {o : Oper} {a : Act} {w : World} {Q : Exit → Act → World → Prop} {t e : TypeId} {size bytes : Nat} (E : ElemOK P t e size bytes)
    (hgd : o.guard = none) (s x : Operand) (ho : o.op = .call { callee := .builtin .append, args := #[s, x], argTypes := #[t, t] })
    (B : Nat) (v : Value) (n : Nat) (xs : List Value) (hs : a.eval s = v) (hown : w.ownsRow B e size v n xs) (hB : B ≤ w.heap.size)
    {α : Type} {f : α → List Value} (hf : ∀ x, (f x).length = size) (ao : Option Addr) (m c : Nat) (ys : List α) (hx : a.eval x = .slice ao m c) (hS : SlR (Flat f) size w ao m c ys) (h1 : ∀ y u, u ∈ f y → u.oneCell' = true)
    (h63 : n + m ≤ maxLen) (hbytes : (n + m) * bytes ≤ 140737488355328)
    (h : ∀ v' w', w'.ownsRow B e size v' (n + m) (xs ++ ys.flatMap f) → w.grownBy w' v.ownBlock → wpList P ops Q rest (a.put o.dst v') w') : wpList P ops Q (o :: rest) a w := by
  obtain ⟨i, z, hi, hz, h2, h3, h4⟩ := E.info
  cases ao with
  | none =>
    have hc := hS.hnil rfl
    have hm : m = 0 := by have := hS.hcap; omega
    subst hc hm
    have hy : ys = [] := List.eq_nil_of_length_eq_zero hS.hlen
    subst hy
    refine wpList_append_own_none hgd s x t ho B e i size E.under hi v n xs hs hown hx (h v w ?_ (World.grownBy_refl _ _))
    simpa using hown
  | some ad =>
    refine wpList_append_own _ hgd s x t ho B e i z size bytes E.under hi hz h2 h3 h4 E.pos v n xs hs hown ad m c (ys.flatMap f) hx (by rw [flatMap_len hf, hS.hlen]) (hS.allA hf E.pos) (fun u hu => ?_) h63 hbytes hB fun v' w' h1 h2 _ => h v' w' h1 h2
    obtain ⟨y, _, hu⟩ := List.mem_flatMap.1 hu
    exact h1 y u hu

theorem owns_lt' {w : World} {B : Nat} {e : TypeId} {size : Nat} {v : Value} {n : Nat} {xs : List Value} (h : w.ownsRow B e size v n xs) {k : Nat} (hk : v.ownBlock = some k) : B ≤ k := by
  rcases h.2 with ⟨rfl, _⟩ | ⟨g, cap, cur, rfl, hg, _⟩
  · cases hk
  · cases hk; exact hg

theorem zeroLabels (w : World) : (Instr.buildSlice 26 0 (([] : List (Nat × Value))).toArray).run Try.prog w = .ok (.slice (some ⟨w.heap.size, 0, none⟩) 0 0) (w.alloc (.cells #[] 54)) := by kernel_rfl

theorem label_one (y : Label) (u : Value) (h : u ∈ y.cells) : u.oneCell' = true := by
  simp only [Label.cells, List.mem_cons, List.not_mem_nil, or_false] at h
  rcases h with rfl | rfl <;> rfl

set_option maxRecDepth 100000 in
set_option maxHeartbeats 1000000 in
theorem clone_Label (xs : List Label) (ao : Option Addr) (n cap : Nat) (w : World) (hS : SlR (Flat Label.cells) 2 w ao n cap xs) (hn : n ≤ 1000000) :
    Calls Try.prog 89 #[.slice ao n cap] w fun e w' => ∃ v', e = .returned v' ∧ w'.ownsRow w.heap.size 54 2 v' n (xs.flatMap Label.cells) ∧ Below w.heap.size w w' := by
  cases ao with
  | none =>
    have hc := hS.hnil rfl
    have hm : n = 0 := by have := hS.hcap; omega
    subst hc hm
    have hx : xs = [] := List.eq_nil_of_length_eq_zero hS.hlen
    subst hx
    clear hS hn
    have hq : ∀ w, (binOp .eql 26 (.slice none 0 0) (.slice none 0 0)).run Try.prog w = .ok (.bool true) w := fun _ => by kernel_rfl
    go_enter Try.func89, Try.ntmps89
    go_wp2
    go_ret
    exact ⟨_, rfl, World.ownsRow_nil _ _ _ _, Below.refl _ _⟩
  | some ad =>
    have HS := Lib.hid (hS.flatKeeps (Keeps.below ((Below.refl w.heap.size w).alloc (Nat.le_refl _) (.cells #[] 54))))
    clear hS
    have hq : ∀ w, (binOp .eql 26 (.slice (some ad) n cap) (.slice none 0 0)).run Try.prog w = .ok (.bool false) w := fun _ => by kernel_rfl
    go_enter Try.func89, Try.ntmps89
    go_wp2_with (first | ((with_reducible refine at_slot 5 ?_); go_must (refine wpList_buildSlice rfl 26 0 _ rfl [] rfl _ _ zeroLabels ?_)) | ((with_reducible refine at_slot 7 ?_); go_must (refine wpList_append_slr elemLabel rfl _ _ rfl w.heap.size _ 0 [] rfl (World.ownsRow_made w _ 0 (Nat.le_refl _) (by decide) rfl) (by rw [World.size_alloc]; omega) (fun _ => rfl) (some ad) n cap xs rfl (by exact HS.out) label_one (by unfold maxLen; omega) (by omega) ?_; intro v2 w2 hown2 hgr2)))
    go_ret
    rw [Nat.zero_add, List.nil_append] at hown2
    exact ⟨_, rfl, hown2, ((Below.refl _ w).alloc (Nat.le_refl _) _).grown hgr2 (by rw [World.size_alloc]; omega) (fun k hk => by cases hk; exact Nat.le_refl _)⟩

set_option maxRecDepth 100000 in
theorem insertion_nilL (w : World) : Calls Try.prog 210 #[.slice none 0 0, .int .i64 0, .int .i64 0, .func (.func 103) #[] #[]] w fun e w' => e = .returned (.tuple #[]) ∧ w' = w := by
  go_enter Try.func210, Try.ntmps210
  go_wp2_with fail
  go_loopw [8, 9] (fun vi _ wr => vi = .int .i64 1 ∧ w = wr) (fun vi _ _ => (intOf vi).toNat)
  case atStart => exact ⟨rfl, rfl⟩
  case round =>
    obtain ⟨rfl, rfl⟩ := hrel
    go_wp2_with fail
    refine bodyPost_end (v := .tuple #[]) (by simp [results, Try.results210, go_sem]) rfl ?_
    exact ⟨rfl, rfl⟩

set_option maxRecDepth 100000 in
theorem stable_nilL (w : World) : Calls Try.prog 173 #[.slice none 0 0, .int .i64 0, .func (.func 103) #[] #[]] w fun e w' => e = .returned (.tuple #[]) ∧ w' = w := by
  have HI := Lib.hid (insertion_nilL w)
  go_enter Try.func173, Try.ntmps173
  go_wp2_with fail
  go_loopw [7, 8] (fun va vb wr => va = .int .i64 0 ∧ vb = .int .i64 20 ∧ w = wr) (fun _ vb _ => (intOf vb).toNat)
  case atStart => exact ⟨rfl, rfl, rfl⟩
  case round =>
    obtain ⟨rfl, rfl, rfl⟩ := hrel
    go_wp2_with fail
    refine HI.out.mono ?_
    rintro e w2 ⟨rfl, rfl⟩
    obtain ⟨wz, rfl⟩ : ∃ wz : World, wz = w2 := ⟨_, rfl⟩
    go_wp2_with fail
    go_loopw [6, 7, 8, 9] (fun v6 _ _ _ wr => v6 = .int .i64 20 ∧ wz = wr) (fun v6 _ _ _ _ => (intOf v6).toNat)
    case atStart => exact ⟨rfl, rfl⟩
    case round =>
      obtain ⟨rfl, rfl⟩ := hrel
      go_wp2_with fail
      refine bodyPost_end (v := .tuple #[]) (by simp [results, Try.results173, go_sem]) rfl ?_
      exact ⟨rfl, rfl⟩

set_option maxRecDepth 100000 in
theorem sortStable_nilL (w : World) : Calls Try.prog 102 #[.slice none 0 0, .func (.func 103) #[] #[]] w fun e w' => e = .returned (.tuple #[]) ∧ w' = w := by
  have HI := Lib.hid (stable_nilL w)
  go_enter Try.func102, Try.ntmps102
  go_wp2_with fail
  refine HI.out.mono ?_
  rintro e w4 ⟨rfl, rfl⟩
  go_wp2_with fail
  refine bodyPost_end (v := .tuple #[]) (by simp [results, Try.results102, go_sem]) rfl ?_
  exact ⟨rfl, rfl⟩

set_option maxRecDepth 100000 in
theorem compact_nilL (w : World) : Calls Try.prog 105 #[.slice none 0 0, .func (.func 106) #[] #[]] w fun e w' => e = .returned (.slice none 0 0) ∧ w' = w := by
  go_enter Try.func105, Try.ntmps105
  go_wp2_with fail
  go_ret
  exact ⟨rfl, rfl⟩

/-- Sorted by keys, each key once, the first one's value. -/
def SortedL (xs ys : List Label) : Prop := ∃ d : List TLab, d.Perm xs.zipIdx ∧ d.Pairwise TO ∧ ys = (dd d).map (·.1)

theorem zip_flat : ∀ (xs : List Label) (k : Nat), (xs.zipIdx k).flatMap tLab = xs.flatMap Label.cells
  | [], _ => rfl
  | x :: xs, k => by rw [List.zipIdx_cons, List.flatMap_cons, List.flatMap_cons, zip_flat xs (k + 1)]; rfl

theorem zip_le : ∀ (xs : List Label) (k : Nat), ∀ x ∈ xs.zipIdx k, k ≤ x.2
  | [], _, _, h => by simp at h
  | x :: xs, k, y, h => by
    rw [List.zipIdx_cons, List.mem_cons] at h
    rcases h with rfl | h
    · exact Nat.le_refl _
    · exact Nat.le_of_succ_le (zip_le xs (k + 1) y h)

theorem zip_rise : ∀ (xs : List Label) (k : Nat), (xs.zipIdx k).Pairwise fun x y => x.2 < y.2
  | [], _ => List.Pairwise.nil
  | x :: xs, k => by
    rw [List.zipIdx_cons]
    exact List.pairwise_cons.2 ⟨fun y hy => zip_le xs (k + 1) y hy, zip_rise xs (k + 1)⟩

theorem flat_fst (d : List TLab) : d.flatMap tLab = (d.map (·.1)).flatMap Label.cells := by
  induction d with
  | nil => rfl
  | cons x d ih => rw [List.flatMap_cons, List.map_cons, List.flatMap_cons, ih]; rfl

set_option maxRecDepth 100000 in
set_option maxHeartbeats 1000000 in
theorem sort_any (xs : List Label) (ao : Option Addr) (n cap : Nat) (w : World) (hS : SlR (Flat Label.cells) 2 w ao n cap xs) (hn : n ≤ 1000000) :
    Calls Try.prog 34 #[.slice ao n cap] w fun e w' => ∃ ao' m cap' ys, e = .returned (.slice ao' m cap') ∧ SortedL xs ys ∧ SlR (Flat Label.cells) 2 w' ao' m cap' ys ∧ Below w.heap.size w w' := by
  have HC := Lib.hid (clone_Label xs ao n cap w hS hn)
  have HL := Lib.hid hS.hlen
  clear hS
  go_enter Try.func34, Try.ntmps34
  go_wp2_with fail
  refine HC.out.mono ?_
  rintro e w1 ⟨v', rfl, ho, hb⟩
  have Hb := Lib.hid hb
  clear hb
  rcases ho.2 with ⟨rfl, hn0⟩ | ⟨g, cap1, cur, rfl, h1⟩
  · subst hn0
    have hx : xs = [] := List.eq_nil_of_length_eq_zero HL.out
    subst hx
    have HI := Lib.hid (sortStable_nilL w1)
    have HJ := Lib.hid (compact_nilL w1)
    clear ho
    go_wp2_with fail
    refine HI.out.mono ?_
    rintro e w2 ⟨rfl, rfl⟩
    go_wp2_with fail
    refine HJ.out.mono ?_
    rintro e w3 ⟨rfl, rfl⟩
    go_wp2_with fail
    go_ret
    exact ⟨none, 0, 0, [], rfl, ⟨[], List.Perm.nil, List.Pairwise.nil, rfl⟩, ⟨rfl, Nat.le_refl _, Nat.zero_le _, (fun _ => rfl), (fun a ha => by cases ha)⟩, Hb.out⟩
  · obtain ⟨hB, hnc, hcm, rest, hrow, hrl⟩ := owns_row ho
    rw [← zip_flat xs 0] at hrow
    have hR : SRowLab w1 w1 g rest (xs.zipIdx 0) := ⟨hrow, Fr.refl _ _⟩
    have HI := Lib.hid (sortStable_Lab _ rest g n cap1 w1 hR (by simp [HL.out]) (by omega) (zip_rise xs 0))
    have HR := Lib.hid hR
    have HB := Lib.hid hB
    have HRl := Lib.hid hrl
    clear ho h1 hrow hR hB hrl
    go_wp2_with fail
    refine HI.out.mono ?_
    rintro e w2 ⟨rfl, d, h2, h3, h4⟩
    have HP := Lib.hid h3
    have HT := Lib.hid h4
    have hdl : d.length = n := by rw [h3.length_eq]; simp [HL.out]
    have HJ := Lib.hid (compact_Lab d rest g n cap1 w2 h2.self hdl hnc (by omega) hcm)
    have H2 := Lib.hid h2
    have HDl := Lib.hid hdl
    clear h2 h3 h4 hdl
    go_wp2_with fail
    refine HJ.out.mono ?_
    rintro e w3 ⟨m, rest', rfl, hm, hrl', h5⟩
    have H5 : Hid (SRowLab w1 w3 g rest' (dd d)) := ⟨h5.row, H2.out.fr.trans h5.fr (fun _ hi => .inl hi)⟩
    have HM := Lib.hid hm
    clear hm hrl' h5
    go_wp2_with fail
    go_ret
    have hml : m ≤ n := by rw [HM.out, ← HDl.out]; exact dd_len d
    have hf : ∀ x : Label, x.cells.length = 2 := fun _ => rfl
    obtain ⟨ys, hys⟩ : ∃ ys : List Label, (dd d).map (·.1) = ys := ⟨_, rfl⟩
    have hyl : ys.length = m := by rw [← hys, List.length_map, HM.out]
    refine ⟨_, m, cap1, ys, rfl, ⟨d, HP.out, HT.out, hys.symm⟩, ?_, Hb.out.trans (H5.out.fr.below Hb.out.size (fun k hk => by rw [hk]; exact HB.out))⟩
    have hrow := H5.out.row
    rw [flat_fst, hys] at hrow
    refine ⟨hyl, by omega, hcm, (fun h => by cases h), fun a ha i hi => ?_⟩
    obtain rfl := Option.some.inj ha
    refine ⟨ys[i].cells, rfl, fun j u hu => ?_, rfl⟩
    have hj : j < 2 := (List.getElem?_eq_some_iff.1 hu).1
    rw [Addr.add_lit, Nat.zero_add, cell_of_row _ g _ _ _ (0, 0) hrow, List.getElem?_toArray, List.getElem?_append_left (by rw [flatMap_len hf]; omega), flatMap_get hf ys i j hi hj, hu]

set_option maxRecDepth 100000 in
set_option maxHeartbeats 1000000 in
theorem merge_any (xs zs : List Label) (ao bo : Option Addr) (n cap nb capb : Nat) (w : World) (hS : SlR (Flat Label.cells) 2 w ao n cap xs) (hZ : SlR (Flat Label.cells) 2 w bo nb capb zs) (hn : n ≤ 10000) (hnb : nb ≤ 10000) :
    Calls Try.prog 36 #[.slice ao n cap, .slice bo nb capb] w fun e w' => ∃ ao' m cap' ys, e = .returned (.slice ao' m cap') ∧ SortedL (zs ++ xs) ys ∧ SlR (Flat Label.cells) 2 w' ao' m cap' ys ∧ Below w.heap.size w w' := by
  have HC := Lib.hid (clone_Label zs bo nb capb w hZ (by omega))
  have HS := Lib.hid hS
  have HZ := Lib.hid hZ.hlen
  clear hS hZ
  go_enter Try.func36, Try.ntmps36
  go_wp2_with fail
  refine HC.out.mono ?_
  rintro e w1 ⟨v', rfl, ho, hb⟩
  have Ho := Lib.hid ho
  have Hb := Lib.hid hb
  have HS1 := Lib.hid (HS.out.flatKeeps (Keeps.below hb))
  have hsz := hb.size
  clear hb ho
  go_wp2_with ((with_reducible refine at_slot 8 ?_); go_must (refine wpList_append_slr elemLabel rfl _ _ rfl w.heap.size v' nb (zs.flatMap Label.cells) rfl (by exact Ho.out) (by exact hsz) (fun _ => rfl) ao n cap xs rfl (by exact HS1.out) label_one (by unfold maxLen; omega) (by omega) ?_; intro v2 w2 hown2 hgr2; rw [← List.flatMap_append] at hown2; have Hown2 := Lib.hid hown2; have Hgr2 := Lib.hid hgr2; obtain ⟨ao2, cap2, rfl, hs2, _⟩ := SlR.of_owns hown2 (by rw [List.length_append, HZ.out, HS.out.hlen]) (fun _ => rfl); have Hs2 := Lib.hid (sort_any _ ao2 (nb + n) cap2 w2 hs2 (by omega)); clear hown2 hgr2 hs2))
  refine Hs2.out.mono ?_
  rintro e w3 ⟨ao', m, cap', ys, rfl, h1, h2, h3⟩
  have H1 := Lib.hid h1
  have H2 := Lib.hid h2
  have H3 := Lib.hid h3
  clear h1 h2 h3
  go_wp2_with fail
  go_ret
  refine ⟨ao', m, cap', ys, rfl, H1.out, H2.out, ?_⟩
  have hg := Hb.out.grown Hgr2.out hsz (fun k hk => by
    have := owns_lt' Ho.out hk
    exact this)
  exact hg.trans (H3.out.mono hg.size)
end Go.Proofs.Ytdgjghflaaaflaa
