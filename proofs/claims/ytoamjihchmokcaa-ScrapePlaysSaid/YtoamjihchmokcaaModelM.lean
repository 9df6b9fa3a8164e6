/- Contracts of scrape's Fresh at a book, of Fresh at none. Condition: the book lies in blocks of the call's own. || What a map of series tells when some are struck. No condition. || maps.DeleteFunc at a map of series, by the closure of Forget. Condition: the map lies in a block of the call's own. || The contract of scrape's Forget. Condition: the book lies in blocks of the call's own. || Chapter 11's model of a book: a row of series with their samples; the contract of find. Condition: the rows read. -/
import Derived.Test.YtoamjihchmokcaaFreshM
import Derived.Test.YtoamjihchmokcaaBook4
import Derived.Lib.SlMapFilter
import Derived.Sort.KeysCollected
import Derived.Maps.Ext
import Derived.Maps.RangeWalk
import Derived.Laws.IdiomRangeMap
import Derived.Deep.LoopGhost
import Derived.WalkKit
import Derived.Test.YtoamjihchmokcaaCellsM
import Derived.Deep.QuietTactic
namespace Go.Proofs.Ytoamjihchmokcaa
open Go.ChangeShapes Go.WideShapes Go.ChangeAt Go.RowKit Go.Deep Go.Maps

def heldL (E : List En) (k : List UInt8) : List Sm := match findE E k with | some e => e.L | none => []

theorem fresh_book (B bb bm most : Nat) (age now : Int) (E : List En) (sub met : ByteArray) (w : World) (hB : BookAt w B bb bm most age E) (hsub : sub.size ≤ maxLen) (hmet : met.size ≤ maxLen) (hnow2 : now ≤ 9223372036854775807) (ha1 : 1 ≤ age) (ha2 : age ≤ 1800) :
    Calls Try.prog 13 #[.pointer (some ⟨bb, 0, none⟩), .int .i64 now, .agg #[.string sub, .string met]] w fun e w' =>
      e = .returned (.tuple #[.int .i64 (freshOf age now (heldL E (serBytes sub.data.toList met.data.toList))).1, .int .i64 (freshOf age now (heldL E (serBytes sub.data.toList met.data.toList))).2]) ∧ Below w.heap.size w w' := by
  unfold heldL
  cases hf : findE E (serBytes sub.data.toList met.data.toList) with
  | none => exact (callsIn_wide (n := 6)).1 (fresh_in bb bm most age now none [] _ _ _ sub met w hB.blk hB.map (serKey hsub hmet) (by rw [enMap_str, hf]; rfl) (.inl ⟨rfl, rfl⟩) hnow2 ha1 ha2)
  | some e => exact (callsIn_wide (n := 6)).1 (fresh_in bb bm most age now (some ⟨e.rb, 0, none⟩) e.L _ _ _ sub met w hB.blk hB.map (serKey hsub hmet) (by rw [enMap_str, hf]; rfl) (.inr ⟨e.rb, e.lb, most, rfl, hB.rings e (findE_mem hf), hB.pos e (findE_mem hf)⟩) hnow2 ha1 ha2)


end Go.Proofs.Ytoamjihchmokcaa
namespace Go.Proofs.Ytoamjihchmokcaa
open Go.ChangeShapes Go.WideShapes Go.ChangeAt Go.RowKit Go.Deep Go.Maps Go.Sort

set_option maxRecDepth 100000 in
theorem serKey_inv {v : Value} {kl : Lit} (h : keyOf Try.prog 33 v = some kl) : ∃ a b : ByteArray, v = .agg #[.string a, .string b] ∧ kl = .string (serBytes a.data.toList b.data.toList) ∧ a.size ≤ maxLen ∧ b.size ≤ maxLen := by
  have hu := Try.underlying33
  have hs := Try.underlying9
  have hk : Try.prog.keyType 33 = true := by kernel_rfl
  have hc : Try.prog.cellsOf 33 = 2 := by kernel_rfl
  have hc1 : Try.prog.cellsOf 9 = 1 := by kernel_rfl
  obtain ⟨d, hd⟩ : ∃ d, Try.prog.types.size = d + 1 := ⟨Try.prog.types.size - 1, by kernel_rfl⟩
  unfold keyOf at h
  rw [hu] at h
  simp only [hk, Value.formed, hu, Bool.true_and] at h
  rw [hd] at h
  cases v <;> simp at h
  rename_i xs
  obtain ⟨hsz, l, hl, rfl⟩ := h
  obtain ⟨ys⟩ := xs
  simp [Program.keyLits, hu, hs, hc, hc1, Value.cells] at hl
  match ys, hl with
  | [], hl => simp at hl
  | [x], hl => simp at hl
  | x :: y :: z :: r, hl => simp at hl
  | [x, y], hl =>
    cases x <;> simp at hl
    rename_i a
    by_cases ha : a.size ≤ maxLen
    · cases y <;> simp [ha] at hl
      rename_i b
      by_cases hb : b.size ≤ maxLen
      · simp [hb] at hl
        exact ⟨a, b, rfl, by rw [← hl]; rfl, ha, hb⟩
      · simp [hb] at hl
    · simp [ha] at hl

theorem serBytes_inj {a b a' b' : ByteArray} (ha : a.size ≤ maxLen) (hb : b.size ≤ maxLen) (ha' : a'.size ≤ maxLen) (hb' : b'.size ≤ maxLen) (h : serBytes a.data.toList b.data.toList = serBytes a'.data.toList b'.data.toList) : a = a' ∧ b = b' := by
  have h1 := serKey ha hb
  have h2 := serKey ha' hb'
  rw [← h] at h2
  have := serKeyed.inj h1 h2
  simp at this
  exact this

theorem size_of_tells {w : World} {b n : Nat} {D : DataW Value} {E : List En} (hown : w.ownsMap Try.prog 33 heldElem b n D) (hT : Tells D (enMap E)) (hk : E.Pairwise fun x y => x.key ≠ y.key) : Maps.size D = E.length := by
  obtain ⟨es, rfl, hpw, hkeys⟩ := hown.entries serKeyed
  obtain ⟨es', hD', hko⟩ := hown.keysOf
  obtain rfl : es = es' := by simpa using hD'
  have hstr : ∀ p ∈ es, ∃ s, p.1 = .string s := fun p hp => by
    obtain ⟨v, hv⟩ := hko p hp
    obtain ⟨a, b, _, h2, _⟩ := serKey_inv hv
    exact ⟨_, h2⟩
  have h1 : (es.map (·.1)).Nodup := List.pairwise_map.2 hpw
  have h2 : (E.map fun e => Lit.string e.key).Nodup := List.pairwise_map.2 (hk.imp fun {a b} hab hh => hab (by injection hh))
  have hm : ∀ x, x ∈ es.map (·.1) ↔ x ∈ E.map fun e => Lit.string e.key := fun x => by
    have hx := (hT x).1
    rw [has_eq] at hx
    constructor
    · intro hmem
      obtain ⟨p, hp, rfl⟩ := List.mem_map.1 hmem
      obtain ⟨s, hs⟩ := hstr p hp
      have : es.any (fun q => q.1.sameKey p.1) = true := List.any_eq_true.2 ⟨p, hp, by rw [hs]; simp [Lit.sameKey]⟩
      rw [this, hs] at hx
      have hsome : (findE E s).isSome = true := by
        have : (enMap E (.string s)).isSome = true := hx.symm
        rw [enMap_str] at this
        simpa using this
      obtain ⟨e, he⟩ := Option.isSome_iff_exists.1 hsome
      rw [hs]
      exact List.mem_map.2 ⟨e, findE_mem he, by rw [findE_key he]⟩
    · intro hmem
      obtain ⟨e, he, rfl⟩ := List.mem_map.1 hmem
      have hsome : (enMap E (.string e.key)).isSome = true := by
        rw [enMap_str]
        unfold findE
        rw [Option.isSome_map, List.find?_isSome]
        exact ⟨e, he, beq_self_eq_true _⟩
      rw [hsome] at hx
      obtain ⟨p, hp, hs⟩ := List.any_eq_true.1 hx
      obtain ⟨s, hps⟩ := hstr p hp
      rw [hps] at hs
      have : s = e.key := by simpa [Lit.sameKey] using hs
      exact List.mem_map.2 ⟨p, hp, by rw [hps, this]⟩
  have := ((List.perm_ext_iff_of_nodup h1 h2).2 hm).length_eq
  rw [List.length_map, List.length_map] at this
  exact this

theorem tells_filter {es : List (Lit × DataW Value)} {f : Lit → Option Value} (hT : Tells (.map es) f) (pd : Lit → Bool) :
    Tells (Lib.deleteFuncD (fun kl _ => pd kl) (.map es)) (fun kl => if pd kl then none else f kl) := by
  intro kl
  have hsm : ∀ p ∈ es, p.1.sameKey kl = true → p.1 = kl := fun p _ h => WideAt.sameKey_eq h
  have e : ∀ (l : List (Lit × DataW Value)), (∀ p ∈ l, p.1.sameKey kl = true → p.1 = kl) → (l.filter fun p => !pd p.1).find? (fun p => p.1.sameKey kl) = if pd kl then none else l.find? (fun p => p.1.sameKey kl) := by
    intro l
    induction l with
    | nil => intro _; simp
    | cons a t ih =>
      intro h
      have ih := ih (fun p hp => h p (List.mem_cons_of_mem _ hp))
      rw [List.filter_cons]
      cases hs : a.1.sameKey kl
      · cases hp : pd a.1
        · simp only [Bool.not_false, if_true, List.find?_cons, hs]
          exact ih
        · simp only [Bool.not_true, Bool.false_eq_true, if_false, List.find?_cons, hs]
          exact ih
      · have ha := h a (List.mem_cons_self ..) hs
        cases hp : pd a.1
        · rw [ha] at hp
          simp only [Bool.not_false, if_true, List.find?_cons, hs, hp]
          simp
        · rw [ha] at hp
          simp only [Bool.not_true, Bool.false_eq_true, if_false, hp] at ih ⊢
          rw [ih]; simp
  have e := e es hsm
  have af : ∀ (l : List (Lit × DataW Value)) (q : Lit × DataW Value → Bool), l.any q = (l.find? q).isSome := fun l q => by
    induction l with
    | nil => rfl
    | cons a t ih => simp only [List.any_cons, List.find?_cons]; cases q a <;> simp [ih]
  obtain ⟨h1, h2⟩ := hT kl
  show has (.map (es.filter fun p => !pd p.1)) kl = (if pd kl then none else f kl).isSome ∧ ∀ z, DataW.atKey (.map (es.filter fun p => !pd p.1)) kl z = (((if pd kl then none else f kl)).map DataW.held).getD z
  rw [has_eq, af, e]
  rw [has_eq, af] at h1
  cases hp : pd kl
  · simp only [hp, Bool.false_eq_true, if_false] at e ⊢
    refine ⟨h1, fun z => ?_⟩
    have h2 := h2 z
    simp only [DataW.atKey] at h2 ⊢
    rw [e]; exact h2
  · simp only [hp, if_true] at e ⊢
    refine ⟨rfl, fun z => ?_⟩
    simp only [DataW.atKey]
    rw [e]; rfl
end Go.Proofs.Ytoamjihchmokcaa
namespace Go.Proofs.Ytoamjihchmokcaa
open Go.ChangeShapes Go.WideShapes Go.ChangeAt Go.RowKit Go.Deep Go.Maps

theorem forget1_any (sub a b : ByteArray) (rv : Value) (fb : Nat) (w : World) (h : w.cell? ⟨fb, 0, none⟩ = some (.string sub)) :
    Calls Try.prog 20 #[.agg #[.string a, .string b], rv, .pointer (some ⟨fb, 0, none⟩)] w fun e w' => e = .returned (.bool (a.toList == sub.toList)) ∧ w.grownBy w' none := by
  have k0 : (w.alloc (.cells #[.string a, .string b] 33)).cell? ⟨w.heap.size, 0, none⟩ = some (.string a) := cell_new w _ _ 0
  have hlt := World.block_lt_of_cell? _ _ h
  go_enter Try.func20, Try.ntmps20
  go_wp2
  go_ret
  exact ⟨rfl, World.grownBy_alloc _ _ _⟩

noncomputable def ofSub (s : ByteArray) (kl : Lit) : Bool := open Classical in decide (∃ b : ByteArray, kl = .string (serBytes s.data.toList b.data.toList) ∧ b.size ≤ maxLen)
theorem ofSub_key {s a b : ByteArray} (hs : s.size ≤ maxLen) (ha : a.size ≤ maxLen) (hb : b.size ≤ maxLen) : ofSub s (.string (serBytes a.data.toList b.data.toList)) = decide (a = s) := by
  unfold ofSub
  refine decide_eq_decide.2 ⟨?_, ?_⟩
  · rintro ⟨b', he, hb'⟩
    injection he with he
    exact (serBytes_inj ha hb hs hb' he).1
  · rintro rfl
    exact ⟨b, rfl, hb⟩

theorem str_eq (a b : ByteArray) : (a.toList == b.toList) = decide (a = b) := by
  rw [Lib.toList_data, Lib.toList_data]
  by_cases h : a = b
  · rw [decide_eq_true h, h]; exact beq_self_eq_true _
  · rw [decide_eq_false h]
    refine beq_eq_false_iff_ne.2 (fun hh => h ?_)
    cases a; cases b
    simp at hh
    rw [hh]

set_option maxHeartbeats 4000000 in
set_option maxRecDepth 100000 in
theorem delSeries (sub : ByteArray) (fb b n : Nat) (D : DataW Value) (w : World) (hsub : sub.size ≤ maxLen) (hc : w.cell? ⟨fb, 0, none⟩ = some (.string sub)) (hne : fb ≠ b) (hown : w.ownsMap Try.prog 33 heldElem b n D) :
    Calls Try.prog 19 #[.map (some b), .func (.func 20) #[] #[.pointer (some ⟨fb, 0, none⟩)]] w fun e w' => e = .returned (.tuple #[]) ∧ w'.ownsMap Try.prog 33 heldElem b n (Lib.deleteFuncD (fun kl _ => ofSub sub kl) D) ∧ w.grownBy w' (some b) := by
  obtain ⟨es0, rfl, hap, hkeys⟩ := hown.entries serKeyed
  have K := serKeyed
  have HC := Lib.hid hc
  have hfl := World.block_lt_of_cell? _ _ hc
  have hbl0 := hown.lt
  clear hc
  go_enter Try.func19, Try.ntmps19
  go_wp2_with (first
    | (at_range; refine wpList_range_own _ rfl _ 53 rfl 33 58 K Try.underlying53 heldElem b n _ rfl hown ?_; intro w0 hrg0 hg0 hs0)
    | go_in)
  go_loopw [4,5,8] (fun _ _ _ wr => ∃ (left : Lit → Bool) (cnt : Nat), wr.ranges Try.prog 33 heldElem b w.heap.size n (Fk (fun kl _ => ofSub sub kl) es0 left) left cnt ∧ w.grownBy wr (some b))
    (fun _ _ _ wr => wr.rangeLeft b w.heap.size)
  case atStart => exact ⟨_, _, by rw [Fk_start hkeys]; exact hrg0, hg0.but _⟩
  case round =>
    obtain ⟨left, cnt, hrg, hgw⟩ := hrel
    go_wp2_with (first
      | (at_next; refine wpList_next_ranges (α := ByteArray × ByteArray) (β := Value) _ rfl _ rfl 33 K heldElem (fun x => .agg #[.string x.1, .string x.2]) id (fun key kl hk => by obtain ⟨x, y, h, _⟩ := serKey_inv hk; exact ⟨(x, y), h⟩) (fun v _ _ => ⟨v, rfl⟩) b w.heap.size n _ _ _ rfl hrg ?_ ?_)
      | go_in)
    · intro _ hl0
      go_wp2
      go_end0
      exact ⟨rfl, by rw [← Fk_end hl0]; exact hrg.owns, hgw⟩
    · intro x1 x2 c kl yd yp w1 cnt1 hkey hlx hv hat hrg1 hlt hg1 hs1 hen
      have hgw1 := hgw.andThen hg1 (fun j hj => by cases hj; exact Or.inl (Nat.le_refl _))
      have hbl := hrg1.owns.lt
      have hrl := hrg1.lt
      have hws : w.heap.size < w1.heap.size + 1 := by have := hgw1.size; omega
      have hc1 : w1.cell? ⟨fb, 0, none⟩ = some (.string sub) := (hgw1.cell HC.out (by simpa using hne))
      have HC1 := Lib.hid hc1
      clear hc1
      obtain ⟨y1, y2, hy, rfl, hy1, hy2⟩ := serKey_inv hkey
      injection hy with hy
      injection hy with hy
      injection hy with e1 hy
      injection hy with e2 hy
      injection e1 with e1
      injection e2 with e2
      subst e1 e2
      have hkl : ofSub sub (.string (serBytes x1.data.toList x2.data.toList)) = (x1.toList == sub.toList) := by
        rw [ofSub_key hsub hy1 hy2, str_eq]
      have hga : w1.grownBy (w1.alloc (.cells #[.string x1, .string x2] 33)) none := World.grownBy_alloc _ _ _
      have hrgA := hrg1.alloc (.cells #[.string x1, .string x2] 33)
      have hcA := hga.cell HC1.out (by simp)
      have hgwA := hgw1.andThen hga (fun j hj => by cases hj)
      have k0 : (w1.alloc (.cells #[.string x1, .string x2] 33)).cell? ⟨w1.heap.size, 0, none⟩ = some (.string x1) := cell_new w1 _ _ 0
      have k1 : (w1.alloc (.cells #[.string x1, .string x2] 33)).cell? ⟨w1.heap.size, 1, none⟩ = some (.string x2) := cell_new w1 _ _ 1
      rw [hs1] at k0 k1
      have HL := Lib.hid hkl
      have Hlt := Lib.hid hlt
      have Hlf := Lib.hid hrg.left_eq
      have Hat := Lib.hid hat
      have Hlx := Lib.hid hlx
      have HrgA := Lib.hid hrgA
      have HgwA := Lib.hid hgwA
      clear hkl hlt hat hlx hrg hrgA hgwA hgw hgw1
      go_wp2_with fail
      refine (forget1_any sub x1 x2 c fb _ hcA).mono ?_
      rintro e w2 ⟨rfl, hg2⟩
      have k0 := hg2.cell k0 (by simp)
      have k1 := hg2.cell k1 (by simp)
      have hrg2 := HrgA.out.kept hg2 (by simp) (by simp)
      cases hp : (x1.toList == sub.toList)
      · have HP := Lib.hid hp
        clear hp
        go_wp2_with fail
        go_roundw
        case rel => exact ⟨_, cnt1, by rw [← Fk_stays hap (K.key hkey) Hlx.out (HL.out.trans HP.out) Hat.out]; exact hrg2, HgwA.out.andThen hg2 (fun j hj => by cases hj)⟩
        case measure => rw [hrg2.left_eq, Hlf.out]; exact Hlt.out
      · have HP := Lib.hid hp
        clear hp
        go_wp2_with (first
          | (at_delete; refine wpList_delete_ranges _ rfl _ _ 53 33 rfl 58 K Try.underlying53 heldElem b w.heap.size n _ _ _ rfl hrg2 _ _ rfl hkey ?_; intro w3 cnt3 hrg3 hle hturn; go_frame)
          | go_in)
        rw [strike_twice] at hrg3
        go_roundw
        case rel => exact ⟨_, cnt3, by rw [← Fk_struck hap (K.key hkey) Hlx.out (HL.out.trans HP.out) Hat.out]; exact hrg3, (HgwA.out.andThen hg2 (fun j hj => by cases hj)).andThen hturn.grown (fun j hj => by cases hj; exact Or.inr rfl)⟩
        case measure => rw [hrg3.left_eq, Hlf.out]; have := Hlt.out; omega
end Go.Proofs.Ytoamjihchmokcaa
namespace Go.Proofs.Ytoamjihchmokcaa
open Go.ChangeShapes Go.WideShapes Go.ChangeAt Go.RowKit Go.Deep Go.Maps

def forgetE (E : List En) (sub : ByteArray) : List En := E.filter fun e => !(e.sub.toList == sub.toList)

theorem enMap_forget (E : List En) (sub : ByteArray) (hsub : sub.size ≤ maxLen) (hE : ∀ e ∈ E, e.sub.size ≤ maxLen ∧ e.met.size ≤ maxLen) (kl : Lit) : (if ofSub sub kl then none else enMap E kl) = enMap (forgetE E sub) kl := by
  cases kl with
  | string s =>
    rw [enMap_str, enMap_str]
    have : findE (forgetE E sub) s = if ofSub sub (.string s) then none else findE E s := by
      unfold findE forgetE
      induction E with
      | nil => simp
      | cons a t ih =>
        have ih := ih (fun e he => hE e (List.mem_cons_of_mem _ he))
        obtain ⟨h1, h2⟩ := hE a (List.mem_cons_self ..)
        have hk := ofSub_key hsub h1 h2
        rw [← str_eq] at hk
        rw [List.filter_cons]
        by_cases hs : a.key = s
        · have hs' : (a.key == s) = true := beq_iff_eq.2 hs
          rw [show Lit.string (serBytes a.sub.data.toList a.met.data.toList) = .string a.key from rfl, hs] at hk
          cases hp : (a.sub.toList == sub.toList)
          · simp only [Bool.not_false, if_true, List.find?_cons, hs', hk, hp]; simp
          · simp only [Bool.not_true, Bool.false_eq_true, if_false, hk, hp] at ih ⊢
            rw [ih]; simp
        · have hs' : (a.key == s) = false := beq_eq_false_iff_ne.2 hs
          cases hp : (a.sub.toList == sub.toList)
          · simp only [Bool.not_false, if_true, List.find?_cons, hs']; exact ih
          · simp only [Bool.not_true, Bool.false_eq_true, if_false, List.find?_cons, hs']; exact ih
    rw [this]
    split <;> rfl
  | _ => simp [enMap]

set_option maxRecDepth 100000 in
set_option maxHeartbeats 2000000 in
theorem forget_any (B bb bm most : Nat) (age : Int) (E : List En) (sub : ByteArray) (w : World) (hB : BookAt w B bb bm most age E) (hsub : sub.size ≤ maxLen) (hE : ∀ e ∈ E, e.sub.size ≤ maxLen ∧ e.met.size ≤ maxLen) (hlen : E.length ≤ 512) (d : Nat) (hd : d + (forgetE E sub).length = E.length) :
    Calls Try.prog 8 #[.pointer (some ⟨bb, 0, none⟩), .string sub] w fun e w' => e = .returned (.int .i64 d) ∧ BookAt w' B bb bm most age (forgetE E sub) ∧ Fr (fun q => q = bm) w w' := by
  obtain ⟨lb0, lb1⟩ := hB.lt
  have hB0 := hB.keep ((Below.refl _ w).alloc (Nat.le_refl _) (.cells #[.string sub] 9))
  obtain ⟨c0, c1, c2⟩ := cells3 hB0.blk
  obtain ⟨el, hel⟩ : ∃ el, E.length = el := ⟨_, rfl⟩
  obtain ⟨fl, hfl⟩ : ∃ fl, (forgetE E sub).length = fl := ⟨_, rfl⟩
  rw [hel, hfl] at hd
  rw [hel] at hlen
  have HM0 := hB0.map
  rw [hel] at HM0
  have HB0 := Lib.hid hB0
  have HMM := Lib.hid HM0
  have Hel := Lib.hid hel
  have Hfl := Lib.hid hfl
  have Hd := Lib.hid hd
  have hc : (w.alloc (.cells #[.string sub] 9)).cell? ⟨w.heap.size, 0, none⟩ = some (.string sub) := cell_new w #[.string sub] _ 0
  have HMM0 := HMM
  obtain ⟨D, hown, hsz, hT⟩ := HMM0.out
  obtain ⟨es, rfl, _⟩ := hown.entries serKeyed
  have Hsz := Lib.hid hsz
  have HT := Lib.hid hT
  have HE := Lib.hid hE
  have hne : w.heap.size ≠ bm := by omega
  clear hsz hT hE HMM0
  clear hB0 HM0 hel hfl hd
  go_enter Try.func8, Try.ntmps8
  go_wp2_with (refine wpList_map_len _ _ _ rfl rfl _ _ Try.underlying53 bm el _ rfl HMM.out ?_)
  refine (delSeries sub w.heap.size bm el _ _ hsub hc hne hown).mono ?_
  rintro e w1 ⟨rfl, hown1, hg1⟩
  have hT1 := tells_filter HT.out (ofSub sub)
  have he1 : (fun kl => if ofSub sub kl = true then none else enMap E kl) = enMap (forgetE E sub) := funext fun kl => enMap_forget E sub hsub HE.out kl
  rw [he1] at hT1
  have hk1 : (forgetE E sub).Pairwise fun x y => x.key ≠ y.key := HB0.out.keys.filter _
  have hsz1 := size_of_tells hown1 hT1 hk1
  have hM1 : MapIs w1 Try.prog 33 bm (forgetE E sub).length (enMap (forgetE E sub)) := ⟨_, hsz1 ▸ ownsMap_size hown1, hsz1, hT1⟩
  have hF : Fr (fun q => q = bm) (w.alloc (.cells #[.string sub] 9)) w1 := Fr.grown hg1 (fun k hk => by cases hk; rfl)
  have hB1 : BookAt w1 B bb bm most age (forgetE E sub) := HB0.out.turn hF hM1 (fun e he => by
    have he := (List.mem_filter.1 he).1
    exact ⟨HB0.out.rings e he, HB0.out.pos e he, HB0.out.base.2.2 e he⟩) hk1 (HB0.out.apart.filter _)
  have hFw : Fr (fun q => q = bm) w w1 := ((Fr.refl _ w).alloc _).trans hF (fun _ h => .inl h)
  have HB1 := Lib.hid hB1
  have HFw := Lib.hid hFw
  have HM1 := Lib.hid hM1
  rw [Hfl.out] at HM1
  obtain ⟨c0, c1, c2⟩ := cells3 hB1.blk
  obtain ⟨lb0, lb1⟩ := hB1.lt
  clear hT1 hM1 hF hFw hB1 hown1 he1 hk1 hsz1 hc hown
  go_wp2_with (refine wpList_map_len _ _ _ rfl rfl _ _ Try.underlying53 bm fl _ rfl (MapIs.same HM1.out (by rfl)) ?_)
  have hw : wrap64 ((el : Int) - fl) = d := by
    have := Hd.out
    rw [show (el : Int) - fl = d by omega]
    exact IntWalk.wrap64_in _ (by omega)
  rw [hw]
  go_ret
  exact ⟨rfl, HB1.out, HFw.out⟩
end Go.Proofs.Ytoamjihchmokcaa
namespace Go.Proofs.Ytoamjihchmokcaa
open Go.ChangeShapes Go.WideShapes Go.ChangeAt Go.RowKit Go.Deep Go.Maps

structure Mo where
  en : En
  v : Value
def Mo.cells (x : Mo) : List Value := [.string x.en.sub, .string x.en.met, x.v]
def serB (e : En) (s m : ByteArray) : Bool := (e.sub.toList == s.toList) && (e.met.toList == m.toList)
theorem serB_iff {e : En} {s m : ByteArray} : serB e s m = true ↔ e.sub = s ∧ e.met = m := by
  unfold serB
  rw [Bool.and_eq_true, str_eq, str_eq, decide_eq_true_eq, decide_eq_true_eq]
theorem serB_key {e : En} {s m : ByteArray} (h1 : e.sub.size ≤ maxLen) (h2 : e.met.size ≤ maxLen) (h3 : s.size ≤ maxLen) (h4 : m.size ≤ maxLen) : serB e s m = (e.key == serBytes s.data.toList m.data.toList) := by
  rw [Bool.eq_iff_iff, serB_iff, beq_iff_eq]
  constructor
  · rintro ⟨rfl, rfl⟩; rfl
  · exact fun h => serBytes_inj h1 h2 h3 h4 h
def findM (M : List Mo) (s m : ByteArray) : Option Nat := M.findIdx? fun x => serB x.en s m
def findI (M : List Mo) (s m : ByteArray) : Int := match findM M s m with | some k => k | none => -1
theorem findI_some {M : List Mo} {s m : ByteArray} {k : Nat} (h : findM M s m = some k) : findI M s m = k := by unfold findI; rw [h]
theorem findI_none {M : List Mo} {s m : ByteArray} (h : findM M s m = none) : findI M s m = -1 := by unfold findI; rw [h]
theorem findM_at {M : List Mo} {s m : ByteArray} {k : Nat} (hk : k < M.length) (h : serB M[k].en s m = true) (hno : ∀ x ∈ M.take k, serB x.en s m = false) : findM M s m = some k := by
  unfold findM
  rw [List.findIdx?_eq_some_iff_getElem]
  refine ⟨hk, h, fun j hj => ?_⟩
  rw [hno M[j] (List.mem_take_iff_getElem.2 ⟨j, by omega, rfl⟩)]
  decide
theorem findM_no {M : List Mo} {s m : ByteArray} (h : ∀ x ∈ M, serB x.en s m = false) : findM M s m = none := by
  unfold findM
  rw [List.findIdx?_eq_none_iff]
  exact h

set_option maxRecDepth 100000 in
theorem find_any (M : List Mo) (s m : ByteArray) (ao : Option Addr) (n cap : Nat) (w : World) (hS : SlR (Flat Mo.cells) 3 w ao n cap M) :
    Calls Try.prog 11 #[.slice ao n cap, .agg #[.string s, .string m]] w fun e w' => e = .returned (.int .i64 (findI M s m)) ∧ Below w.heap.size w w' := by
  have hcm := hS.hmax
  have hlc := hS.hcap
  unfold maxLen at hcm
  have HS := Lib.hid hS
  clear hS
  have b0 : (w.alloc (.cells #[.string s, .string m] 33)).cell? ⟨w.heap.size, 0, none⟩ = some (.string s) := cell_new w _ _ 0
  have b1 : (w.alloc (.cells #[.string s, .string m] 33)).cell? ⟨w.heap.size, 1, none⟩ = some (.string m) := cell_new w _ _ 1
  obtain ⟨W, hW⟩ : ∃ W, w.alloc (.cells #[.string s, .string m] 33) = W := ⟨_, rfl⟩
  have HB : Hid (Below w.heap.size w W) := by rw [← hW]; exact (Below.refl _ _).alloc (Nat.le_refl _) _
  have hzW : W.heap.size = w.heap.size + 1 := by rw [← hW, World.size_alloc]
  rw [hW] at b0 b1
  have HB0 := Lib.hid b0
  have HB1 := Lib.hid b1
  obtain ⟨N, hN⟩ : ∃ N, w.heap.size = N := ⟨_, rfl⟩
  rw [hN] at HB HB0 HB1 hzW ⊢
  clear b0 b1
  have HN := Lib.hid hN
  go_enter Try.func11, Try.ntmps11
  go_wp2_with fail
  clear hW hN
  go_loopw [8] (fun i wr => ∃ k : Nat, k ≤ n ∧ i = .int .i64 k ∧ Hid (∀ x ∈ M.take k, serB x.en s m = false) ∧ Hid (Below W.heap.size W wr)) (fun i _ => n - (intOf i).toNat)
  case atStart => exact ⟨0, Nat.zero_le _, rfl, (fun x hx => by simp at hx), Below.refl _ _⟩
  case round =>
    obtain ⟨k, hk, rfl, hall, hb⟩ := hrel
    obtain ⟨wq, rfl⟩ : ∃ wq : World, wq = wr := ⟨_, rfl⟩
    have HBq : Hid (Below N w wq) := HB.out.trans (hb.out.mono (by omega))
    by_cases hlt : k < n
    · have hS2 := HS.out.flatKeeps (Keeps.below (by rw [HN.out]; exact HBq.out))
      obtain ⟨b0, off, rfl⟩ := hS2.ptr (by decide) (by omega)
      have kx : k < M.length := by have := hS2.hlen; omega
      have c0 := hS2.flat kx 0 _ rfl
      have c1 := hS2.flat kx 1 _ rfl
      rw [Nat.add_zero] at c0
      have htk : M.take (k + 1) = M.take k ++ [M[k]] := List.take_succ_eq_append_getElem kx
      have hat := fun h => findM_at (s := s) (m := m) kx h hall.out
      obtain ⟨y, hy⟩ : ∃ y, M[k] = y := ⟨_, rfl⟩
      rw [hy] at c0 c1 htk hat
      have x0 := Below.cell_some hb.out HB0.out
      have x1 := Below.cell_some hb.out HB1.out
      have hser : serB y.en s m = ((y.en.sub.toList == s.toList) && (y.en.met.toList == m.toList)) := rfl
      obtain ⟨ys, hys⟩ : ∃ c, y.en.sub = c := ⟨_, rfl⟩
      obtain ⟨ym, hym⟩ : ∃ c, y.en.met = c := ⟨_, rfl⟩
      rw [hys] at c0 hser
      rw [hym] at c1 hser
      have Htk := Lib.hid htk
      have Hat := Lib.hid hat
      obtain ⟨q1, hq1⟩ : ∃ q, (ys.toList == s.toList) = q := ⟨_, rfl⟩
      obtain ⟨q2, hq2⟩ : ∃ q, (ym.toList == m.toList) = q := ⟨_, rfl⟩
      rw [hq1, hq2] at hser
      have Hser := Lib.hid hser
      have HBe : Hid (∀ w', Below W.heap.size W w' → Below N w w') := fun w' h => HB.out.trans (h.mono (by omega))
      clear hS2 htk hat hy hys hym hser kx
      have hfin : Hid (serB y.en s m = false → ∀ x ∈ M.take (k + 1), serB x.en s m = false) := fun h x hx => by
        rw [Htk.out] at hx
        rcases List.mem_append.1 hx with h2 | h2
        · exact hall.out x h2
        · rw [List.mem_singleton.1 h2]; exact h
      cases q1
      · go_wp2_with fail
        go_quiet (fail)
        go_wp2_with fail
        go_roundw
        case rel => exact ⟨k + 1, by omega, by go_num, hfin.out Hser.out, drewN_below hb.out _⟩
        case measure => simp [intOf]; omega
      · cases q2
        · go_wp2_with fail
          go_quiet (fail)
          go_wp2_with fail
          go_roundw
          case rel => exact ⟨k + 1, by omega, by go_num, hfin.out Hser.out, drewN_below hb.out _⟩
          case measure => simp [intOf]; omega
        · have hf : Hid (findI M s m = k) := findI_some (Hat.out Hser.out)
          go_wp2_with fail
          go_quiet (fail)
          go_wp2_with fail
          go_ret
          exact ⟨by rw [hf.out]; rfl, HBe.out _ (drewN_below hb.out _)⟩
    · obtain rfl : k = n := by omega
      have ht : M.take k = M := List.take_of_length_le (by have := HS.out.hlen; omega)
      have hf : Hid (findI M s m = -1) := findI_none (findM_no (by have := hall.out; rwa [ht] at this))
      clear ht
      go_wp2_with fail
      go_ret
      exact ⟨by rw [hf.out]; rfl, HBq.out⟩
end Go.Proofs.Ytoamjihchmokcaa
