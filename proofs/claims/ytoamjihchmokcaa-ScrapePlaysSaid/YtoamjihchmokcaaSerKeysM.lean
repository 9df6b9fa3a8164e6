/- A book and its model side by side: where their blocks lie, and the calls of a sample's step. Conditions: the book and the model lie in blocks of the call's own. || A book and its model side by side: forgetting in both, and a copy that goes on by itself. Conditions: the book and the model lie in blocks of the call's own. || maps.Keys over a book's map, slices.Collect of it: each series once, in some order. Condition: the map lies in a block of the call's own; names are of Go's size. -/
import Derived.Test.YtoamjihchmokcaaPlays1M
import Derived.Test.YtoamjihchmokcaaModelM
import Derived.Test.YtoamjihchmokcaaCellsM
import Derived.Shelf.SlIter.Keys
import Derived.Shelf.SlIter.Collect
import Derived.RangeFuncGives
import Derived.RangeFuncKeeps
import Derived.RangeFuncNested
import Derived.RangeFuncBound
import Derived.RangeFuncCalls
import Derived.RangeFuncLeaves
import Derived.RangeFuncFrom
import Derived.Maps.Ext
import Derived.OwnWalkIn
import Derived.TacticsInMore
import Derived.LoopNIn
import Derived.LoopIn
import Derived.ControlIn
import Derived.WalkKit
namespace Go.Proofs.Ytoamjihchmokcaa
open Go.ChangeShapes Go.WideShapes Go.ChangeAt Go.RowKit Go.Deep Go.Maps

theorem PlayAt.sbLt {w : World} {B bb bm pb most : Nat} {age : Int} {mv : Value} {M : List Mo} {k : Nat} (h : PlayAt w B bb bm pb most age mv M k) {q : Nat} (hq : SB bb bm (M.map Mo.en) q) : B ≤ q ∧ q < w.heap.size := by
  have hb := h.book.base
  have hl := h.book.lt
  rcases hq with rfl | rfl | ⟨e, he, rfl | rfl⟩
  · exact ⟨hb.1, hl.1⟩
  · exact ⟨hb.2.1, hl.2⟩
  · exact ⟨(hb.2.2 e he).1, (h.book.rings e he).lt.1⟩
  · exact ⟨(hb.2.2 e he).2, (h.book.rings e he).lt.2⟩
theorem PlayAt.names {w : World} {B bb bm pb most : Nat} {age : Int} {mv : Value} {M : List Mo} {k : Nat} (h : PlayAt w B bb bm pb most age mv M k) : ∀ x ∈ M, x.en.sub.size ≤ maxLen ∧ x.en.met.size ≤ maxLen := fun x hx => by
  have := (h.good x hx).1
  unfold maxLen
  omega
theorem PlayAt.enames {w : World} {B bb bm pb most : Nat} {age : Int} {mv : Value} {M : List Mo} {k : Nat} (h : PlayAt w B bb bm pb most age mv M k) : ∀ e ∈ M.map Mo.en, e.sub.size ≤ maxLen ∧ e.met.size ≤ maxLen := fun e he => by
  obtain ⟨x, hx, rfl⟩ := List.mem_map.1 he
  exact h.names x hx
theorem PlayAt.keys {w : World} {B bb bm pb most : Nat} {age : Int} {mv : Value} {M : List Mo} {k : Nat} (h : PlayAt w B bb bm pb most age mv M k) : M.Pairwise fun x y => x.en.key ≠ y.en.key := (List.pairwise_map (R := fun x y : En => x.key ≠ y.key)).1 h.book.keys
theorem PlayAt.mid {w w1 : World} {B bb bm pb most : Nat} {age : Int} {mv : Value} {M : List Mo} {k : Nat} (h : PlayAt w B bb bm pb most age mv M k) (hf : Fr (SB bb bm (M.map Mo.en)) w w1) : ModelAt w1 B pb mv M :=
  h.mod.fr hf (fun q h2 h1 => play_apart h.book h.mod (fun x hx e he => by obtain ⟨y, hy, rfl⟩ := List.mem_map.1 he; exact h.cross x hx y hy) h1 h2)
theorem step_below0 {w w1 : World} {B bb bm pb most : Nat} {age : Int} {mv : Value} {M : List Mo} {k : Nat} (h : PlayAt w B bb bm pb most age mv M k) (hf : Fr (SB bb bm (M.map Mo.en)) w w1) {B0 : Nat} (h0 : B0 ≤ B) : Below B0 w w1 :=
  hf.below (by have := h.mod.pbB; have := h.mod.pbLt; omega) (fun q hq => by have := h.sbLt hq; omega)
structure MidAt (w w1 : World) (B bb bm most : Nat) (age : Int) (M : List Mo) (R : (Int × Int) × List En) : Prop where
  book : BookAt w1 B bb bm most age R.2
  fr : Fr (SB bb bm (M.map Mo.en)) w w1
  old : ∀ e ∈ R.2, (∃ e0 ∈ M.map Mo.en, e0.rb = e.rb ∧ e0.lb = e.lb) ∨ (w.heap.size ≤ e.rb ∧ w.heap.size ≤ e.lb)
theorem PlayAt.scrape {w : World} {B bb bm pb most : Nat} {age : Int} {mv : Value} {M : List Mo} {k : Nat} (h : PlayAt w B bb bm pb most age mv M k) (at0 : Int) (s m : ByteArray) (bits : Nat) (hbits : bits < 18446744073709551616) (hs : s.size ≤ 60) (hm : m.size ≤ 60) (hk : k ≤ 80) :
    Calls Try.prog 6 #[.pointer (some ⟨bb, 0, none⟩), .int .i64 at0, .agg #[.string s, .string m], .int .u64 bits] w fun e w' => ∃ R, e = .returned (.tuple #[.int .i64 R.1.1, .int .i64 R.1.2]) ∧ MidAt w w' B bb bm most age M R ∧
      (∀ kd, Calls Try.prog 7 #[.pointer (some ⟨pb, 0, none⟩), .int .i64 most, .agg #[.int .i64 kd, .int .i64 at0, .string s, .string m, .int .u64 bits]] w' (ScrapedPost B pb mv M R w')) ∧
      (∀ e w2, ScrapedPost B pb mv M R w' e w2 → ∃ mv' M', PlayAt w2 B bb bm pb most age mv' M' (k + 1)) := by
  have hlen := h.len
  have hm1 := h.book.m1
  refine (scrapeB_any B bb bm most age (M.map Mo.en) at0 s m bits w h.book hbits (by unfold maxLen; omega) (by unfold maxLen; omega) (by rw [List.length_map]; omega)).mono ?_
  rintro e w1 ⟨rb, lb, rfl, hB, hf, hl⟩
  refine ⟨_, rfl, ⟨hB, hf, hl⟩, fun kd => ?_, fun e w2 hp => h.step hm1.1 ⟨hs, hm⟩ hB hf hl hp⟩
  exact scraped_any M B pb most mv kd at0 s m bits rb lb w1 (h.mid hf) h.names h.keys (fun x hx => (h.good x hx).2.len) hs hm hbits hm1.1 hm1.2 (by omega)
end Go.Proofs.Ytoamjihchmokcaa
namespace Go.Proofs.Ytoamjihchmokcaa
open Go.ChangeShapes Go.WideShapes Go.ChangeAt Go.RowKit Go.Deep Go.Maps

theorem PlayAt.up {w : World} {B bb bm pb most : Nat} {age : Int} {mv : Value} {M : List Mo} {k : Nat} (h : PlayAt w B bb bm pb most age mv M k) : PlayAt w B bb bm pb most age mv M (k + 1) := ⟨h.book, h.mod, h.cross, h.good, Nat.le_succ_of_le h.len⟩
theorem PlayAt.drop {w w1 : World} {B bb bm pb most : Nat} {age : Int} {mv v : Value} {M : List Mo} {k : Nat} (h : PlayAt w B bb bm pb most age mv M k) (s : ByteArray) (hs : s.size ≤ 60) (hk : k ≤ 80) (hb : Below w.heap.size w w1)
    (hrow : w1.ownsRow w.heap.size 44 3 v (M.filter (notOf s)).length ((M.filter (notOf s)).flatMap Mo.cells)) (d : Nat) (hd : d + (M.filter (notOf s)).length = M.length) :
    Calls Try.prog 8 #[.pointer (some ⟨bb, 0, none⟩), .string s] (w1.setCell ⟨pb, 0, none⟩ v) fun e w2 => e = .returned (.int .i64 d) ∧ PlayAt w2 B bb bm pb most age v (M.filter (notOf s)) k ∧ Below B w w2 := by
  have hlen := h.len
  have hpb := h.mod.pbB
  have hpl := h.mod.pbLt
  have hbm := h.book.base.2.1
  refine (forget_any B bb bm most age (M.map Mo.en) s _ (h.bookSwap hb) (by unfold maxLen; omega) h.enames (by rw [List.length_map]; omega) d (by rw [forget_map, List.length_map, List.length_map]; exact hd)).mono ?_
  rintro e w2 ⟨rfl, hB, hf⟩
  refine ⟨rfl, h.forget s hb hrow hB hf, ?_⟩
  have hf2 : Fr (fun q => q = pb) w1 (w1.setCell ⟨pb, 0, none⟩ v) := (Fr.refl (fun q => q = pb) w1).set1 (g := pb) rfl _
  have hs1 := hb.size
  have hs2 := hf2.size
  exact ((hb.mono (by omega)).trans (hf2.below (by omega) (fun q hq => by omega))).trans (hf.below (by omega) (fun q hq => by omega))
theorem actOf_names {most : Nat} {E : List En} {at0 : Int} {s m : ByteArray} {bits rb lb : Nat} (hE : ∀ e ∈ E, e.sub.size ≤ maxLen ∧ e.met.size ≤ maxLen) (hs : s.size ≤ maxLen ∧ m.size ≤ maxLen) :
    ∀ e ∈ (actOf most E at0 s m bits rb lb).2, e.sub.size ≤ maxLen ∧ e.met.size ≤ maxLen := by
  unfold actOf
  split
  · split
    · intro e he
      rcases List.mem_append.1 he with h | h
      · exact hE e h
      · rw [List.mem_singleton.1 h]; exact hs
    · intro e he
      obtain ⟨e0, h0, rfl⟩ := List.mem_map.1 he
      have := hE e0 h0
      split <;> exact this
  · exact hE
theorem PlayAt.twin {w : World} {B bb bm pb most : Nat} {age : Int} {mv : Value} {M : List Mo} {k : Nat} (h : PlayAt w B bb bm pb most age mv M k) (at0 : Int) (s m : ByteArray) (hs : s.size ≤ 60) (hm : m.size ≤ 60) (hk : k ≤ 80) :
    Calls Try.prog 9 #[.pointer (some ⟨bb, 0, none⟩)] w fun e w5 => ∃ bb' : Nat, e = .returned (.pointer (some ⟨bb', 0, none⟩)) ∧ Below w.heap.size w w5 ∧
      Calls Try.prog 6 #[.pointer (some ⟨bb', 0, none⟩), .int .i64 at0, .agg #[.string s, .string m], .int .u64 0] w5 fun e w6 => ∃ x y : Int, e = .returned (.tuple #[.int .i64 x, .int .i64 y]) ∧ Below w.heap.size w w6 ∧
        Calls Try.prog 8 #[.pointer (some ⟨bb', 0, none⟩), .string s] w6 fun e w7 => ∃ d : Nat, e = .returned (.int .i64 d) ∧ Below w.heap.size w w7 := by
  have hlen := h.len
  have hs' : s.size ≤ maxLen := by unfold maxLen; omega
  have hm' : m.size ≤ maxLen := by unfold maxLen; omega
  refine (copy_any B bb bm most age (M.map Mo.en) w h.book h.enames (by rw [List.length_map]; omega)).mono ?_
  rintro e w5 ⟨bb', bm', E', rfl, hB, hE, hl, hb⟩
  rw [List.length_map] at hl
  refine ⟨bb', rfl, hb, ?_⟩
  have hsb : ∀ q, SB bb' bm' E' q → w.heap.size ≤ q := fun q hq => by
    have hbs := hB.base
    rcases hq with rfl | rfl | ⟨e, he, rfl | rfl⟩
    · exact hbs.1
    · exact hbs.2.1
    · exact (hbs.2.2 e he).1
    · exact (hbs.2.2 e he).2
  refine (scrapeB_any w.heap.size bb' bm' most age E' at0 s m 0 w5 hB (by omega) hs' hm' (by omega)).mono ?_
  rintro e w6 ⟨rb, lb, rfl, hB6, hf6, _⟩
  have hb6 : Below w.heap.size w w6 := hb.trans (hf6.below hb.size hsb)
  refine ⟨_, _, rfl, hb6, ?_⟩
  have hl6 := actOf_len (most := most) (E := E') (at0 := at0) (s := s) (m := m) (bits := 0) (rb := rb) (lb := lb)
  have hfl : (forgetE (actOf most E' at0 s m 0 rb lb).2 s).length ≤ (actOf most E' at0 s m 0 rb lb).2.length := List.length_filter_le _ _
  refine (forget_any w.heap.size bb' bm' most age _ s w6 hB6 hs' (actOf_names hE ⟨hs', hm'⟩) (by omega) ((actOf most E' at0 s m 0 rb lb).2.length - (forgetE (actOf most E' at0 s m 0 rb lb).2 s).length) (by omega)).mono ?_
  rintro e w7 ⟨rfl, _, hf7⟩
  exact ⟨_, rfl, hb6.trans (hf7.below hb6.size (fun q hq => by rw [hq]; exact hB.base.2.1))⟩
def leftM (M : List Mo) (s : ByteArray) (j : Nat) : List Mo := (M.take j).filter (notOf s)
theorem leftM_snoc {M : List Mo} {s : ByteArray} {j : Nat} (hj : j < M.length) : leftM M s (j + 1) = leftM M s j ++ (if M[j].en.sub.toList == s.toList then [] else [M[j]]) := by
  unfold leftM
  rw [List.take_succ_eq_append_getElem hj, List.filter_append]
  congr 1
  unfold notOf
  cases h : M[j].en.sub.toList == s.toList <;> simp [h]
theorem leftM_all {M : List Mo} {s : ByteArray} {j : Nat} (hj : M.length ≤ j) : leftM M s j = M.filter (notOf s) := by unfold leftM; rw [List.take_of_length_le hj]
theorem elemMoR : ElemOK Try.prog 31 44 3 56 := .mk' Try.underlying31 (by kernel_rfl) (by decide)
theorem aggMo : AggOK Try.prog 44 3 := .mk' (by kernel_rfl) (by kernel_rfl)
theorem oneMo (a b : ByteArray) (lo : Option Addr) (n c : Nat) (w : World) : (Instr.buildSlice 31 1 [(0, .agg #[.string a, .string b, .slice lo n c])].toArray).run Try.prog w = .ok (.slice (some ⟨w.heap.size, 0, none⟩) 1 1) (w.alloc (.cells #[.string a, .string b, .slice lo n c] 44)) := by kernel_rfl
theorem wpList_store_sl {P : Program} {ops : Array Oper} {rest : List Oper} {o : Oper} {a : Act} {w : World} {Q : Exit → Act → World → Prop} (hgd : o.guard = none) (ty : TypeId) (x y : Operand) (ho : o.op = .store ty x y)
    (q : Addr) (v : Value) (hx : a.eval x = .pointer (some q)) (hy : a.eval y = v) (hs : (Instr.storeAt ty (.pointer (some q)) v).run P w = .ok () (w.setCell q v))
    (h : wpList P ops Q rest (a.put o.dst undef) (w.setCell q v)) : wpList P ops Q (o :: rest) a w :=
  wpList_plain hgd fun _ hK => by
    unfold Oper.wp execOp
    simp only [ho, hx, hy, hs, Sem.run_bind, Sem.run_pure, Result.andThen_ok]
    exact hK _ _ h
end Go.Proofs.Ytoamjihchmokcaa
namespace Go.Proofs.Ytoamjihchmokcaa
open Go.ChangeShapes Go.WideShapes Go.ChangeAt Go.RowKit Go.Deep Go.Maps Go.Shelf

attribute [local go_sem] Oper.semAt_some

structure Ks where
  a : ByteArray
  b : ByteArray
def Ks.cells (x : Ks) : List Value := [.string x.a, .string x.b]
def Ks.key (x : Ks) : List UInt8 := serBytes x.a.data.toList x.b.data.toList
def encKs (x : Ks) : Array Value := #[.agg #[.string x.a, .string x.b]]
structure CollK (E : List En) (left : Lit → Bool) (xs : List Ks) : Prop where
  nd : (xs.map Ks.key).Nodup
  are : ∀ x ∈ xs, (∃ e ∈ E, e.sub = x.a ∧ e.met = x.b) ∧ left (.string x.key) = false
  all : ∀ e ∈ E, left (.string e.key) = false → ∃ x ∈ xs, x.key = e.key
structure AllK (E : List En) (xs : List Ks) : Prop where
  nd : (xs.map Ks.key).Nodup
  are : ∀ x ∈ xs, ∃ e ∈ E, e.sub = x.a ∧ e.met = x.b
  all : ∀ e ∈ E, ∃ x ∈ xs, x.key = e.key
theorem CollK.done {E : List En} {left : Lit → Bool} {xs : List Ks} (h : CollK E left xs) (hl : ∀ kl, left kl = false) : AllK E xs := ⟨h.nd, fun x hx => (h.are x hx).1, fun e he => h.all e he (hl _)⟩
theorem CollK.step {E : List En} {left : Lit → Bool} {xs : List Ks} (h : CollK E left xs) {x : Ks} (hx : ∃ e ∈ E, e.sub = x.a ∧ e.met = x.b) (hl : left (.string x.key) = true) : CollK E (fun z => left z && !z.sameKey (.string x.key)) (xs ++ [x]) := by
  refine ⟨?_, fun y hy => ?_, fun e he hn => ?_⟩
  · rw [List.map_append]
    refine List.nodup_append.2 ⟨h.nd, by simp, fun a ha b hb => ?_⟩
    obtain ⟨y, hy, rfl⟩ := List.mem_map.1 ha
    simp only [List.map_cons, List.map_nil, List.mem_singleton] at hb
    subst hb
    intro e
    have := (h.are y hy).2
    rw [e, hl] at this
    cases this
  · rcases List.mem_append.1 hy with q | q
    · obtain ⟨a, b⟩ := h.are y q
      exact ⟨a, by rw [b]; rfl⟩
    · rw [List.mem_singleton.1 q]
      exact ⟨hx, by simp [Lit.sameKey]⟩
  · by_cases e2 : e.key = x.key
    · exact ⟨x, by simp, e2.symm⟩
    · have : left (.string e.key) = false := by
        have := hn
        simp [Lit.sameKey, e2] at this
        exact this
      obtain ⟨y, hy, hq⟩ := h.all e he this
      exact ⟨y, List.mem_append_left _ hy, hq⟩
theorem CollK.start (E : List En) (has : Lit → Bool) (h : ∀ e ∈ E, has (.string e.key) = true) : CollK E has [] :=
  ⟨List.nodup_nil, fun x hx => (by cases hx), fun e h1 h2 => by rw [h e h1] at h2; cases h2⟩
theorem enMap_has {E : List En} {e : En} (he : e ∈ E) : (enMap E (.string e.key)).isSome = true := by
  rw [enMap_str]
  unfold findE
  rw [Option.isSome_map, List.find?_isSome]
  exact ⟨e, he, beq_self_eq_true _⟩

set_option maxRecDepth 100000 in
set_option maxHeartbeats 2000000 in
theorem keys1_in (m : Nat) (hm : 1 ≤ m) (l Bm b n : Nat) (E : List En) (hE : ∀ e ∈ E, e.sub.size ≤ maxLen ∧ e.met.size ≤ maxLen) (D0 : DataW Value) (J Jx : List Ks → World → Prop)
    (hY : ∀ pre x W, J pre W → pre.length < Maps.size D0 → YieldAt Fence.wide (m - 1) Try.prog l (encKs x) W fun e W' =>
      (e = .returned (.bool true) ∧ J (pre ++ [x]) W' ∧ KeepsWalks W W') ∨ (e = .returned (.bool false) ∧ Jx (pre ++ [x]) W'))
    (W : World) (hc : W.cell? ⟨Bm, 0, none⟩ = some (.map (some b))) (hJ : AbidesFrom W.heap.size J) (hown : W.ownsMap Try.prog 33 heldElem b n D0) (hT : Tells D0 (enMap E)) (h0 : J [] W) :
    CallsIn Fence.wide m Try.prog 42 #[.func (.yield l) #[] #[], .pointer (some ⟨Bm, 0, none⟩)] W fun e W' => (∃ v, e = .returned v) ∧
      ((∃ ys, AllK E ys ∧ J ys W') ∨ (∃ pre, Jx pre W')) := by
  have hro : Fence.wide.round = none := rfl
  refine callsIn_of_wp Try.func42 rfl trivial ?_ hro
  simp only [Try.ntmps42, List.size_toArray, List.length_cons, List.length_nil, Nat.reduceAdd, Nat.reduceSub, Array.replicate_succ, Array.replicate_zero, List.push_toArray, List.append_toArray, List.nil_append, List.cons_append]
  gi_wp2_with (first
    | (gi_at_range; refine wpListIn_range_own _ rfl _ 53 rfl 33 58 serKeyed Try.underlying53 _ b n _ rfl hown ?_; intro w0 hrg0 hg0 hs0)
    | gi_in)
  go_frame
  gi_loopw [3] (fun _ wr => ∃ (left : Lit → Bool) (cnt : Nat) (xs : List Ks), wr.ranges Try.prog 33 heldElem b W.heap.size n D0 left cnt ∧ xs.length + cnt ≤ Maps.size D0 ∧ Hid (CollK E left xs) ∧ J xs wr)
    (fun _ wr => wr.rangeLeft b W.heap.size)
  case atStart =>
    exact ⟨_, _, [], hrg0, by simp, CollK.start E _ (fun e he => by rw [(hT _).1]; exact enMap_has he), hJ [] W w0 none h0 hg0 (fun r e => by cases e)⟩
  case round =>
    obtain ⟨left, cnt, xs, hrg, hcs, hC, hJs⟩ := hrel
    gi_wp2_with (first
      | (gi_at_next; refine wpListIn_next_ranges (α := ByteArray × ByteArray) (β := Value) _ rfl _ rfl 33 serKeyed heldElem (fun x => .agg #[.string x.1, .string x.2]) id (fun key kl hk => by obtain ⟨x, y, h, _⟩ := serKey_inv hk; exact ⟨(x, y), h⟩) (fun v _ _ => ⟨v, rfl⟩) b W.heap.size n _ _ _ rfl hrg ?_ ?_)
      | gi_in)
    · intro hc0 hl0
      gi_wp2
      go_end0
      exact ⟨⟨_, rfl⟩, .inl ⟨xs, hC.out.done hl0, hJs⟩⟩
    · intro k1 k2 c kl yd yp w2 cnt2 hkey hlk hv hat hrg2 hlt hg2 hs2 hen
      obtain ⟨y1, y2, hy, rfl, hy1, hy2⟩ := serKey_inv hkey
      injection hy with hy
      injection hy with hy
      injection hy with e1 hy
      injection hy with e2 hy
      injection e1 with e1
      injection e2 with e2
      subst e1 e2
      have hyd : yd = .held c := by
        have h1 := Option.some.inj hv
        exact (congrArg Prod.fst h1).symm
      subst hyd
      have hx : ∃ e ∈ E, e.sub = k1 ∧ e.met = k2 := by
        cases hf : findE E (serBytes k1.data.toList k2.data.toList) with
        | none =>
          have h2 := (hT (.string (serBytes k1.data.toList k2.data.toList))).2 (.map [])
          rw [hat, enMap_str, hf] at h2
          cases h2
        | some en =>
          have hm := findE_mem hf
          exact ⟨en, hm, serBytes_inj (hE en hm).1 (hE en hm).2 hy1 hy2 (findE_key hf)⟩
      have HC' : Hid (CollK E (fun z => left z && !z.sameKey (.string (serBytes k1.data.toList k2.data.toList))) (xs ++ [⟨k1, k2⟩])) := hC.out.step (x := ⟨k1, k2⟩) hx hlk
      have hw2l : W.heap.size < w2.heap.size := hrg2.lt
      have hJ2 : J xs w2 := hJ xs wr w2 (some W.heap.size) hJs hg2 (fun r e => by cases e; exact ⟨Nat.le_refl _, hrg.iter_walk⟩)
      have HJ2 := Lib.hid hJ2
      have Hlt := Lib.hid hlt
      have Hleft := Lib.hid hrg.left_eq
      have Hrg2 := Lib.hid hrg2
      clear hat hs2 hlt hJ2 hrg hrg2 hJs hg2 hv hkey hlk hy1 hy2 hx
      have hJ3 : J xs (w2.alloc (.cells #[.string k1, .string k2] 33)) := hJ xs w2 _ none HJ2.out (World.grownBy_alloc _ _ _) (fun r e => by cases e)
      have HrgA := Lib.hid (Hrg2.out.alloc (.cells #[.string k1, .string k2] 33))
      obtain ⟨fn, tmps, assign, body, hy, hRR⟩ := hY xs ⟨k1, k2⟩ _ hJ3 (by have := Hlt.out; omega)
      dsimp only [encKs] at hy
      have HRR := Lib.hid hRR
      clear hJ3 hRR
      gi_wp2
      refine HRR.out.mono ?_
      rintro e W3 (⟨rfl, hJ4, hk4⟩ | ⟨rfl, hJx4⟩)
      · have hrg3 := HrgA.out.of_walks hk4
        have Hrg3 := Lib.hid hrg3
        clear hrg3
        gi_wp2
        go_roundw
        case rel => exact ⟨_, cnt2, xs ++ [⟨k1, k2⟩], Hrg3.out, by have := Hlt.out; simp; omega, HC', hJ4⟩
        case measure => rw [Hrg3.out.left_eq, Hleft.out]; exact Hlt.out
      · gi_wp2
        refine bodyPost_ret (results_none rfl _ _ _) rfl ?_
        exact ⟨⟨_, rfl⟩, .inr ⟨_, hJx4⟩⟩

theorem keys_stops (m : Nat) (hm : 1 ≤ m) (Bm b n : Nat) (E : List En) (hE : ∀ e ∈ E, e.sub.size ≤ maxLen ∧ e.met.size ≤ maxLen) (w : World) (hc : w.cell? ⟨Bm, 0, none⟩ = some (.map (some b))) (hM : MapIs w Try.prog 33 b n (enMap E)) :
    SeqStopsK Fence.wide m Try.prog 42 #[.pointer (some ⟨Bm, 0, none⟩)] encKs KeepsWalks (AllK E) (fun _ => True) n w := fun lp J Jx W hW hJ _ hY h0 => by
  have hM2 : MapIs W Try.prog 33 b n (enMap E) := MapIs.below hM hW
  obtain ⟨D, hown, hsz, hT⟩ := hM2
  refine (keys1_in m hm lp Bm b n E hE D J Jx (by rw [hsz]; exact hY) W (Below.cell_some hW hc) hJ hown hT h0).mono ?_
  rintro e W' ⟨h1, h2 | ⟨pre, h2⟩⟩
  · exact ⟨h1, .inl h2⟩
  · exact ⟨h1, .inr ⟨pre, trivial, h2⟩⟩

theorem keysOf_any (b : Nat) (w : World) : Calls Try.prog 23 #[.map (some b)] w fun e w' =>
    e = .returned (.func (.func 42) #[] #[.pointer (some ⟨w.heap.size, 0, none⟩)]) ∧ w' = w.alloc (.cells #[.map (some b)] 53) := by
  go_enter Try.func23, Try.ntmps23
  go_wp2
  go_ret
  exact ⟨rfl, rfl⟩
end Go.Proofs.Ytoamjihchmokcaa
