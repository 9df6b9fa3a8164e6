/- slices.Clone, IndexFunc and DeleteFunc at samples, by gauge.Sort's own word. Condition: the slices read. -/
import Derived.Test.YteolfpgdpajldaaSortU9
import Derived.Test.YteolfpgdpajldaaCmpU2
import Derived.Test.YteolfpgdpajldaaGauge4
import Derived.Laws.AppendOwnNone
namespace Go.Proofs.Yteolfpgdpajldaa
open Go.ChangeShapes Go.WideShapes Go.ChangeAt Go.RowKit Go.Deep

abbrev W64 := {x : Nat // x < 18446744073709551616}
def cW (x : W64) : List Value := [.int .u64 (x.1 : Nat)]
instance : Inhabited W64 := ⟨⟨0, by decide⟩⟩

/-- Has a sample no quantity? -/
def badW (x : W64) : Bool := !((refOf x.1).2 == 0)

theorem bad_any (x : W64) (w : World) : Calls Try.prog 10 #[.int .u64 (x.1 : Nat)] w fun e w' => e = .returned (.bool (badW x)) ∧ Below w.heap.size w w' := by
  have HR := Lib.hid (read_any x.1 w x.2)
  unfold badW
  obtain ⟨⟨q, r⟩, hq⟩ : ∃ p, refOf x.1 = p := ⟨_, rfl⟩
  rw [hq] at HR ⊢
  clear hq
  go_enter Try.func10, Try.ntmps10
  go_wp2_with fail
  refine HR.out.mono ?_
  rintro e w1 ⟨rfl, hb⟩
  have Hb := Lib.hid hb
  clear hb
  go_wp2_with fail
  go_ret
  exact ⟨rfl, Hb.out⟩

theorem SlR.allA {α : Type} {f : α → List Value} {sz : Nat} {w : World} {ad : Addr} {n cap : Nat} {xs : List α} (hf : ∀ x, (f x).length = sz) (hsz : 0 < sz) (h : SlR (Flat f) sz w (some ad) n cap xs) :
    ∀ j u, (xs.flatMap f)[j]? = some u → w.cell? (ad.add j) = some u := by
  intro j u hj
  have hlt := (List.getElem?_eq_some_iff.1 hj).1
  rw [flatMap_len hf] at hlt
  have hi : j / sz < xs.length := by rw [Nat.div_lt_iff_lt_mul hsz]; exact hlt
  have hr := Nat.mod_lt j hsz
  have e : j / sz * sz + j % sz = j := by rw [Nat.mul_comm]; exact Nat.div_add_mod j sz
  have h2 := flatMap_get hf xs (j / sz) (j % sz) hi hr
  rw [e, hj] at h2
  obtain ⟨c, _, h3, h4⟩ := h.hat ad rfl (j / sz) hi
  rw [show c = f xs[j / sz] from h4] at h3
  have h5 := h3 (j % sz) u h2.symm
  rwa [e] at h5

theorem World.grownBy_refl (w : World) (r : Option Nat) : w.grownBy w r := ⟨rfl, rfl, rfl, Nat.le_refl _, fun _ _ _ => rfl⟩

theorem wpList_append_slr {P : Program} {ops : Array Oper} {rest : List Oper} {o : Oper} {a : Act} {w : World} {Q : Exit → Act → World → Prop} {t e : TypeId} {size bytes : Nat} (E : ElemOK P t e size bytes)
    (hgd : o.guard = none) (s x : Operand) (ho : o.op = .call { callee := .builtin .append, args := #[s, x], argTypes := #[t, t] })
    (B : Nat) (v : Value) (n : Nat) (xs : List Value) (hs : a.eval s = v) (hown : w.ownsRow B e size v n xs) (hB : B ≤ w.heap.size)
    {α : Type} {f : α → List Value} (hf : ∀ x, (f x).length = size) (ao : Option Addr) (m c : Nat) (ys : List α) (hx : a.eval x = .slice ao m c) (hS : SlR (Flat f) size w ao m c ys) (h1 : ∀ y u, u ∈ f y → u.oneCell' = true)
    (h63 : n + m ≤ maxLen) (hbytes : (n + m) * bytes ≤ 140737488355328)
    (h : ∀ v' w', w'.ownsRow B e size v' (n + m) (xs ++ ys.flatMap f) → w.grownBy w' v.ownBlock → wpList P ops Q rest (a.put o.dst v') w') : wpList P ops Q (o :: rest) a w := by
  obtain ⟨i, z, hi, hz, h2, h3, h4⟩ := E.info
  cases ao with
  | none =>
    have hc := hS.hnil rfl
    have hm : m = 0 := by have := hS.hcap; omega
    subst hc hm
    have hy : ys = [] := List.eq_nil_of_length_eq_zero hS.hlen
    subst hy
    refine wpList_append_own_none hgd s x t ho B e i size E.under hi v n xs hs hown hx (h v w ?_ (World.grownBy_refl _ _))
    simpa using hown
  | some ad =>
    refine wpList_append_own _ hgd s x t ho B e i z size bytes E.under hi hz h2 h3 h4 E.pos v n xs hs hown ad m c (ys.flatMap f) hx (by rw [flatMap_len hf, hS.hlen]) (hS.allA hf E.pos) (fun u hu => ?_) h63 hbytes hB fun v' w' h1 h2 _ => h v' w' h1 h2
    obtain ⟨y, _, hu⟩ := List.mem_flatMap.1 hu
    exact h1 y u hu

theorem owns_ltW {w : World} {B : Nat} {e : TypeId} {size : Nat} {v : Value} {n : Nat} {xs : List Value} (h : w.ownsRow B e size v n xs) {k : Nat} (hk : v.ownBlock = some k) : B ≤ k := by
  rcases h.2 with ⟨rfl, _⟩ | ⟨g, cap, cur, rfl, hg, _⟩
  · cases hk
  · cases hk; exact hg

theorem elemW : ElemOK Try.prog 22 26 1 8 := .mk' Try.underlying22 (by kernel_rfl) (by decide)
theorem zeroWs (w : World) : (Instr.buildSlice 22 0 (([] : List (Nat × Value))).toArray).run Try.prog w = .ok (.slice (some ⟨w.heap.size, 0, none⟩) 0 0) (w.alloc (.cells #[] 26)) := by kernel_rfl
theorem w_one (y : W64) (u : Value) (h : u ∈ cW y) : u.oneCell' = true := by
  simp only [cW, List.mem_cons, List.not_mem_nil, or_false] at h
  rw [h]
  rfl

set_option maxRecDepth 100000 in
set_option maxHeartbeats 1000000 in
theorem clone_W (xs : List W64) (ao : Option Addr) (n cap : Nat) (w : World) (hS : SlR (Flat cW) 1 w ao n cap xs) (hn : n ≤ 1000000) :
    Calls Try.prog 9 #[.slice ao n cap] w fun e w' => ∃ v', e = .returned v' ∧ w'.ownsRow w.heap.size 26 1 v' n (xs.flatMap cW) ∧ Below w.heap.size w w' := by
  cases ao with
  | none =>
    have hc := hS.hnil rfl
    have hm : n = 0 := by have := hS.hcap; omega
    subst hc hm
    have hx : xs = [] := List.eq_nil_of_length_eq_zero hS.hlen
    subst hx
    clear hS hn
    have hq : ∀ w, (binOp .eql 22 (.slice none 0 0) (.slice none 0 0)).run Try.prog w = .ok (.bool true) w := fun _ => by kernel_rfl
    go_enter Try.func9, Try.ntmps9
    go_wp2
    go_ret
    exact ⟨_, rfl, World.ownsRow_nil _ _ _ _, Below.refl _ _⟩
  | some ad =>
    have HS := Lib.hid (hS.flatKeeps (Keeps.below ((Below.refl w.heap.size w).alloc (Nat.le_refl _) (.cells #[] 26))))
    clear hS
    have hq : ∀ w, (binOp .eql 22 (.slice (some ad) n cap) (.slice none 0 0)).run Try.prog w = .ok (.bool false) w := fun _ => by kernel_rfl
    go_enter Try.func9, Try.ntmps9
    go_wp2_with (first | ((with_reducible refine at_slot 5 ?_); go_must (refine wpList_buildSlice rfl 22 0 _ rfl [] rfl _ _ zeroWs ?_)) | ((with_reducible refine at_slot 7 ?_); go_must (refine wpList_append_slr elemW rfl _ _ rfl w.heap.size _ 0 [] rfl (World.ownsRow_made w _ 0 (Nat.le_refl _) (by decide) rfl) (by rw [World.size_alloc]; omega) (fun _ => rfl) (some ad) n cap xs rfl (by exact HS.out) w_one (by unfold maxLen; omega) (by omega) ?_; intro v2 w2 hown2 hgr2)))
    go_ret
    rw [Nat.zero_add, List.nil_append] at hown2
    exact ⟨_, rfl, hown2, ((Below.refl _ w).alloc (Nat.le_refl _) _).grown hgr2 (by rw [World.size_alloc]; omega) (fun k hk => by cases hk; exact Nat.le_refl _)⟩


set_option maxHeartbeats 1000000 in
theorem indexFunc_W (xs : List W64) (ao : Option Addr) (la ca : Nat) (w : World) (hS : SlR (Flat cW) 1 w ao la ca xs) :
    Calls Try.prog 31 #[.slice ao la ca, .func (.func 10) #[] #[]] w fun e w' => e = .returned (.int .i64 (idxOf badW xs 0)) ∧ Below w.heap.size w w' := by
  have ha := hS.hmax; have hac := hS.hcap
  unfold maxLen at ha
  go_enter Try.func31, Try.ntmps31
  go_wp2_with fail
  go_loopw [5, 8] (fun _ i wr => ∃ k : Nat, k ≤ la ∧ i = .int .i64 k ∧ Hid (idxOf badW xs 0 = idxOf badW (xs.drop k) k) ∧ Below w.heap.size w wr) (fun _ i _ => la - (intOf i).toNat)
  case atStart => exact ⟨0, Nat.zero_le _, rfl, rfl, Below.refl _ _⟩
  case round =>
    obtain ⟨k, hk, rfl, hf, hb⟩ := hrel
    by_cases hlt : k < la
    · obtain ⟨b, off, rfl⟩ := hS.ptr (by decide) (by omega)
      have kx : k < xs.length := by have := hS.hlen; omega
      have hc := (hS.flatKeeps (Keeps.below hb)).flat kx
      have Hd := Lib.hid (idxOf_drop badW kx)
      obtain ⟨x, hx⟩ : ∃ x, xs[k] = x := ⟨_, rfl⟩
      rw [hx] at hc Hd
      have c0 := hc 0 _ rfl
      rw [Nat.add_zero, Nat.mul_one] at c0
      have Hb := Lib.hid hb
      have HB := Lib.hid (fun w1 => bad_any x w1)
      obtain ⟨v, hv⟩ : ∃ v, badW x = v := ⟨_, rfl⟩
      have hB := hb.size
      rw [hv] at HB Hd
      clear hc hb hx hv kx
      cases v
      · go_wp2_with fail
        refine (HB.out _).mono ?_
        rintro e w2 ⟨rfl, hb2⟩
        have Hb2 := Lib.hid (Hb.out.trans (hb2.mono hB))
        clear hb2
        go_wp2_with fail
        go_roundw
        case rel => exact ⟨k + 1, by omega, by go_num, hf.out.trans (by rw [Hd.out, if_neg (by decide)]), Hb2.out⟩
        case measure => simp [intOf]; omega
      · go_wp2_with fail
        refine (HB.out _).mono ?_
        rintro e w2 ⟨rfl, hb2⟩
        have Hb2 := Lib.hid (Hb.out.trans (hb2.mono hB))
        clear hb2
        go_wp2_with fail
        go_ret
        exact ⟨ret_int (by rw [hf.out, Hd.out]; simp), Hb2.out⟩
    · have He := Lib.hid (idxOf_end badW (xs := xs) (k := k) (by rw [hS.hlen]; omega))
      have Hb := Lib.hid hb
      clear hb
      go_wp2
      go_ret
      exact ⟨ret_int (by rw [hf.out, He.out]), Hb.out⟩
end Go.Proofs.Yteolfpgdpajldaa
