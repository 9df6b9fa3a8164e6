/- The contract of scrape's Forget. Condition: the book lies in blocks of the call's own. -/
import Derived.Test.YtolgkehlnhkgiaaForgetDf
namespace Go.Proofs.Ytolgkehlnhkgiaa
open Go.ChangeShapes Go.WideShapes Go.ChangeAt Go.RowKit Go.Deep Go.Maps

def forgetE (E : List En) (sub : ByteArray) : List En := E.filter fun e => !(e.sub.toList == sub.toList)

theorem enMap_forget (E : List En) (sub : ByteArray) (hsub : sub.size ≤ maxLen) (hE : ∀ e ∈ E, e.sub.size ≤ maxLen ∧ e.met.size ≤ maxLen) (kl : Lit) : (if ofSub sub kl then none else enMap E kl) = enMap (forgetE E sub) kl := by
  cases kl with
  | string s =>
    rw [enMap_str, enMap_str]
    have : findE (forgetE E sub) s = if ofSub sub (.string s) then none else findE E s := by
      unfold findE forgetE
      induction E with
      | nil => simp
      | cons a t ih =>
        have ih := ih (fun e he => hE e (List.mem_cons_of_mem _ he))
        obtain ⟨h1, h2⟩ := hE a (List.mem_cons_self ..)
        have hk := ofSub_key hsub h1 h2
        rw [← str_eq] at hk
        rw [List.filter_cons]
        by_cases hs : a.key = s
        · have hs' : (a.key == s) = true := beq_iff_eq.2 hs
          rw [show Lit.string (serBytes a.sub.data.toList a.met.data.toList) = .string a.key from rfl, hs] at hk
          cases hp : (a.sub.toList == sub.toList)
          · simp only [Bool.not_false, if_true, List.find?_cons, hs', hk, hp]; simp
          · simp only [Bool.not_true, Bool.false_eq_true, if_false, hk, hp] at ih ⊢
            rw [ih]; simp
        · have hs' : (a.key == s) = false := beq_eq_false_iff_ne.2 hs
          cases hp : (a.sub.toList == sub.toList)
          · simp only [Bool.not_false, if_true, List.find?_cons, hs']; exact ih
          · simp only [Bool.not_true, Bool.false_eq_true, if_false, List.find?_cons, hs']; exact ih
    rw [this]
    split <;> rfl
  | _ => simp [enMap]

set_option maxRecDepth 100000 in
set_option maxHeartbeats 2000000 in
theorem forget_any (B bb bm most : Nat) (age : Int) (E : List En) (sub : ByteArray) (w : World) (hB : BookAt w B bb bm most age E) (hsub : sub.size ≤ maxLen) (hE : ∀ e ∈ E, e.sub.size ≤ maxLen ∧ e.met.size ≤ maxLen) (hlen : E.length ≤ 512) (d : Nat) (hd : d + (forgetE E sub).length = E.length) :
    Calls Try.prog 10 #[.pointer (some ⟨bb, 0, none⟩), .string sub] w fun e w' => e = .returned (.int .i64 d) ∧ BookAt w' B bb bm most age (forgetE E sub) ∧ Fr (fun q => q = bm) w w' := by
  obtain ⟨lb0, lb1⟩ := hB.lt
  have hB0 := hB.keep ((Below.refl _ w).alloc (Nat.le_refl _) (.cells #[.string sub] 9))
  obtain ⟨c0, c1, c2⟩ := cells3 hB0.blk
  obtain ⟨el, hel⟩ : ∃ el, E.length = el := ⟨_, rfl⟩
  obtain ⟨fl, hfl⟩ : ∃ fl, (forgetE E sub).length = fl := ⟨_, rfl⟩
  rw [hel, hfl] at hd
  rw [hel] at hlen
  have HM0 := hB0.map
  rw [hel] at HM0
  have HB0 := Lib.hid hB0
  have HMM := Lib.hid HM0
  have Hel := Lib.hid hel
  have Hfl := Lib.hid hfl
  have Hd := Lib.hid hd
  have hc : (w.alloc (.cells #[.string sub] 9)).cell? ⟨w.heap.size, 0, none⟩ = some (.string sub) := cell_new w #[.string sub] _ 0
  have HMM0 := HMM
  obtain ⟨D, hown, hsz, hT⟩ := HMM0.out
  obtain ⟨es, rfl, _⟩ := hown.entries serKeyed
  have Hsz := Lib.hid hsz
  have HT := Lib.hid hT
  have HE := Lib.hid hE
  have hne : w.heap.size ≠ bm := by omega
  clear hsz hT hE HMM0
  clear hB0 HM0 hel hfl hd
  go_enter Try.func10, Try.ntmps10
  go_wp2_with (refine wpList_map_len _ _ _ rfl rfl _ _ Try.underlying59 bm el _ rfl HMM.out ?_)
  refine (delSeries sub w.heap.size bm el _ _ hsub hc hne hown).mono ?_
  rintro e w1 ⟨rfl, hown1, hg1⟩
  have hT1 := tells_filter HT.out (ofSub sub)
  have he1 : (fun kl => if ofSub sub kl = true then none else enMap E kl) = enMap (forgetE E sub) := funext fun kl => enMap_forget E sub hsub HE.out kl
  rw [he1] at hT1
  have hk1 : (forgetE E sub).Pairwise fun x y => x.key ≠ y.key := HB0.out.keys.filter _
  have hsz1 := size_of_tells hown1 hT1 hk1
  have hM1 : MapIs w1 Try.prog 36 bm (forgetE E sub).length (enMap (forgetE E sub)) := ⟨_, hsz1 ▸ ownsMap_size hown1, hsz1, hT1⟩
  have hF : Fr (fun q => q = bm) (w.alloc (.cells #[.string sub] 9)) w1 := Fr.grown hg1 (fun k hk => by cases hk; rfl)
  have hB1 : BookAt w1 B bb bm most age (forgetE E sub) := HB0.out.turn hF hM1 (fun e he => by
    have he := (List.mem_filter.1 he).1
    exact ⟨HB0.out.rings e he, HB0.out.pos e he, HB0.out.base.2.2 e he⟩) hk1 (HB0.out.apart.filter _)
  have hFw : Fr (fun q => q = bm) w w1 := ((Fr.refl _ w).alloc _).trans hF (fun _ h => .inl h)
  have HB1 := Lib.hid hB1
  have HFw := Lib.hid hFw
  have HM1 := Lib.hid hM1
  rw [Hfl.out] at HM1
  obtain ⟨c0, c1, c2⟩ := cells3 hB1.blk
  obtain ⟨lb0, lb1⟩ := hB1.lt
  clear hT1 hM1 hF hFw hB1 hown1 he1 hk1 hsz1 hc hown
  go_wp2_with (refine wpList_map_len _ _ _ rfl rfl _ _ Try.underlying59 bm fl _ rfl (MapIs.same HM1.out (by rfl)) ?_)
  have hw : wrap64 ((el : Int) - fl) = d := by
    have := Hd.out
    rw [show (el : Int) - fl = d by omega]
    exact IntWalk.wrap64_in _ (by omega)
  rw [hw]
  go_ret
  exact ⟨rfl, HB1.out, HFw.out⟩
end Go.Proofs.Ytolgkehlnhkgiaa
