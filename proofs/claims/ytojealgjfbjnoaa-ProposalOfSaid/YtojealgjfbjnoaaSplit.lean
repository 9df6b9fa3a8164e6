/- The contract of query.Split: three rows of the call's own. Condition: at most 1000 uses. -/
import Derived.Test.YtojealgjfbjnoaaStUse2M
import Derived.Test.YtojealgjfbjnoaaStkM
namespace Go.Proofs.Ytojealgjfbjnoaa
open Go.ChangeShapes Go.WideShapes Go.ChangeAt Go.RowKit Go.Deep

/-- A slice of the call's own that holds these. -/
def OwnL (w : World) (B : Nat) (v : Value) (xs : List UseI) : Prop := w.ownsRow B 51 5 v xs.length (xs.flatMap UseI.cells)
def Dis (v u : Value) : Prop := ∀ g, v.ownBlock = some g → u.ownBlock ≠ some g

theorem Dis.symm {v u : Value} (h : Dis v u) : Dis u v := fun g h1 h2 => h g h2 h1

theorem OwnL.nil (w : World) (B : Nat) : OwnL w B (.slice none 0 0) [] := World.ownsRow_nil w B _ _

theorem own_next {w w' : World} {B : Nat} {v u : Value} {ys : List UseI} {g' cap' n' : Nat} (hu : OwnL w B u ys) (hd : Dis v u) (hg : w.grownBy w' v.ownBlock) (hnew : v.ownBlock = some g' ∨ w.heap.size ≤ g') :
    OwnL w' B u ys ∧ Dis (.slice (some ⟨g', 0, none⟩) n' cap') u := by
  refine ⟨owns_fr (Fr.grown (S := fun k => v.ownBlock = some k) hg (fun k hk => hk)) hu (fun k hk hs => hd k hs hk), fun g h1 h2 => ?_⟩
  simp only [Value.ownBlock, Option.some.injEq] at h1
  subst h1
  rcases hnew with h | h
  · exact hd _ h h2
  · have := (World.ownsRow.lt hu _ h2).2
    omega

theorem own_first {w' : World} {B : Nat} {g' cap' : Nat} {xs : List UseI} {x : UseI} (h : w'.ownsRow B 51 5 (.slice (some ⟨g', 0, none⟩) (xs.length + 1) cap') (xs.length + 1) (xs.flatMap UseI.cells ++ (#[Value.string x.pod, .bool x.ready, .bool x.has, .int .i64 x.ask, .int .i64 x.use] : Array Value).toList)) :
    OwnL w' B (.slice (some ⟨g', 0, none⟩) (xs.length + 1) cap') (xs ++ [x]) := by
  unfold OwnL
  rw [List.length_append, List.flatMap_append]
  simpa [UseI.cells] using h

theorem oneUseP (x : UseI) (w : World) : (Instr.buildSlice 36 1 [(0, .agg #[.string x.pod, .bool x.ready, .bool x.has, .int .i64 x.ask, .int .i64 x.use])].toArray).run Try.prog w = .ok (.slice (some ⟨w.heap.size, 0, none⟩) 1 1) (w.alloc (.cells #[.string x.pod, .bool x.ready, .bool x.has, .int .i64 x.ask, .int .i64 x.use] 51)) := by kernel_rfl

def isHas (x : UseI) : Bool := x.ready && x.has
def isMiss (x : UseI) : Bool := x.ready && !x.has
def isUn (x : UseI) : Bool := !x.ready

set_option maxRecDepth 100000 in
set_option maxHeartbeats 2000000 in
theorem split_any (l : List UseI) (ao : Option Addr) (n cap : Nat) (w : World) (hS : SlR (Flat UseI.cells) 5 w ao n cap l) (hn : n ≤ 1000) :
    Calls Try.prog 19 #[.slice ao n cap] w fun e w' => ∃ v1 v2 v3, e = .returned (.tuple #[v1, v2, v3]) ∧ OwnL w' w.heap.size v1 (l.filter isHas) ∧ OwnL w' w.heap.size v2 (l.filter isMiss) ∧ OwnL w' w.heap.size v3 (l.filter isUn) ∧ Below w.heap.size w w' := by
  have hcm := hS.hmax
  have hlc := hS.hcap
  unfold maxLen at hcm
  have HS := Lib.hid hS
  clear hS
  go_enter Try.func19, Try.ntmps19
  go_wp2_with fail
  go_loopw [2, 3, 4, 9] (fun v1 v2 v3 i wr => ∃ k : Nat, k ≤ n ∧ i = .int .i64 k ∧ Hid (OwnL wr w.heap.size v1 ((l.take k).filter isHas)) ∧ Hid (OwnL wr w.heap.size v2 ((l.take k).filter isMiss)) ∧ Hid (OwnL wr w.heap.size v3 ((l.take k).filter isUn)) ∧
      Hid (Dis v1 v2 ∧ Dis v1 v3 ∧ Dis v2 v3) ∧ Hid (Below w.heap.size w wr)) (fun _ _ _ i _ => n - (intOf i).toNat)
  case atStart => exact ⟨0, Nat.zero_le _, rfl, OwnL.nil _ _, OwnL.nil _ _, OwnL.nil _ _, ⟨fun g h => (by cases h), fun g h => (by cases h), fun g h => (by cases h)⟩, Below.refl _ _⟩
  case round =>
    obtain ⟨k, hk, rfl, ho1, ho2, ho3, hds, hb⟩ := hrel
    by_cases hlt : k < n
    · have hS2 := HS.out.flatKeeps (Keeps.below hb.out)
      obtain ⟨b0, off, rfl⟩ := hS2.ptr (by decide) (by omega)
      have kx : k < l.length := by have := hS2.hlen; omega
      have hcl := hS2.flat kx
      have f1 := filter_take_succ isHas l k kx
      have f2 := filter_take_succ isMiss l k kx
      have f3 := filter_take_succ isUn l k kx
      have hlk : (l.take k).length ≤ 1000 := by simp; omega
      have g1 := List.length_filter_le isHas (l.take k)
      have g2 := List.length_filter_le isMiss (l.take k)
      have g3 := List.length_filter_le isUn (l.take k)
      obtain ⟨x, hx⟩ : ∃ x, l[k] = x := ⟨_, rfl⟩
      rw [hx] at hcl f1 f2 f3
      obtain ⟨X1, hX1⟩ : ∃ X, (l.take k).filter isHas = X := ⟨_, rfl⟩
      obtain ⟨X2, hX2⟩ : ∃ X, (l.take k).filter isMiss = X := ⟨_, rfl⟩
      obtain ⟨X3, hX3⟩ : ∃ X, (l.take k).filter isUn = X := ⟨_, rfl⟩
      rw [hX1] at f1 g1 ho1
      rw [hX2] at f2 g2 ho2
      rw [hX3] at f3 g3 ho3
      have F1 := Lib.hid f1
      have F2 := Lib.hid f2
      have F3 := Lib.hid f3
      have c0 := hcl 0 _ rfl
      have c1 := hcl 1 _ rfl
      have c2 := hcl 2 _ rfl
      have c3 := hcl 3 _ rfl
      have c4 := hcl 4 _ rfl
      rw [Nat.add_zero] at c0
      have hsz := hb.out.size
      obtain ⟨wq, rfl⟩ : ∃ wq : World, wq = wr := ⟨_, rfl⟩
      have G1 : X1.length ≤ 1000 := by omega
      have G2 : X2.length ≤ 1000 := by omega
      have G3 : X3.length ≤ 1000 := by omega
      clear hcl hS2 hx hX1 hX2 hX3 f1 f2 f3 g1 g2 g3 hlk
      obtain ⟨pod, ready, has, ask, use⟩ := x
      dsimp only [UseI.cells] at c0 c1 c2 c3 c4
      rcases ready with _ | _
      · go_wp2_with ((with_reducible refine at_slot 23 ?_); go_must (refine wpList_buildSlice rfl 36 1 _ rfl [(0, .agg #[.string pod, .bool false, .bool has, .int .i64 ask, .int .i64 use])] rfl _ _ (oneUseP ⟨pod, false, has, ask, use⟩) ?_; refine wpList_append_new elemUse rfl _ _ rfl w.heap.size u4 X3.length (X3.flatMap UseI.cells) rfl (((ho3.out.alloc _).alloc _)) (by simp; omega) _ _ rfl (heap_alloc_new _ _) rfl rfl (by unfold maxLen; omega) (by omega) ?_; intro g' cap' w' ho' hg' hn'; have HO' := Lib.hid ho'; have HG' := Lib.hid hg'; have HN' := Lib.hid hn'; clear ho' hg' hn'))
        have N1 := own_next (n' := X3.length + 1) (cap' := cap') (((ho1.out.alloc _).alloc _)) hds.out.2.1.symm HG'.out (HN'.out.imp id (fun h => by simpa using h))
        have N2 := own_next (n' := X3.length + 1) (cap' := cap') (((ho2.out.alloc _).alloc _)) hds.out.2.2.symm HG'.out (HN'.out.imp id (fun h => by simpa using h))
        have NB : Hid (Below w.heap.size w w') := ((hb.out.alloc hsz _).alloc (by simp; omega) _).grown HG'.out (by simp; omega) (fun k hk => (World.ownsRow.lt ho3.out k hk).1)
        go_roundw
        case rel =>
          refine ⟨k + 1, by omega, by go_num, ?_, ?_, ?_, ?_, NB.out⟩
          · show OwnL _ _ _ _
            rw [F1.out]
            simpa [isHas, isMiss, isUn] using N1.1
          · show OwnL _ _ _ _
            rw [F2.out]
            simpa [isHas, isMiss, isUn] using N2.1
          · show OwnL _ _ _ _
            rw [F3.out]
            exact own_first HO'.out
          · exact ⟨hds.out.1, N1.2.symm, N2.2.symm⟩
        case measure => simp [intOf]; omega
      · rcases has with _ | _
        · go_wp2_with ((with_reducible refine at_slot 15 ?_); go_must (refine wpList_buildSlice rfl 36 1 _ rfl [(0, .agg #[.string pod, .bool true, .bool false, .int .i64 ask, .int .i64 use])] rfl _ _ (oneUseP ⟨pod, true, false, ask, use⟩) ?_; refine wpList_append_new elemUse rfl _ _ rfl w.heap.size u3 X2.length (X2.flatMap UseI.cells) rfl (((ho2.out.alloc _).alloc _)) (by simp; omega) _ _ rfl (heap_alloc_new _ _) rfl rfl (by unfold maxLen; omega) (by omega) ?_; intro g' cap' w' ho' hg' hn'; have HO' := Lib.hid ho'; have HG' := Lib.hid hg'; have HN' := Lib.hid hn'; clear ho' hg' hn'))
          have N1 := own_next (n' := X2.length + 1) (cap' := cap') (((ho1.out.alloc _).alloc _)) hds.out.1.symm HG'.out (HN'.out.imp id (fun h => by simpa using h))
          have N3 := own_next (n' := X2.length + 1) (cap' := cap') (((ho3.out.alloc _).alloc _)) hds.out.2.2 HG'.out (HN'.out.imp id (fun h => by simpa using h))
          have NB : Hid (Below w.heap.size w w') := ((hb.out.alloc hsz _).alloc (by simp; omega) _).grown HG'.out (by simp; omega) (fun k hk => (World.ownsRow.lt ho2.out k hk).1)
          go_roundw
          case rel =>
            refine ⟨k + 1, by omega, by go_num, ?_, ?_, ?_, ?_, NB.out⟩
            · show OwnL _ _ _ _
              rw [F1.out]
              simpa [isHas, isMiss, isUn] using N1.1
            · show OwnL _ _ _ _
              rw [F2.out]
              exact own_first HO'.out
            · show OwnL _ _ _ _
              rw [F3.out]
              simpa [isHas, isMiss, isUn] using N3.1
            · exact ⟨N1.2.symm, hds.out.2.1, N3.2⟩
          case measure => simp [intOf]; omega
        · go_wp2_with ((with_reducible refine at_slot 30 ?_); go_must (refine wpList_buildSlice rfl 36 1 _ rfl [(0, .agg #[.string pod, .bool true, .bool true, .int .i64 ask, .int .i64 use])] rfl _ _ (oneUseP ⟨pod, true, true, ask, use⟩) ?_; refine wpList_append_new elemUse rfl _ _ rfl w.heap.size u2 X1.length (X1.flatMap UseI.cells) rfl (((ho1.out.alloc _).alloc _)) (by simp; omega) _ _ rfl (heap_alloc_new _ _) rfl rfl (by unfold maxLen; omega) (by omega) ?_; intro g' cap' w' ho' hg' hn'; have HO' := Lib.hid ho'; have HG' := Lib.hid hg'; have HN' := Lib.hid hn'; clear ho' hg' hn'))
          have N2 := own_next (n' := X1.length + 1) (cap' := cap') (((ho2.out.alloc _).alloc _)) hds.out.1 HG'.out (HN'.out.imp id (fun h => by simpa using h))
          have N3 := own_next (n' := X1.length + 1) (cap' := cap') (((ho3.out.alloc _).alloc _)) hds.out.2.1 HG'.out (HN'.out.imp id (fun h => by simpa using h))
          have NB : Hid (Below w.heap.size w w') := ((hb.out.alloc hsz _).alloc (by simp; omega) _).grown HG'.out (by simp; omega) (fun k hk => (World.ownsRow.lt ho1.out k hk).1)
          go_roundw
          case rel =>
            refine ⟨k + 1, by omega, by go_num, ?_, ?_, ?_, ?_, NB.out⟩
            · show OwnL _ _ _ _
              rw [F1.out]
              exact own_first HO'.out
            · show OwnL _ _ _ _
              rw [F2.out]
              simpa [isHas, isMiss, isUn] using N2.1
            · show OwnL _ _ _ _
              rw [F3.out]
              simpa [isHas, isMiss, isUn] using N3.1
            · exact ⟨N2.2, N3.2, hds.out.2.2⟩
          case measure => simp [intOf]; omega
    · obtain rfl : k = n := by omega
      have ht : l.take k = l := List.take_of_length_le (by have := HS.out.hlen; omega)
      rw [ht] at ho1 ho2 ho3
      have O1 := ho1
      have O2 := ho2
      have O3 := ho3
      have Hb := hb
      clear ht
      go_wp2_with fail
      exact bodyPost_ret (v := .tuple #[u2, u3, u4]) (by simp [results, Try.results19, go_sem]) rfl ⟨u2, u3, u4, rfl, O1.out, O2.out, O3.out, Hb.out⟩
end Go.Proofs.Ytojealgjfbjnoaa
