/- The executor on a whole call: from a closed fact of the kernel to the call's contract. Conditions: what is known of atoms, and the package-level variables' tables. || The package-level variables that are listed, as the executor's tables: they lie in every world that fits. Condition: the row's own. -/
import Derived.Test.YtcjehedciijhfaaGreatDoorE37
import Derived.Test.YtcjehedciijhfaaGreatDoorRows
import Derived.Lib.LaidTab
import Derived.Stop.LaidErr
namespace Go.Proofs.YtcjehedciijhfaaGreatDoor.E
open Go.ChangeShapes Go.WideShapes Go.ChangeAt Go.RowKit Go.Deep

def onceB : List Tab → Bool
  | [] => true
  | x :: l => allB (fun y => !(Nat.beq y.g x.g)) l && onceB l
section
variable {P : Program} {w : World}
theorem allB_out {α : Type} {f : α → Bool} {l : List α} (h : allB f l = true) : ∀ x ∈ l, f x = true := allB_mem h
theorem onceB_out : ∀ {l : List Tab}, onceB l = true → ∀ x ∈ l, ∀ y ∈ l, x.g = y.g → x = y
  | [], _, _, h, _, _, _ => by cases h
  | a :: l, h, x, hx, y, hy, e => by
    unfold onceB at h
    obtain ⟨h1, h2⟩ := and2 h
    have key : ∀ z ∈ l, z.g ≠ a.g := fun z hz => by
      have := allB_mem h1 z hz
      intro e
      rw [e] at this
      simp at this
    rcases List.mem_cons.1 hx with hx | hx <;> rcases List.mem_cons.1 hy with hy | hy
    · rw [hx, hy]
    · exact absurd (e.symm.trans (by rw [hx])) (key y hy)
    · exact absurd (e.trans (by rw [hy])) (key x hx)
    · exact onceB_out h2 x hx y hy e
theorem H0_perf (G : Nat) : ∀ (l : List (Nat × O)), Perf DH (H0 G l).t
  | [] => Perf.full _ _
  | _ :: l => (H0_perf G l).set _ _
theorem HT_get (G : Nat) (hG : G ≤ 2 ^ DH) : ∀ (l : List Tab), (∀ x ∈ l, x.g < G) → onceB l = true → ∀ b, b < G → (∀ x ∈ l, x.g = b → (HT G l).t.get b = x.o) ∧ ((∀ x ∈ l, x.g ≠ b) → (HT G l).t.get b = .dead)
  | [], _, _, b, _ => ⟨(fun _ h => by cases h), fun _ => Tr.get_full O.dead DH b⟩
  | a :: l, hl, ho, b, hb => by
    have ho' := ho
    unfold onceB at ho
    obtain ⟨o1, o2⟩ := and2 ho
    obtain ⟨h1, h2⟩ := HT_get G hG l (fun x hx => hl x (List.mem_cons_of_mem _ hx)) o2 b hb
    have hg : (HT G (a :: l)).t.get b = if b = a.g then a.o else (HT G l).t.get b :=
      (H0_perf G (l.map fun x : Tab => (x.g, x.o))).get_set a.g a.o b (Nat.lt_of_lt_of_le (hl a (List.mem_cons_self ..)) hG) (Nat.lt_of_lt_of_le hb hG)
    refine ⟨fun x hx e => ?_, fun hno => ?_⟩
    · rw [hg]
      by_cases e2 : b = a.g
      · rw [if_pos e2, onceB_out ho' x hx a (List.mem_cons_self ..) (e.trans e2)]
      · rw [if_neg e2]
        rcases List.mem_cons.1 hx with rfl | hx
        · exact absurd e.symm e2
        · exact h1 x hx e
    · rw [hg, if_neg (fun e => hno a (List.mem_cons_self ..) e.symm)]
      exact h2 fun x hx => hno x (List.mem_cons_of_mem _ hx)
/-- What is known when a call begins. -/
def I0 (G : Nat) (at_ : Nat → Value) : I := ⟨fun b => if b < G then some b else none, fun _ => none, fun _ => none, at_⟩
def KT0 (w : World) (l : List Tab) : Ker := ⟨fun c => c < w.heap.size ∧ ∀ x ∈ l, x.g ≠ c, fun _ => False⟩
theorem rep_start {G : Nat} {l : List Tab} (hG : G ≤ 2 ^ DH) (ho : onceB l = true) (L : Laid w G l) (at_ : Nat → Value) : Rep (KT0 w l) w (I0 G at_) (HT G l) w := by
  have hl : ∀ x ∈ l, x.g < G := fun x hx => (L.at_ x hx).1
  have blk : ∀ b c, (I0 G at_).blk b = some c → b < G ∧ c = b := fun b c e => by
    have e : (if b < G then some b else none) = some c := e
    split at e
    · rename_i h; cases e; exact ⟨h, rfl⟩
    · cases e
  refine ⟨H0_perf _ _, hG, ⟨rfl, rfl, rfl, Nat.le_refl _, fun c hc => ⟨hc.1, rfl⟩⟩, fun b hb hd => ?_, fun p q c hp hq _ _ ep eq => ?_, fun b c e => ?_, (fun b q e => by cases e), (fun b E e => by cases e), (fun b hb => hb.elim)⟩
  · have hb : b < G := hb
    by_cases hex : ∃ x ∈ l, x.g = b
    · obtain ⟨x, hx, e⟩ := hex
      refine ⟨b, x.obj, if_pos hb, fun hk => hk.2 x hx e, by rw [← e]; exact (L.at_ x hx).2, ?_⟩
      rw [(HT_get G hG l hl ho b hb).1 x hx e]
      exact x.or_ _
    · exact absurd ((HT_get G hG l hl ho b hb).2 fun x hx e => hex ⟨x, hx, e⟩) hd
  · rw [← (blk p c ep).2, (blk q c eq).2]
  · obtain ⟨h1, h2⟩ := blk b c e
    have := L.size
    exact ⟨h1, by omega⟩
theorem below_end {G : Nat} {l : List Tab} (L : Laid w G l) {at_ : Nat → Value} {κ : I} {h' : H} {w' : World} (hle : (I0 G at_).Le κ) (r : Rep (KT0 w l) w κ h' w') (hk : keptB h' l = true) : Below w.heap.size w w' := by
  refine ⟨r.base.os, r.base.tape, r.base.output, r.base.size, fun c hc => ?_⟩
  by_cases hex : ∃ x ∈ l, x.g = c
  · obtain ⟨x, hx, rfl⟩ := hex
    have hd := beqO_eq (allB_mem hk x hx)
    obtain ⟨o, _, h1, h2⟩ := r.at_ (hle.blk x.g x.g (if_pos (L.at_ x hx).1)) (by rw [hd]; simp [Tab.o])
    rw [hd] at h2
    rw [h1, (L.at_ x hx).2, Tab.only h2]
  · exact (r.base.kept c ⟨hc, fun x hx e => hex ⟨x, hx, e⟩⟩).2
/-- A call that the executor has gone through. -/
theorem says_sound {n f G : Nat} {A : BinOp → V → V → Option V} {L : Bool → V → Option V} {I' : Nat → Bool} {N : Nat → List V → Option V} {S : Nat → Option V} {X : Nat → Bool} {l : List Tab} {args : List V} {b : Bool} (h : says drK P n f G A L I' N S X l args b = true) (hC : (Cf.of P G A L I' N S X l).Ok P)
    (hG : Nat.ble G 4096 = true) (ho : onceB l = true) (hL : Laid w G l) (at_ : Nat → Value) (ha : Atoms (Cf.of P G A L I' N S X l) P (KT0 w l) w (I0 G at_)) {xs : List Value} (hx : VRs (I0 G at_) args xs) :
    Calls P f xs.toArray w fun e w' => e = .returned (.bool b) ∧ Below w.heap.size w w' := by
  have hG : G ≤ 2 ^ DH := Nat.le_of_ble_eq_true hG
  unfold says at h
  split at h
  rotate_left
  · cases h
  rename_i c h' hc
  obtain ⟨h1, h2⟩ := and2 h
  have h1 := bEq_eq h1
  subst h1
  have hr := rep_start hG ho hL at_
  obtain ⟨_, q⟩ := callK_sound hC (go_sound hC (drK_sound hC) n) (RvLe.of_eq hc) ha hr (EOk.nil _) hx none
  refine (callsIn_wide.1 q).mono ?_
  rintro e w' ⟨v, y, h2', κ, rfl, hle, hrep, hv, v', x, h0, q1, q2, hsub⟩
  cases q1
  cases q2
  simp only [VR] at hv
  subst hv
  exact ⟨rfl, below_end hL hle (hrep.sub hsub) h2⟩
/-- Nothing is known of atoms. -/
theorem atoms_none (G : Nat) (I' : Nat → Bool) (S : Nat → Option V) (X : Nat → Bool) (l : List Tab) (at_ : Nat → Value) (K : Ker) (w0 : World) (h : ∀ k, (at_ k).oneCell' = true) : Atoms (Cf.of P G noA noL I' noN S X l) P K w0 (I0 G at_) :=
  ⟨h, fun _ hg => if_pos hg, (fun _ _ _ _ h => by cases h), (fun _ _ h => by cases h), (fun _ _ h => by cases h), (fun _ _ _ h => by cases h)⟩
end
end Go.Proofs.YtcjehedciijhfaaGreatDoor.E
namespace Go.Proofs.YtcjehedciijhfaaGreatDoor.E
open Go.ChangeShapes Go.WideShapes Go.ChangeAt Go.RowKit Go.Deep

def tab1 : Tab := ⟨1, 424, .u64, [1, 10, 100, 1000, 10000, 100000, 1000000, 10000000, 100000000, 1000000000, 10000000000, 100000000000, 1000000000000, 10000000000000, 100000000000000, 1000000000000000, 10000000000000000, 100000000000000000, 1000000000000000000, 10000000000000000000]⟩
def tabs : List Tab := [tab1]
def nG : Nat := 7
section
variable {W : World}

theorem size_of (hsh : W.ShapedOpen Tryz.prog) : nG ≤ W.heap.size := by
  obtain ⟨o, _, h, _⟩ := hsh.2 7 (Nat.le_of_eq (by kernel_rfl)) (by rw [← Nat.blt_eq]; kernel_rfl)
  exact Nat.le_of_lt (Array.getElem?_eq_some_iff.1 h).1
theorem lies1 (hL : laidMet Tryz.prog [("math/bits.deBruijn32tab", Rows.laid_math_bits_deBruijn32tab), ("math/bits.deBruijn64tab", Rows.laid_math_bits_deBruijn64tab), ("internal/strconv.uint64pow10", Rows.laid_internal_strconv_uint64pow10)] W) (hsh : W.ShapedOpen Tryz.prog) : W.heap[1]? = some tab1.obj := by
  have h1 : Lib.TabIs Tryz.prog W "internal/strconv.uint64pow10" .u64 tab1.zs := Lib.tabIs_of_head (g := 1) (t := 424) (e := 44) (n := 20) (by kernel_rfl) (by kernel_rfl) Tryz.underlying424 Tryz.underlying44 (by kernel_rfl) (by kernel_rfl) (laidMet.tail (laidMet.tail hL))
  obtain ⟨cs, h2, _⟩ := hsh.1 1 (Array.replicate 20 (Value.int .u64 0)) 424 (by rw [show Tryz.prog.globals.size = 7 by kernel_rfl]; decide) (by kernel_rfl)
  have h3 : W.var? Tryz.prog "internal/strconv.uint64pow10" = some cs := by
    unfold World.var?
    rw [show Tryz.prog.globalNamed "internal/strconv.uint64pow10" = some 1 by kernel_rfl]
    simp [h2]
  rw [h2]
  unfold Lib.TabIs at h1
  rw [h3] at h1
  cases h1
  rfl
theorem tabs_laid (hL : laidMet Tryz.prog [("math/bits.deBruijn32tab", Rows.laid_math_bits_deBruijn32tab), ("math/bits.deBruijn64tab", Rows.laid_math_bits_deBruijn64tab), ("internal/strconv.uint64pow10", Rows.laid_internal_strconv_uint64pow10)] W) (hsh : W.ShapedOpen Tryz.prog) : Laid W nG tabs := by
  refine ⟨size_of hsh, fun x hx => ?_⟩
  simp only [tabs, List.mem_cons, List.not_mem_nil, or_false] at hx
  rcases hx with rfl
  · exact ⟨by decide, lies1 hL hsh⟩
end
end Go.Proofs.YtcjehedciijhfaaGreatDoor.E
