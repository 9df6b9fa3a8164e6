/- The executor on a whole call: from a closed fact of the kernel to the call's contract. Conditions: what is known of atoms, and the package-level variables' tables. -/
import Derived.Test.YtcjehedciijhfaaGreatDoorE37
namespace Go.Proofs.YtcjehedciijhfaaGreatDoor.E
open Go.ChangeShapes Go.WideShapes Go.ChangeAt Go.RowKit Go.Deep

def onceB : List Tab → Bool
  | [] => true
  | x :: l => allB (fun y => !(Nat.beq y.g x.g)) l && onceB l
section
variable {P : Program} {w : World}
theorem allB_out {α : Type} {f : α → Bool} {l : List α} (h : allB f l = true) : ∀ x ∈ l, f x = true := allB_mem h
theorem onceB_out : ∀ {l : List Tab}, onceB l = true → ∀ x ∈ l, ∀ y ∈ l, x.g = y.g → x = y
  | [], _, _, h, _, _, _ => by cases h
  | a :: l, h, x, hx, y, hy, e => by
    unfold onceB at h
    obtain ⟨h1, h2⟩ := and2 h
    have key : ∀ z ∈ l, z.g ≠ a.g := fun z hz => by
      have := allB_mem h1 z hz
      intro e
      rw [e] at this
      simp at this
    rcases List.mem_cons.1 hx with hx | hx <;> rcases List.mem_cons.1 hy with hy | hy
    · rw [hx, hy]
    · exact absurd (e.symm.trans (by rw [hx])) (key y hy)
    · exact absurd (e.trans (by rw [hy])) (key x hx)
    · exact onceB_out h2 x hx y hy e
theorem H0_perf (G : Nat) : ∀ (l : List (Nat × O)), Perf DH (H0 G l).t
  | [] => Perf.full _ _
  | _ :: l => (H0_perf G l).set _ _
theorem HT_get (G : Nat) (hG : G ≤ 2 ^ DH) : ∀ (l : List Tab), (∀ x ∈ l, x.g < G) → onceB l = true → ∀ b, b < G → (∀ x ∈ l, x.g = b → (HT G l).t.get b = x.o) ∧ ((∀ x ∈ l, x.g ≠ b) → (HT G l).t.get b = .dead)
  | [], _, _, b, _ => ⟨(fun _ h => by cases h), fun _ => Tr.get_full O.dead DH b⟩
  | a :: l, hl, ho, b, hb => by
    have ho' := ho
    unfold onceB at ho
    obtain ⟨o1, o2⟩ := and2 ho
    obtain ⟨h1, h2⟩ := HT_get G hG l (fun x hx => hl x (List.mem_cons_of_mem _ hx)) o2 b hb
    have hg : (HT G (a :: l)).t.get b = if b = a.g then a.o else (HT G l).t.get b :=
      (H0_perf G (l.map fun x : Tab => (x.g, x.o))).get_set a.g a.o b (Nat.lt_of_lt_of_le (hl a (List.mem_cons_self ..)) hG) (Nat.lt_of_lt_of_le hb hG)
    refine ⟨fun x hx e => ?_, fun hno => ?_⟩
    · rw [hg]
      by_cases e2 : b = a.g
      · rw [if_pos e2, onceB_out ho' x hx a (List.mem_cons_self ..) (e.trans e2)]
      · rw [if_neg e2]
        rcases List.mem_cons.1 hx with rfl | hx
        · exact absurd e.symm e2
        · exact h1 x hx e
    · rw [hg, if_neg (fun e => hno a (List.mem_cons_self ..) e.symm)]
      exact h2 fun x hx => hno x (List.mem_cons_of_mem _ hx)
/-- What is known when a call begins. -/
def I0 (G : Nat) (at_ : Nat → Value) : I := ⟨fun b => if b < G then some b else none, fun _ => none, fun _ => none, at_⟩
def KT0 (w : World) (l : List Tab) : Ker := ⟨fun c => c < w.heap.size ∧ ∀ x ∈ l, x.g ≠ c, fun _ => False⟩
theorem rep_start {G : Nat} {l : List Tab} (hG : G ≤ 2 ^ DH) (ho : onceB l = true) (L : Laid w G l) (at_ : Nat → Value) : Rep (KT0 w l) w (I0 G at_) (HT G l) w := by
  have hl : ∀ x ∈ l, x.g < G := fun x hx => (L.at_ x hx).1
  have blk : ∀ b c, (I0 G at_).blk b = some c → b < G ∧ c = b := fun b c e => by
    have e : (if b < G then some b else none) = some c := e
    split at e
    · rename_i h; cases e; exact ⟨h, rfl⟩
    · cases e
  refine ⟨H0_perf _ _, hG, ⟨rfl, rfl, rfl, Nat.le_refl _, fun c hc => ⟨hc.1, rfl⟩⟩, fun b hb hd => ?_, fun p q c hp hq _ _ ep eq => ?_, fun b c e => ?_, (fun b q e => by cases e), (fun b E e => by cases e), (fun b hb => hb.elim)⟩
  · have hb : b < G := hb
    by_cases hex : ∃ x ∈ l, x.g = b
    · obtain ⟨x, hx, e⟩ := hex
      refine ⟨b, x.obj, if_pos hb, fun hk => hk.2 x hx e, by rw [← e]; exact (L.at_ x hx).2, ?_⟩
      rw [(HT_get G hG l hl ho b hb).1 x hx e]
      exact x.or_ _
    · exact absurd ((HT_get G hG l hl ho b hb).2 fun x hx e => hex ⟨x, hx, e⟩) hd
  · rw [← (blk p c ep).2, (blk q c eq).2]
  · obtain ⟨h1, h2⟩ := blk b c e
    have := L.size
    exact ⟨h1, by omega⟩
theorem below_end {G : Nat} {l : List Tab} (L : Laid w G l) {at_ : Nat → Value} {κ : I} {h' : H} {w' : World} (hle : (I0 G at_).Le κ) (r : Rep (KT0 w l) w κ h' w') (hk : keptB h' l = true) : Below w.heap.size w w' := by
  refine ⟨r.base.os, r.base.tape, r.base.output, r.base.size, fun c hc => ?_⟩
  by_cases hex : ∃ x ∈ l, x.g = c
  · obtain ⟨x, hx, rfl⟩ := hex
    have hd := beqO_eq (allB_mem hk x hx)
    obtain ⟨o, _, h1, h2⟩ := r.at_ (hle.blk x.g x.g (if_pos (L.at_ x hx).1)) (by rw [hd]; simp [Tab.o])
    rw [hd] at h2
    rw [h1, (L.at_ x hx).2, Tab.only h2]
  · exact (r.base.kept c ⟨hc, fun x hx e => hex ⟨x, hx, e⟩⟩).2
/-- A call that the executor has gone through. -/
theorem says_sound {n f G : Nat} {A : BinOp → V → V → Option V} {L : V → Option V} {I' : Nat → Bool} {S : Nat → Option V} {X : Nat → Bool} {l : List Tab} {args : List V} {b : Bool} (h : says drK P n f G A L I' S X l args b = true) (hC : (Cf.of P G A L I' S X l).Ok P)
    (hG : Nat.ble G 4096 = true) (ho : onceB l = true) (hL : Laid w G l) (at_ : Nat → Value) (ha : Atoms (Cf.of P G A L I' S X l) P (I0 G at_)) {xs : List Value} (hx : VRs (I0 G at_) args xs) :
    Calls P f xs.toArray w fun e w' => e = .returned (.bool b) ∧ Below w.heap.size w w' := by
  have hG : G ≤ 2 ^ DH := Nat.le_of_ble_eq_true hG
  unfold says at h
  split at h
  rotate_left
  · cases h
  rename_i c h' hc
  obtain ⟨h1, h2⟩ := and2 h
  have h1 := bEq_eq h1
  subst h1
  have hr := rep_start hG ho hL at_
  obtain ⟨_, q⟩ := callK_sound hC (go_sound hC (drK_sound hC) n) (RvLe.of_eq hc) ha hr (EOk.nil _) hx none
  refine (callsIn_wide.1 q).mono ?_
  rintro e w' ⟨v, y, h2', κ, rfl, hle, hrep, hv, v', x, h0, q1, q2, hsub⟩
  cases q1
  cases q2
  simp only [VR] at hv
  subst hv
  exact ⟨rfl, below_end hL hle (hrep.sub hsub) h2⟩
/-- Nothing is known of atoms. -/
theorem atoms_none (G : Nat) (I' : Nat → Bool) (S : Nat → Option V) (X : Nat → Bool) (l : List Tab) (at_ : Nat → Value) (h : ∀ k, (at_ k).oneCell' = true) : Atoms (Cf.of P G noA noL I' S X l) P (I0 G at_) :=
  ⟨h, fun _ hg => if_pos hg, (fun _ _ _ _ h => by cases h), (fun _ _ h => by cases h)⟩
end
end Go.Proofs.YtcjehedciijhfaaGreatDoor.E
