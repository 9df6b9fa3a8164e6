/- The executor is sound, on regions that draw their order too. No condition. || The executor on a whole call: from a closed fact of the kernel to the call's contract. Conditions: what is known of atoms, and the package-level variables' tables. || The executor: what is known of atoms that are numbers, or texts. No condition. || The executor amid a walk: a piece of code from a known state to a known one. No condition. || The executor at a program without tables. No condition. || Chapter 35's example, gone through by the executor. Condition: none. || The step from the walk of RolloutPlans to its row: for every input that reads, if the walk returns true and leaves old memory alone, the row holds. Condition: the walk, which is a hypothesis of the lemma. || Phases with guarded operations ('&&', '||'). No condition; no program. -/
import Derived.Test.YtpbppgfogepjeaaE36
import Derived.Test.YtpbppgfogepjeaaRows
import Derived.Test.YtpbppgfogepjeaaBase
import Derived.SizedLaws
import Derived.Lib.SmallJoins
import Derived.Test.YtpbppgfogepjeaaPhaseInvM
namespace Go.Proofs.Ytpbppgfogepjeaa.E
open Go.ChangeShapes Go.WideShapes Go.ChangeAt Go.RowKit Go.Deep

section
variable {K : Ker} {w0 w : World} {ι : I} {h : H}
theorem Rep.add_dead (r : Rep K w0 ι h w) (hn : h.n < 2 ^ DH) : Rep K w0 ι (h.add .dead) w := by
  have hg : ∀ b, b < h.n + 1 → (h.t.set h.n O.dead).get b = if b = h.n then O.dead else h.t.get b := fun b hb => r.perf.get_set _ _ _ hn (by omega)
  refine ⟨r.perf.set _ _, hn, r.base, fun b hb hd => ?_, fun p q c hp hq hpd hqd ep eq => ?_, fun b c e => ⟨Nat.lt_succ_of_lt (r.lt b c e).1, (r.lt b c e).2⟩, fun b q e => Nat.lt_succ_of_lt (r.lps b q e), fun b E e => ⟨Nat.lt_succ_of_lt (r.ext b E e).1, (r.ext b E e).2⟩, fun b hb => ⟨Nat.lt_succ_of_lt (r.resv b hb).1, (r.resv b hb).2⟩⟩
  · have hb : b < h.n + 1 := hb
    have hd : (h.t.set h.n O.dead).get b ≠ .dead := hd
    show ∃ c o, _ ∧ _ ∧ _ ∧ OR ι ((h.t.set h.n O.dead).get b) o
    rw [hg b hb] at hd ⊢
    by_cases e : b = h.n
    · rw [if_pos e] at hd; exact absurd rfl hd
    · rw [if_neg e] at hd ⊢
      exact r.live b (by omega) hd
  · have hp : p < h.n + 1 := hp
    have hq : q < h.n + 1 := hq
    have hpd : (h.t.set h.n O.dead).get p ≠ .dead := hpd
    have hqd : (h.t.set h.n O.dead).get q ≠ .dead := hqd
    rw [hg p hp] at hpd
    rw [hg q hq] at hqd
    by_cases e1 : p = h.n
    · rw [if_pos e1] at hpd; exact absurd rfl hpd
    by_cases e2 : q = h.n
    · rw [if_pos e2] at hqd; exact absurd rfl hqd
    rw [if_neg e1] at hpd
    rw [if_neg e2] at hqd
    exact r.inj p q c (by omega) (by omega) hpd hqd ep eq
theorem Rep.aside : ∀ (k : Nat) {h : H}, Rep K w0 ι h w → h.n + k ≤ 2 ^ DH → Rep K w0 ι (setAside k h) w ∧ (setAside k h).n = h.n + k ∧ (∀ b, h.n ≤ b → b < h.n + k → (setAside k h).t.get b = .dead)
  | 0, h, r, _ => ⟨r, rfl, fun b h1 h2 => by omega⟩
  | k + 1, h, r, hn => by
    have hlt : h.n < 2 ^ DH := by omega
    have hn' : (h.add .dead).n = h.n + 1 := rfl
    obtain ⟨a1, a2, a3⟩ := Rep.aside k (r.add_dead hlt) (by rw [hn']; omega)
    rw [hn'] at a2 a3
    refine ⟨a1, by show (setAside k (h.add .dead)).n = _; omega, fun b h1 h2 => ?_⟩
    show (setAside k (h.add .dead)).t.get b = _
    by_cases e : b = h.n
    · subst e
      -- it is not laid anew
      have key : ∀ (k : Nat) (g : H), Perf DH g.t → h.n < g.n → g.n + k ≤ 2 ^ DH → g.t.get h.n = .dead → (setAside k g).t.get h.n = .dead := by
        intro k
        induction k with
        | zero => exact fun g _ _ _ hd => hd
        | succ k ih =>
          intro g hp hg hk hd
          refine ih (g.add .dead) (hp.set _ _) (Nat.lt_succ_of_lt hg) (by show g.n + 1 + k ≤ _; omega) ?_
          show (g.t.set g.n O.dead).get h.n = _
          rw [hp.get_set _ _ _ (by omega) hlt]
          split
          · rfl
          · exact hd
      refine key k (h.add .dead) (r.perf.set _ _) (Nat.lt_succ_self _) (by show h.n + 1 + k ≤ _; omega) ?_
      show (h.t.set h.n O.dead).get h.n = _
      rw [r.perf.get_set _ _ _ hlt hlt, if_pos rfl]
    · exact a3 b (by omega) (by omega)
end
theorem freshN_take {all : List Oper} : ∀ {i j : Nat} {o : Oper}, i < j → all[i]? = some o → isFresh o.op = true → freshN (all.take i) < freshN (all.take j) := by
  induction all with
  | nil => intro i j o _ h; simp at h
  | cons a l ih =>
    intro i j o hij h hf
    cases j with
    | zero => omega
    | succ j =>
      cases i with
      | zero =>
        simp at h
        subst h
        simp only [List.take_zero, List.take_succ_cons, freshN]
        rw [hf]
        exact Nat.succ_pos _
      | succ i =>
        simp at h
        have := ih (show i < j by omega) h hf
        simp only [List.take_succ_cons, freshN]
        split <;> omega
theorem freshN_all {all : List Oper} {i : Nat} {o : Oper} (h : all[i]? = some o) (hf : isFresh o.op = true) : freshN (all.take i) < freshN all := by
  have hi := (List.getElem?_eq_some_iff.1 h).1
  have := freshN_take (j := all.length) hi h hf
  rw [List.take_length] at this
  exact this
section
variable {C : Cf} {ih : IHT} {env : Env} {N : Nat} {all : List Oper} {n0 : Nat} {T0 : H} {fr0 : Tr V} {l : List It} {rs : List Rc} {frE : Tr V} {TE : H} {LsF : List (Nat × H)} {QsF : List Qt} {SLF : List (Nat × Nat)}
theorem Ch.fresh_id (h : Ch C ih env N all n0 T0 fr0 rs frE TE LsF QsF SLF) {i : Nat} {r : Rc} {b : Nat} {o : O} (hr : rs[i]? = some r) (hk : r.k = .fresh b o) : isFresh r.x.o.op = true ∧ b = n0 + r.x.rk := by
  obtain ⟨_, _, _, _, _, c2, _⟩ := h.at_ i r hr
  cases c2 with
  | fresh b' _ hf _ hk' =>
    rw [hk'] at hk
    injection hk with e1 e2
    exact ⟨hf, e1.symm⟩
  | skip _ _ h => rw [h] at hk; cases hk
  | free _ _ _ _ h => rw [h] at hk; cases hk
  | quiet _ _ _ h _ => rw [h] at hk; cases hk
  | loud _ _ _ _ _ _ _ h _ _ => rw [h] at hk; cases hk
theorem uq_of (its : ItsOk all l) (hm : rs.map (·.x) = l) (h : Ch C ih env N all n0 T0 fr0 rs frE TE LsF QsF SLF) (hn : n0 + freshN all ≤ 2 ^ DH) : Uq n0 rs := by
  have item : ∀ {k : Nat} {r : Rc}, rs[k]? = some r → l[k]? = some r.x := fun h => by rw [← hm, List.getElem?_map, h]; rfl
  have less : ∀ {i j : Nat} {r q : Rc} {b : Nat} {o o' : O}, rs[i]? = some r → rs[j]? = some q → r.k = .fresh b o → q.k = .fresh b o' → ¬ i < j := by
    intro i j r q b o o' h1 h2 h3 h4 hlt
    obtain ⟨f1, e1⟩ := h.fresh_id h1 h3
    obtain ⟨f2, e2⟩ := h.fresh_id h2 h4
    have i1 := its.it i r.x (item h1)
    have i2 := its.it j q.x (item h2)
    have := freshN_take hlt i1.o f1
    rw [← i1.rk, ← i2.rk] at this
    omega
  refine ⟨fun i j r q d h1 h2 h3 h4 => its.one (item h1) (item h2) h3 h4, fun i j r q b o o' h1 h2 h3 h4 => ?_, fun i r b o h1 h2 => ?_⟩
  · have a1 := less h1 h2 h3 h4
    have a2 := less h2 h1 h4 h3
    omega
  · obtain ⟨f1, e1⟩ := h.fresh_id h1 h2
    have i1 := its.it i r.x (item h1)
    have := freshN_all i1.o f1
    rw [← i1.rk] at this
    omega
end
theorem drK_sound {P : Program} {C : Cf} (hC : C.Ok P) : DSound P C drK := by
  intro ih hS env N ops fr h KK r0 hr K w0 ι a w rb id Q ha hf r he hn
  have hr : RvLe (match its ops.toList, Nat.ble (h.n + freshN ops.toList) 4096 with
    | some l, true => forceH (setAside (freshN ops.toList) h) fun T => drun C ih env N ops.toList h.n T KK l fr T [] [] []
    | _, _ => none) r0 := hr
  split at hr
  rotate_left
  · exact hr.not_none.elim
  rename_i l hits hle
  have hle : h.n + freshN ops.toList ≤ 2 ^ DH := Nat.le_of_ble_eq_true hle
  have hI := its_sound hits
  rw [forceH_eq] at hr
  obtain ⟨q1, q2, q3⟩ := Rep.aside (freshN ops.toList) r hle
  obtain ⟨rs, frE, TE, LsF, QsF, SLF, hch, hmap, hr⟩ := drun_ch l [] fr _ [] [] [] .nil (fun j x hx => by
    have := (hI.it j x hx).at_
    simpa using this) hr
  simp only [List.nil_append] at hch
  have hU := uq_of hI hmap hch hle
  have F : Fx C ih env N ops.toList h.n (setAside (freshN ops.toList) h) fr l rs frE TE LsF QsF SLF := ⟨hI, hmap, hch, hU, q1.perf, hf.perf, hf.fit⟩
  have hid : ∀ (j : Nat) (r : Rc) (b : Nat) (o : O), rs[j]? = some r → r.k = .fresh b o → h.n ≤ b ∧ b < h.n + freshN ops.toList := fun j r b o h1 h2 => by
    obtain ⟨f1, e1⟩ := hch.fresh_id h1 h2
    have i1 := hI.it j r.x (F.item h1)
    have := freshN_all i1.o f1
    rw [← i1.rk] at this
    omega
  have no : ∀ j, ¬ (Array.replicate ops.size false).getD j false = true := fun j => by
    rw [Array.getD_eq_getD_getElem?, Array.getElem?_replicate]
    split <;> simp
  refine wpIn_region_any hC.mixed (any_sound hC hS ha he F (fun b hb => (r.resv b hb).1) (fun a' w' κ h1 h2 h3 h4 => hn frE TE κ a' w' h1 h2 h3 h4 hr) ops.size _ a _ ι (by simp) (fun k o _ hk => absurd hk (no k)) ?_ ?_)
  · refine ⟨.refl _, ⟨fr, hf, fun s hs => ⟨fun j q _ hd => absurd hd (no j), fun _ => rfl⟩⟩, rfl, LsF, [], setAside (freshN ops.toList) h, by simp, fun p _ => no p.1, (fun _ h => by cases h), q1.drawn, rfl, (fun _ h => by cases h), fun j q b o h1 h2 _ => ?_, fun j q b o _ _ hd => absurd hd (no j), fun _ _ _ => rfl, fun j q b o h1 h2 _ => ?_, fun j q b o h1 h2 _ => ?_, fun j q b o _ _ hd => absurd hd (no j)⟩
    · exact q3 b (hid j q b o h1 h2).1 (hid j q b o h1 h2).2
    · exact q3 b (hid j q b o h1 h2).1 (hid j q b o h1 h2).2
    · refine ⟨by rw [q2]; exact (hid j q b o h1 h2).2, ?_, ?_⟩
      · cases e : ι.blk b with
        | none => rfl
        | some c =>
          have := (r.lt b c e).1
          have := (hid j q b o h1 h2).1
          omega
      · cases e : ι.ext b with
        | none => rfl
        | some c =>
          have := (r.ext b c e).1
          have := (hid j q b o h1 h2).1
          omega
  · have : (List.range ops.size).countP (fun k => !(Array.replicate ops.size false).getD k false) ≤ (List.range ops.size).length := List.countP_le_length
    simpa using this
end Go.Proofs.Ytpbppgfogepjeaa.E
namespace Go.Proofs.Ytpbppgfogepjeaa.E
open Go.ChangeShapes Go.WideShapes Go.ChangeAt Go.RowKit Go.Deep

def onceB : List Tab → Bool
  | [] => true
  | x :: l => allB (fun y => !(Nat.beq y.g x.g)) l && onceB l
section
variable {P : Program} {w : World}
theorem onceB_out : ∀ {l : List Tab}, onceB l = true → ∀ x ∈ l, ∀ y ∈ l, x.g = y.g → x = y
  | [], _, _, h, _, _, _ => by cases h
  | a :: l, h, x, hx, y, hy, e => by
    unfold onceB at h
    obtain ⟨h1, h2⟩ := and2 h
    have key : ∀ z ∈ l, z.g ≠ a.g := fun z hz => by
      have := allB_mem h1 z hz
      intro e
      rw [e] at this
      simp at this
    rcases List.mem_cons.1 hx with hx | hx <;> rcases List.mem_cons.1 hy with hy | hy
    · rw [hx, hy]
    · exact absurd (e.symm.trans (by rw [hx])) (key y hy)
    · exact absurd (e.trans (by rw [hy])) (key x hx)
    · exact onceB_out h2 x hx y hy e
theorem H0_perf (G : Nat) : ∀ (l : List (Nat × O)), Perf DH (H0 G l).t
  | [] => Perf.full _ _
  | _ :: l => (H0_perf G l).set _ _
theorem HT_get (G : Nat) (hG : G ≤ 2 ^ DH) : ∀ (l : List Tab), (∀ x ∈ l, x.g < G) → onceB l = true → ∀ b, b < G → (∀ x ∈ l, x.g = b → (HT G l).t.get b = x.o) ∧ ((∀ x ∈ l, x.g ≠ b) → (HT G l).t.get b = .dead)
  | [], _, _, b, _ => ⟨(fun _ h => by cases h), fun _ => Tr.get_full O.dead DH b⟩
  | a :: l, hl, ho, b, hb => by
    have ho' := ho
    unfold onceB at ho
    obtain ⟨o1, o2⟩ := and2 ho
    obtain ⟨h1, h2⟩ := HT_get G hG l (fun x hx => hl x (List.mem_cons_of_mem _ hx)) o2 b hb
    have hg : (HT G (a :: l)).t.get b = if b = a.g then a.o else (HT G l).t.get b :=
      (H0_perf G (l.map fun x : Tab => (x.g, x.o))).get_set a.g a.o b (Nat.lt_of_lt_of_le (hl a (List.mem_cons_self ..)) hG) (Nat.lt_of_lt_of_le hb hG)
    refine ⟨fun x hx e => ?_, fun hno => ?_⟩
    · rw [hg]
      by_cases e2 : b = a.g
      · rw [if_pos e2, onceB_out ho' x hx a (List.mem_cons_self ..) (e.trans e2)]
      · rw [if_neg e2]
        rcases List.mem_cons.1 hx with rfl | hx
        · exact absurd e.symm e2
        · exact h1 x hx e
    · rw [hg, if_neg (fun e => hno a (List.mem_cons_self ..) e.symm)]
      exact h2 fun x hx => hno x (List.mem_cons_of_mem _ hx)
def I0 (G : Nat) (at_ : Nat → Value) : I := ⟨fun b => if b < G then some b else none, fun _ => none, fun _ => none, at_⟩
def KT0 (w : World) (l : List Tab) : Ker := ⟨fun c => c < w.heap.size ∧ ∀ x ∈ l, x.g ≠ c, fun _ => False⟩
theorem rep_start {G : Nat} {l : List Tab} (hG : G ≤ 2 ^ DH) (ho : onceB l = true) (L : Laid w G l) (at_ : Nat → Value) : Rep (KT0 w l) w (I0 G at_) (HT G l) w := by
  have hl : ∀ x ∈ l, x.g < G := fun x hx => (L.at_ x hx).1
  have blk : ∀ b c, (I0 G at_).blk b = some c → b < G ∧ c = b := fun b c e => by
    have e : (if b < G then some b else none) = some c := e
    split at e
    · rename_i h; cases e; exact ⟨h, rfl⟩
    · cases e
  refine ⟨H0_perf _ _, hG, ⟨rfl, rfl, rfl, Nat.le_refl _, fun c hc => ⟨hc.1, rfl⟩⟩, fun b hb hd => ?_, fun p q c hp hq _ _ ep eq => ?_, fun b c e => ?_, (fun b q e => by cases e), (fun b E e => by cases e), (fun b hb => hb.elim)⟩
  · have hb : b < G := hb
    by_cases hex : ∃ x ∈ l, x.g = b
    · obtain ⟨x, hx, e⟩ := hex
      refine ⟨b, x.obj, if_pos hb, fun hk => hk.2 x hx e, by rw [← e]; exact (L.at_ x hx).2, ?_⟩
      rw [(HT_get G hG l hl ho b hb).1 x hx e]
      exact x.or_ _
    · exact absurd ((HT_get G hG l hl ho b hb).2 fun x hx e => hex ⟨x, hx, e⟩) hd
  · rw [← (blk p c ep).2, (blk q c eq).2]
  · obtain ⟨h1, h2⟩ := blk b c e
    have := L.size
    exact ⟨h1, by omega⟩
theorem below_end {G : Nat} {l : List Tab} (L : Laid w G l) {at_ : Nat → Value} {κ : I} {h' : H} {w' : World} (hle : (I0 G at_).Le κ) (r : Rep (KT0 w l) w κ h' w') (hk : keptB h' l = true) : Below w.heap.size w w' := by
  refine ⟨r.base.os, r.base.tape, r.base.output, r.base.size, fun c hc => ?_⟩
  by_cases hex : ∃ x ∈ l, x.g = c
  · obtain ⟨x, hx, rfl⟩ := hex
    have hd := beqO_eq (allB_mem hk x hx)
    obtain ⟨o, _, h1, h2⟩ := r.at_ (hle.blk x.g x.g (if_pos (L.at_ x hx).1)) (by rw [hd]; simp [Tab.o])
    rw [hd] at h2
    rw [h1, (L.at_ x hx).2, Tab.only h2]
  · exact (r.base.kept c ⟨hc, fun x hx e => hex ⟨x, hx, e⟩⟩).2
theorem says_sound {n f G : Nat} {A : BinOp → V → V → Option V} {L : Bool → V → Option V} {I' : Nat → Bool} {N : Nat → List V → Option V} {S : Nat → Option V} {X : Nat → Bool} {l : List Tab} {args : List V} {b : Bool} (h : says drK P n f G A L I' N S X l args b = true) (hC : (Cf.of P G A L I' N S X l).Ok P)
    (hG : Nat.ble G 4096 = true) (ho : onceB l = true) (hL : Laid w G l) (at_ : Nat → Value) (ha : Atoms (Cf.of P G A L I' N S X l) P (KT0 w l) w (I0 G at_)) {xs : List Value} (hx : VRs (I0 G at_) args xs) :
    Calls P f xs.toArray w fun e w' => e = .returned (.bool b) ∧ Below w.heap.size w w' := by
  have hG : G ≤ 2 ^ DH := Nat.le_of_ble_eq_true hG
  unfold says at h
  split at h
  rotate_left
  · cases h
  rename_i c h' hc
  obtain ⟨h1, h2⟩ := and2 h
  have h1 := bEq_eq h1
  subst h1
  have hr := rep_start hG ho hL at_
  obtain ⟨_, q⟩ := callK_sound hC (go_sound hC (drK_sound hC) n) (RvLe.of_eq hc) ha hr (EOk.nil _) hx none
  refine (callsIn_wide.1 q).mono ?_
  rintro e w' ⟨v, y, h2', κ, rfl, hle, hrep, hv, v', x, h0, q1, q2, hsub⟩
  cases q1
  cases q2
  simp only [VR] at hv
  subst hv
  exact ⟨rfl, below_end hL hle (hrep.sub hsub) h2⟩
theorem atoms_none (G : Nat) (I' : Nat → Bool) (S : Nat → Option V) (X : Nat → Bool) (l : List Tab) (at_ : Nat → Value) (K : Ker) (w0 : World) (h : ∀ k, (at_ k).oneCell' = true) : Atoms (Cf.of P G noA noL I' noN S X l) P K w0 (I0 G at_) :=
  ⟨h, fun _ hg => if_pos hg, (fun _ _ _ _ h => by cases h), (fun _ _ h => by cases h), (fun _ _ h => by cases h), (fun _ _ _ h => by cases h)⟩
end
end Go.Proofs.Ytpbppgfogepjeaa.E
namespace Go.Proofs.Ytpbppgfogepjeaa.E
open Go.ChangeShapes Go.WideShapes Go.ChangeAt Go.RowKit Go.Deep

section
variable {P : Program} {at_ : Nat → Value}
end
end Go.Proofs.Ytpbppgfogepjeaa.E
namespace Go.Proofs.Ytpbppgfogepjeaa.E
open Go.ChangeShapes Go.WideShapes Go.ChangeAt Go.RowKit Go.Deep

section
variable {P : Program} {w : World} {at_ : Nat → Value} {cs : List Nat} {os : List O}
end
def litV (ι : I) : V → Option Value
  | .int k n => some (.int k n)
  | .bool b => some (.bool b)
  | .ptr b o => match ι.blk b with
    | some c => some (.pointer (some ⟨c, o, none⟩))
    | none => none
  | .nilp => some (.pointer none)
  | .nilsl => some (.slice none 0 0)
  | .nilmap => some (.map none)
  | .nilfn => some .nilFunc
  | .atom k => some (ι.atom k)
  | .tup [] => some (.tuple #[])
  | .map b => match ι.blk b with
    | some c => some (.map (some c))
    | none => none
  | .agg [.atom i, .atom j] => some (.agg #[ι.atom i, ι.atom j])
  | .fn f [.ptr b o, .ptr c p] => match ι.blk b, ι.blk c with
    | some x, some y => some (.func (.func f) #[] #[.pointer (some ⟨x, o, none⟩), .pointer (some ⟨y, p, none⟩)])
    | _, _ => none
  | _ => none
theorem litV_out {ι κ : I} (hle : ι.Le κ) {v : V} {x y : Value} (hv : VR κ v x) (h : litV ι v = some y) : x = y := by
  unfold litV at h
  split at h
  all_goals try (cases h; done)
  all_goals simp only [VR] at hv
  · cases h; exact hv
  · cases h; exact hv
  · split at h
    · rename_i c hc
      cases h
      obtain ⟨c', e1, e2⟩ := hv
      rw [hle.blk _ _ hc] at e1
      cases e1
      exact e2
    · cases h
  · cases h; exact hv
  · cases h; exact hv
  · cases h; exact hv
  · cases h; exact hv
  · cases h; rw [hv.1, hle.atom]
  · cases h
    obtain ⟨cs, e1, e2⟩ := hv
    rw [VRs.nil_iff.1 e1] at e2
    exact e2
  · split at h
    · rename_i c hc
      cases h
      obtain ⟨c', e1, e2⟩ := hv
      rw [hle.blk _ _ hc] at e1
      cases e1
      exact e2
    · cases h
  · cases h
    obtain ⟨cs, e1, e2⟩ := hv
    obtain ⟨a, r, g1, g2, rfl⟩ := VRs.cons_iff.1 e1
    obtain ⟨b, r', g3, g4, rfl⟩ := VRs.cons_iff.1 g2
    have := VRs.nil_iff.1 g4
    subst this
    simp only [VR] at g1 g3
    rw [e2, g1.1, g3.1, hle.atom]
  · split at h
    · rename_i x y hx hy
      cases h
      obtain ⟨cs, e1, e2⟩ := hv
      obtain ⟨a, r, g1, g2, rfl⟩ := VRs.cons_iff.1 e1
      obtain ⟨b, r', g3, g4, rfl⟩ := VRs.cons_iff.1 g2
      have := VRs.nil_iff.1 g4
      subst this
      simp only [VR] at g1 g3
      obtain ⟨c1, f1, rfl⟩ := g1
      obtain ⟨c2, f2, rfl⟩ := g3
      rw [hle.blk _ _ hx] at f1
      rw [hle.blk _ _ hy] at f2
      cases f1
      cases f2
      exact e2
    · cases h
def litsV (ι : I) : List V → Option (List Value)
  | [] => some []
  | v :: l => match litV ι v, litsV ι l with
    | some x, some r => some (x :: r)
    | _, _ => none
theorem litsV_at {ι : I} : ∀ {L : List V} {cs : List Value}, litsV ι L = some cs → cs.length = L.length ∧ ∀ (j : Nat) (v : V), L[j]? = some v → ∃ y, cs[j]? = some y ∧ litV ι v = some y
  | [], cs, h => by cases h; exact ⟨rfl, fun j v hj => by simp at hj⟩
  | u :: l, cs, h => by
    unfold litsV at h
    split at h
    · rename_i x r hx hr
      cases h
      obtain ⟨h1, h2⟩ := litsV_at hr
      refine ⟨by simp [h1], fun j v hj => ?_⟩
      cases j with
      | zero => simp at hj; subst hj; exact ⟨x, rfl, hx⟩
      | succ j => simp at hj; simpa using h2 j v hj
    · cases h
theorem frame_lit {ι κ : I} (hle : ι.Le κ) {L1 : List V} {cs : List Value} (hl : litsV ι L1 = some cs) {tm : Array Value} (hs : tm.size = L1.length) (h : ∀ j v, L1[j]? = some v → j < L1.length → ∃ x, tm[j]? = some x ∧ VR κ v x) : tm = cs.toArray := by
  obtain ⟨h1, h2⟩ := litsV_at hl
  apply Array.ext_getElem?
  intro j
  rcases Nat.lt_or_ge j L1.length with hj | hj
  · obtain ⟨x, e1, e2⟩ := h j L1[j] (List.getElem?_eq_getElem hj) hj
    obtain ⟨y, g1, g2⟩ := h2 j L1[j] (List.getElem?_eq_getElem hj)
    rw [e1, litV_out hle e2 g2]
    simpa using g1.symm
  · rw [Array.getElem?_eq_none (by omega), List.getElem?_toArray, List.getElem?_eq_none (by omega)]
theorem Atoms.swap {C : Cf} {P : Program} {K : Ker} {w0 : World} {ι κ : I} (q : Atoms C P K w0 ι) (hG : C.G = 0) (e : κ.atom = ι.atom) : Atoms C P K w0 κ :=
  ⟨fun k => (by rw [e]; exact q.at_ k), fun g hg => (by rw [hG] at hg; cases hg), fun op x y v hv μ h => q.bin op x y v hv μ (h.trans e), fun x v hv μ h => q.len x v hv μ (h.trans e), fun x v hv μ h => q.lenl x v hv μ (h.trans e), fun f args v hv μ w h => q.con f args v hv μ w (h.trans e)⟩
def atR (l : List Value) (k : Nat) : Value := l.getD k (.bool true)
end Go.Proofs.Ytpbppgfogepjeaa.E
namespace Go.Proofs.Ytpbppgfogepjeaa.E
open Go.ChangeShapes Go.WideShapes Go.ChangeAt Go.RowKit Go.Deep

theorem lives_of0 {n g : Nat} (h : says drK Try.prog n g 0 noA noL noI noN noS noX [] [] true = true) : ∀ w : World, Calls Try.prog g #[] w fun e w' => e = .returned (.bool true) ∧ Below w.heap.size w w' := fun _ =>
  says_sound (n := n) (I' := noI) (N := noN) (S := noS) (X := noX) (A := noA) (L := noL) (l := []) (args := []) h
    (Cf.of_ok _ _ _ _ _ _ _ _ [] (by kernel_rfl) (fun _ h => by cases h) (fun _ h => by cases h) (fun _ _ h => by cases h)) rfl rfl ⟨Nat.zero_le _, fun _ h => by cases h⟩ (fun _ => .bool true)
    (atoms_none _ _ _ _ _ _ _ _ fun _ => rfl) (VRs.nil_iff.2 rfl)
end Go.Proofs.Ytpbppgfogepjeaa.E
namespace Go.Proofs.Ytpbppgfogepjeaa.E
open Go.ChangeShapes Go.WideShapes Go.ChangeAt Go.RowKit Go.Deep

theorem lives35 (w : World) : Calls Try.prog 19 #[] w fun e w' => e = .returned (.bool true) ∧ Below w.heap.size w w' := lives_of0 (n := 100000) (by kernel_rfl) w
end Go.Proofs.Ytpbppgfogepjeaa.E
namespace Go.Proofs.Ytpbppgfogepjeaa.lRolloutPlans
open Go.ChangeShapes Go.WideShapes Go.ChangeAt Go.RowKit Go.Joins
open Go.ChangeMaps (open_string shut_string)
set_option linter.unusedVariables false

def sh0 : Sh := .pair (.int .i64) (.pair (.int .i64) (.unit))
theorem shOf0 : shOf Try.prog 12 67 = some sh0 := by kernel_rfl
def sh1 : Sh := .pair (.int .i64) (.pair (.str) (.pair (.int .u64) (.pair (.pair (.int .i64) (.pair (.pair (.int .i64) (.pair (.int .i64) (.unit))) (.pair (.slice (.pair (.str) (.pair (.str) (.unit)))) (.pair (.slice (.pair (.str) (.pair (.str) (.pair (.int .i64) (.unit))))) (.pair (.slice (.pair (.str) (.pair (.str) (.unit)))) (.pair (.int .i64) (.unit))))))) (.pair (.pair (.str) (.pair (.str) (.pair (.int .i64) (.pair (.int .i64) (.pair (.pair (.int .i64) (.pair (.int .i64) (.unit))) (.pair (.slice (.pair (.str) (.pair (.str) (.unit)))) (.pair (.slice (.pair (.str) (.pair (.str) (.pair (.int .i64) (.unit))))) (.pair (.slice (.pair (.str) (.pair (.str) (.unit)))) (.pair (.int .i64) (.unit)))))))))) (.pair (.pair (.str) (.pair (.pair (.int .i64) (.pair (.int .i64) (.unit))) (.pair (.slice (.pair (.str) (.pair (.str) (.unit)))) (.pair (.slice (.pair (.str) (.pair (.str) (.unit)))) (.pair (.int .i64) (.pair (.bool) (.unit))))))) (.pair (.pair (.int .i64) (.pair (.int .i64) (.pair (.int .i64) (.pair (.pair (.int .i64) (.pair (.int .i64) (.unit))) (.pair (.slice (.pair (.str) (.pair (.str) (.unit)))) (.pair (.slice (.pair (.str) (.pair (.str) (.unit)))) (.pair (.int .i64) (.unit)))))))) (.pair (.pair (.str) (.pair (.int .i64) (.pair (.int .i64) (.pair (.slice (.pair (.int .i64) (.pair (.str) (.pair (.int .i64) (.unit))))) (.pair (.int .i64) (.pair (.pair (.int .i64) (.pair (.int .i64) (.pair (.slice (.pair (.bool) (.pair (.int .i64) (.pair (.int .i64) (.unit))))) (.unit)))) (.pair (.pair (.int .i64) (.pair (.int .i64) (.pair (.slice (.pair (.bool) (.pair (.int .i64) (.pair (.int .i64) (.unit))))) (.unit)))) (.pair (.slice (.pair (.int .i64) (.pair (.int .i64) (.pair (.int .i64) (.unit))))) (.unit))))))))) (.unit))))))))
theorem shOf1 : shOf Try.prog 12 44 = some sh1 := by kernel_rfl
def sh2 : Sh := .slice (.pair (.int .i64) (.pair (.str) (.pair (.int .u64) (.pair (.pair (.int .i64) (.pair (.pair (.int .i64) (.pair (.int .i64) (.unit))) (.pair (.slice (.pair (.str) (.pair (.str) (.unit)))) (.pair (.slice (.pair (.str) (.pair (.str) (.pair (.int .i64) (.unit))))) (.pair (.slice (.pair (.str) (.pair (.str) (.unit)))) (.pair (.int .i64) (.unit))))))) (.pair (.pair (.str) (.pair (.str) (.pair (.int .i64) (.pair (.int .i64) (.pair (.pair (.int .i64) (.pair (.int .i64) (.unit))) (.pair (.slice (.pair (.str) (.pair (.str) (.unit)))) (.pair (.slice (.pair (.str) (.pair (.str) (.pair (.int .i64) (.unit))))) (.pair (.slice (.pair (.str) (.pair (.str) (.unit)))) (.pair (.int .i64) (.unit)))))))))) (.pair (.pair (.str) (.pair (.pair (.int .i64) (.pair (.int .i64) (.unit))) (.pair (.slice (.pair (.str) (.pair (.str) (.unit)))) (.pair (.slice (.pair (.str) (.pair (.str) (.unit)))) (.pair (.int .i64) (.pair (.bool) (.unit))))))) (.pair (.pair (.int .i64) (.pair (.int .i64) (.pair (.int .i64) (.pair (.pair (.int .i64) (.pair (.int .i64) (.unit))) (.pair (.slice (.pair (.str) (.pair (.str) (.unit)))) (.pair (.slice (.pair (.str) (.pair (.str) (.unit)))) (.pair (.int .i64) (.unit)))))))) (.pair (.pair (.str) (.pair (.int .i64) (.pair (.int .i64) (.pair (.slice (.pair (.int .i64) (.pair (.str) (.pair (.int .i64) (.unit))))) (.pair (.int .i64) (.pair (.pair (.int .i64) (.pair (.int .i64) (.pair (.slice (.pair (.bool) (.pair (.int .i64) (.pair (.int .i64) (.unit))))) (.unit)))) (.pair (.pair (.int .i64) (.pair (.int .i64) (.pair (.slice (.pair (.bool) (.pair (.int .i64) (.pair (.int .i64) (.unit))))) (.unit)))) (.pair (.slice (.pair (.int .i64) (.pair (.int .i64) (.pair (.int .i64) (.unit))))) (.unit))))))))) (.unit)))))))))
theorem shOf2 : shOf Try.prog 12 54 = some sh2 := by kernel_rfl
theorem own : ownKnob Try.prog.godebug = none := by kernel_rfl
theorem laidOut : laidOutB Try.prog = true := by kernel_rfl
def Walk : Prop := ∀ (c0 : Array Value) (c1 : Array Value) (a2 : Option Addr) (len2 cap2 : Nat) (w : World), Rel sh0 w (.agg c0 : Value).cells.toList → Rel sh1 w (.agg c1 : Value).cells.toList → Rel sh2 w (.slice a2 len2 cap2 : Value).cells.toList →
    Calls Try.prog 5 #[.agg c0, .agg c1, .slice a2 len2 cap2] w fun e w' => e = .returned (.bool true) ∧ Below w.heap.size w w'
set_option maxRecDepth 100000 in
theorem lifted (walk : Walk) (os : Os) (started : os.Started) (H : Type) (enc : TypeId × Value → H) :
    ReturnsInHanded {} Try.checked os 5 .any (Rows.rolloutPlansSpec.pre6 enc Try.prog Try.f5 Rows.rolloutPlansRow.domain false) (Rows.rolloutPlansSpec.post enc Try.prog Try.f5 false true false false) := by
  refine returnsInHanded_of_change (C := Try.checked) own started (by kernel_rfl) Try.func5
    (ChangeSpec.witness6 (enc := enc) (C := Try.checked) false ⟨#[], #[.agg #[.int .i64 0, .int .i64 0], .agg #[.int .i64 0, .string ⟨#[]⟩, .int .u64 0, .int .i64 0, .int .i64 0, .int .i64 0, .slice none 0 0, .slice none 0 0, .slice none 0 0, .int .i64 0, .string ⟨#[]⟩, .string ⟨#[]⟩, .int .i64 0, .int .i64 0, .int .i64 0, .int .i64 0, .slice none 0 0, .slice none 0 0, .slice none 0 0, .int .i64 0, .string ⟨#[]⟩, .int .i64 0, .int .i64 0, .slice none 0 0, .slice none 0 0, .int .i64 0, .bool false, .int .i64 0, .int .i64 0, .int .i64 0, .int .i64 0, .int .i64 0, .slice none 0 0, .slice none 0 0, .int .i64 0, .string ⟨#[]⟩, .int .i64 0, .int .i64 0, .slice none 0 0, .int .i64 0, .int .i64 0, .int .i64 0, .slice none 0 0, .int .i64 0, .int .i64 0, .slice none 0 0, .slice none 0 0], .slice none 0 0], []⟩ 12 (by kernel_rfl) (by kernel_rfl) (by kernel_rfl) (by kernel_rfl)) ?_
  intro W base args ds gs before hval0 hW hcnd _
  have hval : ∀ (j : Nat) t v, Try.f5.params[j]? = some t → args[j]? = some v → Value.okWide Try.prog W .any base t v := hval0
  have hW' := hW
  obtain ⟨p, q, hA0, hV, rfl, hfz, hnd⟩ := hW
  have hA : DataW.TrodAll enc Try.prog W 0 (fun _ => true) true Try.f5.params.toList args.toList ds p := hA0
  rw [Try.params5] at hA hval
  obtain ⟨v0, vs0, d0, ds0, p0, q0, hargs, rfl, rfl, h0, r0⟩ := trodAll_cons hA
  obtain ⟨v1, vs1, d1, ds1, p1, q1, rfl, rfl, rfl, h1, r1⟩ := trodAll_cons r0
  obtain ⟨v2, vs2, d2, ds2, p2, q2, rfl, rfl, rfl, h2, r2⟩ := trodAll_cons r1
  obtain ⟨rfl, rfl, rfl⟩ := trodAll_nil r2
  obtain rfl : args = #[v0, v1, v2] := by cases args; simp_all
  obtain ⟨rfl, rfl⟩ := trodVars_none hV
  obtain ⟨c0, rfl, hc0⟩ := okWide_struct Try.underlying67 (hval 0 67 v0 rfl rfl)
  have k0 := h0
  have lt0 : ∀ x ∈ p0, x.block < W.heap.size := by obtain ⟨m, hm⟩ := k0; exact DataW.trod_lt m _ _ _ hm
  have w0 : Rel sh0 W (.agg c0 : Value).cells.toList := by obtain ⟨fuel, hf⟩ := h0; exact rel_of_trod 12 shOf0 hf
  obtain ⟨c1, rfl, hc1⟩ := okWide_struct Try.underlying44 (hval 1 44 v1 rfl rfl)
  have k1 := h1
  have lt1 : ∀ x ∈ p1, x.block < W.heap.size := by obtain ⟨m, hm⟩ := k1; exact DataW.trod_lt m _ _ _ hm
  have w1 : Rel sh1 W (.agg c1 : Value).cells.toList := by obtain ⟨fuel, hf⟩ := h1; exact rel_of_trod 12 shOf1 hf
  obtain ⟨a2, len2, cap2, rfl⟩ := okWide_slice Try.underlying54 (hval 2 54 v2 rfl rfl)
  have k2 := h2
  have lt2 : ∀ x ∈ p2, x.block < W.heap.size := by obtain ⟨m, hm⟩ := k2; exact DataW.trod_lt m _ _ _ hm
  have w2 : Rel sh2 W (.slice a2 len2 cap2 : Value).cells.toList := by obtain ⟨fuel, hf⟩ := h2; exact rel_of_trod 12 shOf2 hf
  clear hA0 hval0
  refine (walk c0 c1 a2 len2 cap2 W w0 w1 w2).mono fun e W' ⟨he, bel⟩ => ?_
  subst he
  exact ⟨_, rfl, _, _, _, [], _, [], hW', trodAll_mk1 (shut_bool Try.underlying4 _), (trodAll_cons_mk (Below.trod laidOut (by kernel_rfl) (of_decide_eq_true (by kernel_rfl)) k0 bel lt0) (trodAll_cons_mk (Below.trod laidOut (by kernel_rfl) (of_decide_eq_true (by kernel_rfl)) k1 bel lt1) (trodAll_cons_mk (Below.trod laidOut (by kernel_rfl) (of_decide_eq_true (by kernel_rfl)) k2 bel lt2) trodAll_mk0))), rfl, bel.frame _, fun h => by cases h⟩

theorem over (walk : Walk) : Rows.RolloutPlansSaid :=
  OpenClaim.holds_of_wide 5 Try.f5 rfl rfl rfl rfl rfl rfl rfl ⟨rfl, rfl, rfl, rfl, rfl⟩ rfl rfl rfl rfl rfl (by kernel_rfl) Try.func5 (by kernel_rfl)
    (of_decide_eq_true (by kernel_rfl)) (by unfold Func.isWrapper; first | (rw [if_pos (by decide +kernel)]; kernel_rfl) | (rw [if_neg (by decide +kernel)]; exact ⟨rfl, rfl⟩))
    (fun os started H enc _ => lifted walk os started H enc)
end Go.Proofs.Ytpbppgfogepjeaa.lRolloutPlans
namespace Go.Proofs.Ytpbppgfogepjeaa
open Go.ChangeShapes Go.WideShapes Go.ChangeAt Go.RowKit Go.Deep

section
variable {P : Program} {ops : Array Oper} {C : World → Prop}
theorem wpVal_oneG {Q : Act → Prop} {a : Act} {o : Oper} {rest : List Oper} (hg : Region.wanted o (yielded ops a.tmps) = true) (h : ∀ K : Act → Prop, (∀ a, wpVal P ops C Q rest a → K a) → ∃ v, (∀ w, (execOp a.eval o).run P w = .ok (.value v) w) ∧ K (a.put o.dst v)) : wpVal P ops C Q (o :: rest) a := by
  obtain ⟨v, h1, h2⟩ := h _ (fun _ h => h)
  refine ⟨v, ?_, h2⟩
  rw [if_pos hg]
  exact fun w _ => h1 w
theorem wpVal_loadG {T : TypeId} {size : Nat} (A : AggOK P T size) {Q : Act → Prop} {a : Act} {o : Oper} {rest : List Oper} (hg : Region.wanted o (yielded ops a.tmps) = true) (x : Operand) (ho : o.op = .load T x) (p : Addr) (hx : a.eval x = .pointer (some p))
    (cs : List Value) (hs : cs.length = size) (hc : ∀ w, C w → ∀ j u, cs[j]? = some u → w.cell? (p.add j) = some u) (h : ∀ K : Act → Prop, (∀ a, wpVal P ops C Q rest a → K a) → K (a.put o.dst (.agg cs.toArray))) : wpVal P ops C Q (o :: rest) a := by
  refine ⟨.agg cs.toArray, ?_, h _ (fun _ h => h)⟩
  rw [if_pos hg]
  intro w hw
  have hw := hw (by rw [ho]; rfl)
  unfold execOp
  simp only [ho, hx, Instr.loadAt, Instr.sureAddr, Sem.run_bind, Sem.run_pure, Result.andThen_ok, run_loadVar_at A w p cs hs (hc w hw)]
variable {b : Nat} {R : Act → World → Prop}
theorem wpLoud_oneG {j : Nat} {r : List Nat} {A : Act} {w : World} {o : Oper} (ho : ops[j]? = some o) (hg : Region.wanted o (yielded ops A.tmps) = true) (h : loudUpon P (fun v w' => (j < b → C w') ∧ wpLoud P ops C b R r (A.put o.dst v) w') ((execOp A.eval o).run P w)) : wpLoud P ops C b R (j :: r) A w := by
  unfold wpLoud
  simp only [ho]
  rw [if_pos hg]
  exact h
theorem wpLoud_callG {j : Nat} {r : List Nat} {A : Act} {w : World} {l : List Oper} {o : Oper} (ho : nthOp j l = some o) (hg : Region.wanted o (yielded l.toArray A.tmps) = true) (f : Nat) (args : List Operand) (ats : Array TypeId) (hop : o.op = .call { callee := .value (.func f), args := args.toArray, argTypes := ats }) {fn : Func} {c : Code} (hf : P.funcs[f]? = some fn)
    (hn : (fn.name == "runtime.NumGoroutine") = false) (hb : fn.body = some c) (vs : List Value) (hv : args.map A.eval = vs) (h : Calls P f vs.toArray w fun e w' => ∃ v, e = .returned v ∧ (j < b → C w') ∧ wpLoud P l.toArray C b R r (A.put o.dst v) w') : wpLoud P l.toArray C b R (j :: r) A w := by
  refine wpLoud_oneG (nthOp_spec ho) hg ?_
  have h2' : fn.name ≠ "runtime.NumGoroutine" := by simpa using hn
  have h3' : fn.body ≠ none := by rw [hb]; intro e; cases e
  have e2 : (execOp A.eval o).run P w = .ok (.enter f vs.toArray) w := by
    unfold execOp
    have e : (args.toArray.map A.eval) = vs.toArray := by rw [← hv]; simp
    simp only [hop, resolve, e]
    simp [Act.eval, Deferred.ofValue, invoke, callFunc, hf, h2', h3']
  rw [e2]
  exact h
end
end Go.Proofs.Ytpbppgfogepjeaa
