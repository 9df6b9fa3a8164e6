/- The executor amid a walk: a piece of code from a known state to a known one. No condition. -/
import Derived.Test.YtoamjihchmokcaaE39M
namespace Go.Proofs.Ytoamjihchmokcaa.E
open Go.ChangeShapes Go.WideShapes Go.ChangeAt Go.RowKit Go.Deep

def mkI (cs : List Nat) (at_ : Nat → Value) : I := ⟨fun b => cs[b]?, fun _ => none, fun _ => none, at_⟩
def nthD : List O → Nat → O
  | [], _ => .dead
  | o :: _, 0 => o
  | _ :: l, n + 1 => nthD l n
theorem nthD_eq : ∀ (l : List O) (n : Nat), nthD l n = (l[n]?).getD .dead
  | [], n => by simp [nthD]
  | o :: _, 0 => rfl
  | _ :: l, n + 1 => by simp [nthD, nthD_eq l n]
noncomputable def mkH (os : List O) : H := ⟨Tr.tab DH (nthD os), os.length⟩
def mkK (w : World) (cs : List Nat) (os : List O) : Ker := ⟨fun c => c < w.heap.size ∧ ∀ b, cs[b]? = some c → nthD os b = .dead, fun _ => False⟩
section
variable {P : Program} {w : World} {at_ : Nat → Value} {cs : List Nat} {os : List O}
theorem rep_mk (hl : os.length = cs.length) (hfit : cs.length ≤ 4096) (nd : cs.Nodup) (lt : ∀ c ∈ cs, c < w.heap.size)
    (live : ∀ (b : Nat) (o : O) (c : Nat), os[b]? = some o → cs[b]? = some c → o ≠ .dead → ∃ obj, w.heap[c]? = some obj ∧ OR (mkI cs at_) o obj) : Rep (mkK w cs os) w (mkI cs at_) (mkH os) w := by
  have h2 : (2 : Nat) ^ DH = 4096 := rfl
  have hn : (mkH os).n = os.length := rfl
  have hg : ∀ b, b < os.length → (mkH os).t.get b = (os[b]?).getD .dead := fun b hb => by
    show (Tr.tab DH (nthD os)).get b = _
    rw [Tr.get_tab DH _ b (by omega), nthD_eq]
  refine ⟨Perf.tab _ _, by rw [hn]; omega, ⟨rfl, rfl, rfl, Nat.le_refl _, fun c hc => ⟨hc.1, rfl⟩⟩, fun b hb hd => ?_, fun p q c hp hq _ _ ep eq => ?_, fun b c e => ?_, (fun b q e => by cases e), (fun b E e => by cases e), (fun b hb => hb.elim)⟩
  · rw [hn] at hb
    have hb' : b < cs.length := by omega
    rw [hg b hb, List.getElem?_eq_getElem hb] at hd ⊢
    obtain ⟨obj, h1, h3⟩ := live b os[b] cs[b] (List.getElem?_eq_getElem hb) (List.getElem?_eq_getElem hb') hd
    refine ⟨cs[b], obj, List.getElem?_eq_getElem hb', fun hk => hd ?_, h1, h3⟩
    have := hk.2 b (List.getElem?_eq_getElem hb')
    rw [nthD_eq, List.getElem?_eq_getElem hb] at this
    exact this
  · have ep : cs[p]? = some c := ep
    have eq : cs[q]? = some c := eq
    obtain ⟨hp', e1⟩ := List.getElem?_eq_some_iff.1 ep
    obtain ⟨hq', e2⟩ := List.getElem?_eq_some_iff.1 eq
    have hpw := List.pairwise_iff_getElem.1 nd
    rcases Nat.lt_trichotomy p q with h | h | h
    · exact absurd (e1.trans e2.symm) (hpw p q hp' hq' h)
    · exact h
    · exact absurd (e2.trans e1.symm) (hpw q p hq' hp' h)
  · have e : cs[b]? = some c := e
    obtain ⟨hb, e1⟩ := List.getElem?_eq_some_iff.1 e
    exact ⟨by rw [hn]; omega, lt c (e1 ▸ List.getElem_mem hb)⟩
theorem fr_mk {ι : I} {L : List V} {tm : Array Value} (h : VRs ι L tm.toList) (hN : Nat.ble L.length 2048 = true) : FR ι (depthOf L.length) L.length (argsT L 0 (Tr.full .undef (depthOf L.length))) tm := by
  have := FR.start h (N := L.length) (Nat.ble_self_eq_true _) hN
  have hl := h.length
  have e : tm.toList.toArray ++ Array.replicate (L.length - tm.toList.toArray.size) undef = tm := by
    rw [show L.length - tm.toList.toArray.size = 0 by simp at hl ⊢; omega]
    simp
  rw [e] at this
  exact this
def exEq : Ex → Ex → Bool
  | .normal, .normal => true
  | .ret, .ret => true
  | .exit i, .exit j => Nat.beq i j
  | _, _ => false
theorem exEq_eq : ∀ {a b : Ex}, exEq a b = true → a = b := by
  intro a b h
  cases a <;> cases b <;> first | rfl | (cases h; done) | (rw [Nat.eq_of_beq_eq_true h])
noncomputable def frB (fr : Tr V) : List V → Nat → Bool
  | [], _ => true
  | v :: l, k => match beqV (fr.get k) v with
    | true => frB fr l (Nat.succ k)
    | false => false
theorem frB_out {fr : Tr V} : ∀ {l : List V} {k : Nat}, frB fr l k = true → ∀ j v, l[j]? = some v → fr.get (k + j) = v
  | [], _, _, j, v, h => by simp at h
  | u :: l, k, h, j, v, hj => by
    unfold frB at h
    split at h
    · rename_i hb
      cases j with
      | zero => simp at hj; rw [← hj]; exact beqV_eq hb
      | succ j =>
        simp at hj
        have := frB_out h j v hj
        rw [← this]
        congr 1
        omega
    · cases h
noncomputable def hpB (h : H) : List (Nat × O) → Bool
  | [] => true
  | p :: l => match beqO (h.t.get p.1) p.2 with
    | true => hpB h l
    | false => false
theorem hpB_out {h : H} : ∀ {l : List (Nat × O)}, hpB h l = true → ∀ p ∈ l, h.t.get p.1 = p.2
  | p :: l, q, x, hx => by
    unfold hpB at q
    split at q
    · rename_i hb
      rcases List.mem_cons.1 hx with rfl | hx
      · exact beqO_eq hb
      · exact hpB_out q x hx
    · cases q
noncomputable def execB (C : Cf) (n : Nat) (rd : Option Nat) (c : Code) (L0 : List V) (os : List O) (ex : Ex) (L1 : List V) (hp : List (Nat × O)) : Bool :=
  match go drK C n [] rd c L0.length (argsT L0 0 (Tr.full .undef (depthOf L0.length))) [] (mkH os) (fun e fr df h => match df, exEq e ex && (frB fr L1 0 && hpB h hp) with
    | [], true => some (.bool true, mkH [])
    | _, _ => none) with
  | some _ => true
  | none => false
theorem exec_code {C : Cf} (hC : C.Ok P) {n m : Nat} {rd rb : Option Nat} {c : Code} {L0 L1 : List V} {ex : Ex} {hp : List (Nat × O)} (hrun : execB C n rd c L0 os ex L1 hp = true) (hN : Nat.ble L0.length 2048 = true)
    (hrep : Rep (mkK w cs os) w (mkI cs at_) (mkH os) w) (ha : Atoms C P (mkK w cs os) w (mkI cs at_)) (hrd : RdOk (mkI cs at_) rd rb) {tm : Array Value} (hx : VRs (mkI cs at_) L0 tm.toList) {Q : Exit → Act → World → Prop}
    (hQ : ∀ e tm' w' κ h', ExR e ex → (mkI cs at_).Le κ → tm'.size = L0.length → (∀ j v, L1[j]? = some v → j < L0.length → ∃ x, tm'[j]? = some x ∧ VR κ v x) → Rep (mkK w cs os) w κ h' w' → (∀ p ∈ hp, h'.t.get p.1 = p.2) → Q e ⟨tm', []⟩ w') :
    c.wpIn (FW rb) m P Q ⟨tm, []⟩ w := by
  have hS := go_sound hC (drK_sound hC) n
  unfold execB at hrun
  split at hrun
  rotate_left
  · cases hrun
  rename_i r hr
  obtain ⟨v, h1⟩ := r
  have := (hS _ _ _ _ _ _ _ _ _ (RvLe.of_eq hr) (mkK w cs os) w (mkI cs at_) ⟨tm, []⟩ w rb ha (fr_mk hx hN) hrep (EOk.nil _) hrd rfl).1
  have h0 : c.wpIn (FW rb) 0 P Q ⟨tm, []⟩ w := by
    refine wpIn_mono this ?_
    rintro e ⟨tm', ds'⟩ w' ⟨ex', fr', df', h', κ, q1, q2, q3, q4, q5, q6⟩
    dsimp only at q6
    split at q6
    · rename_i hb
      obtain ⟨b1, b2⟩ := and2 hb
      obtain ⟨b2, b3⟩ := and2 b2
      have b1 := exEq_eq b1
      subst b1
      have q5 : ds' = [] := q5
      subst q5
      refine hQ e tm' w' κ h' q1 q2 q3.size (fun j v hj hlt => ?_) q4 (hpB_out b3)
      obtain ⟨x, x1, x2⟩ := q3.at_ j hlt
      have := frB_out b2 j v hj
      rw [Nat.zero_add] at this
      rw [this] at x2
      exact ⟨x, x1, x2⟩
    · exact q6.not_none.elim
  exact fun b k cs' hro hb _ => h0 b k cs' hro hb (room_wide _)
end
def litV (ι : I) : V → Option Value
  | .int k n => some (.int k n)
  | .bool b => some (.bool b)
  | .ptr b o => match ι.blk b with
    | some c => some (.pointer (some ⟨c, o, none⟩))
    | none => none
  | .nilp => some (.pointer none)
  | .nilsl => some (.slice none 0 0)
  | .nilmap => some (.map none)
  | .nilfn => some .nilFunc
  | .atom k => some (ι.atom k)
  | .tup [] => some (.tuple #[])
  | .map b => match ι.blk b with
    | some c => some (.map (some c))
    | none => none
  | .agg [.atom i, .atom j] => some (.agg #[ι.atom i, ι.atom j])
  | .fn f [.ptr b o, .ptr c p] => match ι.blk b, ι.blk c with
    | some x, some y => some (.func (.func f) #[] #[.pointer (some ⟨x, o, none⟩), .pointer (some ⟨y, p, none⟩)])
    | _, _ => none
  | _ => none
theorem litV_out {ι κ : I} (hle : ι.Le κ) {v : V} {x y : Value} (hv : VR κ v x) (h : litV ι v = some y) : x = y := by
  unfold litV at h
  split at h
  all_goals try (cases h; done)
  all_goals simp only [VR] at hv
  · cases h; exact hv
  · cases h; exact hv
  · split at h
    · rename_i c hc
      cases h
      obtain ⟨c', e1, e2⟩ := hv
      rw [hle.blk _ _ hc] at e1
      cases e1
      exact e2
    · cases h
  · cases h; exact hv
  · cases h; exact hv
  · cases h; exact hv
  · cases h; exact hv
  · cases h; rw [hv.1, hle.atom]
  · cases h
    obtain ⟨cs, e1, e2⟩ := hv
    rw [VRs.nil_iff.1 e1] at e2
    exact e2
  · split at h
    · rename_i c hc
      cases h
      obtain ⟨c', e1, e2⟩ := hv
      rw [hle.blk _ _ hc] at e1
      cases e1
      exact e2
    · cases h
  · cases h
    obtain ⟨cs, e1, e2⟩ := hv
    obtain ⟨a, r, g1, g2, rfl⟩ := VRs.cons_iff.1 e1
    obtain ⟨b, r', g3, g4, rfl⟩ := VRs.cons_iff.1 g2
    have := VRs.nil_iff.1 g4
    subst this
    simp only [VR] at g1 g3
    rw [e2, g1.1, g3.1, hle.atom]
  · split at h
    · rename_i x y hx hy
      cases h
      obtain ⟨cs, e1, e2⟩ := hv
      obtain ⟨a, r, g1, g2, rfl⟩ := VRs.cons_iff.1 e1
      obtain ⟨b, r', g3, g4, rfl⟩ := VRs.cons_iff.1 g2
      have := VRs.nil_iff.1 g4
      subst this
      simp only [VR] at g1 g3
      obtain ⟨c1, f1, rfl⟩ := g1
      obtain ⟨c2, f2, rfl⟩ := g3
      rw [hle.blk _ _ hx] at f1
      rw [hle.blk _ _ hy] at f2
      cases f1
      cases f2
      exact e2
    · cases h
def litsV (ι : I) : List V → Option (List Value)
  | [] => some []
  | v :: l => match litV ι v, litsV ι l with
    | some x, some r => some (x :: r)
    | _, _ => none
theorem litsV_at {ι : I} : ∀ {L : List V} {cs : List Value}, litsV ι L = some cs → cs.length = L.length ∧ ∀ (j : Nat) (v : V), L[j]? = some v → ∃ y, cs[j]? = some y ∧ litV ι v = some y
  | [], cs, h => by cases h; exact ⟨rfl, fun j v hj => by simp at hj⟩
  | u :: l, cs, h => by
    unfold litsV at h
    split at h
    · rename_i x r hx hr
      cases h
      obtain ⟨h1, h2⟩ := litsV_at hr
      refine ⟨by simp [h1], fun j v hj => ?_⟩
      cases j with
      | zero => simp at hj; subst hj; exact ⟨x, rfl, hx⟩
      | succ j => simp at hj; simpa using h2 j v hj
    · cases h
theorem frame_lit {ι κ : I} (hle : ι.Le κ) {L1 : List V} {cs : List Value} (hl : litsV ι L1 = some cs) {tm : Array Value} (hs : tm.size = L1.length) (h : ∀ j v, L1[j]? = some v → j < L1.length → ∃ x, tm[j]? = some x ∧ VR κ v x) : tm = cs.toArray := by
  obtain ⟨h1, h2⟩ := litsV_at hl
  apply Array.ext_getElem?
  intro j
  rcases Nat.lt_or_ge j L1.length with hj | hj
  · obtain ⟨x, e1, e2⟩ := h j L1[j] (List.getElem?_eq_getElem hj) hj
    obtain ⟨y, g1, g2⟩ := h2 j L1[j] (List.getElem?_eq_getElem hj)
    rw [e1, litV_out hle e2 g2]
    simpa using g1.symm
  · rw [Array.getElem?_eq_none (by omega), List.getElem?_toArray, List.getElem?_eq_none (by omega)]
theorem litV_in {ι : I} (h1 : ∀ k, (ι.atom k).oneCell' = true) {v : V} {y : Value} (h : litV ι v = some y) : VR ι v y := by
  unfold litV at h
  split at h
  all_goals try (cases h; done)
  all_goals simp only [VR]
  · cases h; rfl
  · cases h; rfl
  · split at h
    · rename_i c hc
      cases h
      exact ⟨c, hc, rfl⟩
    · cases h
  · cases h; rfl
  · cases h; rfl
  · cases h; rfl
  · cases h; rfl
  · cases h; exact ⟨rfl, h1 _⟩
  · cases h
    exact ⟨[], VRs.nil_iff.2 rfl, rfl⟩
  · split at h
    · rename_i c hc
      cases h
      exact ⟨c, hc, rfl⟩
    · cases h
  · cases h
    have at1 : ∀ i, VR ι (.atom i) (ι.atom i) := fun i => by unfold VR; exact ⟨rfl, h1 i⟩
    exact ⟨_, VRs.cons_iff.2 ⟨_, _, at1 _, VRs.cons_iff.2 ⟨_, _, at1 _, VRs.nil_iff.2 rfl, rfl⟩, rfl⟩, rfl⟩
  · split at h
    · rename_i x y hx hy
      cases h
      exact ⟨_, VRs.cons_iff.2 ⟨_, _, by simp only [VR]; exact ⟨_, hx, rfl⟩, VRs.cons_iff.2 ⟨_, _, by simp only [VR]; exact ⟨_, hy, rfl⟩, VRs.nil_iff.2 rfl, rfl⟩, rfl⟩, rfl⟩
    · cases h
theorem litsV_in {ι : I} (h1 : ∀ k, (ι.atom k).oneCell' = true) : ∀ {L : List V} {cs : List Value}, litsV ι L = some cs → VRs ι L cs
  | [], _, h => by cases h; exact VRs.nil_iff.2 rfl
  | u :: l, cs, h => by
    unfold litsV at h
    split at h
    · rename_i x r hx hr
      cases h
      exact VRs.cons_iff.2 ⟨x, r, litV_in h1 hx, litsV_in h1 hr, rfl⟩
    · cases h
theorem litsV_out {ι κ : I} (hle : ι.Le κ) : ∀ {L : List V} {cs ds : List Value}, litsV ι L = some cs → VRs κ L ds → ds = cs
  | [], _, _, h, q => by cases h; exact VRs.nil_iff.1 q
  | u :: l, cs, ds, h, q => by
    unfold litsV at h
    split at h
    · rename_i x r hx hr
      cases h
      obtain ⟨y, t, g1, g2, rfl⟩ := VRs.cons_iff.1 q
      rw [litV_out hle g1 hx, litsV_out hle hr g2]
    · cases h
def litO (ι : I) : O → Option Obj
  | .cells l t false => match litsV ι l with
    | some cs => some (.cells cs.toArray t (0, 0))
    | none => none
  | _ => none
theorem litO_in {ι : I} (h1 : ∀ k, (ι.atom k).oneCell' = true) {o : O} {obj : Obj} (h : litO ι o = some obj) : OR ι o obj := by
  unfold litO at h
  split at h
  · split at h
    · rename_i cs hc
      cases h
      exact ⟨cs, [], litsV_in h1 hc, by simp, fun _ => rfl⟩
    · cases h
  · cases h
theorem litO_out {ι κ : I} (hle : ι.Le κ) {o : O} {x y : Obj} (hx : OR κ o x) (h : litO ι o = some y) : x = y := by
  unfold litO at h
  split at h
  · split at h
    · rename_i cs hc
      cases h
      obtain ⟨ds, more, q1, q2, q3⟩ := hx
      rw [q2, q3 rfl, litsV_out hle hc q1]
      simp
    · cases h
  · cases h
def liveL : List O → Nat → List (Nat × O)
  | [], _ => []
  | .dead :: l, b => liveL l (b + 1)
  | o :: l, b => (b, o) :: liveL l (b + 1)
theorem liveL_mem : ∀ {os : List O} {k b : Nat} {o : O}, os[b]? = some o → o ≠ .dead → (k + b, o) ∈ liveL os k
  | [], _, _, _, h, _ => by simp at h
  | u :: l, k, b, o, h, hd => by
    cases b with
    | zero =>
      simp at h
      subst h
      cases u <;> first | exact absurd rfl hd | exact List.mem_cons_self ..
    | succ b =>
      simp at h
      have := liveL_mem (k := k + 1) h hd
      rw [show k + 1 + b = k + (b + 1) by omega] at this
      cases u <;> first | exact List.mem_cons_of_mem _ this | exact this
theorem exec_read {P : Program} {w : World} {at_ : Nat → Value} {cs : List Nat} {os : List O} {C : Cf} (hC : C.Ok P) {n m : Nat} {rd rb : Option Nat} {c : Code} {L0 L1 : List V} {ex : Ex} {T0 T1 : List Value}
    (hrun : execB C n rd c L0 os ex L1 (liveL os 0) = true) (hN : Nat.ble L0.length 2048 = true) (hlen : Nat.beq L1.length L0.length = true) (h1 : ∀ k, (at_ k).oneCell' = true)
    (hl : os.length = cs.length) (hfit : Nat.ble cs.length 4096 = true) (nd : cs.Nodup) (lt : ∀ c ∈ cs, c < w.heap.size)
    (live : ∀ (b : Nat) (o : O) (c : Nat), os[b]? = some o → cs[b]? = some c → o ≠ .dead → ∃ obj, w.heap[c]? = some obj ∧ litO (mkI cs at_) o = some obj)
    (ha : Atoms C P (mkK w cs os) w (mkI cs at_)) (hrd : RdOk (mkI cs at_) rd rb) (hT0 : litsV (mkI cs at_) L0 = some T0) (hT1 : litsV (mkI cs at_) L1 = some T1) {Q : Exit → Act → World → Prop}
    (hQ : ∀ e w', ExR e ex → Below w.heap.size w w' → Q e ⟨T1.toArray, []⟩ w') : c.wpIn (FW rb) m P Q ⟨T0.toArray, []⟩ w := by
  refine exec_code (os := os) hC hrun hN (rep_mk hl (Nat.le_of_ble_eq_true hfit) nd lt fun b o c' q1 q2 q3 => ?_) ha hrd (by simpa using litsV_in h1 hT0) fun e tm' w' κ h' q1 q2 q3 q4 q5 q6 => ?_
  · obtain ⟨obj, e1, e2⟩ := live b o c' q1 q2 q3
    exact ⟨obj, e1, litO_in h1 e2⟩
  · have hlen := Nat.eq_of_beq_eq_true hlen
    have etm := frame_lit q2 hT1 (by omega) fun j v hj hlt => q4 j v hj (by omega)
    rw [etm]
    refine hQ e _ q1 ⟨q5.base.os, q5.base.tape, q5.base.output, q5.base.size, fun k hk => ?_⟩
    by_cases hex : ∃ b, cs[b]? = some k ∧ nthD os b ≠ .dead
    · obtain ⟨b, hb, hd⟩ := hex
      rw [nthD_eq] at hd
      cases ho : os[b]? with
      | none => rw [ho] at hd; exact absurd rfl hd
      | some o =>
        rw [ho] at hd
        have hd : o ≠ .dead := hd
        obtain ⟨obj, e1, e2⟩ := live b o k ho hb hd
        have hm := q6 _ (liveL_mem (k := 0) ho hd)
        simp only [Nat.zero_add] at hm
        have hblk : κ.blk b = some k := q2.blk b k hb
        obtain ⟨obj', _, f1, f2⟩ := q5.at_ hblk (by rw [hm]; exact hd)
        rw [hm] at f2
        rw [f1, e1, litO_out q2 f2 e2]
    · exact (q5.base.kept k ⟨hk, fun b hb => Classical.byContradiction fun hd => hex ⟨b, hb, hd⟩⟩).2
theorem Atoms.swap {C : Cf} {P : Program} {K : Ker} {w0 : World} {ι κ : I} (q : Atoms C P K w0 ι) (hG : C.G = 0) (e : κ.atom = ι.atom) : Atoms C P K w0 κ :=
  ⟨fun k => (by rw [e]; exact q.at_ k), fun g hg => (by rw [hG] at hg; cases hg), fun op x y v hv μ h => q.bin op x y v hv μ (h.trans e), fun x v hv μ h => q.len x v hv μ (h.trans e), fun x v hv μ h => q.lenl x v hv μ (h.trans e), fun f args v hv μ w h => q.con f args v hv μ w (h.trans e)⟩
theorem atoms_mid {P : Program} {at_ : Nat → Value} {cs : List Nat} {I' : Nat → Bool} {S : Nat → Option V} {X : Nat → Bool} {fs : List Fact} {K : Ker} {w0 : World} (h1 : ∀ k, (at_ k).oneCell' = true) (h2 : ∀ f ∈ fs, FactOk P at_ f) :
    Atoms (Cf.of P 0 (factA fs) (factL [] []) I' noN S X []) P K w0 (mkI cs at_) :=
  (atoms_facts (ls := []) (ms := []) h1 h2 (fun _ h => by cases h) (fun _ h => by cases h) (fun _ _ _ h => by cases h)).swap rfl rfl
theorem ok_mid {P : Program} (A : BinOp → V → V → Option V) (L : Bool → V → Option V) (I' : Nat → Bool) (N : Nat → List V → Option V) (hm : P.follows .mixedOrders = true) : (Cf.of P 0 A L I' N noS noX []).Ok P :=
  Cf.of_ok P 0 A L I' N noS noX [] hm (fun _ h => by cases h) (fun _ h => by cases h) (fun _ _ h => by cases h)
def atR (l : List Value) (k : Nat) : Value := l.getD k (.bool true)
def oneR (l : List Value) : Bool := l.all fun v => v.oneCell'
theorem atR_one {l : List Value} (h : oneR l = true) (k : Nat) : (atR l k).oneCell' = true := by
  unfold atR
  rw [List.getD_eq_getElem?_getD]
  cases e : l[k]? with
  | none => rfl
  | some v => exact List.all_eq_true.1 h v (List.mem_of_getElem? e)
end Go.Proofs.Ytoamjihchmokcaa.E
