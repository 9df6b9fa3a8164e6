/- The executor is sound, on regions that draw their order too. No condition. || The executor on a whole call: from a closed fact of the kernel to the call's contract. Conditions: what is known of atoms, and the package-level variables' tables. || The executor: what is known of atoms that are numbers, or texts. No condition. -/
import Derived.Test.YtoamjihchmokcaaE36
namespace Go.Proofs.Ytoamjihchmokcaa.E
open Go.ChangeShapes Go.WideShapes Go.ChangeAt Go.RowKit Go.Deep

section
variable {K : Ker} {w0 w : World} {ι : I} {h : H}
theorem Rep.add_dead (r : Rep K w0 ι h w) (hn : h.n < 2 ^ DH) : Rep K w0 ι (h.add .dead) w := by
  have hg : ∀ b, b < h.n + 1 → (h.t.set h.n O.dead).get b = if b = h.n then O.dead else h.t.get b := fun b hb => r.perf.get_set _ _ _ hn (by omega)
  refine ⟨r.perf.set _ _, hn, r.base, fun b hb hd => ?_, fun p q c hp hq hpd hqd ep eq => ?_, fun b c e => ⟨Nat.lt_succ_of_lt (r.lt b c e).1, (r.lt b c e).2⟩, fun b q e => Nat.lt_succ_of_lt (r.lps b q e), fun b E e => ⟨Nat.lt_succ_of_lt (r.ext b E e).1, (r.ext b E e).2⟩, fun b hb => ⟨Nat.lt_succ_of_lt (r.resv b hb).1, (r.resv b hb).2⟩⟩
  · have hb : b < h.n + 1 := hb
    have hd : (h.t.set h.n O.dead).get b ≠ .dead := hd
    show ∃ c o, _ ∧ _ ∧ _ ∧ OR ι ((h.t.set h.n O.dead).get b) o
    rw [hg b hb] at hd ⊢
    by_cases e : b = h.n
    · rw [if_pos e] at hd; exact absurd rfl hd
    · rw [if_neg e] at hd ⊢
      exact r.live b (by omega) hd
  · have hp : p < h.n + 1 := hp
    have hq : q < h.n + 1 := hq
    have hpd : (h.t.set h.n O.dead).get p ≠ .dead := hpd
    have hqd : (h.t.set h.n O.dead).get q ≠ .dead := hqd
    rw [hg p hp] at hpd
    rw [hg q hq] at hqd
    by_cases e1 : p = h.n
    · rw [if_pos e1] at hpd; exact absurd rfl hpd
    by_cases e2 : q = h.n
    · rw [if_pos e2] at hqd; exact absurd rfl hqd
    rw [if_neg e1] at hpd
    rw [if_neg e2] at hqd
    exact r.inj p q c (by omega) (by omega) hpd hqd ep eq
theorem Rep.aside : ∀ (k : Nat) {h : H}, Rep K w0 ι h w → h.n + k ≤ 2 ^ DH → Rep K w0 ι (setAside k h) w ∧ (setAside k h).n = h.n + k ∧ (∀ b, h.n ≤ b → b < h.n + k → (setAside k h).t.get b = .dead)
  | 0, h, r, _ => ⟨r, rfl, fun b h1 h2 => by omega⟩
  | k + 1, h, r, hn => by
    have hlt : h.n < 2 ^ DH := by omega
    have hn' : (h.add .dead).n = h.n + 1 := rfl
    obtain ⟨a1, a2, a3⟩ := Rep.aside k (r.add_dead hlt) (by rw [hn']; omega)
    rw [hn'] at a2 a3
    refine ⟨a1, by show (setAside k (h.add .dead)).n = _; omega, fun b h1 h2 => ?_⟩
    show (setAside k (h.add .dead)).t.get b = _
    by_cases e : b = h.n
    · subst e
      -- it is not laid anew
      have key : ∀ (k : Nat) (g : H), Perf DH g.t → h.n < g.n → g.n + k ≤ 2 ^ DH → g.t.get h.n = .dead → (setAside k g).t.get h.n = .dead := by
        intro k
        induction k with
        | zero => exact fun g _ _ _ hd => hd
        | succ k ih =>
          intro g hp hg hk hd
          refine ih (g.add .dead) (hp.set _ _) (Nat.lt_succ_of_lt hg) (by show g.n + 1 + k ≤ _; omega) ?_
          show (g.t.set g.n O.dead).get h.n = _
          rw [hp.get_set _ _ _ (by omega) hlt]
          split
          · rfl
          · exact hd
      refine key k (h.add .dead) (r.perf.set _ _) (Nat.lt_succ_self _) (by show h.n + 1 + k ≤ _; omega) ?_
      show (h.t.set h.n O.dead).get h.n = _
      rw [r.perf.get_set _ _ _ hlt hlt, if_pos rfl]
    · exact a3 b (by omega) (by omega)
end
theorem freshN_take {all : List Oper} : ∀ {i j : Nat} {o : Oper}, i < j → all[i]? = some o → isFresh o.op = true → freshN (all.take i) < freshN (all.take j) := by
  induction all with
  | nil => intro i j o _ h; simp at h
  | cons a l ih =>
    intro i j o hij h hf
    cases j with
    | zero => omega
    | succ j =>
      cases i with
      | zero =>
        simp at h
        subst h
        simp only [List.take_zero, List.take_succ_cons, freshN]
        rw [hf]
        exact Nat.succ_pos _
      | succ i =>
        simp at h
        have := ih (show i < j by omega) h hf
        simp only [List.take_succ_cons, freshN]
        split <;> omega
theorem freshN_all {all : List Oper} {i : Nat} {o : Oper} (h : all[i]? = some o) (hf : isFresh o.op = true) : freshN (all.take i) < freshN all := by
  have hi := (List.getElem?_eq_some_iff.1 h).1
  have := freshN_take (j := all.length) hi h hf
  rw [List.take_length] at this
  exact this
section
variable {C : Cf} {ih : IHT} {env : Env} {N : Nat} {all : List Oper} {n0 : Nat} {T0 : H} {fr0 : Tr V} {l : List It} {rs : List Rc} {frE : Tr V} {TE : H} {LsF : List (Nat × H)} {QsF : List Qt} {SLF : List (Nat × Nat)}
theorem Ch.fresh_id (h : Ch C ih env N all n0 T0 fr0 rs frE TE LsF QsF SLF) {i : Nat} {r : Rc} {b : Nat} {o : O} (hr : rs[i]? = some r) (hk : r.k = .fresh b o) : isFresh r.x.o.op = true ∧ b = n0 + r.x.rk := by
  obtain ⟨_, _, _, _, _, c2, _⟩ := h.at_ i r hr
  cases c2 with
  | fresh b' _ hf _ hk' =>
    rw [hk'] at hk
    injection hk with e1 e2
    exact ⟨hf, e1.symm⟩
  | skip _ _ h => rw [h] at hk; cases hk
  | free _ _ _ _ h => rw [h] at hk; cases hk
  | quiet _ _ _ h _ => rw [h] at hk; cases hk
  | loud _ _ _ _ _ _ _ h _ _ => rw [h] at hk; cases hk
theorem uq_of (its : ItsOk all l) (hm : rs.map (·.x) = l) (h : Ch C ih env N all n0 T0 fr0 rs frE TE LsF QsF SLF) (hn : n0 + freshN all ≤ 2 ^ DH) : Uq n0 rs := by
  have item : ∀ {k : Nat} {r : Rc}, rs[k]? = some r → l[k]? = some r.x := fun h => by rw [← hm, List.getElem?_map, h]; rfl
  have less : ∀ {i j : Nat} {r q : Rc} {b : Nat} {o o' : O}, rs[i]? = some r → rs[j]? = some q → r.k = .fresh b o → q.k = .fresh b o' → ¬ i < j := by
    intro i j r q b o o' h1 h2 h3 h4 hlt
    obtain ⟨f1, e1⟩ := h.fresh_id h1 h3
    obtain ⟨f2, e2⟩ := h.fresh_id h2 h4
    have i1 := its.it i r.x (item h1)
    have i2 := its.it j q.x (item h2)
    have := freshN_take hlt i1.o f1
    rw [← i1.rk, ← i2.rk] at this
    omega
  refine ⟨fun i j r q d h1 h2 h3 h4 => its.one (item h1) (item h2) h3 h4, fun i j r q b o o' h1 h2 h3 h4 => ?_, fun i r b o h1 h2 => ?_⟩
  · have a1 := less h1 h2 h3 h4
    have a2 := less h2 h1 h4 h3
    omega
  · obtain ⟨f1, e1⟩ := h.fresh_id h1 h2
    have i1 := its.it i r.x (item h1)
    have := freshN_all i1.o f1
    rw [← i1.rk] at this
    omega
end
theorem drK_sound {P : Program} {C : Cf} (hC : C.Ok P) : DSound P C drK := by
  intro ih hS env N ops fr h KK r0 hr K w0 ι a w rb id Q ha hf r he hn
  have hr : RvLe (match its ops.toList, Nat.ble (h.n + freshN ops.toList) 4096 with
    | some l, true => forceH (setAside (freshN ops.toList) h) fun T => drun C ih env N ops.toList h.n T KK l fr T [] [] []
    | _, _ => none) r0 := hr
  split at hr
  rotate_left
  · exact hr.not_none.elim
  rename_i l hits hle
  have hle : h.n + freshN ops.toList ≤ 2 ^ DH := Nat.le_of_ble_eq_true hle
  have hI := its_sound hits
  rw [forceH_eq] at hr
  obtain ⟨q1, q2, q3⟩ := Rep.aside (freshN ops.toList) r hle
  obtain ⟨rs, frE, TE, LsF, QsF, SLF, hch, hmap, hr⟩ := drun_ch l [] fr _ [] [] [] .nil (fun j x hx => by
    have := (hI.it j x hx).at_
    simpa using this) hr
  simp only [List.nil_append] at hch
  have hU := uq_of hI hmap hch hle
  have F : Fx C ih env N ops.toList h.n (setAside (freshN ops.toList) h) fr l rs frE TE LsF QsF SLF := ⟨hI, hmap, hch, hU, q1.perf, hf.perf, hf.fit⟩
  have hid : ∀ (j : Nat) (r : Rc) (b : Nat) (o : O), rs[j]? = some r → r.k = .fresh b o → h.n ≤ b ∧ b < h.n + freshN ops.toList := fun j r b o h1 h2 => by
    obtain ⟨f1, e1⟩ := hch.fresh_id h1 h2
    have i1 := hI.it j r.x (F.item h1)
    have := freshN_all i1.o f1
    rw [← i1.rk] at this
    omega
  have no : ∀ j, ¬ (Array.replicate ops.size false).getD j false = true := fun j => by
    rw [Array.getD_eq_getD_getElem?, Array.getElem?_replicate]
    split <;> simp
  refine wpIn_region_any hC.mixed (any_sound hC hS ha he F (fun b hb => (r.resv b hb).1) (fun a' w' κ h1 h2 h3 h4 => hn frE TE κ a' w' h1 h2 h3 h4 hr) ops.size _ a _ ι (by simp) (fun k o _ hk => absurd hk (no k)) ?_ ?_)
  · refine ⟨.refl _, ⟨fr, hf, fun s hs => ⟨fun j q _ hd => absurd hd (no j), fun _ => rfl⟩⟩, rfl, LsF, [], setAside (freshN ops.toList) h, by simp, fun p _ => no p.1, (fun _ h => by cases h), q1.drawn, rfl, (fun _ h => by cases h), fun j q b o h1 h2 _ => ?_, fun j q b o _ _ hd => absurd hd (no j), fun _ _ _ => rfl, fun j q b o h1 h2 _ => ?_, fun j q b o h1 h2 _ => ?_, fun j q b o _ _ hd => absurd hd (no j)⟩
    · exact q3 b (hid j q b o h1 h2).1 (hid j q b o h1 h2).2
    · exact q3 b (hid j q b o h1 h2).1 (hid j q b o h1 h2).2
    · refine ⟨by rw [q2]; exact (hid j q b o h1 h2).2, ?_, ?_⟩
      · cases e : ι.blk b with
        | none => rfl
        | some c =>
          have := (r.lt b c e).1
          have := (hid j q b o h1 h2).1
          omega
      · cases e : ι.ext b with
        | none => rfl
        | some c =>
          have := (r.ext b c e).1
          have := (hid j q b o h1 h2).1
          omega
  · have : (List.range ops.size).countP (fun k => !(Array.replicate ops.size false).getD k false) ≤ (List.range ops.size).length := List.countP_le_length
    simpa using this
end Go.Proofs.Ytoamjihchmokcaa.E
namespace Go.Proofs.Ytoamjihchmokcaa.E
open Go.ChangeShapes Go.WideShapes Go.ChangeAt Go.RowKit Go.Deep

section
variable {P : Program} {w : World}
def I0 (G : Nat) (at_ : Nat → Value) : I := ⟨fun b => if b < G then some b else none, fun _ => none, fun _ => none, at_⟩
end
end Go.Proofs.Ytoamjihchmokcaa.E
namespace Go.Proofs.Ytoamjihchmokcaa.E
open Go.ChangeShapes Go.WideShapes Go.ChangeAt Go.RowKit Go.Deep

def opN : BinOp → Nat
  | .add => 0
  | .sub => 1
  | .mul => 2
  | .quo => 3
  | .rem => 4
  | .and => 5
  | .or => 6
  | .xor => 7
  | .shl => 8
  | .shr => 9
  | .andNot => 10
  | .eql => 11
  | .neq => 12
  | .lss => 13
  | .leq => 14
  | .gtr => 15
  | .geq => 16
theorem opN_inj : ∀ {a b : BinOp}, opN a = opN b → a = b := by
  intro a b h
  cases a <;> cases b <;> first | rfl | cases h
structure Fact where
  op : BinOp
  x : V
  y : V
  v : V
def lookA : List Fact → BinOp → V → V → Option V
  | [], _, _, _ => none
  | f :: l, op, x, y => match Nat.beq (opN f.op) (opN op) && (beqV f.x x && beqV f.y y) with
    | true => some f.v
    | false => lookA l op x y
def factA (fs : List Fact) (op : BinOp) (x y : V) : Option V :=
  match x, y with
  | .atom i, y => lookA fs op (.atom i) y
  | x, .atom j => lookA fs op x (.atom j)
  | _, _ => none
theorem lookA_out : ∀ {fs : List Fact} {op : BinOp} {x y v : V}, lookA fs op x y = some v → ∃ f ∈ fs, f.op = op ∧ f.x = x ∧ f.y = y ∧ f.v = v
  | f :: l, op, x, y, v, h => by
    unfold lookA at h
    split at h
    · rename_i hb
      cases h
      obtain ⟨h1, h2⟩ := and2 hb
      obtain ⟨h2, h3⟩ := and2 h2
      exact ⟨f, List.mem_cons_self .., opN_inj (Nat.eq_of_beq_eq_true h1), beqV_eq h2, beqV_eq h3, rfl⟩
    · obtain ⟨g, g1, g2⟩ := lookA_out h
      exact ⟨g, List.mem_cons_of_mem _ g1, g2⟩
theorem factA_out {fs : List Fact} {op : BinOp} {x y v : V} (h : factA fs op x y = some v) : ∃ f ∈ fs, f.op = op ∧ f.x = x ∧ f.y = y ∧ f.v = v := by
  unfold factA at h
  split at h
  · exact lookA_out h
  · exact lookA_out h
  · cases h
def lookL' : List (Nat × V) → Nat → Option V
  | [], _ => none
  | p :: l, i => match Nat.beq p.1 i with
    | true => some p.2
    | false => lookL' l i
def factL (ls ms : List (Nat × V)) (b : Bool) (x : V) : Option V :=
  match x with
  | .atom i => match b with
    | true => lookL' ls i
    | false => lookL' ms i
  | _ => none
theorem lookL'_out : ∀ {ls : List (Nat × V)} {i : Nat} {v : V}, lookL' ls i = some v → (i, v) ∈ ls
  | p :: l, i, v, h => by
    unfold lookL' at h
    split at h
    · rename_i hb
      cases h
      rw [← Nat.eq_of_beq_eq_true hb]
      exact List.mem_cons_self ..
    · exact List.mem_cons_of_mem _ (lookL'_out h)
def asInt (at_ : Nat → Value) : V → Option (IntKind × Int)
  | .int k n => some (k, n)
  | .atom i => match at_ i with
    | .int k n => some (k, n)
    | _ => none
  | _ => none
section
variable {P : Program} {at_ : Nat → Value}
theorem asInt_in {v : V} {k : IntKind} {n : Int} (h : asInt at_ v = some (k, n)) {κ : I} (hk : κ.atom = at_) {a : Value} (ha : VR κ v a) : a = .int k n := by
  unfold asInt at h
  split at h
  · cases h; simp only [VR] at ha; exact ha
  · split at h
    · rename_i e
      cases h
      simp only [VR] at ha
      rw [ha.1, hk, e]
    · cases h
  · cases h
theorem asInt_out {v : V} {k : IntKind} {n : Int} (h : asInt at_ v = some (k, n)) {κ : I} (hk : κ.atom = at_) : VR κ v (.int k n) := by
  unfold asInt at h
  split at h
  · cases h; simp only [VR]
  · split at h
    · rename_i e
      cases h
      simp only [VR]
      rw [hk, e]
      exact ⟨rfl, rfl⟩
    · cases h
  · cases h
def FactOk (P : Program) (at_ : Nat → Value) (f : Fact) : Prop := ∀ κ : I, κ.atom = at_ → ∀ (t : TypeId) (p q : Operand) (a b : Value) (w : World), VR κ f.x a → VR κ f.y b → ∃ z, ((do eqGuard f.op t p q a b; binOp f.op t a b) : Sem Value).run P w = .ok z w ∧ VR κ f.v z
theorem fact_int {f : Fact} {k : IntKind} {a b : Int} (h1 : asInt at_ f.x = some (k, a)) (h2 : asInt at_ f.y = some (k, b)) {u : V} (h3 : binI f.op k a b = some u) (h4 : u = f.v ∨ ∃ j m, u = .int j m ∧ asInt at_ f.v = some (j, m)) : FactOk P at_ f := by
  intro κ hk t p q x y w hx hy
  rw [asInt_in h1 hk hx, asInt_in h2 hk hy]
  obtain ⟨z, z1, z2⟩ := binI_sound (P := P) (ι := κ) (w := w) h3 t p q
  refine ⟨z, z1, ?_⟩
  rcases h4 with h4 | ⟨j, m, h4, h5⟩
  · rw [← h4]; exact z2
  · rw [h4] at z2
    simp only [VR] at z2
    rw [z2]
    exact asInt_out h5 hk
theorem fact_leq {x y : V} {c : Bool} {k : IntKind} {a b : Int} (h1 : asInt at_ x = some (k, a)) (h2 : asInt at_ y = some (k, b)) (h : decide (a ≤ b) = c) : FactOk P at_ ⟨.leq, x, y, .bool c⟩ :=
  fact_int h1 h2 (u := .bool c) (by simp only [binI, iLt_eq]; rw [← h]; congr 2; rw [Bool.eq_iff_iff]; simp) (.inl rfl)
theorem fact_geq {x y : V} {c : Bool} {k : IntKind} {a b : Int} (h1 : asInt at_ x = some (k, a)) (h2 : asInt at_ y = some (k, b)) (h : decide (b ≤ a) = c) : FactOk P at_ ⟨.geq, x, y, .bool c⟩ :=
  fact_int h1 h2 (u := .bool c) (by simp only [binI, iLt_eq]; rw [← h]; congr 2; rw [Bool.eq_iff_iff]; simp) (.inl rfl)
theorem fact_sub {x y v : V} {k : IntKind} {a b : Int} (h1 : asInt at_ x = some (k, a)) (h2 : asInt at_ y = some (k, b)) (h : asInt at_ v = some (k, k.wrap (a - b))) : FactOk P at_ ⟨.sub, x, y, v⟩ :=
  fact_int h1 h2 (u := .int k (k.wrap (a - b))) (by simp only [binI, wrapF_eq]) (.inr ⟨_, _, rfl, h⟩)
theorem atoms_facts {G : Nat} {I' : Nat → Bool} {N : Nat → List V → Option V} {S : Nat → Option V} {X : Nat → Bool} {Z : List Tab} {fs : List Fact} {ls ms : List (Nat × V)} (h1 : ∀ k, (at_ k).oneCell' = true) (h2 : ∀ f ∈ fs, FactOk P at_ f)
    (h3 : ∀ p ∈ ls, ∃ s : ByteArray, at_ p.1 = .string s ∧ asInt at_ p.2 = some (.i64, (s.size : Int)))
    (h3' : ∀ p ∈ ms, ∃ (a : Option Addr) (n c : Nat), at_ p.1 = .slice a n c ∧ asInt at_ p.2 = some (.i64, (n : Int)))
    {K : Ker} {w0 : World} (h4 : ∀ f args v, N f args = some v → ∀ (κ : I) (w : World), κ.atom = at_ → Base K w0 w → ∀ xs : List Value, VRs κ args xs → Calls P f xs.toArray w fun e w' => ∃ y, e = .returned y ∧ VR κ v y ∧ Below w.heap.size w w') : Atoms (Cf.of P G (factA fs) (factL ls ms) I' N S X Z) P K w0 (I0 G at_) := by
  refine ⟨h1, fun _ hg => if_pos hg, fun op x y v hv κ hk t p q a b w hx hy => ?_, fun x v hv κ hk t ty ti a w ht hd hx => ?_, fun x v hv κ hk t ty ti el a w ht hd hx => ?_, h4⟩
  · obtain ⟨f, hf, rfl, rfl, rfl, rfl⟩ := factA_out hv
    exact h2 f hf κ hk t p q a b w hx hy
  · have hv : factL ls ms true x = some v := hv
    unfold factL at hv
    split at hv
    · obtain ⟨s, e1, e2⟩ := h3 _ (lookL'_out hv)
      simp only [VR] at hx
      have hk' : κ.atom = at_ := hk
      rw [hk', e1] at hx
      obtain ⟨rfl, _⟩ := hx
      exact ⟨goInt s.size, by simp [Builtin.len_, run_underlying (under_str ht hd)], asInt_out e2 hk'⟩
    · cases hv
  · have hv : factL ls ms false x = some v := hv
    unfold factL at hv
    split at hv
    · obtain ⟨s, n, c, e1, e2⟩ := h3' _ (lookL'_out hv)
      simp only [VR] at hx
      have hk' : κ.atom = at_ := hk
      rw [hk', e1] at hx
      obtain ⟨rfl, _⟩ := hx
      exact ⟨goInt n, by simp [Builtin.len_, run_underlying (under_sl ht hd)], asInt_out e2 hk'⟩
    · cases hv
end
end Go.Proofs.Ytoamjihchmokcaa.E
