/- The executor's heaps put together: what two ways have in common. No condition. || The executor on a function's code. No condition. || The executor on a function's code, put together. No condition. -/
import Derived.Test.YtoamjihchmokcaaE17M
namespace Go.Proofs.Ytoamjihchmokcaa.E
open Go.ChangeShapes Go.WideShapes Go.ChangeAt Go.RowKit Go.Deep

def bEq (a b : Bool) : Bool := match a with | true => b | false => !b
theorem bEq_eq {a b : Bool} (h : bEq a b = true) : a = b := by cases a <;> cases b <;> first | rfl | cases h
def oEq : Option Nat → Option Nat → Bool
  | none, none => true
  | some a, some b => Nat.beq a b
  | _, _ => false
theorem oEq_eq : ∀ {a b : Option Nat}, oEq a b = true → a = b
  | none, none, _ => rfl
  | some a, some b, h => by rw [Nat.eq_of_beq_eq_true h]
  | none, some _, h => by cases h
  | some _, none, h => by cases h
theorem iEq_true {a b : Int} (h : iEq a b = true) : a = b := by rw [iEq_eq] at h; exact eq_of_beq h
mutual
def beqV : V → V → Bool
  | .undef, .undef => true
  | .int k a, .int j b => kEq k j && iEq a b
  | .bool a, .bool b => bEq a b
  | .str a, .str b => sEq a b
  | .flt a, .flt b => Nat.beq a b
  | .ptr a b, .ptr c d => Nat.beq a c && Nat.beq b d
  | .nilp, .nilp => true
  | .sl a b c d e, .sl a' b' c' d' e' => Nat.beq a a' && (Nat.beq b b' && (Nat.beq c c' && (Nat.beq d d' && oEq e e')))
  | .nilsl, .nilsl => true
  | .map a, .map b => Nat.beq a b
  | .nilmap, .nilmap => true
  | .fn f l, .fn g m => Nat.beq f g && beqVs l m
  | .nilfn, .nilfn => true
  | .yld a, .yld b => Nat.beq a b
  | .agg l, .agg m => beqVs l m
  | .tup l, .tup m => beqVs l m
  | .atom a, .atom b => Nat.beq a b
  | .ifc t u, .ifc s v => Nat.beq t s && beqV u v
  | _, _ => false
def beqVs : List V → List V → Bool
  | [], [] => true
  | a :: l, b :: m => beqV a b && beqVs l m
  | _, _ => false
end
theorem and2 {a b : Bool} (h : (a && b) = true) : a = true ∧ b = true := by simpa using h
mutual
theorem beqV_eq : ∀ {a b : V}, beqV a b = true → a = b
  | .undef, b, h => by cases b <;> simp only [beqV, Bool.false_eq_true] at h; rfl
  | .int k x, b, h => by
    cases b <;> simp only [beqV, Bool.false_eq_true] at h
    obtain ⟨h1, h2⟩ := and2 h
    rw [kEq_eq h1, iEq_true h2]
  | .bool x, b, h => by cases b <;> simp only [beqV, Bool.false_eq_true] at h; rw [bEq_eq h]
  | .str x, b, h => by cases b <;> simp only [beqV, Bool.false_eq_true] at h; rw [sEq_true h]
  | .flt x, b, h => by cases b <;> simp only [beqV, Bool.false_eq_true] at h; rw [Nat.eq_of_beq_eq_true h]
  | .ptr x y, b, h => by
    cases b <;> simp only [beqV, Bool.false_eq_true] at h
    obtain ⟨h1, h2⟩ := and2 h
    rw [Nat.eq_of_beq_eq_true h1, Nat.eq_of_beq_eq_true h2]
  | .nilp, b, h => by cases b <;> simp only [beqV, Bool.false_eq_true] at h; rfl
  | .sl a1 a2 a3 a4 a5, b, h => by
    cases b <;> simp only [beqV, Bool.false_eq_true] at h
    obtain ⟨h1, h⟩ := and2 h
    obtain ⟨h2, h⟩ := and2 h
    obtain ⟨h3, h⟩ := and2 h
    obtain ⟨h4, h5⟩ := and2 h
    rw [Nat.eq_of_beq_eq_true h1, Nat.eq_of_beq_eq_true h2, Nat.eq_of_beq_eq_true h3, Nat.eq_of_beq_eq_true h4, oEq_eq h5]
  | .nilsl, b, h => by cases b <;> simp only [beqV, Bool.false_eq_true] at h; rfl
  | .map x, b, h => by cases b <;> simp only [beqV, Bool.false_eq_true] at h; rw [Nat.eq_of_beq_eq_true h]
  | .nilmap, b, h => by cases b <;> simp only [beqV, Bool.false_eq_true] at h; rfl
  | .fn f l, b, h => by
    cases b <;> simp only [beqV, Bool.false_eq_true] at h
    obtain ⟨h1, h2⟩ := and2 h
    rw [Nat.eq_of_beq_eq_true h1, beqVs_eq h2]
  | .nilfn, b, h => by cases b <;> simp only [beqV, Bool.false_eq_true] at h; rfl
  | .yld x, b, h => by cases b <;> simp only [beqV, Bool.false_eq_true] at h; rw [Nat.eq_of_beq_eq_true h]
  | .agg l, b, h => by cases b <;> simp only [beqV, Bool.false_eq_true] at h; rw [beqVs_eq h]
  | .tup l, b, h => by cases b <;> simp only [beqV, Bool.false_eq_true] at h; rw [beqVs_eq h]
  | .atom x, b, h => by cases b <;> simp only [beqV, Bool.false_eq_true] at h; rw [Nat.eq_of_beq_eq_true h]
  | .ifc t u, b, h => by
    cases b <;> simp only [beqV, Bool.false_eq_true] at h
    obtain ⟨h1, h2⟩ := and2 h
    rw [Nat.eq_of_beq_eq_true h1, beqV_eq h2]
theorem beqVs_eq : ∀ {l m : List V}, beqVs l m = true → l = m
  | [], m, h => by cases m <;> simp only [beqVs, Bool.false_eq_true] at h; rfl
  | a :: l, m, h => by
    cases m <;> simp only [beqVs, Bool.false_eq_true] at h
    obtain ⟨h1, h2⟩ := and2 h
    rw [beqV_eq h1, beqVs_eq h2]
end
def beqEs : List Ent → List Ent → Bool
  | [], [] => true
  | a :: l, b :: m => beqV a.1 b.1 && (beqV a.2.1 b.2.1 && (Nat.beq a.2.2 b.2.2 && beqEs l m))
  | _, _ => false
theorem beqEs_eq : ∀ {l m : List Ent}, beqEs l m = true → l = m
  | [], [], _ => rfl
  | [], _ :: _, h => by cases h
  | _ :: _, [], h => by cases h
  | a :: l, b :: m, h => by
    obtain ⟨h1, h⟩ := and2 h
    obtain ⟨h2, h⟩ := and2 h
    obtain ⟨h3, h4⟩ := and2 h
    rw [beqEs_eq h4]
    congr 1
    exact Prod.ext (beqV_eq h1) (Prod.ext (beqV_eq h2) (Nat.eq_of_beq_eq_true h3))
def stEq : LoopState → LoopState → Bool
  | .ready, .ready => true
  | .busy, .busy => true
  | .done, .done => true
  | .exhausted, .exhausted => true
  | _, _ => false
theorem stEq_eq : ∀ {a b : LoopState}, stEq a b = true → a = b := by
  intro a b h
  cases a <;> cases b <;> first | rfl | cases h
def jEq : Option J → Option J → Bool
  | none, none => true
  | some .ret, some .ret => true
  | some (.exit a), some (.exit b) => Nat.beq a b
  | _, _ => false
theorem jEq_eq : ∀ {a b : Option J}, jEq a b = true → a = b := by
  intro a b h
  cases a with
  | none => cases b with
    | none => rfl
    | some _ => cases h
  | some a => cases a with
    | ret => cases b with
      | none => cases h
      | some b => cases b with
        | ret => rfl
        | exit _ => cases h
    | exit x => cases b with
      | none => cases h
      | some b => cases b with
        | ret => cases h
        | exit y => rw [Nat.eq_of_beq_eq_true (h : Nat.beq x y = true)]
def beqO : O → O → Bool
  | .dead, .dead => true
  | .cells l t g, .cells m u f => Nat.beq t u && (bEq g f && beqVs l m)
  | .map l c, .map m d => Nat.beq c d && beqEs l m
  | .iter a b c d, .iter a' b' c' d' => Nat.beq a a' && (Nat.beq b b' && (Nat.beq d d' && sEq c c'))
  | .iter0, .iter0 => true
  | .loop a b c, .loop a' b' c' => Nat.beq a a' && (stEq b b' && jEq c c')
  | .dfr, .dfr => true
  | _, _ => false
theorem beqO_eq : ∀ {a b : O}, beqO a b = true → a = b := by
  intro a b h
  cases a <;> cases b <;> simp only [beqO, Bool.false_eq_true] at h
  · rfl
  · obtain ⟨h1, h⟩ := and2 h
    obtain ⟨h2, h3⟩ := and2 h
    rw [Nat.eq_of_beq_eq_true h1, bEq_eq h2, beqVs_eq h3]
  · obtain ⟨h1, h2⟩ := and2 h
    rw [Nat.eq_of_beq_eq_true h1, beqEs_eq h2]
  · obtain ⟨h1, h⟩ := and2 h
    obtain ⟨h2, h⟩ := and2 h
    obtain ⟨h3, h4⟩ := and2 h
    rw [Nat.eq_of_beq_eq_true h1, Nat.eq_of_beq_eq_true h2, Nat.eq_of_beq_eq_true h3, sEq_true h4]
  · rfl
  · obtain ⟨h1, h⟩ := and2 h
    obtain ⟨h2, h3⟩ := and2 h
    rw [Nat.eq_of_beq_eq_true h1, stEq_eq h2, jEq_eq h3]
  · rfl

def mergeT : Tr O → Tr O → Option (Tr O)
  | .tip a, .tip b => match beqO a b with
    | true => some (.tip a)
    | false => some (.tip .dead)
  | .bin l r, .bin m s => match mergeT l m with
    | none => none
    | some x => match mergeT r s with
      | none => none
      | some y => some (.bin x y)
  | _, _ => none
theorem mergeT_sound : ∀ {a b m : Tr O}, mergeT a b = some m → (∀ d, Perf d a → Perf d m) ∧ (∀ d, Perf d b → Perf d m) ∧ ∀ k, m.get k = .dead ∨ (m.get k = a.get k ∧ a.get k = b.get k)
  | .tip a, .tip b, m, h => by
    unfold mergeT at h
    split at h
    · rename_i he
      cases h
      have := beqO_eq he
      subst this
      exact ⟨fun _ h => h, fun _ h => h, fun k => .inr ⟨rfl, rfl⟩⟩
    · cases h
      exact ⟨fun _ h => by cases h; exact .tip _, fun _ h => by cases h; exact .tip _, fun k => .inl rfl⟩
  | .tip _, .bin _ _, _, h => by cases h
  | .bin _ _, .tip _, _, h => by cases h
  | .bin l r, .bin m s, t, h => by
    unfold mergeT at h
    split at h
    · cases h
    rename_i x hx
    split at h
    · cases h
    rename_i y hy
    cases h
    obtain ⟨p1, p2, g1⟩ := mergeT_sound hx
    obtain ⟨q1, q2, g2⟩ := mergeT_sound hy
    refine ⟨fun d h => ?_, fun d h => ?_, fun k => ?_⟩
    · cases h with
      | bin a b => exact .bin (p1 _ a) (q1 _ b)
    · cases h with
      | bin a b => exact .bin (p2 _ a) (q2 _ b)
    · rw [Tr.get_bin, Tr.get_bin, Tr.get_bin]
      split
      · exact g1 _
      · exact g2 _
structure Sub (h h0 : H) : Prop where
  perf : Perf DH h.t → Perf DH h0.t
  n : h0.n = h.n
  at_ : ∀ b, h0.t.get b = .dead ∨ h0.t.get b = h.t.get b
theorem Sub.refl (h : H) : Sub h h := ⟨fun h => h, rfl, fun _ => .inr rfl⟩
theorem Sub.trans {a b c : H} (h : Sub a b) (g : Sub b c) : Sub a c := ⟨fun p => g.perf (h.perf p), g.n.trans h.n, fun k => by
  rcases g.at_ k with e | e
  · exact .inl e
  · rcases h.at_ k with f | f
    · exact .inl (e.trans f)
    · exact .inr (e.trans f)⟩
abbrev Rv := Option (V × H)
noncomputable def merge (a b : Rv) : Rv :=
  match a, b with
  | some (v, h), some (u, g) => match beqV v u, Nat.beq h.n g.n with
    | true, true => match mergeT h.t g.t with
      | some t => some (v, ⟨t, h.n⟩)
      | none => none
    | _, _ => none
  | _, _ => none
def RvLe (r r0 : Rv) : Prop := ∃ v h h0, r = some (v, h) ∧ r0 = some (v, h0) ∧ Sub h h0
theorem RvLe.refl {v : V} {h : H} : RvLe (some (v, h)) (some (v, h)) := ⟨v, h, h, rfl, rfl, .refl h⟩
theorem RvLe.trans {a b c : Rv} (h : RvLe a b) (g : RvLe b c) : RvLe a c := by
  obtain ⟨v, x, y, rfl, rfl, s1⟩ := h
  obtain ⟨u, y', z, e, rfl, s2⟩ := g
  cases e
  exact ⟨v, x, z, rfl, rfl, s1.trans s2⟩
theorem merge_le {a b r0 : Rv} (h : RvLe (merge a b) r0) : RvLe a r0 ∧ RvLe b r0 := by
  obtain ⟨v, x, y, e, rfl, s⟩ := h
  unfold merge at e
  split at e
  · rename_i v1 h1 v2 h2
    split at e
    · rename_i hv hn
      split at e
      · rename_i t ht
        cases e
        have hv := beqV_eq hv
        have hn := Nat.eq_of_beq_eq_true hn
        subst hv
        obtain ⟨p1, p2, g⟩ := mergeT_sound ht
        refine ⟨⟨_, h1, y, rfl, rfl, Sub.trans (b := ⟨t, h1.n⟩) ⟨p1 _, rfl, fun k => ?_⟩ s⟩, ⟨_, h2, y, rfl, rfl, Sub.trans (b := ⟨t, h1.n⟩) ⟨p2 _, hn, fun k => ?_⟩ s⟩⟩
        · rcases g k with e | ⟨e, _⟩
          · exact .inl e
          · exact .inr e
        · rcases g k with e | ⟨e, e2⟩
          · exact .inl e
          · exact .inr (e.trans e2)
      · cases e
    · cases e
  · cases e
section
variable {K : Ker} {w0 w : World} {ι : I} {h h0 : H}
theorem Rep.sub (r : Rep K w0 ι h w) (s : Sub h h0) : Rep K w0 ι h0 w := by
  have key : ∀ b, h0.t.get b ≠ .dead → h0.t.get b = h.t.get b := fun b hd => (s.at_ b).resolve_left hd
  refine ⟨s.perf r.perf, by rw [s.n]; exact r.fit, r.base, fun b hb hd => ?_, fun p q c hp hq hpd hqd ep eq => ?_, fun b c e => by rw [s.n]; exact r.lt b c e, fun b q e => by rw [s.n]; exact r.lps b q e, fun b E e => by rw [s.n]; exact r.ext b E e, fun b hb => by rw [s.n]; exact r.resv b hb⟩
  · rw [s.n] at hb
    have e := key b hd
    rw [e] at hd ⊢
    exact r.live b hb hd
  · rw [s.n] at hp hq
    exact r.inj p q c hp hq (key p hpd ▸ hpd) (key q hqd ▸ hqd) ep eq
end
end Go.Proofs.Ytoamjihchmokcaa.E
namespace Go.Proofs.Ytoamjihchmokcaa.E
open Go.ChangeShapes Go.WideShapes Go.ChangeAt Go.RowKit Go.Deep

inductive Ex where
  | normal
  | exit (id : Nat)
  | ret
abbrev KT := Ex → Tr V → List Nat → H → Rv
abbrev Env := List (Nat × LI)

noncomputable def forceT {α β : Type} (t : Tr α) (K : Tr α → β) : β :=
  Tr.rec (motive := fun _ => β) (fun v => K (.tip v)) (fun l r _ _ => K (.bin l r)) t
theorem forceT_eq {α β : Type} (t : Tr α) (K : Tr α → β) : forceT t K = K t := by cases t <;> rfl
noncomputable def forceN {β : Type} (n : Nat) (K : Nat → β) : β :=
  match n with
  | 0 => K 0
  | m + 1 => K (Nat.succ m)
theorem forceN_eq {β : Type} (n : Nat) (K : Nat → β) : forceN n K = K n := by cases n <;> rfl
noncomputable def forceH {β : Type} (h : H) (K : H → β) : β :=
  match h with
  | ⟨t, n⟩ => forceT t fun t => forceN n fun n => K ⟨t, n⟩
theorem forceH_eq {β : Type} (h : H) (K : H → β) : forceH h K = K h := by cases h; simp only [forceH, forceT_eq, forceN_eq]
noncomputable def forceV {β : Type} (v : V) (K : V → β) : β :=
  match v with
  | .int k n => forceI n fun n => K (.int k n)
  | .bool b => forceB b fun b => K (.bool b)
  | .str s => forceL s fun s => K (.str s)
  | .agg l => forceL l fun l => K (.agg l)
  | .tup l => forceL l fun l => K (.tup l)
  | v => K v
theorem forceV_eq {β : Type} (v : V) (K : V → β) : forceV v K = K v := by
  cases v <;> simp only [forceV, forceI_eq, forceB_eq, forceL_eq]

noncomputable def putK {β : Type} (N : Nat) (d : Option Nat) (v : V) (fr : Tr V) (K : Tr V → β) : β :=
  match d with
  | none => K fr
  | some d => match Nat.blt d N with
    | true => forceT (fr.set d v) K
    | false => K fr
def nthO : List Oper → Nat → Option Oper
  | [], _ => none
  | a :: _, 0 => some a
  | _ :: l, n + 1 => nthO l n
noncomputable def wantsV (N : Nat) (ops : List Oper) (fr : Tr V) (g : Option (Nat × Bool)) : Option Bool :=
  match g with
  | none => some true
  | some (j, b) => match nthO ops j with
    | some o => match o.dst with
      | some d => match Nat.blt d N with
        | true => match fr.get d with
          | .bool c => some (bEq c b)
          | .tup [] => some false
          | _ => none
        | false => none
      | none => none
    | none => none
def depthOf (N : Nat) : Nat :=
  match Nat.ble N 32, Nat.ble N 128, Nat.ble N 512 with
  | true, _, _ => 5
  | false, true, _ => 7
  | false, false, true => 9
  | _, _, _ => 11
noncomputable def argsT : List V → Nat → Tr V → Tr V
  | [], _, t => t
  | v :: l, k, t => argsT l (Nat.succ k) (t.set k v)
noncomputable def resV (C : Cf) (N : Nat) (fr : Tr V) (h : H) : List ResultVar → Option (List V)
  | [] => some []
  | .tmp t :: r => match Nat.blt t N, resV C N fr h r with
    | true, some l => some (fr.get t :: l)
    | _, _ => none
  | .cell a t :: r => match Nat.blt a N, resV C N fr h r with
    | true, some l => match fr.get a with
      | .ptr b o => match h.t.get b, C.T.at_ t with
        | .cells m _ _, some ti => match loadV ti m o with
          | some v => some (v :: l)
          | none => none
        | _, _ => none
      | _ => none
    | _, _ => none
def oneOf : List V → V
  | [v] => v
  | l => .tup l
noncomputable def dropM : List Nat → H → Option H
  | [], h => some h
  | b :: l, h => match h.t.get b with
    | .dfr => dropM l (h.put b .dead)
    | _ => none
def IHT := Env → Option Nat → Code → Nat → Tr V → List Nat → H → KT → Rv
def allB {α : Type} (f : α → Bool) : List α → Bool
  | [] => true
  | a :: l => match f a with
    | true => allB f l
    | false => false
noncomputable def keptB (h : H) (l : List Tab) : Bool := allB (fun x => beqO (h.t.get x.g) x.o) l
noncomputable def leaveK (C : Cf) (fn : Func) (K : V → H → Rv) : KT := fun e fr df h => match e with
  | .exit _ => none
  | _ => match dropM df h with
    | none => none
    | some h => match resV C fn.ntmps fr h fn.results.toList with
      | none => none
      | some l => K (oneOf l) h
noncomputable def callK (C : Cf) (ih : IHT) (env : Env) (f : Nat) (args : List V) (h : H) (K : V → H → Rv) : Rv :=
  match C.F.at_ f with
  | none => none
  | some fn => match C.con f args with
  | some v => K v h
  | none => match fn.body, Nat.ble args.length fn.ntmps, Nat.ble fn.ntmps 2048 with
    | some c, true, true => (match C.sums f with
      | some v => (match args, keptB h C.Z with
        | [], true => K v h
        | _, _ => none)
      | none => match C.inl f with
      | true => ih env none c fn.ntmps (argsT args 0 (Tr.full .undef (depthOf fn.ntmps))) [] h (leaveK C fn fun v h => forceV v fun v => forceH h fun h => K v h)
      | false => (match ih env none c fn.ntmps (argsT args 0 (Tr.full .undef (depthOf fn.ntmps))) [] h (leaveK C fn fun v h => some (v, h)) with
        | some (v, h) => forceV v fun v => forceH h fun h => K v h
        | none => none))
    | _, _, _ => none
def lookL : Env → Nat → Option LI
  | [], _ => none
  | e :: r, l => match Nat.beq e.1 l with
    | true => some e.2
    | false => lookL r l
noncomputable def setPs : List Nat → List V → Nat → Tr V → Option (Tr V)
  | [], [], _, t => some t
  | p :: ps, v :: l, N, t => match Nat.blt p N with
    | true => setPs ps l N (t.set p v)
    | false => none
  | _, _, _, _ => none
end Go.Proofs.Ytoamjihchmokcaa.E
namespace Go.Proofs.Ytoamjihchmokcaa.E
open Go.ChangeShapes Go.WideShapes Go.ChangeAt Go.RowKit Go.Deep

noncomputable def putL (h : H) (l : Nat) (st : LoopState) (p : Option J) : Option H :=
  match h.t.get l with
  | .loop l' _ _ => match Nat.beq l' l with
    | true => some (h.put l (.loop l st p))
    | false => none
  | _ => none
noncomputable def readyL (h : H) (l : Nat) : Bool :=
  match h.t.get l with
  | .loop l' .ready none => Nat.beq l' l
  | _ => false
noncomputable def endRoundV (h : H) (l : Nat) (e : Ex) : Rv :=
  match e with
  | .normal => match putL h l .ready none with
    | some h => some (.bool true, h)
    | none => none
  | .ret => match putL h l .done (some .ret) with
    | some h => some (.bool false, h)
    | none => none
  | .exit j => match putL h l .done (some (.exit j)) with
    | some h => some (.bool false, h)
    | none => none
noncomputable def roundK (ih : IHT) (env : Env) (l : Nat) (args : List V) (h : H) (K : V → H → Rv) : Rv :=
  match lookL env l, readyL h l with
  | some q, true => match setPs q.ps args q.N q.fr with
    | some fr => match ih env (some l) q.assign q.N fr [] h (fun e fr df h => match e, readyL h l with
        | .normal, true => match putL h l .busy none with
          | some h => forceH h fun h => ih env (some l) q.body q.N fr df h (fun e _ _ h => endRoundV h l e)
          | none => none
        | _, _ => none) with
      | some (v, h) => forceV v fun v => forceH h fun h => K v h
      | none => none
    | none => none
  | _, _ => none
noncomputable def manyK (K : V → H → Rv) (l : List (V × H)) : Rv :=
  List.rec (motive := fun _ => Rv) none (fun p r b => match r with
    | [] => K p.1 p.2
    | _ :: _ => merge (K p.1 p.2) b) l
noncomputable def stepK (C : Cf) (ih : IHT) (env : Env) (N : Nat) (d : Option Nat) (r : R) (fr : Tr V) (h : H) (K : Tr V → H → Rv) : Rv :=
  match r with
  | .val v => forceV v fun v => putK N d v fr fun fr => K fr h
  | .mem v h' => forceV v fun v => forceH h' fun h => putK N d v fr fun fr => K fr h
  | .done h' => forceH h' fun h => putK N d (.tup []) fr fun fr => K fr h
  | .call f args => callK C ih env f args h fun v h => putK N d v fr fun fr => K fr h
  | .round l args => roundK ih env l args h fun v h => putK N d v fr fun fr => K fr h
  | .many l => manyK (fun v h => forceV v fun v => forceH h fun h => putK N d v fr fun fr => K fr h) l
noncomputable def opsK (C : Cf) (ih : IHT) (env : Env) (N : Nat) (all : List Oper) (l : List Oper) : Tr V → H → (Tr V → H → Rv) → Rv :=
  List.rec (motive := fun _ => Tr V → H → (Tr V → H → Rv) → Rv) (fun fr h K => K fr h) (fun o _ r fr h K => match wantsV N all fr o.guard with
    | none => none
    | some false => putK N o.dst (.tup []) fr fun fr => r fr h K
    | some true => match opR C (ev C.G N fr) h o.op with
      | none => none
      | some x => stepK C ih env N o.dst x fr h fun fr h => r fr h K) l
def exOf : Option J → Ex
  | none => .normal
  | some .ret => .ret
  | some (.exit j) => .exit j
noncomputable def endLK (h : H) (l : Nat) (K : Ex → H → Rv) : Rv :=
  match h.t.get l with
  | .loop _ .busy _ => none
  | .loop _ _ p => K (exOf p) (h.put l .dead)
  | _ => none
noncomputable def rangeK (C : Cf) (ih : IHT) (env : Env) (rd : Option Nat) (g : Operand) (ps : List Nat) (assign body : Code) (N : Nat) (fr : Tr V) (df : List Nat) (h : H) (K : KT) : Rv :=
  match ev C.G N fr g, Nat.blt (Nat.succ h.n) 4096 with
  | .fn f caps, true => match rd with
    | none => forceN h.n fun n => forceH ((h.add .dfr).add (.loop (Nat.succ h.n) .ready none)) fun h' =>
      callK C ih ((Nat.succ n, ⟨fr, depthOf N, N, ps, assign, body, n⟩) :: env) f (.yld (Nat.succ n) :: caps) h' fun _ h => endLK h (Nat.succ n) fun e h => K e fr (n :: df) h
    | some l0 => match lookL env l0, h.t.get l0 with
      | some q, .loop l1 _ _ => match Nat.beq l1 l0 with
        | true => forceN h.n fun n => forceH (h.add (.loop h.n .ready none)) fun h' =>
          callK C ih ((n, ⟨fr, depthOf N, N, ps, assign, body, q.dfr⟩) :: env) f (.yld n :: caps) h' fun _ h => endLK h n fun e h => K e fr df h
        | false => none
      | _, _ => none
  | _, _ => none
def DrT := Cf → IHT → Env → Nat → List Oper → Tr V → H → (Tr V → H → Rv) → Rv
noncomputable def goB (D : DrT) (C : Cf) (ih : IHT) : IHT := fun env rd c N fr df h K =>
  match c with
  | .skip => K .normal fr df h
  | .label _ => K .normal fr df h
  | .seq a b => ih env rd a N fr df h fun e fr df h => match e with
    | .normal => ih env rd b N fr df h K
    | .exit j => K (.exit j) fr df h
    | .ret => K .ret fr df h
  | .cond c a b => match ev C.G N fr c with
    | .bool true => ih env rd a N fr df h K
    | .bool false => ih env rd b N fr df h K
    | _ => none
  | .block id b => ih env rd b N fr df h fun e fr df h => match e with
    | .normal => K .normal fr df h
    | .exit j => match Nat.beq j id with
      | true => K .normal fr df h
      | false => K (.exit j) fr df h
    | .ret => K .ret fr df h
  | .loop b => ih env rd b N fr df h fun e fr df h => match e with
    | .normal => ih env rd (.loop b) N fr df h K
    | .exit j => K (.exit j) fr df h
    | .ret => K .ret fr df h
  | .exit j => K (.exit j) fr df h
  | .ret => K .ret fr df h
  | .scope b => ih env rd b N fr df h K
  | .region _ ops false => opsK C ih env N ops.toList ops.toList fr h fun fr h => K .normal fr df h
  | .region _ ops true => D C ih env N ops.toList fr h fun fr h => K .normal fr df h
  | .rangeFunc g ps assign body => rangeK C ih env rd g ps.toList assign body N fr df h K
  | _ => none
noncomputable def go (D : DrT) (C : Cf) (n : Nat) : IHT :=
  Nat.rec (motive := fun _ => IHT) (fun _ _ _ _ _ _ _ _ => none) (fun _ ih => goB D C ih) n
end Go.Proofs.Ytoamjihchmokcaa.E
