/- The executor's heaps put together: what two ways have in common. No condition. -/
import Derived.Test.YtamhijbnmhdhbaaE17
namespace Go.Proofs.Ytamhijbnmhdhbaa.E
open Go.ChangeShapes Go.WideShapes Go.ChangeAt Go.RowKit Go.Deep

def bEq (a b : Bool) : Bool := match a with | true => b | false => !b
theorem bEq_eq {a b : Bool} (h : bEq a b = true) : a = b := by cases a <;> cases b <;> first | rfl | cases h
def oEq : Option Nat → Option Nat → Bool
  | none, none => true
  | some a, some b => Nat.beq a b
  | _, _ => false
theorem oEq_eq : ∀ {a b : Option Nat}, oEq a b = true → a = b
  | none, none, _ => rfl
  | some a, some b, h => by rw [Nat.eq_of_beq_eq_true h]
  | none, some _, h => by cases h
  | some _, none, h => by cases h
theorem iEq_true {a b : Int} (h : iEq a b = true) : a = b := by rw [iEq_eq] at h; exact eq_of_beq h
mutual
def beqV : V → V → Bool
  | .undef, .undef => true
  | .int k a, .int j b => kEq k j && iEq a b
  | .bool a, .bool b => bEq a b
  | .str a, .str b => sEq a b
  | .flt a, .flt b => Nat.beq a b
  | .ptr a b, .ptr c d => Nat.beq a c && Nat.beq b d
  | .nilp, .nilp => true
  | .sl a b c d e, .sl a' b' c' d' e' => Nat.beq a a' && (Nat.beq b b' && (Nat.beq c c' && (Nat.beq d d' && oEq e e')))
  | .nilsl, .nilsl => true
  | .map a, .map b => Nat.beq a b
  | .nilmap, .nilmap => true
  | .fn f l, .fn g m => Nat.beq f g && beqVs l m
  | .nilfn, .nilfn => true
  | .yld a, .yld b => Nat.beq a b
  | .agg l, .agg m => beqVs l m
  | .tup l, .tup m => beqVs l m
  | .atom a, .atom b => Nat.beq a b
  | .ifc t u, .ifc s v => Nat.beq t s && beqV u v
  | _, _ => false
def beqVs : List V → List V → Bool
  | [], [] => true
  | a :: l, b :: m => beqV a b && beqVs l m
  | _, _ => false
end
theorem and2 {a b : Bool} (h : (a && b) = true) : a = true ∧ b = true := by simpa using h
mutual
theorem beqV_eq : ∀ {a b : V}, beqV a b = true → a = b
  | .undef, b, h => by cases b <;> simp only [beqV, Bool.false_eq_true] at h; rfl
  | .int k x, b, h => by
    cases b <;> simp only [beqV, Bool.false_eq_true] at h
    obtain ⟨h1, h2⟩ := and2 h
    rw [kEq_eq h1, iEq_true h2]
  | .bool x, b, h => by cases b <;> simp only [beqV, Bool.false_eq_true] at h; rw [bEq_eq h]
  | .str x, b, h => by cases b <;> simp only [beqV, Bool.false_eq_true] at h; rw [sEq_true h]
  | .flt x, b, h => by cases b <;> simp only [beqV, Bool.false_eq_true] at h; rw [Nat.eq_of_beq_eq_true h]
  | .ptr x y, b, h => by
    cases b <;> simp only [beqV, Bool.false_eq_true] at h
    obtain ⟨h1, h2⟩ := and2 h
    rw [Nat.eq_of_beq_eq_true h1, Nat.eq_of_beq_eq_true h2]
  | .nilp, b, h => by cases b <;> simp only [beqV, Bool.false_eq_true] at h; rfl
  | .sl a1 a2 a3 a4 a5, b, h => by
    cases b <;> simp only [beqV, Bool.false_eq_true] at h
    obtain ⟨h1, h⟩ := and2 h
    obtain ⟨h2, h⟩ := and2 h
    obtain ⟨h3, h⟩ := and2 h
    obtain ⟨h4, h5⟩ := and2 h
    rw [Nat.eq_of_beq_eq_true h1, Nat.eq_of_beq_eq_true h2, Nat.eq_of_beq_eq_true h3, Nat.eq_of_beq_eq_true h4, oEq_eq h5]
  | .nilsl, b, h => by cases b <;> simp only [beqV, Bool.false_eq_true] at h; rfl
  | .map x, b, h => by cases b <;> simp only [beqV, Bool.false_eq_true] at h; rw [Nat.eq_of_beq_eq_true h]
  | .nilmap, b, h => by cases b <;> simp only [beqV, Bool.false_eq_true] at h; rfl
  | .fn f l, b, h => by
    cases b <;> simp only [beqV, Bool.false_eq_true] at h
    obtain ⟨h1, h2⟩ := and2 h
    rw [Nat.eq_of_beq_eq_true h1, beqVs_eq h2]
  | .nilfn, b, h => by cases b <;> simp only [beqV, Bool.false_eq_true] at h; rfl
  | .yld x, b, h => by cases b <;> simp only [beqV, Bool.false_eq_true] at h; rw [Nat.eq_of_beq_eq_true h]
  | .agg l, b, h => by cases b <;> simp only [beqV, Bool.false_eq_true] at h; rw [beqVs_eq h]
  | .tup l, b, h => by cases b <;> simp only [beqV, Bool.false_eq_true] at h; rw [beqVs_eq h]
  | .atom x, b, h => by cases b <;> simp only [beqV, Bool.false_eq_true] at h; rw [Nat.eq_of_beq_eq_true h]
  | .ifc t u, b, h => by
    cases b <;> simp only [beqV, Bool.false_eq_true] at h
    obtain ⟨h1, h2⟩ := and2 h
    rw [Nat.eq_of_beq_eq_true h1, beqV_eq h2]
theorem beqVs_eq : ∀ {l m : List V}, beqVs l m = true → l = m
  | [], m, h => by cases m <;> simp only [beqVs, Bool.false_eq_true] at h; rfl
  | a :: l, m, h => by
    cases m <;> simp only [beqVs, Bool.false_eq_true] at h
    obtain ⟨h1, h2⟩ := and2 h
    rw [beqV_eq h1, beqVs_eq h2]
end
def beqEs : List Ent → List Ent → Bool
  | [], [] => true
  | a :: l, b :: m => beqV a.1 b.1 && (beqV a.2.1 b.2.1 && (Nat.beq a.2.2 b.2.2 && beqEs l m))
  | _, _ => false
theorem beqEs_eq : ∀ {l m : List Ent}, beqEs l m = true → l = m
  | [], [], _ => rfl
  | [], _ :: _, h => by cases h
  | _ :: _, [], h => by cases h
  | a :: l, b :: m, h => by
    obtain ⟨h1, h⟩ := and2 h
    obtain ⟨h2, h⟩ := and2 h
    obtain ⟨h3, h4⟩ := and2 h
    rw [beqEs_eq h4]
    congr 1
    exact Prod.ext (beqV_eq h1) (Prod.ext (beqV_eq h2) (Nat.eq_of_beq_eq_true h3))
def stEq : LoopState → LoopState → Bool
  | .ready, .ready => true
  | .busy, .busy => true
  | .done, .done => true
  | .exhausted, .exhausted => true
  | _, _ => false
theorem stEq_eq : ∀ {a b : LoopState}, stEq a b = true → a = b := by
  intro a b h
  cases a <;> cases b <;> first | rfl | cases h
def jEq : Option J → Option J → Bool
  | none, none => true
  | some .ret, some .ret => true
  | some (.exit a), some (.exit b) => Nat.beq a b
  | _, _ => false
theorem jEq_eq : ∀ {a b : Option J}, jEq a b = true → a = b := by
  intro a b h
  cases a with
  | none => cases b with
    | none => rfl
    | some _ => cases h
  | some a => cases a with
    | ret => cases b with
      | none => cases h
      | some b => cases b with
        | ret => rfl
        | exit _ => cases h
    | exit x => cases b with
      | none => cases h
      | some b => cases b with
        | ret => cases h
        | exit y => rw [Nat.eq_of_beq_eq_true (h : Nat.beq x y = true)]
def beqO : O → O → Bool
  | .dead, .dead => true
  | .cells l t g, .cells m u f => Nat.beq t u && (bEq g f && beqVs l m)
  | .map l c, .map m d => Nat.beq c d && beqEs l m
  | .iter a b c d, .iter a' b' c' d' => Nat.beq a a' && (Nat.beq b b' && (Nat.beq d d' && sEq c c'))
  | .iter0, .iter0 => true
  | .loop a b c, .loop a' b' c' => Nat.beq a a' && (stEq b b' && jEq c c')
  | .dfr, .dfr => true
  | _, _ => false
theorem beqO_eq : ∀ {a b : O}, beqO a b = true → a = b := by
  intro a b h
  cases a <;> cases b <;> simp only [beqO, Bool.false_eq_true] at h
  · rfl
  · obtain ⟨h1, h⟩ := and2 h
    obtain ⟨h2, h3⟩ := and2 h
    rw [Nat.eq_of_beq_eq_true h1, bEq_eq h2, beqVs_eq h3]
  · obtain ⟨h1, h2⟩ := and2 h
    rw [Nat.eq_of_beq_eq_true h1, beqEs_eq h2]
  · obtain ⟨h1, h⟩ := and2 h
    obtain ⟨h2, h⟩ := and2 h
    obtain ⟨h3, h4⟩ := and2 h
    rw [Nat.eq_of_beq_eq_true h1, Nat.eq_of_beq_eq_true h2, Nat.eq_of_beq_eq_true h3, sEq_true h4]
  · rfl
  · obtain ⟨h1, h⟩ := and2 h
    obtain ⟨h2, h3⟩ := and2 h
    rw [Nat.eq_of_beq_eq_true h1, stEq_eq h2, jEq_eq h3]
  · rfl

/-- What two trees have in common. -/
def mergeT : Tr O → Tr O → Option (Tr O)
  | .tip a, .tip b => match beqO a b with
    | true => some (.tip a)
    | false => some (.tip .dead)
  | .bin l r, .bin m s => match mergeT l m with
    | none => none
    | some x => match mergeT r s with
      | none => none
      | some y => some (.bin x y)
  | _, _ => none
theorem mergeT_sound : ∀ {a b m : Tr O}, mergeT a b = some m → (∀ d, Perf d a → Perf d m) ∧ (∀ d, Perf d b → Perf d m) ∧ ∀ k, m.get k = .dead ∨ (m.get k = a.get k ∧ a.get k = b.get k)
  | .tip a, .tip b, m, h => by
    unfold mergeT at h
    split at h
    · rename_i he
      cases h
      have := beqO_eq he
      subst this
      exact ⟨fun _ h => h, fun _ h => h, fun k => .inr ⟨rfl, rfl⟩⟩
    · cases h
      exact ⟨fun _ h => by cases h; exact .tip _, fun _ h => by cases h; exact .tip _, fun k => .inl rfl⟩
  | .tip _, .bin _ _, _, h => by cases h
  | .bin _ _, .tip _, _, h => by cases h
  | .bin l r, .bin m s, t, h => by
    unfold mergeT at h
    split at h
    · cases h
    rename_i x hx
    split at h
    · cases h
    rename_i y hy
    cases h
    obtain ⟨p1, p2, g1⟩ := mergeT_sound hx
    obtain ⟨q1, q2, g2⟩ := mergeT_sound hy
    refine ⟨fun d h => ?_, fun d h => ?_, fun k => ?_⟩
    · cases h with
      | bin a b => exact .bin (p1 _ a) (q1 _ b)
    · cases h with
      | bin a b => exact .bin (p2 _ a) (q2 _ b)
    · rw [Tr.get_bin, Tr.get_bin, Tr.get_bin]
      split
      · exact g1 _
      · exact g2 _
/-- h0 knows no more than h. -/
structure Sub (h h0 : H) : Prop where
  perf : Perf DH h.t → Perf DH h0.t
  n : h0.n = h.n
  at_ : ∀ b, h0.t.get b = .dead ∨ h0.t.get b = h.t.get b
theorem Sub.refl (h : H) : Sub h h := ⟨fun h => h, rfl, fun _ => .inr rfl⟩
theorem Sub.trans {a b c : H} (h : Sub a b) (g : Sub b c) : Sub a c := ⟨fun p => g.perf (h.perf p), g.n.trans h.n, fun k => by
  rcases g.at_ k with e | e
  · exact .inl e
  · rcases h.at_ k with f | f
    · exact .inl (e.trans f)
    · exact .inr (e.trans f)⟩
abbrev Rv := Option (V × H)
noncomputable def merge (a b : Rv) : Rv :=
  match a, b with
  | some (v, h), some (u, g) => match beqV v u, Nat.beq h.n g.n with
    | true, true => match mergeT h.t g.t with
      | some t => some (v, ⟨t, h.n⟩)
      | none => none
    | _, _ => none
  | _, _ => none
/-- What a result says more than another one. -/
def RvLe (r r0 : Rv) : Prop := ∃ v h h0, r = some (v, h) ∧ r0 = some (v, h0) ∧ Sub h h0
theorem RvLe.refl {v : V} {h : H} : RvLe (some (v, h)) (some (v, h)) := ⟨v, h, h, rfl, rfl, .refl h⟩
theorem RvLe.trans {a b c : Rv} (h : RvLe a b) (g : RvLe b c) : RvLe a c := by
  obtain ⟨v, x, y, rfl, rfl, s1⟩ := h
  obtain ⟨u, y', z, e, rfl, s2⟩ := g
  cases e
  exact ⟨v, x, z, rfl, rfl, s1.trans s2⟩
theorem merge_le {a b r0 : Rv} (h : RvLe (merge a b) r0) : RvLe a r0 ∧ RvLe b r0 := by
  obtain ⟨v, x, y, e, rfl, s⟩ := h
  unfold merge at e
  split at e
  · rename_i v1 h1 v2 h2
    split at e
    · rename_i hv hn
      split at e
      · rename_i t ht
        cases e
        have hv := beqV_eq hv
        have hn := Nat.eq_of_beq_eq_true hn
        subst hv
        obtain ⟨p1, p2, g⟩ := mergeT_sound ht
        refine ⟨⟨_, h1, y, rfl, rfl, Sub.trans (b := ⟨t, h1.n⟩) ⟨p1 _, rfl, fun k => ?_⟩ s⟩, ⟨_, h2, y, rfl, rfl, Sub.trans (b := ⟨t, h1.n⟩) ⟨p2 _, hn, fun k => ?_⟩ s⟩⟩
        · rcases g k with e | ⟨e, _⟩
          · exact .inl e
          · exact .inr e
        · rcases g k with e | ⟨e, e2⟩
          · exact .inl e
          · exact .inr (e.trans e2)
      · cases e
    · cases e
  · cases e
section
variable {K : Ker} {w0 w : World} {ι : I} {h h0 : H}
theorem Rep.sub (r : Rep K w0 ι h w) (s : Sub h h0) : Rep K w0 ι h0 w := by
  have key : ∀ b, h0.t.get b ≠ .dead → h0.t.get b = h.t.get b := fun b hd => (s.at_ b).resolve_left hd
  refine ⟨s.perf r.perf, by rw [s.n]; exact r.fit, r.base, fun b hb hd => ?_, fun p q c hp hq hpd hqd ep eq => ?_, fun b c e => by rw [s.n]; exact r.lt b c e, fun b q e => by rw [s.n]; exact r.lps b q e, fun b E e => by rw [s.n]; exact r.ext b E e, fun b hb => by rw [s.n]; exact r.resv b hb⟩
  · rw [s.n] at hb
    have e := key b hd
    rw [e] at hd ⊢
    exact r.live b hb hd
  · rw [s.n] at hp hq
    exact r.inj p q c hp hq (key p hpd ▸ hpd) (key q hqd ▸ hqd) ep eq
end
end Go.Proofs.Ytamhijbnmhdhbaa.E
