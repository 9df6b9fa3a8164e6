/- An executor of the program's code on values of its own, for the kernel: trees, values, what they stand for. No condition. -/
import Derived.Test.YtoamjihchmokcaaFrame
namespace Go.Proofs.Ytoamjihchmokcaa.E
open Go.ChangeShapes Go.WideShapes Go.ChangeAt Go.RowKit Go.Deep

inductive Tr (α : Type) where
  | tip (v : α)
  | bin (l r : Tr α)
noncomputable def Tr.get {α : Type} (t : Tr α) : Nat → α :=
  Tr.rec (motive := fun _ => Nat → α) (fun v _ => v) (fun _ _ gl gr k => Nat.rec (motive := fun _ => α) (gl (k / 2)) (fun _ _ => gr (k / 2)) (k % 2)) t
noncomputable def Tr.setK {α β : Type} (t : Tr α) : Nat → α → (Tr α → β) → β :=
  Tr.rec (motive := fun _ => Nat → α → (Tr α → β) → β) (fun _ _ x K => K (.tip x))
    (fun l r sl sr k x K => Nat.rec (motive := fun _ => β) (sl (k / 2) x fun l' => K (.bin l' r)) (fun _ _ => sr (k / 2) x fun r' => K (.bin l r')) (k % 2)) t
noncomputable def Tr.set {α : Type} (t : Tr α) (k : Nat) (x : α) : Tr α := t.setK k x id
theorem Tr.get_bin {α : Type} (l r : Tr α) (k : Nat) : (Tr.bin l r).get k = if k % 2 = 0 then l.get (k / 2) else r.get (k / 2) := by
  show Nat.rec (motive := fun _ => α) (l.get (k / 2)) (fun _ _ => r.get (k / 2)) (k % 2) = _
  generalize k % 2 = m
  cases m <;> rfl
theorem Tr.setK_bin {α β : Type} (l r : Tr α) (k : Nat) (x : α) (K : Tr α → β) : (Tr.bin l r).setK k x K = if k % 2 = 0 then l.setK (k / 2) x fun l' => K (.bin l' r) else r.setK (k / 2) x fun r' => K (.bin l r') := by
  show Nat.rec (motive := fun _ => β) (l.setK (k / 2) x fun l' => K (.bin l' r)) (fun _ _ => r.setK (k / 2) x fun r' => K (.bin l r')) (k % 2) = _
  generalize k % 2 = m
  cases m <;> rfl
theorem Tr.setK_eq {α : Type} (t : Tr α) : ∀ {β : Type} (k : Nat) (x : α) (K : Tr α → β), t.setK k x K = K (t.set k x) := by
  induction t with
  | tip v => intro β k x K; rfl
  | bin l r hl hr =>
    intro β k x K
    unfold Tr.set
    rw [setK_bin, setK_bin]
    split
    · rw [hl, hl]; rfl
    · rw [hr, hr]; rfl
theorem Tr.set_bin {α : Type} (l r : Tr α) (k : Nat) (x : α) : (Tr.bin l r).set k x = if k % 2 = 0 then .bin (l.set (k / 2) x) r else .bin l (r.set (k / 2) x) := by
  unfold Tr.set
  rw [setK_bin]
  split
  · rw [setK_eq]; rfl
  · rw [setK_eq]; rfl
inductive Perf {α : Type} : Nat → Tr α → Prop
  | tip (v : α) : Perf 0 (.tip v)
  | bin {n : Nat} {l r : Tr α} : Perf n l → Perf n r → Perf (n + 1) (.bin l r)
theorem Perf.set {α : Type} {d : Nat} {t : Tr α} (h : Perf d t) : ∀ (k : Nat) (x : α), Perf d (t.set k x) := by
  induction h with
  | tip v => intro k x; exact .tip x
  | bin hl hr il ir =>
    intro k x
    rw [Tr.set_bin]
    split
    · exact .bin (il _ _) hr
    · exact .bin hl (ir _ _)
theorem Perf.get_set {α : Type} {d : Nat} {t : Tr α} (h : Perf d t) : ∀ (k : Nat) (x : α) (j : Nat), k < 2 ^ d → j < 2 ^ d → (t.set k x).get j = if j = k then x else t.get j := by
  induction h with
  | tip v =>
    intro k x j hk hj
    have : j = k := by omega
    rw [if_pos this]; rfl
  | @bin n l r hl hr il ir =>
    intro k x j hk hj
    have e : 2 ^ (n + 1) = 2 * 2 ^ n := by rw [Nat.pow_succ]; omega
    rw [Tr.set_bin]
    split
    · rename_i h0
      rw [Tr.get_bin, Tr.get_bin]
      split
      · rename_i h1
        rw [il _ _ _ (by omega) (by omega)]
        by_cases hjk : j = k
        · rw [if_pos hjk, if_pos (by rw [hjk])]
        · rw [if_neg hjk, if_neg (by omega)]
      · rename_i h1
        rw [if_neg (by omega)]
    · rename_i h0
      rw [Tr.get_bin, Tr.get_bin]
      split
      · rename_i h1
        rw [if_neg (by omega)]
      · rename_i h1
        rw [ir _ _ _ (by omega) (by omega)]
        by_cases hjk : j = k
        · rw [if_pos hjk, if_pos (by rw [hjk])]
        · rw [if_neg hjk, if_neg (by omega)]
noncomputable def Tr.full {α : Type} (v : α) (d : Nat) : Tr α := Nat.rec (motive := fun _ => Tr α) (.tip v) (fun _ t => .bin t t) d
theorem Perf.full {α : Type} (v : α) : ∀ d, Perf d (Tr.full v d)
  | 0 => .tip v
  | d + 1 => .bin (Perf.full v d) (Perf.full v d)
theorem Tr.get_full {α : Type} (v : α) : ∀ (d k : Nat), (Tr.full v d).get k = v
  | 0, _ => rfl
  | d + 1, k => by
    show (Tr.bin (Tr.full v d) (Tr.full v d)).get k = v
    rw [Tr.get_bin]
    split <;> exact Tr.get_full v d _

inductive V where
  | undef
  | int (k : IntKind) (n : Int)
  | bool (b : Bool)
  | str (s : List Nat)
  | flt (bits : Nat)
  | ptr (b o : Nat)
  | nilp
  | sl (b o len cap : Nat) (ex : Option Nat)
  | nilsl
  | map (b : Nat)
  | nilmap
  | fn (f : Nat) (caps : List V)
  | nilfn
  | yld (l : Nat)
  | agg (l : List V)
  | tup (l : List V)
  | atom (k : Nat)
  | ifc (t : Nat) (v : V)

structure LI where
  fr : Tr V
  d : Nat
  N : Nat
  ps : List Nat
  assign : Code
  body : Code
  dfr : Nat
structure I where
  blk : Nat → Option Nat
  ext : Nat → Option Nat
  lp : Nat → Option LI
  atom : Nat → Value

def strD (s : List Nat) : ByteArray := ⟨(s.map Nat.toUInt8).toArray⟩
def Bytes (s : List Nat) : Prop := ∀ n ∈ s, n < 256

mutual
def VR (ι : I) : V → Value → Prop
  | .undef, _ => True
  | .int k n, v => v = .int k n
  | .bool b, v => v = .bool b
  | .str s, v => Bytes s ∧ v = .string (strD s)
  | .flt b, v => v = .float .f64 b
  | .ptr b o, v => ∃ c, ι.blk b = some c ∧ v = .pointer (some ⟨c, o, none⟩)
  | .nilp, v => v = .pointer none
  | .sl b o len cap ex, v => ∃ c cp, ι.blk b = some c ∧ v = .slice (some ⟨c, o, none⟩) len cp ∧ len ≤ cap ∧ cap ≤ cp ∧ cp ≤ 9223372036854775807 ∧ (ex = none → cp = cap) ∧ ∀ sz, ex = some sz → ι.ext b = some (o + cp * sz)
  | .nilsl, v => v = .slice none 0 0
  | .map b, v => ∃ c, ι.blk b = some c ∧ v = .map (some c)
  | .nilmap, v => v = .map none
  | .fn f caps, v => ∃ cs : List Value, VRs ι caps cs ∧ v = .func (.func f) #[] cs.toArray
  | .nilfn, v => v = .nilFunc
  | .yld l, v => ∃ c, ι.blk l = some c ∧ v = .func (.yield c) #[] #[]
  | .agg l, v => ∃ cs : List Value, VRs ι l cs ∧ v = .agg cs.toArray
  | .tup l, v => ∃ cs : List Value, VRs ι l cs ∧ v = .tuple cs.toArray
  | .atom k, v => v = ι.atom k ∧ v.oneCell' = true
  | .ifc t u, v => ∃ y, VR ι u y ∧ v = .iface t y
def VRs (ι : I) : List V → List Value → Prop
  | [], cs => cs = []
  | v :: l, cs => ∃ x r, VR ι v x ∧ VRs ι l r ∧ cs = x :: r
end

structure I.Le (ι κ : I) : Prop where
  blk : ∀ b c, ι.blk b = some c → κ.blk b = some c
  ext : ∀ b c, ι.ext b = some c → κ.ext b = some c
  lp : ∀ b c, ι.lp b = some c → κ.lp b = some c
  atom : ι.atom = κ.atom
theorem I.Le.refl (ι : I) : ι.Le ι := ⟨fun _ _ h => h, fun _ _ h => h, fun _ _ h => h, rfl⟩
theorem I.Le.trans {a b c : I} (h : a.Le b) (g : b.Le c) : a.Le c := ⟨fun _ _ q => g.blk _ _ (h.blk _ _ q), fun _ _ q => g.ext _ _ (h.ext _ _ q), fun _ _ q => g.lp _ _ (h.lp _ _ q), h.atom.trans g.atom⟩

mutual
theorem VR.mono {ι κ : I} (h : ι.Le κ) : ∀ {v : V} {x : Value}, VR ι v x → VR κ v x
  | .undef, _, _ => by simp only [VR]
  | .int _ _, _, q => by simp only [VR] at q ⊢; exact q
  | .bool _, _, q => by simp only [VR] at q ⊢; exact q
  | .str _, _, q => by simp only [VR] at q ⊢; exact q
  | .flt _, _, q => by simp only [VR] at q ⊢; exact q
  | .ptr _ _, _, q => by simp only [VR] at q ⊢; obtain ⟨c, e, r⟩ := q; exact ⟨c, h.blk _ _ e, r⟩
  | .nilp, _, q => by simp only [VR] at q ⊢; exact q
  | .sl _ _ _ _ _, _, q => by simp only [VR] at q ⊢; obtain ⟨c, cp, e, r1, r2, r3, r4, r5, r6⟩ := q; exact ⟨c, cp, h.blk _ _ e, r1, r2, r3, r4, r5, fun sz hsz => h.ext _ _ (r6 sz hsz)⟩
  | .nilsl, _, q => by simp only [VR] at q ⊢; exact q
  | .map _, _, q => by simp only [VR] at q ⊢; obtain ⟨c, e, r⟩ := q; exact ⟨c, h.blk _ _ e, r⟩
  | .nilmap, _, q => by simp only [VR] at q ⊢; exact q
  | .fn _ caps, _, q => by simp only [VR] at q ⊢; obtain ⟨cs, e, r⟩ := q; exact ⟨cs, VRs.mono h e, r⟩
  | .nilfn, _, q => by simp only [VR] at q ⊢; exact q
  | .yld _, _, q => by simp only [VR] at q ⊢; obtain ⟨c, e, r⟩ := q; exact ⟨c, h.blk _ _ e, r⟩
  | .agg l, _, q => by simp only [VR] at q ⊢; obtain ⟨cs, e, r⟩ := q; exact ⟨cs, VRs.mono h e, r⟩
  | .tup l, _, q => by simp only [VR] at q ⊢; obtain ⟨cs, e, r⟩ := q; exact ⟨cs, VRs.mono h e, r⟩
  | .atom _, _, q => by simp only [VR] at q ⊢; rw [← h.atom]; exact q
  | .ifc _ _, _, q => by simp only [VR] at q ⊢; obtain ⟨y, e, r⟩ := q; exact ⟨y, VR.mono h e, r⟩
theorem VRs.mono {ι κ : I} (h : ι.Le κ) : ∀ {l : List V} {cs : List Value}, VRs ι l cs → VRs κ l cs
  | [], _, q => by simp only [VRs] at q ⊢; exact q
  | _ :: _, _, q => by simp only [VRs] at q ⊢; obtain ⟨x, r, q1, q2, e⟩ := q; exact ⟨x, r, VR.mono h q1, VRs.mono h q2, e⟩
end

theorem VR.sl_mk {ι : I} {b o len cap c cp : Nat} {ex : Option Nat} (h1 : ι.blk b = some c) (h2 : len ≤ cap) (h3 : cap ≤ cp) (h4 : cp ≤ 9223372036854775807) (h5 : ex = none → cp = cap) (h6 : ∀ sz, ex = some sz → ι.ext b = some (o + cp * sz)) : VR ι (.sl b o len cap ex) (.slice (some ⟨c, o, none⟩) len cp) := by
  unfold VR
  exact ⟨c, cp, h1, rfl, h2, h3, h4, h5, h6⟩
theorem VR.sl_out {ι : I} {b o len cap : Nat} {ex : Option Nat} {x : Value} (h : VR ι (.sl b o len cap ex) x) : ∃ c cp, ι.blk b = some c ∧ x = .slice (some ⟨c, o, none⟩) len cp ∧ len ≤ cap ∧ cap ≤ cp ∧ cp ≤ 9223372036854775807 ∧ (ex = none → cp = cap) ∧ ∀ sz, ex = some sz → ι.ext b = some (o + cp * sz) := by
  unfold VR at h
  exact h
theorem VRs.nil_iff {ι : I} {cs : List Value} : VRs ι [] cs ↔ cs = [] := by simp only [VRs]
theorem VRs.cons_iff {ι : I} {v : V} {l : List V} {cs : List Value} : VRs ι (v :: l) cs ↔ ∃ x r, VR ι v x ∧ VRs ι l r ∧ cs = x :: r := by simp only [VRs]
theorem VRs.length {ι : I} : ∀ {l : List V} {cs : List Value}, VRs ι l cs → cs.length = l.length
  | [], _, q => by rw [VRs.nil_iff.1 q]; rfl
  | _ :: _, _, q => by obtain ⟨x, r, _, q2, rfl⟩ := VRs.cons_iff.1 q; simp [VRs.length q2]
theorem VRs.at_ {ι : I} : ∀ {l : List V} {cs : List Value}, VRs ι l cs → ∀ (i : Nat) (v : V), l[i]? = some v → ∃ x, cs[i]? = some x ∧ VR ι v x
  | [], _, _, i, v, h => by simp at h
  | u :: l, _, q, i, v, h => by
    obtain ⟨x, r, q1, q2, rfl⟩ := VRs.cons_iff.1 q
    cases i with
    | zero => simp at h; subst h; exact ⟨x, rfl, q1⟩
    | succ i => exact VRs.at_ q2 i v h
theorem VRs.append {ι : I} : ∀ {l m : List V} {cs ds : List Value}, VRs ι l cs → VRs ι m ds → VRs ι (l ++ m) (cs ++ ds)
  | [], _, _, _, q, h => by rw [VRs.nil_iff.1 q]; exact h
  | u :: l, m, _, ds, q, h => by
    obtain ⟨x, r, q1, q2, rfl⟩ := VRs.cons_iff.1 q
    exact VRs.cons_iff.2 ⟨x, r ++ ds, q1, VRs.append q2 h, rfl⟩
theorem VRs.take {ι : I} : ∀ (n : Nat) {l : List V} {cs : List Value}, VRs ι l cs → VRs ι (l.take n) (cs.take n)
  | 0, _, _, _ => by simp [VRs]
  | n + 1, [], _, q => by rw [VRs.nil_iff.1 q]; simp [VRs]
  | n + 1, u :: l, _, q => by
    obtain ⟨x, r, q1, q2, rfl⟩ := VRs.cons_iff.1 q
    exact VRs.cons_iff.2 ⟨x, r.take n, q1, VRs.take n q2, rfl⟩
theorem VRs.drop {ι : I} : ∀ (n : Nat) {l : List V} {cs : List Value}, VRs ι l cs → VRs ι (l.drop n) (cs.drop n)
  | 0, _, _, q => q
  | n + 1, [], _, q => by rw [VRs.nil_iff.1 q]; simp [VRs]
  | n + 1, u :: l, _, q => by
    obtain ⟨x, r, q1, q2, rfl⟩ := VRs.cons_iff.1 q
    exact VRs.drop n q2

def bytesOf (s : ByteArray) : List Nat := s.data.toList.map UInt8.toNat
mutual
def ofVal : Value → V
  | .bool b => .bool b
  | .int k n => .int k n
  | .float .f64 b => .flt b
  | .string s => .str (bytesOf s)
  | .pointer none => .nilp
  | .slice none 0 0 => .nilsl
  | .map none => .nilmap
  | .nilFunc => .nilfn
  | .agg ⟨l⟩ => .agg (ofVals l)
  | .tuple ⟨l⟩ => .tup (ofVals l)
  | _ => .undef
def ofVals : List Value → List V
  | [] => []
  | v :: l => ofVal v :: ofVals l
end
theorem bytesOf_lt (s : ByteArray) : Bytes (bytesOf s) := by
  intro n hn
  obtain ⟨u, _, rfl⟩ := List.mem_map.1 hn
  exact u.toNat_lt
theorem strD_bytesOf (s : ByteArray) : strD (bytesOf s) = s := by
  unfold strD bytesOf
  rw [List.map_map]
  have : (Nat.toUInt8 ∘ UInt8.toNat) = id := by funext u; simp
  rw [this, List.map_id]
mutual
theorem ofVal_sound (ι : I) : ∀ v : Value, VR ι (ofVal v) v
  | .bool b => by simp only [ofVal, VR]
  | .int k n => by simp only [ofVal, VR]
  | .float .f64 b => by simp only [ofVal, VR]
  | .float .f32 b => by simp only [ofVal, VR]
  | .complex _ _ _ => by simp only [ofVal, VR]
  | .string s => by simp only [ofVal, VR]; exact ⟨bytesOf_lt s, by rw [strD_bytesOf]⟩
  | .pointer none => by simp only [ofVal, VR]
  | .pointer (some _) => by simp only [ofVal, VR]
  | .slice none 0 0 => by simp only [ofVal, VR]
  | .slice none (_ + 1) _ => by simp only [ofVal, VR]
  | .slice none 0 (_ + 1) => by simp only [ofVal, VR]
  | .slice (some _) _ _ => by simp only [ofVal, VR]
  | .map none => by simp only [ofVal, VR]
  | .map (some _) => by simp only [ofVal, VR]
  | .chan _ => by simp only [ofVal, VR]
  | .func _ _ _ => by simp only [ofVal, VR]
  | .nilFunc => by simp only [ofVal, VR]
  | .iface _ _ => by simp only [ofVal, VR]
  | .nilIface => by simp only [ofVal, VR]
  | .agg ⟨l⟩ => by simp only [ofVal, VR]; exact ⟨l, ofVals_sound ι l, rfl⟩
  | .tuple ⟨l⟩ => by simp only [ofVal, VR]; exact ⟨l, ofVals_sound ι l, rfl⟩
theorem ofVals_sound (ι : I) : ∀ l : List Value, VRs ι (ofVals l) l
  | [] => by simp only [ofVals, VRs]
  | v :: l => by simp only [ofVals, VRs]; exact ⟨v, l, ofVal_sound ι v, ofVals_sound ι l, rfl⟩
end
end Go.Proofs.Ytoamjihchmokcaa.E
