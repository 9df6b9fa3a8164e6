/- The executor's operations, all of them, and that they are the program's. No condition. -/
import Derived.Test.YtoamjihchmokcaaE14M
namespace Go.Proofs.Ytoamjihchmokcaa.E
open Go.ChangeShapes Go.WideShapes Go.ChangeAt Go.RowKit Go.Deep Go.MapKept

structure Tab where
  g : Nat
  t : TypeId
  k : IntKind
  zs : List Int
def Tab.o (x : Tab) : O := .cells (x.zs.map fun z => .int x.k z) x.t false
def Tab.obj (x : Tab) : Obj := .cells (x.zs.map fun z => Value.int x.k z).toArray x.t (0, 0)
structure Laid (w : World) (G : Nat) (l : List Tab) : Prop where
  size : G ≤ w.heap.size
  at_ : ∀ x ∈ l, x.g < G ∧ w.heap[x.g]? = some x.obj
structure Cf where
  T : Tb TI
  F : Tb Func
  G : Nat
  A : BinOp → V → V → Option V
  L : Bool → V → Option V
  inl : Nat → Bool
  con : Nat → List V → Option V
  sums : Nat → Option V
  X : Nat → Bool
  Z : List Tab
structure Cf.Ok (C : Cf) (P : Program) : Prop where
  T : TOk P C.T
  F : ∀ f fn, C.F.at_ f = some fn → P.funcs[f]? = some fn ∧ (fn.name == "runtime.NumGoroutine") = false ∧ fn.body.isSome = true
  mixed : P.follows .mixedOrders = true
  tabs : ∀ x ∈ C.Z, x.g < C.G
  ext : ∀ f, C.X f = true → ∃ fn, P.funcs[f]? = some fn ∧ (fn.name == "runtime.NumGoroutine") = false ∧ fn.body.isNone = true ∧ Extern.findNext fn = none ∧ Extern.find fn = some Extern.MapsClone.clone
  sum : ∀ f v, C.sums f = some v → ∀ w : World, Laid w C.G C.Z → Calls P f #[] w fun e w' => ∃ y, e = .returned y ∧ (∀ ι : I, VR ι v y) ∧ Below w.heap.size w w'
structure Atoms (C : Cf) (P : Program) (K : Ker) (w0 : World) (ι : I) : Prop where
  at_ : ∀ k, (ι.atom k).oneCell' = true
  glob : ∀ g, g < C.G → ι.blk g = some g
  bin : ∀ op x y v, C.A op x y = some v → ∀ κ : I, κ.atom = ι.atom → ∀ (t : TypeId) (p q : Operand) (a b : Value) (w : World), VR κ x a → VR κ y b → ∃ z, ((do eqGuard op t p q a b; binOp op t a b) : Sem Value).run P w = .ok z w ∧ VR κ v z
  len : ∀ x v, C.L true x = some v → ∀ κ : I, κ.atom = ι.atom → ∀ (t ty : TypeId) (ti : TI) (a : Value) (w : World), tiOf P t = some ti → ti.d = .str → VR κ x a → ∃ z, (Builtin.len_ #[t] ty #[a]).run P w = .ok z w ∧ VR κ v z
  lenl : ∀ x v, C.L false x = some v → ∀ κ : I, κ.atom = ι.atom → ∀ (t ty : TypeId) (ti : TI) (el : Nat) (a : Value) (w : World), tiOf P t = some ti → ti.d = .sl el → VR κ x a → ∃ z, (Builtin.len_ #[t] ty #[a]).run P w = .ok z w ∧ VR κ v z
  con : ∀ f args v, C.con f args = some v → ∀ (κ : I) (w : World), κ.atom = ι.atom → Base K w0 w → ∀ xs : List Value, VRs κ args xs → Calls P f xs.toArray w fun e w' => ∃ y, e = .returned y ∧ VR κ v y ∧ Below w.heap.size w w'
section
variable {C : Cf} {P : Program} {K : Ker} {w0 : World} {ι κ : I}
theorem Atoms.mono (h : ι.Le κ) (q : Atoms C P K w0 ι) : Atoms C P K w0 κ := ⟨fun k => by rw [← h.atom]; exact q.at_ k, fun g hg => h.blk _ _ (q.glob g hg), fun op x y v hv μ e => q.bin op x y v hv μ (e.trans h.atom.symm), fun x v hv μ e => q.len x v hv μ (e.trans h.atom.symm), fun x v hv μ e => q.lenl x v hv μ (e.trans h.atom.symm), fun f args v hv μ w e => q.con f args v hv μ w (e.trans h.atom.symm)⟩
theorem Atoms.later {K' : Ker} {w1 : World} (q : Atoms C P K w0 ι) (hb : Base K w0 w1) (hk : ∀ c, K c → K' c) : Atoms C P K' w1 ι :=
  ⟨q.at_, q.glob, q.bin, q.len, q.lenl, fun f args v hv μ w e b => q.con f args v hv μ w e ⟨b.os.trans hb.os, b.tape.trans hb.tape, b.output.trans hb.output, Nat.le_trans hb.size b.size, fun c hc => ⟨(hb.kept c hc).1, ((b.kept c (hk c hc)).2).trans (hb.kept c hc).2⟩⟩⟩
end

noncomputable def ev (G N : Nat) (fr : Tr V) : Operand → V
  | .tmp t => match Nat.blt t N with
    | true => fr.get t
    | false => .undef
  | .const v => ofVal v
  | .func f => .fn f []
  | .global g => match Nat.blt g G with
    | true => .ptr g 0
    | false => .undef
def mapV (e : Operand → V) : List Operand → List V
  | [] => []
  | x :: l => e x :: mapV e l
def mapP (e : Operand → V) : List (Nat × Operand) → List (Nat × V)
  | [] => []
  | x :: l => (x.1, e x.2) :: mapP e l
def mapO (e : Operand → V) : Option Operand → Option V
  | none => none
  | some x => some (e x)
def valO (v : Option V) : Option R :=
  match v with
  | some v => some (.val v)
  | none => none
def doneO (h : Option H) : Option R :=
  match h with
  | some h => some (.done h)
  | none => none
noncomputable def aggR (T : Tb TI) (op : BinOp) (t : Nat) (x y : V) : Option V :=
  match T.at_ t with
  | some ti => match ti.eq with
    | true => match eqV T 6 t x y with
      | some b => relB op b
      | none => none
    | false => none
  | none => none
noncomputable def callR (C : Cf) (e : Operand → V) (h : H) (c : Call) : Option R :=
  match c.callee with
  | .value f => match e f with
    | .fn g caps => (match C.X g with
      | true => (match caps, mapV e c.args.toList with
        | [], [.ifc t (.map b)] => (match h.t.get b, room h with
          | .map es ck, true => some (.mem (.ifc t (.map h.n)) (h.add (.map es ck)))
          | _, _ => none)
        | _, _ => none)
      | false => some (.call g (mapV e c.args.toList ++ caps)))
    | .yld l => some (.round l (mapV e c.args.toList))
    | _ => none
  | .invoke _ _ => none
  | .builtin b => match b, c.args, c.argTypes with
    | .len, ⟨[x]⟩, ⟨[t]⟩ => match C.T.at_ t with
      | some ti => match ti.d, C.L true (e x), C.L false (e x) with
        | .str, some v, _ => some (.val v)
        | .sl _, _, some v => some (.val v)
        | _, _, _ => valO (lenV ti.d h (e x))
      | none => none
    | .append, ⟨[s, x]⟩, ⟨[t, u]⟩ => match C.T.at_ t, C.T.at_ u with
      | some ti, some tu => match ti.d, tu.d with
        | .sl el, .sl _ => match C.T.at_ el with
          | some te => match srcV h te.size (e x) with
            | some p => appendV h el te (e s) p.1 p.2
            | none => none
          | none => none
        | _, _ => none
      | _, _ => none
    | .min, args, _ => valO (leastV (mapV e args.toList))
    | .max, args, _ => valO (mostV (mapV e args.toList))
    | .delete, ⟨[m, k]⟩, ⟨t :: _⟩ => match C.T.at_ t with
      | some ti => match delV C.T h ti (e m) (e k) with
        | some h' => some (.mem (.tup []) h')
        | none => none
      | none => none
    | .clear, ⟨[x]⟩, ⟨[t]⟩ => match C.T.at_ t, e x with
      | some ti, .sl _ _ 0 _ _ => match ti.d with
        | .sl _ => some (.val (.tup []))
        | _ => none
      | some ti, .nilsl => match ti.d with
        | .sl _ => some (.val (.tup []))
        | _ => none
      | some ti, .sl b o (n + 1) _ _ => match ti.d, h.t.get b with
        | .sl el, .cells l bt g => match C.T.at_ el with
          | some te => match cellsV te.zero with
            | some z => match onesV z, segV o (repV (n + 1) z) l with
              | true, some m => some (.mem (.tup []) (h.put b (.cells m bt g)))
              | _, _ => none
            | none => none
          | none => none
        | _, _ => none
      | _, _ => none
    | _, _, _ => none
noncomputable def opR (C : Cf) (e : Operand → V) (h : H) (op : Op) : Option R :=
  match op with
  | .move x => some (.val (e x))
  | .assign x => some (.val (e x))
  | .pick c a b => match e c with
    | .bool true => some (.val (e a))
    | .bool false => some (.val (e b))
    | _ => none
  | .alloc t => match C.T.at_ t with
    | some ti => match cellsV ti.zero with
      | some l => newB h (.cells l t false) (.ptr h.n 0)
      | none => none
    | none => none
  | .box t x => match cellsV (e x) with
    | some l => newB h (.cells l t false) (.ptr h.n 0)
    | none => none
  | .build t parts => match C.T.at_ t with
    | some ti => valO (buildV ti (mapP e parts.toList))
    | none => none
  | .buildSlice t n parts => match C.T.at_ t with
    | some ti => match ti.d with
      | .sl el => match C.T.at_ el with
        | some te => match rowOf te n (mapP e parts.toList), Nat.ble n 16777216 with
          | some l, true => newB h (.cells l el false) (.sl h.n 0 n n none)
          | _, _ => none
        | none => none
      | _ => none
    | none => none
  | .makeSlice t x y => match C.T.at_ t with
    | some ti => match ti.d with
      | .sl el => match C.T.at_ el with
        | some te => match makeR te (e x) (e y) with
          | some (l, n, c) => newB h (.cells l el false) (.sl h.n 0 n c none)
          | none => none
        | none => none
      | _ => none
    | none => none
  | .load t x => match e x with
    | .ptr b o => match h.t.get b, C.T.at_ t with
      | .cells l _ _, some ti => valO (loadV ti l o)
      | _, _ => none
    | _ => none
  | .store t x y => match e x with
    | .ptr b o => match h.t.get b, C.T.at_ t, cellsV (e y) with
      | .cells l bt g, some ti, some vs => match Nat.beq vs.length ti.size, onesV vs, segV o vs l with
        | true, true, some m => some (.done (h.put b (.cells m bt g)))
        | _, _, _ => none
      | _, _, _ => none
    | _ => none
  | .nilCheck x => match e x with
    | .ptr b o => some (.val (.ptr b o))
    | _ => none
  | .binOp op t x y _ => match e x, e y with
    | .agg l, .agg m => valO (aggR C.T op t (.agg l) (.agg m))
    | a, b => match C.A op a b with
      | some v => some (.val v)
      | none => valO (binR C.T op t a b)
  | .unOp op _ x => valO (unV op (e x))
  | .convert s d x => match C.T.at_ s, C.T.at_ d with
    | some ts, some td => valO (convV C.T h ts td (e x))
    | _, _ => none
  | .makeFunc (.func f) ⟨[]⟩ caps => some (.val (.fn f (mapV e caps.toList)))
  | .makeMap _ none => newB h (.map [] 0) (.map h.n)
  | .slice t x lo hi mx => match C.T.at_ t with
    | some ti => match ti.d, e x with
      | .str, .str s => match mx with
        | none => valO (subV s (mapO e lo) (mapO e hi))
        | some _ => none
      | .sl el, .sl b o len cap ex => match C.T.at_ el with
        | some te => valO (sliceV te.size b o len cap ex (mapO e lo) (mapO e hi) (mapO e mx))
        | none => none
      | .sl el, .nilsl => match C.T.at_ el with
        | some _ => valO (sliceN (mapO e lo) (mapO e hi) (mapO e mx))
        | none => none
      | .arr n el, .ptr b o => match mx, C.T.at_ el with
        | none, some te => valO (sliceA te.size b o n (mapO e lo) (mapO e hi))
        | _, _ => none
      | _, _ => none
    | none => none
  | .fieldAddr t x f => match e x with
    | .ptr b o => match C.T.at_ t with
      | some ti => match fieldV ti f with
        | some p => match Nat.beq p.2.1 0 with
          | false => some (.val (.ptr b (o + p.1)))
          | true => none
        | none => none
      | none => none
    | _ => none
  | .field t x f => match e x with
    | .agg l => match C.T.at_ t with
      | some ti => match fieldV ti f with
        | some p => match C.T.at_ p.2.2 with
          | some tf => valO (loadV tf l p.1)
          | none => none
        | none => none
      | none => none
    | _ => none
  | .indexAddr t x y => match e x, e y with
    | .sl b o len _ _, .int _ (.ofNat i) => match C.T.at_ t with
      | some ti => match ti.d with
        | .sl el => match C.T.at_ el, Nat.blt i len with
          | some te, true => some (.val (.ptr b (o + i * te.size)))
          | _, _ => none
        | _ => none
      | none => none
    | .ptr b o, .int _ (.ofNat i) => match C.T.at_ t with
      | some ti => match ti.d with
        | .arr n el => match C.T.at_ el, Nat.blt i n with
          | some te, true => some (.val (.ptr b (o + i * te.size)))
          | _, _ => none
        | _ => none
      | none => none
    | _, _ => none
  | .index t x y => match e x, e y with
    | .str s, .int _ (.ofNat i) => match C.T.at_ t with
      | some ti => match ti.d, nthN s i with
        | .str, some b => some (.val (.int .u8 (.ofNat b)))
        | _, _ => none
      | none => none
    | _, _ => none
  | .lookup t x k ok => match C.T.at_ t with
    | some ti => valO (lookV C.T h ti (e x) (e k) ok)
    | none => none
  | .mapUpdate t m k x => match C.T.at_ t with
    | some ti => doneO (updV C.T h ti (e m) (e k) (e x))
    | none => none
  | .insert t m k x => match C.T.at_ t with
    | some ti => doneO (updV C.T h ti (e m) (e k) (e x))
    | none => none
  | .range t x => match C.T.at_ t with
    | some ti => rangeV h ti (e x)
    | none => none
  | .next x false => nextV h (e x)
  | .entry x => valO (entryV h (e x))
  | .extract x i => match e x with
    | .tup l => valO (nthV l i)
    | _ => none
  | .makeInterface t x => match C.T.at_ t with
    | some ti => match ti.d with
      | .map _ _ => some (.val (.ifc t (e x)))
      | _ => none
    | none => none
  | .typeAssert x _ t false => match e x with
    | .ifc u v => match Nat.beq u t, C.T.at_ t with
      | true, some ti => match ti.d with
        | .map _ _ => some (.val v)
        | _ => none
      | _, _ => none
    | _ => none
  | .call c => callR C e h c
  | _ => none

def ROk (P : Program) (K : Ker) (w0 : World) (ι : I) (w : World) (res : R) (run : Result Next) : Prop :=
  match res with
  | .val v => ∃ y, run = .ok (.value y) w ∧ VR ι v y
  | .mem v h' => ∃ y w' κ, run = .ok (.value y) w' ∧ ι.Le κ ∧ Rep K w0 κ h' w' ∧ VR κ v y
  | .done h' => ∃ w' κ, run = .ok .skip w' ∧ ι.Le κ ∧ Rep K w0 κ h' w'
  | .call f args => ∃ xs : List Value, run = (callFunc f xs.toArray).run P w ∧ VRs ι args xs
  | .round l args => ∃ (c : Nat) (xs : List Value), ι.blk l = some c ∧ run = (Instr.yield c xs.toArray).run P w ∧ VRs ι args xs
  | .many l => ∃ p ∈ l, ∃ y w' κ, run = .ok (.value y) w' ∧ ι.Le κ ∧ Rep K w0 κ p.2 w' ∧ VR κ p.1 y
section
variable {P : Program} {K : Ker} {w0 w : World} {ι : I} {h : H}
theorem ev_sound {G d N : Nat} {fr : Tr V} {a : Act} (hG : ∀ g, g < G → ι.blk g = some g) (hf : FR ι d N fr a.tmps) (x : Operand) : VR ι (ev G N fr x) (a.eval x) := by
  cases x with
  | tmp t =>
    simp only [ev]
    split
    · rename_i ht
      have ht : t < N := by simpa [Nat.blt_eq] using ht
      obtain ⟨x, e, r⟩ := hf.at_ t ht
      simp only [Act.eval, Array.getD_eq_getD_getElem?, e]
      exact r
    · simp only [VR]
  | const v => exact ofVal_sound ι v
  | func f => simp only [ev, VR, Act.eval]; exact ⟨[], VRs.nil_iff.2 rfl, rfl⟩
  | global g =>
    simp only [ev]
    split
    · rename_i hg
      simp only [VR]
      exact ⟨g, hG g (by simpa [Nat.blt_eq] using hg), rfl⟩
    · simp only [VR]
theorem mapV_sound {e : Operand → V} {ρ : Operand → Value} (he : ∀ x, VR ι (e x) (ρ x)) : ∀ l : List Operand, VRs ι (mapV e l) (l.map ρ)
  | [] => VRs.nil_iff.2 rfl
  | x :: l => VRs.cons_iff.2 ⟨_, _, he x, mapV_sound he l, rfl⟩
theorem mapP_sound {e : Operand → V} {ρ : Operand → Value} (he : ∀ x, VR ι (e x) (ρ x)) : ∀ l : List (Nat × Operand), (l.map fun p => (p.1, ρ p.2)).map (·.1) = (mapP e l).map (·.1) ∧ VRs ι ((mapP e l).map (·.2)) ((l.map fun p => (p.1, ρ p.2)).map (·.2))
  | [] => ⟨rfl, VRs.nil_iff.2 rfl⟩
  | x :: l => by
    obtain ⟨h1, h2⟩ := mapP_sound he l
    exact ⟨by simp only [List.map_cons, mapP]; rw [h1], VRs.cons_iff.2 ⟨_, _, he x.2, h2, rfl⟩⟩
theorem mapO_sound {e : Operand → V} {ρ : Operand → Value} (he : ∀ x, VR ι (e x) (ρ x)) : ∀ x : Option Operand, OVR ι (mapO e x) (x.map ρ)
  | none => rfl
  | some x => ⟨_, rfl, he x⟩
theorem rok_val {v : V} {s : Sem Value} (hs : ∃ y, s.run P w = .ok y w ∧ VR ι v y) : ROk P K w0 ι w (.val v) ((do pure (Next.value (← s)) : Sem Next).run P w) := by
  obtain ⟨y, h1, h2⟩ := hs
  exact ⟨y, by rw [Sem.run_bind, h1]; rfl, h2⟩
theorem rok_valO {o : Option V} {res : R} (ho : valO o = some res) {s : Sem Value} (hs : ∀ v, o = some v → ∃ y, s.run P w = .ok y w ∧ VR ι v y) : ROk P K w0 ι w res ((do pure (Next.value (← s)) : Sem Next).run P w) := by
  unfold valO at ho
  split at ho
  · cases ho; exact rok_val (hs _ rfl)
  · cases ho
theorem rok_mem {v : V} {h' : H} {s : Sem Value} (hs : ∃ y w' κ, s.run P w = .ok y w' ∧ ι.Le κ ∧ Rep K w0 κ h' w' ∧ VR κ v y) : ROk P K w0 ι w (.mem v h') ((do pure (Next.value (← s)) : Sem Next).run P w) := by
  obtain ⟨y, w', κ, h1, h2⟩ := hs
  exact ⟨y, w', κ, by rw [Sem.run_bind, h1]; rfl, h2⟩
theorem rok_done {h' : H} {s : Sem Unit} (hs : ∃ w', s.run P w = .ok () w' ∧ Rep K w0 ι h' w') : ROk P K w0 ι w (.done h') ((do s; pure Next.skip : Sem Next).run P w) := by
  obtain ⟨w', h1, h2⟩ := hs
  exact ⟨w', ι, by rw [Sem.run_bind, h1]; rfl, .refl _, h2⟩
theorem rok_vok {res : R} {s : Sem Value} (hs : VOk K w0 ι w res (s.run P w)) : ROk P K w0 ι w res ((do pure (Next.value (← s)) : Sem Next).run P w) := by
  cases res with
  | val v => exact rok_val hs
  | mem v h' => exact rok_mem hs
  | _ => exact hs.elim
theorem rok_mok {res : R} {s : Sem Value} (hs : MOk K w0 ι w res (s.run P w)) : ROk P K w0 ι w res ((do pure (Next.value (← s)) : Sem Next).run P w) := by
  cases res with
  | val v => exact rok_val hs
  | many l =>
    obtain ⟨p, hp, y, w', κ, h1, h2⟩ := hs
    exact ⟨p, hp, y, w', κ, by rw [Sem.run_bind, h1]; rfl, h2⟩
  | _ => exact hs.elim
end
end Go.Proofs.Ytoamjihchmokcaa.E
