/- The executor's heap and frames, and the worlds that they stand for. No condition. -/
import Derived.Test.YtoamjihchmokcaaE1
namespace Go.Proofs.Ytoamjihchmokcaa.E
open Go.ChangeShapes Go.WideShapes Go.ChangeAt Go.RowKit Go.Deep

inductive J where
  | ret
  | exit (id : Nat)
def J.code : J → Code
  | .ret => .ret
  | .exit id => .exit id
inductive O where
  | dead
  | cells (l : List V) (t : Nat) (g : Bool)
  | map (es : List (V × V × Nat)) (clock : Nat)
  | iter (m since : Nat) (seen : List Nat) (last : Nat)
  | iter0
  | loop (l : Nat) (st : LoopState) (pend : Option J)
  | dfr
structure H where
  t : Tr O
  n : Nat
def DH : Nat := 12

structure FR (ι : I) (d N : Nat) (fr : Tr V) (tm : Array Value) : Prop where
  perf : Perf d fr
  fit : N ≤ 2 ^ d
  size : tm.size = N
  at_ : ∀ k, k < N → ∃ x, tm[k]? = some x ∧ VR ι (fr.get k) x
theorem FR.mono {ι κ : I} (h : ι.Le κ) {d N : Nat} {fr : Tr V} {tm : Array Value} (q : FR ι d N fr tm) : FR κ d N fr tm :=
  ⟨q.perf, q.fit, q.size, fun k hk => let ⟨x, e, r⟩ := q.at_ k hk; ⟨x, e, r.mono h⟩⟩
theorem FR.set {ι : I} {d N : Nat} {fr : Tr V} {tm : Array Value} (q : FR ι d N fr tm) {k : Nat} (hk : k < N) {v : V} {x : Value} (hv : VR ι v x) : FR ι d N (fr.set k v) (tm.setIfInBounds k x) := by
  refine ⟨q.perf.set k v, q.fit, by simp [q.size], fun j hj => ?_⟩
  have hf := q.fit
  rw [q.perf.get_set k v j (by omega) (by omega), Array.getElem?_setIfInBounds]
  by_cases e : j = k
  · subst e
    rw [if_pos rfl, if_pos rfl, if_pos (by rw [q.size]; exact hj)]
    exact ⟨x, rfl, hv⟩
  · rw [if_neg e, if_neg (fun h => e h.symm)]
    exact q.at_ j hj

def ESR (ι : I) : List (V × V × Nat) → List MapEntry → Prop
  | [], es => es = []
  | e :: l, es => ∃ k v r, VR ι e.1 k ∧ VR ι e.2.1 v ∧ ESR ι l r ∧ es = ⟨k, v, e.2.2⟩ :: r
theorem ESR.mono {ι κ : I} (h : ι.Le κ) : ∀ {l : List (V × V × Nat)} {es : List MapEntry}, ESR ι l es → ESR κ l es
  | [], _, q => q
  | _ :: _, _, q => let ⟨k, v, r, q1, q2, q3, e⟩ := q; ⟨k, v, r, q1.mono h, q2.mono h, ESR.mono h q3, e⟩

def OR (ι : I) : O → Obj → Prop
  | .dead, _ => True
  | .cells l t g, o => ∃ cs more : List Value, VRs ι l cs ∧ o = .cells (cs ++ more).toArray t (0, 0) ∧ (g = false → more = [])
  | .map es clock, o => ∃ E : List MapEntry, ESR ι es E ∧ o = .map E.toArray clock
  | .iter m since seen last, o => ∃ c, ι.blk m = some c ∧ o = .mapIter (some c) since seen.toArray last
  | .iter0, o => o = .mapIter none 0 #[] 0
  | .loop l st pend, o => ∃ (q : LI) (fn : Nat) (tm : Array Value) (c : Nat), ι.lp l = some q ∧ FR ι q.d q.N q.fr tm ∧ ι.blk q.dfr = some c ∧ o = .loop ⟨st, pend.map J.code, fn, tm, q.ps.toArray, q.assign, q.body, c⟩
  | .dfr, o => o = .deferred (some [])
theorem OR.mono {ι κ : I} (h : ι.Le κ) : ∀ {a : O} {o : Obj}, OR ι a o → OR κ a o
  | .dead, _, _ => trivial
  | .cells _ _ _, _, q => let ⟨cs, more, q1, q2⟩ := q; ⟨cs, more, q1.mono h, q2⟩
  | .map _ _, _, q => let ⟨E, q1, q2⟩ := q; ⟨E, q1.mono h, q2⟩
  | .iter _ _ _ _, _, q => let ⟨c, q1, q2⟩ := q; ⟨c, h.blk _ _ q1, q2⟩
  | .iter0, _, q => q
  | .loop _ _ _, _, q => let ⟨i, fn, tm, c, q0, q1, q2, q3⟩ := q; ⟨i, fn, tm, c, h.lp _ _ q0, q1.mono h, h.blk _ _ q2, q3⟩
  | .dfr, _, q => q

structure Ker where
  k : Nat → Prop
  rs : Nat → Prop
instance : CoeFun Ker (fun _ => Nat → Prop) := ⟨Ker.k⟩
structure Base (K : Ker) (w0 w : World) : Prop where
  os : w.os = w0.os
  tape : w.tape = w0.tape
  output : w.output = w0.output
  size : w0.heap.size ≤ w.heap.size
  kept : ∀ c, K c → c < w0.heap.size ∧ w.heap[c]? = w0.heap[c]?
theorem Base.next {K : Ker} {w0 w w' : World} (b : Base K w0 w) (h1 : w'.os = w.os) (h2 : w'.tape = w.tape) (h3 : w'.output = w.output) (h4 : w.heap.size ≤ w'.heap.size) (h5 : ∀ c, K c → w'.heap[c]? = w.heap[c]?) : Base K w0 w' :=
  ⟨h1.trans b.os, h2.trans b.tape, h3.trans b.output, Nat.le_trans b.size h4, fun c hc => ⟨(b.kept c hc).1, (h5 c hc).trans (b.kept c hc).2⟩⟩
theorem Base.lt {K : Ker} {w0 w : World} (b : Base K w0 w) {c : Nat} (hc : K c) : c < w.heap.size := Nat.lt_of_lt_of_le (b.kept c hc).1 b.size
theorem Base.start (w0 : World) : Base ⟨fun c => c < w0.heap.size, fun _ => False⟩ w0 w0 := ⟨rfl, rfl, rfl, Nat.le_refl _, fun _ h => ⟨h, rfl⟩⟩
theorem Base.below {w0 w : World} (b : Base ⟨fun c => c < w0.heap.size, fun _ => False⟩ w0 w) : Below w0.heap.size w0 w := ⟨b.os, b.tape, b.output, b.size, fun c hc => (b.kept c hc).2⟩
structure Rep (K : Ker) (w0 : World) (ι : I) (h : H) (w : World) : Prop where
  perf : Perf DH h.t
  fit : h.n ≤ 2 ^ DH
  base : Base K w0 w
  live : ∀ b, b < h.n → h.t.get b ≠ .dead → ∃ c o, ι.blk b = some c ∧ ¬ K c ∧ w.heap[c]? = some o ∧ OR ι (h.t.get b) o
  inj : ∀ a b c, a < h.n → b < h.n → h.t.get a ≠ .dead → h.t.get b ≠ .dead → ι.blk a = some c → ι.blk b = some c → a = b
  lt : ∀ b c, ι.blk b = some c → b < h.n ∧ c < w.heap.size
  lps : ∀ b q, ι.lp b = some q → b < h.n
  ext : ∀ b E, ι.ext b = some E → b < h.n ∧ ∀ c, ι.blk b = some c → ∃ (arr : Array Value) (t : TypeId) (f : Nat × Nat), w.heap[c]? = some (.cells arr t f) ∧ arr.size = E
  resv : ∀ b, K.rs b → b < h.n ∧ ι.blk b = none ∧ ι.ext b = none
variable {K : Ker} {w0 w w' : World} {ι : I} {h : H}

theorem Rep.drew (r : Rep K w0 ι h w) : Rep K w0 ι h w.drew := ⟨r.perf, r.fit, r.base.next rfl rfl rfl (Nat.le_refl _) (fun _ _ => rfl), r.live, r.inj, r.lt, r.lps, r.ext, r.resv⟩
theorem Rep.drawn (r : Rep K w0 ι h w) : Rep K w0 ι h { w with drawn := w.drawn + 1 } := ⟨r.perf, r.fit, r.base.next rfl rfl rfl (Nat.le_refl _) (fun _ _ => rfl), r.live, r.inj, r.lt, r.lps, r.ext, r.resv⟩

theorem Rep.at_ (r : Rep K w0 ι h w) {b c : Nat} (hb : ι.blk b = some c) (hd : h.t.get b ≠ .dead) : ∃ o, ¬ K c ∧ w.heap[c]? = some o ∧ OR ι (h.t.get b) o := by
  obtain ⟨c', o, e, r1, r2, r3⟩ := r.live b (r.lt b c hb).1 hd
  rw [hb] at e
  cases e
  exact ⟨o, r1, r2, r3⟩

def I.new (ι : I) (n c : Nat) : I := { ι with blk := fun b => if b = n then some c else ι.blk b }
theorem Rep.le_new (r : Rep K w0 ι h w) (c : Nat) : ι.Le (ι.new h.n c) := by
  refine ⟨fun b c' e => ?_, fun _ _ e => e, fun _ _ e => e, rfl⟩
  have := (r.lt b c' e).1
  show (if b = h.n then some c else ι.blk b) = some c'
  rw [if_neg (by omega)]
  exact e
theorem Rep.alloc (r : Rep K w0 ι h w) {a : O} {o : Obj} (hn : h.n < 2 ^ DH) (ho : OR (ι.new h.n w.heap.size) a o) : Rep K w0 (ι.new h.n w.heap.size) ⟨h.t.set h.n a, h.n + 1⟩ (w.alloc o) := by
  have hg : ∀ b, b < h.n + 1 → (h.t.set h.n a).get b = if b = h.n then a else h.t.get b := fun b hb => r.perf.get_set _ _ _ hn (by omega)
  have hle := r.le_new w.heap.size
  refine ⟨r.perf.set _ _, hn, r.base.next rfl rfl rfl (by simp) (fun c hc => Below.heap_alloc _ _ _ (r.base.lt hc)), fun b hb hd => ?_, fun p q c hp hq hpd hqd ep eq => ?_, fun b c e => ?_, fun b q e => Nat.lt_succ_of_lt (r.lps b q e), fun b E e => ?_, fun b hb => ⟨Nat.lt_succ_of_lt (r.resv b hb).1, (if_neg (by have := (r.resv b hb).1; omega)).trans (r.resv b hb).2.1, (r.resv b hb).2.2⟩⟩
  · dsimp only at hb hd ⊢
    rw [hg b hb] at hd ⊢
    by_cases e : b = h.n
    · subst e
      rw [if_pos rfl]
      exact ⟨w.heap.size, o, by simp [I.new], fun hk => Nat.lt_irrefl _ (r.base.lt hk), heap_alloc_new w o, ho⟩
    · rw [if_neg e] at hd ⊢
      obtain ⟨c, o', e1, e2, e3, e4⟩ := r.live b (by omega) hd
      refine ⟨c, o', hle.blk _ _ e1, e2, ?_, e4.mono hle⟩
      rw [Below.heap_alloc _ _ _ (r.lt b c e1).2]
      exact e3
  · dsimp only at hp hq hpd hqd
    rw [hg p hp] at hpd
    rw [hg q hq] at hqd
    have hv : ∀ b c, (ι.new h.n w.heap.size).blk b = some c → (b = h.n ∧ c = w.heap.size) ∨ (b ≠ h.n ∧ ι.blk b = some c) := by
      intro b c e
      by_cases hb : b = h.n
      · left; refine ⟨hb, ?_⟩
        have e : (if b = h.n then some w.heap.size else ι.blk b) = some c := e
        rw [if_pos hb] at e
        cases e; rfl
      · right; refine ⟨hb, ?_⟩
        have e : (if b = h.n then some w.heap.size else ι.blk b) = some c := e
        rw [if_neg hb] at e
        exact e
    rcases hv p c ep with ⟨rfl, rfl⟩ | ⟨hp1, ep⟩ <;> rcases hv q _ eq with ⟨rfl, e2⟩ | ⟨hq1, eq⟩
    · rfl
    · have := (r.lt _ _ eq).2; omega
    · have := (r.lt _ _ ep).2; omega
    · rw [if_neg hp1] at hpd
      rw [if_neg hq1] at hqd
      exact r.inj p q c (by omega) (by omega) hpd hqd ep eq
  · have e : (if b = h.n then some w.heap.size else ι.blk b) = some c := e
    rw [World.size_alloc]
    dsimp only
    by_cases hb : b = h.n
    · rw [if_pos hb] at e
      cases e
      omega
    · rw [if_neg hb] at e
      have := r.lt b c e
      omega
  · obtain ⟨e1, e2⟩ := r.ext b E e
    refine ⟨Nat.lt_succ_of_lt e1, fun c hc => ?_⟩
    have hc : (if b = h.n then some w.heap.size else ι.blk b) = some c := hc
    rw [if_neg (by omega)] at hc
    obtain ⟨arr, t, f, q1, q2⟩ := e2 c hc
    exact ⟨arr, t, f, by rw [Below.heap_alloc _ _ _ (r.lt b c hc).2]; exact q1, q2⟩

theorem Rep.upd (r : Rep K w0 ι h w) {b c : Nat} (hb : ι.blk b = some c) (hd : h.t.get b ≠ .dead) {a : O} {o : Obj} (ho : OR ι a o) (hs : w'.heap.size = w.heap.size) (h1 : w'.heap[c]? = some o) (h2 : ∀ k, k ≠ c → w'.heap[k]? = w.heap[k]?) (hz : ∀ (arr : Array Value) (t : TypeId) (f : Nat × Nat), w.heap[c]? = some (.cells arr t f) → ∃ (arr' : Array Value) (t' : TypeId) (f' : Nat × Nat), o = .cells arr' t' f' ∧ arr'.size = arr.size) (h3 : w'.os = w.os) (h4 : w'.tape = w.tape) (h5 : w'.output = w.output) : Rep K w0 ι ⟨h.t.set b a, h.n⟩ w' := by
  obtain ⟨_, hc, _, _⟩ := r.at_ hb hd
  have hl := r.fit
  have hbn := (r.lt b c hb).1
  have hg : ∀ k, k < h.n → (h.t.set b a).get k = if k = b then a else h.t.get k := fun k hk => r.perf.get_set _ _ _ (by omega) (by omega)
  refine ⟨r.perf.set _ _, r.fit, r.base.next h3 h4 h5 (by omega) (fun k hk => h2 k (fun e => hc (e ▸ hk))), fun k hk hkd => ?_, fun p q d hp hq hpd hqd ep eq => ?_, fun k d e => ?_, r.lps, fun k E e => ?_, r.resv⟩
  · dsimp only at hk hkd ⊢
    rw [hg k hk] at hkd ⊢
    by_cases e : k = b
    · subst e
      rw [if_pos rfl]
      exact ⟨c, o, hb, hc, h1, ho⟩
    · rw [if_neg e] at hkd ⊢
      obtain ⟨d, o', e1, e2, e3, e4⟩ := r.live k hk hkd
      refine ⟨d, o', e1, e2, ?_, e4⟩
      rw [h2 d (fun hdc => e (r.inj k b c hk hbn hkd hd (hdc ▸ e1) hb))]
      exact e3
  · dsimp only at hp hq hpd hqd
    rw [hg p hp] at hpd
    rw [hg q hq] at hqd
    have key : ∀ k, k < h.n → (if k = b then a else h.t.get k) ≠ .dead → h.t.get k ≠ .dead := fun k _ hk => by
      by_cases e : k = b
      · subst e; exact hd
      · rw [if_neg e] at hk; exact hk
    exact r.inj p q d hp hq (key p hp hpd) (key q hq hqd) ep eq
  · have := r.lt k d e
    exact ⟨this.1, by omega⟩
  · obtain ⟨e1, e2⟩ := r.ext k E e
    refine ⟨e1, fun d hd' => ?_⟩
    obtain ⟨arr, t, f, q1, q2⟩ := e2 d hd'
    by_cases hdc : d = c
    · subst hdc
      obtain ⟨arr', t', f', z1, z2⟩ := hz arr t f q1
      exact ⟨arr', t', f', by rw [h1, z1], by rw [z2, q2]⟩
    · exact ⟨arr, t, f, by rw [h2 d hdc]; exact q1, q2⟩
theorem setRow_others (w : World) (g : Nat) (cs : Array Value) (k : Nat) (hk : k ≠ g) : (w.setRow g cs).heap[k]? = w.heap[k]? := by
  simp only [World.setRow, Array.getElem?_modify]
  rw [if_neg (fun e => hk e.symm)]
theorem Rep.upd_row (r : Rep K w0 ι h w) {b c : Nat} (hb : ι.blk b = some c) {l l' : List V} {t : Nat} {g : Bool} (hd : h.t.get b = .cells l t g) {cur cs more : List Value} (hc : w.heap[c]? = some (.cells cur.toArray t (0, 0))) (hv : VRs ι l' cs) (hm : g = false → more = []) (hs : (cs ++ more).length = cur.length) : Rep K w0 ι ⟨h.t.set b (.cells l' t g), h.n⟩ (w.setRow c (cs ++ more).toArray) :=
  r.upd hb (by rw [hd]; simp) (a := .cells l' t g) ⟨cs, more, hv, rfl, hm⟩ (by simp [World.setRow]) (setRow_heap hc) (fun k hk => setRow_others w c _ k hk) (fun arr t f e => by
    rw [hc] at e
    cases e
    exact ⟨_, _, _, rfl, by simpa using hs⟩) rfl rfl rfl

theorem Rep.kill (r : Rep K w0 ι h w) {b : Nat} (hb : b < h.n) : Rep K w0 ι ⟨h.t.set b .dead, h.n⟩ w := by
  have hl := r.fit
  have hg : ∀ k, k < h.n → (h.t.set b .dead).get k = if k = b then .dead else h.t.get k := fun k hk => r.perf.get_set _ _ _ (by omega) (by omega)
  have key : ∀ k, k < h.n → (h.t.set b .dead).get k ≠ .dead → k ≠ b ∧ h.t.get k ≠ .dead := fun k hk hd => by
    rw [hg k hk] at hd
    by_cases e : k = b
    · rw [if_pos e] at hd; exact absurd rfl hd
    · rw [if_neg e] at hd; exact ⟨e, hd⟩
  refine ⟨r.perf.set _ _, r.fit, r.base, fun k hk hd => ?_, fun p q c hp hq hpd hqd ep eq => ?_, r.lt, r.lps, r.ext, r.resv⟩
  · dsimp only at hk hd ⊢
    obtain ⟨k1, k2⟩ := key k hk hd
    rw [hg k hk, if_neg k1]
    exact r.live k hk k2
  · dsimp only at hp hq hpd hqd
    exact r.inj p q c hp hq (key p hp hpd).2 (key q hq hqd).2 ep eq

def I.newx (ι : I) (n c E : Nat) : I := ⟨fun b => if b = n then some c else ι.blk b, fun b => if b = n then some E else ι.ext b, ι.lp, ι.atom⟩
theorem Rep.le_newx (r : Rep K w0 ι h w) (c E : Nat) : ι.Le (ι.newx h.n c E) := by
  refine ⟨fun b c' e => ?_, fun b c' e => ?_, fun _ _ e => e, rfl⟩
  · have := (r.lt b c' e).1
    show (if b = h.n then some c else ι.blk b) = some c'
    rw [if_neg (by omega)]
    exact e
  · have := (r.ext b c' e).1
    show (if b = h.n then some E else ι.ext b) = some c'
    rw [if_neg (by omega)]
    exact e
theorem Rep.adopt (r : Rep K w0 ι h w) (hn : h.n < 2 ^ DH) {c t : Nat} {l : List V} {cs more : List Value} (hl : VRs ι l cs) (hc : ¬ K c) (hno : ∀ b, h.t.get b ≠ .dead → b < h.n → ι.blk b ≠ some c)
    (h1 : w'.heap[c]? = some (.cells (cs ++ more).toArray t (0, 0))) (h2 : ∀ k, k ≠ c → k < w.heap.size → w'.heap[k]? = w.heap[k]?) (hsz : w.heap.size ≤ w'.heap.size) (hz : ∀ (arr : Array Value) (t : TypeId) (f : Nat × Nat), w.heap[c]? = some (.cells arr t f) → (cs ++ more).length = arr.size) (h3 : w'.os = w.os) (h4 : w'.tape = w.tape) (h5 : w'.output = w.output) :
    Rep K w0 (ι.newx h.n c (cs ++ more).length) ⟨h.t.set h.n (.cells l t true), h.n + 1⟩ w' := by
  have hg : ∀ b, b < h.n + 1 → (h.t.set h.n (.cells l t true)).get b = if b = h.n then .cells l t true else h.t.get b := fun b hb => r.perf.get_set _ _ _ hn (by omega)
  have hle := r.le_newx c (cs ++ more).length
  have hcw : c < w'.heap.size := (Array.getElem?_eq_some_iff.1 h1).1
  have hv : ∀ b d, (ι.newx h.n c (cs ++ more).length).blk b = some d → (b = h.n ∧ d = c) ∨ (b ≠ h.n ∧ ι.blk b = some d) := by
    intro b d e
    have e : (if b = h.n then some c else ι.blk b) = some d := e
    by_cases hb : b = h.n
    · rw [if_pos hb] at e; cases e; exact .inl ⟨hb, rfl⟩
    · rw [if_neg hb] at e; exact .inr ⟨hb, e⟩
  refine ⟨r.perf.set _ _, hn, r.base.next h3 h4 h5 hsz (fun k hk => h2 k (fun e => hc (e ▸ hk)) (r.base.lt hk)), fun b hb hd => ?_, fun p q d hp hq hpd hqd ep eq => ?_, fun b d e => ?_, fun b q e => Nat.lt_succ_of_lt (r.lps b q e), fun b E e => ?_, fun b hb => ⟨Nat.lt_succ_of_lt (r.resv b hb).1, (if_neg (by have := (r.resv b hb).1; omega)).trans (r.resv b hb).2.1, (if_neg (by have := (r.resv b hb).1; omega)).trans (r.resv b hb).2.2⟩⟩
  · dsimp only at hb hd ⊢
    rw [hg b hb] at hd ⊢
    by_cases e : b = h.n
    · subst e
      rw [if_pos rfl]
      exact ⟨c, _, by simp [I.newx], hc, h1, cs, more, hl.mono hle, rfl, fun h => by cases h⟩
    · rw [if_neg e] at hd ⊢
      obtain ⟨d, o', e1, e2, e3, e4⟩ := r.live b (by omega) hd
      refine ⟨d, o', hle.blk _ _ e1, e2, ?_, e4.mono hle⟩
      rw [h2 d (fun hdc => hno b hd (by omega) (hdc ▸ e1)) (r.lt b d e1).2]
      exact e3
  · dsimp only at hp hq hpd hqd
    rw [hg p hp] at hpd
    rw [hg q hq] at hqd
    rcases hv p d ep with ⟨rfl, rfl⟩ | ⟨hp1, ep1⟩ <;> rcases hv q _ eq with ⟨rfl, e2⟩ | ⟨hq1, eq1⟩
    · rfl
    · rw [if_neg hq1] at hqd
      exact absurd eq1 (hno q hqd (by omega))
    · rw [if_neg hp1] at hpd
      subst e2
      exact absurd ep1 (hno p hpd (by omega))
    · rw [if_neg hp1] at hpd
      rw [if_neg hq1] at hqd
      exact r.inj p q d (by omega) (by omega) hpd hqd ep1 eq1
  · rcases hv b d e with ⟨rfl, rfl⟩ | ⟨hb1, e⟩
    · exact ⟨Nat.lt_succ_self _, hcw⟩
    · have := r.lt b d e
      exact ⟨Nat.lt_succ_of_lt this.1, Nat.lt_of_lt_of_le this.2 hsz⟩
  · have e : (if b = h.n then some (cs ++ more).length else ι.ext b) = some E := e
    by_cases hb : b = h.n
    · rw [if_pos hb] at e
      cases e
      subst hb
      refine ⟨Nat.lt_succ_self _, fun d hd => ?_⟩
      rcases hv _ d hd with ⟨_, rfl⟩ | ⟨hb1, _⟩
      · exact ⟨_, _, _, h1, by simp⟩
      · exact absurd rfl hb1
    · rw [if_neg hb] at e
      obtain ⟨e1, e2⟩ := r.ext b E e
      refine ⟨Nat.lt_succ_of_lt e1, fun d hd => ?_⟩
      rcases hv b d hd with ⟨hb1, _⟩ | ⟨_, hd⟩
      · exact absurd hb1 hb
      · obtain ⟨arr, t', f, q1, q2⟩ := e2 d hd
        by_cases hdc : d = c
        · subst hdc
          exact ⟨_, _, _, h1, by rw [← q2, ← hz arr t' f q1]; simp⟩
        · exact ⟨arr, t', f, by rw [h2 d hdc (r.lt b d hd).2]; exact q1, q2⟩
def I.newl (ι : I) (n : Nat) (q : LI) : I := { ι with lp := fun b => if b = n then some q else ι.lp b }
theorem le_newl (q : LI) {n : Nat} (hn : ι.lp n = none) : ι.Le (ι.newl n q) := by
  refine ⟨fun _ _ e => e, fun _ _ e => e, fun b c e => ?_, rfl⟩
  show (if b = n then some q else ι.lp b) = some c
  by_cases hb : b = n
  · subst hb; rw [hn] at e; cases e
  · rw [if_neg hb]; exact e
theorem Rep.newl (r : Rep K w0 ι h w) (q : LI) {n : Nat} (hn : ι.lp n = none) (hlt : n < h.n) : Rep K w0 (ι.newl n q) h w := by
  have hle := le_newl q hn
  refine ⟨r.perf, r.fit, r.base, fun b hb hd => ?_, r.inj, r.lt, fun b p e => ?_, r.ext, r.resv⟩
  · obtain ⟨c, o, e1, e2, e3, e4⟩ := r.live b hb hd
    exact ⟨c, o, e1, e2, e3, e4.mono hle⟩
  · have e : (if b = n then some q else ι.lp b) = some p := e
    by_cases hb : b = n
    · subst hb; exact hlt
    · rw [if_neg hb] at e; exact r.lps b p e
end Go.Proofs.Ytoamjihchmokcaa.E
