/- The executor's slices of slices and texts, conversions, lengths, rows laid. No condition. -/
import Derived.Test.YtamhijbnmhdhbaaE8
import Derived.Laws.BytesString
import Derived.Laws.Small
namespace Go.Proofs.Ytamhijbnmhdhbaa.E
open Go.ChangeShapes Go.WideShapes Go.ChangeAt Go.RowKit Go.Deep

/-! ### Parts of slices -/
def OVR (ι : I) : Option V → Option Value → Prop
  | none, x => x = none
  | some v, x => ∃ y, x = some y ∧ VR ι v y
section
variable {P : Program} {K : Ker} {w0 w : World} {ι : I} {h : H}

theorem boundV_some {x : Option V} {d m i : Nat} (h : boundV x d m = some i) {y : Option Value} (hy : OVR ι x y) : (y = none ∧ x = none ∧ i = d) ∨ ∃ k, y = some (.int k (i : Int)) ∧ i ≤ m := by
  unfold boundV at h
  split at h
  · cases h; exact .inl ⟨hy, rfl, rfl⟩
  · rename_i k n
    split at h
    · rename_i hle
      cases h
      obtain ⟨z, rfl, hz⟩ := hy
      simp only [VR] at hz
      exact .inr ⟨k, by rw [hz]; rfl, Nat.le_of_ble_eq_true hle⟩
    · cases h
  · cases h

theorem bound_run (k : IntKind) (i y : Nat) (code : BoundsCode) (h : i ≤ y) : (Instr.sliceBound (.int k (i : Int)) y code).run P w = .ok i w := by
  simp [Instr.sliceBound, asIntOf, h]
theorem sliceAt_sound {t e : TypeId} {ti te : TI} (ht : tiOf P t = some ti) (hd : ti.d = .sl e) (hte : tiOf P e = some te) {b o len cap : Nat} {ex : Option Nat} {lo hi mx : Option V} {v : V} (hv : sliceV te.size b o len cap ex lo hi mx = some v) {x : Value} (hx : VR ι (.sl b o len cap ex) x) {l' h' m' : Option Value} (hlo : OVR ι lo l') (hhi : OVR ι hi h') (hmx : OVR ι mx m') :
    ∃ y, (Instr.sliceAt t x l' h' m').run P w = .ok y w ∧ VR ι v y := by
  obtain ⟨c, cp, hb, rfl, hlc, hcc, hcm, hex1, hex2⟩ := VR.sl_out hx
  have hu := under_sl ht hd
  have hs := run_size (w := w) hte
  have hsl : ∀ a b d, (Instr.sliceAt t (.slice (some ⟨c, o, none⟩) len cp) a b d).run P w = (Instr.slice t (.slice (some ⟨c, o, none⟩) len cp) a b d).run P w := fun a b d => by simp [Instr.sliceAt, run_underlying hu]
  rw [hsl]
  unfold sliceV at hv
  split at hv
  · -- no third bound
    obtain rfl : m' = none := hmx
    split at hv
    · cases hv
    rename_i hh hhb
    split at hv
    · cases hv
    rename_i ll hlb
    have hlhh : ll ≤ hh := by
      rcases boundV_some hlb hlo with ⟨_, _, rfl⟩ | ⟨k, _, hle⟩
      · exact Nat.zero_le _
      · exact hle
    have hhc : hh ≤ cap := by
      rcases boundV_some hhb hhi with ⟨_, _, rfl⟩ | ⟨k, _, hle⟩
      · exact hlc
      · exact hle
    have hrun : (Instr.slice t (.slice (some ⟨c, o, none⟩) len cp) l' h' none).run P w = .ok (.slice (some (if cp = ll then ⟨c, o, none⟩ else ⟨c, o + ll * te.size, none⟩)) (hh - ll) (cp - ll)) w := by
      rcases boundV_some hhb hhi with ⟨rfl, _, rfl⟩ | ⟨k, rfl, hle⟩ <;> rcases boundV_some hlb hlo with ⟨rfl, _, rfl⟩ | ⟨k2, rfl, hle2⟩
      · simp [Instr.slice, run_underlying hu, Instr.sliceBounds, hs, Addr.add_lit]
      · simp [Instr.slice, run_underlying hu, Instr.sliceBounds, hs, Addr.add_lit, bound_run, hle2]; split <;> rfl
      · simp [Instr.slice, run_underlying hu, Instr.sliceBounds, hs, Addr.add_lit, bound_run, show hh ≤ cp by omega]
      · simp [Instr.slice, run_underlying hu, Instr.sliceBounds, hs, Addr.add_lit, bound_run, hle2, show hh ≤ cp by omega]; split <;> rfl
    split at hv
    · rename_i h0
      cases hv
      have h0 := Nat.eq_of_beq_eq_true h0
      subst h0
      refine ⟨_, hrun, ?_⟩
      have : (if cp = 0 then (⟨c, o, none⟩ : Addr) else ⟨c, o + 0 * te.size, none⟩) = ⟨c, o, none⟩ := by split <;> simp
      rw [this]
      exact VR.sl_mk hb hhc hcc hcm hex1 hex2
    · rename_i h0
      split at hv
      · rename_i hlt hex
        cases hv
        have hlt : ll < cap := by simpa [Nat.blt_eq] using hlt
        refine ⟨_, hrun, ?_⟩
        rw [if_neg (by omega)]
        refine VR.sl_mk hb (by omega) (by omega) (by omega) (fun e => by rw [hex1 e]) (fun sz hsz => ?_)
        have e1 := hex2 sz hsz
        have e2 : sz = te.size := by
          rw [hsz] at hex
          exact Nat.eq_of_beq_eq_true hex
        subst e2
        rw [e1]
        congr 1
        rw [Nat.add_assoc, ← Nat.add_mul]
        congr 2
        omega
      · cases hv
  · -- three bounds
    rename_i m0
    split at hv
    · cases hv
    rename_i h0
    split at hv
    · cases hv
    rename_i mm hmb
    split at hv
    · cases hv
    rename_i hh hhb
    split at hv
    · cases hv
    rename_i ll hlb
    have hlhh : ll ≤ hh := by
      rcases boundV_some hlb hlo with ⟨_, _, rfl⟩ | ⟨k, _, hle⟩
      · exact Nat.zero_le _
      · exact hle
    rcases boundV_some hmb hmx with ⟨_, e, _⟩ | ⟨km, rfl, hmle⟩
    · cases e
    rcases boundV_some hhb hhi with ⟨_, e, _⟩ | ⟨kh, rfl, hhle⟩
    · cases e
    have hrun : (Instr.slice t (.slice (some ⟨c, o, none⟩) len cp) l' (some (.int kh hh)) (some (.int km mm))).run P w = .ok (.slice (some (if mm = ll then ⟨c, o, none⟩ else ⟨c, o + ll * te.size, none⟩)) (hh - ll) (mm - ll)) w := by
      rcases boundV_some hlb hlo with ⟨rfl, _, rfl⟩ | ⟨k2, rfl, hle2⟩
      · simp [Instr.slice, run_underlying hu, Instr.sliceBounds, hs, Addr.add_lit, bound_run, hhle, show mm ≤ cp by omega]
      · simp [Instr.slice, run_underlying hu, Instr.sliceBounds, hs, Addr.add_lit, bound_run, hhle, hle2, show mm ≤ cp by omega]; split <;> rfl
    refine ⟨_, hrun, ?_⟩
    split at hv
    · rename_i he
      cases hv
      rw [if_pos (Nat.eq_of_beq_eq_true he)]
      exact VR.sl_mk hb (by omega) (Nat.le_refl _) (by omega) (fun _ => rfl) (fun _ h => by cases h)
    · rename_i he
      cases hv
      rw [if_neg (Nat.ne_of_beq_eq_false he)]
      exact VR.sl_mk hb (by omega) (Nat.le_refl _) (by omega) (fun _ => rfl) (fun _ h => by cases h)
theorem sliceA_sound {t e n : Nat} {ti te : TI} (ht : tiOf P t = some ti) (hd : ti.d = .arr n e) (hte : tiOf P e = some te) {b o : Nat} {lo hi : Option V} {v : V} (hv : sliceA te.size b o n lo hi = some v) {x : Value} (hx : VR ι (.ptr b o) x) {l' h' : Option Value} (hlo : OVR ι lo l') (hhi : OVR ι hi h') :
    ∃ y, (Instr.sliceAt t x l' h' none).run P w = .ok y w ∧ VR ι v y := by
  simp only [VR] at hx
  obtain ⟨c, hb, rfl⟩ := hx
  have hu := under_arr ht hd
  have hs := run_size (w := w) hte
  unfold sliceA at hv
  split at hv
  · cases hv
  rename_i hh hhb
  split at hv
  rotate_left
  · cases hv
  rename_i ll hlb hnm
  have hnm := Nat.le_of_ble_eq_true hnm
  have hlhh : ll ≤ hh := by
    rcases boundV_some hlb hlo with ⟨_, _, rfl⟩ | ⟨k, _, hle⟩
    · exact Nat.zero_le _
    · exact hle
  have hhc : hh ≤ n := by
    rcases boundV_some hhb hhi with ⟨_, _, rfl⟩ | ⟨k, _, hle⟩
    · exact Nat.le_refl _
    · exact hle
  have hrun : (Instr.sliceAt t (.pointer (some ⟨c, o, none⟩)) l' h' none).run P w = .ok (.slice (some (if n = ll then ⟨c, o, none⟩ else ⟨c, o + ll * te.size, none⟩)) (hh - ll) (n - ll)) w := by
    rcases boundV_some hhb hhi with ⟨rfl, _, rfl⟩ | ⟨k, rfl, hle⟩ <;> rcases boundV_some hlb hlo with ⟨rfl, _, rfl⟩ | ⟨k2, rfl, hle2⟩
    · simp [Instr.sliceAt, Instr.sureAddr, run_underlying hu, Instr.sliceBounds, hs, Addr.add_lit]
    · simp [Instr.sliceAt, Instr.sureAddr, run_underlying hu, Instr.sliceBounds, hs, Addr.add_lit, bound_run, hle2]
    · simp [Instr.sliceAt, Instr.sureAddr, run_underlying hu, Instr.sliceBounds, hs, Addr.add_lit, bound_run, hle]
    · simp [Instr.sliceAt, Instr.sureAddr, run_underlying hu, Instr.sliceBounds, hs, Addr.add_lit, bound_run, hle2, hle]
  refine ⟨_, hrun, ?_⟩
  split at hv
  · rename_i hq
    cases hv
    rw [if_pos (Nat.eq_of_beq_eq_true hq)]
    exact VR.sl_mk hb (by omega) (Nat.le_refl _) (by omega) (fun _ => rfl) (fun _ h => by cases h)
  · rename_i hq
    cases hv
    rw [if_neg (Nat.ne_of_beq_eq_false hq)]
    exact VR.sl_mk hb (by omega) (Nat.le_refl _) (by omega) (fun _ => rfl) (fun _ h => by cases h)
theorem sliceN_sound {t e : TypeId} {ti te : TI} (ht : tiOf P t = some ti) (hd : ti.d = .sl e) (hte : tiOf P e = some te) {lo hi mx : Option V} {v : V} (hv : sliceN lo hi mx = some v) {l' h' m' : Option Value} (hlo : OVR ι lo l') (hhi : OVR ι hi h') (hmx : OVR ι mx m') :
    ∃ y, (Instr.sliceAt t (.slice none 0 0) l' h' m').run P w = .ok y w ∧ VR ι v y := by
  have hu := under_sl ht hd
  have hs := run_size (w := w) hte
  unfold sliceN at hv
  split at hv
  · cases hv
  rename_i mm hmb
  split at hv
  · cases hv
  rename_i hh hhb
  split at hv
  · cases hv
  rename_i ll hlb
  have fin : v = .nilsl → ∃ y : Value, (Result.ok (Value.slice none 0 0) w = Result.ok y w) ∧ VR ι v y := fun e => ⟨_, rfl, by subst e; simp only [VR]⟩
  have hm0 : m' = none ∨ ∃ k, m' = some (.int k 0) := by
    rcases boundV_some hmb hmx with ⟨h1, _, _⟩ | ⟨k, h1, h2⟩
    · exact .inl h1
    · exact .inr ⟨k, by rw [h1, show mm = 0 by omega]; rfl⟩
  have hh0 : h' = none ∨ ∃ k, h' = some (.int k 0) := by
    rcases boundV_some hhb hhi with ⟨h1, _, _⟩ | ⟨k, h1, h2⟩
    · exact .inl h1
    · exact .inr ⟨k, by rw [h1, show hh = 0 by omega]; rfl⟩
  have hl0 : l' = none ∨ ∃ k, l' = some (.int k 0) := by
    rcases boundV_some hlb hlo with ⟨h1, _, _⟩ | ⟨k, h1, h2⟩
    · exact .inl h1
    · exact .inr ⟨k, by rw [h1, show ll = 0 by omega]; rfl⟩
  have hv2 : v = .nilsl ∧ (m' ≠ none → h' ≠ none) := by
    cases mx with
    | none => cases hv; exact ⟨rfl, fun h => absurd hmx h⟩
    | some mv =>
      cases hi with
      | none => cases hv
      | some hv' =>
        cases hv
        refine ⟨rfl, fun _ h => ?_⟩
        obtain ⟨_, h1, _⟩ := hhi
        rw [h1] at h; cases h
  have b0 : ∀ (k : IntKind) (code : BoundsCode), (Instr.sliceBound (.int k 0) 0 code).run P w = .ok 0 w := fun k code => bound_run k 0 0 code (Nat.le_refl _)
  obtain ⟨y, hy, hyv⟩ := fin hv2.1
  cases hy
  refine ⟨_, ?_, hyv⟩
  rcases hm0 with rfl | ⟨km, rfl⟩ <;> rcases hh0 with rfl | ⟨kh, rfl⟩ <;> rcases hl0 with rfl | ⟨kl, rfl⟩
  all_goals first
    | (simp [Instr.sliceAt, run_underlying hu, Instr.slice, Instr.sliceBounds, hs, b0]; done)
    | (refine absurd (rfl : (none : Option Value) = none) (hv2.2 ?_); simp; done)
end
end Go.Proofs.Ytamhijbnmhdhbaa.E
