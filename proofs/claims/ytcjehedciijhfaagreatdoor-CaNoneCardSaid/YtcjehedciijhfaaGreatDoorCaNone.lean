/- Without an autoscaler, a store, or a cloud, nothing is done; nor with a tick that may not be, or one below the last one: for every tick, seed and number of writings. Condition: none but the row's own (tables of the library). -/
import Derived.Test.YtcjehedciijhfaaGreatDoorLives28
import Derived.Test.YtcjehedciijhfaaGreatDoorE39
import Derived.Test.YtcjehedciijhfaaGreatDoorCaNoneLift
namespace Go.Proofs.YtcjehedciijhfaaGreatDoor.E
open Go.ChangeShapes Go.WideShapes Go.ChangeAt Go.RowKit Go.Deep

def cloneX (f : Nat) : Bool := Nat.beq f 86
theorem cloneX_ok : ∀ f, cloneX f = true → ∃ fn, Tryz.prog.funcs[f]? = some fn ∧ (fn.name == "runtime.NumGoroutine") = false ∧ fn.body.isNone = true ∧ Extern.findNext fn = none ∧ Extern.find fn = some Extern.MapsClone.clone := by
  intro f h
  have h := Nat.eq_of_beq_eq_true h
  subst h
  exact ⟨_, Tryz.func86, by kernel_rfl, by kernel_rfl, by kernel_rfl, by kernel_rfl⟩
theorem tabs_lt : ∀ x ∈ tabs, x.g < nG := by
  intro x hx
  simp only [tabs, List.mem_cons, List.not_mem_nil, or_false] at hx
  subst hx
  decide
theorem lives28 {w : World} (hL : Laid w nG tabs) : Calls Tryz.prog 18 #[] w fun e w' => e = .returned (.bool true) ∧ Below w.heap.size w w' :=
  says_sound lives28_says (Cf.of_ok _ _ _ _ _ _ _ _ mixed tabs_lt (fun _ h => by cases h) (fun _ _ h => by cases h)) rfl rfl hL (fun _ => .bool true) (atoms_none _ _ _ _ _ _ fun _ => rfl) (VRs.nil_iff.2 rfl)
def lives28S (f : Nat) : Option V :=
  match Nat.beq f 18 with
  | true => some (.bool true)
  | false => none
theorem lives28S_ok : ∀ f v, lives28S f = some v → ∀ w : World, Laid w nG tabs → Calls Tryz.prog f #[] w fun e w' => ∃ y, e = .returned y ∧ (∀ ι : I, VR ι v y) ∧ Below w.heap.size w w' := by
  intro f v h w hL
  unfold lives28S at h
  split at h
  · rename_i hf
    cases h
    have hf := Nat.eq_of_beq_eq_true hf
    subst hf
    exact (lives28 hL).mono fun e w' ⟨h1, h2⟩ => ⟨_, h1, fun ι => by simp only [VR], h2⟩
  · cases h
def caneg : List Fact := [⟨.lss, .atom 0, .int .i64 0, .bool true⟩, ⟨.geq, .atom 0, .int .i64 0, .bool false⟩]
def cabig : List Fact := [⟨.lss, .atom 0, .int .i64 0, .bool false⟩, ⟨.gtr, .atom 0, .int .i64 4611686018427387904, .bool true⟩, ⟨.geq, .atom 0, .int .i64 0, .bool true⟩, ⟨.leq, .atom 0, .int .i64 4611686018427387904, .bool false⟩]
def camid : List Fact := [⟨.lss, .atom 0, .int .i64 0, .bool false⟩, ⟨.gtr, .atom 0, .int .i64 4611686018427387904, .bool false⟩, ⟨.geq, .atom 0, .int .i64 0, .bool true⟩, ⟨.leq, .atom 0, .int .i64 4611686018427387904, .bool true⟩, ⟨.gtr, .atom 0, .int .i64 0, .bool true⟩, ⟨.lss, .int .i64 0, .atom 0, .bool true⟩]
theorem says_neg : says drK Tryz.prog 100000 4 nG (factA caneg) (factL []) noI lives28S cloneX tabs [.atom 0, .atom 1, .atom 2] true = true := by kernel_rfl
theorem says_big : says drK Tryz.prog 100000 4 nG (factA cabig) (factL []) noI lives28S cloneX tabs [.atom 0, .atom 1, .atom 2] true = true := by kernel_rfl
theorem says_mid : says drK Tryz.prog 100000 4 nG (factA camid) (factL []) noI lives28S cloneX tabs [.atom 0, .atom 1, .atom 2] true = true := by kernel_rfl
theorem says_zero : says drK Tryz.prog 100000 4 nG noA noL noI lives28S cloneX tabs [.int .i64 0, .atom 1, .atom 2] true = true := by kernel_rfl
theorem caNone_walk : lCaNone.Walk := by
  intro now seed writes w _ _ _ hL
  obtain ⟨at_, h0, h1, h2, h3⟩ : ∃ at_ : Nat → Value, at_ 0 = .int .i64 now ∧ at_ 1 = .int .u64 seed ∧ at_ 2 = .int .i64 writes ∧ ∀ k, (at_ k).oneCell' = true :=
    ⟨fun k => if k = 0 then .int .i64 now else if k = 1 then .int .u64 seed else .int .i64 writes, rfl, rfl, rfl, fun k => by dsimp only; split <;> first | rfl | (split <;> rfl)⟩
  have hx : VRs (I0 nG at_) [.atom 0, .atom 1, .atom 2] [.int .i64 now, .int .u64 seed, .int .i64 writes] :=
    VRs.cons_iff.2 ⟨_, _, by simp only [VR]; exact ⟨h0.symm, rfl⟩, VRs.cons_iff.2 ⟨_, _, by simp only [VR]; exact ⟨h1.symm, rfl⟩, VRs.cons_iff.2 ⟨_, _, by simp only [VR]; exact ⟨h2.symm, rfl⟩, VRs.nil_iff.2 rfl, rfl⟩, rfl⟩, rfl⟩
  have a0 : asInt at_ (.atom 0) = some (.i64, now) := by simp only [asInt, h0]
  have c : ∀ n : Int, asInt at_ (.int .i64 n) = some (.i64, n) := fun _ => rfl
  have ok : ∀ (A : BinOp → V → V → Option V) (L : V → Option V), (Cf.of Tryz.prog nG A L noI lives28S cloneX tabs).Ok Tryz.prog := fun A L => Cf.of_ok _ _ A L _ _ _ _ mixed tabs_lt cloneX_ok lives28S_ok
  have fin : ∀ fs : List Fact, says drK Tryz.prog 100000 4 nG (factA fs) (factL []) noI lives28S cloneX tabs [.atom 0, .atom 1, .atom 2] true = true → (∀ f ∈ fs, FactOk Tryz.prog at_ f) →
      Calls Tryz.prog 4 #[.int .i64 now, .int .u64 seed, .int .i64 writes] w fun e w' => e = .returned (.bool true) ∧ Below w.heap.size w w' := fun fs hs hf =>
    says_sound hs (ok _ _) rfl rfl hL at_ (atoms_facts (ls := []) h3 hf (fun _ h => by cases h)) hx
  by_cases hneg : now < 0
  · refine fin caneg says_neg fun f hf => ?_
    simp only [caneg, List.mem_cons, List.not_mem_nil, or_false] at hf
    rcases hf with rfl | rfl
    · exact fact_lss a0 (c _) (decide_eq_true hneg)
    · exact fact_geq a0 (c _) (decide_eq_false (by omega))
  by_cases hbig : 4611686018427387904 < now
  · refine fin cabig says_big fun f hf => ?_
    simp only [cabig, List.mem_cons, List.not_mem_nil, or_false] at hf
    rcases hf with rfl | rfl | rfl | rfl
    · exact fact_lss a0 (c _) (decide_eq_false hneg)
    · exact fact_gtr a0 (c _) (decide_eq_true hbig)
    · exact fact_geq a0 (c _) (decide_eq_true (by omega))
    · exact fact_leq a0 (c _) (decide_eq_false (by omega))
  by_cases hz : now = 0
  · subst hz
    have hx0 : VRs (I0 nG at_) [.int .i64 0, .atom 1, .atom 2] [.int .i64 0, .int .u64 seed, .int .i64 writes] :=
      VRs.cons_iff.2 ⟨_, _, by simp only [VR], VRs.cons_iff.2 ⟨_, _, by simp only [VR]; exact ⟨h1.symm, rfl⟩, VRs.cons_iff.2 ⟨_, _, by simp only [VR]; exact ⟨h2.symm, rfl⟩, VRs.nil_iff.2 rfl, rfl⟩, rfl⟩, rfl⟩
    exact says_sound says_zero (ok _ _) rfl rfl hL at_ (atoms_none _ _ _ _ _ _ h3) hx0
  · refine fin camid says_mid fun f hf => ?_
    simp only [camid, List.mem_cons, List.not_mem_nil, or_false] at hf
    rcases hf with rfl | rfl | rfl | rfl | rfl | rfl
    · exact fact_lss a0 (c _) (decide_eq_false hneg)
    · exact fact_gtr a0 (c _) (decide_eq_false hbig)
    · exact fact_geq a0 (c _) (decide_eq_true (by omega))
    · exact fact_leq a0 (c _) (decide_eq_true (by omega))
    · exact fact_gtr a0 (c _) (decide_eq_true (by omega))
    · exact fact_lss (c _) a0 (decide_eq_true (by omega))
end Go.Proofs.YtcjehedciijhfaaGreatDoor.E
namespace Go.Proofs.YtcjehedciijhfaaGreatDoor
open Go
theorem CaNone_row : Rows.CaNoneSaid := lCaNone.over E.caNone_walk
end Go.Proofs.YtcjehedciijhfaaGreatDoor
