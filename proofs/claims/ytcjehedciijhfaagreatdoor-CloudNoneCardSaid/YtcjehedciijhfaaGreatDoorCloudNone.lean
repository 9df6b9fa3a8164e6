/- A cloud that isn't there has nothing, and gives nothing; without a store there is no pass, nor with a tick that may not be: for every group, number and tick. Condition: none but the row's own (tables of the library). -/
import Derived.Test.YtcjehedciijhfaaGreatDoorRun
import Derived.Test.YtcjehedciijhfaaGreatDoorCloudNoneLift
namespace Go.Proofs.YtcjehedciijhfaaGreatDoor.E
open Go.ChangeShapes Go.WideShapes Go.ChangeAt Go.RowKit Go.Deep

def inl24 (f : Nat) : Bool := memN f [81, 83, 127]
theorem lives24_says : says drK Tryz.prog 100000 6 nG noA noL inl24 noS cpX tabs [] true = true := by kernel_rfl
def cllen : List (Nat × V) := [(0, .atom 3)]
def cllong : List Fact := [⟨.gtr, .atom 3, .int .i64 100, .bool true⟩]
def clneg : List Fact := [⟨.gtr, .atom 3, .int .i64 100, .bool false⟩, ⟨.lss, .atom 2, .int .i64 0, .bool true⟩, ⟨.geq, .atom 2, .int .i64 0, .bool false⟩]
def clbig : List Fact := [⟨.gtr, .atom 3, .int .i64 100, .bool false⟩, ⟨.lss, .atom 2, .int .i64 0, .bool false⟩, ⟨.gtr, .atom 2, .int .i64 4611686018427387904, .bool true⟩, ⟨.geq, .atom 2, .int .i64 0, .bool true⟩, ⟨.leq, .atom 2, .int .i64 4611686018427387904, .bool false⟩]
def clmid : List Fact := [⟨.gtr, .atom 3, .int .i64 100, .bool false⟩, ⟨.lss, .atom 2, .int .i64 0, .bool false⟩, ⟨.gtr, .atom 2, .int .i64 4611686018427387904, .bool false⟩, ⟨.geq, .atom 2, .int .i64 0, .bool true⟩, ⟨.leq, .atom 2, .int .i64 4611686018427387904, .bool true⟩, ⟨.add, .atom 2, .int .i64 0, .atom 2⟩]
noncomputable def clSays (fs : List Fact) : Bool := says drK Tryz.prog 100000 3 nG (factA fs) (factL cllen) noI (oneS 6) cpX tabs [.atom 0, .atom 1, .atom 2] true
theorem clSays_long : clSays cllong = true := by kernel_rfl
theorem clSays_neg : clSays clneg = true := by kernel_rfl
theorem clSays_big : clSays clbig = true := by kernel_rfl
theorem clSays_mid : clSays clmid = true := by kernel_rfl
theorem cloudNone_walk : lCloudNone.Walk := by
  intro group n now w _ _ _ hL
  obtain ⟨at_, h0, h1, h2, h3, h4⟩ : ∃ at_ : Nat → Value, at_ 0 = .string group ∧ at_ 1 = .int .i64 n ∧ at_ 2 = .int .i64 now ∧ at_ 3 = .int .i64 (group.size : Int) ∧ ∀ k, (at_ k).oneCell' = true :=
    ⟨fun | 0 => .string group | 1 => .int .i64 n | 2 => .int .i64 now | _ => .int .i64 (group.size : Int), rfl, rfl, rfl, rfl, fun | 0 => rfl | 1 => rfl | 2 => rfl | _ + 3 => rfl⟩
  have hx : VRs (I0 nG at_) [.atom 0, .atom 1, .atom 2] [.string group, .int .i64 n, .int .i64 now] :=
    VRs.cons_iff.2 ⟨_, _, by simp only [VR]; exact ⟨h0.symm, rfl⟩, VRs.cons_iff.2 ⟨_, _, by simp only [VR]; exact ⟨h1.symm, rfl⟩, VRs.cons_iff.2 ⟨_, _, by simp only [VR]; exact ⟨h2.symm, rfl⟩, VRs.nil_iff.2 rfl, rfl⟩, rfl⟩, rfl⟩
  have a2 : asInt at_ (.atom 2) = some (.i64, now) := by simp only [asInt, h2]
  have a3 : asInt at_ (.atom 3) = some (.i64, (group.size : Int)) := by simp only [asInt, h3]
  have c : ∀ n : Int, asInt at_ (.int .i64 n) = some (.i64, n) := fun _ => rfl
  have fin : ∀ fs : List Fact, clSays fs = true → (∀ f ∈ fs, FactOk Tryz.prog at_ f) →
      Calls Tryz.prog 3 #[.string group, .int .i64 n, .int .i64 now] w fun e w' => e = .returned (.bool true) ∧ Below w.heap.size w w' := fun fs hs hf =>
    says_sound hs (Cf.of_ok _ _ _ _ _ _ _ _ mixedP tabs_in cpX_ok (oneS_ok (lives_of lives24_says))) rfl rfl hL at_ (atoms_facts (ls := cllen) h4 hf fun p hp => by
      simp only [cllen, List.mem_cons, List.not_mem_nil, or_false] at hp
      subst hp
      exact ⟨group, h0, a3⟩) hx
  by_cases hlen : 100 < (group.size : Int)
  · refine fin cllong clSays_long fun f hf => ?_
    simp only [cllong, List.mem_cons, List.not_mem_nil, or_false] at hf
    subst hf
    exact fact_gtr a3 (c _) (decide_eq_true hlen)
  by_cases hneg : now < 0
  · refine fin clneg clSays_neg fun f hf => ?_
    simp only [clneg, List.mem_cons, List.not_mem_nil, or_false] at hf
    rcases hf with rfl | rfl | rfl
    · exact fact_gtr a3 (c _) (decide_eq_false hlen)
    · exact fact_lss a2 (c _) (decide_eq_true hneg)
    · exact fact_geq a2 (c _) (decide_eq_false (by omega))
  by_cases hbig : 4611686018427387904 < now
  · refine fin clbig clSays_big fun f hf => ?_
    simp only [clbig, List.mem_cons, List.not_mem_nil, or_false] at hf
    rcases hf with rfl | rfl | rfl | rfl | rfl
    · exact fact_gtr a3 (c _) (decide_eq_false hlen)
    · exact fact_lss a2 (c _) (decide_eq_false hneg)
    · exact fact_gtr a2 (c _) (decide_eq_true hbig)
    · exact fact_geq a2 (c _) (decide_eq_true (by omega))
    · exact fact_leq a2 (c _) (decide_eq_false (by omega))
  · refine fin clmid clSays_mid fun f hf => ?_
    simp only [clmid, List.mem_cons, List.not_mem_nil, or_false] at hf
    rcases hf with rfl | rfl | rfl | rfl | rfl | rfl
    · exact fact_gtr a3 (c _) (decide_eq_false hlen)
    · exact fact_lss a2 (c _) (decide_eq_false hneg)
    · exact fact_gtr a2 (c _) (decide_eq_false hbig)
    · exact fact_geq a2 (c _) (decide_eq_true (by omega))
    · exact fact_leq a2 (c _) (decide_eq_true (by omega))
    · refine fact_add a2 (c _) ?_
      rw [a2, Int.add_zero, IntWalk.i64_in _ (by omega)]
end Go.Proofs.YtcjehedciijhfaaGreatDoor.E
namespace Go.Proofs.YtcjehedciijhfaaGreatDoor
open Go
theorem CloudNone_row : Rows.CloudNoneSaid := lCloudNone.over E.cloudNone_walk
end Go.Proofs.YtcjehedciijhfaaGreatDoor
