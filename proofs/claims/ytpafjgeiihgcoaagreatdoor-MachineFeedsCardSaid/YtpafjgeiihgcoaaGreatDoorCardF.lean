/- hibernaclelaw30.MachineFeeds answers true at every input, and each argument reads behind the call as it read before: the tied card. Conditions: none beyond the given card's own cells. -/
import Derived.Test.YtpafjgeiihgcoaaGreatDoorRowF
import Derived.Test.YtpafjgeiihgcoaaGreatDoorTie
import Derived.Test.YtpafjgeiihgcoaaGreatDoorCards
import Derived.SevenTiedAt

section
/- hibernaclelaw30.MachineFeeds answers true at every input, and each argument reads behind the call as it read before: the tied card. Condition: none beyond the given card's own cells. -/
namespace Go.Proofs.YtpafjgeiihgcoaaGreatDoor
open Go
set_option maxRecDepth 100000
theorem machineFeeds_wf : Rows.machineFeedsRow.wfByText (OpenSpec.ofChange Rows.machineFeedsSpec) = true := by kernel_rfl
theorem machineFeeds_main : Tryz.prog.mainIs = some (true, "d3cdef7bf8e87760c47294c1a9c63794c2d9206fe674d0df100b3f1c11682438".toList) := by kernel_rfl
theorem machineFeeds_looks : true = Tryz.prog.looks [] := by kernel_rfl
theorem machineFeeds_goes : false = Rows.machineFeedsRow.goesBy Tryz.prog := by kernel_rfl
theorem machineFeeds_p30 : Tryz.prog.wantsStandIn 30 = false := by kernel_rfl
theorem machineFeeds_p4 : Tryz.prog.wantsStandIn 4 = false := by kernel_rfl
theorem machineFeeds_p9 : Tryz.prog.wantsStandIn 9 = false := by kernel_rfl
theorem machineFeeds_stands (j : Nat) (t : TypeId) (ht : Tryz.f4.params[j]? = some t) : Tryz.prog.wantsStandIn t = false := by
  rw [Tryz.params4] at ht
  rcases j with _ | j
  · cases ht; exact machineFeeds_p30
  rcases j with _ | j
  · cases ht; exact machineFeeds_p9
  rcases j with _ | j
  · cases ht; exact machineFeeds_p9
  rcases j with _ | j
  · cases ht; exact machineFeeds_p4
  simp at ht

theorem machineFeeds_card : Rows.MachineFeedsCardSaid :=
  Claim7.holds_tied_plain_at .later [] [.data, .pinned] true (true, "d3cdef7bf8e87760c47294c1a9c63794c2d9206fe674d0df100b3f1c11682438") true
    machineFeeds_holds (fun _ h => by cases h) machineFeeds_wf (fun _ h => by cases h) machineFeeds_row_tie rfl ⟨rfl, rfl⟩ machineFeeds_main rfl
    (fun f fn hf hfn => by
      obtain rfl : f = 4 := Option.some.inj (machineFeeds_named.symm.trans hf) |>.symm
      obtain rfl : fn = Tryz.f4 := (Option.some.inj (Tryz.func4.symm.trans hfn)).symm
      exact ⟨machineFeeds_looks, fun j t ht => machineFeeds_stands j t ht⟩)
    machineFeeds_goes
end Go.Proofs.YtpafjgeiihgcoaaGreatDoor
end
