/- hibernaclelaw30.MachineSame answers true at every input, and each argument reads behind the call as it read before: the tied card. Conditions: none beyond the given card's own cells. -/
import Derived.Test.YtpafjgeiihgcoaaGreatDoorRowS
import Derived.Test.YtpafjgeiihgcoaaGreatDoorTie
import Derived.Test.YtpafjgeiihgcoaaGreatDoorCards
import Derived.SevenTiedAt

section
/- hibernaclelaw30.MachineSame answers true at every input, and each argument reads behind the call as it read before: the tied card. Condition: none beyond the given card's own cells. -/
namespace Go.Proofs.YtpafjgeiihgcoaaGreatDoor
open Go
set_option maxRecDepth 100000
theorem machineSame_wf : Rows.machineSameRow.wfByText (OpenSpec.ofChange Rows.machineSameSpec) = true := by kernel_rfl
theorem machineSame_main : Tryz.prog.mainIs = some (true, "d3cdef7bf8e87760c47294c1a9c63794c2d9206fe674d0df100b3f1c11682438".toList) := by kernel_rfl
theorem machineSame_looks : true = Tryz.prog.looks [] := by kernel_rfl
theorem machineSame_goes : false = Rows.machineSameRow.goesBy Tryz.prog := by kernel_rfl
theorem machineSame_p30 : Tryz.prog.wantsStandIn 30 = false := by kernel_rfl
theorem machineSame_p5 : Tryz.prog.wantsStandIn 5 = false := by kernel_rfl
theorem machineSame_stands (j : Nat) (t : TypeId) (ht : Tryz.f3.params[j]? = some t) : Tryz.prog.wantsStandIn t = false := by
  rw [Tryz.params3] at ht
  rcases j with _ | j
  · cases ht; exact machineSame_p30
  rcases j with _ | j
  · cases ht; exact machineSame_p30
  rcases j with _ | j
  · cases ht; exact machineSame_p5
  simp at ht

theorem machineSame_card : Rows.MachineSameCardSaid :=
  Claim7.holds_tied_plain_at .later [] [.data, .pinned] true (true, "d3cdef7bf8e87760c47294c1a9c63794c2d9206fe674d0df100b3f1c11682438") true
    machineSame_holds (fun _ h => by cases h) machineSame_wf (fun _ h => by cases h) machineSame_row_tie rfl ⟨rfl, rfl⟩ machineSame_main rfl
    (fun f fn hf hfn => by
      obtain rfl : f = 3 := Option.some.inj (machineSame_named.symm.trans hf) |>.symm
      obtain rfl : fn = Tryz.f3 := (Option.some.inj (Tryz.func3.symm.trans hfn)).symm
      exact ⟨machineSame_looks, fun j t ht => machineSame_stands j t ht⟩)
    machineSame_goes
end Go.Proofs.YtpafjgeiihgcoaaGreatDoor
end
