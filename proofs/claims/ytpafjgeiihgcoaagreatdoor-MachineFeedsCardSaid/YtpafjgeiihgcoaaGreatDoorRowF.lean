/- A part of the proof: HbRow3. No conditions. -/
import Derived.Test.YtpafjgeiihgcoaaGreatDoorOpens
import Derived.Lay
import Derived.ChangeMaps5
import Derived.Test.YtpafjgeiihgcoaaGreatDoorFactsF

section
/- The row of MachineFeeds, proved. -/
set_option linter.unusedVariables false
set_option linter.unusedSimpArgs false
namespace Go.Proofs.YtpafjgeiihgcoaaGreatDoor
open Go.ChangeShapes Go.WideShapes Go.ChangeAt Go.RowKit Go.ChangeMaps


/-- The witness meets the row's condition. -/
theorem laid_met (os : Os) (args : Array Value) : laidMetH Tryz.prog Rows.machineFeedsRow.laid ((World.laidAll Tryz.prog os Rows.machineFeedsRow.laid).forCall (fun _ _ => 0) ⟨#[], args, []⟩).memory := by
  rw [MakeChecks.laidMetH_plain _ _ _ (by kernel_rfl)]
  exact laidMet_laidAll _ (by kernel_rfl) (by kernel_rfl)

set_option maxRecDepth 100000 in
theorem machineFeeds_lifted (os : Os) (started : os.Started) (H : Type) (enc : TypeId × Value → H) :
    ReturnsInHanded {} Tryz.checked os 4 .any (fun w args => (Rows.machineFeedsSpec.pre enc Tryz.prog Tryz.f4 [] false w args ∧ laidMetH Tryz.prog Rows.machineFeedsRow.laid w) ∧ sizedMet enc Tryz.prog Tryz.f4 (OpenSpec.ofChange Rows.machineFeedsSpec) false w args)
      (Rows.machineFeedsSpec.post enc Tryz.prog Tryz.f4 false true false false) := by
  refine returnsInHanded_of_change_and (C := Tryz.checked) (X := fun w _ => laidMetH Tryz.prog Rows.machineFeedsRow.laid w) (fun _ _ _ hh h => h.of_heap hh) Tryz.own started (by kernel_rfl) Tryz.func4
    (ChangeSpec.witness_shaped (enc := enc) (C := Tryz.checked) (os := os) (X := fun w _ => laidMetH Tryz.prog Rows.machineFeedsRow.laid w) false (World.laidAll Tryz.prog os Rows.machineFeedsRow.laid) #[.agg Go.Ev.zeroVs.toArray, .string ⟨#[]⟩, .string ⟨#[]⟩, .bool false] 8 (World.laidAll_os _ _ _) (World.shaped_of_ZipB (by kernel_rfl) (by kernel_rfl)) (by kernel_rfl) (by kernel_rfl) (by kernel_rfl) (laid_met os _)) ?_
  intro W base args ds gs before hval0 hW _ _ hL _
  have hval : ∀ (j : Nat) t v, Tryz.f4.params[j]? = some t → args[j]? = some v → Value.okWide Tryz.prog W .any base t v := hval0
  have hW' := hW
  obtain ⟨p, q, hA0, hV, rfl, hfz, hnd⟩ := hW
  have hA : DataW.TrodAll enc Tryz.prog W 0 (fun _ => true) true Tryz.f4.params.toList args.toList ds p := hA0
  rw [Tryz.params4] at hA hval
  obtain ⟨v0, v1, v2, v3, d0, d1, d2, d3, p0, p1, p2, p3, rfl, rfl, rfl, h0, h1, h2, h3⟩ := trodAll_four hA
  obtain ⟨rfl, rfl⟩ := trodVars_none hV
  have hu9 : Tryz.prog.underlying 9 = some .string := Go.Ev.u9
  have hu4 : Tryz.prog.underlying 4 = some .bool := Go.Ev.u4
  obtain ⟨s, rfl, -⟩ := open_string hu9 (hval 1 9 v1 rfl rfl) h1
  obtain ⟨u, rfl, -⟩ := open_string hu9 (hval 2 9 v2 rfl rfl) h2
  obtain ⟨e, rfl, -⟩ := open_bool hu4 (hval 3 4 v3 rfl rfl) h3
  have h30 := hval 0 30 v0 rfl rfl
  obtain ⟨cs, rfl⟩ : ∃ cs, v0 = .agg cs := by
    have hf := Go.Ev.fields30
    unfold Value.okWide at h30
    split at hf
    · rename_i fs hd
      simp only [hd] at h30
      obtain ⟨cs, rfl, -⟩ := h30
      exact ⟨cs, rfl⟩
    · cases hf
  obtain ⟨fuel, h0'⟩ := h0
  obtain ⟨m, hm, hr⟩ := Go.Ev.open_mach (cs := cs.toList) ⟨fuel, _, h0'⟩
  rw [Array.toArray_toList] at hr
  refine (calls_of_con (Go.Ev.feeds_con hm s u e) (vs := [.agg cs, .string s, .string u, .bool e]) (.cons hr (.cons (.v rfl) (.cons (.v rfl) (.cons (.v rfl) .nil))))).mono fun ex W' ⟨he, hb⟩ => ?_
  subst he
  exact ⟨_, rfl, post_below hW' hb⟩

theorem machineFeeds_named : Tryz.prog.funcNamed Rows.machineFeedsRow.func = some 4 := by kernel_rfl
theorem machineFeeds_instance : Tryz.f4.isInstance Tryz.prog Rows.machineFeedsRow.origin Rows.machineFeedsRow.targs := of_decide_eq_true (by kernel_rfl)
theorem machineFeeds_wrapper : Tryz.f4.isWrapper Tryz.prog Rows.machineFeedsRow.wrapper Rows.machineFeedsRow.mainSum := by
  unfold Func.isWrapper; first | (rw [if_pos (by decide +kernel)]; kernel_rfl) | (rw [if_neg (by decide +kernel)]; exact ⟨rfl, rfl⟩)

theorem machineFeeds_holds : Rows.MachineFeedsSaid :=
  OpenClaim.holds_of_wide 4 Tryz.f4 rfl rfl rfl rfl rfl rfl rfl ⟨rfl, rfl, rfl, rfl, rfl⟩ rfl rfl rfl rfl rfl machineFeeds_named Tryz.func4 machineFeedsFacts.all
    machineFeeds_instance machineFeeds_wrapper
    (fun os started H enc _ => machineFeeds_lifted os started H enc)
end Go.Proofs.YtpafjgeiihgcoaaGreatDoor
end
