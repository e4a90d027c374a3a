/- A part of the proof: HbRow4. No conditions. -/
import Derived.Test.YtpafjgeiihgcoaaGreatDoorSameC
import Derived.Test.YtpafjgeiihgcoaaGreatDoorFactsS
import Derived.Lay
import Derived.ChangeMaps5

section
/- The row of MachineSame, proved. -/
set_option linter.unusedVariables false
set_option linter.unusedSimpArgs false
set_option linter.constructorNameAsVariable false
set_option maxRecDepth 100000
namespace Go.Proofs.YtpafjgeiihgcoaaGreatDoor
open Go.ChangeShapes Go.WideShapes Go.ChangeAt Go.RowKit Go.ChangeMaps

theorem post_below3 {H : Type} {enc : TypeId × Value → H} {W W' : World} {v0 v1 v2 : Value} {d0 d1 d2 : DataW H} {before : List MemPlace}
    (hW : DataW.Whole enc Tryz.prog Tryz.f3.params.toList Rows.machineSameSpec.vars false W [v0, v1, v2] [d0, d1, d2] [] before) (hb : Below W.heap.size W W') :
    Rows.machineSameSpec.post enc Tryz.prog Tryz.f3 false true false false W #[v0, v1, v2] (.bool true) W' := by
  have hW' := hW
  obtain ⟨p, q, hA0, hV, rfl, hfz, hnd⟩ := hW
  have hA : DataW.TrodAll enc Tryz.prog W 0 (fun _ => true) true [30, 30, 5] [v0, v1, v2] [d0, d1, d2] p := hA0
  obtain ⟨-, rfl⟩ := trodVars_none hV
  obtain ⟨p0, q0, h0, ⟨p1, q1, h1, ⟨p2, q2, h2, h4, rfl⟩, rfl⟩, rfl⟩ := hA
  have hq : q2 = [] := h4
  subst hq
  have hlt : ∀ x ∈ p0 ++ (p1 ++ (p2 ++ [])) ++ [], x.block < W.heap.size := fun x hx => hW'.lt x hx
  refine ⟨[d0, d1, d2], [], p0 ++ (p1 ++ (p2 ++ [])) ++ [], [], p0 ++ (p1 ++ (p2 ++ [])), [], hW', ?_, ?_, rfl, hb.frame _, fun h => by cases h⟩
  · exact trodAll_mk1 (shut_bool (show Tryz.prog.underlying 4 = some .bool by kernel_rfl) _)
  · have t0 := Below.trod Tryz.laidOut (by kernel_rfl) (of_decide_eq_true (by kernel_rfl)) h0 hb (fun x hx => hlt x (by simp [hx]))
    have t1 := Below.trod Tryz.laidOut (by kernel_rfl) (of_decide_eq_true (by kernel_rfl)) h1 hb (fun x hx => hlt x (by simp [hx]))
    have t2 := Below.trod Tryz.laidOut (by kernel_rfl) (of_decide_eq_true (by kernel_rfl)) h2 hb (fun x hx => hlt x (by simp [hx]))
    exact ⟨p0, _, t0, ⟨p1, _, t1, ⟨p2, _, t2, rfl, rfl⟩, rfl⟩, rfl⟩

/-- The witness meets the row's condition. -/
theorem laid_met_same (os : Os) (args : Array Value) : laidMetH Tryz.prog Rows.machineSameRow.laid ((World.laidAll Tryz.prog os Rows.machineSameRow.laid).forCall (fun _ _ => 0) ⟨#[], args, []⟩).memory := by
  rw [MakeChecks.laidMetH_plain _ _ _ (by kernel_rfl)]
  exact laidMet_laidAll _ (by kernel_rfl) (by kernel_rfl)

theorem agg_of_okWide {W : World} {base : Nat} {v : Value} (h30 : Value.okWide Tryz.prog W .any base 30 v) : ∃ cs, v = .agg cs := by
  have hf := Go.Ev.fields30
  unfold Value.okWide at h30
  split at hf
  · rename_i fs hd
    simp only [hd] at h30
    obtain ⟨cs, rfl, -⟩ := h30
    exact ⟨cs, rfl⟩
  · cases hf

set_option maxRecDepth 100000 in
theorem machineSame_lifted (os : Os) (started : os.Started) (H : Type) (enc : TypeId × Value → H) :
    ReturnsInHanded {} Tryz.checked os 3 .any (fun w args => (Rows.machineSameSpec.pre enc Tryz.prog Tryz.f3 [] false w args ∧ laidMetH Tryz.prog Rows.machineSameRow.laid w) ∧ sizedMet enc Tryz.prog Tryz.f3 (OpenSpec.ofChange Rows.machineSameSpec) false w args)
      (Rows.machineSameSpec.post enc Tryz.prog Tryz.f3 false true false false) := by
  refine returnsInHanded_of_change_and (C := Tryz.checked) (X := fun w _ => laidMetH Tryz.prog Rows.machineSameRow.laid w) (fun _ _ _ hh h => h.of_heap hh) Tryz.own started (by kernel_rfl) Tryz.func3
    (ChangeSpec.witness_shaped (enc := enc) (C := Tryz.checked) (os := os) (X := fun w _ => laidMetH Tryz.prog Rows.machineSameRow.laid w) false (World.laidAll Tryz.prog os Rows.machineSameRow.laid) #[.agg Go.Ev.zeroVs.toArray, .agg Go.Ev.zeroVs.toArray, .int .u8 0] 8 (World.laidAll_os _ _ _) (World.shaped_of_ZipB (by kernel_rfl) (by kernel_rfl)) (by kernel_rfl) (by kernel_rfl) (by kernel_rfl) (laid_met_same os _)) ?_
  intro W base args ds gs before hval0 hW _ hwt hL _
  have hval : ∀ (j : Nat) t v, Tryz.f3.params[j]? = some t → args[j]? = some v → Value.okWide Tryz.prog W .any base t v := hval0
  have hW' := hW
  obtain ⟨p, q, hA0, hV, rfl, hfz, hnd⟩ := hW
  have hA : DataW.TrodAll enc Tryz.prog W 0 (fun _ => true) true Tryz.f3.params.toList args.toList ds p := hA0
  rw [Tryz.params3] at hA hval
  obtain ⟨v0, v1, v2, d0, d1, d2, p0, p1, p2, rfl, rfl, rfl, h0, h1, h2⟩ := trodAll_three hA
  obtain ⟨rfl, rfl⟩ := trodVars_none hV
  obtain ⟨k, rfl, -, -, hwf⟩ := open_int (show Tryz.prog.underlying 5 = some (.int .u8) by kernel_rfl) (hval 2 5 v2 rfl rfl) h2
  have hk : 0 ≤ k ∧ k ≤ 255 := by
    simp only [Lit.wf, Bool.and_eq_true, decide_eq_true_eq] at hwf
    exact hwf
  obtain ⟨cs, rfl⟩ := agg_of_okWide (hval 0 30 v0 rfl rfl)
  obtain ⟨ds, rfl⟩ := agg_of_okWide (hval 1 30 v1 rfl rfl)
  obtain ⟨fuel, h0'⟩ := h0
  obtain ⟨fuel1, h1'⟩ := h1
  obtain ⟨a, ha, hra⟩ := Go.Ev.open_mach (cs := cs.toList) ⟨fuel, _, h0'⟩
  obtain ⟨b, hb, hrb⟩ := Go.Ev.open_mach (cs := ds.toList) ⟨fuel1, _, h1'⟩
  have hsm := Go.Ev.mach_small (cs := cs.toList) h0' (fun x hx => by
    have h2 := List.all_eq_true.1 hwt x (List.mem_append_left _ hx)
    simpa using h2) hra
  rw [Array.toArray_toList] at hra hrb
  refine (calls_of_con (Go.Ev.same_con ha hb (Nat.le_trans hsm (by decide)) k hk) (vs := [.agg cs, .agg ds, .int .u8 k]) (.cons hra (.cons hrb (.cons (.v rfl) .nil)))).mono fun ex W' ⟨he, hbl⟩ => ?_
  subst he
  exact ⟨_, rfl, post_below3 hW' hbl⟩

theorem machineSame_named : Tryz.prog.funcNamed Rows.machineSameRow.func = some 3 := by kernel_rfl
theorem machineSame_instance : Tryz.f3.isInstance Tryz.prog Rows.machineSameRow.origin Rows.machineSameRow.targs := of_decide_eq_true (by kernel_rfl)
theorem machineSame_wrapper : Tryz.f3.isWrapper Tryz.prog Rows.machineSameRow.wrapper Rows.machineSameRow.mainSum := by
  unfold Func.isWrapper; first | (rw [if_pos (by decide +kernel)]; kernel_rfl) | (rw [if_neg (by decide +kernel)]; exact ⟨rfl, rfl⟩)

theorem machineSame_holds : Rows.MachineSameSaid :=
  OpenClaim.holds_of_wide 3 Tryz.f3 rfl rfl rfl rfl rfl rfl rfl ⟨rfl, rfl, rfl, rfl, rfl⟩ rfl rfl rfl rfl rfl machineSame_named Tryz.func3 machineSameFacts.all
    machineSame_instance machineSame_wrapper
    (fun os started H enc _ => machineSame_lifted os started H enc)
end Go.Proofs.YtpafjgeiihgcoaaGreatDoor
end
