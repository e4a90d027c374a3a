/- A part of the proof: HbLx. No conditions. -/
import Derived.Test.YtpafjgeiihgcoaaGreatDoorLaw
import Derived.Test.YtpafjgeiihgcoaaGreatDoorFeeds
import Derived.Test.YtpafjgeiihgcoaaGreatDoorOpens
import Derived.ChangeArms

section
/- MachineSame at this program: what a call answers; how long the input is. -/
set_option linter.unusedVariables false
set_option linter.unusedSimpArgs false
namespace Go.Ev
open Go Go.Proofs

theorem bareD6 : Bare XD 6 := ⟨⟨by kernel_rfl, by kernel_rfl, by kernel_rfl⟩, by kernel_rfl⟩
theorem bareD7 : Bare XD 7 := ⟨⟨by kernel_rfl, by kernel_rfl, by kernel_rfl⟩, by kernel_rfl⟩
theorem bareD13 : Bare XD 13 := ⟨⟨by kernel_rfl, by kernel_rfl, by kernel_rfl⟩, by kernel_rfl⟩
theorem bareD14 : Bare XD 14 := ⟨⟨by kernel_rfl, by kernel_rfl, by kernel_rfl⟩, by kernel_rfl⟩
theorem bareD15 : Bare XD 15 := ⟨⟨by kernel_rfl, by kernel_rfl, by kernel_rfl⟩, by kernel_rfl⟩
theorem bareD16 : Bare XD 16 := ⟨⟨by kernel_rfl, by kernel_rfl, by kernel_rfl⟩, by kernel_rfl⟩
theorem bareD17 : Bare XD 17 := ⟨⟨by kernel_rfl, by kernel_rfl, by kernel_rfl⟩, by kernel_rfl⟩

theorem same_con {a b : Mach} (ha : a.Ok XD) (hb : b.Ok XD) (hin : a.inp.size ≤ 9223372036854775000) (k : Int) (hk : 0 ≤ k ∧ k ≤ 255) : Con Tryz.prog 3 [a.pv, b.pv, .v (.int .u8 k)] (.v (.bool true), []) :=
  pureW_sound XD_ok specD_ok (law3 (eq := eqA) (sp := specD) (il := inlA) (bl' := bldA) (is := ispA) rfl ⟨by kernel_rfl, by kernel_rfl, by kernel_rfl⟩ (by kernel_rfl) bareD6 bareD7 bareD10 bareD13 bareD14 bareD15 bareD16 bareD17 bareD18 bareD19 bareD20 ⟨by kernel_rfl, by kernel_rfl⟩ ⟨by kernel_rfl, by kernel_rfl⟩ ⟨by kernel_rfl, by kernel_rfl⟩ ha hb hin k hk)

theorem weights_mem {H : Type} {P : Program} {x : Nat} : ∀ {ts : List TypeId} {ds : List (DataW H)} {k : Nat} {t : TypeId} {d : DataW H}, ts[k]? = some t → ds[k]? = some d → x ∈ d.weights P t → x ∈ DataW.weightsEach P ts ds
  | [], ds, k, t, d, h1, h2, h3 => by simp at h1
  | t0 :: ts, [], k, t, d, h1, h2, h3 => by simp at h2
  | t0 :: ts, d0 :: ds, 0, t, d, h1, h2, h3 => by
    simp at h1 h2
    subst h1
    subst h2
    simp only [DataW.weightsEach]
    exact List.mem_append_left _ h3
  | t0 :: ts, d0 :: ds, k + 1, t, d, h1, h2, h3 => by
    simp only [DataW.weightsEach]
    exact List.mem_append_right _ (weights_mem (k := k) (by simpa using h1) (by simpa using h2) h3)

/-- How long a machine's input is. -/
theorem mach_small {w : World} {H : Type} {enc : TypeId × Value → H} {base : Nat} {sp : Nat → Bool} {held : Bool} {fuel : Nat} {cs : List Value} {d : DataW H} {p : List MemPlace} {F : Nat → Prop} {m : Mach} (h : DataW.trod enc Tryz.prog w base sp held fuel 30 cs = some (d, p))
    (hw : ∀ x ∈ d.weights Tryz.prog 30, x ≤ reachBytes) (hr : CRel F w m.pv (.agg cs.toArray)) : m.inp.size ≤ reachBytes := by
  have ht := fields30
  split at ht <;> try (cases ht; done)
  rename_i fs hd
  injection ht with ht
  obtain ⟨xs, n, -, hx, hl, hlen, hf⟩ := DataW.trod_struct hd h
  obtain ⟨f, hf10, hft⟩ : ∃ f, fs.toList[10]? = some f ∧ (f.type, f.offset) = ((9, 10) : TypeId × Nat) := by
    have := congrArg (fun l => l[10]?) ht
    simp only [List.getElem?_map] at this
    cases hx : fs.toList[10]? with
    | none => rw [hx] at this; cases this
    | some f => rw [hx] at this; exact ⟨f, rfl, by simpa using this⟩
  injection hft with h1 h2
  have hq := hf 10 f (by simpa using hf10)
  rw [h1, h2, show Tryz.prog.cellsOf 9 = 1 by kernel_rfl] at hq
  have hcs : ∃ us, cs = us ∧ CRels F w m.cells us := by
    generalize hv : (Value.agg cs.toArray) = v at hr
    cases hr with
    | agg hc hs => 
      injection hv with hv
      exact ⟨_, by simpa using congrArg Array.toList hv, hs⟩
  obtain ⟨us, rfl, hs⟩ := hcs
  obtain ⟨c, hc, hrel⟩ : ∃ c, cs[10]? = some c ∧ CRel F w (.v (.string m.inp)) c := by
    cases hs with | cons _ hs => cases hs with | cons _ hs => cases hs with | cons _ hs => cases hs with | cons _ hs => cases hs with | cons _ hs => cases hs with | cons _ hs => cases hs with | cons _ hs => cases hs with | cons _ hs => cases hs with | cons _ hs => cases hs with | cons _ hs => cases hs with | cons h10 hs => exact ⟨_, rfl, h10⟩
  have hcv : c = .string m.inp := by cases hrel; rfl
  subst hcv
  have hdrop : (cs.drop 10).take 1 = [.string m.inp] := by
    obtain ⟨hlt, he⟩ := List.getElem?_eq_some_iff.1 hc
    rw [List.drop_eq_getElem_cons hlt, he]
    rfl
  rw [hdrop] at hq
  have hlt : 10 < xs.length := by
    rw [hlen]
    have := (List.getElem?_eq_some_iff.1 hf10).1
    simpa using this
  rw [List.getElem?_eq_getElem hlt] at hq
  obtain ⟨s, e1, e2, -⟩ := DataW.trod_string u9 hq
  injection e1 with e1 _
  injection e1 with e1
  subst e1
  have hdx : d = .agg (xs.map (·.1)) := congrArg Prod.fst hx
  refine Nat.le_trans (m := m.inp.data.toList.length) (Nat.le_of_eq (show m.inp.data.size = _ from Array.length_toList.symm)) (hw _ ?_)
  · have hwt : (DataW.agg (xs.map (·.1)) : DataW H).weights Tryz.prog 30 = DataW.weightsEach Tryz.prog (fs.toList.map (·.type)) (xs.map (·.1)) := by
      unfold DataW.weights
      rw [hd]
    rw [hdx, hwt]
    refine weights_mem (k := 10) (t := 9) (d := .lit (.string m.inp.data.toList)) ?_ ?_ ?_
    · rw [List.getElem?_map, hf10, Option.map_some, h1]
    · rw [List.getElem?_map, List.getElem?_eq_getElem hlt, e2]; rfl
    · simp [DataW.weights]
end Go.Ev
end
