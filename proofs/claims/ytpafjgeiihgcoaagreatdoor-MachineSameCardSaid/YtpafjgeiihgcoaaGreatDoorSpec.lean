/- A part of the proof: HbSp. No conditions. -/
import Derived.Test.YtpafjgeiihgcoaaGreatDoorGeo
import Derived.Test.YtpafjgeiihgcoaaGreatDoorCount
import Derived.Test.YtpafjgeiihgcoaaGreatDoorIndex
import Derived.Test.YtpafjgeiihgcoaaGreatDoorCompare
import Derived.KernelRfl

section
/- The library's functions, and some of the program's, as the evaluator takes them at this program. -/
set_option linter.unusedVariables false
set_option linter.unusedSimpArgs false
set_option maxRecDepth 4000
namespace Go.Ev
open Go Go.Proofs Go.RowKit

noncomputable def memN (l : List Nat) (f : Nat) : Bool := List.rec (motive := fun _ => Bool) false (fun x _ ih => bif Nat.beq x f then true else ih) l

def countP1 : List PV → Option Res
  | [.v (.string s), .v (.string t)] => match t.data.toList with
    | [c] => some (.v (.int .i64 (Lib.countByte s.data.toList c)), [])
    | _ => none
  | _ => none
def indexP1 : List PV → Option Res
  | [.v (.string s), .v (.string t)] => match t.data.toList with
    | [c] => some (.v (.int .i64 (Lib.indexByte s.data.toList c)), [])
    | _ => none
  | _ => none
def ibyteP : List PV → Option Res
  | [.v (.string s), .v (.int .u8 c)] => some (.v (.int .i64 (Lib.indexByte s.data.toList c.toNat.toUInt8)), [])
  | _ => none
def cmpP : List PV → Option Res
  | [.v (.string s), .v (.string t)] => some (.v (.int .i64 (Lib.compareBytes s.data.toList t.data.toList)), [])
  | _ => none
def cloneP : List PV → Option Res
  | [.v (.string s)] => if s.size ≤ 281474976710656 then some (.v (.string s), []) else none
  | _ => none

theorem one_byte {t : ByteArray} {c : UInt8} (h : t.data.toList = [c]) : t = ⟨#[c]⟩ := by
  apply ByteArray.ext
  apply Array.ext'
  simpa using h

theorem count_con {al res} (h : countP1 al = some res) : Con Tryz.prog 198 al res := by
  unfold countP1 at h
  split at h <;> try (cases h; done)
  rename_i s t
  split at h <;> try (cases h; done)
  rename_i c hc
  cases h
  obtain rfl := one_byte hc
  refine con_of_below rfl (fun F w vs hF has => ?_)
  rw [has.v2]
  refine (Tryz.strings_Count_one s c w).mono ?_
  rintro e w' ⟨rfl, rfl⟩
  exact ⟨rfl, Below.refl _ _⟩
theorem index_con {al res} (h : indexP1 al = some res) : Con Tryz.prog 268 al res := by
  unfold indexP1 at h
  split at h <;> try (cases h; done)
  rename_i s t
  split at h <;> try (cases h; done)
  rename_i c hc
  cases h
  obtain rfl := one_byte hc
  refine con_of_below rfl (fun F w vs hF has => ?_)
  rw [has.v2]
  refine (Tryz.strings_Index_one s c w).mono ?_
  rintro e w' ⟨rfl, rfl⟩
  exact ⟨rfl, Below.refl _ _⟩
theorem ibyte_con {al res} (h : ibyteP al = some res) : Con Tryz.prog 172 al res := by
  unfold ibyteP at h
  split at h <;> try (cases h; done)
  rename_i s c
  cases h
  refine con_of_below rfl (fun F w vs hF has => ?_)
  rw [has.v2]
  refine (Tryz.stringslite_IndexByte s c w).mono ?_
  rintro e w' ⟨rfl, rfl⟩
  exact ⟨rfl, Below.refl _ _⟩
theorem cmp_con {al res} (h : cmpP al = some res) : Con Tryz.prog 217 al res := by
  unfold cmpP at h
  split at h <;> try (cases h; done)
  rename_i s c
  cases h
  refine con_of_below rfl (fun F w vs hF has => ?_)
  rw [has.v2]
  refine (Tryz.strings_Compare s c w).mono ?_
  rintro e w' ⟨rfl, rfl⟩
  exact ⟨rfl, Below.refl _ _⟩
theorem clone_con {al res} (h : cloneP al = some res) : Con Tryz.prog 231 al res := by
  unfold cloneP at h
  split at h <;> try (cases h; done)
  rename_i s
  split at h <;> try (cases h; done)
  rename_i hs
  cases h
  refine con_of_below rfl (fun F w vs hF has => ?_)
  rw [has.v1]
  exact Tryz.stringslite_Clone s w hs

def specA : FuncId → Option (List PV → Option Res) := fun f =>
  bif Nat.beq f 135 then some repeatP else bif Nat.beq f 198 then some countP1 else bif Nat.beq f 268 then some indexP1 else bif Nat.beq f 172 then some ibyteP else bif Nat.beq f 217 then some cmpP else bif Nat.beq f 231 then some cloneP else none
noncomputable def inlA : FuncId → Bool := memN [37, 38, 39, 40, 46, 47, 50, 55, 57, 58, 59, 60, 71, 72, 73, 77, 78, 80, 87, 109, 111, 112, 113, 114, 115, 116, 117, 118, 119, 120, 121, 122, 123, 124, 125, 126, 127, 128, 129, 130, 131, 133, 148, 151, 152, 153, 154, 157, 163, 164, 174, 175, 176, 178, 179, 181, 184, 185, 187, 190, 192, 200, 203, 204, 205, 206, 208, 211, 215, 219, 221, 226, 227, 228, 237, 238, 240, 244, 249, 250, 252, 254, 255, 256, 257, 259, 260, 262, 269, 270, 271, 275, 276, 277, 280, 283, 285, 290, 291, 292, 293, 294, 295, 296, 297, 298, 299, 300, 303, 304, 305, 306, 307, 308, 309, 311, 314, 315, 316, 317, 320, 324, 325, 327, 329, 330, 331, 332, 334, 335, 336, 340, 346, 347, 348, 357, 358, 359, 360, 361, 362, 364, 365, 368, 369, 370, 373, 375, 376, 386, 387, 388, 389, 390, 391, 392, 393]
def bldA : TypeId → Bool := fun t => Nat.beq t 273
def ispA : FuncId → Option (Nat → List PV → Hp → Option (PV × Ups)) := fun f =>
  bif Nat.beq f 204 then some writeP else bif Nat.beq f 206 then some stringP else bif Nat.beq f 79 then some sizeP else bif Nat.beq f 229 then some allP else none
abbrev eqTypes : List TypeId := [60, 44, 46, 48]
noncomputable def eqA : TypeId → Option (List EK) := fun t => bif memN eqTypes t then kindsOf Tryz.prog 10 t else none

theorem memN_elem : ∀ (l : List Nat) (f : Nat), memN l f = true → f ∈ l
  | [], f, h => by cases h
  | x :: l, f, h => by
    have e : memN (x :: l) f = bif Nat.beq x f then true else memN l f := rfl
    rw [e] at h
    cases hb : Nat.beq x f with
    | true => simp [Nat.eq_of_beq_eq_true hb]
    | false => rw [hb, cond_false] at h; exact List.mem_cons_of_mem _ (memN_elem l f h)

theorem eqA_ok : EqOk Tryz.prog eqA := by
  have hq : ∀ t ∈ eqTypes, (match Tryz.prog.underlying t with | some (.struct _) | some (.array _ _) => True | _ => False) ∧ Tryz.prog.eqGuardType Tryz.prog.depth t = false := by
    intro t ht
    simp only [eqTypes, List.mem_cons, List.not_mem_nil, or_false] at ht
    have key : ∀ t, (match Tryz.prog.underlying t with | some (.struct _) => true | _ => false) = true → (match Tryz.prog.underlying t with | some (.struct _) | some (.array _ _) => True | _ => False) := by
      intro t h
      split at h
      · rename_i h1; rw [h1]; trivial
      · cases h
    rcases ht with rfl | rfl | rfl | rfl
    · exact ⟨key 60 (by kernel_rfl), by kernel_rfl⟩
    · exact ⟨key 44 (by kernel_rfl), by kernel_rfl⟩
    · exact ⟨key 46 (by kernel_rfl), by kernel_rfl⟩
    · exact ⟨key 48 (by kernel_rfl), by kernel_rfl⟩
  have h0 := eqOf_ok (P := Tryz.prog) (l := eqTypes) (fun t ht => hq t (by simpa [List.elem_eq_mem] using ht))
  intro t ks cs ds b hk
  refine h0 t ks cs ds b ?_
  unfold eqA at hk
  unfold eqOf
  cases hm : memN eqTypes t with
  | false => rw [hm] at hk; cases hk
  | true =>
    rw [hm, cond_true] at hk
    rw [if_pos (by simpa [List.elem_eq_mem] using memN_elem _ _ hm)]
    exact hk

theorem ispA_ok : ∀ f Fn, ispA f = some Fn → IspOk Tryz.prog f Fn := by
  intro f Fn h
  unfold ispA at h
  cases h1 : Nat.beq f 204 with
  | true => rw [h1] at h; cases h; rw [Nat.eq_of_beq_eq_true h1]; exact write_ok
  | false =>
  cases h2 : Nat.beq f 206 with
  | true => rw [h1, h2] at h; cases h; rw [Nat.eq_of_beq_eq_true h2]; exact string_ok
  | false =>
  cases h3 : Nat.beq f 79 with
  | true => rw [h1, h2, h3] at h; cases h; rw [Nat.eq_of_beq_eq_true h3]; exact size_ok
  | false =>
  cases h4 : Nat.beq f 229 with
  | true => rw [h1, h2, h3, h4] at h; cases h; rw [Nat.eq_of_beq_eq_true h4]; exact all_ok
  | false => rw [h1, h2, h3, h4] at h; cases h

theorem specA_ok : ∀ f Fn args res, specA f = some Fn → Fn args = some res → Con Tryz.prog f args res := by
  intro f Fn args res h hr
  unfold specA at h
  cases h1 : Nat.beq f 135 with
  | true => rw [h1] at h; cases h; rw [Nat.eq_of_beq_eq_true h1]; exact repeat_con hr
  | false =>
  cases h2 : Nat.beq f 198 with
  | true => rw [h1, h2] at h; cases h; rw [Nat.eq_of_beq_eq_true h2]; exact count_con hr
  | false =>
  cases h3 : Nat.beq f 268 with
  | true => rw [h1, h2, h3] at h; cases h; rw [Nat.eq_of_beq_eq_true h3]; exact index_con hr
  | false =>
  cases h4 : Nat.beq f 172 with
  | true => rw [h1, h2, h3, h4] at h; cases h; rw [Nat.eq_of_beq_eq_true h4]; exact ibyte_con hr
  | false =>
  cases h5 : Nat.beq f 217 with
  | true => rw [h1, h2, h3, h4, h5] at h; cases h; rw [Nat.eq_of_beq_eq_true h5]; exact cmp_con hr
  | false =>
  cases h6 : Nat.beq f 231 with
  | true => rw [h1, h2, h3, h4, h5, h6] at h; cases h; rw [Nat.eq_of_beq_eq_true h6]; exact clone_con hr
  | false => rw [h1, h2, h3, h4, h5, h6] at h; cases h

/-- The first table: the library. -/
noncomputable def XA : Ctx := ctxOf Tryz.prog eqA specA inlA bldA ispA
theorem XA_ok : TablesOk XA := ctxOf_ok Tryz.laysRepeat.mixed eqA_ok ispA_ok

theorem has_con {al res} (h : hasP al = some res) : Con Tryz.prog 207 al res := pureW_sound (C := XA) XA_ok specA_ok (has_pure f207 ty9 h)

/-- The second one: geom.has, too. -/
def specB : FuncId → Option (List PV → Option Res) := fun f => bif Nat.beq f 207 then some hasP else specA f
theorem specB_ok : ∀ f Fn args res, specB f = some Fn → Fn args = some res → Con Tryz.prog f args res := by
  intro f Fn args res h hr
  unfold specB at h
  cases h1 : Nat.beq f 207 with
  | true => rw [h1] at h; cases h; rw [Nat.eq_of_beq_eq_true h1]; exact has_con hr
  | false => rw [h1] at h; exact specA_ok f Fn args res h hr
noncomputable def XB : Ctx := ctxOf Tryz.prog eqA specB inlA bldA ispA
theorem XB_ok : TablesOk XB := ctxOf_ok Tryz.laysRepeat.mixed eqA_ok ispA_ok

theorem right_con {al res} (h : rightP rightF al = some res) : Con Tryz.prog 136 al res := by
  refine pureW_sound (C := XB) XB_ok specB_ok (right_pure (eq := eqA) (sp := specB) (il := inlA) (bl' := bldA) (is := ispA) ⟨by kernel_rfl, rfl, by kernel_rfl, rfl⟩ ?_)
  unfold rightP at h ⊢
  split at h <;> try (cases h; done)
  split at h <;> try (cases h; done)
  rename_i hc
  split at h <;> try (cases h; done)
  rename_i b hb
  rw [if_pos hc, rightF_eq hb]
  exact h

/-- The third one: geom.right, too. -/
noncomputable def specC : FuncId → Option (List PV → Option Res) := fun f => bif Nat.beq f 136 then some (rightP rightF) else specB f
theorem specC_ok : ∀ f Fn args res, specC f = some Fn → Fn args = some res → Con Tryz.prog f args res := by
  intro f Fn args res h hr
  unfold specC at h
  cases h1 : Nat.beq f 136 with
  | true => rw [h1] at h; cases h; rw [Nat.eq_of_beq_eq_true h1]; exact right_con hr
  | false => rw [h1] at h; exact specB_ok f Fn args res h hr
noncomputable def XC : Ctx := ctxOf Tryz.prog eqA specC inlA bldA ispA
theorem XC_ok : TablesOk XC := ctxOf_ok Tryz.laysRepeat.mixed eqA_ok ispA_ok
end Go.Ev
end
