/- A part of the proof: HbDr. No conditions. -/
import Derived.Shelf.Strings.Repeat
import Derived.Ground.NamesProg
import Derived.Test.YtpafjgeiihgcoaaGreatDoorProg
import Derived.Lib.Agree
import Derived.KernelRfl
import GoSem.Claim
import Derived.Test.YtpafjgeiihgcoaaGreatDoorEvE

section
/- strings.Repeat at this program. -/
namespace Go.Proofs
open Go.Shelf Go.RowKit

def Tryz.laysRepeat_ren : Go.Shelf.Ren := ⟨fun | 105 => 135 | 212 => 201 | 99 => 202 | 165 => 203 | 166 => 204 | 170 => 205 | 169 => 206 | 263 => 272 | 264 => 273 | 206 => 274 | 240 => 275 | 241 => 276 | 276 => 320 | 277 => 321 | n => n, fun | 9 => 9 | 3 => 3 | 4 => 4 | 20 => 20 | 0 => 0 | 46 => 110 | 109 => 268 | 5 => 5 | 72 => 273 | 76 => 277 | 51 => 32 | 146 => 331 | 53 => 22 | 148 => 333 | 70 => 271 | 37 => 164 | 75 => 276 | 127 => 335 | 164 => 370 | 80 => 71 | n => n, fun | n => n⟩
theorem Tryz.laysRepeat : Go.Proofs.Lays.n105 Tryz.prog Tryz.laysRepeat_ren := {
  mixed := by kernel_rfl
  f99 := Tryz.func202.trans (congrArg some (by kernel_rfl))
  f105 := Tryz.func135.trans (congrArg some (by kernel_rfl))
  f165 := Tryz.func203.trans (congrArg some (by kernel_rfl))
  f166 := Tryz.func204.trans (congrArg some (by kernel_rfl))
  f169 := Tryz.func206.trans (congrArg some (by kernel_rfl))
  f170 := Tryz.func205.trans (congrArg some (by kernel_rfl))
  f206 := Tryz.func274.trans (congrArg some (by kernel_rfl))
  f212 := Tryz.func201.trans (congrArg some (by kernel_rfl))
  f240 := Tryz.func275.trans (congrArg some (by kernel_rfl))
  f241 := Tryz.func276.trans (congrArg some (by kernel_rfl))
  f263 := Tryz.func272.trans (congrArg some (by kernel_rfl))
  f264 := Tryz.func273.trans (congrArg some (by kernel_rfl))
  f276 := Tryz.func320.trans (congrArg some (by kernel_rfl))
  f277 := Tryz.func321.trans (congrArg some (by kernel_rfl))
  t0 := Tryz.underlying0
  a0 := Tryz.isAgg0
  z0 := Tryz.sizeOf0
  v0 := Tryz.zeroValue0
  t3 := Tryz.underlying3
  a3 := Tryz.isAgg3
  z3 := Tryz.sizeOf3
  v3 := Tryz.zeroValue3
  t4 := Tryz.underlying4
  a4 := Tryz.isAgg4
  z4 := Tryz.sizeOf4
  v4 := Tryz.zeroValue4
  t5 := Tryz.underlying5
  a5 := Tryz.isAgg5
  z5 := Tryz.sizeOf5
  v5 := Tryz.zeroValue5
  t9 := Tryz.underlying9
  a9 := Tryz.isAgg9
  z9 := Tryz.sizeOf9
  v9 := Tryz.zeroValue9
  t20 := Tryz.underlying20
  a20 := Tryz.isAgg20
  z20 := Tryz.sizeOf20
  v20 := Tryz.zeroValue20
  t37 := Tryz.underlying164
  a37 := Tryz.isAgg164
  z37 := Tryz.sizeOf164
  v37 := Tryz.zeroValue164
  t46 := Tryz.underlying110
  a46 := Tryz.isAgg110
  z46 := Tryz.sizeOf110
  v46 := Tryz.zeroValue110
  t51 := Tryz.underlying32
  a51 := Tryz.isAgg32
  z51 := Tryz.sizeOf32
  v51 := Tryz.zeroValue32
  t53 := Tryz.underlying22
  a53 := Tryz.isAgg22
  z53 := Tryz.sizeOf22
  v53 := Tryz.zeroValue22
  t70 := Tryz.underlying271
  a70 := Tryz.isAgg271
  z70 := Tryz.sizeOf271
  v70 := Tryz.zeroValue271
  t72 := Tryz.underlying273
  a72 := Tryz.isAgg273
  z72 := Tryz.sizeOf273
  v72 := Tryz.zeroValue273
  t75 := Tryz.underlying276
  a75 := Tryz.isAgg276
  z75 := Tryz.sizeOf276
  v75 := Tryz.zeroValue276
  t76 := Tryz.underlying277
  a76 := Tryz.isAgg277
  z76 := Tryz.sizeOf277
  v76 := Tryz.zeroValue277
  t109 := Tryz.underlying268
  a109 := Tryz.isAgg268
  z109 := Tryz.sizeOf268
  v109 := Tryz.zeroValue268
  t127 := Tryz.underlying335
  a127 := Tryz.isAgg335
  z127 := Tryz.sizeOf335
  v127 := Tryz.zeroValue335
  t146 := Tryz.underlying331
  a146 := Tryz.isAgg331
  z146 := Tryz.sizeOf331
  v146 := Tryz.zeroValue331
  t148 := Tryz.underlying333
  a148 := Tryz.isAgg333
  z148 := Tryz.sizeOf333
  v148 := Tryz.zeroValue333
  t164 := Tryz.underlying370
  a164 := Tryz.isAgg370
  z164 := Tryz.sizeOf370
  v164 := Tryz.zeroValue370 }

theorem Tryz.extra : Builder.Extra Tryz.prog Tryz.laysRepeat_ren where
  sizeBuilder := by kernel_rfl
  liesBuilder := by kernel_rfl
  t5 := Tryz.laysRepeat.t5
  a5 := Tryz.laysRepeat.a5
  z5 := Tryz.laysRepeat.z5
  v5 := Tryz.laysRepeat.v5
  infoByte := by kernel_rfl
  cellsByte := by kernel_rfl
  sizeByte := by kernel_rfl
  neB5 := by decide

theorem Tryz.strings_Repeat (s : ByteArray) (c : Nat) (w : World) (hc : c ≤ 9223372036854775807) (hlen : s.size * c ≤ 140737488355328) :
    Calls Tryz.prog 135 #[.string s, .int .i64 c] w fun e w' => e = .returned (.string ⟨(Lib.repeatL s.data.toList c).toArray⟩) ∧ Below w.heap.size w w' :=
  Any.strings_Repeat Tryz.laysRepeat Tryz.extra s c w hc hlen
end Go.Proofs
namespace Go.Ev
open Go Go.Proofs Go.Shelf Go.RowKit
def repeatP : List PV → Option Res
  | [.v (.string s), .v (.int .i64 n)] => if 0 ≤ n ∧ n ≤ 9223372036854775807 ∧ s.size * n.toNat ≤ 140737488355328 then some (.v (.string ⟨(Lib.repeatL s.data.toList n.toNat).toArray⟩), []) else none
  | _ => none

theorem repeat_con {args : List PV} {res : Res} (h : repeatP args = some res) : Con Tryz.prog 135 args res := by
  unfold repeatP at h
  split at h <;> try (cases h; done)
  rename_i s n
  split at h <;> try (cases h; done)
  rename_i hc
  cases h
  refine con_of_below rfl (fun F w vs hF has => ?_)
  rw [has.v2]
  have := Tryz.strings_Repeat s n.toNat w (by omega) hc.2.2
  rwa [Int.toNat_of_nonneg hc.1] at this
end Go.Ev
end
