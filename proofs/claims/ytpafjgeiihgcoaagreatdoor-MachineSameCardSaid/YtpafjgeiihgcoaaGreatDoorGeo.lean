/- A part of the proof: HbRi HbRj HbRk HbEq HbCl. No conditions. -/
import Derived.Test.YtpafjgeiihgcoaaGreatDoorBld
import Derived.Test.YtpafjgeiihgcoaaGreatDoorEvF
import Derived.Test.YtpafjgeiihgcoaaGreatDoorEvE
import Derived.DeepKeys
import Derived.Test.YtpafjgeiihgcoaaGreatDoorShelf
import Derived.Lib.Strings
import Derived.Lib.Walk
import Derived.Lib.BufferWrite
import Derived.Lib.UnsafeStr
import Derived.Laws.MakeOwn

section
/- geom.has and geom.right: what they compute. -/
set_option linter.unusedVariables false
set_option linter.unusedSimpArgs false
set_option maxRecDepth 4000
namespace Go.Ev
open Go Go.Proofs

section
variable {C : Ctx} {dp sz : Nat} {st : St} {cal : Cal} {inl : Inl} {yl : Yl} {o : Oper}
theorem stepK_bin {op : BinOp} {t yt : TypeId} {x y : Operand} {r : PV} (ho : o.op = .binOp op t x y yt) (h : binP C op t (opd st.t x) (opd st.t y) = some r) : stepOp C cal inl yl dp o st = some (r, st.h) := by
  unfold stepOp
  rw [ho]
  simp only [evalOp, ho, h, Hp.app]
theorem stepK_idx {t : TypeId} {x ix : Operand} {r : PV} (ho : o.op = .index t x ix) (h : indexP C t (opd st.t x) (opd st.t ix) = some r) : stepOp C cal inl yl dp o st = some (r, st.h) := by
  unfold stepOp
  rw [ho]
  simp only [evalOp, ho, h, Hp.app]
end

def hasF (l : List UInt8) (i : Nat) : Option Bool :=
  match l[i / 8]? with
  | some b => some ((b.toNat / 2 ^ (i % 8)) % 2 == 1)
  | none => none
def hasP : List PV → Option Res
  | [.v (.string s), .v (.int .i64 i)] => if 0 ≤ i ∧ i < 4611686018427387904 then (match hasF s.data.toList i.toNat with | some b => some (.v (.bool b), []) | none => none) else none
  | _ => none

theorem ty9 : tyOf Tryz.prog 9 = .str := by kernel_rfl
theorem f207 : Tryz.prog.funcs[207]? = some Tryz.f207 := by kernel_rfl

theorem wrap64 {n : Nat} (h : n < 9223372036854775808) : IntKind.i64.wrap (n : Int) = (n : Int) := wrap_small (k := .i64) h
theorem wrap8 {n : Nat} (h : n < 256) : IntKind.u8.wrap (n : Int) = (n : Int) := wrap_small (k := .u8) h

theorem and_one (a : Nat) (h : a < 256) : IntKind.u8.wrap (BitVec.ofInt IntKind.u8.bits (a : Int) &&& BitVec.ofInt IntKind.u8.bits 1).toNat = ((a % 2 : Nat) : Int) := by
  have e1 : IntKind.u8.bits = 8 := rfl
  rw [e1]
  have e2 : (BitVec.ofInt 8 (a : Int) &&& BitVec.ofInt 8 1).toNat = a % 2 := by
    rw [BitVec.toNat_and]
    have h1 : (BitVec.ofInt 8 (a : Int)).toNat = a := by simp [BitVec.toNat_ofInt]; omega
    have h2 : (BitVec.ofInt 8 1).toNat = 1 := by decide
    rw [h1, h2, Nat.and_one_is_mod]
  rw [e2]
  exact wrap8 (by omega)

theorem has_pure {C : Ctx} (hP : C.func 207 = some Tryz.f207) (h9 : C.ty 9 = .str) {args : List PV} {res : Res} (h : hasP args = some res) : evalPure C (evW C) 207 args = some res := by
  unfold hasP at h
  split at h <;> try (cases h; done)
  rename_i s i
  split at h <;> try (cases h; done)
  rename_i hi
  split at h <;> try (cases h; done)
  rename_i b hb
  cases h
  obtain ⟨n, rfl⟩ : ∃ n : Nat, i = n := ⟨i.toNat, by omega⟩
  have hn : n < 4611686018427387904 := by omega
  rw [Int.toNat_natCast] at hb
  unfold hasF at hb
  split at hb <;> try (cases hb; done)
  rename_i c hc
  cases hb
  refine pure_of_runs (fn := Tryz.f207) hP rfl ?_
  refine runs_seq (runs_region (by rfl) ?_)
  have hquo : binP C .quo 3 (.v (.int .i64 (n : Int))) (.v (.int .i64 8)) = some (.v (.int .i64 ((n / 8 : Nat) : Int))) := by
    simp only [binP, intArith, if_true]
    rw [if_neg (by decide)]
    have : (n : Int).tdiv 8 = ((n / 8 : Nat) : Int) := by rw [Int.tdiv_eq_ediv_of_nonneg (by omega)]; rfl
    rw [this, wrap64 (by omega)]; rfl
  have hidx : indexP C 9 (.v (.string s)) (.v (.int .i64 ((n / 8 : Nat) : Int))) = some (.v (.int .u8 c.toNat)) := by
    have : s[n / 8]? = some c := by
      rw [← hc]
      have hs : s.size = s.data.toList.length := by rw [Array.length_toList]; rfl
      by_cases hlt : n / 8 < s.size
      · rw [getElem?_pos s (n / 8) hlt, List.getElem?_eq_getElem (by omega)]; rfl
      · rw [getElem?_neg s (n / 8) hlt, List.getElem?_eq_none (by omega)]
    simp only [indexP, intP, h9]
    rw [if_pos (by omega), Int.toNat_natCast, this]
  have hrem : binP C .rem 3 (.v (.int .i64 (n : Int))) (.v (.int .i64 8)) = some (.v (.int .i64 ((n % 8 : Nat) : Int))) := by
    simp only [binP, intArith, if_true]
    rw [if_neg (by decide)]
    have : (n : Int).tmod 8 = ((n % 8 : Nat) : Int) := by rw [Int.tmod_eq_emod_of_nonneg (by omega)]; rfl
    rw [this]; rfl
  have hc8 : c.toNat < 256 := c.toNat_lt
  have hdiv : c.toNat / 2 ^ (n % 8) < 256 := Nat.lt_of_le_of_lt (Nat.div_le_self _ _) hc8
  have hshr : binP C .shr 5 (.v (.int .u8 c.toNat)) (.v (.int .i64 ((n % 8 : Nat) : Int))) = some (.v (.int .u8 ((c.toNat / 2 ^ (n % 8) : Nat) : Int))) := by
    simp only [binP, shiftI]
    rw [if_neg (by omega)]
    have e1 : min (((n % 8 : Nat) : Int).toNat) IntKind.u8.bits = n % 8 := by
      rw [Int.toNat_natCast]
      have : IntKind.u8.bits = 8 := rfl
      rw [this]; omega
    rw [e1]
    have e2 : (c.toNat : Int).fdiv (2 ^ (n % 8)) = ((c.toNat / 2 ^ (n % 8) : Nat) : Int) := by
      rw [Int.fdiv_eq_ediv_of_nonneg _ (by exact Int.pow_nonneg (by decide))]
      rw [Int.natCast_ediv, Int.natCast_pow]; rfl
    rw [e2]; rfl
  have hand : binP C .and 5 (.v (.int .u8 ((c.toNat / 2 ^ (n % 8) : Nat) : Int))) (.v (.int .u8 1)) = some (.v (.int .u8 (((c.toNat / 2 ^ (n % 8)) % 2 : Nat) : Int))) := by
    simp only [binP, intArith, if_true]
    rw [and_one _ hdiv]; rfl
  have heq : binP C .eql 5 (.v (.int .u8 (((c.toNat / 2 ^ (n % 8)) % 2 : Nat) : Int))) (.v (.int .u8 1)) = some (.v (.bool ((c.toNat / 2 ^ (n % 8)) % 2 == 1))) := by
    simp only [binP, intArith, if_true, Option.map_some]
    congr 3
    rw [Bool.eq_iff_iff, beq_iff_eq, beq_iff_eq]
    omega
  refine runs_seq (runs_region (opsK rfl rfl rfl (opsK rfl rfl rfl (opsK rfl (stepK_bin rfl hquo) rfl (opsK rfl (stepK_idx rfl hidx) rfl (opsK rfl rfl rfl (opsK rfl (stepK_bin rfl hrem) rfl (opsK rfl (stepK_bin rfl hshr) rfl (opsK rfl (stepK_bin rfl hand) rfl (opsK rfl (stepK_bin rfl heq) rfl (opsK rfl rfl rfl rfl)))))))))) ?_)
  exact runs_ret ⟨by simp, _, _, _, rfl, rfl, rfl⟩
end Go.Ev
end

section
/- geom.right: what it computes. -/
set_option linter.unusedVariables false
set_option linter.unusedSimpArgs false
set_option maxRecDepth 4000
namespace Go.Ev
open Go Go.Proofs

/-- The bits from i to below n are all so. -/
def runsBits (l : List UInt8) (want : Bool) (i : Nat) : Nat → Option Bool
  | 0 => some true
  | k + 1 => match hasF l i with
    | some b => if b = want then runsBits l want (i + 1) k else some false
    | none => none

def rightN (l : List UInt8) (data blocks : Nat) : Option Bool :=
  match runsBits l true 0 data with
  | some true => runsBits l false blocks (8 * l.length - blocks)
  | r => r

/-- The contract, by whatever function says the same. -/
def rightP (R : List UInt8 → Nat → Nat → Option Bool) : List PV → Option Res
  | [.v (.string s), .agg [.v (.int .i64 bl), x1, x2, x3, x4, .v (.int .i64 da)]] =>
    if 0 ≤ bl ∧ bl < 1073741824 ∧ 0 ≤ da ∧ da < 1073741824 ∧ s.size < 1073741824 then
      match R s.data.toList da.toNat bl.toNat with
      | some b => some (.v (.bool b), [])
      | none => none
    else none
  | _ => none

theorem f136 : Tryz.prog.funcs[136]? = some Tryz.f136 := by kernel_rfl

def callP1 (C : Ctx) (f : FuncId) (F : List PV → Option Res) : Prop := C.callable f = true ∧ C.isp f = none ∧ C.inl f = false ∧ C.spec f = some F

theorem stepK_spec {C : Ctx} {dp : Nat} {st : St} {ev : Ev} {inl : Inl} {yl : Yl} {o : Oper} {fid : FuncId} {F : List PV → Option Res} {args : Array Operand} {ats : Array TypeId} {cargs : List PV} {v : Value} (hF : callP1 C fid F) (ho : o.op = .call { callee := .value (.func fid), args := args, argTypes := ats })
    (hr : reifyL st.h (args.toList.map (opd st.t)) = some cargs) (hres : F cargs = some (.v v, [])) : stepOp C (calOf C ev) inl yl dp o st = some (.v v, st.h) := by
  obtain ⟨h1, h2, h3, h4⟩ := hF
  unfold stepOp
  rw [ho]
  have e : opd st.t (.func fid) = .func (.func fid) [] [] := rfl
  simp only [e, h1, h2, h3, if_true, if_false, Bool.false_eq_true, List.nil_append, List.append_nil, callP, hr, calOf, h4, hres]
  rfl

theorem bits_step {l : List UInt8} {want : Bool} {i d : Nat} (h : i < d) : runsBits l want i (d - i) = (match hasF l i with | some b => if b = want then runsBits l want (i + 1) (d - (i + 1)) else some false | none => none) := by
  have : d - i = (d - (i + 1)) + 1 := by omega
  rw [this]
  rfl

theorem hasP_of {s : ByteArray} {i : Nat} {b : Bool} (h : hasF s.data.toList i = some b) (hi : i < 4611686018427387904) : hasP [.v (.string s), .v (.int .i64 (i : Int))] = some (.v (.bool b), []) := by
  unfold hasP
  dsimp only
  rw [if_pos (by omega), Int.toNat_natCast, h]

theorem add_one {C : Ctx} (i : Nat) (h : i < 9223372036854775807) : binP C .add 3 (.v (.int .i64 (i : Int))) (.v (.int .i64 1)) = some (.v (.int .i64 ((i + 1 : Nat) : Int))) := by
  simp only [binP, intArith, if_true]
  have : (i : Int) + 1 = ((i + 1 : Nat) : Int) := by omega
  rw [this, wrap64 (by omega)]; rfl
theorem mul_small {C : Ctx} (a b : Nat) (h : a * b < 9223372036854775808) : binP C .mul 3 (.v (.int .i64 (a : Int))) (.v (.int .i64 (b : Int))) = some (.v (.int .i64 ((a * b : Nat) : Int))) := by
  simp only [binP, intArith, if_true]
  rw [← Int.natCast_mul, wrap64 h]; rfl

theorem right_pure {eq sp il bl' is} (hC : callP1 (ctxOf Tryz.prog eq sp il bl' is) 207 hasP) {args : List PV} {res : Res} (h : rightP rightN args = some res) : evalPure (ctxOf Tryz.prog eq sp il bl' is) (evW (ctxOf Tryz.prog eq sp il bl' is)) 136 args = some res := by
  unfold rightP at h
  split at h <;> try (cases h; done)
  rename_i s bli x1 x2 x3 x4 da'
  split at h <;> try (cases h; done)
  rename_i hc
  split at h <;> try (cases h; done)
  rename_i b hb
  cases h
  obtain ⟨bl, rfl⟩ : ∃ n : Nat, bli = n := ⟨bli.toNat, by omega⟩
  obtain ⟨da, rfl⟩ : ∃ n : Nat, da' = n := ⟨da'.toNat, by omega⟩
  obtain ⟨-, hbl, -, hda, hs⟩ := hc
  have hbl : bl < 1073741824 := by omega
  have hda : da < 1073741824 := by omega
  rw [Int.toNat_natCast, Int.toNat_natCast] at hb
  refine pure_of_runs (fn := Tryz.f136) f136 rfl ?_
  refine runs_seq (runs_region (by rfl) ?_)
  refine runs_seq (runs_seq (runs_region (by rfl) (runs_block ?_)))
  refine runs_loopS (fun i : Nat => da - i) (fun i => [(0, .v (.string s)), (3, .ptr (idOf 0 3 0) 1 0), (8, .v (.int .i64 (da : Int))), (9, .v (.int .i64 (i : Int)))])
    (fun i h => h = (⟨fun _ => 0, fun _ => .none⟩ : Hp).app [(idOf 0 3 0, 1, .var [.v (.int .i64 (bl : Int)), x1, x2, x3, x4, .v (.int .i64 (da : Int))])] ∧ i ≤ da ∧ runsBits s.data.toList true 0 da = runsBits s.data.toList true i (da - i)) ?_ 0 _ ⟨rfl, rfl, rfl, rfl, trivial⟩ ⟨rfl, by omega, rfl⟩
  rintro i t h ⟨rfl, hle, hrest⟩
  refine runs_seq (runs_region (by rfl) ?_)
  refine runs_seq (runs_cond (v := decide ((i : Int) < (da : Int))) (by rfl) (fun hv => runs_skip ?_) (fun hv => runs_exit ?_))
  · have hlt : i < da := by simpa using hv
    rw [bits_step hlt] at hrest
    cases hh : hasF s.data.toList i with
    | none => rw [hh] at hrest; unfold rightN at hb; rw [hrest] at hb; cases hb
    | some c =>
      rw [hh] at hrest
      refine runs_seq (runs_block (runs_seq (runs_region (by rfl) (runs_seq (runs_region (opsK rfl rfl rfl (opsK rfl rfl rfl (opsK rfl (stepK_spec hC rfl rfl (hasP_of hh (by omega))) rfl (opsK rfl rfl rfl rfl)))) ?_)))))
      refine runs_cond (v := !c) (by rfl) (fun h1 => ?_) (fun h2 => runs_skip ?_)
      · have hcf : c = false := by simpa using h1
        subst hcf
        have hbf : b = false := by
          unfold rightN at hb
          rw [hrest] at hb
          cases hb; rfl
        subst hbf
        refine runs_seq (runs_region (by rfl) (runs_ret ?_))
        exact ⟨by simp, _, _, _, rfl, rfl, rfl⟩
      · have hct : c = true := by simpa using h2
        subst hct
        refine runs_region (opsK rfl (stepK_bin rfl (add_one i (by omega))) rfl (opsK rfl rfl rfl rfl)) ?_
        exact ⟨i + 1, by omega, ⟨rfl, rfl, rfl, rfl, trivial⟩, rfl, by omega, hrest⟩
  · have hge : da ≤ i := by simpa using hv
    have hid : i = da := by omega
    subst hid
    rw [Nat.sub_self] at hrest
    have hb2 : runsBits s.data.toList false bl (8 * s.data.toList.length - bl) = some b := by
      unfold rightN at hb
      rw [hrest] at hb
      exact hb
    have hsl : s.data.toList.length = s.size := by rw [Array.length_toList]; rfl
    rw [hsl] at hb2
    refine runs_seq (runs_seq (runs_region (by rfl) (runs_block ?_)))
    refine runs_loopS (fun j : Nat => 8 * s.size - j) (fun j => [(0, .v (.string s)), (6, .v (.int .i64 (j : Int)))])
      (fun j h => j ≤ 8589934592 ∧ runsBits s.data.toList false bl (8 * s.size - bl) = runsBits s.data.toList false j (8 * s.size - j)) ?_ bl _ ⟨rfl, rfl, trivial⟩ ⟨by omega, rfl⟩
    rintro j t h ⟨hjle, hj⟩
    have hmul : binP (ctxOf Tryz.prog eq sp il bl' is) .mul 3 (.v (.int .i64 8)) (.v (.int .i64 (s.size : Int))) = some (.v (.int .i64 ((8 * s.size : Nat) : Int))) := mul_small 8 s.size (by omega)
    refine runs_seq (runs_seq (runs_region (opsK rfl rfl rfl (opsK rfl rfl rfl (opsK rfl rfl rfl (opsK rfl (stepK_bin rfl hmul) rfl (opsK rfl rfl rfl rfl))))) ?_))
    refine runs_cond (v := decide ((j : Int) < ((8 * s.size : Nat) : Int))) (by rfl) (fun hv => runs_skip ?_) (fun hv => runs_exit ?_)
    · have hlt : j < 8 * s.size := by have := of_decide_eq_true hv; omega
      rw [bits_step hlt] at hj
      cases hh : hasF s.data.toList j with
      | none => rw [hh] at hj; rw [hj] at hb2; cases hb2
      | some c =>
        rw [hh] at hj
        refine runs_seq (runs_block (runs_seq (runs_region (opsK rfl rfl rfl (opsK rfl rfl rfl (opsK rfl (stepK_spec hC rfl rfl (hasP_of hh (by omega))) rfl rfl))) ?_)))
        refine runs_cond (v := c) (by rfl) (fun h1 => ?_) (fun h2 => runs_skip ?_)
        · subst h1
          have hbf : b = false := by
            rw [hj] at hb2
            cases hb2; rfl
          subst hbf
          refine runs_seq (runs_region (by rfl) (runs_ret ?_))
          exact ⟨by simp, _, _, _, rfl, rfl, rfl⟩
        · subst h2
          refine runs_region (opsK rfl rfl rfl (opsK rfl (stepK_bin rfl (add_one j (by omega))) rfl (opsK rfl rfl rfl rfl))) ?_
          exact ⟨j + 1, by omega, ⟨rfl, rfl, trivial⟩, by omega, hj⟩
    · have hge : 8 * s.size ≤ j := by have := of_decide_eq_false hv; omega
      have hbt : b = true := by
        rw [hj] at hb2
        have : 8 * s.size - j = 0 := by omega
        rw [this] at hb2
        cases hb2; rfl
      subst hbt
      refine runs_seq (runs_region (by rfl) (runs_ret ?_))
      exact ⟨by simp, _, _, _, rfl, rfl, rfl⟩
end Go.Ev
end

section
/- geom.right, byte by byte. -/
set_option linter.unusedVariables false
set_option linter.unusedSimpArgs false
namespace Go.Ev
open Go Go.Proofs

/-- Byte k of a map: its bits below data are set, those from blocks on are not. -/
def byteOk (k data blocks : Nat) (b : Nat) : Bool :=
  (Nat.beq (b % 2 ^ (min (data - 8 * k) 8)) (2 ^ (min (data - 8 * k) 8) - 1)) && (Nat.ble (b + 1) (2 ^ (min (blocks - 8 * k) 8)))

noncomputable def bytesOk (data blocks : Nat) (l : List UInt8) : Nat → Bool :=
  List.rec (motive := fun _ => Nat → Bool) (fun _ => true) (fun b _ ih k => bif byteOk k data blocks b.toNat then ih (Nat.succ k) else false) l

noncomputable def rightF (l : List UInt8) (data blocks : Nat) : Option Bool :=
  bif Nat.ble data (8 * l.length) then (bif Nat.ble blocks (8 * l.length) then some (bytesOk data blocks l 0) else none) else none

theorem runsBits_true {l : List UInt8} {want : Bool} : ∀ {n i : Nat}, i + n ≤ 8 * l.length → ∃ b, runsBits l want i n = some b ∧ (b = true ↔ ∀ j, i ≤ j → j < i + n → hasF l j = some want)
  | 0, i, _ => ⟨true, rfl, by simp; intro j h1 h2; omega⟩
  | n + 1, i, h => by
    have hlt : i / 8 < l.length := by omega
    obtain ⟨c, hc⟩ : ∃ c, hasF l i = some c := ⟨_, by unfold hasF; rw [List.getElem?_eq_getElem hlt]⟩
    simp only [runsBits, hc]
    by_cases hcw : c = want
    · rw [if_pos hcw]
      obtain ⟨b, h1, h2⟩ := runsBits_true (l := l) (want := want) (n := n) (i := i + 1) (by omega)
      refine ⟨b, h1, h2.trans ⟨fun hh j a1 a2 => ?_, fun hh j a1 a2 => hh j (by omega) (by omega)⟩⟩
      by_cases e : j = i
      · subst e; rw [hc, hcw]
      · exact hh j (by omega) (by omega)
    · rw [if_neg hcw]
      refine ⟨false, rfl, ⟨fun h => (by cases h), fun hh => ?_⟩⟩
      have := hh i (by omega) (by omega)
      rw [hc] at this; cases this; exact (hcw rfl).elim

theorem byteOk_iff {k data blocks b : Nat} (hb : b < 256) : byteOk k data blocks b = true ↔ (∀ j, j < 8 → 8 * k + j < data → b / 2 ^ j % 2 = 1) ∧ (∀ j, j < 8 → blocks ≤ 8 * k + j → b / 2 ^ j % 2 = 0) := by
  unfold byteOk
  rw [Bool.and_eq_true, Nat.beq_eq, Nat.ble_eq]
  have hbit : ∀ j, b / 2 ^ j % 2 = 1 ↔ b.testBit j = true := fun j => by
    rw [Nat.testBit_eq_decide_div_mod_eq]; simp
  have hbit0 : ∀ j, b / 2 ^ j % 2 = 0 ↔ b.testBit j = false := fun j => by
    rw [Nat.testBit_eq_decide_div_mod_eq]; simp
  refine and_congr ⟨fun h j hj hd => ?_, fun h => ?_⟩ ⟨fun h j hj hd => ?_, fun h => ?_⟩
  · rw [hbit]
    have h1 := congrArg (fun x => Nat.testBit x j) h
    simp only [Nat.testBit_mod_two_pow, Nat.testBit_two_pow_sub_one] at h1
    have : j < min (data - 8 * k) 8 := by omega
    simpa [this] using h1
  · apply Nat.eq_of_testBit_eq
    intro j
    rw [Nat.testBit_mod_two_pow, Nat.testBit_two_pow_sub_one]
    by_cases hj : j < min (data - 8 * k) 8
    · have := (hbit j).1 (h j (by omega) (by omega))
      simp [hj, this]
    · simp [hj]
  · rw [hbit0]
    exact Nat.testBit_lt_two_pow (Nat.lt_of_lt_of_le h (Nat.pow_le_pow_right (by decide) (by omega)))
  · refine Nat.lt_pow_two_of_testBit _ (fun j hj => ?_)
    by_cases h8 : j < 8
    · exact (hbit0 j).1 (h j h8 (by omega))
    · exact Nat.testBit_lt_two_pow (Nat.lt_of_lt_of_le hb (by
        have : 2 ^ 8 ≤ 2 ^ j := Nat.pow_le_pow_right (by decide) (by omega)
        simpa using this))

theorem bytesOk_iff {data blocks : Nat} : ∀ (l : List UInt8) (k : Nat), bytesOk data blocks l k = true ↔ ∀ q (b : UInt8), l[q]? = some b → byteOk (k + q) data blocks b.toNat = true
  | [], k => by simp [bytesOk]
  | b :: l, k => by
    have e : bytesOk data blocks (b :: l) k = bif byteOk k data blocks b.toNat then bytesOk data blocks l (k + 1) else false := rfl
    rw [e]
    have ih := bytesOk_iff (data := data) (blocks := blocks) l (k + 1)
    cases hb : byteOk k data blocks b.toNat with
    | true =>
      rw [cond_true, ih]
      constructor
      · intro h q c hq
        cases q with
        | zero => simp at hq; subst hq; exact hb
        | succ q => have := h q c (by simpa using hq); rwa [show k + 1 + q = k + (q + 1) by omega] at this
      · intro h q c hq
        have := h (q + 1) c (by simpa using hq)
        rwa [show k + (q + 1) = k + 1 + q by omega] at this
    | false =>
      rw [cond_false]
      constructor
      · intro h; cases h
      · intro h
        have := h 0 b (by simp)
        rw [Nat.add_zero, hb] at this; exact this

theorem rightF_eq {l : List UInt8} {data blocks : Nat} {b : Bool} (h : rightF l data blocks = some b) : rightN l data blocks = some b := by
  unfold rightF at h
  cases h1 : Nat.ble data (8 * l.length) with
  | false => rw [h1] at h; cases h
  | true =>
  rw [h1, cond_true] at h
  cases h2 : Nat.ble blocks (8 * l.length) with
  | false => rw [h2] at h; cases h
  | true =>
  rw [h2, cond_true] at h
  cases h
  have hd : data ≤ 8 * l.length := Nat.le_of_ble_eq_true h1
  have hbl : blocks ≤ 8 * l.length := Nat.le_of_ble_eq_true h2
  obtain ⟨b1, e1, i1⟩ := runsBits_true (l := l) (want := true) (n := data) (i := 0) (by omega)
  obtain ⟨b2, e2, i2⟩ := runsBits_true (l := l) (want := false) (n := 8 * l.length - blocks) (i := blocks) (by omega)
  have hbitF : ∀ j w, hasF l j = some w ↔ ∃ c : UInt8, l[j / 8]? = some c ∧ (c.toNat / 2 ^ (j % 8) % 2 == 1) = w := by
    intro j w
    unfold hasF
    cases hc : l[j / 8]? with
    | none => simp
    | some c => simp
  have key : bytesOk data blocks l 0 = true ↔ (b1 = true ∧ b2 = true) := by
    rw [bytesOk_iff, i1, i2]
    constructor
    · intro h
      constructor
      · intro j a1 a2
        have hlt : j / 8 < l.length := by omega
        rw [hbitF]
        refine ⟨l[j / 8], List.getElem?_eq_getElem hlt, ?_⟩
        have := (byteOk_iff (l[j / 8]).toNat_lt).1 (h (j / 8) _ (List.getElem?_eq_getElem hlt))
        rw [this.1 (j % 8) (by omega) (by omega)]; rfl
      · intro j a1 a2
        have hlt : j / 8 < l.length := by omega
        rw [hbitF]
        refine ⟨l[j / 8], List.getElem?_eq_getElem hlt, ?_⟩
        have := (byteOk_iff (l[j / 8]).toNat_lt).1 (h (j / 8) _ (List.getElem?_eq_getElem hlt))
        rw [this.2 (j % 8) (by omega) (by omega)]; rfl
    · rintro ⟨g1, g2⟩ q c hq
      have hql : q < l.length := (List.getElem?_eq_some_iff.1 hq).1
      rw [Nat.zero_add, byteOk_iff c.toNat_lt]
      constructor
      · intro j hj hd'
        obtain ⟨c', hc', hw⟩ := (hbitF _ _).1 (g1 (8 * q + j) (by omega) (by omega))
        rw [show (8 * q + j) / 8 = q by omega, hq] at hc'
        cases hc'
        rw [show (8 * q + j) % 8 = j by omega] at hw
        simpa using hw
      · intro j hj hd'
        obtain ⟨c', hc', hw⟩ := (hbitF _ _).1 (g2 (8 * q + j) (by omega) (by omega))
        rw [show (8 * q + j) / 8 = q by omega, hq] at hc'
        cases hc'
        rw [show (8 * q + j) % 8 = j by omega] at hw
        have : ¬ (c.toNat / 2 ^ j % 2 = 1) := by simpa using hw
        omega
  unfold rightN
  rw [e1]
  cases b1 with
  | true =>
    dsimp only
    rw [e2]
    congr 1
    rw [Bool.eq_iff_iff, key]; simp
  | false =>
    dsimp only
    congr 1
    rw [Bool.eq_iff_iff, key]; simp
end Go.Ev
end

section
/- Structs and arrays of plain cells: equal or not. -/
set_option linter.unusedVariables false
set_option linter.unusedSimpArgs false
namespace Go.Ev
open Go

def fieldsK (rec : TypeId → Option (List EK)) (cells : TypeId → Nat) : List Field → Nat → Option (List EK)
  | [], _ => some []
  | f :: fs, off =>
    match rec f.type with
    | some ks =>
      if f.name ≠ "_" ∧ f.offset = off ∧ cells f.type = ks.length then
        match fieldsK rec cells fs (off + ks.length) with
        | some r => some (ks ++ r)
        | none => none
      else none
    | none => none

/-- The kinds of a type's cells, in order; none: it has others. -/
def kindsOf (P : Program) : Nat → TypeId → Option (List EK)
  | 0, _ => none
  | d + 1, t =>
    match P.underlying t with
    | some (.int k) => some [.int k]
    | some .bool => some [.bool]
    | some .string => some [.str]
    | some (.array n e) => match kindsOf P d e with
      | some ks => if P.cellsOf e = ks.length then some (List.replicate n ks).flatten else none
      | none => none
    | some (.struct fs) => if P.stoodInHeld t = true then none else fieldsK (kindsOf P d) P.cellsOf fs.toList 0
    | _ => none

def Fits : List EK → List Value → Prop
  | [], [] => True
  | k :: ks, u :: us => k.fits u = true ∧ Fits ks us
  | _, _ => False

theorem Fits.length : ∀ {ks us}, Fits ks us → ks.length = us.length
  | [], [], _ => rfl
  | _ :: _, _ :: _, h => congrArg (· + 1) (Fits.length h.2)
  | [], _ :: _, h => h.elim
  | _ :: _, [], h => h.elim
theorem Fits.split : ∀ {ks rs us}, Fits (ks ++ rs) us → ∃ a b, us = a ++ b ∧ Fits ks a ∧ Fits rs b
  | [], rs, us, h => ⟨[], us, rfl, trivial, h⟩
  | k :: ks, rs, u :: us, h => by
    obtain ⟨a, b, rfl, h1, h2⟩ := Fits.split (ks := ks) h.2
    exact ⟨u :: a, b, rfl, ⟨h.1, h1⟩, h2⟩
  | k :: ks, rs, [], h => h.elim

def eqL : List Value → List Value → Bool
  | [], [] => true
  | a :: r, b :: s => (eqV a b == some true) && eqL r s
  | _, _ => false
theorem eqL_append : ∀ {a b c d : List Value}, a.length = c.length → eqL (a ++ b) (c ++ d) = (eqL a c && eqL b d)
  | [], b, [], d, _ => by simp [eqL]
  | x :: a, b, y :: c, d, h => by
    simp only [List.cons_append, eqL]
    rw [eqL_append (by simpa using h), Bool.and_assoc]
  | [], _, _ :: _, _, h => by simp at h
  | _ :: _, _, [], _, h => by simp at h

/-- A value of such a type, by its cells. -/
def valOf (P : Program) (t : TypeId) (us : List Value) : Value :=
  match P.underlying t with
  | some (.struct _) | some (.array _ _) => .agg us.toArray
  | _ => us.headD undef

section
variable {P : Program}

theorem kinds_under {m : Nat} {t : TypeId} {ks : List EK} (h : kindsOf P m t = some ks) : ∃ d, P.underlying t = some d := by
  cases m with
  | zero => cases h
  | succ m =>
    simp only [kindsOf] at h
    split at h <;> first | exact ⟨_, by assumption⟩ | cases h

theorem run_part_k {m : Nat} {t : TypeId} {ks : List EK} (h : kindsOf P m t = some ks) (hc : P.cellsOf t = ks.length) (w : World) {us pre post : List Value} (hf : Fits ks us) :
    (part t (pre ++ us ++ post).toArray pre.length).run P w = .ok (valOf P t us) w := by
  obtain ⟨d, hd⟩ := kinds_under h
  obtain ⟨i, hi⟩ := info_of_under hd
  have hl := hf.length
  have one : (∃ u, us = [u]) → (match d with | .struct _ | .array _ _ => False | _ => True) → (part t (pre ++ us ++ post).toArray pre.length).run P w = .ok (valOf P t us) w := by
    rintro ⟨u, rfl⟩ hn
    have hget : (pre ++ [u] ++ post).toArray[pre.length]? = some u := by simp
    have hv : valOf P t [u] = u := by unfold valOf; rw [hd]; cases d <;> first | rfl | exact hn.elim
    rw [hv]
    cases d <;> first | exact hn.elim | simp [part, isAgg, run_underlying hd, hget]
  have agg : (match d with | .struct _ | .array _ _ => True | _ => False) → (part t (pre ++ us ++ post).toArray pre.length).run P w = .ok (valOf P t us) w := by
    intro hn
    have hv : valOf P t us = .agg us.toArray := by unfold valOf; rw [hd]; cases d <;> first | rfl | exact hn.elim
    have hex : (pre ++ us ++ post).toArray.extract pre.length (pre.length + us.length) = us.toArray := by
      apply Array.ext'
      simp
    rw [hv]
    have hc' : P.cellsOf t = us.length := hc.trans hl
    have hs : (sizeOf t).run P w = .ok us.length w := by rw [← hc']; exact _root_.Go.run_sizeOf w hi
    cases d <;> first | exact hn.elim | simp only [part, isAgg, Sem.run_bind, run_underlying hd, Result.andThen_ok, Sem.run_pure, if_true, hs, hex]
  cases m with
  | zero => cases h
  | succ m =>
    simp only [kindsOf, hd] at h
    cases d <;> simp at h
    case bool => subst h; refine one ?_ trivial; match us, hf with | [u], _ => exact ⟨u, rfl⟩
    case int k => subst h; refine one ?_ trivial; match us, hf with | [u], _ => exact ⟨u, rfl⟩
    case string => subst h; refine one ?_ trivial; match us, hf with | [u], _ => exact ⟨u, rfl⟩
    case array n e => exact agg trivial
    case struct fs => exact agg trivial

def EqK (P : Program) (dd : Nat) (t : TypeId) (ks : List EK) : Prop := ∀ (w : World) (us xs : List Value), Fits ks us → Fits ks xs → (Op.equalIn dd t (valOf P t us) (valOf P t xs)).run P w = .ok (eqL us xs) w

theorem eq_fields {m dd : Nat} (IH : ∀ t ks, kindsOf P m t = some ks → EqK P dd t ks) (w : World) : ∀ (fs : List Field) (off : Nat) (ks : List EK), fieldsK (kindsOf P m) P.cellsOf fs off = some ks →
    ∀ (pre us pre' xs : List Value), pre.length = off → pre'.length = off → Fits ks us → Fits ks xs → (Op.eqFields dd (pre ++ us).toArray (pre' ++ xs).toArray fs).run P w = .ok (eqL us xs) w
  | [], off, ks, h, pre, us, pre', xs, _, _, h1, h2 => by
    simp only [fieldsK] at h; cases h
    match us, xs, h1, h2 with
    | [], [], _, _ => simp [Op.eqFields, eqL]
  | f :: fs, off, ks, h, pre, us, pre', xs, hp, hp', h1, h2 => by
    simp only [fieldsK] at h
    split at h <;> try (cases h; done)
    rename_i k1 hk1
    split at h <;> try (cases h; done)
    rename_i hc
    obtain ⟨hn, ho, hcell⟩ := hc
    split at h <;> try (cases h; done)
    rename_i r hr
    cases h
    obtain ⟨a, b, rfl, a1, a2⟩ := h1.split
    obtain ⟨a', b', rfl, b1, b2⟩ := h2.split
    have p1 := run_part_k hk1 hcell w (pre := pre) (post := b) a1
    have p2 := run_part_k hk1 hcell w (pre := pre') (post := b') b1
    rw [hp] at p1
    rw [hp'] at p2
    have p3 := IH _ _ hk1 w a a' a1 b1
    have la : a.length = k1.length := a1.length.symm
    have la' : a'.length = k1.length := b1.length.symm
    have hrec := eq_fields IH w fs (off + k1.length) r hr (pre ++ a) b (pre' ++ a') b' (by simp [hp, la]) (by simp [hp', la']) a2 b2
    rw [eqL_append (by omega)]
    simp only [Op.eqFields, hn, ne_eq, not_false_eq_true, if_true, Sem.run_bind, ho]
    rw [← List.append_assoc, ← List.append_assoc]
    simp only [p1, p2, p3, Result.andThen_ok]
    cases eqL a a'
    · simp
    · simp only [Bool.not_true, Bool.false_eq_true, if_false, Bool.true_and]
      exact hrec

theorem eq_items {m dd : Nat} {e : TypeId} {k1 : List EK} (hk : kindsOf P m e = some k1) (hcell : P.cellsOf e = k1.length) (IH : EqK P dd e k1) (w : World) : ∀ (n i : Nat) (pre us pre' xs : List Value), pre.length = i * k1.length → pre'.length = i * k1.length → Fits (List.replicate n k1).flatten us → Fits (List.replicate n k1).flatten xs →
    (Op.eqItems dd e (P.cellsOf e) (pre ++ us).toArray (pre' ++ xs).toArray (List.range' i n)).run P w = .ok (eqL us xs) w
  | 0, i, pre, us, pre', xs, _, _, h1, h2 => by
    match us, xs, h1, h2 with
    | [], [], _, _ => simp [Op.eqItems, eqL]
  | n + 1, i, pre, us, pre', xs, hp, hp', h1, h2 => by
    rw [List.replicate_succ, List.flatten_cons] at h1 h2
    obtain ⟨a, b, rfl, a1, a2⟩ := h1.split
    obtain ⟨a', b', rfl, b1, b2⟩ := h2.split
    have p1 := run_part_k hk hcell w (pre := pre) (post := b) a1
    have p2 := run_part_k hk hcell w (pre := pre') (post := b') b1
    rw [hp] at p1
    rw [hp'] at p2
    have p3 := IH w a a' a1 b1
    have la : a.length = k1.length := a1.length.symm
    have la' : a'.length = k1.length := b1.length.symm
    have hrec := eq_items hk hcell IH w n (i + 1) (pre ++ a) b (pre' ++ a') b' (by simp [hp, la, Nat.add_mul]) (by simp [hp', la', Nat.add_mul]) a2 b2
    rw [eqL_append (by omega), List.range'_succ]
    simp only [Op.eqItems, Sem.run_bind, hcell]
    rw [← List.append_assoc, ← List.append_assoc]
    simp only [p1, p2, p3, Result.andThen_ok]
    rw [hcell] at hrec
    cases eqL a a'
    · simp
    · simp only [Bool.not_true, Bool.false_eq_true, if_false, Bool.true_and]
      exact hrec

theorem eq_kinds : ∀ (m : Nat) (t : TypeId) (ks : List EK), kindsOf P m t = some ks → ∀ d, EqK P (d + m) t ks
  | 0, _, _, h, _ => by cases h
  | m + 1, t, ks, h, d => by
    intro w us xs h1 h2
    obtain ⟨kd, hd⟩ := kinds_under h
    simp only [kindsOf, hd] at h
    have e0 : d + (m + 1) = (d + m) + 1 := rfl
    cases kd <;> simp at h
    case bool =>
      subst h
      match us, xs, h1, h2 with
      | [.bool a], [.bool b], _, _ =>
        have hv : ∀ x, valOf P t [x] = x := fun x => by simp [valOf, hd]
        rw [hv, hv, e0, run_equalIn_bool w _ t a b hd]
        simp [eqL, eqV]
    case int k =>
      subst h
      match us, xs, h1, h2 with
      | [.int k1 a], [.int k2 b], h1, h2 =>
        have hv : ∀ x, valOf P t [x] = x := fun x => by simp [valOf, hd]
        have e1 : k = k1 := by simpa [EK.fits] using h1.1
        have e2 : k = k2 := by simpa [EK.fits] using h2.1
        subst e1; subst e2
        rw [hv, hv, e0, run_equalIn_int w _ t k k a b hd]
        simp [eqL, eqV]
    case string =>
      subst h
      match us, xs, h1, h2 with
      | [.string a], [.string b], _, _ =>
        have hv : ∀ x, valOf P t [x] = x := fun x => by simp [valOf, hd]
        rw [hv, hv, e0, run_equalIn_string w _ t a b hd, ← beq_toListBytes]
        simp [eqL, eqV]
    case array n e =>
      have hv : ∀ x, valOf P t x = .agg x.toArray := fun x => by simp [valOf, hd]
      obtain ⟨k1, hk1, hcell, rfl⟩ : ∃ k1, kindsOf P m e = some k1 ∧ P.cellsOf e = k1.length ∧ ks = (List.replicate n k1).flatten := by
        cases hk : kindsOf P m e with
        | none => rw [hk] at h; cases h
        | some k1 =>
          rw [hk] at h
          by_cases hc : P.cellsOf e = k1.length
          · simp [hc] at h; exact ⟨k1, rfl, hc, h.symm⟩
          · simp [hc] at h
      obtain ⟨de, hde⟩ := kinds_under hk1
      obtain ⟨i, hi⟩ := info_of_under hde
      rw [hv, hv, e0, run_equalIn_array w (d + m) _ _ hd hi, List.range_eq_range']
      exact eq_items hk1 hcell (eq_kinds m e k1 hk1 d) w n 0 [] us [] xs (by simp) (by simp) h1 h2
    case struct fs =>
      have hv : ∀ x, valOf P t x = .agg x.toArray := fun x => by simp [valOf, hd]
      have hfs : P.fieldsOf t = fs := by simp [Program.fieldsOf, hd]
      obtain ⟨hst, h⟩ := h
      rw [hv, hv, e0, run_equalIn_struct w (d + m) t _ _ (by rw [hfs]; exact hd) hst, hfs]
      exact eq_fields (fun t' ks' hk' => eq_kinds m t' ks' hk' d) w fs.toList 0 ks h [] us [] xs rfl rfl h1 h2

theorem eqCells_fits : ∀ {ks : List EK} {us xs : List Value} {b : Bool}, eqCells ks (us.map PV.v) (xs.map PV.v) = some b → Fits ks us ∧ Fits ks xs ∧ eqL us xs = b
  | [], [], [], b, h => by simp only [List.map_nil, eqCells] at h; cases h; exact ⟨trivial, trivial, rfl⟩
  | k :: ks, u :: us, x :: xs, b, h => by
    simp only [List.map_cons, eqCells] at h
    split at h <;> try (cases h; done)
    rename_i hf
    simp only [Bool.and_eq_true] at hf
    split at h <;> try (cases h; done)
    rename_i y z hy hz
    cases h
    obtain ⟨h1, h2, h3⟩ := eqCells_fits hz
    refine ⟨⟨hf.1, h1⟩, ⟨hf.2, h2⟩, ?_⟩
    simp only [eqL, hy, h3]
    cases y <;> simp
  | [], _ :: _, _, b, h => by simp [eqCells] at h
  | [], [], _ :: _, b, h => by simp [eqCells] at h
  | _ :: _, [], _, b, h => by simp [eqCells] at h
  | _ :: _, _ :: _, [], b, h => by simp [eqCells] at h

/-- The kinds of these types. -/
def eqOf (P : Program) (l : List TypeId) : TypeId → Option (List EK) := fun t => if l.elem t = true then kindsOf P 10 t else none

theorem eqOf_ok {P : Program} {l : List TypeId} (hl : ∀ t, l.elem t = true → (match P.underlying t with | some (.struct _) | some (.array _ _) => True | _ => False) ∧ P.eqGuardType P.depth t = false) : EqOk P (eqOf P l) := by
  intro t ks cs ds b hk hb us xs w hcs hds op hop x y
  subst hcs; subst hds
  unfold eqOf at hk
  split at hk <;> try (cases hk; done)
  rename_i ht
  obtain ⟨hagg, hg⟩ := hl t ht
  obtain ⟨f1, f2, rfl⟩ := eqCells_fits hb
  have hrun := eq_kinds 10 t ks hk 9990 w us xs f1 f2
  have hv : ∀ z, valOf P t z = .agg z.toArray := fun z => by
    unfold valOf
    split
    · rfl
    · rfl
    · rename_i h1 h2
      split at hagg
      · rename_i h3; exact (h1 _ h3).elim
      · rename_i h3; exact (h2 _ _ h3).elim
      · exact hagg.elim
  rw [hv, hv] at hrun
  refine ⟨?_, hrun⟩
  rcases hop with rfl | rfl <;> simp [eqGuard, hg]
end
end Go.Ev
end

section
/- internal/stringslite.Clone at this program. -/
set_option linter.unusedVariables false
set_option linter.unusedSimpArgs false
namespace Go.Proofs
open Go.Shelf Go.RowKit
set_option maxHeartbeats 4000000 in
set_option maxRecDepth 100000 in
theorem Tryz.stringslite_Clone (s : ByteArray) (w : World) (hlim : s.size ≤ 281474976710656) :
    Calls Tryz.prog 231 #[.string s] w fun e w' => e = .returned (.string s) ∧ Below w.heap.size w w' := by
  have mixed : Tryz.prog.follows .mixedOrders = true := Tryz.laysRepeat.mixed
  have t164 : Tryz.prog.underlying 164 = some (.slice 5) := by kernel_rfl
  have t335 : Tryz.prog.underlying 335 = some (.pointer 5) := by kernel_rfl
  by_cases h0 : s.size = 0
  · have hs : s = ⟨#[]⟩ := by
      apply ByteArray.ext
      exact Array.eq_empty_of_size_eq_zero h0
    subst hs
    go_enter Tryz.func231, Tryz.ntmps231
    go_wp2
    go_ret
    exact ⟨rfl, Below.refl _ _⟩
  · obtain ⟨i0, hi, hz0, hz1, hz2⟩ : ∃ i, Tryz.prog.info? 5 = some i ∧ i.zero = some (.int .u8 0) ∧ i.size = 1 ∧ i.bytes = 1 := by
      obtain ⟨i, hi, h1, h2, h3⟩ := info_parts Tryz.extra.infoByte
      exact ⟨i, hi, h1, h2, h3⟩
    have hinfo : (Tryz.prog.info? 5).map (·.size) = some 1 := by rw [hi]; simp [hz1]
    have hco : Tryz.prog.cellsOf 5 = 1 := by simp [Program.cellsOf, hi, hz1]
    obtain ⟨M, hM⟩ : ∃ M, M = madeCells (Value.int .u8 0).cells (((s.size : Nat) : Int).toNat * i0.size) := ⟨_, rfl⟩
    have hMs : M.size = s.size := by rw [hM, size_madeCells, hz1]; simp
    have hmk : ∀ W : World, (Instr.makeSlice 164 (.int .i64 (s.size : Int)) (.int .i64 (s.size : Int))).run Tryz.prog W = .ok (.slice (some ⟨W.heap.size, 0, none⟩) s.size s.size) (W.alloc (.cells M 5)) := fun W => by
      have h := run_make (P := Tryz.prog) W 164 5 i0 (.int .u8 0) t164 hi hz0 .i64 .i64 (s.size : Int) (s.size : Int) (by omega) (by omega) (by rw [hz2]; omega) (by omega)
      rw [← hM] at h
      simpa using h
    clear hM
    have hcp := Lib.run_copy_row_string (P := Tryz.prog) (w.alloc (.cells M 5)) 164 9 3 5 w.heap.size 0 s.size s.size s M 5 t164 hinfo (heap_alloc_new w _) (Nat.le_refl _) (by omega)
    obtain ⟨Y, hY⟩ : ∃ Y, Y = (M.toList.take 0 ++ Lib.byteCells s.data.toList ++ M.toList.drop (0 + s.size)).toArray := ⟨_, rfl⟩
    rw [← hY] at hcp
    have hYl : Y.toList = Lib.byteCells s.data.toList := by
      rw [hY, List.toList_toArray, List.take_zero, List.nil_append, List.drop_of_length_le (by rw [Array.length_toList]; omega), List.append_nil]
    have hYs : Y.size = s.size := by rw [← Array.length_toList, hYl, Lib.byteCells_length, ← Lib.size_eq]
    have hgY : ((w.alloc (.cells M 5)).setRow w.heap.size Y).heap[w.heap.size]? = some (.cells Y 5 (0, 0)) := setRow_heap _ _ M _ 5 (0, 0) (heap_alloc_new w _)
    have hne : s.data.toList ≠ [] := fun e => h0 (by rw [Lib.size_eq, e]; rfl)
    have hUS := Lib.run_unsafeString_row (P := Tryz.prog) ((w.alloc (.cells M 5)).setRow w.heap.size Y) 335 3 9 5 t335 hco w.heap.size Y.size (by unfold World.shape?; rw [hgY]) s.data.toList hne (by rw [← Lib.size_eq]; omega) (by rw [← Lib.size_eq]; omega)
      (fun j x hx => Lib.cells_of_row hgY Y.size j _ (by rw [List.take_of_length_le (by rw [Array.length_toList]; exact Nat.le_refl _), hYl]; simp [Lib.byteCells, hx]))
    rw [← Lib.size_eq] at hUS
    clear hY
    go_enter Tryz.func231, Tryz.ntmps231
    go_wp2
    go_ret
    have hb1 : Below w.heap.size w (w.alloc (.cells M 5)) := (Below.refl _ w).alloc (Nat.le_refl _) _
    have hb2 : Below w.heap.size (w.alloc (.cells M 5)) ((w.alloc (.cells M 5)).setRow w.heap.size Y) := ⟨rfl, rfl, rfl, by simp, fun k hk => setRow_other _ _ _ _ (by omega)⟩
    exact ⟨rfl, Lib.below_freeze (hb1.trans hb2) (p := ⟨w.heap.size, 0, none⟩) (Nat.le_refl _) _⟩
end Go.Proofs
end
