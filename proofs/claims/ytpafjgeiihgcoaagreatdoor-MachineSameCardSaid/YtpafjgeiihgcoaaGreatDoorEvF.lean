/- A part of the proof: HbEvSt HbEvSd HbEvSu HbEvLp. No conditions. -/
import Derived.Test.YtpafjgeiihgcoaaGreatDoorEvE

section
/- The evaluator once more, in stages, for the kernel: code is made into functions once. What it answers, the evaluator answers. -/
set_option linter.unusedVariables false
set_option linter.unusedSimpArgs false
namespace Go.Ev
open Go

/-- A box: what is in it is made once. -/
structure Bx (α : Type) where
  f : α

/-! ### Numbers are done at once -/
noncomputable def forceNat {α : Type} (n : Nat) (K : Nat → α) : α := Nat.rec (motive := fun _ => α) (K 0) (fun p _ => K (Nat.succ p)) n
theorem forceNat_eq {α : Type} (n : Nat) (K : Nat → α) : forceNat n K = K n := by cases n <;> rfl
noncomputable def forceInt {α : Type} (n : Int) (K : Int → α) : α := Int.rec (motive := fun _ => α) (fun m => forceNat m fun m => K (.ofNat m)) (fun m => forceNat m fun m => K (.negSucc m)) n
theorem forceInt_eq {α : Type} (n : Int) (K : Int → α) : forceInt n K = K n := by
  cases n with
  | ofNat m => exact forceNat_eq m (fun m => K (.ofNat m))
  | negSucc m => exact forceNat_eq m (fun m => K (.negSucc m))
noncomputable def forceV {α : Type} (x : Value) (K : Value → α) : α :=
  match x with
  | .int k n => forceInt n fun n => K (.int k n)
  | x => K x
theorem forceV_eq {α : Type} (x : Value) (K : Value → α) : forceV x K = K x := by
  unfold forceV; split
  · exact forceInt_eq _ _
  · rfl
noncomputable def forceP {α : Type} (p : PV) (K : PV → α) : α :=
  match p with
  | .v x => forceV x fun x => K (.v x)
  | p => K p
theorem forceP_eq {α : Type} (p : PV) (K : PV → α) : forceP p K = K p := by
  unfold forceP; split
  · exact forceV_eq _ _
  · rfl

/-- The temporaries of a list, looked up at once. -/
noncomputable def sq {α : Type} (l : List Nat) : (Nat → PV) → (Nat → PV) → ((Nat → PV) → α) → α :=
  List.rec (motive := fun _ => (Nat → PV) → (Nat → PV) → ((Nat → PV) → α) → α) (fun _ t K => K t) (fun s _ ih t0 t K => forceP (t0 s) fun v => ih t0 (upd t s v) K) l
theorem sq_eq {α : Type} : ∀ (l : List Nat) (t0 : Nat → PV) (K : (Nat → PV) → α), sq l t0 t0 K = K t0
  | [], _, _ => rfl
  | s :: r, t0, K => by
    show forceP (t0 s) (fun v => sq r t0 (upd t0 s v) K) = K t0
    rw [forceP_eq, upd_id _ _ _ rfl]
    exact sq_eq r t0 K

/-! ### Numbers of a kind -/
def smallOf : IntKind → Nat
  | .i8 => 128 | .i16 => 32768 | .i32 => 2147483648 | .i64 => 9223372036854775808
  | .u8 => 256 | .u16 => 65536 | .u32 => 4294967296 | .u64 => 18446744073709551616

noncomputable def kWrap {α : Type} (k : IntKind) (n : Int) (K : Int → α) : α :=
  Int.rec (motive := fun _ => α) (fun m => bif Nat.blt m (smallOf k) then forceNat m fun m => K (.ofNat m) else forceInt (k.wrap (.ofNat m)) K) (fun m => forceInt (k.wrap (.negSucc m)) K) n

theorem wrap_small {k : IntKind} {m : Nat} (h : m < smallOf k) : k.wrap (.ofNat m) = .ofNat m := by
  have e : (Int.ofNat m) = (m : Int) := rfl
  rw [e]
  have key : ∀ (N : Int) (b : Bool) (H : Int), (m : Int) < N → (b = true → (m : Int) < H) → (if (b && decide ((m : Int) % N ≥ H)) = true then (m : Int) % N - N else (m : Int) % N) = (m : Int) := by
    intro N b H h1 h2
    have hm : (m : Int) % N = m := Int.emod_eq_of_lt (by omega) h1
    rw [hm]
    cases b with
    | false => simp
    | true =>
      have := h2 rfl
      have h3 : decide ((m : Int) ≥ H) = false := by simp; omega
      rw [h3]; simp
  unfold IntKind.wrap
  cases k <;> simp only [smallOf] at h <;> exact key _ _ _ (by simp [IntKind.bits]; omega) (by intro hs; first | (cases hs; done) | (simp [IntKind.bits]; omega))

theorem kWrap_eq {α : Type} (k : IntKind) (n : Int) (K : Int → α) : kWrap k n K = K (k.wrap n) := by
  cases n with
  | ofNat m =>
    show (bif Nat.blt m (smallOf k) then forceNat m fun m => K (.ofNat m) else forceInt (k.wrap (.ofNat m)) K) = _
    cases hb : Nat.blt m (smallOf k) with
    | true =>
      have : m < smallOf k := by simpa [Nat.blt_eq] using hb
      rw [wrap_small this]; exact forceNat_eq m (fun m => K (.ofNat m))
    | false => exact forceInt_eq _ _
  | negSucc m => exact forceInt_eq _ _

def unsignedK : IntKind → Bool
  | .u8 | .u16 | .u32 | .u64 => true
  | _ => false

theorem wrap_uns {k : IntKind} (hk : unsignedK k = true) (m : Nat) : k.wrap (.ofNat m) = .ofNat (m % smallOf k) := by
  have e : (Int.ofNat m) = (m : Int) := rfl
  cases k <;> simp [unsignedK] at hk <;> simp only [IntKind.wrap, IntKind.bits, IntKind.signed, Bool.false_and, Bool.false_eq_true, if_false, smallOf, e] <;> rfl

/-- Wrapped, at once. -/
noncomputable def kWrap2 {α : Type} (k : IntKind) (n : Int) (K : Int → α) : α :=
  Int.rec (motive := fun _ => α) (fun m => bif Nat.blt m (smallOf k) then forceNat m fun m => K (.ofNat m) else bif unsignedK k then forceNat (Nat.mod m (smallOf k)) fun m => K (.ofNat m) else forceInt (k.wrap (.ofNat m)) K) (fun m => forceInt (k.wrap (.negSucc m)) K) n
theorem kWrap2_eq {α : Type} (k : IntKind) (n : Int) (K : Int → α) : kWrap2 k n K = K (k.wrap n) := by
  cases n with
  | ofNat m =>
    show (bif Nat.blt m (smallOf k) then forceNat m fun m => K (.ofNat m) else bif unsignedK k then forceNat (Nat.mod m (smallOf k)) fun m => K (.ofNat m) else forceInt (k.wrap (.ofNat m)) K) = _
    cases hb : Nat.blt m (smallOf k) with
    | true =>
      have : m < smallOf k := by simpa [Nat.blt_eq] using hb
      rw [wrap_small this]; exact forceNat_eq m (fun m => K (.ofNat m))
    | false =>
      cases hk : unsignedK k with
      | true => rw [wrap_uns hk]; exact forceNat_eq _ (fun m => K (.ofNat m))
      | false => exact forceInt_eq _ _
  | negSucc m => exact forceInt_eq _ _

theorem smallOf_pow : ∀ k : IntKind, ∃ e, smallOf k = 2 ^ e ∧ e ≤ k.bits
  | .i8 => ⟨7, rfl, by decide⟩ | .i16 => ⟨15, rfl, by decide⟩ | .i32 => ⟨31, rfl, by decide⟩ | .i64 => ⟨63, rfl, by decide⟩
  | .u8 => ⟨8, rfl, by decide⟩ | .u16 => ⟨16, rfl, by decide⟩ | .u32 => ⟨32, rfl, by decide⟩ | .u64 => ⟨64, rfl, by decide⟩

theorem ofInt_small {k : IntKind} {a : Nat} (h : a < smallOf k) : (BitVec.ofInt k.bits (a : Int)).toNat = a := by
  obtain ⟨e, he, hle⟩ := smallOf_pow k
  have h2 : a < 2 ^ k.bits := Nat.lt_of_lt_of_le (he ▸ h) (Nat.pow_le_pow_right (by decide) hle)
  have : (BitVec.ofInt k.bits (a : Int)) = BitVec.ofNat k.bits a := by
    apply BitVec.eq_of_toNat_eq
    rw [BitVec.toNat_ofInt, BitVec.toNat_ofNat]
    rw [← Int.natCast_emod]; rfl
  rw [this, BitVec.toNat_ofNat, Nat.mod_eq_of_lt h2]

/-- Two numbers that are no less than nought, and small. -/
noncomputable def kNat2 (k : IntKind) (a b : Int) (slow : Option PV) (f : Nat → Nat → Option PV) : Option PV :=
  Int.rec (motive := fun _ => Option PV) (fun m => Int.rec (motive := fun _ => Option PV) (fun n => bif Nat.blt m (smallOf k) then (bif Nat.blt n (smallOf k) then f m n else slow) else slow) (fun _ => slow) b) (fun _ => slow) a
theorem kNat2_eq {k : IntKind} {a b : Int} {slow : Option PV} {f : Nat → Nat → Option PV} (h : ∀ m n, m < smallOf k → n < smallOf k → f m n = (fun (a b : Int) => slow) m n ∨ a ≠ m ∨ b ≠ n) : kNat2 k a b slow f = slow := by
  cases a with
  | negSucc m => rfl
  | ofNat m => cases b with
    | negSucc n => rfl
    | ofNat n =>
      show (bif Nat.blt m (smallOf k) then (bif Nat.blt n (smallOf k) then f m n else slow) else slow) = slow
      cases h1 : Nat.blt m (smallOf k) with
      | false => rfl
      | true =>
        cases h2 : Nat.blt n (smallOf k) with
        | false => rfl
        | true =>
          have a1 : m < smallOf k := by simpa [Nat.blt_eq] using h1
          have a2 : n < smallOf k := by simpa [Nat.blt_eq] using h2
          rcases h m n a1 a2 with h | h | h
          · exact h
          · exact (h rfl).elim
          · exact (h rfl).elim

noncomputable def kLt (a b : Int) : Bool :=
  Int.rec (motive := fun _ => Bool) (fun m => Int.rec (motive := fun _ => Bool) (fun n => Nat.blt m n) (fun _ => false) b) (fun m => Int.rec (motive := fun _ => Bool) (fun _ => true) (fun n => Nat.blt n m) b) a
theorem kLt_eq (a b : Int) : kLt a b = decide (a < b) := by
  rw [Bool.eq_iff_iff, decide_eq_true_iff]
  cases a with
  | ofNat m => cases b with
    | ofNat n => show Nat.blt m n = true ↔ _; rw [Nat.blt_eq]; exact Int.ofNat_lt.symm
    | negSucc n => show false = true ↔ _; constructor <;> intro h; cases h; have : (Int.negSucc n) < 0 := Int.negSucc_lt_zero n; have h2 : (0 : Int) ≤ Int.ofNat m := Int.natCast_nonneg m; omega
  | negSucc m => cases b with
    | ofNat n => show true = true ↔ _; constructor <;> intro h; have : (Int.negSucc m) < 0 := Int.negSucc_lt_zero m; have h2 : (0 : Int) ≤ Int.ofNat n := Int.natCast_nonneg n; omega; rfl
    | negSucc n => show Nat.blt n m = true ↔ _; rw [Nat.blt_eq, Int.negSucc_eq, Int.negSucc_eq]; omega
noncomputable def kEq (a b : Int) : Bool :=
  Int.rec (motive := fun _ => Bool) (fun m => Int.rec (motive := fun _ => Bool) (fun n => Nat.beq m n) (fun _ => false) b) (fun m => Int.rec (motive := fun _ => Bool) (fun _ => false) (fun n => Nat.beq n m) b) a
theorem kEq_eq (a b : Int) : kEq a b = (a == b) := by
  rw [Bool.eq_iff_iff, beq_iff_eq]
  cases a with
  | ofNat m => cases b with
    | ofNat n => show Nat.beq m n = true ↔ _; rw [Nat.beq_eq]; exact ⟨fun h => h ▸ rfl, fun h => by cases h; rfl⟩
    | negSucc n => show false = true ↔ _; exact ⟨fun h => (by cases h), fun h => (by cases h)⟩
  | negSucc m => cases b with
    | ofNat n => show false = true ↔ _; exact ⟨fun h => (by cases h), fun h => (by cases h)⟩
    | negSucc n => show Nat.beq n m = true ↔ _; rw [Nat.beq_eq]; exact ⟨fun h => h ▸ rfl, fun h => by cases h; rfl⟩

abbrev KI := IntKind → IntKind → Int → Int → Option PV
def slowI (op : BinOp) : KI := fun k k' a b =>
  match op with
  | .shl | .shr => (shiftI op k a b).map .v
  | _ => if k = k' then (intArith op k a b).map .v else none

/-- Arithmetic, by the operation. -/
noncomputable def compI (op : BinOp) : Bx KI :=
  match op with
  | .add => ⟨fun k k' a b => if k = k' then kWrap2 k (a + b) fun n => some (.v (.int k n)) else none⟩
  | .sub => ⟨fun k k' a b => if k = k' then kWrap2 k (a - b) fun n => some (.v (.int k n)) else none⟩
  | .mul => ⟨fun k k' a b => if k = k' then kWrap2 k (a * b) fun n => some (.v (.int k n)) else none⟩
  | .eql => ⟨fun k k' a b => if k = k' then some (.v (.bool (kEq a b))) else none⟩
  | .neq => ⟨fun k k' a b => if k = k' then some (.v (.bool (!(kEq a b)))) else none⟩
  | .lss => ⟨fun k k' a b => if k = k' then some (.v (.bool (kLt a b))) else none⟩
  | .leq => ⟨fun k k' a b => if k = k' then some (.v (.bool (!(kLt b a)))) else none⟩
  | .gtr => ⟨fun k k' a b => if k = k' then some (.v (.bool (kLt b a))) else none⟩
  | .geq => ⟨fun k k' a b => if k = k' then some (.v (.bool (!(kLt a b)))) else none⟩
  | .and => ⟨fun k k' a b => if k = k' then kNat2 k a b ((intArith .and k a b).map .v) (fun m n => forceNat (Nat.land m n) fun r => some (.v (.int k (.ofNat r)))) else none⟩
  | .or => ⟨fun k k' a b => if k = k' then kNat2 k a b ((intArith .or k a b).map .v) (fun m n => forceNat (Nat.lor m n) fun r => some (.v (.int k (.ofNat r)))) else none⟩
  | .xor => ⟨fun k k' a b => if k = k' then kNat2 k a b ((intArith .xor k a b).map .v) (fun m n => forceNat (Nat.xor m n) fun r => some (.v (.int k (.ofNat r)))) else none⟩
  | .quo => ⟨fun k k' a b => if k = k' then kNat2 k a b ((intArith .quo k a b).map .v) (fun m n => bif Nat.beq n 0 then none else forceNat (Nat.div m n) fun r => some (.v (.int k (.ofNat r)))) else none⟩
  | .rem => ⟨fun k k' a b => if k = k' then kNat2 k a b ((intArith .rem k a b).map .v) (fun m n => bif Nat.beq n 0 then none else forceNat (Nat.mod m n) fun r => some (.v (.int k (.ofNat r)))) else none⟩
  | .shr => ⟨fun k _ a b => kNat2 k a b ((shiftI .shr k a b).map .v) (fun m n => forceNat (Nat.div m (Nat.pow 2 (bif Nat.ble n k.bits then n else k.bits))) fun r => some (.v (.int k (.ofNat r))))⟩
  | .shl => ⟨fun k _ a b => kNat2 k a b ((shiftI .shl k a b).map .v) (fun m n => kWrap2 k (.ofNat (Nat.mul m (Nat.pow 2 (bif Nat.ble n k.bits then n else k.bits)))) fun r => some (.v (.int k r)))⟩
  | op => ⟨slowI op⟩

theorem small_le {k : IntKind} {m r : Nat} (h : m < smallOf k) (hr : r ≤ m) : k.wrap (r : Int) = (r : Int) := wrap_small (Nat.lt_of_le_of_lt hr h)

theorem min_b (n b : Nat) : (bif Nat.ble n b then n else b) = min n b := by
  cases h : Nat.ble n b with
  | true => have := Nat.le_of_ble_eq_true h; simp; omega
  | false =>
    have : ¬ n ≤ b := fun hh => by rw [Nat.ble_eq_true_of_le hh] at h; cases h
    simp; omega

theorem compI_eq (op : BinOp) (k k' : IntKind) (a b : Int) : (compI op).f k k' a b = slowI op k k' a b := by
  have h1 : decide (a ≤ b) = !(decide (b < a)) := by rw [Bool.eq_iff_iff]; simp
  have h2 : decide (b ≤ a) = !(decide (a < b)) := by rw [Bool.eq_iff_iff]; simp
  have bits : ∀ (f : Nat → Nat → Nat) (op : BinOp), (∀ m n, m < smallOf k → n < smallOf k → (intArith op k (m : Int) (n : Int)).map PV.v = some (.v (.int k ((f m n : Nat) : Int)))) →
      kNat2 k a b ((intArith op k a b).map .v) (fun m n => forceNat (f m n) fun r => some (.v (.int k (.ofNat r)))) = (intArith op k a b).map .v := by
    intro f op hf
    cases a with
    | negSucc m => rfl
    | ofNat m => cases b with
      | negSucc n => rfl
      | ofNat n =>
        refine kNat2_eq (fun m' n' q1 q2 => ?_)
        by_cases e : m' = m ∧ n' = n
        · obtain ⟨rfl, rfl⟩ := e
          left
          rw [forceNat_eq]; exact (hf _ _ q1 q2).symm
        · by_cases e1 : m' = m
          · right; right; intro hh; apply e; exact ⟨e1, (Int.ofNat.inj hh).symm⟩
          · right; left; intro hh; exact e1 (Int.ofNat.inj hh).symm
  have gen : ∀ (slow : Int → Int → Option PV) (f : Nat → Nat → Option PV), (∀ m n, m < smallOf k → n < smallOf k → f m n = slow m n) → kNat2 k a b (slow a b) f = slow a b := by
    intro slow f hf
    cases a with
    | negSucc m => rfl
    | ofNat m => cases b with
      | negSucc n => rfl
      | ofNat n =>
        refine kNat2_eq (fun m' n' q1 q2 => ?_)
        by_cases e : m' = m ∧ n' = n
        · obtain ⟨rfl, rfl⟩ := e
          exact .inl (hf _ _ q1 q2)
        · by_cases e1 : m' = m
          · right; right; intro hh; apply e; exact ⟨e1, (Int.ofNat.inj hh).symm⟩
          · right; left; intro hh; exact e1 (Int.ofNat.inj hh).symm
  obtain ⟨e, he, hle⟩ := smallOf_pow k
  cases op
  case add => show (if k = k' then kWrap2 k (a + b) _ else none) = _; rw [kWrap2_eq]; rfl
  case sub => show (if k = k' then kWrap2 k (a - b) _ else none) = _; rw [kWrap2_eq]; rfl
  case mul => show (if k = k' then kWrap2 k (a * b) _ else none) = _; rw [kWrap2_eq]; rfl
  case eql => show (if k = k' then some (PV.v (.bool (kEq a b))) else none) = _; rw [kEq_eq]; rfl
  case neq => show (if k = k' then some (PV.v (.bool (!(kEq a b)))) else none) = _; rw [kEq_eq]; rfl
  case lss => show (if k = k' then some (PV.v (.bool (kLt a b))) else none) = _; rw [kLt_eq]; rfl
  case leq => show (if k = k' then some (PV.v (.bool (!(kLt b a)))) else none) = (if k = k' then some (PV.v (.bool (decide (a ≤ b)))) else none); rw [kLt_eq, h1]
  case gtr => show (if k = k' then some (PV.v (.bool (kLt b a))) else none) = _; rw [kLt_eq]; rfl
  case geq => show (if k = k' then some (PV.v (.bool (!(kLt a b)))) else none) = (if k = k' then some (PV.v (.bool (decide (b ≤ a)))) else none); rw [kLt_eq, h2]
  case and =>
    show (if k = k' then kNat2 k a b _ (fun m n => forceNat (Nat.land m n) _) else none) = (if k = k' then (intArith .and k a b).map .v else none)
    rw [bits Nat.land .and (fun m n a1 a2 => ?_)]
    simp only [intArith, Option.map_some, BitVec.toNat_and, ofInt_small a1, ofInt_small a2]
    exact congrArg (fun x => some (PV.v (.int k x))) (small_le a1 Nat.and_le_left)
  case or =>
    show (if k = k' then kNat2 k a b _ (fun m n => forceNat (Nat.lor m n) _) else none) = (if k = k' then (intArith .or k a b).map .v else none)
    rw [bits Nat.lor .or (fun m n a1 a2 => ?_)]
    simp only [intArith, Option.map_some, BitVec.toNat_or, ofInt_small a1, ofInt_small a2]
    exact congrArg (fun x => some (PV.v (.int k x))) (wrap_small (by rw [he] at a1 a2 ⊢; exact Nat.or_lt_two_pow a1 a2))
  case xor =>
    show (if k = k' then kNat2 k a b _ (fun m n => forceNat (Nat.xor m n) _) else none) = (if k = k' then (intArith .xor k a b).map .v else none)
    rw [bits Nat.xor .xor (fun m n a1 a2 => ?_)]
    simp only [intArith, Option.map_some, BitVec.toNat_xor, ofInt_small a1, ofInt_small a2]
    exact congrArg (fun x => some (PV.v (.int k x))) (wrap_small (by rw [he] at a1 a2 ⊢; exact Nat.xor_lt_two_pow a1 a2))
  case quo =>
    show (if k = k' then kNat2 k a b _ _ else none) = (if k = k' then (intArith .quo k a b).map .v else none)
    rw [gen (fun a b => (intArith .quo k a b).map .v) _ (fun m n a1 a2 => ?_)]
    simp only [intArith]
    by_cases hn : n = 0
    · subst hn; simp
    · have hb : Nat.beq n 0 = false := by cases hb : Nat.beq n 0 with | false => rfl | true => exact (hn (Nat.eq_of_beq_eq_true hb)).elim
      rw [hb, if_neg (by omega), cond_false, forceNat_eq]
      have : (m : Int).tdiv (n : Int) = ((m / n : Nat) : Int) := rfl
      rw [this, small_le a1 (Nat.div_le_self _ _)]; rfl
  case rem =>
    show (if k = k' then kNat2 k a b _ _ else none) = (if k = k' then (intArith .rem k a b).map .v else none)
    rw [gen (fun a b => (intArith .rem k a b).map .v) _ (fun m n a1 a2 => ?_)]
    simp only [intArith]
    by_cases hn : n = 0
    · subst hn; simp
    · have hb : Nat.beq n 0 = false := by cases hb : Nat.beq n 0 with | false => rfl | true => exact (hn (Nat.eq_of_beq_eq_true hb)).elim
      rw [hb, if_neg (by omega), cond_false, forceNat_eq]
      rfl
  case shr =>
    show kNat2 k a b _ _ = (shiftI .shr k a b).map .v
    rw [gen (fun a b => (shiftI .shr k a b).map .v) _ (fun m n a1 a2 => ?_)]
    simp only [shiftI, min_b, forceNat_eq]
    rw [if_neg (by omega), Int.toNat_natCast]
    have e2 : (m : Int).fdiv (2 ^ (min n k.bits)) = ((m / 2 ^ (min n k.bits) : Nat) : Int) := by
      rw [Int.fdiv_eq_ediv_of_nonneg _ (by exact Int.pow_nonneg (by decide))]
      rw [Int.natCast_ediv, Int.natCast_pow]; rfl
    rw [e2]; rfl
  case shl =>
    show kNat2 k a b _ _ = (shiftI .shl k a b).map .v
    rw [gen (fun a b => (shiftI .shl k a b).map .v) _ (fun m n a1 a2 => ?_)]
    simp only [shiftI, min_b, kWrap2_eq]
    rw [if_neg (by omega), Int.toNat_natCast]
    have e2 : (m : Int) * 2 ^ (min n k.bits) = ((m * 2 ^ (min n k.bits) : Nat) : Int) := by
      rw [Int.natCast_mul, Int.natCast_pow]; rfl
    rw [e2]; rfl
  all_goals rfl

/-! ### Strings -/
noncomputable def nthL (l : List UInt8) : Nat → Option UInt8 := List.rec (motive := fun _ => Nat → Option UInt8) (fun _ => none) (fun b _ ih n => bif Nat.beq n 0 then some b else ih (Nat.pred n)) l
theorem nthL_eq : ∀ (l : List UInt8) (n : Nat), nthL l n = l[n]?
  | [], n => by simp [nthL]
  | b :: l, 0 => rfl
  | b :: l, n + 1 => by
    show (bif Nat.beq (n + 1) 0 then some b else nthL l (Nat.pred (n + 1))) = _
    have : Nat.beq (n + 1) 0 = false := rfl
    rw [this, cond_false, nthL_eq l]; simp

noncomputable def eqB (l : List UInt8) : List UInt8 → Bool := List.rec (motive := fun _ => List UInt8 → Bool) (fun m => List.rec (motive := fun _ => Bool) true (fun _ _ _ => false) m) (fun a _ ih m => List.rec (motive := fun _ => Bool) false (fun b m' _ => bif Nat.beq a.toNat b.toNat then ih m' else false) m) l
theorem eqB_eq : ∀ (l m : List UInt8), eqB l m = (l == m)
  | [], [] => rfl
  | [], _ :: _ => rfl
  | _ :: _, [] => rfl
  | a :: l, b :: m => by
    show (bif Nat.beq a.toNat b.toNat then eqB l m else false) = _
    rw [eqB_eq l m, List.cons_beq_cons]
    cases h : Nat.beq a.toNat b.toNat with
    | true => have : a = b := UInt8.toNat_inj.1 (Nat.eq_of_beq_eq_true h)
              subst this; simp
    | false => have : ¬ a = b := fun e => by subst e; rw [Nat.beq_refl] at h; cases h
               have h2 : (a == b) = false := by simpa using this
               rw [h2]; rfl

theorem bytes_get (s : ByteArray) (n : Nat) : s[n]? = s.data.toList[n]? := by
  have hs : s.size = s.data.toList.length := by rw [Array.length_toList]; rfl
  by_cases hlt : n < s.size
  · rw [getElem?_pos s n hlt, List.getElem?_eq_getElem (by omega)]; rfl
  · rw [getElem?_neg s n hlt, List.getElem?_eq_none (by omega)]

theorem bytes_add (x y : ByteArray) : x ++ y = ⟨(x.data.toList ++ y.data.toList).toArray⟩ := by
  apply ByteArray.ext
  apply Array.ext'
  simp

theorem bytes_cut (s : ByteArray) (l h : Nat) : s.extract l h = ⟨((s.data.toList.drop l).take (h - l)).toArray⟩ := by
  apply ByteArray.ext
  rw [ByteArray.data_extract]
  apply Array.ext'
  simp [Array.toList_extract, List.extract]

noncomputable def kStr (op : BinOp) (a b : ByteArray) : Option PV :=
  match op with
  | .eql => some (.v (.bool (eqB a.data.toList b.data.toList)))
  | .neq => some (.v (.bool (!(eqB a.data.toList b.data.toList))))
  | .add => if a.size + b.size ≤ 9223372036854775807 then some (.v (.string ⟨(a.data.toList ++ b.data.toList).toArray⟩)) else none
  | op => (strOp op a b).map .v
theorem kStr_eq (op : BinOp) (a b : ByteArray) : kStr op a b = (strOp op a b).map .v := by
  unfold kStr
  split
  · simp only [strOp, eqB_eq, ByteArray.toList_eq, Option.map_some]
  · simp only [strOp, eqB_eq, ByteArray.toList_eq, Option.map_some]
  · simp only [strOp, ← bytes_add]
    split <;> rfl
  · rfl

noncomputable def kBin (C : Ctx) (op : BinOp) (t : TypeId) (x y : PV) : Option PV :=
  match x with
  | .v (.int k a) => match y with
    | .v (.int k' b) => (compI op).f k k' a b
    | y => binP C op t x y
  | .v (.string a) => match y with
    | .v (.string b) => kStr op a b
    | y => binP C op t x y
  | x => binP C op t x y
theorem kBin_eq (C : Ctx) (op : BinOp) (t : TypeId) (x y : PV) : kBin C op t x y = binP C op t x y := by
  unfold kBin
  split
  · split
    · rw [compI_eq]; unfold slowI binP; cases op <;> rfl
    · rfl
  · split
    · rw [kStr_eq]; unfold binP; rfl
    · rfl
  · rfl

noncomputable def kIdx (C : Ctx) (t : TypeId) (x ix : PV) : Option PV :=
  match x with
  | .v (.string s) => match ix with
    | .v (.int k n) => Int.rec (motive := fun _ => Option PV) (fun m => match C.ty t with
      | .str => match nthL s.data.toList m with
        | some b => forceNat b.toNat fun r => some (.v (.int .u8 (.ofNat r)))
        | none => none
      | _ => none) (fun _ => none) n
    | ix => indexP C t x ix
  | x => indexP C t x ix
theorem kIdx_eq (C : Ctx) (t : TypeId) (x ix : PV) : kIdx C t x ix = indexP C t x ix := by
  unfold kIdx
  split
  · rename_i s
    split
    · rename_i k n
      cases n with
      | ofNat m =>
        simp only [indexP, intP]
        split
        · rename_i hty
          rw [hty]
          simp only [nthL_eq, forceNat_eq, ← bytes_get]
          rw [if_pos (by simp)]
          rfl
        · rename_i hne
          split
          · rename_i h1 h2; cases h2
          · rename_i h1 h2; exact (hne h1).elim
          · rfl
      | negSucc m =>
        simp only [indexP, intP]
        split
        · rename_i h1 h2; cases h2
        · rename_i h1 h2; cases h2
          rw [if_neg (by simp)]
        · rfl
    · rfl
  · rfl

noncomputable def kSlice (C : Ctx) (h : Hp) (id g : Nat) (t : TypeId) (x : PV) (lo hi mx : Option PV) : Option (PV × Ups) :=
  match x with
  | .v (.string s) => match mx with
    | none => match C.ty t with
      | .str => match boundP lo 0, boundP hi s.size with
        | some l, some u => bif Nat.ble l u then (bif Nat.ble u s.size then some (.v (.string ⟨((s.data.toList.drop l).take (u - l)).toArray⟩), []) else none) else none
        | _, _ => none
      | _ => sliceP C h id g t x lo hi mx
    | some m => sliceP C h id g t x lo hi mx
  | x => sliceP C h id g t x lo hi mx
theorem kSlice_eq (C : Ctx) (h : Hp) (id g : Nat) (t : TypeId) (x : PV) (lo hi mx : Option PV) : kSlice C h id g t x lo hi mx = sliceP C h id g t x lo hi mx := by
  unfold kSlice
  split
  · rename_i s
    split
    · split
      · rename_i hty
        simp only [sliceP, hty]
        split
        · rename_i l u hl hu
          rw [← bytes_cut]
          simp only [hl, hu]
          cases h1 : Nat.ble l u with
          | true =>
            cases h2 : Nat.ble u s.size with
            | true => rw [if_pos ⟨Nat.le_of_ble_eq_true h1, Nat.le_of_ble_eq_true h2⟩]; rfl
            | false => rw [if_neg (fun hh => by rw [Nat.ble_eq_true_of_le hh.2] at h2; cases h2)]; rfl
          | false => rw [if_neg (fun hh => by rw [Nat.ble_eq_true_of_le hh.1] at h1; cases h1)]; rfl
        · rename_i hno
          split
          · rename_i l u hl hu; exact (hno l u hl hu).elim
          · rfl
      · rfl
    · rfl
  · rfl

noncomputable def kConv (C : Ctx) (h : Hp) (id g : Nat) (src dst : TypeId) (x : PV) : Option (PV × Ups) :=
  match x with
  | .v (.int _ n) => match C.ty src with
    | .int _ => match C.ty dst with
      | .int k => kWrap2 k n fun r => some (.v (.int k r), [])
      | _ => convP C h id g src dst x
    | _ => convP C h id g src dst x
  | x => convP C h id g src dst x
theorem kConv_eq (C : Ctx) (h : Hp) (id g : Nat) (src dst : TypeId) (x : PV) : kConv C h id g src dst x = convP C h id g src dst x := by
  unfold kConv
  split
  · split
    · rename_i hs
      split
      · rename_i hd
        rw [kWrap2_eq]
        simp only [convP, hs, hd]
      · rfl
    · rfl
  · rfl

/-! ### Operations -/
abbrev KO := Ev → Nat → St → Option (PV × Hp)

noncomputable def compOp0 (C : Ctx) (o : Oper) : Bx KO :=
  match o.op with
  | .move x => ⟨fun _ _ st => some (opd st.t x, st.h)⟩
  | .assign x => ⟨fun _ _ st => some (opd st.t x, st.h)⟩
  | .pick c a b => ⟨fun _ _ st => match opd st.t c with
    | .v (.bool true) => some (opd st.t a, st.h)
    | .v (.bool false) => some (opd st.t b, st.h)
    | _ => none⟩
  | .alloc t => match C.zero t with
    | some zs => ⟨fun _ dp st => some (.ptr (idOf dp (o.dst.getD 99999) 0) (st.h.G (idOf dp (o.dst.getD 99999) 0) + 1) 0, st.h.app [(idOf dp (o.dst.getD 99999) 0, st.h.G (idOf dp (o.dst.getD 99999) 0) + 1, newBlk C t zs)])⟩
    | none => ⟨fun _ _ _ => none⟩
  | .box _ x => ⟨fun _ dp st => match cellsOf (opd st.t x) with
    | some cs => some (.ptr (idOf dp (o.dst.getD 99999) 0) (st.h.G (idOf dp (o.dst.getD 99999) 0) + 1) 0, st.h.app [(idOf dp (o.dst.getD 99999) 0, st.h.G (idOf dp (o.dst.getD 99999) 0) + 1, .var cs)])
    | none => none⟩
  | .build t parts => ⟨fun _ _ st => match buildP C t (parts.toList.map fun (i, x) => (i, opd st.t x)) with | some y => some (y, st.h) | none => none⟩
  | .buildSlice t len parts => ⟨fun _ dp st => match buildSliceP C (idOf dp (o.dst.getD 99999) 0) (st.h.G (idOf dp (o.dst.getD 99999) 0)) t len (parts.toList.map fun (i, x) => (i, opd st.t x)) with | some (r, ups) => some (r, st.h.app ups) | none => none⟩
  | .load t a => ⟨fun _ _ st => match loadP C st.h t (opd st.t a) with | some y => some (y, st.h) | none => none⟩
  | .store t a x => ⟨fun _ _ st => match storeP C st.h t (opd st.t a) (opd st.t x) with | some ups => some (.dead, st.h.app ups) | none => none⟩
  | .nilCheck x => ⟨fun _ _ st => match nilCheckP (opd st.t x) with | some y => some (y, st.h) | none => none⟩
  | .binOp op t x y _ => ⟨fun _ _ st => match kBin C op t (opd st.t x) (opd st.t y) with | some y => some (y, st.h) | none => none⟩
  | .unOp op _ x => ⟨fun _ _ st => match unP op (opd st.t x) with | some y => some (y, st.h) | none => none⟩
  | .convert src dst x => ⟨fun _ dp st => match kConv C st.h (idOf dp (o.dst.getD 99999) 0) (st.h.G (idOf dp (o.dst.getD 99999) 0)) src dst (opd st.t x) with | some (r, ups) => some (r, st.h.app ups) | none => none⟩
  | .makeSlice t l c => ⟨fun _ dp st => match makeSliceP C (idOf dp (o.dst.getD 99999) 0) (st.h.G (idOf dp (o.dst.getD 99999) 0)) t (opd st.t l) (opd st.t c) with | some (r, ups) => some (r, st.h.app ups) | none => none⟩
  | .slice t x lo hi mx => ⟨fun _ dp st => match kSlice C st.h (idOf dp (o.dst.getD 99999) 0) (st.h.G (idOf dp (o.dst.getD 99999) 0)) t (opd st.t x) (lo.map (opd st.t)) (hi.map (opd st.t)) (mx.map (opd st.t)) with | some (r, ups) => some (r, st.h.app ups) | none => none⟩
  | .fieldAddr s x f => ⟨fun _ _ st => match fieldP C s (opd st.t x) f with | some y => some (y, st.h) | none => none⟩
  | .indexAddr t x ix => ⟨fun _ _ st => match indexAddrP C st.h t (opd st.t x) (opd st.t ix) with | some y => some (y, st.h) | none => none⟩
  | .index t x ix => ⟨fun _ _ st => match kIdx C t (opd st.t x) (opd st.t ix) with | some y => some (y, st.h) | none => none⟩
  | .mapUpdate t m k x => ⟨fun _ _ st => match mapUpdP C st.h t (opd st.t m) (opd st.t k) (opd st.t x) with | some ups => some (.dead, st.h.app ups) | none => none⟩
  | .insert t m k x => ⟨fun _ _ st => match mapUpdP C st.h t (opd st.t m) (opd st.t k) (opd st.t x) with | some ups => some (.dead, st.h.app ups) | none => none⟩
  | .lookup t x ix ok => ⟨fun _ _ st => match lookupP C st.h t (opd st.t x) (opd st.t ix) ok with | some y => some (y, st.h) | none => none⟩
  | .extract x ix => ⟨fun _ _ st => match opd st.t x with
    | .tuple vs => match vs[ix]? with | some y => some (y, st.h) | none => none
    | _ => none⟩
  | .call { callee := .value f, args, .. } => ⟨fun ev dp st =>
    match opd st.t f with
    | .func (.func fid) fs cs =>
      if C.callable fid then
        match C.isp fid with
        | some Fn => match Fn (idOf dp (o.dst.getD 99999) 0) (fs ++ (args.toList.map (opd st.t) ++ cs)) st.h with
          | some (r, ups) => some (r, st.h.app ups)
          | none => none
        | none =>
        if C.inl fid then evalBody C ev (dp + 1) fid (fs ++ (args.toList.map (opd st.t) ++ cs)) st.h
        else
          match callP (calOf C ev) st.h (idOf dp (o.dst.getD 99999) 0) fid (fs ++ (args.toList.map (opd st.t) ++ cs)) with
          | some (r, ups) => some (r, st.h.app ups)
          | none => none
      else none
    | .yld i g => evalRound ev (dp + 1000) i g (args.toList.map (opd st.t)) st.h
    | _ => none⟩
  | .call { callee := .builtin .len, args, argTypes } => match args.toList, argTypes[0]? with
    | [x], some t => ⟨fun _ _ st => match lenP C st.h t (opd st.t x) with
      | some n => forceNat n fun n => some (.v (.int .i64 (.ofNat n)), st.h)
      | none => none⟩
    | _, _ => ⟨fun _ _ _ => none⟩
  | _ => ⟨fun ev dp st => stepOp C (calOf C ev) (evalBody C ev (dp + 1)) (evalRound ev (dp + 1000)) dp o st⟩

theorem compOp_eq0 (C : Ctx) (o : Oper) (ev : Ev) (dp : Nat) (st : St) : (compOp0 C o).f ev dp st = stepOp C (calOf C ev) (evalBody C ev (dp + 1)) (evalRound ev (dp + 1000)) dp o st := by
  obtain ⟨dst, op, ty, pos, af, gd⟩ := o
  unfold compOp0
  split
  case h_25 => rfl
  all_goals (rename_i hop; dsimp only at hop; subst hop)
  · rfl
  · rfl
  · simp only [stepOp, evalOp, kIdx_eq, kSlice_eq, kConv_eq]
    split <;> simp_all [Hp.app]
  · simp only [stepOp, evalOp, kIdx_eq, kSlice_eq, kConv_eq]
    split <;> simp_all [Hp.app]
  · simp only [stepOp, evalOp, kIdx_eq, kSlice_eq, kConv_eq]
    split <;> simp_all [Hp.app]
  · simp only [stepOp, evalOp, kIdx_eq, kSlice_eq, kConv_eq]
    split <;> simp_all [Hp.app]
  · simp only [stepOp, evalOp, kIdx_eq, kSlice_eq, kConv_eq]
    first | rfl | (split <;> simp_all)
  · simp only [stepOp, evalOp, kIdx_eq, kSlice_eq, kConv_eq]
    split <;> simp_all [Hp.app]
  · simp only [stepOp, evalOp, kIdx_eq, kSlice_eq, kConv_eq]
    split <;> simp_all [Hp.app]
  · simp only [stepOp, evalOp, kIdx_eq, kSlice_eq, kConv_eq]
    split <;> simp_all [Hp.app]
  · simp only [stepOp, evalOp, kBin_eq]
    split <;> simp_all [Hp.app]
  · simp only [stepOp, evalOp, kIdx_eq, kSlice_eq, kConv_eq]
    split <;> simp_all [Hp.app]
  · simp only [stepOp, evalOp, kIdx_eq, kSlice_eq, kConv_eq]
    first | rfl | (split <;> simp_all)
  · simp only [stepOp, evalOp, kIdx_eq, kSlice_eq, kConv_eq]
    first | rfl | (split <;> simp_all)
  · simp only [stepOp, evalOp, kIdx_eq, kSlice_eq, kConv_eq]
    first | rfl | (split <;> simp_all)
  · simp only [stepOp, evalOp, kIdx_eq, kSlice_eq, kConv_eq]
    split <;> simp_all [Hp.app]
  · simp only [stepOp, evalOp, kIdx_eq, kSlice_eq, kConv_eq]
    split <;> simp_all [Hp.app]
  · simp only [stepOp, evalOp, kIdx_eq, kSlice_eq, kConv_eq]
    split <;> simp_all [Hp.app]
  · simp only [stepOp, evalOp, kIdx_eq, kSlice_eq, kConv_eq]
    split <;> simp_all [Hp.app]
  · simp only [stepOp, evalOp, kIdx_eq, kSlice_eq, kConv_eq]
    split <;> simp_all [Hp.app]
  · simp only [stepOp, evalOp, kIdx_eq, kSlice_eq, kConv_eq]
    split <;> simp_all [Hp.app]
  · simp only [stepOp, evalOp, kIdx_eq, kSlice_eq, kConv_eq]
    split
    · split <;> simp_all [Hp.app]
    · simp_all
  · rfl
  · simp only [stepOp, evalOp, kIdx_eq, kSlice_eq, kConv_eq]
    split
    · simp only [forceNat_eq]
      split <;> simp_all [Hp.app]
    · simp_all

/-! ### The same, a small function an operation -/
noncomputable def hSlow (C : Ctx) (o : Oper) : Bx KO := ⟨fun ev dp st => stepOp C (calOf C ev) (evalBody C ev (dp + 1)) (evalRound ev (dp + 1000)) dp o st⟩
noncomputable def h_move (C : Ctx) (o : Oper) (x : Operand) : Bx KO := ⟨fun _ _ st => some (opd st.t x, st.h)⟩
noncomputable def h_assign (C : Ctx) (o : Oper) (x : Operand) : Bx KO := ⟨fun _ _ st => some (opd st.t x, st.h)⟩
noncomputable def h_pick (C : Ctx) (o : Oper) (c a b : Operand) : Bx KO := ⟨fun _ _ st => match opd st.t c with
    | .v (.bool true) => some (opd st.t a, st.h)
    | .v (.bool false) => some (opd st.t b, st.h)
    | _ => none⟩
noncomputable def h_alloc (C : Ctx) (o : Oper) (t : TypeId) : Bx KO := match C.zero t with
    | some zs => ⟨fun _ dp st => some (.ptr (idOf dp (o.dst.getD 99999) 0) (st.h.G (idOf dp (o.dst.getD 99999) 0) + 1) 0, st.h.app [(idOf dp (o.dst.getD 99999) 0, st.h.G (idOf dp (o.dst.getD 99999) 0) + 1, newBlk C t zs)])⟩
    | none => ⟨fun _ _ _ => none⟩
noncomputable def h_box (C : Ctx) (o : Oper) (t0 : TypeId) (x : Operand) : Bx KO := ⟨fun _ dp st => match cellsOf (opd st.t x) with
    | some cs => some (.ptr (idOf dp (o.dst.getD 99999) 0) (st.h.G (idOf dp (o.dst.getD 99999) 0) + 1) 0, st.h.app [(idOf dp (o.dst.getD 99999) 0, st.h.G (idOf dp (o.dst.getD 99999) 0) + 1, .var cs)])
    | none => none⟩
noncomputable def h_build (C : Ctx) (o : Oper) (t : TypeId) (parts : Array (Nat × Operand)) : Bx KO := ⟨fun _ _ st => match buildP C t (parts.toList.map fun (i, x) => (i, opd st.t x)) with | some y => some (y, st.h) | none => none⟩
noncomputable def h_buildSlice (C : Ctx) (o : Oper) (t : TypeId) (len : Nat) (parts : Array (Nat × Operand)) : Bx KO := ⟨fun _ dp st => match buildSliceP C (idOf dp (o.dst.getD 99999) 0) (st.h.G (idOf dp (o.dst.getD 99999) 0)) t len (parts.toList.map fun (i, x) => (i, opd st.t x)) with | some (r, ups) => some (r, st.h.app ups) | none => none⟩
noncomputable def h_insert (C : Ctx) (o : Oper) (t : TypeId) (m k x : Operand) : Bx KO := ⟨fun _ _ st => match mapUpdP C st.h t (opd st.t m) (opd st.t k) (opd st.t x) with | some ups => some (.dead, st.h.app ups) | none => none⟩
noncomputable def h_load (C : Ctx) (o : Oper) (t : TypeId) (a : Operand) : Bx KO := ⟨fun _ _ st => match loadP C st.h t (opd st.t a) with | some y => some (y, st.h) | none => none⟩
noncomputable def h_store (C : Ctx) (o : Oper) (t : TypeId) (a x : Operand) : Bx KO := ⟨fun _ _ st => match storeP C st.h t (opd st.t a) (opd st.t x) with | some ups => some (.dead, st.h.app ups) | none => none⟩
noncomputable def h_nilCheck (C : Ctx) (o : Oper) (x : Operand) : Bx KO := ⟨fun _ _ st => match nilCheckP (opd st.t x) with | some y => some (y, st.h) | none => none⟩
noncomputable def h_binOp (C : Ctx) (o : Oper) (op : BinOp) (t : TypeId) (x y : Operand) (yt : TypeId) : Bx KO := ⟨fun _ _ st => match kBin C op t (opd st.t x) (opd st.t y) with | some y => some (y, st.h) | none => none⟩
noncomputable def h_unOp (C : Ctx) (o : Oper) (op : UnOp) (t0 : TypeId) (x : Operand) : Bx KO := ⟨fun _ _ st => match unP op (opd st.t x) with | some y => some (y, st.h) | none => none⟩
noncomputable def h_convert (C : Ctx) (o : Oper) (src dst : TypeId) (x : Operand) : Bx KO := ⟨fun _ dp st => match kConv C st.h (idOf dp (o.dst.getD 99999) 0) (st.h.G (idOf dp (o.dst.getD 99999) 0)) src dst (opd st.t x) with | some (r, ups) => some (r, st.h.app ups) | none => none⟩
noncomputable def h_makeSlice (C : Ctx) (o : Oper) (t : TypeId) (l c : Operand) : Bx KO := ⟨fun _ dp st => match makeSliceP C (idOf dp (o.dst.getD 99999) 0) (st.h.G (idOf dp (o.dst.getD 99999) 0)) t (opd st.t l) (opd st.t c) with | some (r, ups) => some (r, st.h.app ups) | none => none⟩
noncomputable def h_slice (C : Ctx) (o : Oper) (t : TypeId) (x : Operand) (lo hi mx : Option Operand) : Bx KO := ⟨fun _ dp st => match kSlice C st.h (idOf dp (o.dst.getD 99999) 0) (st.h.G (idOf dp (o.dst.getD 99999) 0)) t (opd st.t x) (lo.map (opd st.t)) (hi.map (opd st.t)) (mx.map (opd st.t)) with | some (r, ups) => some (r, st.h.app ups) | none => none⟩
noncomputable def h_fieldAddr (C : Ctx) (o : Oper) (s : TypeId) (x : Operand) (f : Nat) : Bx KO := ⟨fun _ _ st => match fieldP C s (opd st.t x) f with | some y => some (y, st.h) | none => none⟩
noncomputable def h_indexAddr (C : Ctx) (o : Oper) (t : TypeId) (x ix : Operand) : Bx KO := ⟨fun _ _ st => match indexAddrP C st.h t (opd st.t x) (opd st.t ix) with | some y => some (y, st.h) | none => none⟩
noncomputable def h_index (C : Ctx) (o : Oper) (t : TypeId) (x ix : Operand) : Bx KO := ⟨fun _ _ st => match kIdx C t (opd st.t x) (opd st.t ix) with | some y => some (y, st.h) | none => none⟩
noncomputable def h_lookup (C : Ctx) (o : Oper) (t : TypeId) (x ix : Operand) (ok : Bool) : Bx KO := ⟨fun _ _ st => match lookupP C st.h t (opd st.t x) (opd st.t ix) ok with | some y => some (y, st.h) | none => none⟩
noncomputable def h_mapUpdate (C : Ctx) (o : Oper) (t : TypeId) (m k x : Operand) : Bx KO := ⟨fun _ _ st => match mapUpdP C st.h t (opd st.t m) (opd st.t k) (opd st.t x) with | some ups => some (.dead, st.h.app ups) | none => none⟩
noncomputable def h_extract (C : Ctx) (o : Oper) (x : Operand) (ix : Nat) : Bx KO := ⟨fun _ _ st => match opd st.t x with
    | .tuple vs => match vs[ix]? with | some y => some (y, st.h) | none => none
    | _ => none⟩
noncomputable def h_callV (C : Ctx) (o : Oper) (f : Operand) (args : Array Operand) : Bx KO := ⟨fun ev dp st =>
    match opd st.t f with
    | .func (.func fid) fs cs =>
      if C.callable fid then
        match C.isp fid with
        | some Fn => match Fn (idOf dp (o.dst.getD 99999) 0) (fs ++ (args.toList.map (opd st.t) ++ cs)) st.h with
          | some (r, ups) => some (r, st.h.app ups)
          | none => none
        | none =>
        if C.inl fid then evalBody C ev (dp + 1) fid (fs ++ (args.toList.map (opd st.t) ++ cs)) st.h
        else
          match callP (calOf C ev) st.h (idOf dp (o.dst.getD 99999) 0) fid (fs ++ (args.toList.map (opd st.t) ++ cs)) with
          | some (r, ups) => some (r, st.h.app ups)
          | none => none
      else none
    | .yld i g => evalRound ev (dp + 1000) i g (args.toList.map (opd st.t)) st.h
    | _ => none⟩
noncomputable def h_len (C : Ctx) (o : Oper) (args : Array Operand) (argTypes : Array TypeId) : Bx KO := match args.toList, argTypes[0]? with
    | [x], some t => ⟨fun _ _ st => match lenP C st.h t (opd st.t x) with
      | some n => forceNat n fun n => some (.v (.int .i64 (.ofNat n)), st.h)
      | none => none⟩
    | _, _ => ⟨fun _ _ _ => none⟩
noncomputable def h_call (C : Ctx) (o : Oper) (c : Call) : Bx KO :=
  match c.callee with
  | .value f => h_callV C o f c.args
  | .builtin .len => h_len C o c.args c.argTypes
  | _ => hSlow C o
noncomputable def compOp (C : Ctx) (o : Oper) : Bx KO :=
  Op.rec (motive := fun _ => Bx KO) (fun x => h_move C o x)
    (fun x => h_assign C o x)
    (fun c a b => h_pick C o c a b)
    (fun t => h_alloc C o t)
    (fun t0 x => h_box C o t0 x)
    (fun t parts => h_build C o t parts)
    (fun t len parts => h_buildSlice C o t len parts)
    (fun t m k x => h_insert C o t m k x)
    (fun t a => h_load C o t a)
    (fun t a x => h_store C o t a x)
    (fun _ => hSlow C o)
    (fun _ => hSlow C o)
    (fun x => h_nilCheck C o x)
    (fun op t x y yt => h_binOp C o op t x y yt)
    (fun op t0 x => h_unOp C o op t0 x)
    (fun src dst x => h_convert C o src dst x)
    (fun _ _ => hSlow C o)
    (fun _ _ => hSlow C o)
    (fun _ _ _ => hSlow C o)
    (fun _ _ => hSlow C o)
    (fun _ _ => hSlow C o)
    (fun t l c => h_makeSlice C o t l c)
    (fun t x lo hi mx => h_slice C o t x lo hi mx)
    (fun s x f => h_fieldAddr C o s x f)
    (fun _ _ _ => hSlow C o)
    (fun t x ix => h_indexAddr C o t x ix)
    (fun t x ix => h_index C o t x ix)
    (fun t x ix ok => h_lookup C o t x ix ok)
    (fun t m k x => h_mapUpdate C o t m k x)
    (fun _ _ _ => hSlow C o)
    (fun _ _ _ _ => hSlow C o)
    (fun _ _ => hSlow C o)
    (fun _ _ => hSlow C o)
    (fun _ => hSlow C o)
    (fun _ _ _ _ => hSlow C o)
    (fun x ix => h_extract C o x ix)
    (fun c => h_call C o c)
    (fun _ => hSlow C o)
    (fun _ => hSlow C o)
    (fun _ => hSlow C o)
    (fun _ _ => hSlow C o)
    (fun _ _ _ => hSlow C o)
    (fun _ _ => hSlow C o) o.op
theorem compOp_same (C : Ctx) (o : Oper) : compOp C o = compOp0 C o := by
  obtain ⟨dst, op, ty, pos, af, gd⟩ := o
  cases op <;> try rfl
  case call c =>
    obtain ⟨callee, args, argTypes⟩ := c
    cases callee with
    | value f => rfl
    | invoke f m => rfl
    | builtin b => cases b <;> rfl
theorem compOp_eq (C : Ctx) (o : Oper) (ev : Ev) (dp : Nat) (st : St) : (compOp C o).f ev dp st = stepOp C (calOf C ev) (evalBody C ev (dp + 1)) (evalRound ev (dp + 1000)) dp o st := by
  rw [compOp_same]; exact compOp_eq0 C o ev dp st
end Go.Ev
end

section
/- The evaluator in stages: regions that draw. -/
set_option linter.unusedVariables false
set_option linter.unusedSimpArgs false
namespace Go.Ev
open Go

abbrev KU := Ev → Nat → St → Option (PV × Ups)
noncomputable def uSlow (C : Ctx) (o : Oper) : Bx KU := ⟨fun ev dp st => upsOp C (calOf C ev) dp o st⟩
noncomputable def u_move (C : Ctx) (o : Oper) (x : Operand) : Bx KU := ⟨fun _ _ st => some (opd st.t x, [])⟩
noncomputable def u_assign (C : Ctx) (o : Oper) (x : Operand) : Bx KU := ⟨fun _ _ st => some (opd st.t x, [])⟩
noncomputable def u_pick (C : Ctx) (o : Oper) (c a b : Operand) : Bx KU := ⟨fun _ _ st => match opd st.t c with
    | .v (.bool true) => some (opd st.t a, [])
    | .v (.bool false) => some (opd st.t b, [])
    | _ => none⟩
noncomputable def u_alloc (C : Ctx) (o : Oper) (t : TypeId) : Bx KU := match C.zero t with
    | some zs => ⟨fun _ dp st => some (.ptr (idOf dp (o.dst.getD 99999) 0) (st.h.G (idOf dp (o.dst.getD 99999) 0) + 1) 0, [(idOf dp (o.dst.getD 99999) 0, st.h.G (idOf dp (o.dst.getD 99999) 0) + 1, newBlk C t zs)])⟩
    | none => ⟨fun _ _ _ => none⟩
noncomputable def u_box (C : Ctx) (o : Oper) (t0 : TypeId) (x : Operand) : Bx KU := ⟨fun _ dp st => match cellsOf (opd st.t x) with
    | some cs => some (.ptr (idOf dp (o.dst.getD 99999) 0) (st.h.G (idOf dp (o.dst.getD 99999) 0) + 1) 0, [(idOf dp (o.dst.getD 99999) 0, st.h.G (idOf dp (o.dst.getD 99999) 0) + 1, .var cs)])
    | none => none⟩
noncomputable def u_build (C : Ctx) (o : Oper) (t : TypeId) (parts : Array (Nat × Operand)) : Bx KU := ⟨fun _ _ st => match buildP C t (parts.toList.map fun (i, x) => (i, opd st.t x)) with | some y => some (y, []) | none => none⟩
noncomputable def u_buildSlice (C : Ctx) (o : Oper) (t : TypeId) (len : Nat) (parts : Array (Nat × Operand)) : Bx KU := ⟨fun _ dp st => match buildSliceP C (idOf dp (o.dst.getD 99999) 0) (st.h.G (idOf dp (o.dst.getD 99999) 0)) t len (parts.toList.map fun (i, x) => (i, opd st.t x)) with | some (r, ups) => some (r, ups) | none => none⟩
noncomputable def u_insert (C : Ctx) (o : Oper) (t : TypeId) (m k x : Operand) : Bx KU := ⟨fun _ _ st => match mapUpdP C st.h t (opd st.t m) (opd st.t k) (opd st.t x) with | some ups => some (.dead, ups) | none => none⟩
noncomputable def u_load (C : Ctx) (o : Oper) (t : TypeId) (a : Operand) : Bx KU := ⟨fun _ _ st => match loadP C st.h t (opd st.t a) with | some y => some (y, []) | none => none⟩
noncomputable def u_store (C : Ctx) (o : Oper) (t : TypeId) (a x : Operand) : Bx KU := ⟨fun _ _ st => match storeP C st.h t (opd st.t a) (opd st.t x) with | some ups => some (.dead, ups) | none => none⟩
noncomputable def u_nilCheck (C : Ctx) (o : Oper) (x : Operand) : Bx KU := ⟨fun _ _ st => match nilCheckP (opd st.t x) with | some y => some (y, []) | none => none⟩
noncomputable def u_binOp (C : Ctx) (o : Oper) (op : BinOp) (t : TypeId) (x y : Operand) (yt : TypeId) : Bx KU := ⟨fun _ _ st => match kBin C op t (opd st.t x) (opd st.t y) with | some y => some (y, []) | none => none⟩
noncomputable def u_unOp (C : Ctx) (o : Oper) (op : UnOp) (t0 : TypeId) (x : Operand) : Bx KU := ⟨fun _ _ st => match unP op (opd st.t x) with | some y => some (y, []) | none => none⟩
noncomputable def u_convert (C : Ctx) (o : Oper) (src dst : TypeId) (x : Operand) : Bx KU := ⟨fun _ dp st => match kConv C st.h (idOf dp (o.dst.getD 99999) 0) (st.h.G (idOf dp (o.dst.getD 99999) 0)) src dst (opd st.t x) with | some (r, ups) => some (r, ups) | none => none⟩
noncomputable def u_makeSlice (C : Ctx) (o : Oper) (t : TypeId) (l c : Operand) : Bx KU := ⟨fun _ dp st => match makeSliceP C (idOf dp (o.dst.getD 99999) 0) (st.h.G (idOf dp (o.dst.getD 99999) 0)) t (opd st.t l) (opd st.t c) with | some (r, ups) => some (r, ups) | none => none⟩
noncomputable def u_slice (C : Ctx) (o : Oper) (t : TypeId) (x : Operand) (lo hi mx : Option Operand) : Bx KU := ⟨fun _ dp st => match kSlice C st.h (idOf dp (o.dst.getD 99999) 0) (st.h.G (idOf dp (o.dst.getD 99999) 0)) t (opd st.t x) (lo.map (opd st.t)) (hi.map (opd st.t)) (mx.map (opd st.t)) with | some (r, ups) => some (r, ups) | none => none⟩
noncomputable def u_fieldAddr (C : Ctx) (o : Oper) (s : TypeId) (x : Operand) (f : Nat) : Bx KU := ⟨fun _ _ st => match fieldP C s (opd st.t x) f with | some y => some (y, []) | none => none⟩
noncomputable def u_indexAddr (C : Ctx) (o : Oper) (t : TypeId) (x ix : Operand) : Bx KU := ⟨fun _ _ st => match indexAddrP C st.h t (opd st.t x) (opd st.t ix) with | some y => some (y, []) | none => none⟩
noncomputable def u_index (C : Ctx) (o : Oper) (t : TypeId) (x ix : Operand) : Bx KU := ⟨fun _ _ st => match kIdx C t (opd st.t x) (opd st.t ix) with | some y => some (y, []) | none => none⟩
noncomputable def u_lookup (C : Ctx) (o : Oper) (t : TypeId) (x ix : Operand) (ok : Bool) : Bx KU := ⟨fun _ _ st => match lookupP C st.h t (opd st.t x) (opd st.t ix) ok with | some y => some (y, []) | none => none⟩
noncomputable def u_mapUpdate (C : Ctx) (o : Oper) (t : TypeId) (m k x : Operand) : Bx KU := ⟨fun _ _ st => match mapUpdP C st.h t (opd st.t m) (opd st.t k) (opd st.t x) with | some ups => some (.dead, ups) | none => none⟩
noncomputable def u_extract (C : Ctx) (o : Oper) (x : Operand) (ix : Nat) : Bx KU := ⟨fun _ _ st => match opd st.t x with
    | .tuple vs => match vs[ix]? with | some y => some (y, []) | none => none
    | _ => none⟩
noncomputable def u_callV (C : Ctx) (o : Oper) (f : Operand) (args : Array Operand) : Bx KU := ⟨fun ev dp st =>
    match opd st.t f with
    | .func (.func fid) fs cs =>
      if C.callable fid then
        match C.isp fid with
        | some Fn => Fn (idOf dp (o.dst.getD 99999) 0) (fs ++ (args.toList.map (opd st.t) ++ cs)) st.h
        | none => if C.inl fid then none else callP (calOf C ev) st.h (idOf dp (o.dst.getD 99999) 0) fid (fs ++ (args.toList.map (opd st.t) ++ cs))
      else none
    | _ => none⟩
noncomputable def u_len (C : Ctx) (o : Oper) (args : Array Operand) (argTypes : Array TypeId) : Bx KU := match args.toList, argTypes[0]? with
    | [x], some t => ⟨fun _ _ st => match lenP C st.h t (opd st.t x) with
      | some n => forceNat n fun n => some (.v (.int .i64 (.ofNat n)), [])
      | none => none⟩
    | _, _ => ⟨fun _ _ _ => none⟩
noncomputable def u_call (C : Ctx) (o : Oper) (c : Call) : Bx KU :=
  match c.callee with
  | .value f => u_callV C o f c.args
  | .builtin .len => u_len C o c.args c.argTypes
  | _ => uSlow C o
noncomputable def compU (C : Ctx) (o : Oper) : Bx KU :=
  Op.rec (motive := fun _ => Bx KU) (fun x => u_move C o x)
    (fun x => u_assign C o x)
    (fun c a b => u_pick C o c a b)
    (fun t => u_alloc C o t)
    (fun t0 x => u_box C o t0 x)
    (fun t parts => u_build C o t parts)
    (fun t len parts => u_buildSlice C o t len parts)
    (fun t m k x => u_insert C o t m k x)
    (fun t a => u_load C o t a)
    (fun t a x => u_store C o t a x)
    (fun _ => uSlow C o)
    (fun _ => uSlow C o)
    (fun x => u_nilCheck C o x)
    (fun op t x y yt => u_binOp C o op t x y yt)
    (fun op t0 x => u_unOp C o op t0 x)
    (fun src dst x => u_convert C o src dst x)
    (fun _ _ => uSlow C o)
    (fun _ _ => uSlow C o)
    (fun _ _ _ => uSlow C o)
    (fun _ _ => uSlow C o)
    (fun _ _ => uSlow C o)
    (fun t l c => u_makeSlice C o t l c)
    (fun t x lo hi mx => u_slice C o t x lo hi mx)
    (fun s x f => u_fieldAddr C o s x f)
    (fun _ _ _ => uSlow C o)
    (fun t x ix => u_indexAddr C o t x ix)
    (fun t x ix => u_index C o t x ix)
    (fun t x ix ok => u_lookup C o t x ix ok)
    (fun t m k x => u_mapUpdate C o t m k x)
    (fun _ _ _ => uSlow C o)
    (fun _ _ _ _ => uSlow C o)
    (fun _ _ => uSlow C o)
    (fun _ _ => uSlow C o)
    (fun _ => uSlow C o)
    (fun _ _ _ _ => uSlow C o)
    (fun x ix => u_extract C o x ix)
    (fun c => u_call C o c)
    (fun _ => uSlow C o)
    (fun _ => uSlow C o)
    (fun _ => uSlow C o)
    (fun _ _ => uSlow C o)
    (fun _ _ _ => uSlow C o)
    (fun _ _ => uSlow C o) o.op

theorem compU_eq (C : Ctx) (o : Oper) (ev : Ev) (dp : Nat) (st : St) : (compU C o).f ev dp st = upsOp C (calOf C ev) dp o st := by
  obtain ⟨dst, op, ty, pos, af, gd⟩ := o
  cases op
  case move x => rfl
  case assign x => rfl
  case pick c a b => show (u_pick C ⟨dst, .pick c a b, ty, pos, af, gd⟩ c a b).f ev dp st = _; simp only [u_pick, upsOp, evalOp]; (split <;> simp_all)
  case alloc t =>
    show (u_alloc C ⟨dst, .alloc t, ty, pos, af, gd⟩ t).f ev dp st = _
    simp only [u_alloc, upsOp, evalOp]
    split <;> simp_all
  case box t0 x => show (u_box C ⟨dst, .box t0 x, ty, pos, af, gd⟩ t0 x).f ev dp st = _; simp only [u_box, upsOp, evalOp]; (split <;> simp_all)
  case build t parts => show (u_build C ⟨dst, .build t parts, ty, pos, af, gd⟩ t parts).f ev dp st = _; simp only [u_build, upsOp, evalOp] <;> (split <;> simp_all)
  case buildSlice t len parts => show (u_buildSlice C ⟨dst, .buildSlice t len parts, ty, pos, af, gd⟩ t len parts).f ev dp st = _; simp only [u_buildSlice, upsOp, evalOp]; (split <;> simp_all)
  case insert t m k x => show (u_insert C ⟨dst, .insert t m k x, ty, pos, af, gd⟩ t m k x).f ev dp st = _; simp only [u_insert, upsOp, evalOp] <;> (split <;> simp_all)
  case load t a => show (u_load C ⟨dst, .load t a, ty, pos, af, gd⟩ t a).f ev dp st = _; simp only [u_load, upsOp, evalOp] <;> (split <;> simp_all)
  case store t a x => show (u_store C ⟨dst, .store t a x, ty, pos, af, gd⟩ t a x).f ev dp st = _; simp only [u_store, upsOp, evalOp] <;> (split <;> simp_all)
  case nilCheck x => show (u_nilCheck C ⟨dst, .nilCheck x, ty, pos, af, gd⟩ x).f ev dp st = _; simp only [u_nilCheck, upsOp, evalOp] <;> (split <;> simp_all)
  case binOp op t x y yt => show (u_binOp C ⟨dst, .binOp op t x y yt, ty, pos, af, gd⟩ op t x y yt).f ev dp st = _; simp only [u_binOp, upsOp, evalOp, kBin_eq] <;> (split <;> simp_all)
  case unOp op t0 x => show (u_unOp C ⟨dst, .unOp op t0 x, ty, pos, af, gd⟩ op t0 x).f ev dp st = _; simp only [u_unOp, upsOp, evalOp] <;> (split <;> simp_all)
  case convert src tgt x => show (u_convert C ⟨dst, .convert src tgt x, ty, pos, af, gd⟩ src tgt x).f ev dp st = _; simp only [u_convert, upsOp, evalOp, kConv_eq]; (split <;> simp_all)
  case makeSlice t l c => show (u_makeSlice C ⟨dst, .makeSlice t l c, ty, pos, af, gd⟩ t l c).f ev dp st = _; simp only [u_makeSlice, upsOp, evalOp]; (split <;> simp_all)
  case slice t x lo hi mx => show (u_slice C ⟨dst, .slice t x lo hi mx, ty, pos, af, gd⟩ t x lo hi mx).f ev dp st = _; simp only [u_slice, upsOp, evalOp, kSlice_eq]; (split <;> simp_all)
  case fieldAddr s x f => show (u_fieldAddr C ⟨dst, .fieldAddr s x f, ty, pos, af, gd⟩ s x f).f ev dp st = _; simp only [u_fieldAddr, upsOp, evalOp] <;> (split <;> simp_all)
  case indexAddr t x ix => show (u_indexAddr C ⟨dst, .indexAddr t x ix, ty, pos, af, gd⟩ t x ix).f ev dp st = _; simp only [u_indexAddr, upsOp, evalOp] <;> (split <;> simp_all)
  case index t x ix => show (u_index C ⟨dst, .index t x ix, ty, pos, af, gd⟩ t x ix).f ev dp st = _; simp only [u_index, upsOp, evalOp, kIdx_eq] <;> (split <;> simp_all)
  case lookup t x ix ok => show (u_lookup C ⟨dst, .lookup t x ix ok, ty, pos, af, gd⟩ t x ix ok).f ev dp st = _; simp only [u_lookup, upsOp, evalOp] <;> (split <;> simp_all)
  case mapUpdate t m k x => show (u_mapUpdate C ⟨dst, .mapUpdate t m k x, ty, pos, af, gd⟩ t m k x).f ev dp st = _; simp only [u_mapUpdate, upsOp, evalOp] <;> (split <;> simp_all)
  case extract x ix =>
    show (u_extract C ⟨dst, .extract x ix, ty, pos, af, gd⟩ x ix).f ev dp st = _
    simp only [u_extract, upsOp, evalOp]
    cases opd st.t x <;> try rfl
  case call c =>
    obtain ⟨callee, args, argTypes⟩ := c
    cases callee with
    | value f => rfl
    | invoke f m => rfl
    | builtin b =>
      cases b <;> try rfl
      show (u_len C ⟨dst, .call ⟨.builtin .len, args, argTypes⟩, ty, pos, af, gd⟩ args argTypes).f ev dp st = _
      simp only [u_len, upsOp, evalOp]
      split
      · simp only [forceNat_eq]
        split <;> simp_all <;> rfl
      · simp_all
  all_goals rfl

/-! ### The recorded run, with what it needs carried along -/
def usOf : Nat → List Rec → List (Nat × Ups)
  | _, [] => []
  | q, r :: rs => match r.ups with
    | [] => usOf (q + 1) rs
    | u :: us => (q, u :: us) :: usOf (q + 1) rs

noncomputable def hsel (sel : Nat → Bool) (us : List (Nat × Ups)) : Hp → Hp := List.rec (motive := fun _ => Hp → Hp) (fun h => h) (fun x _ ih h => bif sel x.1 then ih (h.app x.2) else ih h) us

theorem hsel_eq {sel : Nat → Bool} : ∀ (rs : List Rec) (q : Nat) (h : Hp), hsel sel (usOf q rs) h = hF sel q rs h
  | [], q, h => rfl
  | r :: rs, q, h => by
    simp only [usOf, hF]
    split
    · rename_i hu
      rw [hsel_eq rs]
      have : (if sel q = true then h.app r.ups else h) = h := by rw [hu]; split <;> rfl
      rw [this]
    · rename_i u us hu
      show (bif sel q then hsel sel (usOf (q + 1) rs) (h.app (u :: us)) else hsel sel (usOf (q + 1) rs) h) = _
      cases hs : sel q with
      | true => rw [cond_true, if_pos rfl, hsel_eq rs, hu]
      | false => rw [cond_false, if_neg (by simp), hsel_eq rs]

def addU (q : Nat) (ups : Ups) (us : List (Nat × Ups)) : List (Nat × Ups) := match ups with
  | [] => us
  | u :: r => us ++ [(q, u :: r)]

theorem usOf_append : ∀ (rs : List Rec) (q : Nat) (r : Rec), usOf q (rs ++ [r]) = addU (q + rs.length) r.ups (usOf q rs)
  | [], q, r => by
    simp only [List.nil_append, usOf, addU, List.length_nil, Nat.add_zero]
  | r0 :: rs, q, r => by
    have ih := usOf_append rs (q + 1) r
    simp only [List.cons_append, usOf, ih, List.length_cons, show q + 1 + rs.length = q + (rs.length + 1) by omega]
    split
    · rfl
    · simp only [addU]; split <;> rfl

theorem tF_append {sel : Nat → Bool} : ∀ (rs : List Rec) (q : Nat) (r : Rec) (t : Nat → PV), sel (q + rs.length) = true → tF sel q (rs ++ [r]) t = setT r.o.dst r.r (tF sel q rs t)
  | [], q, r, t, h => by
    simp only [List.nil_append, tF]
    rw [if_pos (by simpa using h)]
  | r0 :: rs, q, r, t, h => by
    simp only [List.cons_append, tF]
    exact tF_append rs (q + 1) r _ (by rw [← h, List.length_cons, show q + 1 + rs.length = q + (rs.length + 1) by omega])

noncomputable def apartL (ops : Array Oper) (o : Oper) (m : Nat) (l : List Oper) : Nat → Bool :=
  List.rec (motive := fun _ => Nat → Bool) (fun _ => true) (fun p _ ih j => bif Nat.testBit m j then ih (Nat.succ j) else bif Oper.apart ops p o then ih (Nat.succ j) else false) l

noncomputable def chkA (dp : Nat) (ri : Rec) (us : List (Nat × Ups)) : Bool :=
  List.rec (motive := fun _ => Bool) true (fun x _ ih => bif Nat.testBit ri.m x.1 then ih else bif hits dp ri x.2 then false else ih) us

noncomputable def chkB (dp : Nat) (m : Nat) (ups : Ups) (recs : List Rec) : Bool :=
  match ups with
  | [] => true
  | u :: r => List.rec (motive := fun _ => Nat → Bool) (fun _ => true) (fun rj _ ih j => bif Nat.testBit m j then ih (Nat.succ j) else bif hits dp rj (u :: r) then false else ih (Nat.succ j)) recs 0

theorem chk_pairs {dp : Nat} {ops : Array Oper} {ri : Rec} : ∀ (recs : List Rec) (k : Nat), apartL ops ri.o ri.m (recs.map (·.o)) k = true → chkA dp ri (usOf k recs) = true →
    (ri.ups = [] ∨ List.rec (motive := fun _ => Nat → Bool) (fun _ => true) (fun rj _ ih j => bif Nat.testBit ri.m j then ih (Nat.succ j) else bif hits dp rj ri.ups then false else ih (Nat.succ j)) recs k = true) → pairsOk dp ops ri k recs = true
  | [], k, _, _, _ => rfl
  | rj :: recs, k, h1, h2, h3 => by
    change (bif Nat.testBit ri.m k then apartL ops ri.o ri.m (recs.map (·.o)) (k + 1) else bif Oper.apart ops rj.o ri.o then apartL ops ri.o ri.m (recs.map (·.o)) (k + 1) else false) = true at h1
    simp only [pairsOk, Bool.and_eq_true, pairOk, Bool.or_eq_true, Bool.not_eq_true']
    have hA : chkA dp ri (usOf (k + 1) recs) = true ∧ (Nat.testBit ri.m k = true ∨ hits dp ri rj.ups = false) := by
      simp only [usOf] at h2
      split at h2
      · rename_i hu
        exact ⟨h2, .inr (by rw [hu]; rfl)⟩
      · rename_i u us hu
        change (bif Nat.testBit ri.m k then chkA dp ri (usOf (k + 1) recs) else bif hits dp ri (u :: us) then false else chkA dp ri (usOf (k + 1) recs)) = true at h2
        rw [hu]
        cases hb : Nat.testBit ri.m k with
        | true => rw [hb, cond_true] at h2; exact ⟨h2, .inl rfl⟩
        | false =>
          rw [hb, cond_false] at h2
          cases hh : hits dp ri (u :: us) with
          | true => rw [hh] at h2; cases h2
          | false => rw [hh, cond_false] at h2; exact ⟨h2, .inr rfl⟩
    have hB : (ri.ups = [] ∨ List.rec (motive := fun _ => Nat → Bool) (fun _ => true) (fun rj _ ih j => bif Nat.testBit ri.m j then ih (Nat.succ j) else bif hits dp rj ri.ups then false else ih (Nat.succ j)) recs (k + 1) = true) ∧ (Nat.testBit ri.m k = true ∨ hits dp rj ri.ups = false) := by
      rcases h3 with h3 | h3
      · exact ⟨.inl h3, .inr (by rw [h3]; rfl)⟩
      · change (bif Nat.testBit ri.m k then List.rec (motive := fun _ => Nat → Bool) (fun _ => true) (fun rj _ ih j => bif Nat.testBit ri.m j then ih (Nat.succ j) else bif hits dp rj ri.ups then false else ih (Nat.succ j)) recs (k + 1) else bif hits dp rj ri.ups then false else List.rec (motive := fun _ => Nat → Bool) (fun _ => true) (fun rj _ ih j => bif Nat.testBit ri.m j then ih (Nat.succ j) else bif hits dp rj ri.ups then false else ih (Nat.succ j)) recs (k + 1)) = true at h3
        cases hb : Nat.testBit ri.m k with
        | true => rw [hb, cond_true] at h3; exact ⟨.inr h3, .inl rfl⟩
        | false =>
          rw [hb, cond_false] at h3
          cases hh : hits dp rj ri.ups with
          | true => rw [hh] at h3; cases h3
          | false => rw [hh, cond_false] at h3; exact ⟨.inr h3, .inr rfl⟩
    cases hb : Nat.testBit ri.m k with
    | true =>
      rw [hb, cond_true] at h1
      exact ⟨.inl rfl, chk_pairs recs (k + 1) h1 hA.1 hB.1⟩
    | false =>
      rw [hb, cond_false] at h1
      cases ha : Oper.apart ops rj.o ri.o with
      | false => rw [ha] at h1; cases h1
      | true =>
        rw [ha, cond_true] at h1
        exact ⟨.inr ⟨⟨rfl, (hA.2.resolve_left (by rw [hb]; simp))⟩, hB.2.resolve_left (by rw [hb]; simp)⟩, chk_pairs recs (k + 1) h1 hA.1 hB.1⟩

abbrev KG := Ev → Nat → Nat → (Nat → PV) → Hp → List (Nat × Ups) → List Rec → Option ((Nat → PV) × List (Nat × Ups))

noncomputable def dstB (o : Oper) (sz : Nat) : Bool := match o.dst with | some d => Nat.blt d sz | none => true

noncomputable def kDone (o : Oper) (m q : Nat) (rest : Bx KG) : KG := fun ev dp sz t h0 us recs =>
  bif dstB o sz then (bif chkA dp ⟨o, .tuple [], [], m, []⟩ us then rest.f ev dp sz (setT o.dst (.tuple []) t) h0 us (recs ++ [⟨o, .tuple [], [], m, []⟩]) else none) else none

noncomputable def kDo (C : Ctx) (o : Oper) (m q : Nat) (rest : Bx KG) : KG := fun ev dp sz t h0 us recs =>
  match (compU C o).f ev dp ⟨t, restr (readsH o t (hsel (fun j => m.testBit j) us h0)) (hsel (fun j => m.testBit j) us h0)⟩ with
  | some (r, ups) =>
    bif dstB o sz then (bif Nat.ble ups.length 100 then (bif chkA dp ⟨o, r, ups, m, readsH o t (hsel (fun j => m.testBit j) us h0)⟩ us then (bif chkB dp m ups recs then
      rest.f ev dp sz (setT o.dst r t) h0 (addU q ups us) (recs ++ [⟨o, r, ups, m, readsH o t (hsel (fun j => m.testBit j) us h0)⟩])
      else none) else none) else none) else none
  | none => none

noncomputable def kOne (C : Ctx) (ops : Array Oper) (o : Oper) (m q : Nat) (prev : List Oper) (rest : Bx KG) : Bx KG :=
  match apartL ops o m prev 0 with
  | false => ⟨fun _ _ _ _ _ _ _ => none⟩
  | true =>
    match o.guard with
    | none => ⟨kDo C o m q rest⟩
    | some (j, want) =>
      match (ops[j]?).bind (·.dst) with
      | some d => ⟨fun ev dp sz t h0 us recs => match t d with
        | .v (.bool b) => bif (b == want) then kDo C o m q rest ev dp sz t h0 us recs else kDone o m q rest ev dp sz t h0 us recs
        | .tuple [] => kDone o m q rest ev dp sz t h0 us recs
        | _ => none⟩
      | none => ⟨fun _ _ _ _ _ _ _ => none⟩

noncomputable def kGo (C : Ctx) (ops : Array Oper) (l : List (Oper × Nat)) : List Oper → Bx KG :=
  List.rec (motive := fun _ => List Oper → Bx KG) (fun _ => ⟨fun _ _ _ t _ us _ => some (t, us)⟩) (fun x _ ih prev => kOne C ops x.1 x.2 prev.length prev (ih (prev ++ [x.1]))) l

theorem recOk_of {sz : Nat} {r : Rec} (h1 : dstB r.o sz = true) (h2 : r.ups.length ≤ 100) : recOk sz r = true := by
  unfold recOk
  unfold dstB at h1
  rw [Bool.and_eq_true]
  refine ⟨?_, by simpa using h2⟩
  split
  · rename_i d hd
    rw [hd] at h1
    simpa [Nat.blt_eq] using h1
  · rfl

theorem kGo_ok {C : Ctx} {ops : Array Oper} {ev : Ev} {dp sz : Nat} {t0 : Nat → PV} {h0 : Hp} : ∀ (l : List (Oper × Nat)) (recs : List Rec) (x : (Nat → PV) × List (Nat × Ups)), (kGo C ops l (recs.map (·.o))).f ev dp sz (tF (fun _ => true) 0 recs t0) h0 (usOf 0 recs) recs = some x →
    ∃ recs', drawGo C (calOf C ev) dp sz ops t0 h0 l recs = some recs' ∧ x = (tF (fun _ => true) 0 recs' t0, usOf 0 recs')
  | [], recs, x, h => by
    cases h
    exact ⟨recs, rfl, rfl⟩
  | (o, m) :: l, recs, x, h => by
    have hrest : ∀ rc : Rec, rc.o = o → kGo C ops l (recs.map (·.o) ++ [o]) = kGo C ops l ((recs ++ [rc]).map (·.o)) := fun rc hr => by rw [List.map_append, List.map_cons, List.map_nil, hr]
    change (kOne C ops o m (recs.map (·.o)).length (recs.map (·.o)) (kGo C ops l (recs.map (·.o) ++ [o]))).f ev dp sz (tF (fun _ => true) 0 recs t0) h0 (usOf 0 recs) recs = some x at h
    unfold kOne at h
    split at h
    · cases h
    rename_i hap
    have hlen : (recs.map (·.o)).length = recs.length := by simp
    have done : kDone o m (recs.map (·.o)).length (kGo C ops l (recs.map (·.o) ++ [o])) ev dp sz (tF (fun _ => true) 0 recs t0) h0 (usOf 0 recs) recs = some x → wantedP ops o (tF (fun _ => true) 0 recs t0) = some false →
        ∃ recs', drawGo C (calOf C ev) dp sz ops t0 h0 ((o, m) :: l) recs = some recs' ∧ x = (tF (fun _ => true) 0 recs' t0, usOf 0 recs') := by
      intro h hw
      unfold kDone at h
      cases hd : dstB o sz with
      | false => rw [hd] at h; cases h
      | true =>
        rw [hd, cond_true] at h
        cases hcA : chkA dp ⟨o, .tuple [], [], m, []⟩ (usOf 0 recs) with
        | false => rw [hcA] at h; cases h
        | true =>
        rw [hcA, cond_true, hrest ⟨o, .tuple [], [], m, []⟩ rfl] at h
        have e1 : setT o.dst (.tuple []) (tF (fun _ => true) 0 recs t0) = tF (fun _ => true) 0 (recs ++ [⟨o, .tuple [], [], m, []⟩]) t0 := (tF_append recs 0 ⟨o, .tuple [], [], m, []⟩ t0 rfl).symm
        have e2 : usOf 0 recs = usOf 0 (recs ++ [⟨o, .tuple [], [], m, []⟩]) := by rw [usOf_append]; rfl
        rw [e1, e2] at h
        obtain ⟨recs', k1, k2⟩ := kGo_ok l _ x h
        refine ⟨recs', ?_, k2⟩
        simp only [drawGo, hw]
        have hp : pairsOk dp ops ⟨o, .tuple [], [], m, []⟩ 0 recs = true := chk_pairs recs 0 hap hcA (.inl rfl)
        rw [recOk_of (r := ⟨o, .tuple [], [], m, []⟩) hd (by simp), hp]
        exact k1
    have run : kDo C o m (recs.map (·.o)).length (kGo C ops l (recs.map (·.o) ++ [o])) ev dp sz (tF (fun _ => true) 0 recs t0) h0 (usOf 0 recs) recs = some x → wantedP ops o (tF (fun _ => true) 0 recs t0) = some true →
        ∃ recs', drawGo C (calOf C ev) dp sz ops t0 h0 ((o, m) :: l) recs = some recs' ∧ x = (tF (fun _ => true) 0 recs' t0, usOf 0 recs') := by
      intro h hw
      unfold kDo at h
      rw [compU_eq, hsel_eq] at h
      split at h
      · rename_i r ups hu
        cases hd : dstB o sz with
        | false => rw [hd] at h; cases h
        | true =>
        rw [hd, cond_true] at h
        cases hl : Nat.ble ups.length 100 with
        | false => rw [hl] at h; cases h
        | true =>
        rw [hl, cond_true] at h
        cases hA : chkA dp ⟨o, r, ups, m, readsH o (tF (fun _ => true) 0 recs t0) (hF (fun j => m.testBit j) 0 recs h0)⟩ (usOf 0 recs) with
        | false => rw [hA] at h; cases h
        | true =>
        rw [hA, cond_true] at h
        cases hB : chkB dp m ups recs with
        | false => rw [hB] at h; cases h
        | true =>
        rw [hB, cond_true, hrest ⟨o, r, ups, m, readsH o (tF (fun _ => true) 0 recs t0) (hF (fun j => m.testBit j) 0 recs h0)⟩ rfl, hlen] at h
        have e1 : setT o.dst r (tF (fun _ => true) 0 recs t0) = tF (fun _ => true) 0 (recs ++ [⟨o, r, ups, m, readsH o (tF (fun _ => true) 0 recs t0) (hF (fun j => m.testBit j) 0 recs h0)⟩]) t0 := (tF_append recs 0 ⟨o, r, ups, m, readsH o (tF (fun _ => true) 0 recs t0) (hF (fun j => m.testBit j) 0 recs h0)⟩ t0 rfl).symm
        have e2 : addU recs.length ups (usOf 0 recs) = usOf 0 (recs ++ [⟨o, r, ups, m, readsH o (tF (fun _ => true) 0 recs t0) (hF (fun j => m.testBit j) 0 recs h0)⟩]) := by rw [usOf_append, Nat.zero_add]
        rw [e1, e2] at h
        obtain ⟨recs', k1, k2⟩ := kGo_ok l _ x h
        refine ⟨recs', ?_, k2⟩
        simp only [drawGo, hw, hu]
        have hp : pairsOk dp ops ⟨o, r, ups, m, readsH o (tF (fun _ => true) 0 recs t0) (hF (fun j => m.testBit j) 0 recs h0)⟩ 0 recs = true := chk_pairs recs 0 hap hA (by
          cases ups with
          | nil => exact .inl rfl
          | cons u us => exact .inr hB)
        rw [recOk_of (r := ⟨o, r, ups, m, readsH o (tF (fun _ => true) 0 recs t0) (hF (fun j => m.testBit j) 0 recs h0)⟩) hd (Nat.le_of_ble_eq_true hl), hp]
        exact k1
      · cases h
    split at h
    · rename_i hg
      exact run h (by unfold wantedP; rw [hg])
    · rename_i j want hg
      split at h
      · rename_i d hb
        dsimp only at h
        split at h
        · rename_i b hv
          cases hw : (b == want) with
          | true => rw [hw, cond_true] at h; exact run h (by unfold wantedP; simp only [hg, hb, hv, hw])
          | false => rw [hw, cond_false] at h; exact done h (by unfold wantedP; simp only [hg, hb, hv, hw])
        · rename_i hv
          exact done h (by unfold wantedP; simp only [hg, hb, hv])
        · cases h
      · cases h

noncomputable def kDraw (C : Ctx) (ops : Array Oper) : Bx (Ev → Nat → Nat → St → Option St) :=
  match edgesOk 0 ops.toList with
  | false => ⟨fun _ _ _ _ => none⟩
  | true => ⟨fun ev dp sz st => match (kGo C ops (ops.toList.zip (masks ops.toList [])) []).f ev dp sz st.t st.h [] [] with
    | some (t, us) => some ⟨t, hsel (fun _ => true) us st.h⟩
    | none => none⟩

theorem kDraw_ok {C : Ctx} {ops : Array Oper} {ev : Ev} {dp sz : Nat} {st st' : St} (h : (kDraw C ops).f ev dp sz st = some st') : evalDraw C (calOf C ev) dp sz ops st = some st' := by
  unfold kDraw at h
  split at h
  · cases h
  · rename_i he
    dsimp only at h
    split at h
    · rename_i t us hk
      cases h
      obtain ⟨recs', k1, k2⟩ := kGo_ok (t0 := st.t) (h0 := st.h) _ [] _ hk
      cases k2
      unfold evalDraw
      rw [if_pos he, k1, hsel_eq]
    · cases h
end Go.Ev
end

section
/- The evaluator in stages: code. -/
set_option linter.unusedVariables false
set_option linter.unusedSimpArgs false
namespace Go.Ev
open Go

/-! ### Which temporaries are looked at later: a hint, no more -/
noncomputable def bitsL (n : Nat) : Nat → Nat → List Nat := Nat.rec (motive := fun _ => Nat → Nat → List Nat) (fun _ _ => [])
  (fun _ ih m i => bif Nat.beq m 0 then [] else bif Nat.beq (Nat.mod m 2) 1 then i :: ih (Nat.div m 2) (Nat.succ i) else ih (Nat.div m 2) (Nat.succ i)) n

noncomputable def opsMask (l : List Operand) : Nat := List.rec (motive := fun _ => Nat) 0 (fun x _ ih => match x with | .tmp i => Nat.lor (Nat.shiftLeft 1 i) ih | _ => ih) l
noncomputable def opLive (o : Oper) (out : Nat) : Nat :=
  Nat.lor (opsMask o.op.operands.toList) (match o.dst with | some d => Nat.sub out (Nat.land out (Nat.shiftLeft 1 d)) | none => out)
noncomputable def regLive (l : List Oper) (out : Nat) : Nat := List.rec (motive := fun _ => Nat) out (fun o _ ih => opLive o ih) l

noncomputable def live (c : Code) : (Nat → Nat) → Nat → Nat :=
  Code.rec (motive := fun _ => (Nat → Nat) → Nat → Nat) (fun _ out => out) (fun _ ops _ _ out => regLive ops.toList out) (fun _ _ iha ihb env out => iha env (ihb env out))
    (fun x _ _ iha ihb env out => Nat.lor (opsMask [x]) (Nat.lor (iha env out) (ihb env out)))
    (fun id _ ih env out => ih (fun j => bif Nat.beq j id then out else env j) out)
    (fun _ ih env out => ih env (ih env 0))
    (fun x _ _ _ iha ihb env out => Nat.lor (opsMask [x]) (Nat.lor out (iha env (ihb env out))))
    (fun id env _ => env id) (fun _ _ _ _ => 0) (fun _ _ _ => 0) (fun _ _ _ => 0) (fun _ _ => 0) (fun _ _ _ => 0) c

/-! ### Regions -/
abbrev KR := Ev → Nat → Nat → St → Option St

noncomputable def runOne (C : Ctx) (o : Oper) (ih : Bx KR) : Bx KR :=
  match o.dst with
  | none => ⟨fun ev dp sz st => match (compOp C o).f ev dp st with | some (_, h) => ih.f ev dp sz ⟨st.t, h⟩ | none => none⟩
  | some d => ⟨fun ev dp sz st => match (compOp C o).f ev dp st with | some (r, h) => bif Nat.blt d sz then ih.f ev dp sz ⟨upd st.t d r, h⟩ else none | none => none⟩

noncomputable def skipOne (o : Oper) (ih : Bx KR) : Bx KR :=
  match o.dst with
  | none => ⟨fun ev dp sz st => ih.f ev dp sz st⟩
  | some d => ⟨fun ev dp sz st => bif Nat.blt d sz then ih.f ev dp sz ⟨upd st.t d (.tuple []), st.h⟩ else none⟩

noncomputable def stepOne (C : Ctx) (ops : Array Oper) (o : Oper) (ih : Bx KR) : Bx KR :=
  match o.guard with
  | none => runOne C o ih
  | some (j, want) =>
    match (ops[j]?).bind (·.dst) with
    | some d => ⟨fun ev dp sz st =>
      match st.t d with
      | .v (.bool b) => bif (b == want) then (runOne C o ih).f ev dp sz st else (skipOne o ih).f ev dp sz st
      | .tuple [] => (skipOne o ih).f ev dp sz st
      | _ => none⟩
    | none => ⟨fun _ _ _ _ => none⟩

noncomputable def compOps (C : Ctx) (ops : Array Oper) (l : List Oper) : Bx KR :=
  List.rec (motive := fun _ => Bx KR) ⟨fun _ _ _ st => some st⟩ (fun o _ ih => stepOne C ops o ih) l

theorem putP_b (sz : Nat) (t : Nat → PV) (d : Nat) (r : PV) {α : Type} (K : (Nat → PV) → Option α) : (match putP sz t (some d) r with | some t => K t | none => none) = bif Nat.blt d sz then K (upd t d r) else none := by
  unfold putP
  cases hb : Nat.blt d sz with
  | true => have : d < sz := by simpa [Nat.blt_eq] using hb
            simp [this]
  | false => have : ¬ d < sz := by intro h; rw [← Nat.blt_eq] at h; rw [h] at hb; cases hb
             simp [this]

theorem compOps_eq (C : Ctx) (ops : Array Oper) (ev : Ev) (dp sz : Nat) : ∀ (l : List Oper) (st : St), (compOps C ops l).f ev dp sz st = evalOps C (calOf C ev) (evalBody C ev (dp + 1)) (evalRound ev (dp + 1000)) dp sz ops l st
  | [], st => rfl
  | o :: os, st => by
    have ih := compOps_eq C ops ev dp sz os
    have run : ∀ st, (runOne C o (compOps C ops os)).f ev dp sz st = (match stepOp C (calOf C ev) (evalBody C ev (dp + 1)) (evalRound ev (dp + 1000)) dp o st with
      | some (r, h) => match putP sz st.t o.dst r with
        | some t => evalOps C (calOf C ev) (evalBody C ev (dp + 1)) (evalRound ev (dp + 1000)) dp sz ops os ⟨t, h⟩
        | none => none
      | none => none) := by
      intro st
      unfold runOne
      split <;> rename_i hd <;> dsimp only <;> rw [compOp_eq, hd] <;> split <;> rename_i he
      · simp only [he, putP]; exact ih _
      · simp only [he]
      · simp only [he, putP_b]; rw [ih]
      · simp only [he]
    have skp : ∀ st, (skipOne o (compOps C ops os)).f ev dp sz st = (match putP sz st.t o.dst (.tuple []) with
        | some t => evalOps C (calOf C ev) (evalBody C ev (dp + 1)) (evalRound ev (dp + 1000)) dp sz ops os ⟨t, st.h⟩
        | none => none) := by
      intro st
      unfold skipOne
      split <;> rename_i hd <;> dsimp only <;> rw [hd]
      · simp only [putP]; exact ih _
      · simp only [putP_b]; rw [ih]
    show (stepOne C ops o (compOps C ops os)).f ev dp sz st = _
    unfold stepOne evalOps wantedP
    cases hg : o.guard with
    | none => dsimp only; rw [run]; rfl
    | some jw =>
      obtain ⟨j, want⟩ := jw
      dsimp only
      cases hb : (ops[j]?).bind (·.dst) with
      | none => rfl
      | some d =>
        dsimp only
        split
        · rename_i b hv
          simp only [hv]
          cases hw : (b == want) with
          | true => simp only [cond_true]; rw [run]; rfl
          | false => simp only [cond_false]; rw [skp]; rfl
        · rename_i hv
          simp only [hv]
          rw [skp]; rfl
        · rename_i hne hne2
          split
          · rename_i x h1; split at h1 <;> simp_all
          · rename_i x h1; split at h1 <;> simp_all
          · rfl

/-! ### Code -/
abbrev KC := Ev → Option (Nat × Nat) → Nat → Nat → St → Option (Ex × St)

noncomputable def loopK (step : St → Option (Ex × St)) (hint : List Nat) (n : Nat) : St → Option (Ex × St) :=
  Nat.rec (motive := fun _ => St → Option (Ex × St)) (fun _ => none)
      (fun _ again st => match step st with
        | some (.normal, st') => sq hint st'.t st'.t (fun t => again ⟨t, st'.h⟩)
        | r => r) n

noncomputable def comp (C : Ctx) (rounds : Nat) (c : Code) : (Nat → Nat) → Nat → Bx KC :=
  Code.rec (motive := fun _ => (Nat → Nat) → Nat → Bx KC)
    (fun _ _ => ⟨fun _ _ _ _ st => some (.normal, st)⟩)
    (fun _ ops draw _ _ => match draw with
      | true => ⟨fun ev _ dp sz st => match (kDraw C ops).f ev dp sz st with | some st' => some (.normal, st') | none => none⟩
      | false => ⟨fun ev _ dp sz st => match (compOps C ops ops.toList).f ev dp sz st with | some st' => some (.normal, st') | none => none⟩)
    (fun _ b iha ihb env out => ⟨fun ev rd dp sz st => match (iha env (live b env out)).f ev rd dp sz st with
      | some (.normal, st') => (ihb env out).f ev rd dp sz st'
      | r => r⟩)
    (fun x _ _ iha ihb env out => ⟨fun ev rd dp sz st => match opd st.t x with
      | .v (.bool true) => (iha env out).f ev rd dp sz st
      | .v (.bool false) => (ihb env out).f ev rd dp sz st
      | _ => none⟩)
    (fun id _ ih env out => ⟨fun ev rd dp sz st => match (ih (fun j => bif Nat.beq j id then out else env j) out).f ev rd dp sz st with
      | some (.exit i, st') => some (bif Nat.beq i id then .normal else .exit i, st')
      | r => r⟩)
    (fun a ih env out => ⟨fun ev rd dp sz st => loopK ((ih env (live a env 0)).f ev rd dp sz) [] rounds st⟩)
    (fun g ps assign body _ _ _ _ => ⟨fun ev rd dp sz st => evalRange C (evalBody C ev (dp + 1)) rd dp sz g ps.toList assign body st⟩)
    (fun id _ _ => ⟨fun _ _ _ _ st => some (.exit id, st)⟩)
    (fun _ _ _ _ => ⟨fun _ _ _ _ _ => none⟩)
    (fun _ _ _ => ⟨fun _ _ _ _ _ => none⟩)
    (fun _ _ _ => ⟨fun _ _ _ _ _ => none⟩)
    (fun _ _ => ⟨fun _ _ _ _ st => some (.ret, st)⟩)
    (fun _ _ _ => ⟨fun _ _ _ _ _ => none⟩) c

theorem comp_le {C : Ctx} {rounds : Nat} {ev : Ev} (hev : LeE ev (evW C)) : ∀ (c : Code) (env : Nat → Nat) (out : Nat) rd dp sz st r, (comp C rounds c env out).f ev rd dp sz st = some r → evW C rd dp sz c st = some r := by
  intro c
  induction c with
  | skip => intro env out rd dp sz st r h; exact evW_of_step h
  | region id ops draw =>
    intro env out rd dp sz st r h
    refine evW_of_step ?_
    cases draw with
    | true =>
      change (match (kDraw C ops).f ev dp sz st with | some st' => some (Ex.normal, st') | none => none) = some r at h
      split at h <;> try (cases h; done)
      rename_i st' he
      simp only [stepE, evalDraw_more (calOf_more hev) (kDraw_ok he)]; exact h
    | false =>
      change (match (compOps C ops ops.toList).f ev dp sz st with | some st' => some (Ex.normal, st') | none => none) = some r at h
      split at h <;> try (cases h; done)
      rename_i st' he
      rw [compOps_eq] at he
      simp only [stepE, evalOps_more (calOf_more hev) (evalBody_more hev) (evalRound_more hev) he]; exact h
  | seq a b iha ihb =>
    intro env out rd dp sz st r h
    refine evW_of_step ?_
    change (match (comp C rounds a env (live b env out)).f ev rd dp sz st with | some (.normal, st') => (comp C rounds b env out).f ev rd dp sz st' | r => r) = some r at h
    split at h
    · rename_i st' he
      simp only [stepE, iha _ _ _ _ _ _ _ he]; exact ihb _ _ _ _ _ _ _ h
    · rename_i hne
      have := iha _ _ _ _ _ _ _ h
      simp only [stepE, this]
      obtain ⟨e, s⟩ := r
      cases e with
      | normal => exact (hne _ h).elim
      | exit i => rfl
      | ret => rfl
  | cond x a b iha ihb =>
    intro env out rd dp sz st r h
    refine evW_of_step ?_
    change (match opd st.t x with | .v (.bool true) => (comp C rounds a env out).f ev rd dp sz st | .v (.bool false) => (comp C rounds b env out).f ev rd dp sz st | _ => none) = some r at h
    split at h <;> try (cases h; done)
    · rename_i hv; simp only [stepE, hv]; exact iha _ _ _ _ _ _ _ h
    · rename_i hv; simp only [stepE, hv]; exact ihb _ _ _ _ _ _ _ h
  | block id a ih =>
    intro env out rd dp sz st r h
    refine evW_of_step ?_
    change (match (comp C rounds a (fun j => bif Nat.beq j id then out else env j) out).f ev rd dp sz st with | some (.exit i, st') => some (bif Nat.beq i id then .normal else .exit i, st') | r => r) = some r at h
    split at h
    · rename_i i st' he
      simp only [stepE, ih _ _ _ _ _ _ _ he]
      rw [← h]
      by_cases hi : i = id
      · subst hi; simp
      · have : Nat.beq i id = false := by cases hb : Nat.beq i id with | false => rfl | true => exact (hi (Nat.eq_of_beq_eq_true hb)).elim
        simp [hi, this]
    · rename_i hne
      have := ih _ _ _ _ _ _ _ h
      simp only [stepE, this]
      obtain ⟨e, s⟩ := r
      cases e with
      | normal => rfl
      | exit i => exact (hne _ _ h).elim
      | ret => rfl
  | loop a ih =>
    intro env out rd dp sz st r h
    have go : ∀ hint n st, loopK ((comp C rounds a env (live a env 0)).f ev rd dp sz) hint n st = some r → evW C rd dp sz (.loop a) st = some r := by
      intro hint n
      induction n with
      | zero => intro st h; cases h
      | succ n ihn =>
        intro st h
        refine evW_of_step ?_
        change (match (comp C rounds a env (live a env 0)).f ev rd dp sz st with | some (.normal, st') => sq hint st'.t st'.t (fun t => loopK ((comp C rounds a env (live a env 0)).f ev rd dp sz) hint n ⟨t, st'.h⟩) | r => r) = some r at h
        split at h
        · rename_i st' he
          rw [sq_eq] at h
          simp only [stepE, ih _ _ _ _ _ _ _ he]
          exact ihn _ h
        · rename_i hne
          have := ih _ _ _ _ _ _ _ h
          simp only [stepE, this]
          obtain ⟨e, s⟩ := r
          cases e with
          | normal => exact (hne _ h).elim
          | exit i => rfl
          | ret => rfl
    have h2 : loopK ((comp C rounds a env (live a env 0)).f ev rd dp sz) [] rounds st = some r := h
    exact go _ rounds st h2
  | rangeFunc g ps assign body _ _ =>
    intro env out rd dp sz st r h
    refine evW_of_step ?_
    exact evalRange_more (evalBody_more hev) h
  | exit id => intro env out rd dp sz st r h; exact evW_of_step h
  | ret => intro env out rd dp sz st r h; exact evW_of_step h
  | scope _ _ => intro env out rd dp sz st r h; cases h
  | label _ => intro env out rd dp sz st r h; cases h
  | goto _ => intro env out rd dp sz st r h; cases h
  | refuse _ => intro env out rd dp sz st r h; cases h

noncomputable def kCode (C : Ctx) (rounds n : Nat) : Ev :=
  Nat.rec (motive := fun _ => Ev) (fun _ _ _ _ _ => none) (fun _ ih rd dp sz c st => (comp C rounds c (fun _ => 0) 0).f ih rd dp sz st) n

theorem kCode_le {C : Ctx} {rounds : Nat} : ∀ n, LeE (kCode C rounds n) (evW C)
  | 0 => fun _ _ _ _ _ _ h => by cases h
  | n + 1 => fun rd dp sz c st r h => comp_le (kCode_le n) c _ _ rd dp sz st r h

/-- A closed call, by the kernel. -/
theorem con_of_k {C : Ctx} (ht : TablesOk C) (hspec : ∀ f F args res, C.spec f = some F → F args = some res → Con C.P f args res) {n : Nat} {f : FuncId} {as : List PV} {res : Res} {rounds : Nat} (h : evalPure C (kCode C rounds n) f as = some res) : Con C.P f as res :=
  pureW_sound ht hspec (evalPure_more (kCode_le n) _ _ _ h)
end Go.Ev
end

section
/- Walks over values that are not all known: loops by the slots that are known, single operations with facts. -/
set_option linter.unusedVariables false
set_option linter.unusedSimpArgs false
namespace Go.Ev
open Go

def Has : List (Nat × PV) → (Nat → PV) → Prop
  | [], _ => True
  | (i, v) :: r, t => t i = v ∧ Has r t
def setL : List (Nat × PV) → (Nat → PV) → (Nat → PV)
  | [], t => t
  | (i, v) :: r, t => upd (setL r t) i v
theorem setL_has : ∀ {l : List (Nat × PV)} {t : Nat → PV}, Has l t → setL l t = t
  | [], _, _ => rfl
  | (i, v) :: r, t, h => by show upd (setL r t) i v = t; rw [setL_has h.2]; exact upd_id _ _ _ h.1

section
variable {C : Ctx} {rd : Option (Nat × Nat)} {dp sz : Nat} {st : St} {Q : Ex → St → Prop}

/-- A loop, by what its known slots hold. -/
theorem runs_loopS {α : Type} {a : Code} (m : α → Nat) (J : α → List (Nat × PV)) (H : α → Hp → Prop)
    (hb : ∀ x t h, H x h → Runs C rd dp sz a ⟨setL (J x) t, h⟩ (thenQ (fun s' => ∃ y, m y < m x ∧ Has (J y) s'.t ∧ H y s'.h) Q)) (x : α) (s : St) (h1 : Has (J x) s.t) (h2 : H x s.h) : Runs C rd dp sz (.loop a) s Q := by
  refine runs_loop (fun k s => ∃ x, m x = k ∧ Has (J x) s.t ∧ H x s.h) ?_ (m x) s ⟨x, rfl, h1, h2⟩
  rintro k s ⟨x, rfl, h1, h2⟩
  have := hb x s.t s.h h2
  rw [setL_has h1] at this
  refine this.mono ?_
  intro e s' h
  cases e with
  | normal => obtain ⟨y, h1, h2, h3⟩ := h; exact ⟨_, h1, y, rfl, h2, h3⟩
  | exit i => exact h
  | ret => exact h

/-- A region whose first operation is done by a fact. -/
theorem opsK {cal : Cal} {inl : Inl} {yl : Yl} {ops : Array Oper} {o : Oper} {os : List Oper} {r : PV} {h' : Hp} {t' : Nat → PV} {s : St} (hw : wantedP ops o st.t = some true) (hs : stepOp C cal inl yl dp o st = some (r, h')) (hp : putP sz st.t o.dst r = some t') (hr : evalOps C cal inl yl dp sz ops os ⟨t', h'⟩ = some s) : evalOps C cal inl yl dp sz ops (o :: os) st = some s := ops_cons hw hs hp hr

section
variable {cal : Cal} {inl : Inl} {yl : Yl} {o : Oper}

/-- An element's place, in a frozen list. -/
theorem stepK_index {t e : TypeId} {x ix : Operand} {es : List PV} {k : IntKind} {i : Int} {y : PV} {b : Bool} (ho : o.op = .indexAddr t x ix) (hx : opd st.t x = .lst es) (hi : opd st.t ix = .v (.int k i)) (hty : C.ty t = .slice e) (hag : C.isAgg e = some b)
    (h0 : 0 ≤ i) (hy : es[i.toNat]? = some y) (hsz : y.cells.length = C.size e) : stepOp C cal inl yl dp o st = some (.lptr y.cells, st.h) := by
  have : indexAddrP C st.h t (opd st.t x) (opd st.t ix) = some (.lptr y.cells) := by
    rw [hx, hi]; simp only [indexAddrP, intP, hty, hag]; rw [if_pos h0, hy]; dsimp only; rw [if_pos hsz]
  unfold stepOp
  rw [ho]
  simp only [evalOp, ho, this, Hp.app]

/-- A closed call of a function, by what it answers. -/
theorem stepK_call {f : Operand} {args : Array Operand} {ats : Array TypeId} {fid : FuncId} {as : List PV} {r : PV} {RH : List (Nat × List PV)} {x : PV × Ups} (ho : o.op = .call { callee := .value f, args := args, argTypes := ats }) (hf : opd st.t f = .func (.func fid) [] []) (hc : C.callable fid = true) (hisp : C.isp fid = none) (hi : C.inl fid = false)
    (hx : callP cal st.h (idOf dp (o.dst.getD 99999) 0) fid ((args.toList.map (opd st.t)) ++ []) = some x) : stepOp C cal inl yl dp o st = some (x.1, st.h.app x.2) := by
  unfold stepOp
  rw [ho]
  simp only [hf, hc, hisp, hi, if_true, if_false, Bool.false_eq_true, List.nil_append, hx]
end
end
end Go.Ev
end
