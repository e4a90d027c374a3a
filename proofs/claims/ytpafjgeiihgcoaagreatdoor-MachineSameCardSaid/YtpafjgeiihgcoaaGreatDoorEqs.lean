/- A part of the proof: HbSq. No conditions. -/
import Derived.Test.YtpafjgeiihgcoaaGreatDoorFeeds

section
/- Equality of cells, and of lists: known where the kinds fit, and symmetrical. -/
set_option linter.unusedVariables false
set_option linter.unusedSimpArgs false
namespace Go.Ev
open Go Go.Proofs

def fitsL : List EK → List PV → Bool
  | [], [] => true
  | k :: ks, .v a :: r => k.fits a && fitsL ks r
  | _, _ => false

theorem bytes_beq_symm (a b : ByteArray) : (a == b) = (b == a) := by
  rw [beq_toListBytes, beq_toListBytes, Bool.eq_iff_iff]
  constructor <;> intro h <;> (have := eq_of_beq h; rw [this]; exact beq_self_eq_true _)
theorem int_beq_symm (a b : Int) : (a == b) = (b == a) := by
  rw [Bool.eq_iff_iff]
  constructor <;> intro h <;> (have := eq_of_beq h; subst this; exact beq_self_eq_true _)
theorem bool_beq_symm (a b : Bool) : (a == b) = (b == a) := by cases a <;> cases b <;> rfl

theorem eqV_fits {k : EK} {a b : Value} (ha : k.fits a = true) (hb : k.fits b = true) : ∃ x, eqV a b = some x ∧ eqV b a = some x := by
  cases k with
  | int k =>
    cases a <;> first | (simp [EK.fits] at ha; done) | skip
    cases b <;> first | (simp [EK.fits] at hb; done) | skip
    rename_i k1 n k2 m
    have e1 : k = k1 := of_decide_eq_true ha
    have e2 : k = k2 := of_decide_eq_true hb
    subst e1
    subst e2
    exact ⟨n == m, by simp [eqV], by simp [eqV, int_beq_symm n m]⟩
  | bool =>
    cases a <;> first | (simp [EK.fits] at ha; done) | skip
    cases b <;> first | (simp [EK.fits] at hb; done) | skip
    rename_i n m
    exact ⟨n == m, by simp [eqV], by simp [eqV, bool_beq_symm n m]⟩
  | str =>
    cases a <;> first | (simp [EK.fits] at ha; done) | skip
    cases b <;> first | (simp [EK.fits] at hb; done) | skip
    rename_i n m
    exact ⟨n == m, by simp [eqV], by simp [eqV, bytes_beq_symm n m]⟩

theorem eqCells_fit : ∀ {ks : List EK} {cs ds : List PV}, fitsL ks cs = true → fitsL ks ds = true → ∃ x, eqCells ks cs ds = some x ∧ eqCells ks ds cs = some x
  | [], cs, ds, h1, h2 => by
    cases cs <;> cases ds <;> first | exact ⟨true, rfl, rfl⟩ | (simp [fitsL] at h1 h2)
  | k :: ks, cs, ds, h1, h2 => by
    cases cs with
    | nil => simp [fitsL] at h1
    | cons c r =>
    cases ds with
    | nil => simp [fitsL] at h2
    | cons d s =>
    cases c <;> first | (simp [fitsL] at h1; done) | skip
    cases d <;> first | (simp [fitsL] at h2; done) | skip
    rename_i a b
    simp only [fitsL, Bool.and_eq_true] at h1 h2
    obtain ⟨x, e1, e2⟩ := eqV_fits h1.1 h2.1
    obtain ⟨y, e3, e4⟩ := eqCells_fit h1.2 h2.2
    refine ⟨x && y, ?_, ?_⟩
    · simp [eqCells, h1.1, h2.1, e1, e3]
    · simp [eqCells, h1.1, h2.1, e2, e4]

theorem fits_of_eq : ∀ {ks : List EK} {cs ds : List PV} {x : Bool}, eqCells ks cs ds = some x → fitsL ks cs = true
  | ks, cs, ds, x, h => by
    unfold eqCells at h
    split at h
    · rfl
    · rename_i k ks a r b s
      split at h <;> try (cases h; done)
      rename_i hf
      split at h <;> try (cases h; done)
      rename_i x1 y1 hx hy
      rw [Bool.and_eq_true] at hf
      simp [fitsL, hf.1, fits_of_eq hy]
    · cases h

/-- An element that equals itself, as far as its type's comparison goes. -/
def Goodq (C : Ctx) (T : TypeId) (x : PV) : Prop := okStr x = true ∨ (okAgg (C.size T) x = true ∧ nqOf C T x x = some false)

theorem nq_agg {C : Ctx} {T : TypeId} {cs : List PV} {b : Bool} (h : nqOf C T (.agg cs) (.agg cs) = some b) : ∃ ks, C.eqOk T = some ks ∧ fitsL ks cs = true := by
  have := nqOf_some h
  simp only [binP] at this
  split at this <;> try (cases this; done)
  rename_i ks hk
  refine ⟨ks, hk, ?_⟩
  cases he : eqCells ks cs cs with
  | none => rw [he] at this; cases this
  | some x => exact fits_of_eq he

theorem nq_pair {C : Ctx} {T : TypeId} {x y : PV} (hx : okAgg (C.size T) x = true ∧ nqOf C T x x = some false) (hy : okAgg (C.size T) y = true ∧ nqOf C T y y = some false) : ∃ b, nqOf C T x y = some b ∧ nqOf C T y x = some b := by
  obtain ⟨h1, h2⟩ := hx
  obtain ⟨h3, h4⟩ := hy
  cases x <;> simp only [okAgg] at h1 <;> try (cases h1; done)
  cases y <;> simp only [okAgg] at h3 <;> try (cases h3; done)
  rename_i cs ds
  obtain ⟨ks, k1, k2⟩ := nq_agg h2
  obtain ⟨ks', k3, k4⟩ := nq_agg h4
  rw [k1] at k3; cases k3
  obtain ⟨b, e1, e2⟩ := eqCells_fit k2 k4
  exact ⟨!b, by simp [nqOf, binP, k1, e1], by simp [nqOf, binP, k1, e2]⟩
theorem nq_str {C : Ctx} {T : TypeId} {x y : PV} (hx : okStr x = true) (hy : okStr y = true) : ∃ b, nqOf C T x y = some b ∧ nqOf C T y x = some b := by
  unfold okStr at hx hy
  split at hx <;> try (cases hx; done)
  split at hy <;> try (cases hy; done)
  rename_i s _ t
  refine ⟨!(s.toList == t.toList), by simp [nqOf, binP, strOp], ?_⟩
  have : (t.toList == s.toList) = (s.toList == t.toList) := by
    rw [Bool.eq_iff_iff]
    constructor <;> intro h <;> (have := eq_of_beq h; rw [this]; exact beq_self_eq_true _)
  simp [nqOf, binP, strOp, this]

theorem eqLst_both {nq : PV → PV → Option Bool} : ∀ {xs ys : List PV}, (∀ x ∈ xs, ∀ y ∈ ys, ∃ b, nq x y = some b ∧ nq y x = some b) → ∃ b, eqLst nq xs ys = some b ∧ eqLst nq ys xs = some b
  | [], ys, _ => by cases ys <;> exact ⟨true, rfl, rfl⟩
  | x :: xs, [], _ => ⟨true, rfl, rfl⟩
  | x :: xs, y :: ys, h => by
    obtain ⟨b, h1, h2⟩ := h x (List.mem_cons_self ..) y (List.mem_cons_self ..)
    cases b with
    | true => exact ⟨false, by simp [eqLst, h1], by simp [eqLst, h2]⟩
    | false =>
      obtain ⟨c, k1, k2⟩ := eqLst_both (xs := xs) (ys := ys) (fun a ha b hb => h a (List.mem_cons_of_mem _ ha) b (List.mem_cons_of_mem _ hb))
      exact ⟨c, by simp [eqLst, h1, k1], by simp [eqLst, h2, k2]⟩

/-- Are two lists the same? -/
def lq (nq : PV → PV → Option Bool) (xs ys : List PV) : Bool := decide (xs.length = ys.length) && (eqLst nq xs ys == some true)

theorem lq_symm {nq : PV → PV → Option Bool} {xs ys : List PV} (h : ∀ x ∈ xs, ∀ y ∈ ys, ∃ b, nq x y = some b ∧ nq y x = some b) : lq nq ys xs = lq nq xs ys := by
  obtain ⟨b, h1, h2⟩ := eqLst_both h
  have : decide (ys.length = xs.length) = decide (xs.length = ys.length) := by rw [Bool.eq_iff_iff]; simp [eq_comm]
  simp [lq, h1, h2, this]
theorem lq_refl {nq : PV → PV → Option Bool} {xs : List PV} (h : ∀ x ∈ xs, nq x x = some false) : lq nq xs xs = true := by
  simp [lq, eqLst_refl xs h]
theorem lq_len {nq : PV → PV → Option Bool} {xs ys : List PV} (h : xs.length ≠ ys.length) : lq nq xs ys = false := by
  simp [lq, h]
theorem lstP_is {nq : PV → PV → Option Bool} {ok : PV → Bool} {xs ys : List PV} (h1 : ∀ x ∈ xs, ok x = true) (h2 : ∀ x ∈ ys, ok x = true) (hn : xs.length < 9223372036854775808) (hm : ys.length < 9223372036854775808) (h : ∀ x ∈ xs, ∀ y ∈ ys, ∃ b, nq x y = some b ∧ nq y x = some b) : lstP nq ok [.lst xs, .lst ys] = some (.v (.bool (lq nq xs ys)), []) := by
  have hc : (xs.all ok && ys.all ok && decide (xs.length < 9223372036854775808) && decide (ys.length < 9223372036854775808)) = true := by
    simp only [Bool.and_eq_true, List.all_eq_true, decide_eq_true_eq]
    exact ⟨⟨⟨h1, h2⟩, hn⟩, hm⟩
  obtain ⟨b, e, _⟩ := eqLst_both h
  simp only [lstP, hc, if_true, e, lq]
  by_cases hl : xs.length = ys.length
  · simp [hl]
  · simp [hl]

/-- What of a machine is no list. -/
def restEq (a b : Mach) : Bool := (a.clock == b.clock && (a.told == b.told && (a.quantum == b.quantum && (a.cur == b.cur && (a.left == b.left && (a.next == b.next && (a.newPipe == b.newPipe && (a.dleft == b.dleft && (a.ini == b.ini && (a.inp == b.inp && a.fin == b.fin))))))))))

/-- Are two machines the same? -/
def sameM (C : Ctx) (a b : Mach) : Bool := restEq a b && (lq (nqOf C 9) a.fr b.fr && (lq (nqOf C 44) a.pr b.pr && (lq (nqOf C 46) a.pi b.pi && (lq (nqOf C 48) a.di b.di && (lq (nqOf C 9) a.bl b.bl && lq (nqOf C 48) a.pe b.pe)))))

theorem restEq_symm (a b : Mach) : restEq b a = restEq a b := by
  simp only [restEq, int_beq_symm b.clock, int_beq_symm b.told, int_beq_symm b.quantum, int_beq_symm b.cur, int_beq_symm b.left, int_beq_symm b.next, int_beq_symm b.newPipe, int_beq_symm b.dleft, bytes_beq_symm b.ini, bytes_beq_symm b.inp, bool_beq_symm b.fin]
theorem bytes_beq_self (s : ByteArray) : (s == s) = true := by rw [beq_toListBytes]; exact beq_self_eq_true _
theorem restEq_refl (a : Mach) : restEq a a = true := by simp [restEq, bytes_beq_self]

theorem sameM_symm {C : Ctx} {a b : Mach} (ha : a.Ok C) (hb : b.Ok C) : sameM C b a = sameM C a b := by
  unfold sameM
  rw [restEq_symm a b, lq_symm (xs := a.fr) (fun x hx y hy => nq_str (ha.fr x hx) (hb.fr y hy)), lq_symm (xs := a.pr) (fun x hx y hy => nq_pair (ha.pr x hx) (hb.pr y hy)), lq_symm (xs := a.pi) (fun x hx y hy => nq_pair (ha.pi x hx) (hb.pi y hy)),
    lq_symm (xs := a.di) (fun x hx y hy => nq_pair (ha.di x hx) (hb.di y hy)), lq_symm (xs := a.bl) (fun x hx y hy => nq_str (ha.bl x hx) (hb.bl y hy)), lq_symm (xs := a.pe) (fun x hx y hy => nq_pair (ha.pe x hx) (hb.pe y hy))]
theorem sameM_refl {C : Ctx} {a : Mach} (ha : a.Ok C) : sameM C a a = true := by
  unfold sameM
  rw [restEq_refl, lq_refl (fun x hx => okStr_nq (ha.fr x hx)), lq_refl (fun x hx => (ha.pr x hx).2), lq_refl (fun x hx => (ha.pi x hx).2), lq_refl (fun x hx => (ha.di x hx).2), lq_refl (fun x hx => okStr_nq (ha.bl x hx)), lq_refl (fun x hx => (ha.pe x hx).2)]
  rfl

theorem wrap_next_i64 (n : Int) : IntKind.i64.wrap (n + 1) ≠ n := by
  rw [IntKind.wrap_i64]
  omega
theorem wrap_next_u64 (n : Int) : IntKind.u64.wrap (n + 1) ≠ n := by
  rw [IntKind.wrap_u64]
  omega
end Go.Ev
end
