/- A part of the proof: HbOp HbOq HbOr HbRow HbRow2. No conditions. -/
import Derived.Test.YtpafjgeiihgcoaaGreatDoorGeo
import Derived.ProofKit
import Derived.Test.YtpafjgeiihgcoaaGreatDoorFeeds
import Derived.Test.YtpafjgeiihgcoaaGreatDoorRows
import Derived.LaidMore
import Derived.OpenShut
import Derived.Stop.Joined

section
/- The opening: what came in, as the evaluator's values. -/
set_option linter.unusedVariables false
set_option linter.unusedSimpArgs false
namespace Go.Ev
open Go

theorem Fits.append : ∀ {ks rs : List EK} {a b : List Value}, Fits ks a → Fits rs b → Fits (ks ++ rs) (a ++ b)
  | [], rs, [], b, _, h => h
  | k :: ks, rs, u :: a, b, h1, h2 => ⟨h1.1, Fits.append h1.2 h2⟩
  | [], _, _ :: _, _, h, _ => h.elim
  | _ :: _, _, [], _, h, _ => h.elim

theorem mapM_all {α β : Type} {f : α → Option β} {l : List α} {r : List β} (h : l.mapM f = some r) : ∀ x ∈ l, ∃ y, f x = some y := by
  intro x hx
  obtain ⟨i, hi⟩ := List.mem_iff_getElem?.1 hx
  have h1 := mapM_some_get h i x hi
  have hl := mapM_some_length h
  have : i < r.length := by rw [hl]; exact (List.getElem?_eq_some_iff.1 hi).1
  exact ⟨r[i], by rw [h1]; exact List.getElem?_eq_getElem this⟩

section
variable {P : Program} {w : World} {H : Type} {enc : TypeId × Value → H} {base : Nat} {sp : Nat → Bool} {held : Bool}

theorem fits_fields {m : Nat} {cs : List Value} {T : TypeId → List Value → Prop} (IH : ∀ t ks, kindsOf P m t = some ks → ∀ us, T t us → us.length = ks.length → Fits ks us) : ∀ (fs : List Field) (off : Nat) (ks : List EK), fieldsK (kindsOf P m) P.cellsOf fs off = some ks →
    (∀ f ∈ fs, T f.type ((cs.drop f.offset).take (P.cellsOf f.type))) → (cs.drop off).length = ks.length → Fits ks (cs.drop off)
  | [], off, ks, h, _, hl => by
    simp only [fieldsK] at h; cases h
    have : cs.drop off = [] := List.eq_nil_of_length_eq_zero hl
    rw [this]; trivial
  | f :: fs, off, ks, h, hT, hl => by
    simp only [fieldsK] at h
    split at h <;> try (cases h; done)
    rename_i k1 hk1
    split at h <;> try (cases h; done)
    rename_i hc
    obtain ⟨hn, ho, hcell⟩ := hc
    split at h <;> try (cases h; done)
    rename_i r hr
    cases h
    have h1 := hT f (List.mem_cons_self ..)
    rw [ho, hcell] at h1
    rw [List.length_append] at hl
    have f1 := IH _ _ hk1 _ h1 (by rw [List.length_take]; omega)
    have f2 := fits_fields IH fs (off + k1.length) r hr (fun g hg => hT g (List.mem_cons_of_mem _ hg)) (by rw [List.length_drop] at hl ⊢; omega)
    have e : cs.drop off = (cs.drop off).take k1.length ++ cs.drop (off + k1.length) := by
      rw [← List.drop_drop, List.take_append_drop]
    rw [e]
    exact f1.append f2

theorem fits_items {cs : List Value} {k1 : List EK} {T : List Value → Prop} (IH : ∀ us, T us → us.length = k1.length → Fits k1 us) : ∀ (n i : Nat), (∀ j, i ≤ j → j < i + n → T ((cs.drop (j * k1.length)).take k1.length)) → (cs.drop (i * k1.length)).length = n * k1.length → Fits (List.replicate n k1).flatten (cs.drop (i * k1.length))
  | 0, i, _, hl => by
    have : cs.drop (i * k1.length) = [] := List.eq_nil_of_length_eq_zero (by rw [hl, Nat.zero_mul])
    rw [this]; trivial
  | n + 1, i, hT, hl => by
    rw [List.replicate_succ, List.flatten_cons]
    rw [Nat.succ_mul] at hl
    have f1 := IH _ (hT i (Nat.le_refl _) (by omega)) (by rw [List.length_take]; omega)
    have f2 := fits_items IH n (i + 1) (fun j h1 h2 => hT j (by omega) (by omega)) (by rw [List.length_drop] at hl ⊢; rw [Nat.succ_mul]; omega)
    have e : cs.drop (i * k1.length) = (cs.drop (i * k1.length)).take k1.length ++ cs.drop ((i + 1) * k1.length) := by
      rw [Nat.succ_mul, ← List.drop_drop, List.take_append_drop]
    rw [e]
    exact f1.append f2

theorem trod_fits : ∀ (m : Nat) (t : TypeId) (ks : List EK), kindsOf P m t = some ks → ∀ (cs : List Value), (∃ fuel x, DataW.trod enc P w base sp held fuel t cs = some x) → cs.length = ks.length → Fits ks cs
  | 0, _, _, h, _, _, _ => by cases h
  | m + 1, t, ks, hk, cs, ⟨fuel, x, h⟩, hl => by
    obtain ⟨kd, hd⟩ := kinds_under hk
    simp only [kindsOf, hd] at hk
    cases fuel with
    | zero => simp [DataW.trod] at h
    | succ fuel =>
    cases kd <;> simp at hk
    case bool =>
      subst hk
      match cs, hl with
      | [c], _ => cases c <;> simp [DataW.trod, hd] at h <;> exact ⟨rfl, trivial⟩
    case int k =>
      subst hk
      match cs, hl with
      | [c], _ =>
        cases c <;> simp [DataW.trod, hd] at h
        exact ⟨by simp [EK.fits, h.1], trivial⟩
    case string =>
      subst hk
      match cs, hl with
      | [c], _ => cases c <;> simp [DataW.trod, hd] at h <;> exact ⟨rfl, trivial⟩
    case array n e =>
      obtain ⟨k1, hk1, hcell, rfl⟩ : ∃ k1, kindsOf P m e = some k1 ∧ P.cellsOf e = k1.length ∧ ks = (List.replicate n k1).flatten := by
        cases hk2 : kindsOf P m e with
        | none => rw [hk2] at hk; cases hk
        | some k1 =>
          rw [hk2] at hk
          by_cases hc : P.cellsOf e = k1.length
          · simp [hc] at hk; exact ⟨k1, rfl, hc, hk.symm⟩
          · simp [hc] at hk
      simp only [DataW.trod, hd] at h
      split at h <;> try (cases h; done)
      rename_i hcs
      obtain ⟨xs, hxs, -⟩ := Option.map_eq_some_iff.1 h
      have := fits_items (cs := cs) (k1 := k1) (T := fun us => ∃ fuel x, DataW.trod enc P w base sp held fuel e us = some x) (fun us hu hlu => trod_fits m e k1 hk1 us hu hlu) n 0
        (fun j _ hj => by
          obtain ⟨y, hy⟩ := mapM_all hxs j (List.mem_range.2 (by omega))
          rw [← hcell]
          exact ⟨fuel, y, hy⟩) (by rw [Nat.zero_mul, List.drop_zero, hl, List.length_flatten]; simp)
      rw [Nat.zero_mul, List.drop_zero] at this
      exact this
    case struct fs =>
      obtain ⟨hst, hk⟩ := hk
      simp only [DataW.trod, hd] at h
      split at h <;> try (cases h; done)
      rename_i hcs
      obtain ⟨xs, hxs, -⟩ := Option.map_eq_some_iff.1 h
      have := fits_fields (P := P) (m := m) (cs := cs) (T := fun t us => ∃ fuel x, DataW.trod enc P w base sp held fuel t us = some x) (fun t ks hk us hu hlu => trod_fits m t ks hk us hu hlu) fs.toList 0 ks hk
        (fun f hf => by
          obtain ⟨y, hy⟩ := mapM_all hxs f hf
          exact ⟨fuel, y, hy⟩) (by rw [List.drop_zero, hl])
      rw [List.drop_zero] at this
      exact this

/-! ### Lists -/
/-- An element of a list of such a type: of one cell, or a struct of such cells. -/
def ElemIs (ks : List EK) (agg : Bool) (x : PV) : Prop := ∃ us, Fits ks us ∧ (match agg with | true => x = .agg (us.map .v) | false => ∃ u, us = [u] ∧ x = .v u)

theorem fits_cell : ∀ {ks : List EK} {us : List Value}, Fits ks us → ∀ u ∈ us, u.oneCell' = true
  | [], [], _, u, h => by cases h
  | k :: ks, u :: us, h, x, hx => by
    rcases List.mem_cons.1 hx with rfl | hx
    · have := h.1
      cases k <;> cases x <;> simp [EK.fits] at this <;> rfl
    · exact fits_cell h.2 x hx
  | [], _ :: _, h, _, _ => h.elim
  | _ :: _, [], h, _, _ => h.elim

theorem ccells {F : Nat → Prop} {B : Nat} : ∀ (us : List Value) (off : Nat), (∀ (k : Nat) u, us[k]? = some u → w.cell? ⟨B, off + k, none⟩ = some u) → (∀ u ∈ us, u.oneCell' = true) → CCells F w B off (us.map .v)
  | [], off, _, _ => .nil
  | u :: us, off, h, hc => .cons (h 0 u rfl) (hc u (List.mem_cons_self ..)) (.v (hc u (List.mem_cons_self ..)))
      (ccells us (off + 1) (fun k x hx => by have := h (k + 1) x hx; rwa [show off + (k + 1) = off + 1 + k by omega] at this) (fun x hx => hc x (List.mem_cons_of_mem _ hx)))

theorem celems {F : Nat → Prop} {B o s : Nat} {ks : List EK} {agg : Bool} (hs : ks.length = s) (ha : agg = false → s = 1) : ∀ (n i : Nat), (∀ j, i ≤ j → j < i + n → ∃ us, Fits ks us ∧ ∀ (k : Nat) u, us[k]? = some u → w.cell? ⟨B, o + j * s + k, none⟩ = some u) →
    ∃ es, es.length = n ∧ (∀ y ∈ es, ElemIs ks agg y) ∧ CElems F w B (o + i * s) s es
  | 0, i, _ => ⟨[], rfl, by simp, .nil⟩
  | n + 1, i, h => by
    obtain ⟨us, hf, hc⟩ := h i (Nat.le_refl _) (by omega)
    obtain ⟨es, h1, h2, h3⟩ := celems hs ha n (i + 1) (fun j a b => h j (by omega) (by omega))
    rw [Nat.succ_mul, ← Nat.add_assoc] at h3
    have hcell := fits_cell hf
    have hcc := ccells (F := F) us (o + i * s) hc hcell
    have hlen : us.length = s := by rw [← hs]; exact hf.length.symm
    cases agg with
    | true =>
      refine ⟨.agg (us.map .v) :: es, by simp [h1], ?_, .cons rfl (by simpa [PV.cells] using hlen) hcc h3⟩
      intro y hy
      rcases List.mem_cons.1 hy with rfl | hy
      · exact ⟨us, hf, rfl⟩
      · exact h2 y hy
    | false =>
      have h1' := ha rfl
      match us, hlen, hf, hc, hcell, hcc with
      | [u], _, hf, hc, hcell, hcc =>
        refine ⟨.v u :: es, by simp [h1], ?_, .cons (hcell u (by simp)) (by simp [PV.cells, h1']) hcc h3⟩
        intro y hy
        rcases List.mem_cons.1 hy with rfl | hy
        · exact ⟨[u], hf, u, rfl, rfl⟩
        · exact h2 y hy
      | [], hl, _, _, _, _ => simp at hl; omega
      | _ :: _ :: _, hl, _, _, _, _ => simp at hl; omega
end
end Go.Ev
end

section
/- The opening: lists; a machine. -/
set_option linter.unusedVariables false
set_option linter.unusedSimpArgs false
namespace Go.Ev
open Go Go.Proofs

section
variable {P : Program} {w : World} {H : Type} {enc : TypeId × Value → H} {base : Nat} {sp : Nat → Bool} {held : Bool}

/-- What came in can be walked through. -/
def Trodden (enc : TypeId × Value → H) (P : Program) (w : World) (base : Nat) (sp : Nat → Bool) (held : Bool) (t : TypeId) (cs : List Value) : Prop := ∃ fuel x, DataW.trod enc P w base sp held fuel t cs = some x

theorem cells?_at {a : Addr} {n : Nat} {us : List Value} (h : w.cells? base a n = some us) : us.length = n ∧ ∀ (k : Nat) u, us[k]? = some u → w.cell? (a.add k) = some u := by
  unfold World.cells? at h
  split at h <;> try (cases h; done)
  have hl := mapM_some_length h
  rw [List.length_range] at hl
  refine ⟨hl, fun k u hu => ?_⟩
  have hk : k < n := by rw [← hl]; exact (List.getElem?_eq_some_iff.1 hu).1
  rw [mapM_some_get h k k (by rw [List.getElem?_range hk]), hu]

theorem cell?_spot {a : Addr} {u : Value} (h : w.cell? a = some u) : a.spot = none ∧ a.block < w.heap.size := by
  unfold World.cell? at h
  split at h <;> try (cases h; done)
  rename_i hb
  split at h <;> try (cases h; done)
  rename_i hs
  refine ⟨by simpa using hs, ?_⟩
  exact (Array.getElem?_eq_some_iff.1 hb).1

theorem add_at (B o n : Nat) : (⟨B, o, none⟩ : Addr).add n = ⟨B, o + n, none⟩ := by
  unfold Addr.add
  split
  · rename_i h; subst h; rfl
  · rfl

theorem trod_list {t e : TypeId} {ks : List EK} {agg : Bool} (ht : P.underlying t = some (.slice e)) (hk : kindsOf P 10 e = some ks) (hc : P.cellsOf e = ks.length) (hpos : 0 < ks.length) (ha : agg = false → ks.length = 1) {v : Value} (h : Trodden enc P w base sp held t [v]) :
    ∃ es, CRel (fun B => B < w.heap.size) w (.lst es) v ∧ es.length < 9223372036854775808 ∧ ∀ y ∈ es, ElemIs ks agg y := by
  obtain ⟨fuel, x, h⟩ := h
  cases fuel with
  | zero => simp [DataW.trod] at h
  | succ fuel =>
  cases v <;> simp only [DataW.trod, ht] at h <;> try (cases h; done)
  rename_i a len cap
  cases a with
  | none =>
    cases len with
    | succ n => cases cap <;> simp at h
    | zero => exact ⟨[], .lstNil, by simp, by simp⟩
  | some a =>
    simp only at h
    split at h <;> try (cases h; done)
    rename_i hcond
    obtain ⟨h1, h2, h3⟩ := hcond
    cases hm : (List.range len).mapM (fun i => (w.cells? base (a.add (i * P.cellsOf e)) (P.cellsOf e)).bind (DataW.trod enc P w base sp held fuel e)) with
    | none => rw [hm] at h; cases h
    | some elems =>
    have hmax : maxLen = 9223372036854775807 := by decide
    by_cases h0 : len = 0
    · subst h0
      exact ⟨[], .lstNil, by simp, by simp⟩
    have hel : ∀ j, j < len → ∃ us, w.cells? base (a.add (j * P.cellsOf e)) (P.cellsOf e) = some us ∧ Fits ks us := by
      intro j hj
      obtain ⟨y, hy⟩ := mapM_all hm j (List.mem_range.2 hj)
      obtain ⟨us, hu, hy⟩ := Option.bind_eq_some_iff.1 hy
      exact ⟨us, hu, trod_fits 10 e ks hk us ⟨fuel, y, hy⟩ (by rw [(cells?_at hu).1, hc])⟩
    obtain ⟨us0, hu0, hf0⟩ := hel 0 (by omega)
    obtain ⟨l0, c0⟩ := cells?_at hu0
    have hlt : 0 < us0.length := by rw [l0, hc]; exact hpos
    have hspot := cell?_spot (c0 0 us0[0] (List.getElem?_eq_getElem hlt))
    obtain ⟨B, o, spt⟩ := a
    have hs : spt = none := by
      have := hspot.1
      unfold Addr.add at this
      cases spt with
      | none => rfl
      | some s => simp at this
    subst hs
    have hB : B < w.heap.size := by have := hspot.2; rw [add_at, add_at] at this; exact this
    obtain ⟨es, e1, e2, e3⟩ := celems (w := w) (F := fun B => B < w.heap.size) (B := B) (o := o) (s := ks.length) (ks := ks) (agg := agg) rfl ha len 0 (fun j _ hj => by
      obtain ⟨us, hu, hf⟩ := hel j (by omega)
      refine ⟨us, hf, fun k u hk => ?_⟩
      have := (cells?_at hu).2 k u hk
      rw [hc, add_at, add_at] at this
      exact this)
    rw [Nat.zero_mul, Nat.add_zero] at e3
    subst e1
    exact ⟨es, .lst hB h2 e3, by omega, e2⟩
end
end Go.Ev
end

section
/- The opening: a machine. -/
set_option linter.unusedVariables false
set_option linter.unusedSimpArgs false
set_option maxRecDepth 8000
namespace Go.Ev
open Go Go.Proofs

section
variable {P : Program} {w : World} {H : Type} {enc : TypeId × Value → H} {base : Nat} {sp : Nat → Bool} {held : Bool}

theorem trod_struct {t : TypeId} {l : List (TypeId × Nat)} {cs : List Value} (ht : (match P.underlying t with | some (.struct fs) => some (fs.toList.map fun f => (f.type, f.offset)) | _ => none) = some l) (h : Trodden enc P w base sp held t cs) :
    cs.length = P.cellsOf t ∧ ∀ p ∈ l, Trodden enc P w base sp held p.1 ((cs.drop p.2).take (P.cellsOf p.1)) := by
  split at ht <;> try (cases ht; done)
  rename_i fs hd
  cases ht
  obtain ⟨fuel, x, h⟩ := h
  cases fuel with
  | zero => simp [DataW.trod] at h
  | succ fuel =>
  simp only [DataW.trod, hd] at h
  split at h <;> try (cases h; done)
  rename_i hcs
  obtain ⟨xs, hxs, -⟩ := Option.map_eq_some_iff.1 h
  refine ⟨hcs, fun p hp => ?_⟩
  obtain ⟨f, hf, rfl⟩ := List.mem_map.1 hp
  obtain ⟨y, hy⟩ := mapM_all hxs f hf
  exact ⟨fuel, y, hy⟩

theorem trod_int {t : TypeId} {k : IntKind} {v : Value} (ht : P.underlying t = some (.int k)) (h : Trodden enc P w base sp held t [v]) : ∃ n, v = .int k n := by
  obtain ⟨fuel, x, h⟩ := h
  cases fuel with
  | zero => simp [DataW.trod] at h
  | succ fuel =>
  cases v <;> simp [DataW.trod, ht] at h
  exact ⟨_, by rw [h.1.1]⟩
theorem trod_str {t : TypeId} {v : Value} (ht : P.underlying t = some .string) (h : Trodden enc P w base sp held t [v]) : ∃ s, v = .string s := by
  obtain ⟨fuel, x, h⟩ := h
  cases fuel with
  | zero => simp [DataW.trod] at h
  | succ fuel =>
  cases v <;> simp [DataW.trod, ht] at h
  exact ⟨_, rfl⟩
theorem trod_bool {t : TypeId} {v : Value} (ht : P.underlying t = some .bool) (h : Trodden enc P w base sp held t [v]) : ∃ b, v = .bool b := by
  obtain ⟨fuel, x, h⟩ := h
  cases fuel with
  | zero => simp [DataW.trod] at h
  | succ fuel =>
  cases v <;> simp [DataW.trod, ht] at h
  exact ⟨_, rfl⟩
end

/-! ### Elements -/
theorem elem_str {x : PV} (h : ElemIs [.str] false x) : okStr x = true := by
  obtain ⟨us, hf, u, rfl, rfl⟩ := h
  have := hf.1
  cases u <;> simp [EK.fits] at this
  rfl
theorem elem_agg {ks : List EK} {n : Nat} {x : PV} (hn : ks.length = n) (h : ElemIs ks true x) : okAgg n x = true := by
  obtain ⟨us, hf, rfl⟩ := h
  have := hf.length
  simp [okAgg]; omega
theorem eqCells_refl : ∀ {ks : List EK} {us : List Value}, Fits ks us → eqCells ks (us.map .v) (us.map .v) = some true
  | [], [], _ => rfl
  | k :: ks, u :: us, h => by
    have h1 := h.1
    have h2 := eqCells_refl h.2
    simp only [List.map_cons, eqCells, h1, h2, Bool.and_self, if_true]
    cases k <;> cases u <;> simp [EK.fits] at h1 <;> simp [eqV]
    rw [beq_toListBytes]
    simp
  | [], _ :: _, h => h.elim
  | _ :: _, [], h => h.elim
theorem elem_nq {C : Ctx} {T : TypeId} {ks : List EK} {x : PV} (hk : C.eqOk T = some ks) (h : ElemIs ks true x) : nqOf C T x x = some false := by
  obtain ⟨us, hf, rfl⟩ := h
  simp [nqOf, binP, hk, eqCells_refl hf]

noncomputable def K44 : List EK := (kindsOf Tryz.prog 10 44).getD []
noncomputable def K46 : List EK := (kindsOf Tryz.prog 10 46).getD []
noncomputable def K48 : List EK := (kindsOf Tryz.prog 10 48).getD []
theorem k44 : kindsOf Tryz.prog 10 44 = some K44 := by kernel_rfl
theorem k46 : kindsOf Tryz.prog 10 46 = some K46 := by kernel_rfl
theorem k48 : kindsOf Tryz.prog 10 48 = some K48 := by kernel_rfl
theorem k9 : kindsOf Tryz.prog 10 9 = some [.str] := by kernel_rfl
theorem fields30 : (match Tryz.prog.underlying 30 with | some (.struct fs) => some (fs.toList.map fun f => (f.type, f.offset)) | _ => none) = some [(22, 0), (3, 1), (3, 2), (3, 3), (23, 4), (24, 5), (3, 6), (9, 7), (25, 8), (3, 9), (9, 10), (4, 11), (22, 12), (28, 13), (26, 16)] := by kernel_rfl
theorem fields28 : (match Tryz.prog.underlying 28 with | some (.struct fs) => some (fs.toList.map fun f => (f.type, f.offset)) | _ => none) = some [(23, 0), (26, 1), (3, 2)] := by kernel_rfl
theorem u22 : Tryz.prog.underlying 22 = some (.int .u64) := by kernel_rfl
theorem u3 : Tryz.prog.underlying 3 = some (.int .i64) := by kernel_rfl
theorem u9 : Tryz.prog.underlying 9 = some .string := by kernel_rfl
theorem u4 : Tryz.prog.underlying 4 = some .bool := by kernel_rfl
theorem u23 : Tryz.prog.underlying 23 = some (.slice 9) := by kernel_rfl
theorem u24 : Tryz.prog.underlying 24 = some (.slice 44) := by kernel_rfl
theorem u25 : Tryz.prog.underlying 25 = some (.slice 46) := by kernel_rfl
theorem u26 : Tryz.prog.underlying 26 = some (.slice 48) := by kernel_rfl
theorem cz : Tryz.prog.cellsOf 30 = 17 ∧ Tryz.prog.cellsOf 22 = 1 ∧ Tryz.prog.cellsOf 3 = 1 ∧ Tryz.prog.cellsOf 9 = 1 ∧ Tryz.prog.cellsOf 4 = 1 ∧ Tryz.prog.cellsOf 23 = 1 ∧ Tryz.prog.cellsOf 24 = 1 ∧ Tryz.prog.cellsOf 25 = 1 ∧ Tryz.prog.cellsOf 26 = 1 ∧ Tryz.prog.cellsOf 28 = 3 :=
  ⟨by kernel_rfl, by kernel_rfl, by kernel_rfl, by kernel_rfl, by kernel_rfl, by kernel_rfl, by kernel_rfl, by kernel_rfl, by kernel_rfl, by kernel_rfl⟩

theorem open_mach {w : World} {H : Type} {enc : TypeId × Value → H} {base : Nat} {sp : Nat → Bool} {held : Bool} {cs : List Value} (h : Trodden enc Tryz.prog w base sp held 30 cs) :
    ∃ m : Mach, m.Ok XD ∧ CRel (fun B => B < w.heap.size) w m.pv (.agg cs.toArray) := by
  obtain ⟨z30, z22, z3, z9, z4, z23, z24, z25, z26, z28⟩ := cz
  obtain ⟨hl, hf⟩ := trod_struct fields30 h
  rw [z30] at hl
  match cs, hl with
  | [c0, c1, c2, c3, c4, c5, c6, c7, c8, c9, c10, c11, c12, c13, c14, c15, c16], _ =>
  have g : ∀ (t o : Nat), (t, o) ∈ [(22, 0), (3, 1), (3, 2), (3, 3), (23, 4), (24, 5), (3, 6), (9, 7), (25, 8), (3, 9), (9, 10), (4, 11), (22, 12), (28, 13), (26, 16)] → _ := fun t o hm => hf (t, o) hm
  have f0 := g 22 0 (by simp)
  have f1 := g 3 1 (by simp)
  have f2 := g 3 2 (by simp)
  have f3 := g 3 3 (by simp)
  have f4 := g 23 4 (by simp)
  have f5 := g 24 5 (by simp)
  have f6 := g 3 6 (by simp)
  have f7 := g 9 7 (by simp)
  have f8 := g 25 8 (by simp)
  have f9 := g 3 9 (by simp)
  have f10 := g 9 10 (by simp)
  have f11 := g 4 11 (by simp)
  have f12 := g 22 12 (by simp)
  have f13 := g 28 13 (by simp)
  have f16 := g 26 16 (by simp)
  simp only [z22, z3, z9, z4, z23, z24, z25, z26, z28, List.drop_succ_cons, List.drop_zero, List.take_succ_cons, List.take_zero] at f0 f1 f2 f3 f4 f5 f6 f7 f8 f9 f10 f11 f12 f13 f16
  obtain ⟨-, hd⟩ := trod_struct fields28 f13
  have f130 := hd (23, 0) (by simp)
  have f131 := hd (26, 1) (by simp)
  have f132 := hd (3, 2) (by simp)
  simp only [z3, z23, z26, List.drop_succ_cons, List.drop_zero, List.take_succ_cons, List.take_zero] at f130 f131 f132
  obtain ⟨n0, rfl⟩ := trod_int u22 f0
  obtain ⟨n1, rfl⟩ := trod_int u3 f1
  obtain ⟨n2, rfl⟩ := trod_int u3 f2
  obtain ⟨n3, rfl⟩ := trod_int u3 f3
  obtain ⟨l4, r4, b4, e4⟩ := trod_list (agg := false) u23 k9 (by kernel_rfl) (by decide) (fun _ => rfl) f4
  obtain ⟨l5, r5, b5, e5⟩ := trod_list (agg := true) u24 k44 (by kernel_rfl) (of_decide_eq_true (by kernel_rfl)) (fun h => by cases h) f5
  obtain ⟨n6, rfl⟩ := trod_int u3 f6
  obtain ⟨s7, rfl⟩ := trod_str u9 f7
  obtain ⟨l8, r8, b8, e8⟩ := trod_list (agg := true) u25 k46 (by kernel_rfl) (of_decide_eq_true (by kernel_rfl)) (fun h => by cases h) f8
  obtain ⟨n9, rfl⟩ := trod_int u3 f9
  obtain ⟨s10, rfl⟩ := trod_str u9 f10
  obtain ⟨b11, rfl⟩ := trod_bool u4 f11
  obtain ⟨n12, rfl⟩ := trod_int u22 f12
  obtain ⟨l13, r13, b13, e13⟩ := trod_list (agg := false) u23 k9 (by kernel_rfl) (by decide) (fun _ => rfl) f130
  obtain ⟨l14, r14, b14, e14⟩ := trod_list (agg := true) u26 k48 (by kernel_rfl) (of_decide_eq_true (by kernel_rfl)) (fun h => by cases h) f131
  obtain ⟨n15, rfl⟩ := trod_int u3 f132
  obtain ⟨l16, r16, b16, e16⟩ := trod_list (agg := true) u26 k48 (by kernel_rfl) (of_decide_eq_true (by kernel_rfl)) (fun h => by cases h) f16
  have s44 : K44.length = XD.size 44 := by kernel_rfl
  have s46 : K46.length = XD.size 46 := by kernel_rfl
  have s48 : K48.length = XD.size 48 := by kernel_rfl
  have q44 : XD.eqOk 44 = some K44 := by kernel_rfl
  have q46 : XD.eqOk 46 = some K46 := by kernel_rfl
  have q48 : XD.eqOk 48 = some K48 := by kernel_rfl
  refine ⟨⟨n0, n1, n2, n3, l4, l5, n6, s7, l8, n9, s10, b11, n12, l13, l14, n15, l16⟩, ?_, ?_⟩
  · exact ⟨fun x hx => elem_str (e4 x hx), fun x hx => elem_str (e13 x hx), fun x hx => ⟨elem_agg s44 (e5 x hx), elem_nq q44 (e5 x hx)⟩, fun x hx => ⟨elem_agg s48 (e14 x hx), elem_nq q48 (e14 x hx)⟩,
      fun x hx => ⟨elem_agg s48 (e16 x hx), elem_nq q48 (e16 x hx)⟩, fun x hx => ⟨elem_agg s46 (e8 x hx), elem_nq q46 (e8 x hx)⟩, b4, b13, b5, b14, b16, b8⟩
  · refine .agg (by simp [PV.isCell, Value.oneCell']) ?_
    exact .cons (.v rfl) (.cons (.v rfl) (.cons (.v rfl) (.cons (.v rfl) (.cons r4 (.cons r5 (.cons (.v rfl) (.cons (.v rfl) (.cons r8 (.cons (.v rfl) (.cons (.v rfl) (.cons (.v rfl) (.cons (.v rfl) (.cons r13 (.cons r14 (.cons (.v rfl) (.cons r16 .nil))))))))))))))))
end Go.Ev
end

section
/- The row of MachineFeeds. -/
set_option linter.unusedVariables false
set_option linter.unusedSimpArgs false
namespace Go.Proofs.YtpafjgeiihgcoaaGreatDoor
open Go.ChangeShapes Go.WideShapes Go.ChangeAt Go.RowKit

theorem Tryz.own : ownKnob Tryz.prog.godebug = none := by kernel_rfl
theorem Tryz.laidOut : laidOutB Tryz.prog = true := by kernel_rfl

/-- The answer of a contract, in the kit's words. -/
theorem calls_of_con {f : FuncId} {al : List Go.Ev.PV} {b : Bool} (h : Go.Ev.Con Tryz.prog f al (.v (.bool b), [])) {W : World} {vs : List Value} (hr : Go.Ev.CRels (fun B => B < W.heap.size) W al vs) :
    Calls Tryz.prog f vs.toArray W fun e W' => e = .returned (.bool b) ∧ Below W.heap.size W W' := by
  refine (h (fun B => B < W.heap.size) W vs (fun _ h => h) hr).mono fun e W' ⟨v, F', Lr, he, hc⟩ => ?_
  have hv := hc.val
  cases hv with
  | c h =>
    cases h
    exact ⟨he, ⟨hc.os, hc.tape, hc.output, hc.size, fun k hk => hc.keep k hk⟩⟩
end Go.Proofs.YtpafjgeiihgcoaaGreatDoor
end

section
/- The row of MachineFeeds, lifted. -/
set_option linter.unusedVariables false
set_option linter.unusedSimpArgs false
namespace Go.Proofs.YtpafjgeiihgcoaaGreatDoor
open Go.ChangeShapes Go.WideShapes Go.ChangeAt Go.RowKit

theorem post_below {H : Type} {enc : TypeId × Value → H} {W W' : World} {v0 v1 v2 v3 : Value} {d0 d1 d2 d3 : DataW H} {before : List MemPlace}
    (hW : DataW.Whole enc Tryz.prog Tryz.f4.params.toList Rows.machineFeedsSpec.vars false W [v0, v1, v2, v3] [d0, d1, d2, d3] [] before) (hb : Below W.heap.size W W') :
    Rows.machineFeedsSpec.post enc Tryz.prog Tryz.f4 false true false false W #[v0, v1, v2, v3] (.bool true) W' := by
  have hW' := hW
  obtain ⟨p, q, hA0, hV, rfl, hfz, hnd⟩ := hW
  have hA : DataW.TrodAll enc Tryz.prog W 0 (fun _ => true) true [30, 9, 9, 4] [v0, v1, v2, v3] [d0, d1, d2, d3] p := hA0
  obtain ⟨-, rfl⟩ := trodVars_none hV
  obtain ⟨p0, q0, h0, ⟨p1, q1, h1, ⟨p2, q2, h2, ⟨p3, q3, h3, h4, rfl⟩, rfl⟩, rfl⟩, rfl⟩ := hA
  have hq : q3 = [] := h4
  subst hq
  have hlt : ∀ x ∈ p0 ++ (p1 ++ (p2 ++ (p3 ++ []))) ++ [], x.block < W.heap.size := fun x hx => hW'.lt x hx
  refine ⟨[d0, d1, d2, d3], [], p0 ++ (p1 ++ (p2 ++ (p3 ++ []))) ++ [], [], p0 ++ (p1 ++ (p2 ++ (p3 ++ []))), [], hW', ?_, ?_, rfl, hb.frame _, fun h => by cases h⟩
  · exact trodAll_mk1 (shut_bool (show Tryz.prog.underlying 4 = some .bool by kernel_rfl) _)
  · have t0 := Below.trod Tryz.laidOut (by kernel_rfl) (of_decide_eq_true (by kernel_rfl)) h0 hb (fun x hx => hlt x (by simp [hx]))
    have t1 := Below.trod Tryz.laidOut (by kernel_rfl) (of_decide_eq_true (by kernel_rfl)) h1 hb (fun x hx => hlt x (by simp [hx]))
    have t2 := Below.trod Tryz.laidOut (by kernel_rfl) (of_decide_eq_true (by kernel_rfl)) h2 hb (fun x hx => hlt x (by simp [hx]))
    have t3 := Below.trod Tryz.laidOut (by kernel_rfl) (of_decide_eq_true (by kernel_rfl)) h3 hb (fun x hx => hlt x (by simp [hx]))
    exact ⟨p0, _, t0, ⟨p1, _, t1, ⟨p2, _, t2, ⟨p3, _, t3, rfl, rfl⟩, rfl⟩, rfl⟩, rfl⟩
end Go.Proofs.YtpafjgeiihgcoaaGreatDoor
end
