/- An evaluator over the loaded program: its values, its memory, its operations; each operation is sound. No conditions. -/
import Derived.WalkKit
import Derived.MapKept

section
/- An evaluator over the loaded program: its values, its memory, and what they stand for in a world of the model. -/
namespace Go.Ev
open Go

/-- The evaluator's values. Frozen: lst, lptr, fmap (memory that nobody writes any more). Own: row, rptr, ptr, asl, map (a block of the evaluator's memory, by its number and its turn). -/
inductive PV where
  | v (x : Value)
  | agg (cs : List PV)
  | tuple (vs : List PV)
  | func (fn : Fn) (first captured : List PV)
  | iface (t : TypeId) (x : PV)
  | lst (es : List PV)
  | lptr (cs : List PV)
  | fmap (ks : List Value) (vs : List PV)
  | row (i g lo len s : Nat)
  | rptr (i g e s off : Nat)
  | ptr (i g off : Nat)
  | asl (i g off len s : Nat)
  | map (i g : Nat)
  | yld (i g : Nat)
  | dead

instance : Inhabited PV := ⟨.dead⟩

def PV.isCell : PV → Bool
  | .agg _ | .tuple _ | .dead => false
  | .v x => x.oneCell'
  | _ => true

def PV.cells : PV → List PV
  | .agg cs => cs
  | p => [p]

/-- May it be an element of a row? -/
def PV.isElem : PV → Bool
  | .agg _ => true
  | p => p.isCell

/-- A block of the evaluator's memory. -/
inductive Blk where
  | none
  | dead
  | var (cs : List PV)
  | row (s : Nat) (es : List PV)
  | fvar (cs : List PV)
  | frow (s : Nat) (es : List PV)
  | map (ks : List Value) (vs : List PV)
  | fzmap (ks : List Value) (vs : List PV)
  | bld (T : TypeId) (buf : Option (Nat × Nat × Nat))
  | bytes (E : TypeId) (bs : List UInt8)
  | loop (ps : List Nat) (assign body : Code) (sz st : Nat) (pend : Option Code) (t : Nat → PV)

instance : Inhabited Blk := ⟨.none⟩

def Blk.live : Blk → Bool
  | .var _ | .row _ _ | .map _ _ | .bld _ _ | .bytes _ _ | .loop _ _ _ _ _ _ _ => true
  | _ => false

/-- A map's keys, in the order of its entries; no stamp stands twice, and no key. -/
def KeysAre (es : Array MapEntry) (clock : Nat) (ks : List Value) : Prop := es.toList.map (·.key) = ks ∧ MapKept.Stamped es clock

/-! ### What a closed value stands for -/
section
variable (F : Nat → Prop) (w : World)
mutual
inductive CRel : PV → Value → Prop
  | v {x : Value} : x.oneCell' = true → CRel (.v x) x
  | agg {cs : List PV} {us : List Value} : (∀ c ∈ cs, PV.isCell c = true) → CRels cs us → CRel (.agg cs) (.agg us.toArray)
  | tuple {vs : List PV} {us : List Value} : CRels vs us → CRel (.tuple vs) (.tuple us.toArray)
  | func {fn : Fn} {fs cs : List PV} {us xs : List Value} : CRels fs us → CRels cs xs → CRel (.func fn fs cs) (.func fn us.toArray xs.toArray)
  | iface {t : TypeId} {x : PV} {u : Value} : CRel x u → CRel (.iface t x) (.iface t u)
  | lstNil {a : Option Addr} {cap : Nat} : CRel (.lst []) (.slice a 0 cap)
  | lst {es : List PV} {B o s cap : Nat} : F B → es.length ≤ cap → CElems B o s es → CRel (.lst es) (.slice (some ⟨B, o, Option.none⟩) es.length cap)
  | lptr {cs : List PV} {B o : Nat} : F B → CCells B o cs → CRel (.lptr cs) (.pointer (some ⟨B, o, Option.none⟩))
  | fmap {ks : List Value} {vs : List PV} {B : Nat} {es : Array MapEntry} {clock : Nat} : F B → w.heap[B]? = some (.map es clock) → KeysAre es clock ks →
      CRels vs (es.toList.map (·.val)) → CRel (.fmap ks vs) (.map (some B))
inductive CRels : List PV → List Value → Prop
  | nil : CRels [] []
  | cons {p : PV} {ps : List PV} {u : Value} {us : List Value} : CRel p u → CRels ps us → CRels (p :: ps) (u :: us)
inductive CCells : Nat → Nat → List PV → Prop
  | nil {B o : Nat} : CCells B o []
  | cons {B o : Nat} {c : PV} {cs : List PV} {u : Value} : w.cell? ⟨B, o, Option.none⟩ = some u → c.isCell = true → CRel c u → CCells B (o + 1) cs → CCells B o (c :: cs)
inductive CElems : Nat → Nat → Nat → List PV → Prop
  | nil {B o s : Nat} : CElems B o s []
  | cons {B o s : Nat} {e : PV} {es : List PV} : e.isElem = true → e.cells.length = s → CCells B o e.cells → CElems B (o + s) s es → CElems B o s (e :: es)
end
end

/-! ### What a value stands for; G: the turns; L: where the blocks lie -/
section
variable (F : Nat → Prop) (G : Nat → Nat) (L : Nat → Option Nat) (w : World)

def RowAt (i lo len s : Nat) (a : Option Addr) (cap : Nat) : Prop :=
  (len = 0 ∧ cap = 0) ∨ ∃ B T n, L i = some B ∧ a = some ⟨B, lo * s, Option.none⟩ ∧ len ≤ cap ∧ w.shape? B = some (T, n) ∧ (lo + cap) * s ≤ n
def AslAt (i off len _s : Nat) (a : Option Addr) (cap : Nat) : Prop :=
  (len = 0 ∧ cap = 0) ∨ ∃ B, L i = some B ∧ a = some ⟨B, off, Option.none⟩ ∧ len ≤ cap

mutual
inductive VRel : PV → Value → Prop
  | c {p : PV} {u : Value} : CRel F w p u → VRel p u
  | agg {cs : List PV} {us : List Value} : (∀ c ∈ cs, PV.isCell c = true) → VRels cs us → VRel (.agg cs) (.agg us.toArray)
  | tuple {vs : List PV} {us : List Value} : VRels vs us → VRel (.tuple vs) (.tuple us.toArray)
  | func {fn : Fn} {fs cs : List PV} {us xs : List Value} : VRels fs us → VRels cs xs → VRel (.func fn fs cs) (.func fn us.toArray xs.toArray)
  | iface {t : TypeId} {x : PV} {u : Value} : VRel x u → VRel (.iface t x) (.iface t u)
  | row {i g lo len s cap : Nat} {a : Option Addr} : g ≤ G i → (g = G i → RowAt L w i lo len s a cap) → VRel (.row i g lo len s) (.slice a len cap)
  | rptr {i g e s off : Nat} {a : Addr} : g ≤ G i → (g = G i → ∃ B, L i = some B ∧ a = ⟨B, e * s + off, Option.none⟩) → VRel (.rptr i g e s off) (.pointer (some a))
  | ptr {i g off : Nat} {a : Addr} : g ≤ G i → (g = G i → ∃ B, L i = some B ∧ a = ⟨B, off, Option.none⟩) → VRel (.ptr i g off) (.pointer (some a))
  | asl {i g off len s cap : Nat} {a : Option Addr} : g ≤ G i → (g = G i → AslAt L i off len s a cap) → VRel (.asl i g off len s) (.slice a len cap)
  | map {i g B : Nat} : g ≤ G i → (g = G i → L i = some B) → VRel (.map i g) (.map (some B))
  | yld {i g l : Nat} : g ≤ G i → (g = G i → L i = some l) → VRel (.yld i g) (.func (.yield l) #[] #[])
  | dead {u : Value} : VRel .dead u
inductive VRels : List PV → List Value → Prop
  | nil : VRels [] []
  | cons {p : PV} {ps : List PV} {u : Value} {us : List Value} : VRel p u → VRels ps us → VRels (p :: ps) (u :: us)
end

/-- The cells of block B from o on hold what cs stands for. -/
inductive CellsAt (B : Nat) : Nat → List PV → Prop
  | nil {o : Nat} : CellsAt B o []
  | cons {o : Nat} {c : PV} {cs : List PV} {u : Value} : w.cell? ⟨B, o, Option.none⟩ = some u → c.isCell = true → VRel F G L w c u → CellsAt B (o + 1) cs → CellsAt B o (c :: cs)
inductive ElemsAt (B s : Nat) : Nat → List PV → Prop
  | nil {o : Nat} : ElemsAt B s o []
  | cons {o : Nat} {e : PV} {es : List PV} : e.isElem = true → e.cells.length = s → CellsAt F G L w B o e.cells → ElemsAt B s (o + s) es → ElemsAt B s o (e :: es)

/-- A block that may be written: a row of cells, none of them shared with a string. -/
def Free (B n : Nat) : Prop := ∃ arr T fr, w.heap[B]? = some (.cells arr T fr) ∧ n ≤ arr.size ∧ ∀ o, o < arr.size → ¬ (fr.1 ≤ o ∧ o < fr.2)

/-- What a builder's buffer is: nothing yet, or such a block of bytes, so many of which are used. -/
def BufIs (buf : Option (Nat × Nat × Nat)) (v : Value) : Prop :=
  match buf with
  | none => v = .slice Option.none 0 0
  | some (j, g, n) => g ≤ G j ∧ (g = G j → ∃ C E cap, L j = some C ∧ w.shape? C = some (E, cap) ∧ v = .slice (some ⟨C, 0, Option.none⟩) n cap ∧ n ≤ cap)

inductive BRel : Blk → Option Nat → Prop
  | none {B : Option Nat} : BRel .none B
  | dead {B : Option Nat} : BRel .dead B
  | var {cs : List PV} {B : Nat} : ¬ F B → Free w B cs.length → CellsAt F G L w B 0 cs → BRel (.var cs) (some B)
  | rowNone {s : Nat} : BRel (.row s []) Option.none
  | row {s : Nat} {es : List PV} {B : Nat} : ¬ F B → Free w B (es.length * s) → ElemsAt F G L w B s 0 es → BRel (.row s es) (some B)
  | fvar {cs : List PV} {B : Nat} : F B → CellsAt F G L w B 0 cs → BRel (.fvar cs) (some B)
  | frowNone {s : Nat} : BRel (.frow s []) Option.none
  | frow {s : Nat} {es : List PV} {B : Nat} : F B → ElemsAt F G L w B s 0 es → BRel (.frow s es) (some B)
  | map {ks : List Value} {vs : List PV} {B : Nat} {es : Array MapEntry} {clock : Nat} : ¬ F B → w.heap[B]? = some (.map es clock) → KeysAre es clock ks →
      VRels F G L w vs (es.toList.map (·.val)) → BRel (.map ks vs) (some B)
  | fzmap {ks : List Value} {vs : List PV} {B : Nat} {es : Array MapEntry} {clock : Nat} : F B → w.heap[B]? = some (.map es clock) → KeysAre es clock ks →
      VRels F G L w vs (es.toList.map (·.val)) → BRel (.fzmap ks vs) (some B)
  | bld {T : TypeId} {buf : Option (Nat × Nat × Nat)} {B : Nat} {p v : Value} : ¬ F B → w.heap[B]? = some (.cells #[p, v] T (0, 0)) → (p = .pointer Option.none ∨ p = .pointer (some ⟨B, 0, Option.none⟩)) → BufIs G L w buf v → BRel (.bld T buf) (some B)
  | bytes {E : TypeId} {bs : List UInt8} {B : Nat} {arr : Array Value} : ¬ F B → w.heap[B]? = some (.cells arr E (0, 0)) → bs.length ≤ 140737488355328 → bs.length ≤ arr.size → arr.toList.take bs.length = bs.map (fun b => Value.int .u8 b.toNat) → BRel (.bytes E bs) (some B)
  | loop {ps : List Nat} {assign body : Code} {sz st : Nat} {pend : Option Code} {t : Nat → PV} {B : Nat} {r : Loop} : ¬ F B → w.heap[B]? = some (.loop r) → r.params.toList = ps → r.assign = assign → r.body = body → r.tmps.size = sz →
      ((st = 0 ∧ r.state = .ready ∧ r.pending = Option.none) ∨ (st = 1 ∧ r.state = .busy) ∨ (st = 2 ∧ r.state = .done ∧ r.pending = pend)) → (∀ i, VRel F G L w (t i) (r.tmps.getD i undef)) → BRel (.loop ps assign body sz st pend t) (some B)
end

/-! ### What stays -/
structure CLater (F : Nat → Prop) (w : World) (F' : Nat → Prop) (w' : World) : Prop where
  fr : ∀ B, F B → F' B
  hp : ∀ B, F B → w'.heap[B]? = w.heap[B]?

/-- What may become of a world, of the frozen blocks, of the turns, so that a value stays what it stood for. -/
structure Later (F : Nat → Prop) (G : Nat → Nat) (L : Nat → Option Nat) (w : World) (F' : Nat → Prop) (G' : Nat → Nat) (L' : Nat → Option Nat) (w' : World) : Prop extends CLater F w F' w' where
  sh : ∀ B T n, w.shape? B = some (T, n) → w'.shape? B = some (T, n)
  gs : ∀ i, G i < G' i ∨ (G i = G' i ∧ L' i = L i)

theorem Later.refl (F : Nat → Prop) (G : Nat → Nat) (L : Nat → Option Nat) (w : World) : Later F G L w F G L w :=
  ⟨⟨fun _ h => h, fun _ _ => rfl⟩, fun _ _ _ h => h, fun _ => .inr ⟨rfl, rfl⟩⟩

theorem CLater.trans {F w F1 w1 F2 w2} (h : CLater F w F1 w1) (k : CLater F1 w1 F2 w2) : CLater F w F2 w2 :=
  ⟨fun B hB => k.fr B (h.fr B hB), fun B hB => (k.hp B (h.fr B hB)).trans (h.hp B hB)⟩

theorem Later.trans {F G L w F1 G1 L1 w1 F2 G2 L2 w2} (h : Later F G L w F1 G1 L1 w1) (k : Later F1 G1 L1 w1 F2 G2 L2 w2) : Later F G L w F2 G2 L2 w2 :=
  ⟨h.toCLater.trans k.toCLater, fun B T n hs => k.sh B T n (h.sh B T n hs), fun i => by
    rcases h.gs i with h1 | ⟨h1, h2⟩ <;> rcases k.gs i with k1 | ⟨k1, k2⟩
    · exact .inl (by omega)
    · exact .inl (by omega)
    · exact .inl (by omega)
    · exact .inr ⟨by omega, by rw [k2, h2]⟩⟩

theorem Later.turn {F G L w F' G' L' w'} (h : Later F G L w F' G' L' w') {i g : Nat} (hg : g ≤ G i) : g ≤ G' i := by
  rcases h.gs i with h | ⟨h, _⟩ <;> omega

theorem Later.now {F G L w F' G' L' w'} (h : Later F G L w F' G' L' w') {i g : Nat} (hg : g ≤ G i) (he : g = G' i) : g = G i ∧ L' i = L i := by
  rcases h.gs i with h | ⟨h, h2⟩
  · omega
  · exact ⟨by omega, h2⟩

theorem cell_of_heap {w w' : World} {B o : Nat} (h : w'.heap[B]? = w.heap[B]?) : w'.cell? ⟨B, o, none⟩ = w.cell? ⟨B, o, none⟩ := by
  simp only [World.cell?, h]

mutual
theorem CRel.later {F w F' w'} (h : CLater F w F' w') : ∀ {p u}, CRel F w p u → CRel F' w' p u
  | _, _, .v hx => .v hx
  | _, _, .agg hc hs => .agg hc (CRels.later h hs)
  | _, _, .tuple hs => .tuple (CRels.later h hs)
  | _, _, .func h1 h2 => .func (CRels.later h h1) (CRels.later h h2)
  | _, _, .iface h1 => .iface (CRel.later h h1)
  | _, _, .lstNil => .lstNil
  | _, _, .lst hB hcap he => .lst (h.fr _ hB) hcap (CElems.later h (h.hp _ hB) he)
  | _, _, .lptr hB he => .lptr (h.fr _ hB) (CCells.later h (h.hp _ hB) he)
  | _, _, .fmap hB h1 h2 h3 => .fmap (h.fr _ hB) ((h.hp _ hB).trans h1) h2 (CRels.later h h3)
theorem CRels.later {F w F' w'} (h : CLater F w F' w') : ∀ {p u}, CRels F w p u → CRels F' w' p u
  | _, _, .nil => .nil
  | _, _, .cons h1 h2 => .cons (CRel.later h h1) (CRels.later h h2)
theorem CCells.later {F w F' w'} (h : CLater F w F' w') : ∀ {B o cs}, w'.heap[B]? = w.heap[B]? → CCells F w B o cs → CCells F' w' B o cs
  | _, _, _, _, .nil => .nil
  | _, _, _, hB, .cons h1 h2 h3 h4 => .cons ((cell_of_heap hB).trans h1) h2 (CRel.later h h3) (CCells.later h hB h4)
theorem CElems.later {F w F' w'} (h : CLater F w F' w') : ∀ {B o s cs}, w'.heap[B]? = w.heap[B]? → CElems F w B o s cs → CElems F' w' B o s cs
  | _, _, _, _, _, .nil => .nil
  | _, _, _, _, hB, .cons h1 h2 h4 h5 => .cons h1 h2 (CCells.later h hB h4) (CElems.later h hB h5)
end

mutual
theorem VRel.later {F G L w F' G' L' w'} (h : Later F G L w F' G' L' w') : ∀ {p u}, VRel F G L w p u → VRel F' G' L' w' p u
  | _, _, .c hx => .c (hx.later h.toCLater)
  | _, _, .agg hc hs => .agg hc (VRels.later h hs)
  | _, _, .tuple hs => .tuple (VRels.later h hs)
  | _, _, .func h1 h2 => .func (VRels.later h h1) (VRels.later h h2)
  | _, _, .iface h1 => .iface (VRel.later h h1)
  | _, _, .row (i := i) hg hr => .row (h.turn hg) (fun he => by
      obtain ⟨h1, h2⟩ := h.now hg he
      rcases hr h1 with hr | ⟨B, T, n, a0, a1, a2, a3, a4⟩
      · exact .inl hr
      · exact .inr ⟨B, T, n, h2.trans a0, a1, a2, h.sh _ _ _ a3, a4⟩)
  | _, _, .rptr hg hr => .rptr (h.turn hg) (fun he => by obtain ⟨h1, h2⟩ := h.now hg he; rw [h2]; exact hr h1)
  | _, _, .ptr hg hr => .ptr (h.turn hg) (fun he => by obtain ⟨h1, h2⟩ := h.now hg he; rw [h2]; exact hr h1)
  | _, _, .asl hg hr => .asl (h.turn hg) (fun he => by
      obtain ⟨h1, h2⟩ := h.now hg he
      rcases hr h1 with hr | ⟨B, a0, a1⟩
      · exact .inl hr
      · exact .inr ⟨B, h2.trans a0, a1⟩)
  | _, _, .map hg hr => .map (h.turn hg) (fun he => by obtain ⟨h1, h2⟩ := h.now hg he; rw [h2]; exact hr h1)
  | _, _, .yld hg hr => .yld (h.turn hg) (fun he => by obtain ⟨h1, h2⟩ := h.now hg he; rw [h2]; exact hr h1)
  | _, _, .dead => .dead
theorem VRels.later {F G L w F' G' L' w'} (h : Later F G L w F' G' L' w') : ∀ {p u}, VRels F G L w p u → VRels F' G' L' w' p u
  | _, _, .nil => .nil
  | _, _, .cons h1 h2 => .cons (VRel.later h h1) (VRels.later h h2)
end

theorem CellsAt.later {F G L w F' G' L' w'} (h : Later F G L w F' G' L' w') {B : Nat} (hB : w'.heap[B]? = w.heap[B]?) : ∀ {o cs}, CellsAt F G L w B o cs → CellsAt F' G' L' w' B o cs
  | _, _, .nil => .nil
  | _, _, .cons h1 h2 h3 h4 => .cons ((cell_of_heap hB).trans h1) h2 (h3.later h) (CellsAt.later h hB h4)
theorem ElemsAt.later {F G L w F' G' L' w'} (h : Later F G L w F' G' L' w') {B s : Nat} (hB : w'.heap[B]? = w.heap[B]?) : ∀ {o cs}, ElemsAt F G L w B s o cs → ElemsAt F' G' L' w' B s o cs
  | _, _, .nil => .nil
  | _, _, .cons h1 h2 h4 h5 => .cons h1 h2 (h4.later h hB) (ElemsAt.later h hB h5)

/-! ### Lists -/
theorem VRels.length {F G L w} : ∀ {ps us}, VRels F G L w ps us → ps.length = us.length
  | _, _, .nil => rfl
  | _, _, .cons _ h => congrArg (· + 1) h.length
theorem VRels.get {F G L w} : ∀ {ps us}, VRels F G L w ps us → ∀ {i : Nat} {p : PV}, ps[i]? = some p → ∃ u, us[i]? = some u ∧ VRel F G L w p u
  | _, _, .nil, i, p, h => by simp at h
  | _, _, .cons h1 h2, 0, p, h => by simp at h; subst h; exact ⟨_, by simp, h1⟩
  | _, _, .cons h1 h2, i + 1, p, h => by simp at h; obtain ⟨u, hu, hr⟩ := h2.get h; exact ⟨u, by simpa using hu, hr⟩
theorem VRels.append {F G L w} : ∀ {ps us qs xs}, VRels F G L w ps us → VRels F G L w qs xs → VRels F G L w (ps ++ qs) (us ++ xs)
  | _, _, _, _, .nil, h => h
  | _, _, _, _, .cons h1 h2, h => .cons h1 (h2.append h)
theorem VRels.take {F G L w} : ∀ {ps us}, VRels F G L w ps us → ∀ n, VRels F G L w (ps.take n) (us.take n)
  | _, _, .nil, n => by simp; exact .nil
  | _, _, .cons h1 h2, 0 => .nil
  | _, _, .cons h1 h2, n + 1 => .cons h1 (h2.take n)
theorem VRels.drop {F G L w} : ∀ {ps us}, VRels F G L w ps us → ∀ n, VRels F G L w (ps.drop n) (us.drop n)
  | _, _, .nil, n => by simp; exact .nil
  | _, _, .cons h1 h2, 0 => .cons h1 h2
  | _, _, .cons h1 h2, n + 1 => h2.drop n
theorem CRels.toV {F G L w} : ∀ {ps us}, CRels F w ps us → VRels F G L w ps us
  | _, _, .nil => .nil
  | _, _, .cons h1 h2 => .cons (.c h1) h2.toV
theorem CRels.length {F w} : ∀ {ps us}, CRels F w ps us → ps.length = us.length
  | _, _, .nil => rfl
  | _, _, .cons _ h => congrArg (· + 1) h.length
theorem CRels.get {F w} : ∀ {ps us}, CRels F w ps us → ∀ {i : Nat} {p : PV}, ps[i]? = some p → ∃ u, us[i]? = some u ∧ CRel F w p u
  | _, _, .nil, i, p, h => by simp at h
  | _, _, .cons h1 h2, 0, p, h => by simp at h; subst h; exact ⟨_, by simp, h1⟩
  | _, _, .cons h1 h2, i + 1, p, h => by simp at h; obtain ⟨u, hu, hr⟩ := h2.get h; exact ⟨u, by simpa using hu, hr⟩

theorem VRel.v_iff {F G L w x u} (h : VRel F G L w (.v x) u) : u = x ∧ x.oneCell' = true := by
  cases h with
  | c h => cases h with | v h => exact ⟨rfl, h⟩
theorem VRel.agg_inv {F G L w cs u} (h : VRel F G L w (.agg cs) u) : ∃ us, u = .agg us.toArray ∧ (∀ c ∈ cs, PV.isCell c = true) ∧ VRels F G L w cs us := by
  cases h with
  | c h => cases h with | agg h1 h2 => exact ⟨_, rfl, h1, h2.toV⟩
  | agg h1 h2 => exact ⟨_, rfl, h1, h2⟩
theorem VRel.tuple_inv {F G L w cs u} (h : VRel F G L w (.tuple cs) u) : ∃ us, u = .tuple us.toArray ∧ VRels F G L w cs us := by
  cases h with
  | c h => cases h with | tuple h2 => exact ⟨_, rfl, h2.toV⟩
  | tuple h2 => exact ⟨_, rfl, h2⟩
theorem VRel.func_inv {F G L w fn fs cs u} (h : VRel F G L w (.func fn fs cs) u) : ∃ us xs, u = .func fn us.toArray xs.toArray ∧ VRels F G L w fs us ∧ VRels F G L w cs xs := by
  cases h with
  | c h => cases h with | func h1 h2 => exact ⟨_, _, rfl, h1.toV, h2.toV⟩
  | func h1 h2 => exact ⟨_, _, rfl, h1, h2⟩

theorem VRel.oneCell {F G L w p u} (h : VRel F G L w p u) (hc : p.isCell = true) : u.oneCell' = true := by
  cases h with
  | c h => cases h <;> first | rfl | (simp [PV.isCell] at hc; done) | (rename_i h; exact h)
  | _ => first | rfl | (simp [PV.isCell] at hc; done)

theorem VRels.oneCell {F G L w} : ∀ {ps us}, VRels F G L w ps us → (∀ c ∈ ps, PV.isCell c = true) → ∀ u ∈ us, u.oneCell' = true
  | _, _, .nil, _, u, hu => by simp at hu
  | _, _, .cons h1 h2, hc, u, hu => by
    rcases List.mem_cons.1 hu with rfl | hu
    · exact h1.oneCell (hc _ (by simp))
    · exact h2.oneCell (fun c hm => hc c (by simp [hm])) u hu
end Go.Ev
end

section
/- The evaluator itself: operations, code, calls; over values that need no world. -/
namespace Go.Ev
open Go

inductive Ty where
  | int (k : IntKind)
  | bool
  | str
  | slice (e : TypeId)
  | array (n : Nat) (e : TypeId)
  | struct (fs : List (Nat × Nat))
  | map (k e : TypeId)
  | plain
  | other

abbrev Res := PV × List (Nat × List PV)

structure Hp where
  G : Nat → Nat
  H : Nat → Blk

structure St where
  t : Nat → PV
  h : Hp

/-- A change of memory: the block, its turn from now on, what it is from now on. -/
abbrev Ups := List (Nat × Nat × Blk)

/-- The kinds of cells that can be compared. -/
inductive EK where
  | int (k : IntKind)
  | bool
  | str

def EK.fits : EK → Value → Bool
  | .int k, .int k' _ => decide (k = k')
  | .bool, .bool _ => true
  | .str, .string _ => true
  | _, _ => false

structure Ctx where
  P : Program
  ty : TypeId → Ty
  size : TypeId → Nat
  bytes : TypeId → Nat
  zero : TypeId → Option (List Value)
  eqOk : TypeId → Option (List EK)
  func : FuncId → Option Func
  callable : FuncId → Bool
  spec : FuncId → Option (List PV → Option Res)
  inl : FuncId → Bool
  bld : TypeId → Bool
  isp : FuncId → Option (Nat → List PV → Hp → Option (PV × Ups))

def upd {α : Type} (f : Nat → α) (i : Nat) (x : α) : Nat → α := fun j => bif Nat.beq j i then x else f j

theorem upd_at {α : Type} (f : Nat → α) (i : Nat) (x : α) (j : Nat) : upd f i x j = if j = i then x else f j := by
  unfold upd
  by_cases h : j = i
  · rw [if_pos h, h, Nat.beq_refl]; rfl
  · rw [if_neg h]
    have : Nat.beq j i = false := by cases hb : Nat.beq j i with | false => rfl | true => exact (h (Nat.eq_of_beq_eq_true hb)).elim
    rw [this]; rfl

/-- Is a block there (in whatever state)? -/
def Blk.alive : Blk → Bool
  | .none | .dead => false
  | _ => true

def Hp.app (h : Hp) : Ups → Hp
  | [] => h
  | (i, g, b) :: r => Hp.app ⟨upd h.G i g, upd h.H i b⟩ r

def idOf (d s k : Nat) : Nat := d * 10000000 + s * 100 + k

def ofValue : Value → PV
  | .agg cs => if cs.toList.all (·.oneCell') then .agg (cs.toList.map .v) else .dead
  | .tuple _ => .dead
  | x => .v x

def opd (t : Nat → PV) : Operand → PV
  | .tmp i => t i
  | .const x => ofValue x
  | .global g => .v (.pointer (some ⟨g, 0, none⟩))
  | .func f => .func (.func f) [] []

def Ctx.isAgg (C : Ctx) (t : TypeId) : Option Bool :=
  match C.ty t with
  | .array _ _ | .struct _ => some true
  | .other => none
  | _ => some false

/-- n cells behind a pointer. -/
def cellsAt (h : Hp) (p : PV) (n : Nat) : Option (List PV) :=
  match p with
  | .ptr i g off =>
    if g = h.G i then
      match h.H i with
      | .var cs | .fvar cs => if off + n ≤ cs.length then some ((cs.drop off).take n) else none
      | _ => none
    else none
  | .rptr i g e s off =>
    if g = h.G i then
      match h.H i with
      | .row s' es | .frow s' es =>
        if s = s' then
          match es[e]? with
          | some x => if off + n ≤ x.cells.length then some ((x.cells.drop off).take n) else none
          | none => none
        else none
      | _ => none
    else none
  | .lptr cs => if n ≤ cs.length then some (cs.take n) else none
  | _ => none

def mkVal (agg : Bool) (cs : List PV) : Option PV :=
  if agg then some (.agg cs) else
  match cs with
  | [c] => some c
  | _ => none

def loadP (C : Ctx) (h : Hp) (t : TypeId) (p : PV) : Option PV :=
  match C.isAgg t with
  | some b =>
    match cellsAt h p (C.size t) with
    | some cs => mkVal b cs
    | none => none
  | none => none

def splice (cs : List PV) (off : Nat) (xs : List PV) : List PV :=
  if off = 0 ∧ xs.length = cs.length then xs else cs.take off ++ (xs ++ cs.drop (off + xs.length))

def reElem (x : PV) (cs : List PV) : PV :=
  match x with
  | .agg _ => .agg cs
  | _ => match cs with
    | [c] => c
    | _ => .dead

/-- The cells of a value that is put into memory. -/
def cellsOf (x : PV) : Option (List PV) :=
  match x with
  | .agg cs => some cs
  | x => if x.isCell then some [x] else none

def storeP (C : Ctx) (h : Hp) (t : TypeId) (p x : PV) : Option Ups :=
  match C.isAgg t, cellsOf x with
  | some _, some xs =>
    if xs.length = C.size t then
      match p with
      | .ptr i g off =>
        if g = h.G i then
          match h.H i with
          | .var cs => if off + xs.length ≤ cs.length then some [(i, g, .var (splice cs off xs))] else none
          | _ => none
        else none
      | .rptr i g e s off =>
        if g = h.G i then
          match h.H i with
          | .row s' es =>
            if s = s' then
              match es[e]? with
              | some x => if off + xs.length ≤ x.cells.length then some [(i, g, .row s (es.set e (reElem x (splice x.cells off xs))))] else none
              | none => none
            else none
          | _ => none
        else none
      | _ => none
    else none
  | _, _ => none

def fillP (place : Nat → Option (Nat × Nat)) (cells : List PV) : List (Nat × PV) → Option (List PV)
  | [] => some cells
  | (i, x) :: rest =>
    match place i, cellsOf x with
    | some (off, size), some xs => if xs.length = size ∧ off + size ≤ cells.length then fillP place (splice cells off xs) rest else none
    | _, _ => none

def buildP (C : Ctx) (t : TypeId) (parts : List (Nat × PV)) : Option PV :=
  match C.zero t with
  | some zs =>
    match C.ty t with
    | .struct fs =>
      match fillP (fun i => fs[i]?) (zs.map .v) parts with
      | some cs => some (.agg cs)
      | none => none
    | .array _ e =>
      match C.isAgg e with
      | some _ =>
        match fillP (fun i => some (i * C.size e, C.size e)) (zs.map .v) parts with
        | some cs => some (.agg cs)
        | none => none
      | none => none
    | _ => none
  | none => none

def zeroElem (C : Ctx) (e : TypeId) : Option PV :=
  match C.isAgg e, C.zero e with
  | some b, some zs => if zs.length = C.size e then mkVal b (zs.map .v) else none
  | _, _ => none

def setParts (C : Ctx) (e : TypeId) (b : Bool) (es : List PV) : List (Nat × PV) → Option (List PV)
  | [] => some es
  | (i, x) :: rest =>
    match cellsOf x with
    | some xs =>
      if xs.length = C.size e ∧ i < es.length then
        match mkVal b xs with
        | some y => setParts C e b (es.set i y) rest
        | none => none
      else none
    | none => none

def buildSliceP (C : Ctx) (id g : Nat) (t : TypeId) (len : Nat) (parts : List (Nat × PV)) : Option (PV × Ups) :=
  match C.ty t with
  | .slice e =>
    match C.isAgg e, zeroElem C e with
    | some b, some z =>
      if len * C.size e ≤ 16777216 ∧ 0 < C.size e then
        match setParts C e b (List.replicate len z) parts with
        | some es => some (.row id (g + 1) 0 len (C.size e), [(id, g + 1, .row (C.size e) es)])
        | none => none
      else none
    | _, _ => none
  | _ => none

def fieldP (C : Ctx) (s : TypeId) (p : PV) (f : Nat) : Option PV :=
  match C.ty s with
  | .struct fs =>
    match fs[f]? with
    | some (off, size) =>
      if size = 0 then none else
      match p with
      | .ptr i g o => some (.ptr i g (o + off))
      | .rptr i g e s o => some (.rptr i g e s (o + off))
      | .lptr cs => if off ≤ cs.length then some (.lptr (cs.drop off)) else none
      | _ => none
    | none => none
  | _ => none

def intP : PV → Option Int
  | .v (.int _ n) => some n
  | _ => none

def indexAddrP (C : Ctx) (h : Hp) (t : TypeId) (x ix : PV) : Option PV :=
  match intP ix with
  | some n =>
    match C.ty t with
    | .array len e =>
      match C.isAgg e with
      | some _ =>
        if 0 ≤ n ∧ n < len then
          match x with
          | .ptr i g o => some (.ptr i g (o + n.toNat * C.size e))
          | .rptr i g el s o => some (.rptr i g el s (o + n.toNat * C.size e))
          | .lptr cs => if n.toNat * C.size e ≤ cs.length then some (.lptr (cs.drop (n.toNat * C.size e))) else none
          | _ => none
        else none
      | none => none
    | .slice e =>
      match C.isAgg e with
      | some _ =>
        match x with
        | .lst es =>
          if 0 ≤ n then
            match es[n.toNat]? with
            | some y => if y.cells.length = C.size e then some (.lptr y.cells) else none
            | none => none
          else none
        | .row i g lo len s => if 0 ≤ n ∧ n < len ∧ s = C.size e ∧ g = h.G i ∧ (h.H i).alive = true then some (.rptr i g (lo + n.toNat) s 0) else none
        | .asl i g off len s => if 0 ≤ n ∧ n < len ∧ s = C.size e ∧ g = h.G i ∧ (h.H i).alive = true then some (.ptr i g (off + n.toNat * s)) else none
        | _ => none
      | none => none
    | _ => none
  | none => none

def indexP (C : Ctx) (t : TypeId) (x ix : PV) : Option PV :=
  match intP ix with
  | some n =>
    match C.ty t, x with
    | .array len e, .agg cs =>
      match C.isAgg e with
      | some b => if 0 ≤ n ∧ n < len ∧ n.toNat * C.size e + C.size e ≤ cs.length then mkVal b ((cs.drop (n.toNat * C.size e)).take (C.size e)) else none
      | none => none
    | .str, .v (.string s) =>
      if 0 ≤ n then
        match s[n.toNat]? with
        | some b => some (.v (.int .u8 b.toNat))
        | none => none
      else none
    | _, _ => none
  | none => none

/-- A bound of a slice expression: given, or not. -/
def boundP (x : Option PV) (dflt : Nat) : Option Nat :=
  match x with
  | none => some dflt
  | some y =>
    match intP y with
    | some n => if 0 ≤ n then some n.toNat else none
    | none => none

def sliceP (C : Ctx) (hp : Hp) (id g : Nat) (t : TypeId) (x : PV) (lo hi mx : Option PV) : Option (PV × Ups) :=
  match mx with
  | some m =>
    match intP m, boundP hi 1, boundP lo 0, C.ty t with
    | some 0, some 0, some 0, .slice e =>
      match C.isAgg e, x with
      | some _, .lst _ | some _, .row _ _ _ _ _ => some (.row id (g + 1) 0 0 (C.size e), [(id, g + 1, .row (C.size e) [])])
      | some _, .v (.slice none 0 0) => some (.row id (g + 1) 0 0 (C.size e), [(id, g + 1, .row (C.size e) [])])
      | _, _ => none
    | _, _, _, _ => none
  | none =>
    match C.ty t, x with
    | .str, .v (.string s) =>
      match boundP lo 0, boundP hi s.size with
      | some l, some h => if l ≤ h ∧ h ≤ s.size then some (.v (.string (s.extract l h)), []) else none
      | _, _ => none
    | .slice e, .lst es =>
      match C.isAgg e, boundP lo 0, boundP hi es.length with
      | some _, some l, some h => if l ≤ h ∧ h ≤ es.length ∧ (∀ y ∈ es.head?, y.cells.length = C.size e) then some (.lst ((es.take h).drop l), []) else none
      | _, _, _ => none
    | .slice e, .row i g lo0 len s =>
      match C.isAgg e, boundP lo 0, boundP hi len with
      | some _, some l, some h => if l ≤ h ∧ h ≤ len ∧ s = C.size e ∧ g = hp.G i ∧ (hp.H i).alive = true then some (.row i g (lo0 + l) (h - l) s, []) else none
      | _, _, _ => none
    | .slice e, .asl i g off len s =>
      match C.isAgg e, boundP lo 0, boundP hi len with
      | some _, some l, some h => if l ≤ h ∧ h ≤ len ∧ s = C.size e ∧ g = hp.G i ∧ (hp.H i).alive = true then some (.asl i g (off + l * s) (h - l) s, []) else none
      | _, _, _ => none
    | .slice e, .v (.slice none 0 0) =>
      match C.isAgg e, boundP lo 0, boundP hi 0 with
      | some _, some 0, some 0 => some (.v (.slice none 0 0), [])
      | _, _, _ => none
    | .array n e, .ptr i g off =>
      match C.isAgg e, boundP lo 0, boundP hi n with
      | some _, some l, some h => if l ≤ h ∧ h ≤ n then some (.asl i g (off + l * C.size e) (h - l) (C.size e), []) else none
      | _, _, _ => none
    | _, _ => none

/-- How long; what a slice's elements are; the elements that a row of cells makes. -/
def lenP (C : Ctx) (h : Hp) (t : TypeId) (x : PV) : Option Nat :=
  match C.ty t, x with
  | .str, .v (.string s) => some s.size
  | .slice _, .lst es => some es.length
  | .slice _, .row _ _ _ len _ => some len
  | .slice _, .asl _ _ _ len _ => some len
  | .slice _, .v (.slice none 0 0) => some 0
  | .array n _, _ => some n
  | .map _ _, .v (.map none) => some 0
  | .map _ _, .map i g =>
    if g = h.G i then
      match h.H i with
      | .map ks _ | .fzmap ks _ => some ks.length
      | _ => none
    else none
  | .map _ _, .fmap ks _ => some ks.length
  | _, _ => none

def chunk (s : Nat) (b : Bool) : Nat → List PV → Option (List PV)
  | 0, _ => some []
  | n + 1, cs =>
    if s ≤ cs.length then
      match mkVal b (cs.take s), chunk s b n (cs.drop s) with
      | some e, some es => some (e :: es)
      | _, _ => none
    else none

def byteP (b : UInt8) : PV := .v (.int .u8 b.toNat)

/-- The elements of a slice (or the bytes of a string), of size s. -/
def elemsP (h : Hp) (b : Bool) (s : Nat) (x : PV) : Option (List PV) :=
  match x with
  | .lst es => if ∀ y ∈ es.head?, y.cells.length = s then some es else none
  | .row i g lo len s' =>
    if len = 0 then some [] else
    if g = h.G i ∧ s' = s then
      match h.H i with
      | .row s2 es | .frow s2 es => if s2 = s ∧ lo + len ≤ es.length then some ((es.drop lo).take len) else none
      | _ => none
    else none
  | .asl i g off len s' =>
    if len = 0 then some [] else
    if g = h.G i ∧ s' = s then
      match h.H i with
      | .var cs | .fvar cs => chunk s b len (cs.drop off)
      | _ => none
    else none
  | .v (.slice none 0 0) => some []
  | .v (.string str) => if s = 1 ∧ b = false then some (str.data.toList.map byteP) else none
  | _ => none

def appendP (C : Ctx) (h : Hp) (id : Nat) (t : TypeId) (ty2 : Ty) (x y : PV) : Option (PV × Ups) :=
  match C.ty t, ty2 with
  | .slice _, .int _ => none
  | .slice _, .other => none
  | .slice e, _ =>
    match C.isAgg e with
    | some b =>
      match elemsP h b (C.size e) y with
      | some ns =>
        match x with
        | .v (.slice none 0 0) =>
          if ns.length * C.bytes e ≤ 140737488355328 ∧ 0 < C.bytes e ∧ (C.zero e).isSome then
            some (.row id (h.G id + 1) 0 ns.length (C.size e), [(id, h.G id + 1, .row (C.size e) ns)]) else none
        | .row i g 0 len s =>
          if g = h.G i ∧ s = C.size e then
            match h.H i with
            | .row s2 es =>
              if s2 = s ∧ len ≤ es.length ∧ (len + ns.length) * C.bytes e ≤ 140737488355328 ∧ 0 < C.bytes e ∧ (C.zero e).isSome then
                some (.row id ((upd h.G i g) id + 1) 0 (len + ns.length) s, [(i, g, .dead), (id, (upd h.G i g) id + 1, .row s (es.take len ++ ns))]) else none
            | _ => none
          else none
        | _ => none
      | none => none
    | none => none
  | _, _ => none

def copyP (C : Ctx) (h : Hp) (t : TypeId) (x y : PV) : Option (PV × Ups) :=
  match C.ty t with
  | .slice e =>
    match C.isAgg e with
    | some b =>
      match elemsP h b (C.size e) y with
      | some ns =>
        match x with
        | .v (.slice none 0 0) => some (.v (.int .i64 0), [])
        | .row i g lo len s =>
          if g = h.G i ∧ s = C.size e then
            match h.H i with
            | .row s2 es => if s2 = s ∧ lo + len ≤ es.length then
                some (.v (.int .i64 (min ns.length len : Nat)), [(i, g, .row s (es.take lo ++ (ns.take len ++ es.drop (lo + min ns.length len))))]) else none
            | _ => none
          else none
        | .asl i g off len s =>
          if g = h.G i ∧ s = C.size e then
            match h.H i with
            | .var cs => if off + min ns.length len * s ≤ cs.length then
                some (.v (.int .i64 (min ns.length len : Nat)), [(i, g, .var (splice cs off ((ns.take len).flatMap PV.cells)))]) else none
            | _ => none
          else none
        | _ => none
      | none => none
    | none => none
  | _ => none

def makeSliceP (C : Ctx) (id g : Nat) (t : TypeId) (l c : PV) : Option (PV × Ups) :=
  match C.ty t, intP l, intP c with
  | .slice e, some l, some c =>
    match C.isAgg e, zeroElem C e with
    | some _, some z =>
      if 0 ≤ l ∧ l ≤ c ∧ C.bytes e * c ≤ 281474976710656 ∧ c ≤ 9223372036854775807 ∧ 0 < C.size e then
        some (.row id (g + 1) 0 l.toNat (C.size e), [(id, g + 1, .row (C.size e) (List.replicate l.toNat z))]) else none
    | _, _ => none
  | _, _, _ => none

def bytesOf : List PV → Option (List UInt8)
  | [] => some []
  | .v (.int .u8 n) :: r => (bytesOf r).map (UInt8.ofNat n.toNat :: ·)
  | _ => none

def convP (C : Ctx) (h : Hp) (id g : Nat) (src dst : TypeId) (x : PV) : Option (PV × Ups) :=
  match C.ty src, C.ty dst, x with
  | .int _, .int k, .v (.int _ n) => some (.v (.int k (k.wrap n)), [])
  | .str, .str, .v (.string s) => some (.v (.string s), [])
  | .str, .slice e, .v (.string s) =>
    match C.ty e with
    | .int .u8 => if C.size e = 1 ∧ s.size ≤ 9223372036854775807 then some (.row id (g + 1) 0 s.size 1, [(id, g + 1, .row 1 (s.data.toList.map byteP))]) else none
    | _ => none
  | .slice e, .str, x =>
    match C.ty e with
    | .int .u8 =>
      if C.size e = 1 then
        match elemsP h false 1 x with
        | some es => match bytesOf es with
          | some bs => match x with
            | .v (.string _) => none
            | _ => some (.v (.string ⟨bs.toArray⟩), [])
          | none => none
        | none => none
      else none
    | _ => none
  | _, _, _ => none

def intArith (op : BinOp) (k : IntKind) (a b : Int) : Option Value :=
  match op with
  | .add => some (.int k (k.wrap (a + b)))
  | .sub => some (.int k (k.wrap (a - b)))
  | .mul => some (.int k (k.wrap (a * b)))
  | .quo => if b = 0 then none else some (.int k (k.wrap (a.tdiv b)))
  | .rem => if b = 0 then none else some (.int k (a.tmod b))
  | .and => some (.int k (k.wrap (BitVec.ofInt k.bits a &&& BitVec.ofInt k.bits b).toNat))
  | .or => some (.int k (k.wrap (BitVec.ofInt k.bits a ||| BitVec.ofInt k.bits b).toNat))
  | .xor => some (.int k (k.wrap (BitVec.ofInt k.bits a ^^^ BitVec.ofInt k.bits b).toNat))
  | .andNot => some (.int k (k.wrap (BitVec.ofInt k.bits a &&& ~~~BitVec.ofInt k.bits b).toNat))
  | .eql => some (.bool (a == b))
  | .neq => some (.bool (a != b))
  | .lss => some (.bool (a < b))
  | .leq => some (.bool (a ≤ b))
  | .gtr => some (.bool (a > b))
  | .geq => some (.bool (a ≥ b))
  | _ => none

def shiftI (op : BinOp) (k : IntKind) (a b : Int) : Option Value :=
  if b < 0 then none else
  match op with
  | .shl => some (.int k (k.wrap (a * 2 ^ (min b.toNat k.bits))))
  | .shr => some (.int k (a.fdiv (2 ^ (min b.toNat k.bits))))
  | _ => none

def strOp (op : BinOp) (x y : ByteArray) : Option Value :=
  match op with
  | .add => if x.size + y.size ≤ 9223372036854775807 then some (.string (x ++ y)) else none
  | .eql => some (.bool (x.toList == y.toList))
  | .neq => some (.bool !(x.toList == y.toList))
  | .lss => some (.bool (Op.bytesLess x.toList y.toList))
  | .leq => some (.bool (Op.bytesLess x.toList y.toList || x.toList == y.toList))
  | .gtr => some (.bool !(Op.bytesLess x.toList y.toList || x.toList == y.toList))
  | .geq => some (.bool !(Op.bytesLess x.toList y.toList))
  | _ => none

/-- Plain values of one cell: equal or not (whole numbers of one kind, bools, strings). -/
def eqV : Value → Value → Option Bool
  | .int k a, .int k' b => if k = k' then some (a == b) else none
  | .bool a, .bool b => some (a == b)
  | .string a, .string b => some (a == b)
  | _, _ => none

def eqCells : List EK → List PV → List PV → Option Bool
  | [], [], [] => some true
  | k :: ks, .v a :: r, .v b :: s =>
    if (k.fits a && k.fits b) = true then
      match eqV a b, eqCells ks r s with
      | some x, some y => some (x && y)
      | _, _ => none
    else none
  | _, _, _ => none

/-- Is a slice nil, where one sees it? -/
def isNil : PV → Option Bool
  | .v (.slice none _ _) => some true
  | .v (.slice (some _) _ _) => some false
  | .lst (_ :: _) => some false
  | _ => none

def binP (C : Ctx) (op : BinOp) (t : TypeId) (x y : PV) : Option PV :=
  match x, y with
  | .v (.int k a), .v (.int k' b) =>
    match op with
    | .shl | .shr => (shiftI op k a b).map .v
    | _ => if k = k' then (intArith op k a b).map .v else none
  | .v (.string a), .v (.string b) => (strOp op a b).map .v
  | .v (.bool a), .v (.bool b) =>
    match op, C.ty t with
    | .eql, .bool => some (.v (.bool (a == b)))
    | .neq, .bool => some (.v (.bool !(a == b)))
    | _, _ => none
  | .agg cs, .agg ds =>
    match C.eqOk t with
    | some ks =>
      match op, eqCells ks cs ds with
      | .eql, some b => some (.v (.bool b))
      | .neq, some b => some (.v (.bool !b))
      | _, _ => none
    | none => none
  | x, y =>
    match C.ty t, isNil x, isNil y, op with
    | .slice _, some a, some b, .eql => if (a || b) = true then some (.v (.bool (a && b))) else none
    | .slice _, some a, some b, .neq => if (a || b) = true then some (.v (.bool !(a && b))) else none
    | _, _, _, _ => none

def unP (op : UnOp) (x : PV) : Option PV :=
  match op, x with
  | .not, .v (.bool b) => some (.v (.bool !b))
  | .neg, .v (.int k n) => some (.v (.int k (k.wrap (0 - n))))
  | .xor, .v (.int k n) => (intArith .xor k (if k.signed then -1 else k.max) n).map .v
  | _, _ => none

/-- Where a key stands; keys are whole numbers, bools, strings. -/
def findP (k : Value) : List Value → Nat → Option (Option Nat)
  | [], _ => some none
  | e :: es, i =>
    match eqV k e with
    | some true => some (some i)
    | some false => findP k es (i + 1)
    | none => none

def Ctx.keyOk (C : Ctx) (kt : TypeId) (k : Value) : Bool :=
  match C.ty kt, k with
  | .int k, .int k' _ => decide (k' = k)
  | .str, .string _ => true
  | _, _ => false

/-- What a map has. -/
def foundP (h : Hp) (m : PV) : Option (List Value × List PV) :=
  match m with
  | .v (.map none) => some ([], [])
  | .map i g => if g = h.G i then (match h.H i with | .map ks vs | .fzmap ks vs => some (ks, vs) | _ => none) else none
  | .fmap ks vs => some (ks, vs)
  | _ => none

def lookupP (C : Ctx) (h : Hp) (t : TypeId) (m k : PV) (ok : Bool) : Option PV :=
  match C.ty t, k with
  | .map kt et, .v key =>
    if C.keyOk kt key then
      match foundP h m with
      | some (ks, vs) =>
        match findP key ks 0, zeroElem C et with
        | some (some i), _ => match vs[i]? with
          | some x => some (if ok then .tuple [x, .v (.bool true)] else x)
          | none => none
        | some none, some z => some (if ok then .tuple [z, .v (.bool false)] else z)
        | _, _ => none
      | none => none
    else none
  | _, _ => none

def mapUpdP (C : Ctx) (h : Hp) (t : TypeId) (m k x : PV) : Option Ups :=
  match C.ty t, k, m with
  | .map kt _, .v key, .map i g =>
    if C.keyOk kt key ∧ g = h.G i then
      match h.H i with
      | .map ks vs =>
        match findP key ks 0 with
        | some (some j) => some [(i, g, .map ks (vs.set j x))]
        | some none => some [(i, g, .map (ks ++ [key]) (vs ++ [x]))]
        | none => none
      | _ => none
    else none
  | _, _, _ => none

def nilCheckP (x : PV) : Option PV :=
  match x with
  | .v (.pointer (some a)) => some (.v (.pointer (some a)))
  | .ptr i g o => some (.ptr i g o)
  | .rptr i g e s o => some (.rptr i g e s o)
  | .lptr cs => some (.lptr cs)
  | .func (.func f) fs cs => some (.func (.func f) fs cs)
  | _ => none

/-- What a new variable's block is: a builder's (two cells: nobody's address, no buffer), or any. -/
def newBlk (C : Ctx) (t : TypeId) (zs : List Value) : Blk :=
  match zs with
  | [.pointer none, .slice none 0 0] => if C.bld t then .bld t none else .var (zs.map .v)
  | _ => .var (zs.map .v)

/-- An operation that is no call of a Go function. -/
def evalOp (C : Ctx) (dp : Nat) (o : Oper) (st : St) : Option (PV × Ups) :=
  let ρ := opd st.t
  let id := idOf dp (o.dst.getD 99999) 0
  let g := st.h.G id
  let only (x : Option PV) : Option (PV × Ups) := match x with | some y => some (y, []) | none => none
  let unit (u : Option Ups) : Option (PV × Ups) := match u with | some y => some (.dead, y) | none => none
  match o.op with
  | .move x | .assign x => some (ρ x, [])
  | .pick c a b => match ρ c with
    | .v (.bool true) => some (ρ a, [])
    | .v (.bool false) => some (ρ b, [])
    | _ => none
  | .alloc t => match C.zero t with
    | some zs => some (.ptr id (g + 1) 0, [(id, g + 1, newBlk C t zs)])
    | none => none
  | .box _ x => match cellsOf (ρ x) with
    | some cs => some (.ptr id (g + 1) 0, [(id, g + 1, .var cs)])
    | none => none
  | .build t parts => only (buildP C t (parts.toList.map fun (i, x) => (i, ρ x)))
  | .buildSlice t len parts => buildSliceP C id g t len (parts.toList.map fun (i, x) => (i, ρ x))
  | .load t a => only (loadP C st.h t (ρ a))
  | .store t a x => unit (storeP C st.h t (ρ a) (ρ x))
  | .nilCheck x => only (nilCheckP (ρ x))
  | .binOp op t x y _ => only (binP C op t (ρ x) (ρ y))
  | .unOp op _ x => only (unP op (ρ x))
  | .convert src dst x => convP C st.h id g src dst (ρ x)
  | .makeInterface t x => match C.ty t with
    | .other => none
    | _ => some (.iface t (ρ x), [])
  | .makeFunc fn first captured => some (.func fn (first.toList.map ρ) (captured.toList.map ρ), [])
  | .makeMap t none => match C.ty t with
    | .map _ _ => some (.map id (g + 1), [(id, g + 1, .map [] [])])
    | _ => none
  | .makeSlice t l c => makeSliceP C id g t (ρ l) (ρ c)
  | .slice t x lo hi mx => sliceP C st.h id g t (ρ x) (lo.map ρ) (hi.map ρ) (mx.map ρ)
  | .fieldAddr s x f => only (fieldP C s (ρ x) f)
  | .indexAddr t x ix => only (indexAddrP C st.h t (ρ x) (ρ ix))
  | .index t x ix => only (indexP C t (ρ x) (ρ ix))
  | .lookup t x ix ok => only (lookupP C st.h t (ρ x) (ρ ix) ok)
  | .mapUpdate t m k x | .insert t m k x => unit (mapUpdP C st.h t (ρ m) (ρ k) (ρ x))
  | .extract x ix => match ρ x with
    | .tuple vs => only vs[ix]?
    | _ => none
  | .call { callee := .builtin .len, args, argTypes } => match args.toList, argTypes[0]? with
    | [x], some t => match lenP C st.h t (ρ x) with
      | some n => some (.v (.int .i64 n), [])
      | none => none
    | _, _ => none
  | .call { callee := .builtin .append, args, argTypes } => match args.toList, argTypes[0]?, argTypes[1]? with
    | [x, y], some t, some t2 => appendP C st.h id t (C.ty t2) (ρ x) (ρ y)
    | _, _, _ => none
  | .call { callee := .builtin .copy, args, argTypes } => match args.toList, argTypes[0]? with
    | [x, y], some t => copyP C st.h t (ρ x) (ρ y)
    | _, _ => none
  | .call { callee := .builtin .min, args, .. } => match args.toList with
    | [x, y] => match ρ x, ρ y with
      | .v (.int k a), .v (.int _ b) => some (.v (.int k (if b < a then b else a)), [])
      | _, _ => none
    | _ => none
  | .call { callee := .builtin .max, args, .. } => match args.toList with
    | [x, y] => match ρ x, ρ y with
      | .v (.int k a), .v (.int _ b) => some (.v (.int k (if b > a then b else a)), [])
      | _, _ => none
    | _ => none
  | _ => none
end Go.Ev
end

section
/- The evaluator's memory against the model's: what one step does, and what stays. -/
namespace Go.Ev
open Go

def TyOk (P : Program) (t : TypeId) : Ty → Prop
  | .int k => P.underlying t = some (.int k)
  | .bool => P.underlying t = some .bool
  | .str => P.underlying t = some .string
  | .slice e => P.underlying t = some (.slice e)
  | .array n e => P.underlying t = some (.array n e)
  | .struct fs => ∃ fields : Array Field, P.underlying t = some (.struct fields) ∧ fs.length = fields.size ∧ ∀ (j : Nat) f, fields[j]? = some f → ∃ i, P.info? f.type = some i ∧ fs[j]? = some (f.offset, i.size)
  | .map k e => P.underlying t = some (.map k e)
  | .plain => ∃ d, P.underlying t = some d ∧ (match d with | .struct _ | .array _ _ | .interface _ | .int _ | .string | .bool | .slice _ | .map _ _ => false | _ => true) = true
  | .other => True

/-- h' has all that h has. -/
def Le (h h' : Hp) : Prop := ∀ k, (h.H k).alive = false ∨ (h.G k = h'.G k ∧ h.H k = h'.H k)

/-- A block of the call's own that lives. -/
def Own (h : Hp) (L : Nat → Option Nat) (B : Nat) : Prop := ∃ i, (h.H i).live = true ∧ L i = some B

structure HRel (F : Nat → Prop) (L : Nat → Option Nat) (w : World) (h : Hp) : Prop where
  ok : ∀ i, BRel F h.G L w (h.H i) (L i)
  inj : ∀ i j B, (h.H i).live = true → (h.H j).live = true → L i = some B → L j = some B → i = j
  flt : ∀ B, F B → B < w.heap.size

/-- What one step, or many, may do. -/
structure Step (F : Nat → Prop) (L : Nat → Option Nat) (w : World) (h : Hp) (F' : Nat → Prop) (L' : Nat → Option Nat) (w' : World) (h' : Hp) : Prop extends Later F h.G L w F' h'.G L' w' where
  os : w'.os = w.os
  tape : w'.tape = w.tape
  output : w'.output = w.output
  size : w.heap.size ≤ w'.heap.size
  keep : ∀ B, B < w.heap.size → ¬ Own h L B → w'.heap[B]? = w.heap[B]?
  own : ∀ B, Own h' L' B → Own h L B ∨ w.heap.size ≤ B
  fro : ∀ B, F' B → F B ∨ Own h L B ∨ w.heap.size ≤ B

/-- A function that the evaluator does by a rule of its own, told what it changes. -/
structure IspOk (P : Program) (f : FuncId) (Fn : Nat → List PV → Hp → Option (PV × Ups)) : Prop where
  sound : ∀ id as h r ups, Fn id as h = some (r, ups) → ∀ F L w us, HRel F L w h → VRels F h.G L w as us →
    Calls P f us.toArray w (fun e w' => ∃ v F' L', e = .returned v ∧ HRel F' L' w' (h.app ups) ∧ Step F L w h F' L' w' (h.app ups) ∧ VRel F' (h.app ups).G L' w' r v)
  mono : ∀ id as h h' r ups, Le h h' → (∀ k, id ≤ k → k < id + 100 → h.G k = h'.G k) → Fn id as h = some (r, ups) → Fn id as h' = some (r, ups)

structure TablesOk (C : Ctx) : Prop where
  mixed : C.P.follows .mixedOrders = true
  ty : ∀ t, TyOk C.P t (C.ty t)
  info : ∀ t b, C.isAgg t = some b → ∃ i, C.P.info? t = some i ∧ i.size = C.size t ∧ i.bytes = C.bytes t ∧ (b = false → C.size t = 1)
  zero : ∀ t zs, C.zero t = some zs → ∃ b z i, C.isAgg t = some b ∧ zs.length = C.size t ∧ (∀ u ∈ zs, u.oneCell' = true) ∧ C.P.info? t = some i ∧ i.zero = some z ∧ (if b then z = .agg zs.toArray else zs = [z])
  func : ∀ f fn, C.func f = some fn → C.P.funcs[f]? = some fn
  callable : ∀ f, C.callable f = true → ∃ fn, C.P.funcs[f]? = some fn ∧ fn.body.isNone = false ∧ (fn.name == "runtime.NumGoroutine") = false
  eq : ∀ t ks (cs ds : List PV) b, C.eqOk t = some ks → eqCells ks cs ds = some b → ∀ (us xs : List Value) (w : World), cs = us.map PV.v → ds = xs.map PV.v → ∀ op, (op = .eql ∨ op = .neq) → ∀ (x y : Operand),
    (eqGuard op t x y (.agg us.toArray) (.agg xs.toArray)).run C.P w = .ok () w ∧ (Op.equal t (.agg us.toArray) (.agg xs.toArray)).run C.P w = .ok b w
  isp : ∀ f Fn, C.isp f = some Fn → IspOk C.P f Fn

theorem Step.refl (F : Nat → Prop) (L : Nat → Option Nat) (w : World) (h : Hp) : Step F L w h F L w h :=
  { Later.refl F h.G L w with os := rfl, tape := rfl, output := rfl, size := Nat.le_refl _, keep := fun _ _ _ => rfl, own := fun _ h => .inl h, fro := fun _ h => .inl h }

theorem Step.trans {F L w h F1 L1 w1 h1 F2 L2 w2 h2} (a : Step F L w h F1 L1 w1 h1) (b : Step F1 L1 w1 h1 F2 L2 w2 h2) : Step F L w h F2 L2 w2 h2 :=
  { a.toLater.trans b.toLater with
    os := b.os.trans a.os, tape := b.tape.trans a.tape, output := b.output.trans a.output, size := Nat.le_trans a.size b.size
    keep := fun B hB hn => (b.keep B (Nat.lt_of_lt_of_le hB a.size) (fun ho => by rcases a.own B ho with h | h; exact hn h; omega)).trans (a.keep B hB hn)
    own := fun B ho => by
      rcases b.own B ho with h | h
      · exact a.own B h
      · exact .inr (Nat.le_trans a.size h)
    fro := fun B hF => by
      rcases b.fro B hF with h | h | h
      · exact a.fro B h
      · rcases a.own B h with h | h
        · exact .inr (.inl h)
        · exact .inr (.inr h)
      · exact .inr (.inr (Nat.le_trans a.size h)) }

theorem BRel.live_not {F G L w b B} (h : BRel F G L w b (some B)) (hl : b.live = true) : ¬ F B := by
  cases h <;> first | assumption | (simp [Blk.live] at hl; done)

theorem BRel.lt {F G L w b B} (h : BRel F G L w b (some B)) (hl : b.live = true) : B < w.heap.size := by
  have aux : ∀ {o}, w.heap[B]? = some o → B < w.heap.size := fun h => (Array.getElem?_eq_some_iff.1 h).1
  cases h with
  | var _ h => obtain ⟨arr, T, fr, h, _⟩ := h; exact aux h
  | row _ h => obtain ⟨arr, T, fr, h, _⟩ := h; exact aux h
  | map _ h => exact aux h
  | loop _ h => exact aux h
  | bld _ h => exact aux h
  | bytes _ h => exact aux h
  | _ => simp [Blk.live] at hl

theorem Own.not_F {F L w h B} (hr : HRel F L w h) (ho : Own h L B) : ¬ F B := by
  obtain ⟨i, hl, hi⟩ := ho
  exact BRel.live_not (hi ▸ hr.ok i) hl

theorem Own.lt {F L w h B} (hr : HRel F L w h) (ho : Own h L B) : B < w.heap.size := by
  obtain ⟨i, hl, hi⟩ := ho
  exact BRel.lt (hi ▸ hr.ok i) hl

theorem Free.later {w w' : World} {B n} (h : Free w B n) (hB : w'.heap[B]? = w.heap[B]?) : Free w' B n := by
  obtain ⟨arr, T, fr, h1, h2⟩ := h
  exact ⟨arr, T, fr, hB.trans h1, h2⟩

theorem BufIs.later {F G L w F' G' L' w'} (h : Later F G L w F' G' L' w') {buf : Option (Nat × Nat × Nat)} {v : Value} (hb : BufIs G L w buf v) : BufIs G' L' w' buf v := by
  cases buf with
  | none => exact hb
  | some x =>
    obtain ⟨j, g, n⟩ := x
    obtain ⟨h1, h2⟩ := hb
    refine ⟨h.turn h1, fun he => ?_⟩
    obtain ⟨e1, e2⟩ := h.now h1 he
    obtain ⟨C, E, cap, a0, a1, a2, a3⟩ := h2 e1
    exact ⟨C, E, cap, e2.trans a0, h.sh _ _ _ a1, a2, a3⟩

/-- A block's relation stays, where it does. -/
theorem BRel.later {F G L w F' G' L' w'} (h : Later F G L w F' G' L' w') {b : Blk} {x : Option Nat} (hB : b.live = true → ∀ B, x = some B → w'.heap[B]? = w.heap[B]? ∧ (¬ F B → ¬ F' B)) (hr : BRel F G L w b x) : BRel F' G' L' w' b x := by
  cases hr with
  | none => exact .none
  | dead => exact .dead
  | var h1 h2 h3 => obtain ⟨e, f⟩ := hB rfl _ rfl; exact .var (f h1) (h2.later e) (h3.later h e)
  | rowNone => exact .rowNone
  | row h1 h2 h3 => obtain ⟨e, f⟩ := hB rfl _ rfl; exact .row (f h1) (h2.later e) (h3.later h e)
  | fvar h1 h2 => exact .fvar (h.fr _ h1) (h2.later h (h.hp _ h1))
  | frowNone => exact .frowNone
  | frow h1 h2 => exact .frow (h.fr _ h1) (h2.later h (h.hp _ h1))
  | map h1 h2 h3 h4 => obtain ⟨e, f⟩ := hB rfl _ rfl; exact .map (f h1) (e.trans h2) h3 (h4.later h)
  | fzmap h1 h2 h3 h4 => exact .fzmap (h.fr _ h1) ((h.hp _ h1).trans h2) h3 (h4.later h)
  | bld h1 h2 h3 h4 => obtain ⟨e, f⟩ := hB rfl _ rfl; exact .bld (f h1) (e.trans h2) h3 (h4.later h)
  | bytes h1 h2 h3 h4 h5 => obtain ⟨e, f⟩ := hB rfl _ rfl; exact .bytes (f h1) (e.trans h2) h3 h4 h5
  | loop h1 h2 h3 h4 h5 h6 h7 h8 => obtain ⟨e, f⟩ := hB rfl _ rfl; exact .loop (f h1) (e.trans h2) h3 h4 h5 h6 h7 (fun i => (h8 i).later h)

theorem upd_same {α : Type} (f : Nat → α) (i : Nat) (x : α) : upd f i x i = x := by simp [upd_at]
theorem upd_other {α : Type} (f : Nat → α) {i j : Nat} (x : α) (h : j ≠ i) : upd f i x j = f j := by simp [upd_at, h]
theorem upd_id {α : Type} (f : Nat → α) (i : Nat) (x : α) (h : f i = x) : upd f i x = f := by
  funext j; rw [upd_at]; split
  · next e => rw [e, h]
  · rfl

theorem shape_of_heap {w w' : World} {B : Nat} (h : w'.heap[B]? = w.heap[B]?) : w'.shape? B = w.shape? B := by simp only [World.shape?, h]

theorem shape_lt {w : World} {B T n} (h : w.shape? B = some (T, n)) : B < w.heap.size := by
  rcases Nat.lt_or_ge B w.heap.size with h' | h'
  · exact h'
  · simp [World.shape?, Array.getElem?_eq_none h'] at h

/-- A new block of the call's own. -/
theorem step_new {F L w h} (hr : HRel F L w h) {w' : World} {o : Obj} (hh : w'.heap = w.heap.push o) (h1 : w'.os = w.os) (h2 : w'.tape = w.tape) (h3 : w'.output = w.output)
    (i : Nat) (b : Blk) (hb : Later F h.G L w F (upd h.G i (h.G i + 1)) (upd L i (some w.heap.size)) w' → ¬ F w.heap.size → BRel F (upd h.G i (h.G i + 1)) (upd L i (some w.heap.size)) w' b (some w.heap.size)) :
    HRel F (upd L i (some w.heap.size)) w' (h.app [(i, h.G i + 1, b)]) ∧ Step F L w h F (upd L i (some w.heap.size)) w' (h.app [(i, h.G i + 1, b)]) := by
  have hold : ∀ B, B < w.heap.size → w'.heap[B]? = w.heap[B]? := fun B hB => by rw [hh, Array.getElem?_push, if_neg (by omega)]
  have hl : Later F h.G L w F (upd h.G i (h.G i + 1)) (upd L i (some w.heap.size)) w' :=
    ⟨⟨fun _ h => h, fun B hB => hold B (hr.flt B hB)⟩, fun B T n hs => (shape_of_heap (hold B (shape_lt hs))).trans hs, fun j => by
      by_cases hj : j = i
      · subst hj; rw [upd_same]; exact .inl (by omega)
      · rw [upd_other _ _ hj, upd_other _ _ hj]; exact .inr ⟨rfl, rfl⟩⟩
  have hnF : ¬ F w.heap.size := fun hF => by have := hr.flt _ hF; omega
  have hrel : HRel F (upd L i (some w.heap.size)) w' (h.app [(i, h.G i + 1, b)]) := by
    refine ⟨fun j => ?_, fun j k B hj hk hLj hLk => ?_, fun B hB => ?_⟩
    · show BRel F (upd h.G i (h.G i + 1)) _ w' (upd h.H i b j) _
      by_cases hj : j = i
      · subst hj; rw [upd_same, upd_same]; exact hb hl hnF
      · rw [upd_other _ _ hj, upd_other _ _ hj]
        refine (hr.ok j).later hl (fun hlive B hB => ⟨hold B ?_, id⟩)
        exact BRel.lt (hB ▸ hr.ok j) hlive
    · change (upd h.H i b j).live = true at hj
      change (upd h.H i b k).live = true at hk
      by_cases ej : j = i <;> by_cases ek : k = i
      · rw [ej, ek]
      · subst ej
        rw [upd_same] at hLj; rw [upd_other _ _ ek] at hLk hk
        have := BRel.lt (hLk ▸ hr.ok k) hk
        cases hLj; omega
      · subst ek
        rw [upd_same] at hLk; rw [upd_other _ _ ej] at hLj hj
        have := BRel.lt (hLj ▸ hr.ok j) hj
        cases hLk; omega
      · rw [upd_other _ _ ej] at hLj hj; rw [upd_other _ _ ek] at hLk hk
        exact hr.inj j k B hj hk hLj hLk
    · have := hr.flt B hB; rw [hh, Array.size_push]; omega
  refine ⟨hrel, { hl with os := h1, tape := h2, output := h3, size := by rw [hh, Array.size_push]; omega, keep := fun B hB _ => hold B hB, own := ?_, fro := fun B h => .inl h }⟩
  rintro B ⟨j, hj, hL⟩
  change (upd h.H i b j).live = true at hj
  by_cases ej : j = i
  · subst ej; rw [upd_same] at hL; cases hL; exact .inr (Nat.le_refl _)
  · rw [upd_other _ _ ej] at hL hj; exact .inl ⟨j, hj, hL⟩

/-- A block of the call's own is written, or is another one's from now on (dead). -/
theorem step_set {F L w h} (hr : HRel F L w h) {w' : World} {i : Nat} (hlive : (h.H i).live = true) {B : Nat} (hL : L i = some B)
    (hh : ∀ k, k ≠ B → w'.heap[k]? = w.heap[k]?) (hs : w'.heap.size = w.heap.size) (hsh : ∀ T n, w.shape? B = some (T, n) → w'.shape? B = some (T, n))
    (h1 : w'.os = w.os) (h2 : w'.tape = w.tape) (h3 : w'.output = w.output)
    (b : Blk) (hb : Later F h.G L w F h.G L w' → ¬ F B → BRel F h.G L w' b (some B)) :
    HRel F L w' (h.app [(i, h.G i, b)]) ∧ Step F L w h F L w' (h.app [(i, h.G i, b)]) := by
  have hnF : ¬ F B := BRel.live_not (hL ▸ hr.ok i) hlive
  have hl : Later F h.G L w F h.G L w' :=
    ⟨⟨fun _ h => h, fun k hk => hh k (fun e => hnF (e ▸ hk))⟩, fun k T n hsk => by
      by_cases e : k = B
      · subst e; exact hsh T n hsk
      · exact (shape_of_heap (hh k e)).trans hsk, fun _ => .inr ⟨rfl, rfl⟩⟩
  have hG : upd h.G i (h.G i) = h.G := upd_id _ _ _ rfl
  have hrel : HRel F L w' (h.app [(i, h.G i, b)]) := by
    refine ⟨fun j => ?_, fun j k C hj hk hLj hLk => ?_, fun C hC => by rw [hs]; exact hr.flt C hC⟩
    · show BRel F (upd h.G i (h.G i)) _ w' (upd h.H i b j) _
      rw [hG]
      by_cases hj : j = i
      · subst hj; rw [upd_same, hL]; exact hb hl hnF
      · rw [upd_other _ _ hj]
        refine (hr.ok j).later hl (fun hjl C hC => ⟨hh C (fun e => hj (hr.inj j i B hjl hlive (e ▸ hC) hL)), id⟩)
    · change (upd h.H i b j).live = true at hj
      change (upd h.H i b k).live = true at hk
      have hj' : (h.H j).live = true := by by_cases ej : j = i; (subst ej; exact hlive); (rwa [upd_other _ _ ej] at hj)
      have hk' : (h.H k).live = true := by by_cases ej : k = i; (subst ej; exact hlive); (rwa [upd_other _ _ ej] at hk)
      exact hr.inj j k C hj' hk' hLj hLk
  have hl' : Later F h.G L w F (h.app [(i, h.G i, b)]).G L w' := by show Later F h.G L w F (upd h.G i (h.G i)) L w'; rw [hG]; exact hl
  refine ⟨hrel, { hl' with os := h1, tape := h2, output := h3, size := by omega, keep := fun C _ hn => hh C (fun e => hn ⟨i, hlive, e ▸ hL⟩), own := ?_, fro := fun _ h => .inl h }⟩
  rintro C ⟨j, hj, hLj⟩
  change (upd h.H i b j).live = true at hj
  by_cases ej : j = i
  · subst ej; exact .inl ⟨j, hlive, hLj⟩
  · rw [upd_other _ _ ej] at hj; exact .inl ⟨j, hj, hLj⟩

/-- A draw. -/
theorem hrel_heap {F L w h} (hr : HRel F L w h) {w' : World} (hh : w'.heap = w.heap) (h1 : w'.os = w.os) (h2 : w'.tape = w.tape) (h3 : w'.output = w.output) : HRel F L w' h ∧ Step F L w h F L w' h := by
  have hl : Later F h.G L w F h.G L w' := ⟨⟨fun _ h => h, fun _ _ => by rw [hh]⟩, fun B T n hs => by rw [← hs]; exact shape_of_heap (by rw [hh]), fun _ => .inr ⟨rfl, rfl⟩⟩
  exact ⟨⟨fun i => (hr.ok i).later hl (fun _ _ _ => ⟨by rw [hh], id⟩), hr.inj, fun B hB => by rw [hh]; exact hr.flt B hB⟩,
    { hl with os := h1, tape := h2, output := h3, size := by rw [hh]; exact Nat.le_refl _, keep := fun _ _ _ => by rw [hh], own := fun _ h => .inl h, fro := fun _ h => .inl h }⟩
end Go.Ev
end

section
/- The evaluator's operations are the model's: loads, stores, addresses. -/
set_option linter.unusedVariables false
set_option linter.unusedSimpArgs false
namespace Go.Ev
open Go

theorem addr_add (B o n : Nat) : (⟨B, o, none⟩ : Addr).add n = ⟨B, o + n, none⟩ := by
  unfold Addr.add; split
  · next h => subst h; rfl
  · rfl

section
variable {F : Nat → Prop} {G : Nat → Nat} {L : Nat → Option Nat} {w : World}

theorem CCells.toAt {B : Nat} : ∀ {o cs}, CCells F w B o cs → CellsAt F G L w B o cs
  | _, _, .nil => .nil
  | _, _, .cons h1 h2 h3 h4 => .cons h1 h2 (.c h3) h4.toAt
theorem CElems.toAt {B s : Nat} : ∀ {o es}, CElems F w B o s es → ElemsAt F G L w B s o es
  | _, _, .nil => .nil
  | _, _, .cons h1 h2 h3 h4 => .cons h1 h2 h3.toAt h4.toAt

theorem CellsAt.drop {B : Nat} : ∀ {o cs}, CellsAt F G L w B o cs → ∀ n, CellsAt F G L w B (o + n) (cs.drop n)
  | _, _, h, 0 => h
  | _, _, .nil, n + 1 => .nil
  | o, _, .cons h1 h2 h3 h4, n + 1 => by have := h4.drop n; rwa [show o + 1 + n = o + (n + 1) by omega] at this
theorem CellsAt.take {B : Nat} : ∀ {o cs}, CellsAt F G L w B o cs → ∀ n, CellsAt F G L w B o (cs.take n)
  | _, _, _, 0 => .nil
  | _, _, .nil, n + 1 => .nil
  | o, _, .cons h1 h2 h3 h4, n + 1 => .cons h1 h2 h3 (h4.take n)
theorem CellsAt.append {B : Nat} : ∀ {o cs ds}, CellsAt F G L w B o cs → CellsAt F G L w B (o + cs.length) ds → CellsAt F G L w B o (cs ++ ds)
  | _, _, _, .nil, h => by simpa using h
  | o, _, _, .cons (cs := cs) h1 h2 h3 h4, h => .cons h1 h2 h3 (h4.append (by rw [show o + 1 + cs.length = o + (cs.length + 1) by omega]; exact h))
theorem CCells.drop {B : Nat} : ∀ {o cs}, CCells F w B o cs → ∀ n, CCells F w B (o + n) (cs.drop n)
  | _, _, h, 0 => h
  | _, _, .nil, n + 1 => .nil
  | o, _, .cons h1 h2 h3 h4, n + 1 => by have := h4.drop n; rwa [show o + 1 + n = o + (n + 1) by omega] at this
theorem CellsAt.isCell {B : Nat} : ∀ {o cs}, CellsAt F G L w B o cs → ∀ c ∈ cs, PV.isCell c = true
  | _, _, .nil, c, h => by simp at h
  | _, _, .cons h1 h2 h3 h4, c, h => by
    rcases List.mem_cons.1 h with rfl | h
    · exact h2
    · exact h4.isCell c h
theorem CellsAt.vals {B : Nat} : ∀ {o cs}, CellsAt F G L w B o cs → ∃ us, VRels F G L w cs us ∧ ∀ (j : Nat) v, us[j]? = some v → w.cell? ⟨B, o + j, none⟩ = some v
  | _, _, .nil => ⟨[], .nil, fun j v h => by simp at h⟩
  | o, _, .cons h1 h2 h3 h4 => by
    obtain ⟨us, hu, hc⟩ := h4.vals
    refine ⟨_ :: us, .cons h3 hu, fun j v hj => ?_⟩
    cases j with
    | zero => simp at hj; subst hj; exact h1
    | succ j => have := hc j v (by simpa using hj); rwa [show o + 1 + j = o + (j + 1) by omega] at this

theorem CElems.get {B s : Nat} : ∀ {o es}, CElems F w B o s es → ∀ {i : Nat} {e : PV}, es[i]? = some e → e.isElem = true ∧ e.cells.length = s ∧ CCells F w B (o + i * s) e.cells
  | _, _, .nil, i, e, h => by simp at h
  | o, _, .cons h1 h2 h3 h4, 0, e, h => by simp at h; subst h; exact ⟨h1, h2, by simpa using h3⟩
  | o, _, .cons h1 h2 h3 h4, i + 1, e, h => by
    obtain ⟨a, b, c⟩ := h4.get (i := i) (e := e) (by simpa using h)
    exact ⟨a, b, by rwa [show o + s + i * s = o + (i + 1) * s by rw [Nat.succ_mul]; omega] at c⟩
theorem ElemsAt.get {B s : Nat} : ∀ {o es}, ElemsAt F G L w B s o es → ∀ {i : Nat} {e : PV}, es[i]? = some e → e.isElem = true ∧ e.cells.length = s ∧ CellsAt F G L w B (o + i * s) e.cells
  | _, _, .nil, i, e, h => by simp at h
  | o, _, .cons h1 h2 h3 h4, 0, e, h => by simp at h; subst h; exact ⟨h1, h2, by simpa using h3⟩
  | o, _, .cons h1 h2 h3 h4, i + 1, e, h => by
    obtain ⟨a, b, c⟩ := h4.get (i := i) (e := e) (by simpa using h)
    exact ⟨a, b, by rwa [show o + s + i * s = o + (i + 1) * s by rw [Nat.succ_mul]; omega] at c⟩

theorem CellsAt.load {P : Program} {B o : Nat} {cs : List PV} (h : CellsAt F G L w B o cs) : ∃ us, (loadCells ⟨B, o, none⟩ cs.length).run P w = .ok us.toArray w ∧ VRels F G L w cs us := by
  obtain ⟨us, hu, hc⟩ := h.vals
  refine ⟨us, ?_, hu⟩
  rw [hu.length]
  exact run_loadCells_list w _ us (fun j v hj => by rw [addr_add]; exact hc j v hj)
end

theorem run_isAgg {C : Ctx} (ht : TablesOk C) {t : TypeId} {b : Bool} (h : C.isAgg t = some b) (w : World) : (isAgg t).run C.P w = .ok b w := by
  have := ht.ty t
  unfold Ctx.isAgg at h
  unfold isAgg
  split at h <;> simp_all [TyOk]
  · rw [run_underlying this]
    simp
  · obtain ⟨fields, hu, _⟩ := this
    rw [run_underlying hu]
    simp
  · cases hy : C.ty t <;> simp_all [TyOk]
    all_goals first
      | (rw [run_underlying this]; simp; done)
      | (obtain ⟨d, hd, hp⟩ := this; rw [run_underlying hd]; cases d <;> simp_all; done)

theorem run_sizeOf {C : Ctx} (ht : TablesOk C) {t : TypeId} {b : Bool} (h : C.isAgg t = some b) (w : World) : (sizeOf t).run C.P w = .ok (C.size t) w := by
  obtain ⟨i, hi, hs, _⟩ := ht.info t b h
  simp [sizeOf, typeInfo, hi, hs]

theorem mkVal_rel {F G L w b cs y us} (h : mkVal b cs = some y) (hc : ∀ c ∈ cs, PV.isCell c = true) (hv : VRels F G L w cs us) :
    VRel F G L w y (if b then .agg us.toArray else us.getD 0 undef) ∧ (if b then y = .agg cs else cs = [y]) := by
  unfold mkVal at h
  cases b
  · simp at h
    split at h
    · cases h
      cases hv with | cons h1 h2 => cases h2; exact ⟨by simpa using h1, by simp⟩
    · simp at h
  · simp at h; subst h; exact ⟨.agg hc hv, rfl⟩

/-- Where a pointer leads, and what stands there. -/
theorem cellsAt_sound {F L w h p n cs u} (hr : HRel F L w h) (hc : cellsAt h p n = some cs) (hp : VRel F h.G L w p u) :
    ∃ B o, u = .pointer (some ⟨B, o, none⟩) ∧ CellsAt F h.G L w B o cs ∧ cs.length = n := by
  unfold cellsAt at hc
  split at hc
  · rename_i i g off
    split at hc <;> try (cases hc; done)
    rename_i hg
    cases hp with
    | c hp => cases hp
    | ptr h1 h2 =>
      obtain ⟨B, hB, rfl⟩ := h2 hg
      have hb := hr.ok i
      rw [hB] at hb
      split at hc <;> try (cases hc; done)
      all_goals
        rename_i cs0 hH
        rw [hH] at hb
        split at hc <;> try (cases hc; done)
        rename_i hlen
        cases hc
        have hca : CellsAt F h.G L w B 0 cs0 := by cases hb <;> assumption
        refine ⟨B, off, rfl, ?_, by simp; omega⟩
        have := (hca.drop off).take n
        simpa using this
  · rename_i i g e s off
    split at hc <;> try (cases hc; done)
    rename_i hg
    cases hp with
    | c hp => cases hp
    | rptr h1 h2 =>
      obtain ⟨B, hB, rfl⟩ := h2 hg
      have hb := hr.ok i
      rw [hB] at hb
      split at hc <;> try (cases hc; done)
      all_goals
        rename_i s' es hH
        rw [hH] at hb
        split at hc <;> try (cases hc; done)
        rename_i hs; subst hs
        split at hc <;> try (cases hc; done)
        rename_i x hx
        split at hc <;> try (cases hc; done)
        rename_i hlen
        cases hc
        have hea : ElemsAt F h.G L w B s 0 es := by cases hb <;> assumption
        obtain ⟨_, _, hx3⟩ := hea.get hx
        refine ⟨B, e * s + off, rfl, ?_, by simp; omega⟩
        have := (hx3.drop off).take n
        simpa using this
  · split at hc <;> try (cases hc; done)
    rename_i hlen
    cases hc
    cases hp with
    | c hp => cases hp with | lptr hB h1 => exact ⟨_, _, rfl, h1.toAt.take n, by simp; omega⟩
  · simp at hc

theorem run_loadVar_at {C : Ctx} (ht : TablesOk C) {t : TypeId} {b : Bool} (hb : C.isAgg t = some b) {F G L w B o cs y} (hc : CellsAt F G L w B o cs) (hl : cs.length = C.size t) (hm : mkVal b cs = some y) :
    ∃ u, (loadVar t ⟨B, o, none⟩).run C.P w = .ok u w ∧ VRel F G L w y u := by
  obtain ⟨us, hr, hv⟩ := hc.load (P := C.P)
  obtain ⟨hy, hy2⟩ := mkVal_rel hm hc.isCell hv
  refine ⟨_, ?_, hy⟩
  unfold loadVar
  rw [Sem.run_bind, run_isAgg ht hb]
  cases b
  · simp only [Bool.false_eq_true, if_false] at hy2
    subst hy2
    cases hc with
    | cons h1 _ _ _ =>
      cases hv with
      | cons hv1 hv2 =>
        cases hv2
        simp only [Result.andThen_ok, Bool.false_eq_true, if_false, run_load]
        simp only [loadCells, loadCellsFrom, List.length_cons, List.length_nil] at hr
        simp [addr_add, h1] at hr
        simp [h1, hr]
  · simp only [Result.andThen_ok, if_true, Sem.run_bind, run_sizeOf ht hb, ← hl, hr, Sem.run_pure]

theorem loadP_sound {C : Ctx} (ht : TablesOk C) {F L w h t p y u} (hr : HRel F L w h) (hc : loadP C h t p = some y) (hp : VRel F h.G L w p u) :
    ∃ x, (Instr.loadAt t u).run C.P w = .ok x w ∧ VRel F h.G L w y x := by
  unfold loadP at hc
  split at hc <;> try (cases hc; done)
  rename_i b hb
  split at hc <;> try (cases hc; done)
  rename_i cs hcs
  obtain ⟨B, o, rfl, h1, h2⟩ := cellsAt_sound hr hcs hp
  obtain ⟨x, hx1, hx2⟩ := run_loadVar_at ht hb h1 h2 hc
  exact ⟨x, by simp [Instr.loadAt, Instr.sureAddr, hx1], hx2⟩
end Go.Ev
end

section
/- The evaluator's operations are the model's: stores; new blocks; rows. -/
set_option linter.unusedVariables false
set_option linter.unusedSimpArgs false
namespace Go.Ev
open Go

/-- A world behind stores into one block. -/
structure Stored (w w' : World) (B : Nat) (arr : Array Value) (T : TypeId) (fr : Nat × Nat) (o : Nat) (vs : List Value) : Prop where
  size : w'.heap.size = w.heap.size
  other : ∀ k, k ≠ B → w'.heap[k]? = w.heap[k]?
  os : w'.os = w.os
  tape : w'.tape = w.tape
  output : w'.output = w.output
  block : ∃ arr', w'.heap[B]? = some (.cells arr' T fr) ∧ arr'.size = arr.size ∧ ∀ j : Nat, arr'[j]? = if o ≤ j ∧ j < o + vs.length then vs[j - o]? else arr[j]?

theorem heap_setCell (w : World) (B o : Nat) (v : Value) (arr T fr) (h : w.heap[B]? = some (.cells arr T fr)) : (w.setCell ⟨B, o, none⟩ v).heap[B]? = some (.cells (arr.setIfInBounds o v) T fr) := by
  simp [World.setCell, Array.getElem?_modify, h]

theorem store_cells (P : Program) (B o : Nat) (T : TypeId) (fr : Nat × Nat) : ∀ (vs : List Value) (i : Nat) (arr : Array Value) (w : World), w.heap[B]? = some (.cells arr T fr) → (∀ q, q < arr.size → ¬ (fr.1 ≤ q ∧ q < fr.2)) →
    o + i + vs.length ≤ arr.size → (∀ v ∈ vs, v.oneCell' = true) → ∃ w', (storeCells ⟨B, o, none⟩ vs i).run P w = .ok () w' ∧ Stored w w' B arr T fr (o + i) vs
  | [], i, arr, w, hg, hf, hl, h1 => ⟨w, rfl, rfl, fun _ _ => rfl, rfl, rfl, rfl, arr, hg, rfl, fun j => by simp; omega⟩
  | v :: rest, i, arr, w, hg, hf, hl, h1 => by
    have hi : o + i < arr.size := by simp at hl; omega
    have hcell : w.cell? ⟨B, o + i, none⟩ = some arr[o + i] := by simp [World.cell?, hg, hi]
    have hfro : w.frozen? ⟨B, o + i, none⟩ = false := by
      have := hf (o + i) hi
      simp only [World.frozen?, hg]
      simpa using this
    have hst : (store ((⟨B, o, none⟩ : Addr).add i) v).run P w = .ok () (w.setCell ⟨B, o + i, none⟩ v) := by
      rw [addr_add, run_store P w _ v _ (h1 v (by simp)), hcell]
      simp [hfro]
    obtain ⟨w', hr, hs⟩ := store_cells P B o T fr rest (i + 1) (arr.setIfInBounds (o + i) v) (w.setCell ⟨B, o + i, none⟩ v) (heap_setCell w B (o + i) v arr T fr hg) (by simpa using hf) (by simp at hl ⊢; omega) (fun x hx => h1 x (by simp [hx]))
    obtain ⟨s1, s2, s3, s4, s5, arr', s6, s7, s8⟩ := hs
    refine ⟨w', by simp only [storeCells, Sem.run_bind, hst, Result.andThen_ok, hr], ⟨by rw [s1]; simp, fun k hk => (s2 k hk).trans (RowKit.Below.heap_setCell _ _ _ _ hk), s3, s4, s5, arr', s6, by simpa using s7, fun j => ?_⟩⟩
    rw [s8 j]
    by_cases e : j = o + i
    · subst e
      rw [if_neg (by omega), if_pos (by simp)]
      simp [hi]
    · by_cases h2 : o + i ≤ j ∧ j < o + i + (v :: rest).length
      · rw [if_pos (by simp at h2; omega), if_pos h2]
        obtain ⟨k, hk⟩ : ∃ k, j - (o + i) = k + 1 := ⟨j - (o + i) - 1, by omega⟩
        rw [hk, show j - (o + (i + 1)) = k by omega]; simp
      · rw [if_neg (by simp at h2; omega), if_neg h2, Array.getElem?_setIfInBounds_ne (by omega)]

theorem Stored.cell_in {w w' : World} {B arr T fr o vs} (h : Stored w w' B arr T fr o vs) {j : Nat} {v : Value} (hj : vs[j]? = some v) : w'.cell? ⟨B, o + j, none⟩ = some v := by
  obtain ⟨arr', h1, h2, h3⟩ := h.block
  have hlt : j < vs.length := (List.getElem?_eq_some_iff.1 hj).1
  simp only [World.cell?, h1, Option.isSome_none, Bool.false_eq_true, if_false]
  rw [h3, if_pos (by omega), show o + j - o = j by omega, hj]

theorem Stored.cell_out {w w' : World} {B arr T fr o vs} (h : Stored w w' B arr T fr o vs) (hg : w.heap[B]? = some (.cells arr T fr)) {j : Nat} (hj : ¬ (o ≤ j ∧ j < o + vs.length)) : w'.cell? ⟨B, j, none⟩ = w.cell? ⟨B, j, none⟩ := by
  obtain ⟨arr', h1, h2, h3⟩ := h.block
  simp only [World.cell?, h1, hg, Option.isSome_none, Bool.false_eq_true, if_false]
  rw [h3, if_neg hj]

theorem Stored.shape {w w' : World} {B arr T fr o vs} (h : Stored w w' B arr T fr o vs) (hg : w.heap[B]? = some (.cells arr T fr)) (T' : TypeId) (n : Nat) (hs : w.shape? B = some (T', n)) : w'.shape? B = some (T', n) := by
  obtain ⟨arr', h1, h2, h3⟩ := h.block
  simp only [World.shape?, h1, hg] at hs ⊢
  rw [h2]; exact hs

theorem Stored.free {w w' : World} {B arr T fr o vs} (h : Stored w w' B arr T fr o vs) (hf : ∀ q, q < arr.size → ¬ (fr.1 ≤ q ∧ q < fr.2)) {n : Nat} (hn : n ≤ arr.size) : Free w' B n := by
  obtain ⟨arr', h1, h2, h3⟩ := h.block
  exact ⟨arr', T, fr, h1, by omega, fun q hq => hf q (by omega)⟩

section
variable {F : Nat → Prop} {G : Nat → Nat} {L : Nat → Option Nat} {w : World}

/-- Cells of a block are told one by one. -/
theorem cellsAt_of {B : Nat} : ∀ {cs : List PV} {o : Nat}, (∀ (j : Nat) c, cs[j]? = some c → c.isCell = true ∧ ∃ u, w.cell? ⟨B, o + j, none⟩ = some u ∧ VRel F G L w c u) → CellsAt F G L w B o cs
  | [], _, _ => .nil
  | c :: cs, o, h => by
    obtain ⟨h1, u, h2, h3⟩ := h 0 c (by simp)
    exact .cons h2 h1 h3 (cellsAt_of (fun j c hc => by have := h (j + 1) c (by simpa using hc); rwa [show o + (j + 1) = o + 1 + j by omega] at this))

theorem CellsAt.get {B : Nat} : ∀ {cs : List PV} {o : Nat}, CellsAt F G L w B o cs → ∀ {j : Nat} {c : PV}, cs[j]? = some c → c.isCell = true ∧ ∃ u, w.cell? ⟨B, o + j, none⟩ = some u ∧ VRel F G L w c u
  | [], _, .nil, j, c, h => by simp at h
  | c :: cs, o, .cons h1 h2 h3 h4, 0, d, h => by simp at h; subst h; exact ⟨h2, _, h1, h3⟩
  | c :: cs, o, .cons h1 h2 h3 h4, j + 1, d, h => by have := h4.get (j := j) (c := d) (by simpa using h); rwa [show o + 1 + j = o + (j + 1) by omega] at this

theorem elemsAt_of {B s : Nat} : ∀ {es : List PV} {o : Nat}, (∀ (i : Nat) e, es[i]? = some e → e.isElem = true ∧ e.cells.length = s ∧ CellsAt F G L w B (o + i * s) e.cells) → ElemsAt F G L w B s o es
  | [], _, _ => .nil
  | e :: es, o, h => by
    obtain ⟨h1, h2, h3⟩ := h 0 e (by simp)
    exact .cons h1 h2 (by simpa using h3) (elemsAt_of (fun i e he => by have := h (i + 1) e (by simpa using he); rwa [show o + (i + 1) * s = o + s + i * s by rw [Nat.succ_mul]; omega] at this))
end

theorem splice_get (cs xs : List PV) (off j : Nat) (h : off + xs.length ≤ cs.length) : (splice cs off xs)[j]? = if off ≤ j ∧ j < off + xs.length then xs[j - off]? else cs[j]? := by
  unfold splice
  split
  · next h0 =>
    obtain ⟨h0, h1⟩ := h0; subst h0
    split
    · simp
    · next h2 => rw [List.getElem?_eq_none (by omega), List.getElem?_eq_none (by omega)]
  · by_cases h1 : j < off
    · rw [List.getElem?_append_left (by simp; omega), List.getElem?_take, if_pos h1, if_neg (by omega)]
    · rw [List.getElem?_append_right (by simp; omega)]
      simp only [List.length_take, Nat.min_eq_left (show off ≤ cs.length by omega)]
      by_cases h2 : j < off + xs.length
      · rw [List.getElem?_append_left (by omega), if_pos ⟨by omega, h2⟩]
      · rw [List.getElem?_append_right (by omega), if_neg (by omega), List.getElem?_drop]
        congr 1; omega

theorem splice_length (cs xs : List PV) (off : Nat) (h : off + xs.length ≤ cs.length) : (splice cs off xs).length = cs.length := by
  unfold splice; split
  · next h0 => exact h0.2
  · simp; omega

/-- What a value puts into memory. -/
theorem cellsOf_sound {F G L w x xs u} (h : cellsOf x = some xs) (hx : VRel F G L w x u) : VRels F G L w xs u.cells.toList ∧ (∀ c ∈ xs, PV.isCell c = true) ∧ (∀ v ∈ u.cells.toList, v.oneCell' = true) := by
  unfold cellsOf at h
  split at h
  · cases h
    obtain ⟨us, rfl, h1, h2⟩ := hx.agg_inv
    exact ⟨by simpa [Value.cells] using h2, h1, by simpa [Value.cells] using h2.oneCell h1⟩
  · split at h <;> try (cases h; done)
    rename_i hc
    cases h
    have h1 := hx.oneCell hc
    have : u.cells = #[u] := by cases u <;> first | rfl | (simp [Value.oneCell'] at h1; done)
    rw [this]
    exact ⟨.cons hx .nil, by simpa using hc, by simpa using h1⟩

theorem reElem_cells {x : PV} {s : Nat} {cs : List PV} (he : x.isElem = true) (hs : x.cells.length = s) (hl : cs.length = s) (hc : ∀ c ∈ cs, PV.isCell c = true) : (reElem x cs).isElem = true ∧ (reElem x cs).cells = cs := by
  unfold reElem
  split
  · exact ⟨rfl, rfl⟩
  · rename_i hn
    have h1 : x.cells.length = 1 := by cases x <;> first | rfl | (exact absurd rfl (hn _))
    match cs, hl, hc with
    | [c], _, hc =>
      have h2 := hc c (by simp)
      cases c <;> first | exact ⟨h2, rfl⟩ | (simp [PV.isCell] at h2; done)
    | [], hl, _ => simp at hl; omega
    | _ :: _ :: _, hl, _ => simp at hl; omega

theorem storeP_sound {C : Ctx} (ht : TablesOk C) {F L w h t p x ups u ux} (hr : HRel F L w h) (hc : storeP C h t p x = some ups) (hp : VRel F h.G L w p u) (hx : VRel F h.G L w x ux) :
    ∃ w', (Instr.storeAt t u ux).run C.P w = .ok () w' ∧ HRel F L w' (h.app ups) ∧ Step F L w h F L w' (h.app ups) := by
  unfold storeP at hc
  split at hc <;> try (cases hc; done)
  rename_i b xs hb hxs
  obtain ⟨hx1, hx2, hx3⟩ := cellsOf_sound hxs hx
  split at hc <;> try (cases hc; done)
  rename_i hlen
  have hsz : (ux.cells.size ≠ C.size t) = False := by
    have := hx1.length
    simp at this; simp; omega
  have hrun : ∀ B o w', (storeCells ⟨B, o, none⟩ ux.cells.toList).run C.P w = .ok () w' → (Instr.storeAt t (.pointer (some ⟨B, o, none⟩)) ux).run C.P w = .ok () w' := by
    intro B o w' hs
    simp only [Instr.storeAt, Instr.sureAddr, storeVar, Sem.run_bind, Sem.run_pure, Result.andThen_ok, run_sizeOf ht hb, hsz, if_false, hs]
  have hxl : ux.cells.toList.length = xs.length := hx1.length.symm
  split at hc
  · rename_i i g off
    split at hc <;> try (cases hc; done)
    rename_i hg
    split at hc <;> try (cases hc; done)
    rename_i cs hH
    split at hc <;> try (cases hc; done)
    rename_i hfit
    cases hc
    cases hp with
    | c hp => cases hp
    | ptr h1 h2 =>
      obtain ⟨B, hB, rfl⟩ := h2 hg
      have hbr := hr.ok i
      rw [hB, hH] at hbr
      cases hbr with
      | var hF hfree hca =>
        obtain ⟨arr, T, fr, hg1, hg2, hg3⟩ := hfree
        obtain ⟨w', hs1, hs2⟩ := store_cells C.P B off T fr ux.cells.toList 0 arr w hg1 hg3 (by omega) hx3
        rw [Nat.add_zero] at hs2
        refine ⟨w', hrun _ _ _ hs1, ?_⟩
        subst hg
        refine step_set hr (by rw [hH]; rfl) hB hs2.other hs2.size (hs2.shape hg1) hs2.os hs2.tape hs2.output _ (fun hl hnF => ?_)
        refine .var hnF (hs2.free hg3 (by rw [splice_length _ _ _ hfit]; exact hg2)) (cellsAt_of (fun j c hj => ?_))
        rw [splice_get _ _ _ _ hfit] at hj
        rw [Nat.zero_add]
        split at hj
        · rename_i hin
          obtain ⟨v, hv1, hv2⟩ := hx1.get hj
          refine ⟨hx2 c (List.mem_of_getElem? hj), v, ?_, hv2.later hl⟩
          have := hs2.cell_in hv1
          rwa [show off + (j - off) = j by omega] at this
        · rename_i hout
          obtain ⟨hc1, v, hc2, hc3⟩ := hca.get hj
          rw [Nat.zero_add] at hc2
          exact ⟨hc1, v, (hs2.cell_out hg1 (by omega)).trans hc2, hc3.later hl⟩
  · rename_i i g e s off
    split at hc <;> try (cases hc; done)
    rename_i hg
    split at hc <;> try (cases hc; done)
    rename_i s' es hH
    split at hc <;> try (cases hc; done)
    rename_i hss; subst hss
    split at hc <;> try (cases hc; done)
    rename_i x0 hx0
    split at hc <;> try (cases hc; done)
    rename_i hfit
    cases hc
    cases hp with
    | c hp => cases hp
    | rptr h1 h2 =>
      obtain ⟨B, hB, rfl⟩ := h2 hg
      have hbr := hr.ok i
      rw [hB, hH] at hbr
      cases hbr with
      | row hF hfree hea =>
        obtain ⟨arr, T, fr, hg1, hg2, hg3⟩ := hfree
        obtain ⟨he1, he2, he3⟩ := hea.get hx0
        have hel : e < es.length := (List.getElem?_eq_some_iff.1 hx0).1
        have hes : e * s + s ≤ es.length * s := by rw [← Nat.succ_mul]; exact Nat.mul_le_mul_right _ hel
        obtain ⟨w', hs1, hs2⟩ := store_cells C.P B (e * s + off) T fr ux.cells.toList 0 arr w hg1 hg3 (by omega) hx3
        rw [Nat.add_zero] at hs2
        refine ⟨w', hrun _ _ _ hs1, ?_⟩
        subst hg
        refine step_set hr (by rw [hH]; rfl) hB hs2.other hs2.size (hs2.shape hg1) hs2.os hs2.tape hs2.output _ (fun hl hnF => ?_)
        have hsc : ∀ c ∈ splice x0.cells off xs, PV.isCell c = true := by
          intro c hc
          obtain ⟨j, hj⟩ := List.mem_iff_getElem?.1 hc
          rw [splice_get _ _ _ _ hfit] at hj
          split at hj
          · exact hx2 c (List.mem_of_getElem? hj)
          · exact he3.isCell c (List.mem_of_getElem? hj)
        obtain ⟨hre1, hre2⟩ := reElem_cells he1 he2 (by rw [splice_length _ _ _ hfit]; exact he2) hsc
        refine .row hnF (hs2.free hg3 (by simpa using hg2)) (elemsAt_of (fun i2 e2 hi2 => ?_))
        rw [Nat.zero_add]
        by_cases hie : i2 = e
        · subst hie
          rw [List.getElem?_set_self hel] at hi2
          cases hi2
          refine ⟨hre1, by rw [hre2, splice_length _ _ _ hfit]; exact he2, ?_⟩
          rw [hre2]
          refine cellsAt_of (fun j c hj => ?_)
          rw [splice_get _ _ _ _ hfit] at hj
          split at hj
          · rename_i hin
            obtain ⟨v, hv1, hv2⟩ := hx1.get hj
            refine ⟨hx2 c (List.mem_of_getElem? hj), v, ?_, hv2.later hl⟩
            have := hs2.cell_in hv1
            rwa [show i2 * s + off + (j - off) = i2 * s + j by omega] at this
          · rename_i hout
            obtain ⟨hc1, v, hc2, hc3⟩ := he3.get hj
            rw [Nat.zero_add] at hc2
            exact ⟨hc1, v, (hs2.cell_out hg1 (by omega)).trans hc2, hc3.later hl⟩
        · rw [List.getElem?_set_ne (Ne.symm hie)] at hi2
          obtain ⟨ha, hb2, hcc⟩ := hea.get hi2
          refine ⟨ha, hb2, cellsAt_of (fun j c hj => ?_)⟩
          have hjl : j < s := by rw [← hb2]; exact (List.getElem?_eq_some_iff.1 hj).1
          obtain ⟨hc1, v, hc2, hc3⟩ := hcc.get hj
          rw [Nat.zero_add] at hc2
          refine ⟨hc1, v, (hs2.cell_out hg1 ?_).trans hc2, hc3.later hl⟩
          rintro ⟨ho1, ho2⟩
          rcases Nat.lt_or_gt_of_ne hie with hlt | hgt
          · have : i2 * s + s ≤ e * s := by rw [← Nat.succ_mul]; exact Nat.mul_le_mul_right _ hlt
            omega
          · have : e * s + s ≤ i2 * s := by rw [← Nat.succ_mul]; exact Nat.mul_le_mul_right _ hgt
            omega
  · cases hc
end Go.Ev
end
