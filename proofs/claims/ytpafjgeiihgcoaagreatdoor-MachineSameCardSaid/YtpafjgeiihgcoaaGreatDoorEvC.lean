/- A part of the proof: HbEvL HbEvM HbEvN HbEvP HbEvQ HbEvR. No conditions. -/
import Derived.Test.YtpafjgeiihgcoaaGreatDoorEvB
import Derived.RangeFuncLeaves

section
/- The evaluator's operations are the model's: lengths, conversions, numbers, maps. -/
set_option linter.unusedVariables false
set_option linter.unusedSimpArgs false
namespace Go.Ev
open Go

theorem getObj_map {P : Program} {w : World} {r : Nat} {es : Array MapEntry} {clock : Nat} (hb : w.heap[r]? = some (.map es clock)) : (getObj r).run P w = .ok (.map es clock) w := by
  simp [getObj, Sem.run, hb]

theorem fmap_inv {F G L w ks vs u} (h : VRel F G L w (.fmap ks vs) u) : ∃ B es clock, u = .map (some B) ∧ F B ∧ w.heap[B]? = some (.map es clock) ∧ KeysAre es clock ks ∧ VRels F G L w vs (es.toList.map (·.val)) := by
  cases h with
  | c h => cases h with | fmap h1 h2 h3 h4 => exact ⟨_, _, _, rfl, h1, h2, h3, h4.toV⟩

/-- What a map that can be read has. -/
theorem map_inv {F L w h i g u ks vs} (hr : HRel F L w h) (hg : g = h.G i) (hH : h.H i = .map ks vs ∨ h.H i = .fzmap ks vs) (hx : VRel F h.G L w (.map i g) u) :
    ∃ B es clock, u = .map (some B) ∧ L i = some B ∧ w.heap[B]? = some (.map es clock) ∧ KeysAre es clock ks ∧ VRels F h.G L w vs (es.toList.map (·.val)) := by
  cases hx with
  | c hx => cases hx
  | map h1 h2 =>
    have hL := h2 hg
    have hb := hr.ok i
    rw [hL] at hb
    rcases hH with hH | hH <;> rw [hH] at hb <;> cases hb
    · exact ⟨_, _, _, rfl, hL, by assumption, by assumption, by assumption⟩
    · exact ⟨_, _, _, rfl, hL, by assumption, by assumption, by assumption⟩

theorem lenP_sound {C : Ctx} (ht : TablesOk C) {F L w h t x n u ty} {argTypes : Array TypeId} (ha0 : argTypes[0]? = some t) (hr : HRel F L w h) (hc : lenP C h t x = some n) (hx : VRel F h.G L w x u) :
    (Builtin.len_ argTypes ty #[u]).run C.P w = .ok (.int .i64 n) w := by
  have slc : ∀ (a : Option Addr) (l c : Nat) e, C.ty t = .slice e → (Builtin.len_ argTypes ty #[.slice a l c]).run C.P w = .ok (.int .i64 l) w := by
    intro a l c e hty
    have hu : C.P.underlying t = some (.slice e) := tyAt ht hty
    simp [Builtin.len_, ha0, run_underlying hu, goInt]
  have mp : ∀ B es clock k e, C.ty t = .map k e → w.heap[B]? = some (.map es clock) → (Builtin.len_ argTypes ty #[.map (some B)]).run C.P w = .ok (.int .i64 es.toList.length) w := by
    intro B es clock k e hty hB
    have hu : C.P.underlying t = some (.map k e) := tyAt ht hty
    simp [Builtin.len_, ha0, run_underlying hu, goInt, getObj_map hB]
  unfold lenP at hc
  split at hc
  · rename_i s hty
    cases hc
    have hu : C.P.underlying t = some .string := tyAt ht hty
    obtain ⟨rfl, _⟩ := hx.v_iff
    simp [Builtin.len_, ha0, run_underlying hu, goInt]
  · rename_i e es hty
    cases hc
    cases hx with
    | c hx => cases hx with
      | lstNil => exact slc _ _ _ e hty
      | lst => exact slc _ _ _ e hty
  · rename_i e i g lo len s hty
    cases hc
    cases hx with
    | c hx => cases hx
    | row => exact slc _ _ _ e hty
  · rename_i e i g lo len s hty
    cases hc
    cases hx with
    | c hx => cases hx
    | asl => exact slc _ _ _ e hty
  · rename_i e hty
    cases hc
    obtain ⟨rfl, _⟩ := hx.v_iff
    exact slc _ _ _ e hty
  · rename_i x0 n0 e hty
    cases hc
    have hu : C.P.underlying t = some (.array n e) := tyAt ht hty
    simp [Builtin.len_, ha0, run_underlying hu, goInt]
  · rename_i k e hty
    cases hc
    have hu : C.P.underlying t = some (.map k e) := tyAt ht hty
    obtain ⟨rfl, _⟩ := hx.v_iff
    simp [Builtin.len_, ha0, run_underlying hu, goInt]
  · rename_i k e i g hty
    split at hc <;> try (cases hc; done)
    rename_i hg
    split at hc <;> try (cases hc; done)
    · rename_i ks vs hH
      cases hc
      obtain ⟨B, es, clock, rfl, _, h1, h2, _⟩ := map_inv hr hg (.inl hH) hx
      rw [mp _ _ _ _ _ hty h1, ← h2.1]; simp
    · rename_i ks vs hH
      cases hc
      obtain ⟨B, es, clock, rfl, _, h1, h2, _⟩ := map_inv hr hg (.inr hH) hx
      rw [mp _ _ _ _ _ hty h1, ← h2.1]; simp
  · rename_i k e ks vs hty
    cases hc
    obtain ⟨B, es, clock, rfl, _, h1, h2, _⟩ := fmap_inv hx
    rw [mp _ _ _ _ _ hty h1, ← h2.1]; simp
  · cases hc

theorem bytesOf_sound {F G L w} : ∀ {es : List PV} {us : List Value} {bs : List UInt8}, bytesOf es = some bs → VRels F G L w (es.flatMap PV.cells) us → ∃ ns : List Int, us = ns.map (Value.int .u8) ∧ bs = ns.map (fun n => UInt8.ofNat n.toNat)
  | [], us, bs, h, hv => by
    simp [bytesOf] at h; subst h
    cases hv
    exact ⟨[], rfl, rfl⟩
  | e :: es, us, bs, h, hv => by
    cases e <;> try (simp [bytesOf] at h; done)
    rename_i x
    cases x <;> try (simp [bytesOf] at h; done)
    rename_i k n
    cases k <;> try (simp [bytesOf] at h; done)
    simp only [bytesOf] at h
    cases hb : bytesOf es with
    | none => simp [hb] at h
    | some bs' =>
      simp [hb] at h; subst h
      rw [List.flatMap_cons] at hv
      simp only [PV.cells, List.singleton_append] at hv
      cases hv with
      | cons h1 h2 =>
        obtain ⟨rfl, _⟩ := h1.v_iff
        obtain ⟨ns, rfl, rfl⟩ := bytesOf_sound hb h2
        exact ⟨n :: ns, rfl, rfl⟩

theorem foldl_push : ∀ (ns : List Int) (r : ByteArray), ns.foldl (fun r n => r.push (UInt8.ofNat n.toNat)) r = ⟨r.data ++ (ns.map (fun n => UInt8.ofNat n.toNat)).toArray⟩
  | [], r => by simp
  | n :: ns, r => by
    simp only [List.foldl_cons, List.map_cons]
    rw [foldl_push ns]
    simp [ByteArray.push]

theorem flat_byteP : ∀ l : List UInt8, (l.map byteP).flatMap PV.cells = l.map byteP
  | [] => rfl
  | a :: l => by rw [List.map_cons, List.flatMap_cons, flat_byteP l]; rfl

theorem rel_byteP {F G L w} : ∀ l : List UInt8, VRels F G L w (l.map byteP) (l.map (fun b => Value.int .u8 b.toNat))
  | [] => .nil
  | a :: l => .cons (.c (.v rfl)) (rel_byteP l)

theorem convP_sound {C : Ctx} (ht : TablesOk C) {F L w h id src dst x r ups u} (hr : HRel F L w h) (hc : convP C h id (h.G id) src dst x = some (r, ups)) (hx : VRel F h.G L w x u) :
    Gives C F L w h (convert src dst u) r ups := by
  unfold convP at hc
  split at hc
  · rename_i k1 k k2 n h1 h2
    cases hc
    obtain ⟨rfl, _⟩ := hx.v_iff
    have hu1 : C.P.underlying src = some (.int k1) := tyAt ht h1
    have hu2 : C.P.underlying dst = some (.int k) := tyAt ht h2
    exact .same hr (by simp [convert, run_underlying hu1, run_underlying hu2, Conv.intToInt]) (.c (.v rfl))
  · rename_i s h1 h2
    cases hc
    obtain ⟨rfl, _⟩ := hx.v_iff
    have hu1 : C.P.underlying src = some .string := tyAt ht h1
    have hu2 : C.P.underlying dst = some .string := tyAt ht h2
    exact .same hr (by simp [convert, run_underlying hu1, run_underlying hu2]) (.c (.v rfl))
  · rename_i e s h1 h2
    split at hc <;> try (cases hc; done)
    rename_i he
    split at hc <;> try (cases hc; done)
    rename_i hcond
    cases hc
    obtain ⟨rfl, _⟩ := hx.v_iff
    have hu1 : C.P.underlying src = some .string := tyAt ht h1
    have hu2 : C.P.underlying dst = some (.slice e) := tyAt ht h2
    have hu3 : C.P.underlying e = some (.int .u8) := tyAt ht he
    have hrun := run_bytes_of_string w src dst e s hu1 hu2 hu3
    have hge := grownCap_ge w s.size 0 e
    obtain ⟨L', k1, k2, k3⟩ := new_row hr id e (s := 1) (es := s.data.toList.map byteP) (us := s.data.toList.map (fun b => Value.int .u8 b.toNat)) (len := s.size) (cap := grownCap w s.size 0 e)
      (arr := bytesRow s (grownCap w s.size 0 e)) (fr := ((bytesRow s (grownCap w s.size 0 e)).size, (bytesRow s (grownCap w s.size 0 e)).size + 1))
      (w' := w.drew.alloc (.cells (bytesRow s (grownCap w s.size 0 e)) e ((bytesRow s (grownCap w s.size 0 e)).size, (bytesRow s (grownCap w s.size 0 e)).size + 1))) rfl rfl rfl rfl
      (fun o ho hh => by have := hh.1; simp at this; omega) (fun x hx => by
        obtain ⟨a, _, rfl⟩ := List.mem_map.1 hx
        exact ⟨rfl, rfl, fun c hc => by simp [PV.cells, byteP] at hc; subst hc; rfl⟩) (by rw [flat_byteP]; exact rel_byteP _) (fun j v hj => by
        have hjl : j < s.data.size := by have := (List.getElem?_eq_some_iff.1 hj).1; simpa using this
        rw [bytesRow_at s _ j hjl, ← hj]
        simp [Array.getElem?_eq_getElem hjl]) hge (by
        have : s.data.size = s.size := rfl
        simp [bytesRow]; omega)
    exact ⟨_, _, L', hrun, k1, k2, k3⟩
  · rename_i x e h1 h2
    split at hc <;> try (cases hc; done)
    rename_i he
    split at hc <;> try (cases hc; done)
    split at hc <;> try (cases hc; done)
    rename_i es hes
    split at hc <;> try (cases hc; done)
    rename_i bs hbs
    have hu1 : C.P.underlying src = some (.slice e) := tyAt ht h1
    have hu2 : C.P.underlying dst = some .string := tyAt ht h2
    have hu3 : C.P.underlying e = some (.int .u8) := tyAt ht he
    obtain ⟨us, hu⟩ := elemsP_sound (C := C) hr hes hx
    obtain ⟨ns, rfl, rfl⟩ := bytesOf_sound hbs hu.rel
    have key : ∀ a len cap, u = .slice a len cap → Gives C F L w h (convert src dst u) (.v (.string ⟨(ns.map (fun n => UInt8.ofNat n.toNat)).toArray⟩)) [] := by
      intro a len cap hua
      subst hua
      have hlen : len = es.length := by have := hu.len w; simp [Builtin.lenOf] at this; exact this
      have hnl : ns.length = len := by have := hu.length; simp at this; omega
      cases a with
      | none =>
        have : ns = [] := by
          have h0 := hu.first w rfl es.length (Nat.le_refl _)
          simp [Builtin.firstCells] at h0
          have h1 := hu.length
          simp at h1
          rcases h0 with h0 | h0
          · subst h0; exact List.eq_nil_of_length_eq_zero (by simpa using h1)
          · exact h0
        subst this
        refine .same hr ?_ (.c (.v rfl))
        rw [run_convert_bytes_string w src dst e none len cap hu1 hu3 hu2]
        simp [Conv.bytesToString]
        rfl
      | some a =>
        have h0 := hu.first w rfl len (by omega)
        simp only [Builtin.firstCells, Nat.mul_one] at h0
        rw [List.take_of_length_le (by simp; omega)] at h0
        refine .same hr ?_ (.c (.v rfl))
        rw [run_convert_bytes_string w src dst e (some a) len cap hu1 hu3 hu2, run_bytesToString w a len cap ns h0, foldl_push]
        have he0 : ByteArray.empty.data = #[] := rfl
        rw [he0]; simp
    split at hc
    · cases hc
    · cases hc
      cases hx with
      | c hx =>
        cases hx with
        | lstNil => exact key _ _ _ rfl
        | lst => exact key _ _ _ rfl
        | v hv =>
          cases u with
          | string str => exact ((by assumption : ∀ (s : ByteArray), PV.v (Value.string str) = PV.v (Value.string s) → False) str rfl).elim
          | slice a l c => exact key _ _ _ rfl
          | _ => simp [elemsP] at hes
        | _ => simp [elemsP] at hes
      | row => exact key _ _ _ rfl
      | asl => exact key _ _ _ rfl
      | _ => simp [elemsP] at hes
  · cases hc
end Go.Ev
end

section
/- The evaluator's operations are the model's: numbers, maps; all of them together. -/
set_option linter.unusedVariables false
set_option linter.unusedSimpArgs false
namespace Go.Ev
open Go

theorem intArith_sound {P : Program} {w : World} {op : BinOp} {t : TypeId} {k : IntKind} {a b : Int} {v : Value} (hop : op ≠ .shl ∧ op ≠ .shr) (h : intArith op k a b = some v) : (binOp op t (.int k a) (.int k b)).run P w = .ok v w ∧ v.oneCell' = true := by
  cases op <;> simp [intArith] at h hop <;> first
    | (subst h; exact ⟨by simp [binOp, Op.intArith, Op.intBits, Op.intCmp], rfl⟩)
    | (obtain ⟨h0, h⟩ := h; subst h; exact ⟨by simp [binOp, Op.intDiv, h0], rfl⟩)

theorem shiftI_sound {P : Program} {w : World} {op : BinOp} {t : TypeId} {k k' : IntKind} {a b : Int} {v : Value} (hop : op = .shl ∨ op = .shr) (h : shiftI op k a b = some v) : (binOp op t (.int k a) (.int k' b)).run P w = .ok v w ∧ v.oneCell' = true := by
  unfold shiftI at h
  split at h <;> try (cases h; done)
  rename_i hb
  rcases hop with rfl | rfl <;> (simp at h; subst h; exact ⟨by simp [binOp, Op.shift, hb], rfl⟩)

theorem strOp_sound {P : Program} {w : World} {op : BinOp} {t : TypeId} {a b : ByteArray} {v : Value} (h : strOp op a b = some v) : (binOp op t (.string a) (.string b)).run P w = .ok v w ∧ v.oneCell' = true := by
  cases op <;> simp [strOp] at h <;> first
    | (subst h; exact ⟨by simp [binOp, Op.stringOp], rfl⟩)
    | (obtain ⟨h0, h⟩ := h; subst h; refine ⟨?_, rfl⟩; simp [binOp, Op.stringOp]; omega)

theorem eqCells_v {F G L w} : ∀ {ks cs ds b}, eqCells ks cs ds = some b → ∀ {us xs}, VRels F G L w cs us → VRels F G L w ds xs → cs = us.map .v ∧ ds = xs.map .v
  | [], [], [], b, h, _, _, h1, h2 => by cases h1; cases h2; exact ⟨rfl, rfl⟩
  | k :: ks, c :: cs, d :: ds, b, h, us, xs, h1, h2 => by
    unfold eqCells at h
    split at h
    · rename_i heq; cases heq
    · rename_i k' ks' a r b' s he1 he2 he3
      cases he1; cases he2; cases he3
      split at h <;> try (cases h; done)
      split at h <;> try (cases h; done)
      rename_i y1 y2 hy1 hy2
      cases h1 with
      | cons p1 p2 =>
        cases h2 with
        | cons q1 q2 =>
          obtain ⟨rfl, _⟩ := p1.v_iff
          obtain ⟨rfl, _⟩ := q1.v_iff
          obtain ⟨e1, e2⟩ := eqCells_v hy2 p2 q2
          exact ⟨by rw [e1]; simp, by rw [e2]; simp⟩
    · cases h
  | [], _ :: _, _, b, h, _, _, _, _ => by simp [eqCells] at h
  | [], [], _ :: _, b, h, _, _, _, _ => by simp [eqCells] at h
  | _ :: _, [], _, b, h, _, _, _, _ => by simp [eqCells] at h
  | _ :: _, c :: _, [], b, h, _, _, _, _ => by cases c <;> simp [eqCells] at h

theorem equalIn_bool {P : Program} {w : World} {t : TypeId} (hu : P.underlying t = some .bool) (a b : Bool) (d : Nat) : (Op.equalIn (d + 1) t (.bool a) (.bool b)).run P w = .ok (a == b) w := by
  unfold Op.equalIn
  simp [run_underlying hu]

theorem eql_bool {P : Program} {w : World} {t : TypeId} (hu : P.underlying t = some .bool) (a b : Bool) : (binOp .eql t (.bool a) (.bool b)).run P w = .ok (.bool (a == b)) w := by
  show ((Op.equalIn (9999 + 1) t (.bool a) (.bool b)) >>= fun z => Pure.pure (Value.bool z)).run P w = _
  rw [Sem.run_bind, equalIn_bool hu]; rfl

theorem neq_bool {P : Program} {w : World} {t : TypeId} (hu : P.underlying t = some .bool) (a b : Bool) : (binOp .neq t (.bool a) (.bool b)).run P w = .ok (.bool !(a == b)) w := by
  show ((Op.equalIn (9999 + 1) t (.bool a) (.bool b)) >>= fun z => Pure.pure (Value.bool (!z))).run P w = _
  rw [Sem.run_bind, equalIn_bool hu]; rfl

theorem eql_agg {P : Program} {w : World} {t : TypeId} {us xs : Array Value} {b : Bool} (h : (Op.equal t (.agg us) (.agg xs)).run P w = .ok b w) : (binOp .eql t (.agg us) (.agg xs)).run P w = .ok (.bool b) w := by
  show ((Op.equal t (.agg us) (.agg xs)) >>= fun z => Pure.pure (Value.bool z)).run P w = _
  rw [Sem.run_bind, h]; rfl

theorem neq_agg {P : Program} {w : World} {t : TypeId} {us xs : Array Value} {b : Bool} (h : (Op.equal t (.agg us) (.agg xs)).run P w = .ok b w) : (binOp .neq t (.agg us) (.agg xs)).run P w = .ok (.bool !b) w := by
  show ((Op.equal t (.agg us) (.agg xs)) >>= fun z => Pure.pure (Value.bool (!z))).run P w = _
  rw [Sem.run_bind, h]; rfl

theorem isNil_sound {F G L w p b u} (h : isNil p = some b) (hv : VRel F G L w p u) : ∃ a l c, u = .slice a l c ∧ a.isNone = b := by
  unfold isNil at h
  split at h <;> cases h
  · obtain ⟨rfl, _⟩ := hv.v_iff; exact ⟨_, _, _, rfl, rfl⟩
  · obtain ⟨rfl, _⟩ := hv.v_iff; exact ⟨_, _, _, rfl, rfl⟩
  · cases hv with
    | c hv => cases hv with
      | lst h1 h2 h3 => exact ⟨_, _, _, rfl, rfl⟩

theorem equalIn_nil {P : Program} {w : World} {t e : TypeId} (hu : P.underlying t = some (.slice e)) {a b : Option Addr} (l c m k : Nat) (h : (a.isNone || b.isNone) = true) (d : Nat) : (Op.equalIn (d + 1) t (.slice a l c) (.slice b m k)).run P w = .ok (a.isNone && b.isNone) w := by
  unfold Op.equalIn
  cases a <;> cases b <;> first | (cases h; done) | simp [run_underlying hu]

theorem eqGuard_at_slice {op : BinOp} {t : TypeId} {x y : Operand} {a b : Option Addr} {l c m k : Nat} : eqGuard op t x y (.slice a l c) (.slice b m k) = pure () := by
  unfold eqGuard
  split <;> rfl

theorem eql_nil {P : Program} {w : World} {t e : TypeId} (hu : P.underlying t = some (.slice e)) {a b : Option Addr} (l c m k : Nat) (h : (a.isNone || b.isNone) = true) : (binOp .eql t (.slice a l c) (.slice b m k)).run P w = .ok (.bool (a.isNone && b.isNone)) w := by
  show ((Op.equalIn (9999 + 1) t (.slice a l c) (.slice b m k)) >>= fun z => Pure.pure (Value.bool z)).run P w = _
  rw [Sem.run_bind, equalIn_nil hu l c m k h]; rfl

theorem neq_nil {P : Program} {w : World} {t e : TypeId} (hu : P.underlying t = some (.slice e)) {a b : Option Addr} (l c m k : Nat) (h : (a.isNone || b.isNone) = true) : (binOp .neq t (.slice a l c) (.slice b m k)).run P w = .ok (.bool !(a.isNone && b.isNone)) w := by
  show ((Op.equalIn (9999 + 1) t (.slice a l c) (.slice b m k)) >>= fun z => Pure.pure (Value.bool (!z))).run P w = _
  rw [Sem.run_bind, equalIn_nil hu l c m k h]; rfl

theorem binP_sound {C : Ctx} (ht : TablesOk C) {F G L w op t x y r u uy} {ox oy : Operand} (hc : binP C op t x y = some r) (hx : VRel F G L w x u) (hy : VRel F G L w y uy) :
    ∃ v, (do eqGuard op t ox oy u uy; binOp op t u uy : Sem Value).run C.P w = .ok v w ∧ VRel F G L w r v := by
  unfold binP at hc
  split at hc
  · rename_i k a k' b
    obtain ⟨rfl, _⟩ := hx.v_iff
    obtain ⟨rfl, _⟩ := hy.v_iff
    have hg : eqGuard op t ox oy (.int k a) (.int k' b) = pure () := eqGuard_at_int ..
    rw [hg, pure_bind]
    split at hc
    · cases hs : shiftI .shl k a b with
      | none => simp [hs] at hc
      | some v => simp [hs] at hc; subst hc; obtain ⟨h1, h2⟩ := shiftI_sound (P := C.P) (w := w) (t := t) (k' := k') (.inl rfl) hs; exact ⟨v, h1, .c (.v h2)⟩
    · cases hs : shiftI .shr k a b with
      | none => simp [hs] at hc
      | some v => simp [hs] at hc; subst hc; obtain ⟨h1, h2⟩ := shiftI_sound (P := C.P) (w := w) (t := t) (k' := k') (.inr rfl) hs; exact ⟨v, h1, .c (.v h2)⟩
    · rename_i hn1 hn2
      split at hc <;> try (cases hc; done)
      rename_i hk; subst hk
      cases hs : intArith op k a b with
      | none => simp [hs] at hc
      | some v => simp [hs] at hc; subst hc; obtain ⟨h1, h2⟩ := intArith_sound (P := C.P) (w := w) (t := t) ⟨fun h => hn1 h, fun h => hn2 h⟩ hs; exact ⟨v, h1, .c (.v h2)⟩
  · rename_i a b
    obtain ⟨rfl, _⟩ := hx.v_iff
    obtain ⟨rfl, _⟩ := hy.v_iff
    have hg : eqGuard op t ox oy (.string a) (.string b) = pure () := eqGuard_at_string ..
    rw [hg, pure_bind]
    cases hs : strOp op a b with
    | none => simp [hs] at hc
    | some v => simp [hs] at hc; subst hc; obtain ⟨h1, h2⟩ := strOp_sound (P := C.P) (w := w) (t := t) hs; exact ⟨v, h1, .c (.v h2)⟩
  · rename_i a b
    obtain ⟨rfl, _⟩ := hx.v_iff
    obtain ⟨rfl, _⟩ := hy.v_iff
    have hg : eqGuard op t ox oy (.bool a) (.bool b) = pure () := eqGuard_at_bool ..
    rw [hg, pure_bind]
    split at hc
    · rename_i hty
      cases hc
      have hu : C.P.underlying t = some .bool := tyAt ht hty
      exact ⟨_, eql_bool hu a b, .c (.v rfl)⟩
    · rename_i hty
      cases hc
      have hu : C.P.underlying t = some .bool := tyAt ht hty
      exact ⟨_, neq_bool hu a b, .c (.v rfl)⟩
    · cases hc
  · rename_i cs ds
    split at hc <;> try (cases hc; done)
    rename_i ks heq
    obtain ⟨us, rfl, _, h2⟩ := hx.agg_inv
    obtain ⟨xs, rfl, _, h4⟩ := hy.agg_inv
    split at hc <;> try (cases hc; done)
    · rename_i b hb
      cases hc
      obtain ⟨e1, e2⟩ := eqCells_v hb h2 h4
      have := ht.eq t ks cs ds b heq hb us xs w e1 e2 .eql (.inl rfl) ox oy
      exact ⟨.bool b, by rw [Sem.run_bind, this.1, Result.andThen_ok, eql_agg this.2], .c (.v rfl)⟩
    · rename_i b hb
      cases hc
      obtain ⟨e1, e2⟩ := eqCells_v hb h2 h4
      have := ht.eq t ks cs ds b heq hb us xs w e1 e2 .neq (.inr rfl) ox oy
      exact ⟨.bool (!b), by rw [Sem.run_bind, this.1, Result.andThen_ok, neq_agg this.2], .c (.v rfl)⟩
  · split at hc <;> try (cases hc; done)
    · rename_i hty ha hb
      split at hc <;> try (cases hc; done)
      rename_i hab
      cases hc
      obtain ⟨p, l, c, rfl, e1⟩ := isNil_sound ha hx
      obtain ⟨q, m, k, rfl, e2⟩ := isNil_sound hb hy
      subst e1; subst e2
      rw [eqGuard_at_slice, pure_bind]
      exact ⟨_, eql_nil (tyAt ht hty) l c m k hab, .c (.v rfl)⟩
    · rename_i hty ha hb
      split at hc <;> try (cases hc; done)
      rename_i hab
      cases hc
      obtain ⟨p, l, c, rfl, e1⟩ := isNil_sound ha hx
      obtain ⟨q, m, k, rfl, e2⟩ := isNil_sound hb hy
      subst e1; subst e2
      rw [eqGuard_at_slice, pure_bind]
      exact ⟨_, neq_nil (tyAt ht hty) l c m k hab, .c (.v rfl)⟩

theorem unP_sound {P : Program} {F G L w op x r u} (hc : unP op x = some r) (hx : VRel F G L w x u) : ∃ v, (Op.unary op u).run P w = .ok v w ∧ VRel F G L w r v := by
  unfold unP at hc
  split at hc
  · cases hc; obtain ⟨rfl, _⟩ := hx.v_iff
    exact ⟨_, by simp [Op.unary], .c (.v rfl)⟩
  · cases hc; obtain ⟨rfl, _⟩ := hx.v_iff
    exact ⟨_, by simp [Op.unary, Op.intArith], .c (.v rfl)⟩
  · obtain ⟨rfl, _⟩ := hx.v_iff
    rename_i k n _
    simp [intArith] at hc; subst hc
    exact ⟨_, by simp [Op.unary, Op.intBits], .c (.v rfl)⟩
  · cases hc

theorem keyOk_isKey {C : Ctx} (ht : TablesOk C) {kt : TypeId} {k : Value} (h : C.keyOk kt k = true) : ∃ d, C.P.underlying kt = some d ∧ MapKept.IsKey d k := by
  unfold Ctx.keyOk at h
  split at h
  · rename_i kk k' n hty
    exact ⟨_, (tyAt ht hty : C.P.underlying kt = some (.int kk)), (by simpa using h : k' = kk)⟩
  · rename_i s hty
    exact ⟨_, (tyAt ht hty : C.P.underlying kt = some .string), trivial⟩
  · cases h

theorem sameNow_eqV {d : TypeDesc} {k e : Value} {b : Bool} (hk : MapKept.IsKey d k) (h : eqV k e = some b) : Instr.sameNow d k e = some b := by
  cases d <;> cases k <;> cases e <;> simp_all [MapKept.IsKey, eqV, Instr.sameNow]

theorem findP_sound {d : TypeDesc} {k : Value} (hk : MapKept.IsKey d k) : ∀ {l : List MapEntry} {i : Nat} {r}, findP k (l.map (·.key)) i = some r →
    (r = none ∧ Instr.findNow d k l i = some none) ∨ ∃ j e, r = some (i + j) ∧ l[j]? = some e ∧ eqV k e.key = some true ∧ Instr.findNow d k l i = some (some (i + j, e.val))
  | [], i, r, h => by simp [findP] at h; subst h; exact .inl ⟨rfl, rfl⟩
  | e :: l, i, r, h => by
    simp only [List.map_cons, findP] at h
    split at h
    · rename_i he
      cases h
      exact .inr ⟨0, e, rfl, rfl, he, by simp [Instr.findNow, sameNow_eqV hk he]⟩
    · rename_i he
      rcases findP_sound hk h with ⟨h1, h2⟩ | ⟨j, e', h1, h2, h3, h4⟩
      · exact .inl ⟨h1, by simp [Instr.findNow, sameNow_eqV hk he, h2]⟩
      · exact .inr ⟨j + 1, e', by rw [h1]; congr 1; omega, by simpa using h2, h3, by simp [Instr.findNow, sameNow_eqV hk he, h4]; omega⟩
    · cases h

theorem lookupP_sound {C : Ctx} (ht : TablesOk C) {F L w h t m k ok r um uk} (hr : HRel F L w h) (hc : lookupP C h t m k ok = some r) (hm : VRel F h.G L w m um) (hk : VRel F h.G L w k uk) :
    ∃ v, (Instr.lookup t um uk ok).run C.P w = .ok v w ∧ VRel F h.G L w r v := by
  unfold lookupP at hc
  split at hc <;> try (cases hc; done)
  rename_i kt et key hty
  have hu : C.P.underlying t = some (.map kt et) := tyAt ht hty
  obtain ⟨rfl, _⟩ := hk.v_iff
  split at hc <;> try (cases hc; done)
  rename_i hkey
  obtain ⟨d, hd, hik⟩ := keyOk_isKey ht hkey
  have hck : ∀ b, (Instr.checkKey b 10000 kt uk).run C.P w = .ok () w := fun b => MapKept.run_checkKey hd hik b 9999
  -- what the map holds
  have key : ∀ (es : List MapEntry) (vs : List PV), (∀ i v, Instr.findNow d uk es 0 = some (some (i, v)) → (Instr.lookup t um uk ok).run C.P w = .ok (if ok then .tuple #[v, .bool true] else v) w) →
      (∀ v, Instr.findNow d uk es 0 = some none → (zeroValue et).run C.P w = .ok v w → (Instr.lookup t um uk ok).run C.P w = .ok (if ok then .tuple #[v, .bool false] else v) w) → VRels F h.G L w vs (es.map (·.val)) →
      (match findP uk (es.map (·.key)) 0, zeroElem C et with
        | some (some i), _ => match vs[i]? with
          | some x => some (if ok then .tuple [x, .v (.bool true)] else x)
          | none => none
        | some none, some z => some (if ok then .tuple [z, .v (.bool false)] else z)
        | _, _ => none) = some r →
      ∃ v, (Instr.lookup t um uk ok).run C.P w = .ok v w ∧ VRel F h.G L w r v := by
    intro es vs hx1 hx2 hv hc
    split at hc
    · rename_i x0 i hf
      split at hc <;> try (cases hc; done)
      rename_i y hy
      cases hc
      rcases findP_sound hik hf with ⟨h1, _⟩ | ⟨j, e, h1, h2, h3, h4⟩
      · cases h1
      · simp at h1; subst h1
        obtain ⟨u, hu1, hu2⟩ := hv.get hy
        simp [h2] at hu1; subst hu1
        refine ⟨_, hx1 _ _ h4, ?_⟩
        cases ok
        · exact hu2
        · exact .tuple (us := [e.val, .bool true]) (.cons hu2 (.cons (.c (.v rfl)) .nil))
    · rename_i z hf hz
      cases hc
      rcases findP_sound hik hf with ⟨_, h2⟩ | ⟨j, e, h1, _⟩
      · have hagg : ∃ b, C.isAgg et = some b := by unfold zeroElem at hz; split at hz <;> first | exact ⟨_, by assumption⟩ | cases hz
        obtain ⟨b, hb⟩ := hagg
        obtain ⟨zs, zv, i, _, _, _, hz4, hz5, _, _, _, hz9⟩ := zeroElem_sound ht hb hz
        refine ⟨_, hx2 zv h2 (by simp [zeroValue, typeInfo, hz4, hz5]), ?_⟩
        cases ok
        · exact hz9 _ _ _ _
        · exact .tuple (us := [zv, .bool false]) (.cons (hz9 _ _ _ _) (.cons (.c (.v rfl)) .nil))
      · cases h1
    · cases hc
  have kmap : ∀ B es clock vs, um = .map (some B) → w.heap[B]? = some (.map es clock) → VRels F h.G L w vs (es.toList.map (·.val)) →
      (match findP uk (es.toList.map (·.key)) 0, zeroElem C et with
        | some (some i), _ => match vs[i]? with
          | some x => some (if ok then .tuple [x, .v (.bool true)] else x)
          | none => none
        | some none, some z => some (if ok then .tuple [z, .v (.bool false)] else z)
        | _, _ => none) = some r → ∃ v, (Instr.lookup t um uk ok).run C.P w = .ok v w ∧ VRel F h.G L w r v := by
    intro B es clock vs hum hB hv hc
    subst hum
    refine key es.toList vs (fun i v hf => ?_) (fun v hf hz => ?_) hv hc
    · have hfk := MapKept.run_findKey (w := w) hd hf
      simp [Instr.lookup, run_underlying hu, getObj_map hB, hck, hfk]
    · have hfk := MapKept.run_findKey (w := w) hd hf
      simp [Instr.lookup, run_underlying hu, getObj_map hB, hck, hfk, hz]
  split at hc <;> try (cases hc; done)
  rename_i ks vs hfound
  unfold foundP at hfound
  split at hfound
  · cases hfound
    obtain ⟨rfl, _⟩ := hm.v_iff
    refine key [] [] (fun i v hf => by simp [Instr.findNow] at hf) (fun v hf hz => ?_) .nil hc
    have hfk := MapKept.run_findKey (w := w) hd hf
    simp [Instr.lookup, run_underlying hu, hck, hfk, hz]
  · rename_i i g
    split at hfound <;> try (cases hfound; done)
    rename_i hg
    split at hfound <;> try (cases hfound; done)
    all_goals
      rename_i ks' vs' hH
      cases hfound
      obtain ⟨B, es, clock, hum, hL, h1, h2, h3⟩ := map_inv hr hg (by first | exact .inl hH | exact .inr hH) hm
      exact kmap B es clock vs hum h1 h3 (by rw [h2.1]; exact hc)
  · cases hfound
    obtain ⟨B, es, clock, hum, hF, h1, h2, h3⟩ := fmap_inv hm
    exact kmap B es clock vs hum h1 h3 (by rw [h2.1]; exact hc)
  · cases hfound

theorem eqV_ne {k e : Value} (h : eqV k e = some false) : e ≠ k := by
  rintro rfl
  cases e <;> simp only [eqV] at h <;> (try (cases h; done)) <;> first
    | (simp at h; done)
    | (have h2 := Option.some.inj h; rw [(MapKept.bytes_beq _ _).2 rfl] at h2; cases h2)

theorem findP_none {k : Value} : ∀ {l : List MapEntry} {i : Nat}, findP k (l.map (·.key)) i = some none → ∀ x ∈ l, x.key ≠ k
  | [], _, _, x, hx => by cases hx
  | e :: l, i, h, x, hx => by
    simp only [List.map_cons, findP] at h
    split at h
    · cases h
    · rename_i he
      rcases List.mem_cons.1 hx with rfl | hx
      · exact eqV_ne he
      · exact findP_none h x hx
    · cases h

theorem eqV_same {k e : Value} (h : eqV k e = some true) : Instr.sameBits 10000 e k = true ∧ e = k := by
  cases k <;> cases e <;> simp [eqV, MapKept.bytes_beq] at h
  · subst h; exact ⟨by simp [Instr.sameBits], rfl⟩
  · obtain ⟨rfl, rfl⟩ := h; exact ⟨by simp [Instr.sameBits], rfl⟩
  · subst h; exact ⟨by simp [Instr.sameBits, MapKept.bytes_beq], rfl⟩

theorem mapUpdP_sound {C : Ctx} (ht : TablesOk C) {F L w h t m k x ups um uk ux} (hr : HRel F L w h) (hc : mapUpdP C h t m k x = some ups) (hm : VRel F h.G L w m um) (hk : VRel F h.G L w k uk) (hx : VRel F h.G L w x ux) :
    ∃ w', (Instr.mapUpdate t um uk ux).run C.P w = .ok () w' ∧ HRel F L w' (h.app ups) ∧ Step F L w h F L w' (h.app ups) := by
  unfold mapUpdP at hc
  split at hc <;> try (cases hc; done)
  rename_i kt et key i g hty
  have hu : C.P.underlying t = some (.map kt et) := tyAt ht hty
  obtain ⟨rfl, _⟩ := hk.v_iff
  split at hc <;> try (cases hc; done)
  rename_i hcond
  obtain ⟨hkey, hg⟩ := hcond
  obtain ⟨d, hd, hik⟩ := keyOk_isKey ht hkey
  split at hc <;> try (cases hc; done)
  rename_i ks vs hH
  obtain ⟨B, es, clock, rfl, hL, h1, h2, h3⟩ := map_inv hr hg (.inl hH) hm
  have hck : ∀ b, (Instr.checkKey b 10000 kt uk).run C.P w = .ok () w := fun b => MapKept.run_checkKey hd hik b 9999
  have hBlt : B < w.heap.size := (Array.getElem?_eq_some_iff.1 h1).1
  -- the block is another map
  have put : ∀ (es' : Array MapEntry) (clock' : Nat) (vs' : List PV) (ks' : List Value), KeysAre es' clock' ks' → VRels F h.G L w vs' (es'.toList.map (·.val)) →
      HRel F L { w with heap := w.heap.setIfInBounds B (.map es' clock') } (h.app [(i, g, .map ks' vs')]) ∧ Step F L w h F L { w with heap := w.heap.setIfInBounds B (.map es' clock') } (h.app [(i, g, .map ks' vs')]) := by
    intro es' clock' vs' ks' hks hvs
    subst hg
    obtain ⟨s1, s2⟩ := MapKept.heap_set (o' := .map es' clock') h1
    refine step_set (w' := { w with heap := w.heap.setIfInBounds B (.map es' clock') }) hr (by rw [hH]; rfl) hL s2 (by simp) (fun T n hs => by simp [World.shape?, h1] at hs) rfl rfl rfl _ (fun hl hnF => ?_)
    exact .map hnF s1 hks (hvs.later hl)
  split at hc <;> try (cases hc; done)
  · rename_i j hf
    cases hc
    rw [← h2.1] at hf
    rcases findP_sound hik hf with ⟨hh, _⟩ | ⟨j', e, hj, he, heq, hfn⟩
    · cases hh
    · simp at hj; subst hj
      obtain ⟨hsb, hek⟩ := eqV_same heq
      have hfk := MapKept.run_findKey (w := w) hd hfn
      have hej : es[j]? = some e := by simpa using he
      have hjl : j < es.size := (Array.getElem?_eq_some_iff.1 hej).1
      have hgetE : es[j] = e := (Array.getElem?_eq_some_iff.1 hej).2
      have hmod : (es.modify j fun e => { e with key := uk, val := ux }).toList = es.toList.set j { e with key := uk, val := ux } := by
        apply List.ext_getElem?
        intro q
        rw [Array.getElem?_toList, Array.getElem?_modify, List.getElem?_set]
        by_cases hq : j = q
        · subst hq; simp [hej, hjl, hgetE]
        · simp [hq]
      obtain ⟨p1, p2⟩ := put (es.modify j fun e => { e with key := uk, val := ux }) clock (vs.set j x) ks ⟨by
          rw [hmod, ← h2.1]
          apply List.ext_getElem?
          intro q
          simp only [List.getElem?_map, List.getElem?_set]
          by_cases hq : j = q
          · subst hq; simp [hjl, hej, hek, hgetE]
          · simp [hq], MapKept.stamped_modify h2.2 j _ (fun _ _ => rfl) (fun e' _ he' => by rw [hej] at he'; cases he'; exact hek.symm)⟩ (by
          rw [hmod]
          refine vrels_of (by have := h3.length; simpa using this) (fun q p hq => ?_)
          rw [List.getElem?_set] at hq
          simp only [List.getElem?_map, List.getElem?_set]
          by_cases hjq : j = q
          · subst hjq
            rw [if_pos rfl] at hq
            split at hq <;> try (cases hq; done)
            cases hq
            exact ⟨ux, by simp [hjl], hx⟩
          · rw [if_neg hjq] at hq
            obtain ⟨u, hu1, hu2⟩ := h3.get hq
            exact ⟨u, by simpa [hjq] using hu1, hu2⟩)
      refine ⟨_, ?_, p1, p2⟩
      have hsb' : Instr.sameBits 10000 e.key uk = true := hsb
      simp [Instr.mapUpdate, run_underlying hu, getObj_map h1, hck, hfk, Instr.keyThatStays, hej, hsb', MapKept.run_setObj_map _ h1]
  · rename_i hf
    cases hc
    rw [← h2.1] at hf
    rcases findP_sound hik hf with ⟨_, hfn⟩ | ⟨j', e, hj, _⟩
    · have hfk := MapKept.run_findKey (w := w) hd hfn
      obtain ⟨p1, p2⟩ := put (es.push { key := uk, val := ux, born := clock }) (clock + 1) (vs ++ [x]) (ks ++ [uk]) ⟨by simp [h2.1], MapKept.stamped_push h2.2 (findP_none hf)⟩ (by
        simp only [Array.toList_push, List.map_append, List.map_cons, List.map_nil]
        exact h3.append (.cons hx .nil))
      refine ⟨_, ?_, p1, p2⟩
      simp [Instr.mapUpdate, run_underlying hu, getObj_map h1, hck, hfk, MapKept.run_setObj_map _ h1]
    · cases hj
end Go.Ev
end

section
/- Every operation of the evaluator is the model's. -/
set_option linter.unusedVariables false
set_option linter.unusedSimpArgs false
namespace Go.Ev
open Go

def TRel (F : Nat → Prop) (G : Nat → Nat) (L : Nat → Option Nat) (w : World) (t : Nat → PV) (a : Act) : Prop := ∀ i, VRel F G L w (t i) (a.tmps.getD i undef)

theorem ofValue_sound {F G L w} (x : Value) : VRel F G L w (ofValue x) x := by
  cases x <;> simp only [ofValue] <;> try exact .c (.v rfl)
  · rename_i cs
    split
    · rename_i h
      rw [List.all_eq_true] at h
      have := VRel.agg (F := F) (G := G) (L := L) (w := w) (isCell_v h) (vrels_v h)
      simpa using this
    · exact .dead
  · exact .dead

theorem opd_sound {F G L w t a} (h : TRel F G L w t a) (x : Operand) : VRel F G L w (opd t x) (a.eval x) := by
  cases x with
  | tmp i => exact h i
  | const v => exact ofValue_sound v
  | global g => exact .c (.v rfl)
  | func f => exact .c (.func (us := []) (xs := []) .nil .nil)

theorem parts_rel {F G L w t a} (h : TRel F G L w t a) : ∀ (ps : List (Nat × Operand)), PartsRel F G L w (ps.map fun (i, x) => (i, opd t x)) (ps.map fun (i, x) => (i, a.eval x))
  | [] => .nil
  | (i, x) :: ps => .cons (opd_sound h x) (parts_rel h ps)

theorem opds_rel {F G L w t a} (h : TRel F G L w t a) : ∀ (xs : List Operand), VRels F G L w (xs.map (opd t)) (xs.map a.eval)
  | [] => .nil
  | x :: xs => .cons (opd_sound h x) (opds_rel h xs)

theorem opt_rel {F G L w t a} (h : TRel F G L w t a) (x : Option Operand) : OptRel F G L w (x.map (opd t)) (x.map a.eval) := by
  cases x with
  | none => trivial
  | some x => exact opd_sound h x

/-- What an operation gives. -/
def OpGives (C : Ctx) (F : Nat → Prop) (L : Nat → Option Nat) (w : World) (h : Hp) (s : Sem Next) (r : PV) (ups : Ups) : Prop :=
  ∃ v w' L', (s.run C.P w = .ok (.value v) w' ∨ (s.run C.P w = .ok .skip w' ∧ v = undef)) ∧ HRel F L' w' (h.app ups) ∧ Step F L w h F L' w' (h.app ups) ∧ VRel F (h.app ups).G L' w' r v

theorem Gives.op {C F L w h s r ups} (g : Gives C F L w h s r ups) : OpGives C F L w h (do pure (.value (← s))) r ups := by
  obtain ⟨v, w', L', h1, h2, h3, h4⟩ := g
  exact ⟨v, w', L', .inl (by simp [h1]), h2, h3, h4⟩

theorem only_op {C : Ctx} {F L w} {h : Hp} {s : Sem Value} {r : PV} {ups : Ups} {x : Option PV} (hr : HRel F L w h) (hx : (match x with | some y => some (y, []) | none => none) = some (r, ups)) (hs : ∀ y, x = some y → ∃ v, s.run C.P w = .ok v w ∧ VRel F h.G L w y v) :
    OpGives C F L w h (do pure (.value (← s))) r ups := by
  cases x with
  | none => cases hx
  | some y =>
    cases hx
    obtain ⟨v, h1, h2⟩ := hs _ rfl
    exact Gives.op (.same hr h1 h2)

theorem unit_op {C : Ctx} {F L w} {h : Hp} {s : Sem Unit} {r : PV} {ups : Ups} {x : Option Ups} (hx : (match x with | some y => some (PV.dead, y) | none => none) = some (r, ups)) (hs : ∀ y, x = some y → ∃ w', s.run C.P w = .ok () w' ∧ HRel F L w' (h.app y) ∧ Step F L w h F L w' (h.app y)) :
    OpGives C F L w h (do s; pure .skip) r ups := by
  cases x with
  | none => cases hx
  | some y =>
    cases hx
    obtain ⟨w', h1, h2, h3⟩ := hs _ rfl
    exact ⟨undef, w', L, .inr ⟨by simp [h1], rfl⟩, h2, h3, .dead⟩

theorem nilCheckP_sound {C : Ctx} {F L w} {h : Hp} {o : Oper} {a : Act} {x : Operand} {ox : PV} {r : PV} {ups : Ups} (hr : HRel F L w h) (ho : o.op = .nilCheck x) (hv : VRel F h.G L w ox (a.eval x)) (hx : (match nilCheckP ox with | some y => some (y, []) | none => none) = some (r, ups)) :
    OpGives C F L w h (execOp a.eval o) r ups := by
  have fin : ∀ u, a.eval x = u → VRel F h.G L w r u → (∀ z, u = .pointer (some z) ∨ (∃ f fs cs, u = .func (.func f) fs cs) → True) → ups = [] → (execOp a.eval o).run C.P w = .ok (.value u) w → OpGives C F L w h (execOp a.eval o) r ups := by
    intro u _ hu _ hups hrun
    subst hups
    exact ⟨u, w, L, .inl hrun, hr, .refl _ _ _ _, hu⟩
  cases hn : nilCheckP ox with
  | none => rw [hn] at hx; cases hx
  | some y =>
    rw [hn] at hx; cases hx
    unfold nilCheckP at hn
    split at hn <;> try (cases hn; done)
    · cases hn
      obtain ⟨he, _⟩ := hv.v_iff
      exact fin _ he (he ▸ hv) (fun _ _ => trivial) rfl (by simp [execOp, ho, he])
    · cases hn
      cases hu : a.eval x <;> rw [hu] at hv <;> cases hv <;> try (rename_i hcr; cases hcr; done)
      rename_i ad h1 h2
      exact fin _ hu (.ptr h1 h2) (fun _ _ => trivial) rfl (by simp [execOp, ho, hu])
    · cases hn
      cases hu : a.eval x <;> rw [hu] at hv <;> cases hv <;> try (rename_i hcr; cases hcr; done)
      rename_i ad h1 h2
      exact fin _ hu (.rptr h1 h2) (fun _ _ => trivial) rfl (by simp [execOp, ho, hu])
    · cases hn
      obtain ⟨B, o', he, h1, h2⟩ := lptr_inv hv
      exact fin _ he (.c (.lptr h1 h2)) (fun _ _ => trivial) rfl (by simp [execOp, ho, he])
    · cases hn
      obtain ⟨us, xs, he, h1, h2⟩ := hv.func_inv
      exact fin _ he (.func h1 h2) (fun _ _ => trivial) rfl (by simp [execOp, ho, he])

theorem ty_not_iface {C : Ctx} (ht : TablesOk C) {t : TypeId} (h : C.ty t = .other → False) : ∃ d, C.P.underlying t = some d ∧ ∀ ms, d ≠ .interface ms := by
  have := ht.ty t
  cases hy : C.ty t <;> rw [hy] at this <;> simp only [TyOk] at this <;> first
    | exact (h hy).elim
    | (obtain ⟨d, hd, hp⟩ := this; refine ⟨d, hd, fun k hk => ?_⟩; subst hk; simp at hp; done)
    | exact ⟨_, this, fun k hk => by cases hk⟩
    | (obtain ⟨f, hu, _⟩ := this; exact ⟨_, hu, fun k hk => by cases hk⟩)

set_option maxHeartbeats 1000000 in
theorem evalOp_sound {C : Ctx} (ht : TablesOk C) {F L w} {dp : Nat} {o : Oper} {st : St} {a : Act} {r : PV} {ups : Ups} (hr : HRel F L w st.h) (hta : TRel F st.h.G L w st.t a) (hc : evalOp C dp o st = some (r, ups)) :
    OpGives C F L w st.h (execOp a.eval o) r ups := by
  obtain ⟨dst, op, type, pos, after, guard⟩ := o
  have O := fun x => opd_sound hta x
  unfold evalOp at hc
  dsimp only at hc
  split at hc
  · cases hc; exact ⟨_, w, L, .inl rfl, hr, .refl _ _ _ _, O _⟩
  · cases hc; exact ⟨_, w, L, .inl rfl, hr, .refl _ _ _ _, O _⟩
  · rename_i c x y
    have hcv := O c
    split at hc <;> try (cases hc; done)
    · rename_i he
      rw [he] at hcv; cases hc
      obtain ⟨hb, _⟩ := hcv.v_iff
      exact ⟨_, w, L, .inl (by simp [execOp, hb, asBool]), hr, .refl _ _ _ _, O _⟩
    · rename_i he
      rw [he] at hcv; cases hc
      obtain ⟨hb, _⟩ := hcv.v_iff
      exact ⟨_, w, L, .inl (by simp [execOp, hb, asBool]), hr, .refl _ _ _ _, O _⟩
  · split at hc <;> try (cases hc; done)
    rename_i zs hz
    cases hc
    exact (alloc_sound ht hr hz).op
  · split at hc <;> try (cases hc; done)
    rename_i cs hcs
    cases hc
    exact (box_sound hr hcs (O _)).op
  · split at hc <;> try (cases hc; done)
    rename_i y hy
    cases hc
    exact (buildP_sound ht hr (by rw [Array.toList_map]; exact parts_rel hta _) hy).op
  · exact (buildSliceP_sound ht hr (by rw [Array.toList_map]; exact parts_rel hta _) hc).op
  · exact only_op hr hc (fun y hy => loadP_sound ht hr hy (O _))
  · exact unit_op hc (fun y hy => storeP_sound ht hr hy (O _) (O _))
  · exact nilCheckP_sound hr rfl (O _) hc
  · exact only_op hr hc (fun y hy => binP_sound ht hy (O _) (O _))
  · exact only_op hr hc (fun y hy => unP_sound hy (O _))
  · exact (convP_sound ht hr hc (O _)).op
  · rename_i t x
    split at hc <;> try (cases hc; done)
    rename_i hne
    cases hc
    obtain ⟨d, hd, hni⟩ := ty_not_iface ht hne
    refine ⟨.iface t (a.eval x), w, L, .inl ?_, hr, .refl _ _ _ _, .iface (O x)⟩
    cases d <;> first | exact absurd rfl (hni _) | simp [execOp, Instr.makeInterface, run_underlying hd]
  · rename_i fn first captured
    cases hc
    refine ⟨_, w, L, .inl rfl, hr, .refl _ _ _ _, ?_⟩
    have := VRel.func (fn := fn) (opds_rel hta first.toList) (opds_rel hta captured.toList)
    have e1 : ∀ (xs : Array Operand), (xs.toList.map a.eval).toArray = xs.map a.eval := fun xs => by rw [← Array.toList_map, Array.toArray_toList]
    rw [e1, e1] at this
    exact this
  · split at hc <;> try (cases hc; done)
    rename_i kt et hty
    cases hc
    obtain ⟨k1, k2⟩ := step_new hr (w' := w.alloc (.map #[] 0)) (o := .map #[] 0) rfl rfl rfl rfl (idOf dp (dst.getD 99999) 0) (.map [] []) (fun hl hnF => .map hnF (heap_alloc_new w _) ⟨rfl, MapKept.stamped_empty 0⟩ .nil)
    refine ⟨.map (some w.heap.size), _, _, .inl ?_, k1, k2, .map ?_ (fun _ => upd_same _ _ _)⟩
    · simp [execOp, Instr.makeMap]
    · show _ ≤ upd st.h.G _ _ _
      rw [upd_same]; exact Nat.le_refl _
  · exact (makeSliceP_sound ht hr hc (O _) (O _)).op
  · exact (sliceP_sound ht hr hc (O _) (opt_rel hta _) (opt_rel hta _) (opt_rel hta _)).op
  · exact only_op hr hc (fun y hy => fieldP_sound ht hy (O _))
  · exact only_op hr hc (fun y hy => indexAddrP_sound ht hy (O _) (O _))
  · exact only_op hr hc (fun y hy => indexP_sound ht hy (O _) (O _))
  · exact only_op hr hc (fun y hy => lookupP_sound ht hr hy (O _) (O _))
  · exact unit_op hc (fun y hy => mapUpdP_sound ht hr hy (O _) (O _) (O _))
  · exact unit_op hc (fun y hy => mapUpdP_sound ht hr hy (O _) (O _) (O _))
  · split at hc <;> try (cases hc; done)
    rename_i x ix p vs he
    have hx := O x
    rw [he] at hx
    obtain ⟨us, hu, hv⟩ := hx.tuple_inv
    exact only_op (s := Instr.extract (a.eval x) ix) hr hc (fun y hy => by
      obtain ⟨u, hu1, hu2⟩ := hv.get hy
      exact ⟨u, by simp [hu, Instr.extract, hu1], hu2⟩)
  · rename_i args argTypes
    split at hc <;> try (cases hc; done)
    rename_i x t hargs hat
    split at hc <;> try (cases hc; done)
    rename_i n hn
    cases hc
    obtain rfl : args = #[x] := by rw [← Array.toArray_toList (xs := args), hargs]
    have := lenP_sound (ty := type) ht hat hr hn (O x)
    exact ⟨_, w, L, .inl (by simp [execOp, resolve, invoke, builtin, this]), hr, .refl _ _ _ _, .c (.v rfl)⟩
  · rename_i args argTypes
    split at hc <;> try (cases hc; done)
    rename_i x y t t2 hargs hat hat2
    obtain rfl : args = #[x, y] := by rw [← Array.toArray_toList (xs := args), hargs]
    obtain ⟨v, w', L', h1, h2, h3, h4⟩ := appendP_sound (ty := type) ht hat hat2 hr hc (O x) (O y)
    exact ⟨v, w', L', .inl (by simp [execOp, resolve, invoke, builtin, h1]), h2, h3, h4⟩
  · rename_i args argTypes
    split at hc <;> try (cases hc; done)
    rename_i x y t hargs hat
    obtain rfl : args = #[x, y] := by rw [← Array.toArray_toList (xs := args), hargs]
    obtain ⟨v, w', L', h1, h2, h3, h4⟩ := copyP_sound (ty := type) ht hat hr hc (O x) (O y)
    exact ⟨v, w', L', .inl (by simp [execOp, resolve, invoke, builtin, h1]), h2, h3, h4⟩
  · rename_i args argTypes
    split at hc <;> try (cases hc; done)
    rename_i x y hargs
    have hx := O x
    have hy := O y
    split at hc <;> try (cases hc; done)
    rename_i k p k' q e1 e2
    cases hc
    rw [e1] at hx; rw [e2] at hy
    obtain ⟨hx, _⟩ := hx.v_iff
    obtain ⟨hy, _⟩ := hy.v_iff
    obtain rfl : args = #[x, y] := by rw [← Array.toArray_toList (xs := args), hargs]
    exact ⟨_, w, L, .inl (by simp [execOp, resolve, invoke, builtin, Builtin.min_, Builtin.min2, hx, hy]), hr, .refl _ _ _ _, .c (.v rfl)⟩
  · rename_i args argTypes
    split at hc <;> try (cases hc; done)
    rename_i x y hargs
    have hx := O x
    have hy := O y
    split at hc <;> try (cases hc; done)
    rename_i k p k' q e1 e2
    cases hc
    rw [e1] at hx; rw [e2] at hy
    obtain ⟨hx, _⟩ := hx.v_iff
    obtain ⟨hy, _⟩ := hy.v_iff
    obtain rfl : args = #[x, y] := by rw [← Array.toArray_toList (xs := args), hargs]
    exact ⟨_, w, L, .inl (by simp [execOp, resolve, invoke, builtin, Builtin.max_, Builtin.max2, hx, hy]), hr, .refl _ _ _ _, .c (.v rfl)⟩
  · cases hc
end Go.Ev
end

section
/- Calls of the evaluator: arguments are told as closed values, results come back with rows of their own. -/
set_option linter.unusedVariables false
set_option linter.unusedSimpArgs false
namespace Go.Ev
open Go

mutual
def PV.closed : PV → Bool
  | .v _ => true
  | .agg cs => closedL cs
  | .tuple vs => closedL vs
  | .func _ fs cs => closedL fs && closedL cs
  | .iface _ x => x.closed
  | .lst _ => true
  | .lptr _ => true
  | .fmap _ _ => true
  | _ => false
def closedL : List PV → Bool
  | [] => true
  | p :: ps => p.closed && closedL ps
end

mutual
theorem VRel.close {F G L w} : ∀ {p u}, VRel F G L w p u → p.closed = true → CRel F w p u
  | _, _, .c h, _ => h
  | _, _, .agg hc hs, h => .agg hc (VRels.close hs (by simpa [PV.closed] using h))
  | _, _, .tuple hs, h => .tuple (VRels.close hs (by simpa [PV.closed] using h))
  | _, _, .func h1 h2, h => by
    simp only [PV.closed, Bool.and_eq_true] at h
    exact .func (VRels.close h1 h.1) (VRels.close h2 h.2)
  | _, _, .iface h1, h => .iface (VRel.close h1 (by simpa [PV.closed] using h))
  | _, _, .row _ _, h => by simp [PV.closed] at h
  | _, _, .rptr _ _, h => by simp [PV.closed] at h
  | _, _, .ptr _ _, h => by simp [PV.closed] at h
  | _, _, .asl _ _, h => by simp [PV.closed] at h
  | _, _, .map _ _, h => by simp [PV.closed] at h
  | _, _, .dead, h => by simp [PV.closed] at h
theorem VRels.close {F G L w} : ∀ {p u}, VRels F G L w p u → closedL p = true → CRels F w p u
  | _, _, .nil, _ => .nil
  | _, _, .cons h1 h2, h => by
    simp only [closedL, Bool.and_eq_true] at h
    exact .cons (VRel.close h1 h.1) (VRels.close h2 h.2)
end

theorem closedL_mem : ∀ {cs : List PV}, closedL cs = true → ∀ c ∈ cs, c.closed = true
  | [], _, c, hc => by simp at hc
  | p :: ps, h, c, hc => by
    simp only [closedL, Bool.and_eq_true] at h
    rcases List.mem_cons.1 hc with rfl | hc
    · exact h.1
    · exact closedL_mem h.2 c hc
theorem closedL_of : ∀ {cs : List PV}, (∀ c ∈ cs, c.closed = true) → closedL cs = true
  | [], _ => rfl
  | p :: ps, h => by simp only [closedL, Bool.and_eq_true]; exact ⟨h p (by simp), closedL_of (fun c hc => h c (by simp [hc]))⟩

theorem closed_cells {p : PV} (h : p.closed = true) (he : p.isElem = true) : closedL p.cells = true := by
  cases p <;> simp_all [PV.closed, PV.cells, closedL]

theorem CellsAt.close {F G L w B} : ∀ {o cs}, CellsAt F G L w B o cs → closedL cs = true → CCells F w B o cs
  | _, _, .nil, _ => .nil
  | _, _, .cons h1 h2 h3 h4, h => by
    simp only [closedL, Bool.and_eq_true] at h
    exact .cons h1 h2 (h3.close h.1) (h4.close h.2)
theorem ElemsAt.close {F G L w B s} : ∀ {o es}, ElemsAt F G L w B s o es → closedL es = true → CElems F w B o s es
  | _, _, .nil, _ => .nil
  | _, _, .cons h1 h2 h3 h4, h => by
    simp only [closedL, Bool.and_eq_true] at h
    exact .cons h1 h2 (h3.close (closed_cells h.1 h1)) (h4.close h.2)

/-! ### A value told as a closed one -/
mutual
def reify (h : Hp) : PV → Option PV
  | .v x => some (.v x)
  | .agg cs => match reifyL h cs with | some ds => some (.agg ds) | none => none
  | .tuple vs => match reifyL h vs with | some ds => some (.tuple ds) | none => none
  | .func fn fs cs => match reifyL h fs, reifyL h cs with | some ds, some es => some (.func fn ds es) | _, _ => none
  | .iface t x => match reify h x with | some y => some (.iface t y) | none => none
  | .lst es => some (.lst es)
  | .lptr cs => some (.lptr cs)
  | .fmap ks vs => some (.fmap ks vs)
  | .row i g lo len s =>
    if g = h.G i then
      match h.H i with
      | .row s' es | .frow s' es => if s = s' ∧ lo + len ≤ es.length ∧ closedL es = true then some (.lst ((es.drop lo).take len)) else none
      | _ => none
    else none
  | .asl i g off len s =>
    if g = h.G i then
      match h.H i with
      | .var cs | .fvar cs => if s = 1 ∧ off + len ≤ cs.length ∧ closedL cs = true then some (.lst ((cs.drop off).take len)) else none
      | _ => none
    else none
  | .ptr i g off =>
    if g = h.G i then
      match h.H i with
      | .var cs | .fvar cs => if closedL cs = true then some (.lptr (cs.drop off)) else none
      | _ => none
    else none
  | .map i g =>
    if g = h.G i then
      match h.H i with
      | .map ks vs | .fzmap ks vs => if closedL vs = true then some (.fmap ks vs) else none
      | _ => none
    else none
  | _ => none
def reifyL (h : Hp) : List PV → Option (List PV)
  | [] => some []
  | p :: ps => match reify h p, reifyL h ps with | some q, some qs => some (q :: qs) | _, _ => none
end

mutual
/-- The blocks that a value leads to. -/
def refs : PV → List Nat
  | .agg cs => refsL cs
  | .tuple vs => refsL vs
  | .func _ fs cs => refsL fs ++ refsL cs
  | .iface _ x => refs x
  | .row i _ _ _ _ => [i]
  | .asl i _ _ _ _ => [i]
  | .ptr i _ _ => [i]
  | .map i _ => [i]
  | _ => []
def refsL : List PV → List Nat
  | [] => []
  | p :: ps => refs p ++ refsL ps
end

/-- F, and the blocks of the call's own with these numbers. -/
def FP (F : Nat → Prop) (L : Nat → Option Nat) (h : Hp) (ids : List Nat) : Nat → Prop := fun B => F B ∨ ∃ i ∈ ids, (h.H i).live = true ∧ L i = some B

theorem FP.lift {F L h ids jds} (hs : ∀ i ∈ ids, i ∈ jds) {w} : CLater (FP F L h ids) w (FP F L h jds) w :=
  ⟨fun B hB => hB.imp id (fun ⟨i, h1, h2⟩ => ⟨i, hs i h1, h2⟩), fun _ _ => rfl⟩
theorem FP.base {F L h ids w} : CLater F w (FP F L h ids) w := ⟨fun _ hB => .inl hB, fun _ _ => rfl⟩

theorem reify_isCell {h : Hp} {p q : PV} (hr : reify h p = some q) (hc : p.isCell = true) : q.isCell = true := by
  cases p <;> simp only [reify] at hr <;> (try (simp [PV.isCell] at hc; done)) <;> (repeat' split at hr) <;> cases hr <;> first | rfl | exact hc

theorem CElems.ofCells {F w B} : ∀ {cs o}, CCells F w B o cs → CElems F w B o 1 cs
  | _, _, .nil => .nil
  | _, _, .cons h1 h2 h3 h4 => by
    rename_i o c cs u
    have hcell : c.cells = [c] := by cases c <;> first | rfl | (simp [PV.isCell] at h2; done)
    refine .cons (by cases c <;> first | exact h2 | rfl) (by rw [hcell]; rfl) (by rw [hcell]; exact .cons h1 h2 h3 .nil) (CElems.ofCells h4)

mutual
theorem reify_sound {F L w h} (hr : HRel F L w h) : ∀ {p u q}, VRel F h.G L w p u → reify h p = some q → CRel (FP F L h (refs p)) w q u
  | .v x, u, q, hv, hq => by simp only [reify] at hq; cases hq; obtain ⟨rfl, h⟩ := hv.v_iff; exact .v h
  | .agg cs, u, q, hv, hq => by
    simp only [reify] at hq
    split at hq <;> try (cases hq; done)
    rename_i ds hds
    cases hq
    obtain ⟨us, rfl, h1, h2⟩ := hv.agg_inv
    exact .agg (reifyL_isCell hds h1) (reifyL_sound hr h2 hds)
  | .tuple vs, u, q, hv, hq => by
    simp only [reify] at hq
    split at hq <;> try (cases hq; done)
    rename_i ds hds
    cases hq
    obtain ⟨us, rfl, h2⟩ := hv.tuple_inv
    exact .tuple (reifyL_sound hr h2 hds)
  | .func fn fs cs, u, q, hv, hq => by
    simp only [reify] at hq
    split at hq <;> try (cases hq; done)
    rename_i ds es hds hes
    cases hq
    obtain ⟨us, xs, rfl, h1, h2⟩ := hv.func_inv
    exact .func ((reifyL_sound hr h1 hds).later (FP.lift (fun i hi => by simp [refs, hi]))) ((reifyL_sound hr h2 hes).later (FP.lift (fun i hi => by simp [refs, hi])))
  | .iface t x, u, q, hv, hq => by
    simp only [reify] at hq
    split at hq <;> try (cases hq; done)
    rename_i y hy
    cases hq
    cases hv with
    | c hv => cases hv with | iface h1 => have h2 := reify_sound hr (p := x) (.c h1) hy; exact .iface (h2.later (FP.lift (fun i hi => hi)))
    | iface h1 => have h2 := reify_sound hr (p := x) h1 hy; exact .iface (h2.later (FP.lift (fun i hi => hi)))
  | .lst es, u, q, hv, hq => by
    simp only [reify] at hq; cases hq
    cases hv with | c hv => exact hv.later FP.base
  | .lptr cs, u, q, hv, hq => by
    simp only [reify] at hq; cases hq
    cases hv with | c hv => exact hv.later FP.base
  | .fmap ks vs, u, q, hv, hq => by
    simp only [reify] at hq; cases hq
    cases hv with | c hv => exact hv.later FP.base
  | .row i g lo len s, u, q, hv, hq => by
    simp only [reify] at hq
    split at hq <;> try (cases hq; done)
    rename_i hg
    cases hv with
    | c hv => cases hv
    | row h1 h2 =>
      rename_i cap a
      split at hq <;> try (cases hq; done)
      all_goals
        rename_i s' es hH
        split at hq <;> try (cases hq; done)
        rename_i hcond
        obtain ⟨rfl, hle, hcl⟩ := hcond
        cases hq
        rcases h2 hg with ⟨hz, _⟩ | ⟨B, T, n, hL, rfl, hlc, hsh, hfit⟩
        · subst hz; simp; exact .lstNil
        have hb := hr.ok i
        rw [hL, hH] at hb
        have hea : ElemsAt F h.G L w B s 0 es := by cases hb <;> assumption
        have hFB : FP F L h (refs (.row i g lo len s)) B := by
          first
            | exact .inr ⟨i, by simp [refs], by rw [hH]; rfl, hL⟩
            | (refine .inl ?_; cases hb; assumption)
        have he := ((hea.close hcl).drop lo).take len
        rw [Nat.zero_add] at he
        have hl : len = ((es.drop lo).take len).length := by simp; omega
        have := CRel.lst (cap := cap) hFB (by rw [← hl]; exact hlc) (he.later FP.base rfl)
        rwa [← hl] at this
  | .asl i g off len s, u, q, hv, hq => by
    simp only [reify] at hq
    split at hq <;> try (cases hq; done)
    rename_i hg
    cases hv with
    | c hv => cases hv
    | asl h1 h2 =>
      rename_i cap a
      split at hq <;> try (cases hq; done)
      all_goals
        rename_i cs hH
        split at hq <;> try (cases hq; done)
        rename_i hcond
        obtain ⟨rfl, hle, hcl⟩ := hcond
        cases hq
        rcases h2 hg with ⟨hz, _⟩ | ⟨B, hL, rfl, hlc⟩
        · subst hz; simp; exact .lstNil
        have hb := hr.ok i
        rw [hL, hH] at hb
        have hca : CellsAt F h.G L w B 0 cs := by cases hb <;> assumption
        have hFB : FP F L h (refs (.asl i g off len 1)) B := by
          first
            | exact .inr ⟨i, by simp [refs], by rw [hH]; rfl, hL⟩
            | (refine .inl ?_; cases hb; assumption)
        have he := ((CElems.ofCells (hca.close hcl)).drop off).take len
        rw [Nat.zero_add, Nat.mul_one] at he
        have hl : len = ((cs.drop off).take len).length := by simp; omega
        have := CRel.lst (cap := cap) hFB (by rw [← hl]; exact hlc) (he.later FP.base rfl)
        rwa [← hl] at this
  | .ptr i g off, u, q, hv, hq => by
    simp only [reify] at hq
    split at hq <;> try (cases hq; done)
    rename_i hg
    cases hv with
    | c hv => cases hv
    | ptr h1 h2 =>
      split at hq <;> try (cases hq; done)
      all_goals
        rename_i cs hH
        split at hq <;> try (cases hq; done)
        rename_i hcl
        cases hq
        obtain ⟨B, hL, rfl⟩ := h2 hg
        have hb := hr.ok i
        rw [hL, hH] at hb
        have hca : CellsAt F h.G L w B 0 cs := by cases hb <;> assumption
        have hFB : FP F L h (refs (.ptr i g off)) B := by
          first
            | exact .inr ⟨i, by simp [refs], by rw [hH]; rfl, hL⟩
            | (refine .inl ?_; cases hb; assumption)
        have he := (hca.close hcl).drop off
        rw [Nat.zero_add] at he
        exact .lptr hFB (he.later FP.base rfl)
  | .map i g, u, q, hv, hq => by
    simp only [reify] at hq
    split at hq <;> try (cases hq; done)
    rename_i hg
    split at hq <;> try (cases hq; done)
    all_goals
      rename_i ks vs hH
      split at hq <;> try (cases hq; done)
      rename_i hcl
      cases hq
      obtain ⟨B, es, clock, rfl, hL, h1, h2, h3⟩ := map_inv hr hg (by first | exact .inl hH | exact .inr hH) hv
      have hb := hr.ok i
      rw [hL, hH] at hb
      have hFB : FP F L h (refs (.map i g)) B := by
        first
          | exact .inr ⟨i, by simp [refs], by rw [hH]; rfl, hL⟩
          | (refine .inl ?_; cases hb; assumption)
      exact .fmap hFB h1 h2 ((h3.close hcl).later FP.base)
  | .rptr _ _ _ _ _, u, q, hv, hq => by simp only [reify] at hq; cases hq
  | .dead, u, q, hv, hq => by simp only [reify] at hq; cases hq
theorem reifyL_sound {F L w h} (hr : HRel F L w h) : ∀ {ps us qs}, VRels F h.G L w ps us → reifyL h ps = some qs → CRels (FP F L h (refsL ps)) w qs us
  | [], _, qs, .nil, hq => by simp only [reifyL] at hq; cases hq; exact .nil
  | p :: ps, _, qs, .cons h1 h2, hq => by
    simp only [reifyL] at hq
    split at hq <;> try (cases hq; done)
    rename_i q qs' e1 e2
    cases hq
    exact .cons ((reify_sound hr h1 e1).later (FP.lift (fun i hi => by simp [refsL, hi]))) ((reifyL_sound hr h2 e2).later (FP.lift (fun i hi => by simp [refsL, hi])))
theorem reifyL_isCell {h} : ∀ {ps qs : List PV}, reifyL h ps = some qs → (∀ c ∈ ps, PV.isCell c = true) → ∀ c ∈ qs, PV.isCell c = true
  | [], qs, hq, hc => by simp only [reifyL] at hq; cases hq; simp
  | p :: ps, qs, hq, hc => by
    simp only [reifyL] at hq
    split at hq <;> try (cases hq; done)
    rename_i q qs' e1 e2
    cases hq
    intro c hm
    rcases List.mem_cons.1 hm with rfl | hm
    · exact reify_isCell e1 (hc p (by simp))
    · exact reifyL_isCell e2 (fun c hcm => hc c (by simp [hcm])) c hm
end
end Go.Ev
end

section
/- What a call brings back, and how it is taken in. -/
set_option linter.unusedVariables false
set_option linter.unusedSimpArgs false
namespace Go.Ev
open Go

def resHp (RH : List (Nat × List PV)) : Hp := ⟨fun _ => 1, fun k => match RH[k]? with | some (s, es) => .row s es | none => .none⟩

structure Came (F : Nat → Prop) (w : World) (res : Res) (v : Value) (w' : World) (F' : Nat → Prop) (Lr : Nat → Option Nat) : Prop where
  os : w'.os = w.os
  tape : w'.tape = w.tape
  output : w'.output = w.output
  size : w.heap.size ≤ w'.heap.size
  keep : ∀ B, B < w.heap.size → w'.heap[B]? = w.heap[B]?
  fr : ∀ B, F B → F' B
  fro : ∀ B, F' B → F B ∨ w.heap.size ≤ B
  rel : HRel F' Lr w' (resHp res.2)
  new : ∀ k B, k < res.2.length → Lr k = some B → w.heap.size ≤ B
  val : VRel F' (fun _ => 1) Lr w' res.1 v
  elc : ∀ (k : Nat) s es, res.2[k]? = some (s, es) → closedL es = true

/-- THE CONTRACT OF A FUNCTION at closed arguments. -/
def Con (P : Program) (f : FuncId) (args : List PV) (res : Res) : Prop :=
  ∀ (F : Nat → Prop) (w : World) (vs : List Value), (∀ B, F B → B < w.heap.size) → CRels F w args vs →
    Calls P f vs.toArray w (fun e w' => ∃ v F' Lr, e = .returned v ∧ Came F w res v w' F' Lr)

mutual
def reloc (base n : Nat) (G : Nat → Nat) : PV → Option PV
  | .v x => some (.v x)
  | .agg cs => match relocL base n G cs with | some ds => some (.agg ds) | none => none
  | .tuple vs => match relocL base n G vs with | some ds => some (.tuple ds) | none => none
  | .func fn fs cs => match relocL base n G fs, relocL base n G cs with | some ds, some es => some (.func fn ds es) | _, _ => none
  | .iface t x => match reloc base n G x with | some y => some (.iface t y) | none => none
  | .lst es => some (.lst es)
  | .lptr cs => some (.lptr cs)
  | .fmap ks vs => some (.fmap ks vs)
  | .row k g lo len s => if g = 1 ∧ k < n then some (.row (base + k) (G (base + k) + 1) lo len s) else none
  | _ => none
def relocL (base n : Nat) (G : Nat → Nat) : List PV → Option (List PV)
  | [] => some []
  | p :: ps => match reloc base n G p, relocL base n G ps with | some q, some qs => some (q :: qs) | _, _ => none
end

theorem reloc_isCell {base n : Nat} {G : Nat → Nat} {p q : PV} (hr : reloc base n G p = some q) (hc : p.isCell = true) : q.isCell = true := by
  cases p <;> simp only [reloc] at hr <;> (try (simp [PV.isCell] at hc; done)) <;> (repeat' split at hr) <;> cases hr <;> first | rfl | exact hc

section
variable {F : Nat → Prop} {Lr : Nat → Option Nat} {w : World} {base n : Nat} {G0 G' : Nat → Nat} {L' : Nat → Option Nat}
mutual
theorem reloc_sound (hL : ∀ k, k < n → L' (base + k) = Lr k) (hG : ∀ k, k < n → G' (base + k) = G0 (base + k) + 1) : ∀ {p u q}, VRel F (fun _ => 1) Lr w p u → reloc base n G0 p = some q → VRel F G' L' w q u
  | .v x, u, q, hv, hq => by simp only [reloc] at hq; cases hq; cases hv with | c h => exact .c h
  | .agg cs, u, q, hv, hq => by
    simp only [reloc] at hq
    split at hq <;> try (cases hq; done)
    rename_i ds hds
    cases hq
    obtain ⟨us, rfl, h1, h2⟩ := hv.agg_inv
    exact .agg (relocL_isCell hds h1) (relocL_sound hL hG h2 hds)
  | .tuple vs, u, q, hv, hq => by
    simp only [reloc] at hq
    split at hq <;> try (cases hq; done)
    rename_i ds hds
    cases hq
    obtain ⟨us, rfl, h2⟩ := hv.tuple_inv
    exact .tuple (relocL_sound hL hG h2 hds)
  | .func fn fs cs, u, q, hv, hq => by
    simp only [reloc] at hq
    split at hq <;> try (cases hq; done)
    rename_i ds es hds hes
    cases hq
    obtain ⟨us, xs, rfl, h1, h2⟩ := hv.func_inv
    exact .func (relocL_sound hL hG h1 hds) (relocL_sound hL hG h2 hes)
  | .iface t x, u, q, hv, hq => by
    simp only [reloc] at hq
    split at hq <;> try (cases hq; done)
    rename_i y hy
    cases hq
    cases hv with
    | c hv => cases hv with | iface h1 => exact .iface (reloc_sound hL hG (.c h1) hy)
    | iface h1 => exact .iface (reloc_sound hL hG h1 hy)
  | .lst es, u, q, hv, hq => by simp only [reloc] at hq; cases hq; cases hv with | c h => exact .c h
  | .lptr cs, u, q, hv, hq => by simp only [reloc] at hq; cases hq; cases hv with | c h => exact .c h
  | .fmap ks vs, u, q, hv, hq => by simp only [reloc] at hq; cases hq; cases hv with | c h => exact .c h
  | .row k g lo len s, u, q, hv, hq => by
    simp only [reloc] at hq
    split at hq <;> try (cases hq; done)
    rename_i hc
    obtain ⟨rfl, hk⟩ := hc
    cases hq
    cases hv with
    | c h => cases h
    | row h1 h2 =>
      refine .row (by rw [hG k hk]; exact Nat.le_refl _) (fun _ => ?_)
      rcases h2 rfl with h | ⟨B, T, m, a0, a1⟩
      · exact .inl h
      · exact .inr ⟨B, T, m, (hL k hk).trans a0, a1⟩
  | .rptr _ _ _ _ _, u, q, hv, hq => by simp only [reloc] at hq; cases hq
  | .ptr _ _ _, u, q, hv, hq => by simp only [reloc] at hq; cases hq
  | .asl _ _ _ _ _, u, q, hv, hq => by simp only [reloc] at hq; cases hq
  | .map _ _, u, q, hv, hq => by simp only [reloc] at hq; cases hq
  | .yld _ _, u, q, hv, hq => by simp only [reloc] at hq; cases hq
  | .dead, u, q, hv, hq => by simp only [reloc] at hq; cases hq
theorem relocL_sound (hL : ∀ k, k < n → L' (base + k) = Lr k) (hG : ∀ k, k < n → G' (base + k) = G0 (base + k) + 1) : ∀ {ps us qs}, VRels F (fun _ => 1) Lr w ps us → relocL base n G0 ps = some qs → VRels F G' L' w qs us
  | [], _, qs, .nil, hq => by simp only [relocL] at hq; cases hq; exact .nil
  | p :: ps, _, qs, .cons h1 h2, hq => by
    simp only [relocL] at hq
    split at hq <;> try (cases hq; done)
    rename_i q qs' e1 e2
    cases hq
    exact .cons (reloc_sound hL hG h1 e1) (relocL_sound hL hG h2 e2)
theorem relocL_isCell : ∀ {ps qs : List PV}, relocL base n G0 ps = some qs → (∀ c ∈ ps, PV.isCell c = true) → ∀ c ∈ qs, PV.isCell c = true
  | [], qs, hq, hc => by simp only [relocL] at hq; cases hq; simp
  | p :: ps, qs, hq, hc => by
    simp only [relocL] at hq
    split at hq <;> try (cases hq; done)
    rename_i q qs' e1 e2
    cases hq
    intro c hm
    rcases List.mem_cons.1 hm with rfl | hm
    · exact reloc_isCell e1 (hc p (by simp))
    · exact relocL_isCell e2 (fun c hcm => hc c (by simp [hcm])) c hm
end
end

def resUps (base : Nat) (G : Nat → Nat) : List (Nat × List PV) → Ups
  | [] => []
  | (s, es) :: r => (base, G base + 1, .row s es) :: resUps (base + 1) G r

theorem app_res (G : Nat → Nat) : ∀ (RH : List (Nat × List PV)) (base : Nat) (h : Hp) (j : Nat),
    (h.app (resUps base G RH)).G j = (if base ≤ j ∧ j < base + RH.length then G j + 1 else h.G j) ∧
    (h.app (resUps base G RH)).H j = (if base ≤ j ∧ j < base + RH.length then (resHp RH).H (j - base) else h.H j)
  | [], base, h, j => by
    have : ¬ (base ≤ j ∧ j < base + ([] : List (Nat × List PV)).length) := by simp
    rw [if_neg this, if_neg this]; exact ⟨rfl, rfl⟩
  | (s, es) :: RH, base, h, j => by
    obtain ⟨h1, h2⟩ := app_res G RH (base + 1) ⟨upd h.G base (G base + 1), upd h.H base (.row s es)⟩ j
    constructor
    · show (Hp.app ⟨upd h.G base (G base + 1), upd h.H base (.row s es)⟩ (resUps (base + 1) G RH)).G j = _
      rw [h1]
      by_cases e : j = base
      · subst e
        rw [if_neg (by omega), if_pos (by simp)]; exact upd_same _ _ _
      · by_cases e2 : base + 1 ≤ j ∧ j < base + 1 + RH.length
        · rw [if_pos e2, if_pos (by simp; omega)]
        · rw [if_neg e2, if_neg (by simp; omega)]; exact upd_other _ _ e
    · show (Hp.app ⟨upd h.G base (G base + 1), upd h.H base (.row s es)⟩ (resUps (base + 1) G RH)).H j = _
      rw [h2]
      by_cases e : j = base
      · subst e
        rw [if_neg (by omega), if_pos (by simp)]
        show upd h.H j (.row s es) j = _
        rw [upd_same]; simp [resHp]
      · by_cases e2 : base + 1 ≤ j ∧ j < base + 1 + RH.length
        · rw [if_pos e2, if_pos (by simp; omega)]
          obtain ⟨k, hk⟩ : ∃ k, j - base = k + 1 := ⟨j - base - 1, by omega⟩
          rw [hk, show j - (base + 1) = k by omega]
          simp [resHp]
        · rw [if_neg e2, if_neg (by simp; omega)]; exact upd_other _ _ e

theorem BRel.row_closed {F G1 L1 G2 L2 w s es x} (h : BRel F G1 L1 w (.row s es) x) (hc : closedL es = true) : BRel F G2 L2 w (.row s es) x := by
  cases h with
  | rowNone => exact .rowNone
  | row h1 h2 h3 => exact .row h1 h2 (h3.close hc).toAt

/-- What came back is taken in. -/
theorem step_call {F L w h} (hr : HRel F L w h) {res : Res} {v : Value} {w' : World} {F' : Nat → Prop} {Lr : Nat → Option Nat} (hc : Came F w res v w' F' Lr) (base : Nat) {r' : PV} (hrl : reloc base res.2.length h.G res.1 = some r') :
    ∃ L', HRel F' L' w' (h.app (resUps base h.G res.2)) ∧ Step F L w h F' L' w' (h.app (resUps base h.G res.2)) ∧ VRel F' (h.app (resUps base h.G res.2)).G L' w' r' v := by
  have hA := app_res h.G res.2 base h
  let L' : Nat → Option Nat := fun j => if base ≤ j ∧ j < base + res.2.length then Lr (j - base) else L j
  have hL' : ∀ j, L' j = if base ≤ j ∧ j < base + res.2.length then Lr (j - base) else L j := fun j => rfl
  have hfF : ∀ B, B < w.heap.size → F' B → F B := fun B hB hF => (hc.fro B hF).resolve_right (by omega)
  have hl : Later F h.G L w F' (h.app (resUps base h.G res.2)).G L' w' := ⟨⟨hc.fr, fun B hB => hc.keep B (hr.flt B hB)⟩, fun B T m hs => (shape_of_heap (hc.keep B (shape_lt hs))).trans hs, fun j => by
    by_cases hj : base ≤ j ∧ j < base + res.2.length
    · rw [(hA j).1, if_pos hj]; exact .inl (by omega)
    · rw [(hA j).1, if_neg hj, hL', if_neg hj]; exact .inr ⟨rfl, rfl⟩⟩
  have hl2 : Later F' (fun _ => 1) Lr w' F' (fun _ => 1) Lr w' := .refl _ _ _ _
  have hrel : HRel F' L' w' (h.app (resUps base h.G res.2)) := by
    refine ⟨fun j => ?_, fun j k B hj hk hLj hLk => ?_, hc.rel.flt⟩
    · by_cases hj : base ≤ j ∧ j < base + res.2.length
      · rw [(hA j).2, if_pos hj, hL', if_pos hj]
        have hb := hc.rel.ok (j - base)
        cases hk : res.2[j - base]? with
        | none => simp only [resHp, hk]; exact .none
        | some p =>
          obtain ⟨s, es⟩ := p
          simp only [resHp, hk] at hb ⊢
          exact hb.row_closed (hc.elc _ _ _ hk)
      · rw [(hA j).2, if_neg hj, hL', if_neg hj]
        refine (hr.ok j).later hl (fun hlive B hB => ?_)
        have hBl := BRel.lt (hB ▸ hr.ok j) hlive
        exact ⟨hc.keep B hBl, fun hn hF => hn (hfF B hBl hF)⟩
    · rw [(hA j).2] at hj
      rw [(hA k).2] at hk
      rw [hL'] at hLj hLk
      by_cases ej : base ≤ j ∧ j < base + res.2.length <;> by_cases ek : base ≤ k ∧ k < base + res.2.length
      · rw [if_pos ej] at hj hLj; rw [if_pos ek] at hk hLk
        have := hc.rel.inj _ _ B hj hk hLj hLk
        omega
      · rw [if_pos ej] at hj hLj; rw [if_neg ek] at hk hLk
        have h1 := hc.new _ B (by omega) hLj
        have h2 := BRel.lt (hLk ▸ hr.ok k) hk
        omega
      · rw [if_neg ej] at hj hLj; rw [if_pos ek] at hk hLk
        have h1 := hc.new _ B (by omega) hLk
        have h2 := BRel.lt (hLj ▸ hr.ok j) hj
        omega
      · rw [if_neg ej] at hj hLj; rw [if_neg ek] at hk hLk
        exact hr.inj j k B hj hk hLj hLk
  refine ⟨L', hrel, { hl with os := hc.os, tape := hc.tape, output := hc.output, size := hc.size, keep := fun B hB _ => hc.keep B hB, own := ?_, fro := fun B hF => (hc.fro B hF).imp id .inr }, ?_⟩
  · rintro B ⟨j, hj, hLj⟩
    rw [(hA j).2] at hj
    rw [hL'] at hLj
    by_cases ej : base ≤ j ∧ j < base + res.2.length
    · rw [if_pos ej] at hLj
      exact .inr (hc.new _ B (by omega) hLj)
    · rw [if_neg ej] at hj hLj
      exact .inl ⟨j, hj, hLj⟩
  · refine reloc_sound (fun k hk => ?_) (fun k hk => ?_) hc.val hrl
    · rw [hL', if_pos ⟨by omega, by omega⟩, Nat.add_sub_cancel_left]
    · rw [(hA _).1, if_pos ⟨by omega, by omega⟩]

/-! ### Blocks that are frozen -/
def Blk.frz : Blk → Blk
  | .var cs => .fvar cs
  | .row s es => .frow s es
  | .map ks vs => .fzmap ks vs
  | .loop _ _ _ _ _ _ _ | .bld _ _ | .bytes _ _ => .dead
  | b => b

def frzUps (h : Hp) : List Nat → Ups
  | [] => []
  | i :: r => (i, h.G i, (h.H i).frz) :: frzUps h r

theorem app_frz (h0 : Hp) : ∀ (ids : List Nat) (h : Hp) (j : Nat), (h.app (frzUps h0 ids)).G j = (if j ∈ ids then h0.G j else h.G j) ∧ (h.app (frzUps h0 ids)).H j = (if j ∈ ids then (h0.H j).frz else h.H j)
  | [], h, j => by simp [frzUps, Hp.app]
  | i :: ids, h, j => by
    obtain ⟨h1, h2⟩ := app_frz h0 ids ⟨upd h.G i (h0.G i), upd h.H i (h0.H i).frz⟩ j
    constructor
    · show (Hp.app ⟨upd h.G i (h0.G i), upd h.H i (h0.H i).frz⟩ (frzUps h0 ids)).G j = _
      rw [h1]
      by_cases e : j = i
      · subst e; simp [upd_same]
      · simp [upd_other _ _ e, e]
    · show (Hp.app ⟨upd h.G i (h0.G i), upd h.H i (h0.H i).frz⟩ (frzUps h0 ids)).H j = _
      rw [h2]
      by_cases e : j = i
      · subst e; simp [upd_same]
      · simp [upd_other _ _ e, e]

theorem frz_live (b : Blk) : b.frz.live = false := by cases b <;> rfl

theorem step_frz {F L w h} (hr : HRel F L w h) (ids : List Nat) : HRel (FP F L h ids) L w (h.app (frzUps h ids)) ∧ Step F L w h (FP F L h ids) L w (h.app (frzUps h ids)) := by
  have hA := app_frz h ids h
  have hG : (h.app (frzUps h ids)).G = h.G := by funext j; rw [(hA j).1]; split <;> rfl
  have hl : Later F h.G L w (FP F L h ids) (h.app (frzUps h ids)).G L w := ⟨FP.base, fun _ _ _ h => h, fun j => by rw [hG]; exact .inr ⟨rfl, rfl⟩⟩
  refine ⟨⟨fun j => ?_, fun j k B hj hk hLj hLk => ?_, fun B hB => ?_⟩, { hl with os := rfl, tape := rfl, output := rfl, size := Nat.le_refl _, keep := fun _ _ _ => rfl, own := ?_, fro := ?_ }⟩
  · rw [(hA j).2]
    by_cases hj : j ∈ ids
    · rw [if_pos hj]
      have hb := hr.ok j
      have hfp : ∀ B, (h.H j).live = true → L j = some B → FP F L h ids B := fun B hlv hL => .inr ⟨j, hj, hlv, hL⟩
      generalize hbj : h.H j = b at hb
      generalize hLj : L j = x at hb
      cases hb with
      | none => exact .none
      | dead => exact .dead
      | var h1 h2 h3 => exact .fvar (hfp _ (by rw [hbj]; rfl) hLj) (h3.later hl rfl)
      | rowNone => exact .frowNone
      | row h1 h2 h3 => exact .frow (hfp _ (by rw [hbj]; rfl) hLj) (h3.later hl rfl)
      | fvar h1 h2 => exact .fvar (.inl h1) (h2.later hl rfl)
      | frowNone => exact .frowNone
      | frow h1 h2 => exact .frow (.inl h1) (h2.later hl rfl)
      | map h1 h2 h3 h4 => exact .fzmap (hfp _ (by rw [hbj]; rfl) hLj) h2 h3 (h4.later hl)
      | fzmap h1 h2 h3 h4 => exact .fzmap (.inl h1) h2 h3 (h4.later hl)
      | loop _ _ _ _ _ _ _ _ => exact .dead
      | bld _ _ _ _ => exact .dead
      | bytes _ _ _ _ _ => exact .dead
    · rw [if_neg hj]
      refine (hr.ok j).later hl (fun hlv B hB => ⟨rfl, fun hn hF => ?_⟩)
      rcases hF with hF | ⟨i, hi, hli, hLi⟩
      · exact hn hF
      · exact hj (hr.inj i j B hli hlv hLi hB ▸ hi)
  · rw [(hA j).2] at hj
    rw [(hA k).2] at hk
    split at hj
    · rw [frz_live] at hj; cases hj
    · split at hk
      · rw [frz_live] at hk; cases hk
      · exact hr.inj j k B hj hk hLj hLk
  · rcases hB with hB | ⟨i, _, hli, hLi⟩
    · exact hr.flt B hB
    · exact BRel.lt (hLi ▸ hr.ok i) hli
  · rintro B ⟨j, hj, hLj⟩
    rw [(hA j).2] at hj
    split at hj
    · rw [frz_live] at hj; cases hj
    · exact .inl ⟨j, hj, hLj⟩
  · intro B hB
    exact hB.imp id (fun ⟨i, _, h1, h2⟩ => .inl ⟨i, h1, h2⟩)

/-! ### Values that lead to nothing frozen -/
mutual
def PV.noLst : PV → Bool
  | .agg cs => noLstL cs
  | .tuple vs => noLstL vs
  | .func _ fs cs => noLstL fs && noLstL cs
  | .iface _ x => x.noLst
  | .lst _ => false
  | .lptr _ => false
  | .fmap _ _ => false
  | _ => true
def noLstL : List PV → Bool
  | [] => true
  | p :: ps => p.noLst && noLstL ps
end

mutual
theorem CRel.any {F F' w} : ∀ {p u}, CRel F w p u → p.noLst = true → CRel F' w p u
  | _, _, .v h, _ => .v h
  | _, _, .agg hc hs, h => .agg hc (CRels.any hs (by simpa [PV.noLst] using h))
  | _, _, .tuple hs, h => .tuple (CRels.any hs (by simpa [PV.noLst] using h))
  | _, _, .func h1 h2, h => by
    simp only [PV.noLst, Bool.and_eq_true] at h
    exact .func (CRels.any h1 h.1) (CRels.any h2 h.2)
  | _, _, .iface h1, h => .iface (CRel.any h1 (by simpa [PV.noLst] using h))
  | _, _, .lstNil, h => .lstNil
  | _, _, .lst _ _ _, h => by simp [PV.noLst] at h
  | _, _, .lptr _ _, h => by simp [PV.noLst] at h
  | _, _, .fmap _ _ _ _, h => by simp [PV.noLst] at h
theorem CRels.any {F F' w} : ∀ {p u}, CRels F w p u → noLstL p = true → CRels F' w p u
  | _, _, .nil, _ => .nil
  | _, _, .cons h1 h2, h => by
    simp only [noLstL, Bool.and_eq_true] at h
    exact .cons (CRel.any h1 h.1) (CRels.any h2 h.2)
end
mutual
theorem VRel.any {F F' G L w} : ∀ {p u}, VRel F G L w p u → p.noLst = true → VRel F' G L w p u
  | _, _, .c h, h' => .c (h.any h')
  | _, _, .agg hc hs, h => .agg hc (VRels.any hs (by simpa [PV.noLst] using h))
  | _, _, .tuple hs, h => .tuple (VRels.any hs (by simpa [PV.noLst] using h))
  | _, _, .func h1 h2, h => by
    simp only [PV.noLst, Bool.and_eq_true] at h
    exact .func (VRels.any h1 h.1) (VRels.any h2 h.2)
  | _, _, .iface h1, h => .iface (VRel.any h1 (by simpa [PV.noLst] using h))
  | _, _, .row h1 h2, _ => .row h1 h2
  | _, _, .rptr h1 h2, _ => .rptr h1 h2
  | _, _, .ptr h1 h2, _ => .ptr h1 h2
  | _, _, .asl h1 h2, _ => .asl h1 h2
  | _, _, .map h1 h2, _ => .map h1 h2
  | _, _, .yld h1 h2, _ => .yld h1 h2
  | _, _, .dead, _ => .dead
theorem VRels.any {F F' G L w} : ∀ {p u}, VRels F G L w p u → noLstL p = true → VRels F' G L w p u
  | _, _, .nil, _ => .nil
  | _, _, .cons h1 h2, h => by
    simp only [noLstL, Bool.and_eq_true] at h
    exact .cons (VRel.any h1 h.1) (VRels.any h2 h.2)
end

theorem noLst_cells {p : PV} (h : p.noLst = true) : noLstL p.cells = true := by
  cases p <;> simp_all [PV.noLst, PV.cells, noLstL]

theorem CellsAt.any {F F' G L w B} : ∀ {o cs}, CellsAt F G L w B o cs → noLstL cs = true → CellsAt F' G L w B o cs
  | _, _, .nil, _ => .nil
  | _, _, .cons h1 h2 h3 h4, h => by
    simp only [noLstL, Bool.and_eq_true] at h
    exact .cons h1 h2 (h3.any h.1) (h4.any h.2)
theorem ElemsAt.any {F F' G L w B s} : ∀ {o es}, ElemsAt F G L w B s o es → noLstL es = true → ElemsAt F' G L w B s o es
  | _, _, .nil, _ => .nil
  | _, _, .cons h1 h2 h3 h4, h => by
    simp only [noLstL, Bool.and_eq_true] at h
    exact .cons h1 h2 (h3.any (noLst_cells h.1)) (h4.any h.2)

def resPlain (res : Res) : Bool := res.1.noLst && res.2.all (fun p => noLstL p.2)

/-- A result that leads to nothing frozen: whatever the arguments leaned on. -/
theorem Came.plain {F F1 w res v w' F' Lr} (h : Came F1 w res v w' F' Lr) (hp : resPlain res = true) (hF : ∀ B, F B → F1 B) (hlt : ∀ B, F B → B < w.heap.size) : Came F w res v w' F Lr := by
  simp only [resPlain, Bool.and_eq_true, List.all_eq_true] at hp
  refine ⟨h.os, h.tape, h.output, h.size, h.keep, fun _ h => h, fun _ h => .inl h, ⟨fun k => ?_, h.rel.inj, fun B hB => Nat.lt_of_lt_of_le (hlt B hB) h.size⟩, h.new, h.val.any hp.1, h.elc⟩
  have hb := h.rel.ok k
  cases hk : res.2[k]? with
  | none => simp only [resHp, hk]; exact .none
  | some p =>
    obtain ⟨s, es⟩ := p
    simp only [resHp, hk] at hb ⊢
    have hno := hp.2 (s, es) (List.mem_of_getElem? hk)
    generalize hx : Lr k = x at hb
    cases hb with
    | rowNone => exact .rowNone
    | row h1 h2 h3 => exact .row (fun hFB => h1 (h.fr _ (hF _ hFB))) h2 (h3.any hno)

/-- THE CALL, as the evaluator does it. -/
def callP (cal : FuncId → List PV → Option Res) (h : Hp) (base : Nat) (f : FuncId) (as : List PV) : Option (PV × Ups) :=
  match reifyL h as with
  | some cargs =>
    match cal f cargs with
    | some res =>
      match reloc base res.2.length h.G res.1 with
      | some r => if resPlain res then some (r, resUps base h.G res.2) else some (r, frzUps h (refsL as) ++ resUps base h.G res.2)
      | none => none
    | none => none
  | none => none

theorem app_append (h : Hp) : ∀ (a b : Ups), h.app (a ++ b) = (h.app a).app b
  | [], b => rfl
  | (i, g, x) :: a, b => app_append ⟨upd h.G i g, upd h.H i x⟩ a b

theorem callP_sound {P : Program} {cal : FuncId → List PV → Option Res} (hcal : ∀ f args res, cal f args = some res → Con P f args res) {F L w h} (hr : HRel F L w h) {base f as us r ups} (hc : callP cal h base f as = some (r, ups)) (has : VRels F h.G L w as us) :
    Calls P f us.toArray w (fun e w' => ∃ v F' L', e = .returned v ∧ HRel F' L' w' (h.app ups) ∧ Step F L w h F' L' w' (h.app ups) ∧ VRel F' (h.app ups).G L' w' r v) := by
  unfold callP at hc
  split at hc <;> try (cases hc; done)
  rename_i cargs hre
  split at hc <;> try (cases hc; done)
  rename_i res hres
  split at hc <;> try (cases hc; done)
  rename_i r0 hrl
  have hca := reifyL_sound hr has hre
  obtain ⟨hfr, hfs⟩ := step_frz hr (refsL as)
  have hcon := hcal f cargs res hres (FP F L h (refsL as)) w us hfr.flt hca
  refine hcon.mono ?_
  rintro e w' ⟨v, F', Lr, rfl, hcame⟩
  split at hc
  · rename_i hpl
    cases hc
    obtain ⟨L', h1, h2, h3⟩ := step_call hr (hcame.plain hpl (fun B hB => .inl hB) hr.flt) base hrl
    exact ⟨v, F, L', rfl, h1, h2, h3⟩
  · cases hc
    have hG : (h.app (frzUps h (refsL as))).G = h.G := by
      funext j; rw [(app_frz h (refsL as) h j).1]; split <;> rfl
    obtain ⟨L', h1, h2, h3⟩ := step_call hfr hcame base (by rw [hG]; exact hrl)
    rw [hG] at h1 h2 h3
    rw [app_append]
    exact ⟨v, F', L', rfl, h1, hfs.trans h2, h3⟩
end Go.Ev
end

section
/- Code, as the evaluator does it. -/
set_option linter.unusedVariables false
set_option linter.unusedSimpArgs false
namespace Go.Ev
open Go

def wantedP (ops : Array Oper) (o : Oper) (t : Nat → PV) : Option Bool :=
  match o.guard with
  | none => some true
  | some (j, want) =>
    match (ops[j]?).bind (·.dst) with
    | some d =>
      match t d with
      | .v (.bool b) => some (b == want)
      | .tuple [] => some false
      | _ => none
    | none => none

def putP (sz : Nat) (t : Nat → PV) (dst : Option Tmp) (r : PV) : Option (Nat → PV) :=
  match dst with
  | none => some t
  | some d => if d < sz then some (upd t d r) else none

abbrev Cal := FuncId → List PV → Option Res
abbrev Inl := FuncId → List PV → Hp → Option (PV × Hp)
abbrev Yl := Nat → Nat → List PV → Hp → Option (PV × Hp)

def stepOp (C : Ctx) (cal : Cal) (inl : Inl) (yl : Yl) (dp : Nat) (o : Oper) (st : St) : Option (PV × Hp) :=
  match o.op with
  | .call { callee := .value f, args, .. } =>
    match opd st.t f with
    | .func (.func fid) fs cs =>
      if C.callable fid then
        match C.isp fid with
        | some Fn => match Fn (idOf dp (o.dst.getD 99999) 0) (fs ++ (args.toList.map (opd st.t) ++ cs)) st.h with
          | some (r, ups) => some (r, st.h.app ups)
          | none => none
        | none =>
        if C.inl fid then inl fid (fs ++ (args.toList.map (opd st.t) ++ cs)) st.h
        else
          match callP cal st.h (idOf dp (o.dst.getD 99999) 0) fid (fs ++ (args.toList.map (opd st.t) ++ cs)) with
          | some (r, ups) => some (r, st.h.app ups)
          | none => none
      else none
    | .yld i g => yl i g (args.toList.map (opd st.t)) st.h
    | _ => none
  | _ =>
    match evalOp C dp o st with
    | some (r, ups) => some (r, st.h.app ups)
    | none => none

def evalOps (C : Ctx) (cal : Cal) (inl : Inl) (yl : Yl) (dp sz : Nat) (ops : Array Oper) : List Oper → St → Option St
  | [], st => some st
  | o :: os, st =>
    match wantedP ops o st.t with
    | some true =>
      match stepOp C cal inl yl dp o st with
      | some (r, h) =>
        match putP sz st.t o.dst r with
        | some t => evalOps C cal inl yl dp sz ops os ⟨t, h⟩
        | none => none
      | none => none
    | some false =>
      match putP sz st.t o.dst (.tuple []) with
      | some t => evalOps C cal inl yl dp sz ops os ⟨t, st.h⟩
      | none => none
    | none => none

def CalOk (P : Program) (cal : Cal) : Prop := ∀ f args res, cal f args = some res → Con P f args res
def InlOk (P : Program) (inl : Inl) : Prop := ∀ f as h r h', inl f as h = some (r, h') → ∀ F L w us, HRel F L w h → VRels F h.G L w as us →
  Calls P f us.toArray w (fun e w' => ∃ v F' L', e = .returned v ∧ HRel F' L' w' h' ∧ Step F L w h F' L' w' h' ∧ VRel F' h'.G L' w' r v)

/-- The fences that let everything through. -/
def Wd (Fc : Fence) : Prop := Fc = Fence.wide ∨ ∃ l, Fc = Fence.wide.inRound l

theorem Wd.fn {Fc : Fence} (h : Wd Fc) (f : FuncId) : Fc.fn f := by
  rcases h with rfl | ⟨l, rfl⟩ <;> trivial
theorem Wd.depth {Fc : Fence} (h : Wd Fc) : Fc.depth.isSome = true → ∀ {p : Prop}, p := by
  rcases h with rfl | ⟨l, rfl⟩ <;> (intro h; cases h)
theorem Wd.calls {Fc : Fence} (h : Wd Fc) {n : Nat} {P : Program} {f : FuncId} {args : Array Value} {w : World} {R : Ending → World → Prop} (hc : Calls P f args w R) : CallsIn Fc n P f args w R := by
  rcases h with rfl | ⟨l, rfl⟩
  · exact callsIn_wide.2 hc
  · exact (callsIn_wide (n := n)).2 hc
theorem Wd.inRound {Fc : Fence} (h : Wd Fc) (l : Nat) : Wd (Fc.inRound l) := by
  rcases h with rfl | ⟨l', rfl⟩
  · exact .inr ⟨l, rfl⟩
  · exact .inr ⟨l, rfl⟩

def YlOk (P : Program) (yl : Yl) : Prop := ∀ i g as h r h', yl i g as h = some (r, h') → ∀ Fc n, Wd Fc → ∀ F L w l us, HRel F L w h → VRel F h.G L w (.yld i g) (.func (.yield l) #[] #[]) → VRels F h.G L w as us →
  ∃ fn tm asg bd, (Instr.yield l us.toArray).run P w = .ok (.round l fn tm asg bd) w ∧ RoundIn Fc n P l fn tm asg bd w (fun e w' => ∃ v F' L', e = .returned v ∧ HRel F' L' w' h' ∧ Step F L w h F' L' w' h' ∧ VRel F' h'.G L' w' r v)

/-- The state of the evaluator against a frame and a world. -/
structure SRel (F : Nat → Prop) (L : Nat → Option Nat) (sz : Nat) (ds : List Deferred) (st : St) (a : Act) (w : World) : Prop where
  heap : HRel F L w st.h
  tmps : TRel F st.h.G L w st.t a
  size : a.tmps.size = sz
  defers : a.defers = ds

theorem TRel.later {F G L w F' G' L' w' t a} (h : TRel F G L w t a) (hl : Later F G L w F' G' L' w') : TRel F' G' L' w' t a := fun i => (h i).later hl

theorem putP_sound {F G L w sz t t' a dst r v} (hsz : a.tmps.size = sz) (h : TRel F G L w t a) (hv : VRel F G L w r v) (hp : putP sz t dst r = some t') : TRel F G L w t' (a.put dst v) ∧ (a.put dst v).tmps.size = sz ∧ (a.put dst v).defers = a.defers := by
  unfold putP at hp
  split at hp
  · cases hp; exact ⟨h, hsz, rfl⟩
  · rename_i d
    split at hp <;> try (cases hp; done)
    rename_i hd
    cases hp
    refine ⟨fun i => ?_, by simpa [Act.put] using hsz, rfl⟩
    by_cases e : i = d
    · subst e
      rw [upd_same]
      have : (a.put (some i) v).tmps.getD i undef = v := by
        have hlt : i < a.tmps.size := by rw [hsz]; exact hd
        simp [Act.put, hlt]
      rw [this]; exact hv
    · rw [upd_other _ _ e]
      have : (a.put (some d) v).tmps.getD i undef = a.tmps.getD i undef := by
        simp [Act.put, Array.getElem?_setIfInBounds_ne (Ne.symm e)]
      rw [this]; exact h i

theorem wantedP_sound {F G L w t a ops o b} (h : TRel F G L w t a) (hw : wantedP ops o t = some b) : Region.wanted o (yielded ops a.tmps) = b := by
  unfold wantedP at hw
  unfold Region.wanted
  split at hw
  · rename_i hg; rw [hg]; cases hw; rfl
  · rename_i j want hg
    rw [hg]
    split at hw <;> try (cases hw; done)
    rename_i d hd
    split at hw <;> try (cases hw; done)
    rotate_left
    · rename_i hb
      cases hw
      have hv := h d
      rw [hb] at hv
      obtain ⟨us, hu, hus⟩ := hv.tuple_inv
      have hno : yielded ops a.tmps j = none := by
        simp only [yielded, hd, Option.bind_some]
        cases hx : a.tmps[d]? with
        | none => rfl
        | some v =>
          have : v = .tuple us.toArray := by rw [← hu, Array.getD_eq_getD_getElem?, hx]; rfl
          rw [this]
      show (yielded ops a.tmps j == some want) = false
      rw [hno]
      rfl
    rename_i b' hb
    cases hw
    have hv := h d
    rw [hb] at hv
    obtain ⟨hv, _⟩ := hv.v_iff
    have hlt : d < a.tmps.size := by
      rcases Nat.lt_or_ge d a.tmps.size with hlt | hge
      · exact hlt
      · rw [Array.getD_eq_getD_getElem?, Array.getElem?_eq_none hge] at hv
        simp [undef] at hv
    have hv' : a.tmps[d]? = some (.bool b') := by
      rw [Array.getD_eq_getD_getElem?, Array.getElem?_eq_getElem hlt] at hv
      rw [Array.getElem?_eq_getElem hlt]
      simpa using hv
    simp only [yielded, hd, Option.bind_some, hv']
    cases b' <;> cases want <;> rfl

/-- One operation: what it needs behind it. -/
theorem stepOp_sound {C : Ctx} (ht : TablesOk C) {cal : Cal} {inl : Inl} {yl : Yl} (hcal : CalOk C.P cal) (hinl : InlOk C.P inl) (hyl : YlOk C.P yl) {Fc : Fence} (hFc : Wd Fc) {n : Nat} {dp sz : Nat} {ds : List Deferred} {o : Oper} {st : St} {r : PV} {h' : Hp} {F L a w} (hs : SRel F L sz ds st a w) (hc : stepOp C cal inl yl dp o st = some (r, h')) {t' : Nat → PV} (hp : putP sz st.t o.dst r = some t')
    {K : Act → World → Prop} {Q : Exit → Act → World → Prop} (hK : ∀ a' w' F' L', SRel F' L' sz ds ⟨t', h'⟩ a' w' → Step F L w st.h F' L' w' h' → K a' w') : o.wpIn Fc n C.P a w K Q := by
  refine ⟨fun f _ => hFc.fn f, ?_⟩
  have fin : ∀ v w' F' L', HRel F' L' w' h' → Step F L w st.h F' L' w' h' → VRel F' h'.G L' w' r v → K (a.put o.dst v) w' := by
    intro v w' F' L' h1 h2 h3
    obtain ⟨k1, k2, k3⟩ := putP_sound hs.size (hs.tmps.later h2.toLater) h3 hp
    exact hK _ _ F' L' ⟨h1, k1, k2, by rw [k3]; exact hs.defers⟩ h2
  unfold stepOp at hc
  split at hc
  · rename_i f args argTypes hop
    have hf := opd_sound hs.tmps f
    split at hc <;> try (cases hc; done)
    rotate_left
    · rename_i i g hfv
      rw [hfv] at hf
      have hfe : ∃ l, a.eval f = .func (.yield l) #[] #[] ∧ VRel F st.h.G L w (.yld i g) (.func (.yield l) #[] #[]) := by
        generalize hu : a.eval f = u at hf
        cases hf with
        | c h => cases h
        | yld h1 h2 => exact ⟨_, rfl, .yld h1 h2⟩
      obtain ⟨l, hfe, hy⟩ := hfe
      obtain ⟨fn, tm, asg, bd, hrun, hround⟩ := hyl _ _ _ _ _ _ hc Fc (n - 1) hFc F L w l _ hs.heap hy (opds_rel hs.tmps args.toList)
      have hexec : (execOp a.eval o).run C.P w = .ok (.round l fn tm asg bd) w := by
        rw [← hrun]
        have e : args.map a.eval = (args.toList.map a.eval).toArray := by apply Array.ext'; simp
        simp [execOp, hop, resolve, hfe, Deferred.ofValue, invoke, e]
      rw [Oper.semAt_eq _ _ _ (by rw [hop]; intro c hh; cases hh), hexec, Oper.uponIn_round]
      refine ⟨fun h => hFc.depth h, hround.mono ?_⟩
      rintro e w' ⟨v, F', L', rfl, k1, k2, k3⟩
      exact fin v w' F' L' k1 k2 k3
    rename_i fid fs cs hfv
    rw [hfv] at hf
    obtain ⟨us, xs, hfe, h1, h2⟩ := hf.func_inv
    split at hc <;> try (cases hc; done)
    rename_i hcal'
    obtain ⟨fn, hfn, hbody, hname⟩ := ht.callable fid hcal'
    have has : VRels F st.h.G L w (fs ++ (args.toList.map (opd st.t) ++ cs)) (us ++ (args.toList.map a.eval ++ xs)) := h1.append ((opds_rel hs.tmps args.toList).append h2)
    have hexec : (execOp a.eval o).run C.P w = .ok (.enter fid (us ++ (args.toList.map a.eval ++ xs)).toArray) w := by
      have e : us.toArray ++ args.map a.eval ++ xs.toArray = (us ++ (args.toList.map a.eval ++ xs)).toArray := by
        apply Array.ext'; simp
      have hn' : fn.name ≠ "runtime.NumGoroutine" := by simpa using hname
      have hb' : fn.body ≠ none := by intro hh; simp [hh] at hbody
      simp [execOp, hop, resolve, hfe, Deferred.ofValue, invoke, callFunc, hfn, hb', hn', e]
    have go : Calls C.P fid (us ++ (args.toList.map a.eval ++ xs)).toArray w (fun e w' => ∃ v F' L', e = .returned v ∧ HRel F' L' w' h' ∧ Step F L w st.h F' L' w' h' ∧ VRel F' h'.G L' w' r v) := by
      split at hc
      · rename_i Fn hfn'
        split at hc <;> try (cases hc; done)
        rename_i r0 ups hcp
        cases hc
        exact (ht.isp fid Fn hfn').sound _ _ _ _ _ hcp F L w _ hs.heap has
      · split at hc
        · exact hinl _ _ _ _ _ hc F L w _ hs.heap has
        · split at hc <;> try (cases hc; done)
          rename_i r0 ups hcp
          cases hc
          exact callP_sound hcal hs.heap hcp has
    rw [Oper.semAt_eq _ _ _ (by rw [hop]; intro c hh; cases hh), hexec, Oper.uponIn_enter]
    refine ⟨fun h => hFc.depth h, hFc.calls (go.mono ?_)⟩
    rintro e w' ⟨v, F', L', rfl, k1, k2, k3⟩
    exact fin v w' F' L' k1 k2 k3
  · split at hc <;> try (cases hc; done)
    rename_i r0 ups hev
    cases hc
    obtain ⟨v, w', L', hrun, k1, k2, k3⟩ := evalOp_sound ht hs.heap hs.tmps hev
    rw [Oper.semAt_eq _ _ _ (by intro c hh; obtain ⟨d, op, t, p, af, g⟩ := o; dsimp only at hh; subst hh; simp [evalOp] at hev)]
    rcases hrun with hrun | ⟨hrun, rfl⟩
    · rw [hrun]; exact fin v w' F L' k1 k2 k3
    · rw [hrun]; exact fin undef w' F L' k1 k2 k3

theorem evalOps_sound {C : Ctx} (ht : TablesOk C) {cal : Cal} {inl : Inl} {yl : Yl} (hcal : CalOk C.P cal) (hinl : InlOk C.P inl) (hyl : YlOk C.P yl) {Fc : Fence} (hFc : Wd Fc) {n : Nat} {dp sz : Nat} {ds : List Deferred} {ops : Array Oper} {Q : Exit → Act → World → Prop} {st' : St} : ∀ (l : List Oper) (k : Nat) (st : St) (F : Nat → Prop) (L : Nat → Option Nat) (a : Act) (w : World), ops.toList.drop k = l → SRel F L sz ds st a w → evalOps C cal inl yl dp sz ops l st = some st' →
    (∀ a' w' F' L', SRel F' L' sz ds st' a' w' → Step F L w st.h F' L' w' st'.h → Q .normal a' w') → wpOpsIn Fc n C.P ops Q (List.range' k l.length) a w
  | [], k, st, F, L, a, w, hl, hs, hc, hQ => by
    simp only [evalOps] at hc; cases hc
    exact hQ _ _ _ _ hs (.refl _ _ _ _)
  | o :: os, k, st, F, L, a, w, hl, hs, hc, hQ => by
    have hk : ops[k]? = some o := by
      have : (ops.toList.drop k)[0]? = some o := by rw [hl]; rfl
      rw [List.getElem?_drop] at this
      simpa using this
    have hl' : ops.toList.drop (k + 1) = os := by rw [← List.drop_drop, hl]; rfl
    simp only [evalOps] at hc
    simp only [List.length_cons, List.range'_succ, wpOpsIn, hk]
    split at hc <;> try (cases hc; done)
    · rename_i hw
      split at hc <;> try (cases hc; done)
      rename_i r h hst
      split at hc <;> try (cases hc; done)
      rename_i t hp
      rw [wantedP_sound hs.tmps hw, if_pos rfl]
      refine stepOp_sound ht hcal hinl hyl hFc hs hst hp (fun a' w' F' L' h1 h2 => ?_)
      exact evalOps_sound ht hcal hinl hyl hFc os (k + 1) _ F' L' a' w' hl' h1 hc (fun a2 w2 F2 L2 h3 h4 => hQ a2 w2 F2 L2 h3 (h2.trans h4))
    · rename_i hw
      split at hc <;> try (cases hc; done)
      rename_i t hp
      rw [wantedP_sound hs.tmps hw, if_neg (by simp)]
      obtain ⟨k1, k2, k3⟩ := putP_sound hs.size hs.tmps (v := undef) (VRel.tuple (us := []) .nil) hp
      refine ⟨fun f _ => hFc.fn f, ?_⟩
      exact evalOps_sound ht hcal hinl hyl hFc os (k + 1) ⟨t, st.h⟩ F L _ w hl' ⟨hs.heap, k1, k2, by rw [k3]; exact hs.defers⟩ hc (fun a2 w2 F2 L2 h3 h4 => hQ a2 w2 F2 L2 h3 h4)
end Go.Ev
end
