/- A part of the proof: HbEvF HbEvG HbEvH HbEvI HbEvJ HbEvK. No conditions. -/
import Derived.Test.YtpafjgeiihgcoaaGreatDoorEvA
import Derived.Great.FillDense

section
/- The evaluator's operations are the model's: new blocks; what moves; rows of elements. -/
set_option linter.unusedVariables false
set_option linter.unusedSimpArgs false
namespace Go.Ev
open Go

/-- A block without cells. -/
theorem step_phantom {F L w h} (hr : HRel F L w h) (i s : Nat) : HRel F (upd L i none) w (h.app [(i, h.G i + 1, .row s [])]) ∧ Step F L w h F (upd L i none) w (h.app [(i, h.G i + 1, .row s [])]) := by
  have hl : Later F h.G L w F (upd h.G i (h.G i + 1)) (upd L i none) w :=
    ⟨⟨fun _ h => h, fun _ _ => rfl⟩, fun _ _ _ h => h, fun j => by
      by_cases hj : j = i
      · subst hj; rw [upd_same]; exact .inl (by omega)
      · rw [upd_other _ _ hj, upd_other _ _ hj]; exact .inr ⟨rfl, rfl⟩⟩
  refine ⟨⟨fun j => ?_, fun j k B hj hk hLj hLk => ?_, hr.flt⟩, { hl with os := rfl, tape := rfl, output := rfl, size := Nat.le_refl _, keep := fun _ _ _ => rfl, own := ?_, fro := fun _ h => .inl h }⟩
  · show BRel F (upd h.G i (h.G i + 1)) _ w (upd h.H i _ j) _
    by_cases hj : j = i
    · subst hj; rw [upd_same, upd_same]; exact .rowNone
    · rw [upd_other _ _ hj, upd_other _ _ hj]; exact (hr.ok j).later hl (fun _ _ _ => ⟨rfl, id⟩)
  · change (upd h.H i _ j).live = true at hj
    change (upd h.H i _ k).live = true at hk
    by_cases ej : j = i
    · subst ej; rw [upd_same] at hLj; cases hLj
    · by_cases ek : k = i
      · subst ek; rw [upd_same] at hLk; cases hLk
      · rw [upd_other _ _ ej] at hLj hj; rw [upd_other _ _ ek] at hLk hk; exact hr.inj j k B hj hk hLj hLk
  · rintro B ⟨j, hj, hL⟩
    change (upd h.H i _ j).live = true at hj
    by_cases ej : j = i
    · subst ej; rw [upd_same] at hL; cases hL
    · rw [upd_other _ _ ej] at hL hj; exact .inl ⟨j, hj, hL⟩

/-- A block dies. -/
theorem step_dead {F L w h} (hr : HRel F L w h) (i : Nat) : HRel F L w (h.app [(i, h.G i, .dead)]) ∧ Step F L w h F L w (h.app [(i, h.G i, .dead)]) := by
  have hG : upd h.G i (h.G i) = h.G := upd_id _ _ _ rfl
  have hl : Later F h.G L w F (h.app [(i, h.G i, .dead)]).G L w := by show Later F h.G L w F (upd h.G i (h.G i)) L w; rw [hG]; exact .refl _ _ _ _
  refine ⟨⟨fun j => ?_, fun j k B hj hk hLj hLk => ?_, hr.flt⟩, { hl with os := rfl, tape := rfl, output := rfl, size := Nat.le_refl _, keep := fun _ _ _ => rfl, own := ?_, fro := fun _ h => .inl h }⟩
  · show BRel F (upd h.G i (h.G i)) _ w (upd h.H i _ j) _
    rw [hG]
    by_cases hj : j = i
    · subst hj; rw [upd_same]; exact .dead
    · rw [upd_other _ _ hj]; exact hr.ok j
  · change (upd h.H i _ j).live = true at hj
    change (upd h.H i _ k).live = true at hk
    by_cases ej : j = i
    · subst ej; rw [upd_same] at hj; cases hj
    · by_cases ek : k = i
      · subst ek; rw [upd_same] at hk; cases hk
      · rw [upd_other _ _ ej] at hj; rw [upd_other _ _ ek] at hk; exact hr.inj j k B hj hk hLj hLk
  · rintro B ⟨j, hj, hL⟩
    change (upd h.H i _ j).live = true at hj
    by_cases ej : j = i
    · subst ej; rw [upd_same] at hj; cases hj
    · rw [upd_other _ _ ej] at hj; exact .inl ⟨j, hj, hL⟩

/-- A block of the call's own is written, and is another one's from now on. -/
theorem step_move {F L w h} (hr : HRel F L w h) {w' : World} {i : Nat} (hlive : (h.H i).live = true) {B : Nat} (hL : L i = some B)
    (hh : ∀ k, k ≠ B → w'.heap[k]? = w.heap[k]?) (hs : w'.heap.size = w.heap.size) (hsh : ∀ T n, w.shape? B = some (T, n) → w'.shape? B = some (T, n))
    (h1 : w'.os = w.os) (h2 : w'.tape = w.tape) (h3 : w'.output = w.output) (id : Nat)
    (b : Blk) (hb : ∀ G' L', Later F h.G L w F G' L' w' → ¬ F B → BRel F G' L' w' b (some B)) :
    HRel F (upd L id (some B)) w' (h.app [(i, h.G i, .dead), (id, (upd h.G i (h.G i)) id + 1, b)]) ∧ Step F L w h F (upd L id (some B)) w' (h.app [(i, h.G i, .dead), (id, (upd h.G i (h.G i)) id + 1, b)]) := by
  obtain ⟨hr1, s1⟩ := step_set hr hlive hL hh hs hsh h1 h2 h3 .dead (fun _ _ => .dead)
  have hnF : ¬ F B := BRel.live_not (hL ▸ hr.ok i) hlive
  have hG : upd h.G i (h.G i) = h.G := upd_id _ _ _ rfl
  have hno : ∀ j, ((upd h.H i .dead) j).live = true → L j = some B → False := by
    intro j hj hLj
    by_cases ej : j = i
    · subst ej; rw [upd_same] at hj; cases hj
    · rw [upd_other _ _ ej] at hj; exact ej (hr.inj j i B hj hlive hLj hL)
  have hl2 : Later F (h.app [(i, h.G i, .dead)]).G L w' F (upd (upd h.G i (h.G i)) id ((upd h.G i (h.G i)) id + 1)) (upd L id (some B)) w' :=
    ⟨⟨fun _ h => h, fun _ _ => rfl⟩, fun _ _ _ h => h, fun j => by
      show (upd h.G i (h.G i)) j < _ ∨ _
      by_cases hj : j = id
      · subst hj; rw [upd_same]; exact .inl (by omega)
      · rw [upd_other _ _ hj, upd_other _ _ hj]; exact .inr ⟨rfl, rfl⟩⟩
  have hl := s1.toLater.trans hl2
  refine ⟨⟨fun j => ?_, fun j k C hj hk hLj hLk => ?_, fun C hC => by rw [hs]; exact hr.flt C hC⟩,
    { hl with os := h1, tape := h2, output := h3, size := by omega, keep := fun C _ hn => hh C (fun e => hn ⟨i, hlive, e ▸ hL⟩), own := ?_, fro := fun _ h => .inl h }⟩
  · show BRel F (upd (upd h.G i (h.G i)) id _) _ w' (upd (upd h.H i .dead) id b j) _
    by_cases hj : j = id
    · subst hj; rw [upd_same, upd_same]; exact hb _ _ hl hnF
    · rw [upd_other _ _ hj, upd_other _ _ hj]
      exact (hr1.ok j).later hl2 (fun _ _ _ => ⟨rfl, fun h => h⟩)
  · change (upd (upd h.H i .dead) id b j).live = true at hj
    change (upd (upd h.H i .dead) id b k).live = true at hk
    by_cases ej : j = id <;> by_cases ek : k = id
    · rw [ej, ek]
    · subst ej
      rw [upd_same] at hLj; rw [upd_other _ _ ek] at hLk hk
      cases hLj; exact (hno k hk hLk).elim
    · subst ek
      rw [upd_same] at hLk; rw [upd_other _ _ ej] at hLj hj
      cases hLk; exact (hno j hj hLj).elim
    · rw [upd_other _ _ ej] at hLj hj; rw [upd_other _ _ ek] at hLk hk
      exact hr1.inj j k C hj hk hLj hLk
  · rintro C ⟨j, hj, hLj⟩
    change (upd (upd h.H i .dead) id b j).live = true at hj
    by_cases ej : j = id
    · subst ej; rw [upd_same] at hLj; cases hLj; exact .inl ⟨i, hlive, hL⟩
    · rw [upd_other _ _ ej] at hLj hj
      exact s1.own C ⟨j, hj, hLj⟩

section
variable {F : Nat → Prop} {G : Nat → Nat} {L : Nat → Option Nat} {w : World}

theorem VRels.later' {F' : Nat → Prop} {G' : Nat → Nat} {L' : Nat → Option Nat} {w' : World} (h : Later F G L w F' G' L' w') {ps us} (hv : VRels F G L w ps us) : VRels F' G' L' w' ps us := hv.later h

/-- Cells that were just put. -/
theorem cellsAt_put {B : Nat} {arr : Array Value} {T : TypeId} {fr : Nat × Nat} (hg : w.heap[B]? = some (.cells arr T fr)) {cs us o} (hv : VRels F G L w cs us) (hc : ∀ c ∈ cs, PV.isCell c = true) (hu : ∀ (j : Nat) v, us[j]? = some v → arr[o + j]? = some v) : CellsAt F G L w B o cs :=
  cellsAt_of (fun j c hj => by
    obtain ⟨v, h1, h2⟩ := hv.get hj
    refine ⟨hc c (List.mem_of_getElem? hj), v, ?_, h2⟩
    simp only [World.cell?, hg, Option.isSome_none, Bool.false_eq_true, if_false]
    exact hu j v h1)

/-- Elements as a row has them. -/
def ElemsOk (s : Nat) (es : List PV) : Prop := ∀ e ∈ es, e.isElem = true ∧ e.cells.length = s ∧ ∀ c ∈ e.cells, PV.isCell c = true

theorem ElemsOk.flat_length {s : Nat} : ∀ {es}, ElemsOk s es → (es.flatMap PV.cells).length = es.length * s
  | [], _ => by simp
  | e :: es, h => by
    have h1 := (h e (by simp)).2.1
    have h2 := ElemsOk.flat_length (s := s) (es := es) (fun e he => h e (by simp [he]))
    rw [List.flatMap_cons, List.length_append, h1, h2, List.length_cons, Nat.succ_mul]; omega

theorem ElemsOk.take {s : Nat} {es : List PV} (h : ElemsOk s es) (n : Nat) : ElemsOk s (es.take n) := fun e he => h e (List.mem_of_mem_take he)
theorem ElemsOk.drop {s : Nat} {es : List PV} (h : ElemsOk s es) (n : Nat) : ElemsOk s (es.drop n) := fun e he => h e (List.mem_of_mem_drop he)
theorem ElemsOk.append {s : Nat} {es fs : List PV} (h : ElemsOk s es) (k : ElemsOk s fs) : ElemsOk s (es ++ fs) := fun e he => by
  rcases List.mem_append.1 he with he | he
  · exact h e he
  · exact k e he

theorem ElemsOk.isCell {s : Nat} {es : List PV} (h : ElemsOk s es) : ∀ c ∈ es.flatMap PV.cells, PV.isCell c = true := fun c hc => by
  obtain ⟨e, he, hc⟩ := List.mem_flatMap.1 hc
  exact (h e he).2.2 c hc

theorem ElemsOk.flat_take {s : Nat} : ∀ {es}, ElemsOk s es → ∀ n, (es.take n).flatMap PV.cells = (es.flatMap PV.cells).take (n * s)
  | [], _, n => by simp
  | e :: es, h, 0 => by simp
  | e :: es, h, n + 1 => by
    have h1 := (h e (by simp)).2.1
    have h2 := ElemsOk.flat_take (s := s) (es := es) (fun e he => h e (by simp [he])) n
    rw [List.take_succ_cons, List.flatMap_cons, List.flatMap_cons, h2, List.take_append, h1, List.take_of_length_le (show e.cells.length ≤ (n + 1) * s by rw [h1, Nat.succ_mul]; omega)]
    congr 2; rw [Nat.succ_mul]; omega
theorem ElemsOk.flat_drop {s : Nat} : ∀ {es}, ElemsOk s es → ∀ n, (es.drop n).flatMap PV.cells = (es.flatMap PV.cells).drop (n * s)
  | [], _, n => by simp
  | e :: es, h, 0 => by simp
  | e :: es, h, n + 1 => by
    have h1 := (h e (by simp)).2.1
    have h2 := ElemsOk.flat_drop (s := s) (es := es) (fun e he => h e (by simp [he])) n
    rw [List.drop_succ_cons, List.flatMap_cons, h2, List.drop_append, h1, List.drop_eq_nil_of_le (show e.cells.length ≤ (n + 1) * s by rw [h1, Nat.succ_mul]; omega)]
    rw [List.nil_append]; congr 1; rw [Nat.succ_mul]; omega

theorem ElemsAt.ok {B s : Nat} : ∀ {o es}, ElemsAt F G L w B s o es → ElemsOk s es
  | _, _, .nil => fun e he => by simp at he
  | _, _, .cons h1 h2 h3 h4 => fun e he => by
    rcases List.mem_cons.1 he with rfl | he
    · exact ⟨h1, h2, h3.isCell⟩
    · exact h4.ok e he
theorem ElemsAt.flat {B s : Nat} : ∀ {o es}, ElemsAt F G L w B s o es → CellsAt F G L w B o (es.flatMap PV.cells)
  | _, _, .nil => .nil
  | _, _, .cons h1 h2 h3 h4 => by rw [List.flatMap_cons]; exact h3.append (by rw [h2]; exact h4.flat)
theorem ElemsAt.of_flat {B s : Nat} : ∀ {es o}, ElemsOk s es → CellsAt F G L w B o (es.flatMap PV.cells) → ElemsAt F G L w B s o es
  | [], _, _, _ => .nil
  | e :: es, o, h, hc => by
    have h1 := h e (by simp)
    rw [List.flatMap_cons] at hc
    have ha := hc.take e.cells.length
    have hb := hc.drop e.cells.length
    simp at ha hb
    rw [h1.2.1] at hb
    exact .cons h1.1 h1.2.1 ha (ElemsAt.of_flat (fun e he => h e (by simp [he])) hb)
end

/-- A new row of cells, as a variable. -/
theorem new_var {C : Ctx} {F L w h} (hr : HRel F L w h) (i : Nat) (t : TypeId) {cs us} (hv : VRels F h.G L w cs us) (hc : ∀ c ∈ cs, PV.isCell c = true) :
    ∃ L', HRel F L' (w.alloc (.cells us.toArray t)) (h.app [(i, h.G i + 1, .var cs)]) ∧ Step F L w h F L' (w.alloc (.cells us.toArray t)) (h.app [(i, h.G i + 1, .var cs)]) ∧
      VRel F (h.app [(i, h.G i + 1, .var cs)]).G L' (w.alloc (.cells us.toArray t)) (.ptr i (h.G i + 1) 0) (.pointer (some ⟨w.heap.size, 0, none⟩)) := by
  have hg : (w.alloc (.cells us.toArray t)).heap[w.heap.size]? = some (.cells us.toArray t (0, 0)) := heap_alloc_new w _
  obtain ⟨h1, h2⟩ := step_new hr (w' := w.alloc (.cells us.toArray t)) (o := .cells us.toArray t) rfl rfl rfl rfl i (.var cs) (fun hl hnF =>
    .var hnF ⟨_, _, _, hg, by simp [hv.length], by intro o _ h; simp at h⟩ (cellsAt_put hg (hv.later hl) hc (by simp)))
  refine ⟨_, h1, h2, .ptr ?_ (fun _ => ⟨w.heap.size, upd_same _ _ _, rfl⟩)⟩
  show h.G i + 1 ≤ upd h.G i (h.G i + 1) i
  rw [upd_same]; exact Nat.le_refl _

/-- A new row. arr may be longer than what is seen. -/
theorem new_row {F L w h} (hr : HRel F L w h) (i : Nat) (t : TypeId) {s : Nat} {es us} {arr : Array Value} {w' : World} {fr : Nat × Nat} (hw : w'.heap = w.heap.push (.cells arr t fr)) (h1 : w'.os = w.os) (h2 : w'.tape = w.tape) (h3 : w'.output = w.output)
    (hfr : ∀ o, o < arr.size → ¬ (fr.1 ≤ o ∧ o < fr.2)) (ho : ElemsOk s es) (hv : VRels F h.G L w (es.flatMap PV.cells) us) (hu : ∀ (j : Nat) v, us[j]? = some v → arr[j]? = some v) {len cap : Nat} (hlen : len ≤ cap) (hcap : cap * s ≤ arr.size) :
    ∃ L', HRel F L' w' (h.app [(i, h.G i + 1, .row s es)]) ∧ Step F L w h F L' w' (h.app [(i, h.G i + 1, .row s es)]) ∧
      VRel F (h.app [(i, h.G i + 1, .row s es)]).G L' w' (.row i (h.G i + 1) 0 len s) (.slice (some ⟨w.heap.size, 0, none⟩) len cap) := by
  have hg : w'.heap[w.heap.size]? = some (.cells arr t fr) := by rw [hw]; simp
  have hn : es.length * s ≤ arr.size := by
    rw [← ho.flat_length, hv.length]
    rcases Nat.eq_zero_or_pos us.length with h0 | h0
    · omega
    · have hlast : us[us.length - 1]? = some us[us.length - 1] := List.getElem?_eq_getElem (by omega)
      have := (Array.getElem?_eq_some_iff.1 (hu _ _ hlast)).1
      omega
  obtain ⟨a1, a2⟩ := step_new hr hw h1 h2 h3 i (.row s es) (fun hl hnF =>
    .row hnF ⟨_, _, _, hg, hn, hfr⟩ (.of_flat ho (cellsAt_put hg (hv.later hl) ho.isCell (by simpa using hu))))
  refine ⟨_, a1, a2, .row ?_ (fun _ => .inr ⟨w.heap.size, t, arr.size, upd_same _ _ _, by simp, hlen, by simp [World.shape?, hg], by simpa using hcap⟩)⟩
  show h.G i + 1 ≤ upd h.G i (h.G i + 1) i
  rw [upd_same]; exact Nat.le_refl _
end Go.Ev
end

section
/- The evaluator's operations are the model's: slices' elements; append. -/
set_option linter.unusedVariables false
set_option linter.unusedSimpArgs false
namespace Go.Ev
open Go

def Gives (C : Ctx) (F : Nat → Prop) (L : Nat → Option Nat) (w : World) (h : Hp) (s : Sem Value) (r : PV) (ups : Ups) : Prop :=
  ∃ v w' L', s.run C.P w = .ok v w' ∧ HRel F L' w' (h.app ups) ∧ Step F L w h F L' w' (h.app ups) ∧ VRel F (h.app ups).G L' w' r v

theorem Gives.same {C F L w h s r v} (hr : HRel F L w h) (hs : s.run C.P w = .ok v w) (hv : VRel F h.G L w r v) : Gives C F L w h s r [] :=
  ⟨v, w, L, hs, hr, .refl _ _ _ _, hv⟩

theorem VRels.cell1 {F G L w p u} (h : VRels F G L w [p] [u]) : VRel F G L w p u := by cases h; assumption

theorem mkVal_elem {b : Bool} {s : Nat} {cs : List PV} {e : PV} (h : mkVal b cs = some e) (hc : ∀ c ∈ cs, PV.isCell c = true) : e.isElem = true ∧ e.cells = cs := by
  unfold mkVal at h
  cases b
  · simp at h
    split at h <;> try (cases h; done)
    rename_i c
    cases h
    have := hc e (by simp)
    cases e <;> first | exact ⟨this, rfl⟩ | (simp [PV.isCell] at this; done)
  · simp at h; subst h; exact ⟨rfl, rfl⟩

theorem chunk_sound {s : Nat} {b : Bool} : ∀ {n : Nat} {cs es : List PV}, chunk s b n cs = some es → (∀ c ∈ cs, PV.isCell c = true) → ElemsOk s es ∧ es.flatMap PV.cells = cs.take (n * s) ∧ es.length = n
  | 0, cs, es, h, hc => by simp [chunk] at h; subst h; exact ⟨fun e he => by simp at he, by simp, rfl⟩
  | n + 1, cs, es, h, hc => by
    simp only [chunk] at h
    split at h <;> try (cases h; done)
    rename_i hs
    split at h <;> try (cases h; done)
    rename_i e es' he hes
    cases h
    have hct : ∀ c ∈ cs.take s, PV.isCell c = true := fun c hm => hc c (List.mem_of_mem_take hm)
    obtain ⟨h1, h2⟩ := mkVal_elem (s := s) he hct
    obtain ⟨h3, h4, h5⟩ := chunk_sound hes (fun c hm => hc c (List.mem_of_mem_drop hm))
    refine ⟨fun x hx => ?_, ?_, by simp [h5]⟩
    · rcases List.mem_cons.1 hx with rfl | hx
      · exact ⟨h1, by rw [h2]; simp; omega, by rw [h2]; exact hct⟩
      · exact h3 x hx
    · rw [List.flatMap_cons, h2, h4, Nat.succ_mul, Nat.add_comm (n * s) s, List.take_add]

/-- What a slice's elements are in the model. -/
structure ElemsAs (P : Program) (F : Nat → Prop) (G : Nat → Nat) (L : Nat → Option Nat) (w : World) (s : Nat) (es : List PV) (u : Value) (us : List Value) : Prop where
  rel : VRels F G L w (es.flatMap PV.cells) us
  ok : ElemsOk s es
  len : ∀ w', (Builtin.lenOf u).run P w' = .ok es.length w'
  first : ∀ w', w'.heap = w.heap → ∀ n, n ≤ es.length → (Builtin.firstCells s n u).run P w' = .ok (us.take (n * s)).toArray w'

theorem ElemsAs.length {P F G L w s es u us} (h : ElemsAs P F G L w s es u us) : us.length = es.length * s := by rw [← h.rel.length, h.ok.flat_length]

theorem first_of_cells {P : Program} {F : Nat → Prop} {G : Nat → Nat} {L : Nat → Option Nat} {w : World} {s : Nat} {es : List PV} {B o len cap : Nat} (hc : CellsAt F G L w B o (es.flatMap PV.cells)) (ho : ElemsOk s es) (hlen : len = es.length) :
    ∃ us, ElemsAs P F G L w s es (.slice (some ⟨B, o, none⟩) len cap) us := by
  obtain ⟨us, h1, h2⟩ := hc.vals
  refine ⟨us, h1, ho, fun w' => by simp [Builtin.lenOf, hlen], fun w' hw n hn => ?_⟩
  have hl : (us.take (n * s)).length = n * s := by
    rw [List.length_take, ← h1.length, ho.flat_length]
    exact Nat.min_eq_left (Nat.mul_le_mul_right _ hn)
  refine run_firstCells_some (P := P) w' s n _ _ _ _ hl (fun j v hj => ?_)
  rw [addr_add]
  have := h2 j v (by
    rw [List.getElem?_take] at hj
    split at hj
    · exact hj
    · cases hj)
  simpa [World.cell?, hw] using this

theorem first_none {P : Program} {F : Nat → Prop} {G : Nat → Nat} {L : Nat → Option Nat} {w : World} {s : Nat} {a : Option Addr} {cap : Nat} : ElemsAs P F G L w s [] (.slice a 0 cap) [] :=
  ⟨.nil, fun e he => by simp at he, fun w' => by simp [Builtin.lenOf], fun w' hw n hn => by
    have : n = 0 := by simpa using hn
    subst this
    cases a <;> simp [Builtin.firstCells, loadCells, loadCellsFrom]⟩

theorem elemsP_sound {C : Ctx} {F L w h b s x es u} (hr : HRel F L w h) (hc : elemsP h b s x = some es) (hx : VRel F h.G L w x u) :
    ∃ us, ElemsAs C.P F h.G L w s es u us := by
  unfold elemsP at hc
  split at hc
  · rename_i es0
    split at hc <;> try (cases hc; done)
    rename_i hhead
    cases hc
    cases hx with
    | c hx =>
      cases hx with
      | lstNil => exact ⟨[], first_none⟩
      | lst hF hcap he =>
        rename_i B o s0 cap
        cases es with
        | nil => cases he; exact ⟨[], first_none⟩
        | cons e0 es1 =>
          have hs : s0 = s := by
            obtain ⟨_, h1, _⟩ := he.get (i := 0) (e := e0) (by simp)
            rw [← h1]; exact hhead e0 (by simp)
          subst hs
          have hat : ElemsAt F h.G L w B s0 o (e0 :: es1) := he.toAt
          exact first_of_cells hat.flat hat.ok rfl
  · rename_i i g lo len s'
    cases hx with
    | c hx => cases hx
    | row hg hrow =>
      split at hc
      · rename_i h0; subst h0
        cases hc
        exact ⟨[], first_none⟩
      · rename_i hne
        split at hc <;> try (cases hc; done)
        rename_i hgs
        obtain ⟨hg1, rfl⟩ := hgs
        rcases hrow hg1 with ⟨h0, _⟩ | ⟨B, T, n, hL, rfl, hlc, hsh, hfit⟩
        · exact (hne h0).elim
        have hb := hr.ok i
        rw [hL] at hb
        split at hc <;> try (cases hc; done)
        all_goals
          rename_i s2 es0 hH
          rw [hH] at hb
          split at hc <;> try (cases hc; done)
          rename_i hcond
          obtain ⟨rfl, hle⟩ := hcond
          cases hc
          have hea : ElemsAt F h.G L w B s2 0 es0 := by cases hb <;> assumption
          have hok := (hea.ok.drop lo).take len
          have hcell := (hea.flat.drop (lo * s2)).take (len * s2)
          rw [← hea.ok.flat_drop, ← (hea.ok.drop lo).flat_take] at hcell
          rw [Nat.zero_add] at hcell
          exact first_of_cells hcell hok (by simp; omega)
  · rename_i i g off len s'
    cases hx with
    | c hx => cases hx
    | asl hg hrow =>
      split at hc
      · rename_i h0; subst h0
        cases hc
        exact ⟨[], first_none⟩
      · rename_i hne
        split at hc <;> try (cases hc; done)
        rename_i hgs
        obtain ⟨hg1, rfl⟩ := hgs
        rcases hrow hg1 with ⟨h0, _⟩ | ⟨B, hL, rfl, hlc⟩
        · exact (hne h0).elim
        have hb := hr.ok i
        rw [hL] at hb
        split at hc <;> try (cases hc; done)
        all_goals
          rename_i cs0 hH
          rw [hH] at hb
          have hca : CellsAt F h.G L w B 0 cs0 := by cases hb <;> assumption
          have hd := hca.drop off
          rw [Nat.zero_add] at hd
          obtain ⟨k1, k2, k3⟩ := chunk_sound hc hd.isCell
          have hcell := hd.take (len * s')
          rw [← k2] at hcell
          exact first_of_cells hcell k1 k3.symm
  · cases hc
    obtain ⟨rfl, _⟩ := hx.v_iff
    exact ⟨[], first_none⟩
  · rename_i str
    split at hc <;> try (cases hc; done)
    rename_i hs
    obtain ⟨rfl, rfl⟩ := hs
    cases hc
    obtain ⟨rfl, _⟩ := hx.v_iff
    have hflat : ∀ l : List UInt8, (l.map byteP).flatMap PV.cells = l.map byteP := by
      intro l; induction l with
      | nil => rfl
      | cons a l ih => rw [List.map_cons, List.flatMap_cons, ih]; rfl
    have hrel : ∀ l : List UInt8, VRels F h.G L w (l.map byteP) (l.map (fun b => Value.int .u8 b.toNat)) := by
      intro l; induction l with
      | nil => exact .nil
      | cons a l ih => exact .cons (.c (.v rfl)) ih
    refine ⟨str.data.toList.map (fun b => Value.int .u8 b.toNat), by rw [hflat]; exact hrel _, fun e he => ?_, fun w' => by simp [Builtin.lenOf], fun w' hw n hn => ?_⟩
    · obtain ⟨a, _, rfl⟩ := List.mem_map.1 he
      exact ⟨rfl, rfl, fun c hc => by simp [PV.cells, byteP] at hc; subst hc; rfl⟩
    · simp only [Builtin.firstCells, Sem.run_pure, Nat.mul_one]
      congr 1
      apply Array.ext'
      simp [ByteArray.data_extract, List.map_take]
  · cases hc
end Go.Ev
end

section
/- The evaluator's operations are the model's: append, copy, make, conversions. -/
set_option linter.unusedVariables false
set_option linter.unusedSimpArgs false
namespace Go.Ev
open Go

theorem zero_len {C : Ctx} (ht : TablesOk C) {e : TypeId} (h : (C.zero e).isSome = true) : ∃ z i, C.P.info? e = some i ∧ i.zero = some z ∧ z.cells.size = C.size e := by
  obtain ⟨zs, hz⟩ := Option.isSome_iff_exists.1 h
  obtain ⟨b, z, i, h1, h2, h3, h4, h5, h6⟩ := ht.zero e zs hz
  refine ⟨z, i, h4, h5, ?_⟩
  cases b
  · simp at h6
    rw [h6] at h2 h3
    have := h3 z (by simp)
    have hc : z.cells = #[z] := by cases z <;> first | rfl | (simp [Value.oneCell'] at this; done)
    rw [hc]; simpa using h2
  · simp at h6
    subst h6
    simpa [Value.cells] using h2

/-- The model's append where it makes a new row. -/
theorem run_append_new {C : Ctx} (ht : TablesOk C) {t e : TypeId} (hty : TyOk C.P t (.slice e)) {b : Bool} (hb : C.isAgg e = some b) {argTypes : Array TypeId} (ha0 : argTypes[0]? = some t)
    (hz0 : ∀ (t2 : TypeId), argTypes[1]? = some t2 → ∃ d, C.P.underlying t2 = some d ∧ ∀ k, d ≠ .int k) {ty : TypeId}
    {w : World} {base : Option Addr} {sLen sCap : Nat} {y : Value} {n : Nat} {olds news : Array Value} {z : Value} {i : TypeInfo} (hi : C.P.info? e = some i) (hz : i.zero = some z)
    (hlen : ∀ w', (Builtin.lenOf y).run C.P w' = .ok n w') (holds : (Builtin.firstCells (C.size e) sLen (.slice base sLen sCap)).run C.P w.drew = .ok olds w.drew)
    (hnews : (Builtin.firstCells (C.size e) n y).run C.P w.drew = .ok news w.drew)
    (hcap : sCap < sLen + n) (hbytes : 0 < C.bytes e) (hfit : (sLen + n) * C.bytes e ≤ 140737488355328) :
    (Builtin.append_ argTypes ty #[.slice base sLen sCap, y]).run C.P w =
      .ok (.slice (some ⟨w.heap.size, 0, none⟩) (sLen + n) (grownCap w (sLen + n) sCap e)) (w.drew.alloc (.cells (olds ++ news ++ Builtin.zeroCells z.cells (grownCap w (sLen + n) sCap e - (sLen + n))) e)) := by
  obtain ⟨i', hi', hs, hby, _⟩ := ht.info e b hb
  rw [hi] at hi'; cases hi'
  have hty' : C.P.underlying t = some (.slice e) := hty
  have hn : ¬ (sLen + n ≤ sCap) := by omega
  have h48 : Builtin.nextslicecap (sLen + n) sCap * i.bytes ≤ 281474976710656 := growslice_fits (by omega) (by rw [hby]; exact hfit)
  have h48' : ¬ (281474976710656 < Builtin.nextslicecap (sLen + n) sCap * i.bytes) := by omega
  have h63 : sLen + n ≤ (sLen + n) * C.bytes e := Nat.le_mul_of_pos_right _ hbytes
  have h63' : ¬ (9223372036854775807 < ((sLen : Int) + (n : Int))) := by omega
  have hb0 : i.bytes ≠ 0 := by omega
  rw [← hs] at holds hnews
  cases h2 : argTypes[1]? with
  | none =>
    simp [Builtin.append_, ha0, h2, run_underlying hty', sizeOf, typeInfo, zeroValue, hi, hz, hlen, hn, h63', h48', hb0, Question.forced, holds, hnews, newRow, grownCap]
  | some t2 =>
    obtain ⟨d, hd, hnd⟩ := hz0 t2 h2
    have hd' : (match d with | .int _ => true | _ => false) = false := by cases d <;> first | rfl | exact absurd rfl (hnd _)
    simp [Builtin.append_, ha0, h2, run_underlying hty', run_underlying hd, hd', sizeOf, typeInfo, zeroValue, hi, hz, hlen, hn, h63', h48', hb0, Question.forced, holds, hnews, newRow, grownCap]

/-- The model's append where there is room (or nothing to put). -/
theorem run_append_in {C : Ctx} (ht : TablesOk C) {t e : TypeId} (hty : TyOk C.P t (.slice e)) {b : Bool} (hb : C.isAgg e = some b) {argTypes : Array TypeId} (ha0 : argTypes[0]? = some t)
    (hz0 : ∀ (t2 : TypeId), argTypes[1]? = some t2 → ∃ d, C.P.underlying t2 = some d ∧ ∀ k, d ≠ .int k) {ty : TypeId}
    {w w' : World} {base : Option Addr} {sLen sCap : Nat} {y : Value} {n : Nat} {news : Array Value}
    (hlen : ∀ w', (Builtin.lenOf y).run C.P w' = .ok n w')
    (hnews : (Builtin.firstCells (C.size e) n y).run C.P w = .ok news w)
    (hcap : sLen + n ≤ sCap) (hst : match base with | some a => (storeCells (a.add (sLen * C.size e)) news.toList).run C.P w = .ok () w' | none => w' = w) :
    (Builtin.append_ argTypes ty #[.slice base sLen sCap, y]).run C.P w = .ok (.slice base (sLen + n) sCap) w' := by
  obtain ⟨i, hi, hs, hby, _⟩ := ht.info e b hb
  have hty' : C.P.underlying t = some (.slice e) := hty
  rw [← hs] at hnews
  cases base with
  | none =>
    simp at hst; subst hst
    cases h2 : argTypes[1]? with
    | none => simp [Builtin.append_, ha0, h2, run_underlying hty', sizeOf, typeInfo, hi, hlen, hcap, hnews]
    | some t2 =>
      obtain ⟨d, hd, hnd⟩ := hz0 t2 h2
      have hd' : (match d with | .int _ => true | _ => false) = false := by cases d <;> first | rfl | exact absurd rfl (hnd _)
      simp [Builtin.append_, ha0, h2, run_underlying hty', run_underlying hd, hd', sizeOf, typeInfo, hi, hlen, hcap, hnews]
  | some a =>
    simp only [← hs] at hst
    cases h2 : argTypes[1]? with
    | none => simp [Builtin.append_, ha0, h2, run_underlying hty', sizeOf, typeInfo, hi, hlen, hcap, hnews, hst]
    | some t2 =>
      obtain ⟨d, hd, hnd⟩ := hz0 t2 h2
      have hd' : (match d with | .int _ => true | _ => false) = false := by cases d <;> first | rfl | exact absurd rfl (hnd _)
      simp [Builtin.append_, ha0, h2, run_underlying hty', run_underlying hd, hd', sizeOf, typeInfo, hi, hlen, hcap, hnews, hst]

theorem ty2_ok {C : Ctx} (ht : TablesOk C) {t2 : TypeId} (h1 : ∀ k, C.ty t2 ≠ .int k) (h2 : C.ty t2 ≠ .other) : ∃ d, C.P.underlying t2 = some d ∧ ∀ k, d ≠ .int k := by
  have := ht.ty t2
  cases hy : C.ty t2 <;> rw [hy] at this <;> simp only [TyOk] at this <;> first
    | exact (h1 _ hy).elim
    | exact (h2 hy).elim
    | (obtain ⟨d, hd, hp⟩ := this; refine ⟨d, hd, fun k hk => ?_⟩; subst hk; simp at hp; done)
    | exact ⟨_, this, fun k hk => by cases hk⟩
    | (obtain ⟨f, hu, _⟩ := this; exact ⟨_, hu, fun k hk => by cases hk⟩)

theorem list_take_take {α : Type} {l : List α} {n : Nat} (h : l.length ≤ n) : l.take n = l := List.take_of_length_le h

theorem appendP_sound {C : Ctx} (ht : TablesOk C) {F L w h id} {argTypes : Array TypeId} {t t2 ty : TypeId} (ha0 : argTypes[0]? = some t) (ha1 : argTypes[1]? = some t2) {x y u uy r ups} (hr : HRel F L w h)
    (hc : appendP C h id t (C.ty t2) x y = some (r, ups)) (hx : VRel F h.G L w x u) (hy : VRel F h.G L w y uy) : Gives C F L w h (Builtin.append_ argTypes ty #[u, uy]) r ups := by
  unfold appendP at hc
  split at hc <;> try (cases hc; done)
  rename_i e hte hn1 hn2
  have hz0 : ∀ (t' : TypeId), argTypes[1]? = some t' → ∃ d, C.P.underlying t' = some d ∧ ∀ k, d ≠ .int k := fun t' h' => by
    rw [ha1] at h'; cases h'
    exact ty2_ok ht (fun k hk => hn1 k hk) hn2
  have hty : TyOk C.P t (.slice e) := hte ▸ ht.ty t
  split at hc <;> try (cases hc; done)
  rename_i b hb
  split at hc <;> try (cases hc; done)
  rename_i ns hns
  obtain ⟨us, hu⟩ := elemsP_sound hr hns hy
  have hfull : ∀ w', w'.heap = w.heap → (Builtin.firstCells (C.size e) ns.length uy).run C.P w' = .ok us.toArray w' := fun w' hw' => by
    rw [hu.first w' hw' ns.length (Nat.le_refl _), list_take_take (by rw [hu.length]; exact Nat.le_refl _)]
  split at hc
  · -- onto nil
    split at hc <;> try (cases hc; done)
    rename_i hcond
    obtain ⟨hfit, hby, hzs⟩ := hcond
    obtain ⟨z, i, hi, hz, hzl⟩ := zero_len ht hzs
    cases hc
    obtain ⟨rfl, _⟩ := hx.v_iff
    by_cases h0 : ns.length = 0
    · have hrun := run_append_in (ty := ty) (w' := w) ht hty hb ha0 hz0 (w := w) (base := none) (sLen := 0) (sCap := 0) hu.len (hfull w rfl) (by omega) rfl
      have hns0 : ns = [] := List.eq_nil_of_length_eq_zero h0
      subst hns0
      obtain ⟨k1, k2⟩ := step_phantom hr id (C.size e)
      refine ⟨_, _, _, hrun, k1, k2, ?_⟩
      refine .row ?_ (fun _ => .inl ⟨rfl, rfl⟩)
      show h.G id + 1 ≤ upd h.G id (h.G id + 1) id
      rw [upd_same]; exact Nat.le_refl _
    · have hrun := run_append_new (ty := ty) ht hty hb ha0 hz0 (w := w) (base := none) (sLen := 0) (sCap := 0) (olds := #[]) hi hz hu.len (by simp [Builtin.firstCells]) (hfull w.drew rfl) (by omega) hby (by simpa using hfit)
      simp only [Nat.zero_add] at hrun
      have hge := grownCap_ge w ns.length 0 e
      obtain ⟨L', k1, k2, k3⟩ := new_row hr id e (s := C.size e) (es := ns) (us := us) (len := ns.length) (cap := grownCap w ns.length 0 e)
        (arr := #[] ++ us.toArray ++ Builtin.zeroCells z.cells (grownCap w ns.length 0 e - ns.length)) (w' := w.drew.alloc (.cells (#[] ++ us.toArray ++ Builtin.zeroCells z.cells (grownCap w ns.length 0 e - ns.length)) e)) (fr := (0, 0))
        rfl rfl rfl rfl (fun _ _ hh => by simp at hh) hu.ok hu.rel (fun j v hj => by
          have hlt : j < us.length := (List.getElem?_eq_some_iff.1 hj).1
          rw [Array.getElem?_append_left (by simp; omega)]
          simpa using hj) hge (by
          simp only [Array.size_append, List.size_toArray, size_zeroCells, hzl, hu.length]
          rw [List.length_nil, Nat.zero_add, ← Nat.add_mul, Nat.add_sub_cancel' hge]; exact Nat.le_refl _)
      exact ⟨_, _, L', hrun, k1, k2, k3⟩
  · -- onto a row of the call's own
    rename_i i0 g len s
    split at hc <;> try (cases hc; done)
    rename_i hgs
    obtain ⟨hg1, rfl⟩ := hgs
    split at hc <;> try (cases hc; done)
    rename_i s2 es hH
    split at hc <;> try (cases hc; done)
    rename_i hcond
    obtain ⟨rfl, hle, hfit, hby, hzs⟩ := hcond
    obtain ⟨z, i, hi, hz, hzl⟩ := zero_len ht hzs
    cases hc
    subst hg1
    have hG : upd h.G i0 (h.G i0) = h.G := upd_id _ _ _ rfl
    cases hx with
    | c hx => cases hx
    | row hg hrow =>
      rename_i cap a
      rcases hrow rfl with ⟨h0, hcap0⟩ | ⟨B, T, n, hL, rfl, hlc, hsh, hcapfit⟩
      · subst h0; subst hcap0
        by_cases hn0 : ns.length = 0
        · -- nothing onto nothing
          have hns0 : ns = [] := List.eq_nil_of_length_eq_zero hn0
          subst hns0
          have hus0 : us = [] := List.eq_nil_of_length_eq_zero (by rw [hu.length]; simp)
          subst hus0
          have hrun := run_append_in (ty := ty) (w' := w) ht hty hb ha0 hz0 (w := w) (base := a) (sLen := 0) (sCap := 0) hu.len (hfull w rfl) (by simp) (by cases a <;> simp [storeCells])
          obtain ⟨k1, k2⟩ := step_dead hr i0
          obtain ⟨k3, k4⟩ := step_phantom k1 id (C.size e)
          refine ⟨_, _, _, hrun, k3, k2.trans k4, ?_⟩
          refine .row ?_ (fun _ => .inl ⟨rfl, rfl⟩)
          show (upd h.G i0 (h.G i0)) id + 1 ≤ upd (upd h.G i0 (h.G i0)) id ((upd h.G i0 (h.G i0)) id + 1) id
          rw [upd_same]; exact Nat.le_refl _
        · have hrun := run_append_new (ty := ty) ht hty hb ha0 hz0 (w := w) (base := a) (sLen := 0) (sCap := 0) (olds := #[]) hi hz hu.len (by cases a <;> simp [Builtin.firstCells, loadCells, loadCellsFrom]) (hfull w.drew rfl) (by omega) hby hfit
          simp only [Nat.zero_add] at hrun
          have hge := grownCap_ge w ns.length 0 e
          obtain ⟨k1, k2⟩ := step_dead hr i0
          obtain ⟨L', k3, k4, k5⟩ := new_row k1 id e (s := C.size e) (es := es.take 0 ++ ns) (us := us) (len := 0 + ns.length) (cap := grownCap w ns.length 0 e)
            (arr := #[] ++ us.toArray ++ Builtin.zeroCells z.cells (grownCap w ns.length 0 e - ns.length)) (w' := w.drew.alloc (.cells (#[] ++ us.toArray ++ Builtin.zeroCells z.cells (grownCap w ns.length 0 e - ns.length)) e)) (fr := (0, 0))
            rfl rfl rfl rfl (fun _ _ hh => by simp at hh) (by simpa using hu.ok) (by simpa using hu.rel.later k2.toLater) (fun j v hj => by
              have hlt : j < us.length := (List.getElem?_eq_some_iff.1 hj).1
              rw [Array.getElem?_append_left (by simp; omega)]
              simpa using hj) (by omega) (by
              simp only [Array.size_append, List.size_toArray, size_zeroCells, hzl, hu.length]
              rw [List.length_nil, Nat.zero_add, ← Nat.add_mul, Nat.add_sub_cancel' hge]; exact Nat.le_refl _)
          rw [Nat.zero_add] at k5
          refine ⟨_, _, L', hrun, k3, k2.trans k4, ?_⟩
          rw [Nat.zero_add]
          exact k5
      · have hbr := hr.ok i0
        rw [hL, hH] at hbr
        have hlive : (h.H i0).live = true := by rw [hH]; rfl
        cases hbr with
        | row hF hfree hea =>
          obtain ⟨arr, T2, fr, hg1, hg2, hg3⟩ := hfree
          have hshape : n = arr.size := by simp [World.shape?, hg1] at hsh; exact hsh.2.symm
          have hokT : ElemsOk (C.size e) (es.take len) := hea.ok.take len
          have hlenT : (es.take len).length = len := by simp; omega
          by_cases hroom : len + ns.length ≤ cap
          · -- in place
            obtain ⟨w', hs1, hs2⟩ := store_cells C.P B (len * C.size e) T2 fr us 0 arr w hg1 hg3 (by
              rw [hu.length, Nat.add_zero, ← Nat.add_mul]
              refine Nat.le_trans (Nat.mul_le_mul_right _ hroom) ?_
              rw [← hshape]; simpa using hcapfit) (hu.rel.oneCell hu.ok.isCell)
            rw [Nat.add_zero] at hs2
            have hrun := run_append_in (ty := ty) (w' := w') ht hty hb ha0 hz0 (w := w) (base := some ⟨B, 0 * C.size e, none⟩) (sLen := len) (sCap := cap) hu.len (hfull w rfl) hroom (by
              show (storeCells ((⟨B, 0 * C.size e, none⟩ : Addr).add (len * C.size e)) us.toArray.toList).run C.P w = .ok () w'
              rw [addr_add]; simpa using hs1)
            obtain ⟨k1, k2⟩ := step_move hr hlive hL hs2.other hs2.size (hs2.shape hg1) hs2.os hs2.tape hs2.output id (.row (C.size e) (es.take len ++ ns)) (fun G' L' hl hnF => by
              have hflat : (es.take len ++ ns).flatMap PV.cells = (es.flatMap PV.cells).take (len * C.size e) ++ ns.flatMap PV.cells := by
                rw [List.flatMap_append, hea.ok.flat_take]
              refine .row hnF (hs2.free hg3 ?_) (.of_flat (hokT.append hu.ok) ?_)
              · rw [List.length_append, hlenT]
                refine Nat.le_trans (Nat.mul_le_mul_right _ hroom) ?_
                rw [← hshape]; simpa using hcapfit
              · rw [hflat]
                refine .append (cellsAt_of (fun j c hj => ?_)) (cellsAt_of (fun j c hj => ?_))
                · obtain ⟨hc1, v, hc2, hc3⟩ := (hea.flat.take _).get hj
                  have hjl : j < len * C.size e := by have := (List.getElem?_eq_some_iff.1 hj).1; simp at this; omega
                  exact ⟨hc1, v, (hs2.cell_out hg1 (by omega)).trans hc2, hc3.later hl⟩
                · obtain ⟨v, hv1, hv2⟩ := hu.rel.get hj
                  refine ⟨hu.ok.isCell c (List.mem_of_getElem? hj), v, ?_, hv2.later hl⟩
                  have := hs2.cell_in hv1
                  rw [← hea.ok.flat_take, hokT.flat_length, hlenT, Nat.zero_add]
                  exact this)
            refine ⟨_, _, _, hrun, k1, k2, .row ?_ (fun _ => .inr ⟨B, T, n, upd_same _ _ _, rfl, hroom, (hs2.shape hg1) _ _ hsh, hcapfit⟩)⟩
            show (upd h.G i0 (h.G i0)) id + 1 ≤ upd (upd h.G i0 (h.G i0)) id ((upd h.G i0 (h.G i0)) id + 1) id
            rw [upd_same]; exact Nat.le_refl _
          · -- a new row
            have hcT := (hea.flat.take (len * C.size e))
            rw [← hea.ok.flat_take] at hcT
            obtain ⟨us0, hA⟩ := first_of_cells (P := C.P) (len := len) (cap := cap) hcT hokT hlenT.symm
            have hfull0 : (Builtin.firstCells (C.size e) len (.slice (some ⟨B, 0, none⟩) len cap)).run C.P w.drew = .ok us0.toArray w.drew := by
              rw [hA.first w.drew rfl len (by omega), list_take_take (by rw [hA.length, hlenT]; exact Nat.le_refl _)]
            have hrun := run_append_new (ty := ty) ht hty hb ha0 hz0 (w := w) (base := some ⟨B, 0 * C.size e, none⟩) (sLen := len) (sCap := cap) (olds := us0.toArray) hi hz hu.len (by rw [Nat.zero_mul]; exact hfull0) (hfull w.drew rfl) (by omega) hby hfit
            have hge := grownCap_ge w (len + ns.length) cap e
            obtain ⟨k1, k2⟩ := step_dead hr i0
            have hul : us0.length = len * C.size e := by rw [hA.length, hlenT]
            obtain ⟨L', k3, k4, k5⟩ := new_row k1 id e (s := C.size e) (es := es.take len ++ ns) (us := us0 ++ us) (len := len + ns.length) (cap := grownCap w (len + ns.length) cap e)
              (arr := us0.toArray ++ us.toArray ++ Builtin.zeroCells z.cells (grownCap w (len + ns.length) cap e - (len + ns.length))) (w' := w.drew.alloc (.cells (us0.toArray ++ us.toArray ++ Builtin.zeroCells z.cells (grownCap w (len + ns.length) cap e - (len + ns.length))) e)) (fr := (0, 0))
              rfl rfl rfl rfl (fun _ _ hh => by simp at hh) (hokT.append hu.ok) (by
                rw [List.flatMap_append]
                exact (hA.rel.later k2.toLater).append (hu.rel.later k2.toLater)) (fun j v hj => by
                have hlt : j < (us0 ++ us).length := (List.getElem?_eq_some_iff.1 hj).1
                rw [Array.getElem?_append_left (by simpa using hlt)]
                rw [← hj]
                simp) hge (by
                simp only [Array.size_append, List.size_toArray, size_zeroCells, hzl, hu.length, hul]
                rw [← Nat.add_mul, ← Nat.add_mul, Nat.add_sub_cancel' hge]; exact Nat.le_refl _)
            exact ⟨_, _, L', hrun, k3, k2.trans k4, k5⟩
  · cases hc
end Go.Ev
end

section
/- The evaluator's operations are the model's: copy, make, literals, conversions. -/
set_option linter.unusedVariables false
set_option linter.unusedSimpArgs false
namespace Go.Ev
open Go

theorem vrels_of {F G L w} : ∀ {ps : List PV} {us : List Value}, ps.length = us.length → (∀ (j : Nat) p, ps[j]? = some p → ∃ u, us[j]? = some u ∧ VRel F G L w p u) → VRels F G L w ps us
  | [], [], _, _ => .nil
  | p :: ps, u :: us, hl, h => by
    obtain ⟨x, h1, h2⟩ := h 0 p (by simp)
    simp at h1; subst h1
    exact .cons h2 (vrels_of (by simpa using hl) (fun j q hq => by have := h (j + 1) q (by simpa using hq); simpa using this))
  | [], _ :: _, hl, _ => by simp at hl
  | _ :: _, [], hl, _ => by simp at hl

theorem app_same {h : Hp} {i g : Nat} {b : Blk} (hg : h.G i = g) (hb : h.H i = b) : h.app [(i, g, b)] = h := by
  show Hp.mk (upd h.G i g) (upd h.H i b) = h
  rw [upd_id _ _ _ hg, upd_id _ _ _ hb]

theorem min_cells {C : Ctx} {F G L w s es u us} (hu : ElemsAs C.P F G L w s es u us) (len : Nat) : (us.take (Nat.min es.length len * s)).length = Nat.min es.length len * s := by
  rw [List.length_take, hu.length]; exact Nat.min_eq_left (Nat.mul_le_mul_right _ (Nat.min_le_left _ _))

theorem take_min {α : Type} (l : List α) (n : Nat) : l.take (min l.length n) = l.take n := by
  rcases Nat.le_total l.length n with h | h
  · rw [Nat.min_eq_left h, List.take_of_length_le (Nat.le_refl _), List.take_of_length_le h]
  · rw [Nat.min_eq_right h]

theorem run_copy_any {C : Ctx} (ht : TablesOk C) {t e ty : TypeId} (hty : TyOk C.P t (.slice e)) {b : Bool} (hb : C.isAgg e = some b) {argTypes : Array TypeId} (ha0 : argTypes[0]? = some t) {w w' : World} {base : Option Addr} {dLen dCap : Nat} {y : Value} {n : Nat} {cells : Array Value}
    (hlen : (Builtin.lenOf y).run C.P w = .ok n w) (hf : (Builtin.firstCells (C.size e) (Nat.min n dLen) y).run C.P w = .ok cells w)
    (hst : match base with | some a => (storeCells a cells.toList).run C.P w = .ok () w' | none => w' = w) :
    (Builtin.copy_ argTypes ty #[.slice base dLen dCap, y]).run C.P w = .ok (.int .i64 (Nat.min n dLen : Nat)) w' := by
  obtain ⟨i, hi, hs, hby, _⟩ := ht.info e b hb
  have hty' : C.P.underlying t = some (.slice e) := hty
  rw [← hs] at hf
  cases base with
  | none => simp at hst; subst hst; simp [Builtin.copy_, ha0, run_underlying hty', sizeOf, typeInfo, hi, hlen, hf, goInt]
  | some a => simp at hst; simp [Builtin.copy_, ha0, run_underlying hty', sizeOf, typeInfo, hi, hlen, hf, hst, goInt]

theorem copyP_sound {C : Ctx} (ht : TablesOk C) {F L w h} {argTypes : Array TypeId} {t ty : TypeId} (ha0 : argTypes[0]? = some t) {x y u uy r ups} (hr : HRel F L w h)
    (hc : copyP C h t x y = some (r, ups)) (hx : VRel F h.G L w x u) (hy : VRel F h.G L w y uy) : Gives C F L w h (Builtin.copy_ argTypes ty #[u, uy]) r ups := by
  unfold copyP at hc
  split at hc <;> try (cases hc; done)
  rename_i e hte
  have hty : TyOk C.P t (.slice e) := hte ▸ ht.ty t
  split at hc <;> try (cases hc; done)
  rename_i b hb
  split at hc <;> try (cases hc; done)
  rename_i ns hns
  obtain ⟨us, hu⟩ := elemsP_sound hr hns hy
  have hfc : ∀ len, (Builtin.firstCells (C.size e) (Nat.min ns.length len) uy).run C.P w = .ok (us.take (Nat.min ns.length len * C.size e)).toArray w := fun len => hu.first w rfl _ (Nat.min_le_left _ _)
  split at hc
  · cases hc
    obtain ⟨rfl, _⟩ := hx.v_iff
    have hrun := run_copy_any (ty := ty) (w' := w) ht hty hb ha0 (base := none) (dLen := 0) (dCap := 0) (hu.len w) (hfc 0) rfl
    refine .same hr hrun (.c ?_)
    rw [show Nat.min ns.length 0 = 0 from Nat.min_zero _]
    exact .v rfl
  · rename_i i g lo len s
    split at hc <;> try (cases hc; done)
    rename_i hgs
    obtain ⟨hg1, rfl⟩ := hgs
    split at hc <;> try (cases hc; done)
    rename_i s2 es hH
    split at hc <;> try (cases hc; done)
    rename_i hcond
    obtain ⟨rfl, hle⟩ := hcond
    cases hc
    subst hg1
    cases hx with
    | c hx => cases hx
    | row hg hrow =>
      rename_i cap a
      rcases hrow rfl with ⟨h0, hcap0⟩ | ⟨B, T, n, hL, rfl, hlc, hsh, hcapfit⟩
      · subst h0
        have hz : Nat.min ns.length 0 = 0 := Nat.min_zero _
        have hrun := run_copy_any (ty := ty) (w' := w) ht hty hb ha0 (base := a) (dLen := 0) (dCap := cap) (hu.len w) (hfc 0) (by rw [hz]; cases a <;> simp [storeCells])
        have hsame : h.app [(i, h.G i, .row (C.size e) (es.take lo ++ (ns.take 0 ++ es.drop (lo + min ns.length 0))))] = h := app_same rfl (by rw [hH]; simp)
        refine ⟨_, _, L, hrun, by rw [hsame]; exact hr, by rw [hsame]; exact .refl _ _ _ _, ?_⟩
        exact .c (.v rfl)
      · have hbr := hr.ok i
        rw [hL, hH] at hbr
        cases hbr with
        | row hF hfree hea =>
          obtain ⟨arr, T2, fr, hg1, hg2, hg3⟩ := hfree
          have hn : Nat.min ns.length len ≤ len := Nat.min_le_right _ _
          have hul := min_cells hu len
          obtain ⟨w', hs1, hs2⟩ := store_cells C.P B (lo * C.size e) T2 fr (us.take (Nat.min ns.length len * C.size e)) 0 arr w hg1 hg3 (by
            rw [hul, Nat.add_zero, ← Nat.add_mul]
            exact Nat.le_trans (Nat.mul_le_mul_right _ (by omega)) hg2) (fun v hv => hu.rel.oneCell hu.ok.isCell v (List.mem_of_mem_take hv))
          rw [Nat.add_zero] at hs2
          have hrun := run_copy_any (ty := ty) (w' := w') ht hty hb ha0 (base := some ⟨B, lo * C.size e, none⟩) (dLen := len) (dCap := cap) (hu.len w) (hfc len) (by simpa using hs1)
          have hmin : min ns.length len = Nat.min ns.length len := rfl
          have hokT : ElemsOk (C.size e) (ns.take len) := hu.ok.take len
          have hokR : ElemsOk (C.size e) (es.take lo ++ (ns.take len ++ es.drop (lo + min ns.length len))) := (hea.ok.take lo).append (hokT.append (hea.ok.drop _))
          have hlenR : (es.take lo ++ (ns.take len ++ es.drop (lo + min ns.length len))).length = es.length := by simp; omega
          have hrelT : VRels F h.G L w ((ns.take len).flatMap PV.cells) (us.take (Nat.min ns.length len * C.size e)) := by
            rw [← take_min ns len, hu.ok.flat_take]; exact hu.rel.take _
          obtain ⟨k1, k2⟩ := step_set hr (by rw [hH]; rfl) hL hs2.other hs2.size (hs2.shape hg1) hs2.os hs2.tape hs2.output (.row (C.size e) (es.take lo ++ (ns.take len ++ es.drop (lo + min ns.length len)))) (fun hl hnF => by
            refine .row hnF (hs2.free hg3 (by rw [hlenR]; exact hg2)) (.of_flat hokR ?_)
            rw [List.flatMap_append, List.flatMap_append, hea.ok.flat_take, hea.ok.flat_drop]
            have hl1 : ((es.flatMap PV.cells).take (lo * C.size e)).length = lo * C.size e := by rw [← hea.ok.flat_take, (hea.ok.take lo).flat_length, List.length_take, Nat.min_eq_left (show lo ≤ es.length by omega)]
            have hl2 : ((ns.take len).flatMap PV.cells).length = min ns.length len * C.size e := by rw [hokT.flat_length, List.length_take, Nat.min_comm]
            refine .append ?_ (.append ?_ ?_)
            · refine cellsAt_of (fun j c hj => ?_)
              obtain ⟨hc1, v, hc2, hc3⟩ := (hea.flat.take _).get hj
              have hjl : j < lo * C.size e := by have := (List.getElem?_eq_some_iff.1 hj).1; omega
              exact ⟨hc1, v, (hs2.cell_out hg1 (by omega)).trans hc2, hc3.later hl⟩
            · rw [hl1, Nat.zero_add]
              refine cellsAt_of (fun j c hj => ?_)
              obtain ⟨v, hv1, hv2⟩ := hrelT.get hj
              exact ⟨hokT.isCell c (List.mem_of_getElem? hj), v, hs2.cell_in hv1, hv2.later hl⟩
            · rw [hl1, hl2, Nat.zero_add, ← Nat.add_mul]
              refine cellsAt_of (fun j c hj => ?_)
              obtain ⟨hc1, v, hc2, hc3⟩ := (hea.flat.drop _).get hj
              rw [Nat.zero_add] at hc2
              refine ⟨hc1, v, (hs2.cell_out hg1 ?_).trans hc2, hc3.later hl⟩
              rw [hul, ← hmin, ← Nat.add_mul]; omega)
          exact ⟨_, _, L, hrun, k1, k2, .c (.v rfl)⟩
  · rename_i i g off len s
    split at hc <;> try (cases hc; done)
    rename_i hgs
    obtain ⟨hg1, rfl⟩ := hgs
    split at hc <;> try (cases hc; done)
    rename_i cs hH
    split at hc <;> try (cases hc; done)
    rename_i hcond
    cases hc
    subst hg1
    cases hx with
    | c hx => cases hx
    | asl hg hrow =>
      rename_i cap a
      have hokT : ElemsOk (C.size e) (ns.take len) := hu.ok.take len
      have hlT : ((ns.take len).flatMap PV.cells).length = min ns.length len * C.size e := by rw [hokT.flat_length, List.length_take, Nat.min_comm]
      rcases hrow rfl with ⟨h0, hcap0⟩ | ⟨B, hL, rfl, hlc⟩
      · subst h0
        have hz : Nat.min ns.length 0 = 0 := Nat.min_zero _
        have hrun := run_copy_any (ty := ty) (w' := w) ht hty hb ha0 (base := a) (dLen := 0) (dCap := cap) (hu.len w) (hfc 0) (by rw [hz]; cases a <;> simp [storeCells])
        have hsp : splice cs off ((ns.take 0).flatMap PV.cells) = cs := by
          unfold splice
          split
          · next hh => obtain ⟨_, h2⟩ := hh; simp at h2; simp [List.eq_nil_of_length_eq_zero h2.symm]
          · simp
        have hsame : h.app [(i, h.G i, .var (splice cs off ((ns.take 0).flatMap PV.cells)))] = h := app_same rfl (by rw [hH, hsp])
        exact ⟨_, _, L, hrun, by rw [hsame]; exact hr, by rw [hsame]; exact .refl _ _ _ _, .c (.v rfl)⟩
      · have hbr := hr.ok i
        rw [hL, hH] at hbr
        cases hbr with
        | var hF hfree hca =>
          obtain ⟨arr, T2, fr, hg1, hg2, hg3⟩ := hfree
          have hul := min_cells hu len
          have hmin : min ns.length len = Nat.min ns.length len := rfl
          obtain ⟨w', hs1, hs2⟩ := store_cells C.P B off T2 fr (us.take (Nat.min ns.length len * C.size e)) 0 arr w hg1 hg3 (by rw [hul, ← hmin]; omega) (fun v hv => hu.rel.oneCell hu.ok.isCell v (List.mem_of_mem_take hv))
          rw [Nat.add_zero] at hs2
          have hrun := run_copy_any (ty := ty) (w' := w') ht hty hb ha0 (base := some ⟨B, off, none⟩) (dLen := len) (dCap := cap) (hu.len w) (hfc len) (by simpa using hs1)
          have hrelT : VRels F h.G L w ((ns.take len).flatMap PV.cells) (us.take (Nat.min ns.length len * C.size e)) := by
            rw [← take_min ns len, hu.ok.flat_take]; exact hu.rel.take _
          have hfit : off + ((ns.take len).flatMap PV.cells).length ≤ cs.length := by rw [hlT]; exact hcond
          obtain ⟨k1, k2⟩ := step_set hr (by rw [hH]; rfl) hL hs2.other hs2.size (hs2.shape hg1) hs2.os hs2.tape hs2.output (.var (splice cs off ((ns.take len).flatMap PV.cells))) (fun hl hnF => by
            refine .var hnF (hs2.free hg3 (by rw [splice_length _ _ _ hfit]; exact hg2)) (cellsAt_of (fun j c hj => ?_))
            rw [splice_get _ _ _ _ hfit] at hj
            rw [Nat.zero_add]
            split at hj
            · rename_i hin
              obtain ⟨v, hv1, hv2⟩ := hrelT.get hj
              refine ⟨hokT.isCell c (List.mem_of_getElem? hj), v, ?_, hv2.later hl⟩
              have := hs2.cell_in hv1
              rwa [show off + (j - off) = j by omega] at this
            · rename_i hout
              obtain ⟨hc1, v, hc2, hc3⟩ := hca.get hj
              rw [Nat.zero_add] at hc2
              refine ⟨hc1, v, (hs2.cell_out hg1 ?_).trans hc2, hc3.later hl⟩
              rw [hul, ← hmin, ← hlT]; exact hout)
          exact ⟨_, _, L, hrun, k1, k2, .c (.v rfl)⟩
  · cases hc
end Go.Ev
end

section
/- The evaluator's operations are the model's: new variables, literals, makes. -/
set_option linter.unusedVariables false
set_option linter.unusedSimpArgs false
namespace Go.Ev
open Go

theorem tyAt {C : Ctx} (ht : TablesOk C) {t : TypeId} {T : Ty} (h : C.ty t = T) : TyOk C.P t T := h ▸ ht.ty t

theorem vrels_v {F G L w} : ∀ {zs : List Value}, (∀ u ∈ zs, u.oneCell' = true) → VRels F G L w (zs.map PV.v) zs
  | [], _ => .nil
  | z :: zs, h => .cons (.c (.v (h z (by simp)))) (vrels_v (fun u hu => h u (by simp [hu])))

theorem isCell_v {zs : List Value} (h : ∀ u ∈ zs, u.oneCell' = true) : ∀ c ∈ zs.map PV.v, PV.isCell c = true := fun c hc => by
  obtain ⟨z, hz, rfl⟩ := List.mem_map.1 hc
  exact h z hz

theorem alloc_sound {C : Ctx} (ht : TablesOk C) {F L w h id t zs} (hr : HRel F L w h) (hz : C.zero t = some zs) :
    Gives C F L w h (Instr.alloc t true (.tuple #[])) (.ptr id (h.G id + 1) 0) [(id, h.G id + 1, newBlk C t zs)] := by
  obtain ⟨b, z, i, h1, h2, h3, h4, h5, h6⟩ := ht.zero t zs hz
  have hc : z.cells = zs.toArray := by
    cases b
    · simp at h6; subst h6
      have := h3 z (by simp)
      cases z <;> first | rfl | (simp [Value.oneCell'] at this; done)
    · simp at h6; subst h6; rfl
  have hrun : (Instr.alloc t true (.tuple #[])).run C.P w = .ok (.pointer (some ⟨w.heap.size, 0, none⟩)) (w.alloc (.cells zs.toArray t)) := by
    simp [Instr.alloc, zeroValue, typeInfo, h4, h5, newVar, newRow, hc]
  have var : Gives C F L w h (Instr.alloc t true (.tuple #[])) (.ptr id (h.G id + 1) 0) [(id, h.G id + 1, .var (zs.map .v))] := by
    obtain ⟨L', k1, k2, k3⟩ := new_var (C := C) hr id t (vrels_v h3) (isCell_v h3)
    exact ⟨_, _, L', hrun, k1, k2, k3⟩
  unfold newBlk
  split
  · split
    · obtain ⟨k1, k2⟩ := step_new hr (w' := w.alloc (.cells #[.pointer none, .slice none 0 0] t)) (o := .cells #[.pointer none, .slice none 0 0] t) rfl rfl rfl rfl id (.bld t none) (fun hl hnF => .bld hnF (heap_alloc_new w _) (.inl rfl) rfl)
      refine ⟨_, _, _, hrun, k1, k2, .ptr ?_ (fun _ => ⟨w.heap.size, upd_same _ _ _, rfl⟩)⟩
      show _ ≤ upd h.G _ _ _
      rw [upd_same]; exact Nat.le_refl _
    · exact var
  · exact var

theorem box_sound {C : Ctx} {F L w h id t cs x u} (hr : HRel F L w h) (hc : cellsOf x = some cs) (hx : VRel F h.G L w x u) :
    Gives C F L w h (Instr.box t u) (.ptr id (h.G id + 1) 0) [(id, h.G id + 1, .var cs)] := by
  obtain ⟨h1, h2, h3⟩ := cellsOf_sound hc hx
  obtain ⟨L', k1, k2, k3⟩ := new_var (C := C) hr id t h1 h2
  refine ⟨_, _, L', ?_, k1, k2, k3⟩
  simp [Instr.box, newVar, newRow]

theorem rep_get {α : Type} {zs : List α} : ∀ (l j : Nat), j < l * zs.length → (List.replicate l zs).flatten[j]? = zs[j % zs.length]?
  | 0, j, h => by simp at h
  | l + 1, j, h => by
    rw [List.replicate_succ, List.flatten_cons]
    by_cases hj : j < zs.length
    · rw [List.getElem?_append_left hj, Nat.mod_eq_of_lt hj]
    · rw [List.getElem?_append_right (by omega), rep_get l (j - zs.length) (by rw [Nat.succ_mul] at h; omega), ← Nat.mod_eq_sub_mod (by omega)]

theorem zeroElem_sound {C : Ctx} (ht : TablesOk C) {e : TypeId} {b : Bool} {z : PV} (hb : C.isAgg e = some b) (h : zeroElem C e = some z) :
    ∃ zs zv i, C.zero e = some zs ∧ zs.length = C.size e ∧ (∀ u ∈ zs, u.oneCell' = true) ∧ C.P.info? e = some i ∧ i.zero = some zv ∧ zv.cells = zs.toArray ∧ z.isElem = true ∧ z.cells = zs.map .v ∧ ∀ F G L w, VRel F G L w z zv := by
  unfold zeroElem at h
  split at h <;> try (cases h; done)
  rename_i b' zs hb' hz
  rw [hb] at hb'; cases hb'
  split at h <;> try (cases h; done)
  obtain ⟨b', zv, i, h1, h2, h3, h4, h5, h6⟩ := ht.zero e zs hz
  rw [hb] at h1; cases h1
  obtain ⟨k1, k2⟩ := mkVal_elem (s := 0) h (isCell_v h3)
  refine ⟨zs, zv, i, hz, h2, h3, h4, h5, ?_, k1, k2, fun F G L w => ?_⟩
  · cases b
    · simp at h6; subst h6
      have := h3 zv (by simp)
      cases zv <;> first | rfl | (simp [Value.oneCell'] at this; done)
    · simp at h6; subst h6; rfl
  · obtain ⟨m1, m2⟩ := mkVal_rel (F := F) (G := G) (L := L) (w := w) h (isCell_v h3) (vrels_v h3)
    cases b
    · simp at h6; subst h6; simpa using m1
    · simp at h6; subst h6; simpa using m1

theorem rep_ok {z : PV} {s n : Nat} {zs : List Value} (h1 : z.isElem = true) (h2 : z.cells = zs.map .v) (h3 : zs.length = s) (h4 : ∀ u ∈ zs, u.oneCell' = true) : ElemsOk s (List.replicate n z) := fun e he => by
  obtain ⟨_, rfl⟩ := List.mem_replicate.1 he
  exact ⟨h1, by rw [h2]; simpa using h3, by rw [h2]; exact isCell_v h4⟩

theorem rep_rel {F G L w} {z : PV} {zs : List Value} (h2 : z.cells = zs.map .v) (h4 : ∀ u ∈ zs, u.oneCell' = true) : ∀ n, VRels F G L w ((List.replicate n z).flatMap PV.cells) (List.replicate n zs).flatten
  | 0 => .nil
  | n + 1 => by
    rw [List.replicate_succ, List.replicate_succ, List.flatMap_cons, List.flatten_cons, h2]
    exact (vrels_v h4).append (rep_rel h2 h4 n)

theorem range_map_get {α : Type} [Inhabited α] (zs : Array α) (n j : Nat) (hz : 0 < zs.size) (hj : j < n) : ((Array.range n).map (zs[· % zs.size]!))[j]? = zs.toList[j % zs.size]? := by
  have hm := Nat.mod_lt j hz
  simp [hj, hm]

theorem makeSliceP_sound {C : Ctx} (ht : TablesOk C) {F L w h id t l c ul uc r ups} (hr : HRel F L w h) (hc : makeSliceP C id (h.G id) t l c = some (r, ups)) (hl : VRel F h.G L w l ul) (hcc : VRel F h.G L w c uc) :
    Gives C F L w h (Instr.makeSlice t ul uc) r ups := by
  unfold makeSliceP at hc
  split at hc <;> try (cases hc; done)
  rename_i e nl nc hte hnl hnc
  have hty : C.P.underlying t = some (.slice e) := tyAt ht hte
  split at hc <;> try (cases hc; done)
  rename_i b z hb hz
  split at hc <;> try (cases hc; done)
  rename_i hcond
  obtain ⟨h0, hlc, hby, hmax, hsz⟩ := hcond
  cases hc
  obtain ⟨zs, zv, i, hz1, hz2, hz3, hz4, hz5, hz6, hz7, hz8, hz9⟩ := zeroElem_sound ht hb hz
  obtain ⟨i', hi', hs, hbs, _⟩ := ht.info e b hb
  rw [hz4] at hi'; cases hi'
  have hul : ∃ k, ul = .int k nl := by
    unfold intP at hnl; split at hnl <;> try (cases hnl; done)
    cases hnl; obtain ⟨rfl, _⟩ := hl.v_iff; exact ⟨_, rfl⟩
  have huc : ∃ k, uc = .int k nc := by
    unfold intP at hnc; split at hnc <;> try (cases hnc; done)
    cases hnc; obtain ⟨rfl, _⟩ := hcc.v_iff; exact ⟨_, rfl⟩
  obtain ⟨k1, rfl⟩ := hul
  obtain ⟨k2, rfl⟩ := huc
  have w1 : IntKind.i64.wrap nl = nl := by simp [IntKind.wrap, IntKind.bits, IntKind.signed]; omega
  have w2 : IntKind.i64.wrap nc = nc := by simp [IntKind.wrap, IntKind.bits, IntKind.signed]; omega
  have hsz0 : 0 < zv.cells.size := by rw [hz6]; simp; omega
  obtain ⟨cn, rfl⟩ := Int.eq_ofNat_of_zero_le (show 0 ≤ nc by omega)
  obtain ⟨ln, rfl⟩ := Int.eq_ofNat_of_zero_le h0
  have hlc' : ln ≤ cn := by omega
  have hlarge : ¬ ((281474976710656 : Int) < (i.bytes : Int) * (cn : Int)) := by rw [hbs]; omega
  have hrun : (Instr.makeSlice t (.int k1 (ln : Int)) (.int k2 (cn : Int))).run C.P w = .ok (.slice (some ⟨w.heap.size, 0, none⟩) ln cn) (w.alloc (.cells ((Array.range (cn * C.size e)).map (zv.cells[· % zv.cells.size]!)) e)) := by
    by_cases hcn : cn = 0
    · subst hcn
      have : ln = 0 := by omega
      subst this
      have w0 : IntKind.i64.wrap 0 = 0 := by decide
      simp [Instr.makeSlice, run_underlying hty, asInt, asIntOf, typeInfo, hz4, w0, sizeOf, hs, newRow, show Array.range 0 = #[] from rfl]
    · have hn0 : ¬ (cn = 0 ∨ C.size e = 0) := by omega
      simp [Instr.makeSlice, run_underlying hty, asInt, asIntOf, typeInfo, hz4, w1, w2, hlarge, sizeOf, hs, newRow, zeroValue, hz5, hn0]
      rw [if_neg (by omega)]
      simp
      exact fun hh => absurd hh (by have := Nat.mul_pos (show 0 < cn by omega) hsz; omega)
  have hok := rep_ok (n := ln) hz7 hz8 hz2 hz3
  obtain ⟨L', q1, q2, q3⟩ := new_row hr id e (s := C.size e) (es := List.replicate ln z) (us := (List.replicate ln zs).flatten) (len := ln) (cap := cn) (fr := (0, 0))
    (arr := (Array.range (cn * C.size e)).map (zv.cells[· % zv.cells.size]!)) (w' := w.alloc (.cells ((Array.range (cn * C.size e)).map (zv.cells[· % zv.cells.size]!)) e)) rfl rfl rfl rfl (fun _ _ hh => by simp at hh) hok (rep_rel hz8 hz3 ln) (fun j v hj => by
      have hjl : j < ln * zs.length := by have := (List.getElem?_eq_some_iff.1 hj).1; simpa using this
      rw [rep_get ln j hjl] at hj
      rw [range_map_get _ _ _ hsz0 (by
        rw [hz2] at hjl
        exact Nat.lt_of_lt_of_le hjl (Nat.mul_le_mul_right _ hlc')), hz6]
      simpa using hj) hlc' (by simp)
  refine ⟨_, _, L', hrun, ?_, ?_, ?_⟩
  · simpa using q1
  · simpa using q2
  · simpa using q3

theorem fill_step {F G L w} {cs xs : List PV} {arr : Array Value} {u : Value} {off : Nat} (hcs : VRels F G L w cs arr.toList) (hxs : VRels F G L w xs u.cells.toList) (hfit : off + xs.length ≤ cs.length) :
    VRels F G L w (splice cs off xs) (u.cells.zipIdx.foldl (fun cs (c, j) => cs.setIfInBounds (off + j) c) arr).toList ∧ (u.cells.zipIdx.foldl (fun cs (c, j) => cs.setIfInBounds (off + j) c) arr).size = arr.size := by
  obtain ⟨g1, g2⟩ := Great.foldl_set off u.cells.toList 0 arr
  have e : u.cells.zipIdx.foldl (fun cs (x : Value × Nat) => cs.setIfInBounds (off + x.2) x.1) arr = (u.cells.toList.zipIdx 0).foldl (fun cs (x : Value × Nat) => cs.setIfInBounds (off + x.2) x.1) arr := by
    rw [← Array.foldl_toList, Array.toList_zipIdx]
  have hl1 : cs.length = arr.size := by simpa using hcs.length
  have hl2 : xs.length = u.cells.size := by simpa using hxs.length
  refine ⟨?_, by rw [e]; exact g1⟩
  rw [e]
  refine vrels_of (by rw [splice_length _ _ _ hfit]; simp [g1, hl1]) (fun j p hj => ?_)
  rw [splice_get _ _ _ _ hfit] at hj
  rw [Array.getElem?_toList, g2 j]
  split at hj
  · rename_i hin
    rw [if_pos (by simp; omega)]
    simpa using hxs.get hj
  · rename_i hout
    rw [if_neg (by simp; omega)]
    simpa using hcs.get hj

theorem splice_isCell {cs xs : List PV} {off : Nat} (hfit : off + xs.length ≤ cs.length) (h1 : ∀ c ∈ cs, PV.isCell c = true) (h2 : ∀ c ∈ xs, PV.isCell c = true) : ∀ c ∈ splice cs off xs, PV.isCell c = true := fun c hc => by
  obtain ⟨j, hj⟩ := List.mem_iff_getElem?.1 hc
  rw [splice_get _ _ _ _ hfit] at hj
  split at hj
  · exact h2 c (List.mem_of_getElem? hj)
  · exact h1 c (List.mem_of_getElem? hj)

/-- Parts, as the model has them. -/
inductive PartsRel (F : Nat → Prop) (G : Nat → Nat) (L : Nat → Option Nat) (w : World) : List (Nat × PV) → List (Nat × Value) → Prop
  | nil : PartsRel F G L w [] []
  | cons {i x u ps us} : VRel F G L w x u → PartsRel F G L w ps us → PartsRel F G L w ((i, x) :: ps) ((i, u) :: us)

theorem fillP_sound {F G L w} {place : Nat → Option (Nat × Nat)} : ∀ {parts us} {cs cs' : List PV} {arr : Array Value}, PartsRel F G L w parts us → VRels F G L w cs arr.toList → (∀ c ∈ cs, PV.isCell c = true) → fillP place cs parts = some cs' →
    ∃ arr', Instr.fill place arr us = some arr' ∧ VRels F G L w cs' arr'.toList ∧ (∀ c ∈ cs', PV.isCell c = true)
  | _, _, cs, cs', arr, .nil, h1, h2, h => by simp [fillP] at h; subst h; exact ⟨arr, rfl, h1, h2⟩
  | _, _, cs, cs', arr, .cons (i := i) (x := x) (u := u) hx hp, h1, h2, h => by
    simp only [fillP] at h
    split at h <;> try (cases h; done)
    rename_i off size xs hpl hxs
    split at h <;> try (cases h; done)
    rename_i hcond
    obtain ⟨hl, hfit⟩ := hcond
    obtain ⟨k1, k2, k3⟩ := cellsOf_sound hxs hx
    have hul : u.cells.size = size := by rw [← hl]; simpa using k1.length.symm
    have hal : cs.length = arr.size := by simpa using h1.length
    obtain ⟨m1, m2⟩ := fill_step (off := off) h1 k1 (by omega)
    obtain ⟨arr', q1, q2, q3⟩ := fillP_sound hp m1 (splice_isCell (by omega) h2 k2) h
    refine ⟨arr', ?_, q2, q3⟩
    unfold Instr.fill
    simp only [hpl, hul]
    rw [if_neg (by simp; omega)]
    exact q1

theorem mapM_places {P : Program} : ∀ (fs : List Field) (pl : List (Nat × Nat)), fs.length = pl.length → (∀ (j : Nat) f, fs[j]? = some f → ∃ i, P.info? f.type = some i ∧ pl[j]? = some (f.offset, i.size)) →
    fs.mapM (fun f => (P.info? f.type).map fun i => (f.offset, i.size)) = some pl
  | [], [], _, _ => rfl
  | f :: fs, p :: pl, hl, h => by
    obtain ⟨i, hi, hp⟩ := h 0 f (by simp)
    simp at hp
    have := mapM_places fs pl (by simpa using hl) (fun j g hg => by have := h (j + 1) g (by simpa using hg); simpa using this)
    simp [List.mapM_cons, hi, this, hp]
  | [], _ :: _, hl, _ => by simp at hl
  | _ :: _, [], hl, _ => by simp at hl

theorem buildP_sound {C : Ctx} (ht : TablesOk C) {F L w h t parts us r} (hr : HRel F L w h) (hp : PartsRel F h.G L w parts us.toList) (hc : buildP C t parts = some r) :
    Gives C F L w h (Instr.build t us) r [] := by
  unfold buildP at hc
  split at hc <;> try (cases hc; done)
  rename_i zs hz
  obtain ⟨b, z, i, h1, h2, h3, h4, h5, h6⟩ := ht.zero t zs hz
  have key : ∀ place cs', C.isAgg t = some true → fillP place (zs.map .v) parts = some cs' → ∃ arr', Instr.fill place z.cells us.toList = some arr' ∧ VRels F h.G L w cs' arr'.toList ∧ (∀ c ∈ cs', PV.isCell c = true) := by
    intro place cs' hag hf
    rw [h1] at hag; cases hag
    simp at h6
    subst h6
    exact fillP_sound hp (by simpa [Value.cells] using vrels_v h3) (isCell_v h3) hf
  split at hc
  · rename_i fs hty
    split at hc <;> try (cases hc; done)
    rename_i cs' hf
    cases hc
    have hag : C.isAgg t = some true := by simp [Ctx.isAgg, hty]
    obtain ⟨arr', q1, q2, q3⟩ := key _ _ hag hf
    have ho := tyAt ht hty
    obtain ⟨fields, hu, hfl, hff⟩ := ho
    have hm := mapM_places (P := C.P) fields.toList fs (by simp [hfl]) (fun j f hj => hff j f (by simpa using hj))
    have hb : C.P.built t us.toList = some arr' := by
      unfold Program.built
      simp only [h4, hu, h5, hm]
      simpa using q1
    refine .same hr (run_build w t us arr' hb) ?_
    rw [show arr' = arr'.toList.toArray by simp]
    exact .agg q3 q2
  · rename_i n e hty
    split at hc <;> try (cases hc; done)
    rename_i b' hb'
    split at hc <;> try (cases hc; done)
    rename_i cs' hf
    cases hc
    have hag : C.isAgg t = some true := by simp [Ctx.isAgg, hty]
    obtain ⟨arr', q1, q2, q3⟩ := key _ _ hag hf
    have hu : C.P.underlying t = some (.array n e) := tyAt ht hty
    obtain ⟨ie, hie, hs, _⟩ := ht.info e b' hb'
    have hb : C.P.built t us.toList = some arr' := by
      unfold Program.built
      simp only [h4, hu, h5, hie, hs]
      exact q1
    refine .same hr (run_build w t us arr' hb) ?_
    rw [show arr' = arr'.toList.toArray by simp]
    exact .agg q3 q2
  · cases hc

theorem flat_set {s : Nat} : ∀ {es : List PV} {i : Nat} {y : PV}, ElemsOk s es → i < es.length → y.cells.length = s → (es.set i y).flatMap PV.cells = splice (es.flatMap PV.cells) (i * s) y.cells
  | es, i, y, ho, hi, hy => by
    have hfit : i * s + y.cells.length ≤ (es.flatMap PV.cells).length := by
      rw [ho.flat_length, hy, ← Nat.succ_mul]; exact Nat.mul_le_mul_right _ hi
    have e1 : es.set i y = es.take i ++ y :: es.drop (i + 1) := List.set_eq_take_append_cons_drop ▸ by simp [hi]
    rw [e1, List.flatMap_append, List.flatMap_cons, ho.flat_take, ho.flat_drop]
    unfold splice
    split
    · next hh =>
      obtain ⟨h0, h1⟩ := hh
      rw [h0]
      rw [List.drop_eq_nil_of_le (by rw [← h1, hy, Nat.succ_mul]; omega)]
      simp
    · rw [hy, Nat.succ_mul]

theorem setParts_sound {C : Ctx} {F G L w e b} : ∀ {parts us es es'} {arr : Array Value}, PartsRel F G L w parts us → ElemsOk (C.size e) es → VRels F G L w (es.flatMap PV.cells) arr.toList → setParts C e b es parts = some es' →
    ∃ arr', Instr.fill (fun i => some (i * C.size e, C.size e)) arr us = some arr' ∧ ElemsOk (C.size e) es' ∧ VRels F G L w (es'.flatMap PV.cells) arr'.toList ∧ es'.length = es.length
  | _, _, es, es', arr, .nil, h1, h2, h => by simp [setParts] at h; subst h; exact ⟨arr, rfl, h1, h2, rfl⟩
  | _, _, es, es', arr, .cons (i := i) (x := x) (u := u) hx hp, h1, h2, h => by
    simp only [setParts] at h
    split at h <;> try (cases h; done)
    rename_i xs hxs
    split at h <;> try (cases h; done)
    rename_i hcond
    obtain ⟨hl, hil⟩ := hcond
    split at h <;> try (cases h; done)
    rename_i y hy
    obtain ⟨k1, k2, k3⟩ := cellsOf_sound hxs hx
    obtain ⟨y1, y2⟩ := mkVal_elem (s := 0) hy k2
    have hul : u.cells.size = C.size e := by rw [← hl]; simpa using k1.length.symm
    have hfl := h1.flat_length
    have hfit : i * C.size e + C.size e ≤ es.length * C.size e := by rw [← Nat.succ_mul]; exact Nat.mul_le_mul_right _ hil
    have hal : es.length * C.size e = arr.size := by rw [← hfl]; simpa using h2.length
    obtain ⟨m1, m2⟩ := fill_step (off := i * C.size e) h2 k1 (by omega)
    have hset : (es.set i y).flatMap PV.cells = splice (es.flatMap PV.cells) (i * C.size e) xs := by rw [flat_set h1 hil (by rw [y2]; exact hl), y2]
    have hok : ElemsOk (C.size e) (es.set i y) := fun e0 he => by
      rcases List.mem_or_eq_of_mem_set he with he | rfl
      · exact h1 e0 he
      · exact ⟨y1, by rw [y2]; exact hl, by rw [y2]; exact k2⟩
    obtain ⟨arr', q1, q2, q3, q4⟩ := setParts_sound hp hok (by rw [hset]; exact m1) h
    refine ⟨arr', ?_, q2, q3, by simpa using q4⟩
    unfold Instr.fill
    simp only [hul]
    rw [if_neg (by simp; omega)]
    exact q1

theorem buildSliceP_sound {C : Ctx} (ht : TablesOk C) {F L w h id t len parts us r ups} (hr : HRel F L w h) (hp : PartsRel F h.G L w parts us.toList) (hc : buildSliceP C id (h.G id) t len parts = some (r, ups)) :
    Gives C F L w h (Instr.buildSlice t len us) r ups := by
  unfold buildSliceP at hc
  split at hc <;> try (cases hc; done)
  rename_i e hte
  have hty : C.P.underlying t = some (.slice e) := tyAt ht hte
  split at hc <;> try (cases hc; done)
  rename_i b z hb hz
  split at hc <;> try (cases hc; done)
  rename_i hcond
  obtain ⟨hsmall, hs0⟩ := hcond
  split at hc <;> try (cases hc; done)
  rename_i es hes
  cases hc
  obtain ⟨zs, zv, i, hz1, hz2, hz3, hz4, hz5, hz6, hz7, hz8, hz9⟩ := zeroElem_sound ht hb hz
  obtain ⟨i', hi', hs, hbs, _⟩ := ht.info e b hb
  rw [hz4] at hi'; cases hi'
  have hsz0 : 0 < zv.cells.size := by rw [hz6]; simp; omega
  have hok0 := rep_ok (n := len) hz7 hz8 hz2 hz3
  have hrel0 : VRels F h.G L w ((List.replicate len z).flatMap PV.cells) ((Array.range (len * C.size e)).map (zv.cells[· % zv.cells.size]!)).toList := by
    refine vrels_of (by rw [hok0.flat_length]; simp) (fun j p hj => ?_)
    have hjl : j < len * C.size e := by have := (List.getElem?_eq_some_iff.1 hj).1; rw [hok0.flat_length] at this; simpa using this
    obtain ⟨u, hu1, hu2⟩ := (rep_rel (F := F) (G := h.G) (L := L) (w := w) hz8 hz3 len).get hj
    refine ⟨u, ?_, hu2⟩
    rw [rep_get len j (by rw [hz2]; exact hjl)] at hu1
    rw [Array.getElem?_toList, range_map_get _ _ _ hsz0 hjl, hz6]
    simpa using hu1
  obtain ⟨arr', q1, q2, q3, q4⟩ := setParts_sound hp hok0 hrel0 hes
  have hlen : es.length = len := by simpa using q4
  have hrun : (Instr.buildSlice t len us).run C.P w = .ok (.slice (some ⟨w.heap.size, 0, none⟩) len len) (w.alloc (.cells arr' e)) := by
    have hsm : ¬ (16777216 < len * C.size e) := by omega
    by_cases h0 : len = 0
    · subst h0
      simp only [Nat.zero_mul, show Array.range 0 = #[] from rfl, Array.map_empty] at q1
      simp [Instr.buildSlice, run_underlying hty, sizeOf, typeInfo, hz4, hs, newRow, show Array.range 0 = #[] from rfl, q1]
    · have h0' : ¬ (len = 0 ∨ C.size e = 0) := by omega
      simp [Instr.buildSlice, run_underlying hty, sizeOf, typeInfo, hz4, hs, hsm, newRow, zeroValue, hz5, h0', q1]
      exact fun hh => absurd hh (by have := Nat.mul_pos (show 0 < len by omega) hs0; omega)
  have hal : arr'.size = len * C.size e := by
    have := q3.length
    rw [q2.flat_length, hlen] at this
    simpa using this.symm
  obtain ⟨L', k1, k2, k3⟩ := new_row hr id e (s := C.size e) (es := es) (us := arr'.toList) (len := len) (cap := len) (fr := (0, 0)) (arr := arr') (w' := w.alloc (.cells arr' e)) rfl rfl rfl rfl (fun _ _ hh => by simp at hh) q2 q3 (by simp) (Nat.le_refl _) (by rw [hal]; exact Nat.le_refl _)
  exact ⟨_, _, L', hrun, k1, k2, k3⟩
end Go.Ev
end

section
/- The evaluator's operations are the model's: addresses, indexes, slices, lengths, numbers. -/
set_option linter.unusedVariables false
set_option linter.unusedSimpArgs false
namespace Go.Ev
open Go

theorem intP_inv {F G L w x u n} (h : intP x = some n) (hx : VRel F G L w x u) : ∃ k, u = .int k n := by
  unfold intP at h
  split at h <;> try (cases h; done)
  cases h
  obtain ⟨rfl, _⟩ := hx.v_iff
  exact ⟨_, rfl⟩

theorem lptr_inv {F G L w cs u} (h : VRel F G L w (.lptr cs) u) : ∃ B o, u = .pointer (some ⟨B, o, none⟩) ∧ F B ∧ CCells F w B o cs := by
  cases h with
  | c h => cases h with | lptr h1 h2 => exact ⟨_, _, rfl, h1, h2⟩

theorem fieldP_sound {C : Ctx} (ht : TablesOk C) {F G L w s p f r u} (hc : fieldP C s p f = some r) (hp : VRel F G L w p u) :
    ∃ v, (Instr.fieldAt s u f).run C.P w = .ok v w ∧ VRel F G L w r v := by
  unfold fieldP at hc
  split at hc <;> try (cases hc; done)
  rename_i fs hty
  obtain ⟨fields, hu, hfl, hff⟩ := tyAt ht hty
  split at hc <;> try (cases hc; done)
  rename_i off size hfs
  split at hc <;> try (cases hc; done)
  rename_i hsz
  have hflt : f < fields.size := by rw [← hfl]; exact (List.getElem?_eq_some_iff.1 hfs).1
  obtain ⟨fd, hfd⟩ : ∃ fd, fields[f]? = some fd := ⟨_, Array.getElem?_eq_getElem hflt⟩
  obtain ⟨i, hi, hoi⟩ := hff f fd hfd
  rw [hfs] at hoi
  cases hoi
  have hrun : ∀ B o, (Instr.fieldAt s (.pointer (some ⟨B, o, none⟩)) f).run C.P w = .ok (.pointer (some ⟨B, o + fd.offset, none⟩)) w := by
    intro B o
    simp [Instr.fieldAt, run_underlying hu, hfd, Instr.sureAddr, fieldPlace, sizeOf, typeInfo, hi, hsz, addr_add]
  have hrun2 : ∀ a : Addr, ∃ a', (Instr.fieldAt s (.pointer (some a)) f).run C.P w = .ok (.pointer (some a')) w ∧ a' = a.add fd.offset := by
    intro a
    exact ⟨_, by simp [Instr.fieldAt, run_underlying hu, hfd, Instr.sureAddr, fieldPlace, sizeOf, typeInfo, hi, hsz], rfl⟩
  split at hc
  · cases hc
    cases hp with
    | c hp => cases hp
    | ptr h1 h2 =>
      obtain ⟨a', ha, hae⟩ := hrun2 _
      refine ⟨_, ha, .ptr h1 (fun he => ?_)⟩
      obtain ⟨B, hB, rfl⟩ := h2 he
      exact ⟨B, hB, by rw [hae, addr_add]⟩
  · cases hc
    cases hp with
    | c hp => cases hp
    | rptr h1 h2 =>
      obtain ⟨a', ha, hae⟩ := hrun2 _
      refine ⟨_, ha, .rptr h1 (fun he => ?_)⟩
      obtain ⟨B, hB, rfl⟩ := h2 he
      exact ⟨B, hB, by rw [hae, addr_add, Nat.add_assoc]⟩
  · split at hc <;> try (cases hc; done)
    cases hc
    obtain ⟨B, o, rfl, hF, hcc⟩ := lptr_inv hp
    exact ⟨_, hrun B o, .c (.lptr hF (hcc.drop _))⟩
  · cases hc

theorem indexAddrP_sound {C : Ctx} (ht : TablesOk C) {F L w h t x ix r u ui} (hc : indexAddrP C h t x ix = some r) (hx : VRel F h.G L w x u) (hix : VRel F h.G L w ix ui) :
    ∃ v, (Instr.indexAt t u ui).run C.P w = .ok v w ∧ VRel F h.G L w r v := by
  unfold indexAddrP at hc
  split at hc <;> try (cases hc; done)
  rename_i n hn
  obtain ⟨k, rfl⟩ := intP_inv hn hix
  split at hc <;> try (cases hc; done)
  · rename_i len e hty
    have hu : C.P.underlying t = some (.array len e) := tyAt ht hty
    split at hc <;> try (cases hc; done)
    rename_i b hb
    split at hc <;> try (cases hc; done)
    rename_i hin
    have hrun : ∀ a : Addr, (Instr.indexAt t (.pointer (some a)) (.int k n)).run C.P w = .ok (.pointer (some (a.add (n.toNat * C.size e)))) w := by
      intro a
      simp [Instr.indexAt, asIntOf, run_underlying hu, Instr.sureAddr, hin, run_sizeOf ht hb]
    split at hc
    · cases hc
      cases hx with
      | c hp => cases hp
      | ptr h1 h2 =>
        refine ⟨_, hrun _, .ptr h1 (fun he => ?_)⟩
        obtain ⟨B, hB, rfl⟩ := h2 he
        exact ⟨B, hB, by rw [addr_add]⟩
    · cases hc
      cases hx with
      | c hp => cases hp
      | rptr h1 h2 =>
        refine ⟨_, hrun _, .rptr h1 (fun he => ?_)⟩
        obtain ⟨B, hB, rfl⟩ := h2 he
        exact ⟨B, hB, by rw [addr_add, Nat.add_assoc]⟩
    · split at hc <;> try (cases hc; done)
      cases hc
      obtain ⟨B, o, rfl, hF, hcc⟩ := lptr_inv hx
      refine ⟨_, hrun _, ?_⟩
      rw [addr_add]
      exact .c (.lptr hF (hcc.drop _))
    · cases hc
  · rename_i e hty
    have hu : C.P.underlying t = some (.slice e) := tyAt ht hty
    split at hc <;> try (cases hc; done)
    rename_i b hb
    have hrun : ∀ (a : Addr) (len cap : Nat), 0 ≤ n → n < len → (Instr.indexAt t (.slice (some a) len cap) (.int k n)).run C.P w = .ok (.pointer (some (a.add (n.toNat * C.size e)))) w := by
      intro a len cap h0 h1
      simp [Instr.indexAt, asIntOf, run_underlying hu, h0, h1, run_sizeOf ht hb]
    split at hc
    · rename_i es
      split at hc <;> try (cases hc; done)
      rename_i h0
      split at hc <;> try (cases hc; done)
      rename_i y hy
      split at hc <;> try (cases hc; done)
      rename_i hyl
      cases hc
      have hlt : n.toNat < es.length := (List.getElem?_eq_some_iff.1 hy).1
      cases hx with
      | c hx =>
        cases hx with
        | lstNil => simp at hlt
        | lst hF hcap he =>
          obtain ⟨k1, k2, k3⟩ := he.get hy
          refine ⟨_, hrun _ _ _ h0 (by omega), ?_⟩
          rw [addr_add, ← hyl, k2]
          exact .c (.lptr hF k3)
    · rename_i i g lo len s
      split at hc <;> try (cases hc; done)
      rename_i hin
      obtain ⟨h0, h1, rfl, hg, _⟩ := hin
      cases hc
      cases hx with
      | c hp => cases hp
      | row hg1 hrow =>
        rcases hrow hg with ⟨hz, _⟩ | ⟨B, T, m, hL, rfl, hlc, hsh, hfit⟩
        · omega
        · exact ⟨_, hrun _ _ _ h0 h1, .rptr hg1 (fun he => ⟨B, hL, by rw [addr_add, Nat.add_mul, Nat.add_zero]⟩)⟩
    · rename_i i g off len s
      split at hc <;> try (cases hc; done)
      rename_i hin
      obtain ⟨h0, h1, rfl, hg, _⟩ := hin
      cases hc
      cases hx with
      | c hp => cases hp
      | asl hg1 hrow =>
        rcases hrow hg with ⟨hz, _⟩ | ⟨B, hL, rfl, hlc⟩
        · omega
        · exact ⟨_, hrun _ _ _ h0 h1, .ptr hg1 (fun he => ⟨B, hL, by rw [addr_add]⟩)⟩
    · cases hc

theorem indexP_sound {C : Ctx} (ht : TablesOk C) {F G L w t x ix r u ui} (hc : indexP C t x ix = some r) (hx : VRel F G L w x u) (hix : VRel F G L w ix ui) :
    ∃ v, (Instr.index t u ui).run C.P w = .ok v w ∧ VRel F G L w r v := by
  unfold indexP at hc
  split at hc <;> try (cases hc; done)
  rename_i n hn
  obtain ⟨k, rfl⟩ := intP_inv hn hix
  split at hc
  · rename_i len e cs hty
    have hu : C.P.underlying t = some (.array len e) := tyAt ht hty
    split at hc <;> try (cases hc; done)
    rename_i b hb
    split at hc <;> try (cases hc; done)
    rename_i hin
    obtain ⟨us, rfl, h1, h2⟩ := hx.agg_inv
    have hct : ∀ c ∈ (cs.drop (n.toNat * C.size e)).take (C.size e), PV.isCell c = true := fun c hm => h1 c (List.mem_of_mem_drop (List.mem_of_mem_take hm))
    obtain ⟨m1, m2⟩ := mkVal_rel hc hct ((h2.drop (n.toNat * C.size e)).take (C.size e))
    refine ⟨_, ?_, m1⟩
    obtain ⟨i, hi, hs, _, hone⟩ := ht.info e b hb
    have hul : us.length = cs.length := h2.length.symm
    simp only [Instr.index, asIntOf, Sem.run_bind, Sem.run_pure, Result.andThen_ok, run_underlying hu, hin.1, hin.2.1, and_self, if_true, run_sizeOf ht hb, part, run_isAgg ht hb]
    cases b
    · have hs1 := hone rfl
      have hlt : n.toNat * C.size e < us.length := by omega
      simp only [Bool.false_eq_true, if_false]
      rw [hs1] at hlt ⊢
      simp [List.getElem?_eq_getElem hlt, List.getElem?_take, List.getElem?_drop]
      rw [Nat.mul_one] at hlt
      simp [List.getElem?_eq_getElem hlt]
    · simp only [if_true, run_sizeOf ht hb, Result.andThen_ok, Sem.run_pure, Sem.run_bind]
      congr 2
      simp [List.extract_eq_take_drop]
  · rename_i s hty
    have hu : C.P.underlying t = some .string := tyAt ht hty
    obtain ⟨rfl, _⟩ := hx.v_iff
    split at hc <;> try (cases hc; done)
    rename_i h0
    split at hc <;> try (cases hc; done)
    rename_i b hb
    cases hc
    exact ⟨_, by simp [Instr.index, asIntOf, run_underlying hu, h0, hb], .c (.v rfl)⟩
  · cases hc

def OptRel (F : Nat → Prop) (G : Nat → Nat) (L : Nat → Option Nat) (w : World) (x : Option PV) (u : Option Value) : Prop :=
  match x, u with | some x, some u => VRel F G L w x u | none, none => True | _, _ => False

theorem boundP_sound {F G L w} {x : Option PV} {u : Option Value} {d n : Nat} (h : boundP x d = some n) (hx : OptRel F G L w x u) :
    (x = none ∧ u = none ∧ n = d) ∨ (∃ k m, u = some (.int k m) ∧ 0 ≤ m ∧ m.toNat = n) := by
  unfold boundP at h
  cases x with
  | none =>
    cases u with
    | none => simp at h; exact .inl ⟨rfl, rfl, h.symm⟩
    | some u => exact hx.elim
  | some x =>
    cases u with
    | none => exact hx.elim
    | some u =>
      change VRel F G L w x u at hx
      simp at h
      split at h <;> try (cases h; done)
      rename_i m hm
      split at h <;> try (cases h; done)
      rename_i h0
      cases h
      obtain ⟨k, rfl⟩ := intP_inv hm hx
      exact .inr ⟨k, m, rfl, h0, rfl⟩

theorem run_sliceBound {P : Program} {k : IntKind} {m : Int} {y : Nat} (code : BoundsCode) (h0 : 0 ≤ m) (h1 : m ≤ y) (w : World) : (Instr.sliceBound (.int k m) y code).run P w = .ok m.toNat w := by
  simp [Instr.sliceBound, asIntOf, h0, h1]

theorem run_bounds {P : Program} {F G L w} {lo hi : Option PV} {ulo uhi : Option Value} (isSlice : Bool) {len cap l h : Nat} (hlo : OptRel F G L w lo ulo) (hhi : OptRel F G L w hi uhi)
    (h1 : boundP lo 0 = some l) (h2 : boundP hi len = some h) (hlh : l ≤ h) (hc : h ≤ cap) (w' : World) : (Instr.sliceBounds isSlice len cap ulo uhi none).run P w' = .ok (l, h, cap) w' := by
  rcases boundP_sound h1 hlo with ⟨_, rfl, rfl⟩ | ⟨k, m, rfl, hm, rfl⟩ <;> rcases boundP_sound h2 hhi with ⟨_, rfl, rfl⟩ | ⟨k2, m2, rfl, hm2, rfl⟩
  · simp [Instr.sliceBounds]
  · simp [Instr.sliceBounds, run_sliceBound _ hm2 (show m2 ≤ (cap : Int) by omega)]
  · simp [Instr.sliceBounds, run_sliceBound _ hm (show m ≤ (h : Int) by omega)]
  · simp only [Instr.sliceBounds, Sem.run_bind, Sem.run_pure, Result.andThen_ok, run_sliceBound _ hm2 (show m2 ≤ (cap : Int) by omega), run_sliceBound _ hm (show m ≤ (m2.toNat : Int) by omega)]

theorem run_sliceAt_slice {C : Ctx} (ht : TablesOk C) {t e : TypeId} (hu : C.P.underlying t = some (.slice e)) {b : Bool} (hb : C.isAgg e = some b) {w : World} {a : Option Addr} {len cap l h m : Nat} {ulo uhi umx : Option Value}
    (hbd : (Instr.sliceBounds true len cap ulo uhi umx).run C.P w = .ok (l, h, m) w) :
    (Instr.sliceAt t (.slice a len cap) ulo uhi umx).run C.P w = .ok (.slice (if m = l then a else a.map (·.add (l * C.size e))) (h - l) (m - l)) w := by
  simp [Instr.sliceAt, Instr.slice, run_underlying hu, hbd, run_sizeOf ht hb]

theorem CElems.drop {F : Nat → Prop} {w : World} {B s : Nat} : ∀ {o es}, CElems F w B o s es → ∀ n, CElems F w B (o + n * s) s (es.drop n)
  | _, _, h, 0 => by simpa using h
  | _, _, .nil, n + 1 => .nil
  | o, _, .cons h1 h2 h3 h4, n + 1 => by have := h4.drop n; rwa [show o + s + n * s = o + (n + 1) * s by rw [Nat.succ_mul]; omega] at this
theorem CElems.take {F : Nat → Prop} {w : World} {B s : Nat} : ∀ {o es}, CElems F w B o s es → ∀ n, CElems F w B o s (es.take n)
  | _, _, _, 0 => .nil
  | _, _, .nil, n + 1 => .nil
  | o, _, .cons h1 h2 h3 h4, n + 1 => .cons h1 h2 h3 (h4.take n)

theorem sliceP_sound {C : Ctx} (ht : TablesOk C) {F L w h id t x lo hi mx r ups u ulo uhi umx} (hr : HRel F L w h) (hc : sliceP C h id (h.G id) t x lo hi mx = some (r, ups)) (hx : VRel F h.G L w x u)
    (hlo : OptRel F h.G L w lo ulo) (hhi : OptRel F h.G L w hi uhi) (hmx : OptRel F h.G L w mx umx) : Gives C F L w h (Instr.sliceAt t u ulo uhi umx) r ups := by
  unfold sliceP at hc
  split at hc
  · rename_i m
    split at hc <;> try (cases hc; done)
    rename_i e h1 h2 h3 hty
    have hu : C.P.underlying t = some (.slice e) := tyAt ht hty
    cases umx with
    | none => exact hmx.elim
    | some um =>
      obtain ⟨k, rfl⟩ := intP_inv h1 hmx
      have hz : ∀ (len cap : Nat), (Instr.sliceBounds true len cap ulo uhi (some (.int k 0))).run C.P w = .ok (0, 0, 0) w := by
        intro len cap
        rcases boundP_sound h3 hlo with ⟨_, rfl, _⟩ | ⟨k1, m1, rfl, hm1, hm1'⟩ <;> rcases boundP_sound h2 hhi with ⟨_, rfl, hh⟩ | ⟨k2, m2, rfl, hm2, hm2'⟩
        · omega
        · have : m2 = 0 := by omega
          subst this
          simp [Instr.sliceBounds, Instr.sliceBound, asIntOf]
        · omega
        · have : m2 = 0 := by omega
          have : m1 = 0 := by omega
          subst_vars
          simp [Instr.sliceBounds, Instr.sliceBound, asIntOf]
      have fin : ∀ (a : Option Addr) (len cap : Nat) b, C.isAgg e = some b → Gives C F L w h (Instr.sliceAt t (.slice a len cap) ulo uhi (some (.int k 0))) (.row id (h.G id + 1) 0 0 (C.size e)) [(id, h.G id + 1, .row (C.size e) [])] := by
        intro a len cap b hb
        have hrun := run_sliceAt_slice ht hu hb (a := a) (hz len cap)
        simp at hrun
        obtain ⟨k1, k2⟩ := step_phantom hr id (C.size e)
        refine ⟨_, w, _, hrun, k1, k2, .row ?_ (fun _ => .inl ⟨rfl, rfl⟩)⟩
        show h.G id + 1 ≤ upd h.G id (h.G id + 1) id
        rw [upd_same]; exact Nat.le_refl _
      split at hc
      · rename_i b hb
        cases hc
        cases hx with
        | c hx => cases hx with
          | lstNil => exact fin _ _ _ _ hb
          | lst => exact fin _ _ _ _ hb
      · rename_i b hb
        cases hc
        cases hx with
        | c hx => cases hx
        | row => exact fin _ _ _ _ hb
      · rename_i b hb
        cases hc
        obtain ⟨rfl, _⟩ := hx.v_iff
        exact fin _ _ _ _ hb
      · cases hc
  · cases umx with
    | some um => exact hmx.elim
    | none =>
    split at hc
    · rename_i s hty
      have hu : C.P.underlying t = some .string := tyAt ht hty
      obtain ⟨rfl, _⟩ := hx.v_iff
      split at hc <;> try (cases hc; done)
      rename_i l hh h1 h2
      split at hc <;> try (cases hc; done)
      rename_i hcond
      cases hc
      have hb := run_bounds (P := C.P) false hlo hhi h1 h2 hcond.1 hcond.2 w
      refine .same hr ?_ (.c (.v rfl))
      simp [Instr.sliceAt, Instr.slice, run_underlying hu, hb]
    · rename_i e es hty
      have hu : C.P.underlying t = some (.slice e) := tyAt ht hty
      split at hc <;> try (cases hc; done)
      rename_i b l hh hb h1 h2
      split at hc <;> try (cases hc; done)
      rename_i hcond
      obtain ⟨hlh, hhl, hhead⟩ := hcond
      cases hc
      cases hx with
      | c hx =>
        cases hx with
        | lstNil =>
          rename_i a cap
          simp at hhl; subst hhl
          have : l = 0 := by omega
          subst this
          have hbd := run_bounds (P := C.P) (len := 0) (cap := cap) true hlo hhi h1 h2 (Nat.le_refl _) (Nat.zero_le _) w
          refine .same hr (run_sliceAt_slice ht hu hb hbd) ?_
          simp
          exact .c .lstNil
        | lst hF hcap he =>
          rename_i B o s cap
          have hbd := run_bounds (P := C.P) (len := es.length) (cap := cap) true hlo hhi h1 h2 hlh (by omega) w
          refine .same hr (run_sliceAt_slice ht hu hb hbd) ?_
          by_cases h0 : hh - l = 0
          · have : (es.take hh).drop l = [] := List.drop_eq_nil_of_le (by simp; omega)
            rw [this, h0]
            exact .c .lstNil
          · cases es with
            | nil => simp at hhl; omega
            | cons e0 es1 =>
              have hs : s = C.size e := by
                obtain ⟨_, h1, _⟩ := he.get (i := 0) (e := e0) (by simp)
                rw [← h1]; exact hhead e0 (by simp)
              subst hs
              rw [if_neg (by omega), Option.map_some, addr_add]
              have hl : hh - l = (((e0 :: es1).take hh).drop l).length := by simp; simp at hhl; omega
              rw [hl]
              exact .c (.lst hF (by rw [← hl]; omega) ((he.take hh).drop l))
    · rename_i e i g lo0 len s hty
      have hu : C.P.underlying t = some (.slice e) := tyAt ht hty
      split at hc <;> try (cases hc; done)
      rename_i b l hh hb h1 h2
      split at hc <;> try (cases hc; done)
      rename_i hcond
      obtain ⟨hlh, hhl, rfl, hgi, _⟩ := hcond
      cases hc
      cases hx with
      | c hx => cases hx
      | row hg hrow =>
        rename_i cap a
        rcases hrow hgi with ⟨hz, hz2⟩ | ⟨B, T, m, hL, rfl, hlc, hsh, hfit⟩
        · subst hz; subst hz2
          have hh0 : hh = 0 := by omega
          have hl0 : l = 0 := by omega
          subst hh0; subst hl0
          have hbd := run_bounds (P := C.P) (len := 0) (cap := 0) true hlo hhi h1 h2 (Nat.le_refl _) (Nat.le_refl _) w
          exact .same hr (run_sliceAt_slice ht hu hb hbd) (.row hg (fun _ => .inl ⟨rfl, rfl⟩))
        · have hbd := run_bounds (P := C.P) (len := len) (cap := cap) true hlo hhi h1 h2 hlh (by omega) w
          refine .same hr (run_sliceAt_slice ht hu hb hbd) (.row hg (fun _ => ?_))
          by_cases hcl : cap = l
          · exact .inl ⟨by omega, by omega⟩
          · refine .inr ⟨B, T, m, hL, ?_, by omega, hsh, ?_⟩
            · rw [if_neg hcl, Option.map_some, addr_add, Nat.add_mul]
            · rw [show lo0 + l + (cap - l) = lo0 + cap by omega]; exact hfit
    · rename_i e i g off len s hty
      have hu : C.P.underlying t = some (.slice e) := tyAt ht hty
      split at hc <;> try (cases hc; done)
      rename_i b l hh hb h1 h2
      split at hc <;> try (cases hc; done)
      rename_i hcond
      obtain ⟨hlh, hhl, rfl, hgi, _⟩ := hcond
      cases hc
      cases hx with
      | c hx => cases hx
      | asl hg hrow =>
        rename_i cap a
        rcases hrow hgi with ⟨hz, hz2⟩ | ⟨B, hL, rfl, hlc⟩
        · subst hz; subst hz2
          have hh0 : hh = 0 := by omega
          have hl0 : l = 0 := by omega
          subst hh0; subst hl0
          have hbd := run_bounds (P := C.P) (len := 0) (cap := 0) true hlo hhi h1 h2 (Nat.le_refl _) (Nat.le_refl _) w
          exact .same hr (run_sliceAt_slice ht hu hb hbd) (.asl hg (fun _ => .inl ⟨rfl, rfl⟩))
        · have hbd := run_bounds (P := C.P) (len := len) (cap := cap) true hlo hhi h1 h2 hlh (by omega) w
          refine .same hr (run_sliceAt_slice ht hu hb hbd) (.asl hg (fun _ => ?_))
          by_cases hcl : cap = l
          · exact .inl ⟨by omega, by omega⟩
          · exact .inr ⟨B, hL, by rw [if_neg hcl, Option.map_some, addr_add], by omega⟩
    · rename_i e hty
      have hu : C.P.underlying t = some (.slice e) := tyAt ht hty
      split at hc <;> try (cases hc; done)
      rename_i b hb h1 h2
      cases hc
      obtain ⟨rfl, _⟩ := hx.v_iff
      have hbd := run_bounds (P := C.P) (len := 0) (cap := 0) true hlo hhi h1 h2 (Nat.le_refl _) (Nat.le_refl _) w
      have hrun : (Instr.sliceAt t (.slice none 0 0) ulo uhi none).run C.P w = .ok (.slice none 0 0) w := by
        simp [Instr.sliceAt, Instr.slice, run_underlying hu, hbd, run_sizeOf ht hb]
      exact .same hr hrun (.c (.v rfl))
    · rename_i n e i g off hty
      have hu : C.P.underlying t = some (.array n e) := tyAt ht hty
      split at hc <;> try (cases hc; done)
      rename_i b l hh hb h1 h2
      split at hc <;> try (cases hc; done)
      rename_i hcond
      obtain ⟨hlh, hhl⟩ := hcond
      cases hc
      cases hx with
      | c hx => cases hx
      | ptr hg hrow =>
        rename_i a
        have hbd := run_bounds (P := C.P) (len := n) (cap := n) false hlo hhi h1 h2 hlh hhl w
        have hrun : (Instr.sliceAt t (.pointer (some a)) ulo uhi none).run C.P w = .ok (.slice (some (if n = l then a else a.add (l * C.size e))) (hh - l) (n - l)) w := by
          simp [Instr.sliceAt, run_underlying hu, Instr.sureAddr, hbd, run_sizeOf ht hb]
        refine .same hr hrun (.asl hg (fun he => ?_))
        obtain ⟨B, hL, rfl⟩ := hrow he
        by_cases hcl : n = l
        · exact .inl ⟨by omega, by omega⟩
        · exact .inr ⟨B, hL, by rw [if_neg hcl, addr_add], by omega⟩
    · cases hc
end Go.Ev
end
