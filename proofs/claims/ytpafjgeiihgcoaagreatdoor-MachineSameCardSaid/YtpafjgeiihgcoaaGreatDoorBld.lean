/- A part of the proof: HbBu HbBs HbBt HbBv HbSz. No conditions. -/
import Derived.Test.YtpafjgeiihgcoaaGreatDoorShelf
import Derived.Test.YtpafjgeiihgcoaaGreatDoorEvE
import Derived.Lib.Builder
import Derived.Shelf.Strings.Builder1
import Derived.Lib.AppendStr
import Derived.Lib.UnsafeStr

section
/- strings.Builder's WriteString and String, as the evaluator does them: the walks. -/
set_option linter.unusedVariables false
set_option linter.unusedSimpArgs false
namespace Go.Proofs
open Go.Shelf Go.RowKit

/-- An append whose run is known. -/
theorem wpList_append_eqn {P : Program} {ops : Array Oper} {rest : List Oper} {o : Oper} {a : Act} {w w' : World} {Q : Exit → Act → World → Prop} (hgd : o.guard = none) (sl x : Operand) (t u : TypeId)
    (ho : o.op = .call { callee := .builtin .append, args := #[sl, x], argTypes := #[t, u] }) {v y v' : Value} (hs : a.eval sl = v) (hx : a.eval x = y)
    (hr : (Builtin.append_ #[t, u] o.type #[v, y]).run P w = .ok v' w') (h : wpList P ops Q rest (a.put o.dst v') w') : wpList P ops Q (o :: rest) a w := by
  refine wpList_plain hgd fun K hK => ?_
  unfold Oper.wp execOp
  simp only [ho, resolve, invoke, builtin, Sem.run_bind, Sem.run_pure, Result.andThen_ok, List.map_toArray, List.map_cons, List.map_nil, hs, hx, hr]
  exact hK _ _ h

/-- What copyCheck leaves: the builder's own address in its first cell. -/
theorem Tryz.copyCheck (b : Nat) (p v : Value) (w : World) (hbk : w.heap[b]? = some (.cells #[p, v] 273 (0, 0))) (hp : p = .pointer none ∨ p = .pointer (some ⟨b, 0, none⟩)) :
    Calls Tryz.prog 275 #[.pointer (some ⟨b, 0, none⟩)] w fun e w' => e = .returned (.tuple #[]) ∧ ((p = .pointer none ∧ w' = w.setCell ⟨b, 0, none⟩ (.pointer (some ⟨b, 0, none⟩))) ∨ (p = .pointer (some ⟨b, 0, none⟩) ∧ w' = w)) := by
  have c0 : w.cell? ⟨b, 0, none⟩ = some p := by rw [Lib.cell_of_heap hbk]; rfl
  rcases hp with rfl | rfl
  · refine (Any.Builder_copyCheck_fresh { Tryz.laysRepeat with } Tryz.extra.toX72 b w c0 (by simp [World.shape?, hbk]; rfl) (Lib.frozen_of_heap hbk 0)).mono ?_
    rintro e w' ⟨rfl, rfl⟩
    exact ⟨rfl, .inl ⟨rfl, rfl⟩⟩
  · refine (Any.Builder_copyCheck_used { Tryz.laysRepeat with } Tryz.extra.toX72 b w c0).mono ?_
    rintro e w' ⟨rfl, rfl⟩
    exact ⟨rfl, .inr ⟨rfl, rfl⟩⟩

set_option maxHeartbeats 2000000 in
set_option maxRecDepth 100000 in
theorem Tryz.writeString (b : Nat) (p v : Value) (s : ByteArray) (w : World) (hbk : w.heap[b]? = some (.cells #[p, v] 273 (0, 0))) (hp : p = .pointer none ∨ p = .pointer (some ⟨b, 0, none⟩)) (hv : v.oneCell' = true)
    (R : World → World → Prop) (happ : ∀ w1, w1.heap[b]? = some (.cells #[.pointer (some ⟨b, 0, none⟩), v] 273 (0, 0)) → (∀ k, k ≠ b → w1.heap[k]? = w.heap[k]?) → w1.heap.size = w.heap.size → w1.os = w.os → w1.tape = w.tape → w1.output = w.output →
      ∃ w2 ao n' cap, (Builtin.append_ #[164, 9] 164 #[v, .string s]).run Tryz.prog w1 = .ok (.slice ao n' cap) w2 ∧ w2.heap[b]? = w1.heap[b]? ∧ R w1 (w2.setCell ⟨b, 1, none⟩ (.slice ao n' cap))) :
    Calls Tryz.prog 204 #[.pointer (some ⟨b, 0, none⟩), .string s] w fun e w' => e = .returned (.tuple #[.int .i64 s.size, .nilIface]) ∧ ∃ w1, w1.heap[b]? = some (.cells #[.pointer (some ⟨b, 0, none⟩), v] 273 (0, 0)) ∧ (∀ k, k ≠ b → w1.heap[k]? = w.heap[k]?) ∧ w1.heap.size = w.heap.size ∧ w1.os = w.os ∧ w1.tape = w.tape ∧ w1.output = w.output ∧ R w1 w' := by
  go_enter Tryz.func204, Tryz.ntmps204
  go_wp2_with (go_at_call 275; refine (Tryz.copyCheck b p v _ hbk hp).mono ?_)
  rintro e w1 ⟨rfl, hw1⟩
  have h1 : w1.heap[b]? = some (.cells #[.pointer (some ⟨b, 0, none⟩), v] 273 (0, 0)) ∧ (∀ k, k ≠ b → w1.heap[k]? = w.heap[k]?) ∧ w1.heap.size = w.heap.size ∧ w1.os = w.os ∧ w1.tape = w.tape ∧ w1.output = w.output := by
    rcases hw1 with ⟨rfl, rfl⟩ | ⟨rfl, rfl⟩
    · exact ⟨by simp [World.setCell, Array.getElem?_modify, hbk], fun k hk => Below.heap_setCell _ _ _ _ hk, by simp [World.setCell], rfl, rfl, rfl⟩
    · exact ⟨hbk, fun _ _ => rfl, rfl, rfl, rfl, rfl⟩
  obtain ⟨hb1, ho1, hs1, e1, e2, e3⟩ := h1
  clear hw1
  obtain ⟨w2, ao, n', cap, hrun, hb2, hR⟩ := happ w1 hb1 ho1 hs1 e1 e2 e3
  rw [hb1] at hb2
  have c0 : w1.cell? ⟨b, 0, none⟩ = some (.pointer (some ⟨b, 0, none⟩)) := by rw [Lib.cell_of_heap hb1]; rfl
  have c1 : w1.cell? ⟨b, 1, none⟩ = some v := by rw [Lib.cell_of_heap hb1]; rfl
  have d0 : w2.cell? ⟨b, 0, none⟩ = some (.pointer (some ⟨b, 0, none⟩)) := by rw [Lib.cell_of_heap hb2]; rfl
  have d1 : w2.cell? ⟨b, 1, none⟩ = some v := by rw [Lib.cell_of_heap hb2]; rfl
  have f1 : w2.frozen? ⟨b, 1, none⟩ = false := Lib.frozen_of_heap hb2 1
  go_wp2_with (at_builtin; refine wpList_append_eqn rfl _ _ _ _ rfl rfl rfl hrun ?_)
  go_ret2
  exact ⟨rfl, w1, hb1, ho1, hs1, e1, e2, e3, hR⟩

set_option maxHeartbeats 2000000 in
set_option maxRecDepth 100000 in
theorem Tryz.builderString (b g cap : Nat) (p : Value) (cur : Array Value) (l : List UInt8) (w : World) (hbk : w.heap[b]? = some (.cells #[p, .slice (some ⟨g, 0, none⟩) l.length cap] 273 (0, 0))) (hg : w.heap[g]? = some (.cells cur 5 (0, 0)))
    (h0 : l ≠ []) (hcap : l.length ≤ cap) (hsz : cur.size = cap) (hmax : l.length ≤ 140737488355328) (htake : cur.toList.take l.length = l.map (fun x => Value.int .u8 x.toNat)) :
    Calls Tryz.prog 206 #[.pointer (some ⟨b, 0, none⟩)] w fun e w' => e = .returned (.string ⟨l.toArray⟩) ∧ w' = w.drew.freeze ⟨g, 0, none⟩ l.length := by
  have hl0 : l.length ≠ 0 := by simpa using h0
  have c1 : w.drew.cell? ⟨b, 1, none⟩ = some (.slice (some ⟨g, 0, none⟩) l.length cap) := by
    have : w.drew.heap[b]? = some (.cells #[p, .slice (some ⟨g, 0, none⟩) l.length cap] 273 (0, 0)) := hbk
    rw [Lib.cell_of_heap this]; rfl
  have hg' : w.drew.heap[g]? = some (.cells cur 5 (0, 0)) := hg
  have hSD : (Builtin.unsafeSliceData_ #[164] 335 #[.slice (some ⟨g, 0, none⟩) l.length cap]).run Tryz.prog w.drew = .ok (.pointer (some ⟨g, 0, none⟩)) w.drew :=
    Lib.run_unsafeSliceData_row _ _ _ _ _ _ (by omega)
  have hUS : (Builtin.unsafeString_ #[335, 3] 9 #[.pointer (some ⟨g, 0, none⟩), .int .i64 l.length]).run Tryz.prog w.drew = .ok (.string ⟨l.toArray⟩) (w.drew.freeze ⟨g, 0, none⟩ l.length) := by
    refine Lib.run_unsafeString_row w.drew 335 3 9 5 (by kernel_rfl) (by kernel_rfl) g cur.size (by simp [World.shape?, hg']) l h0 (by omega) (by omega) ?_
    intro j x hx
    rw [Go.Ev.addr_add, Nat.zero_add, Lib.cell_of_heap hg']
    have hjl : j < l.length := (List.getElem?_eq_some_iff.1 hx).1
    have h1 : (cur.toList.take l.length)[j]? = some (.int .u8 x.toNat) := by rw [htake, List.getElem?_map, hx]; rfl
    rw [List.getElem?_take, if_pos hjl] at h1
    simpa using h1
  have mixed : Tryz.prog.follows .mixedOrders = true := Tryz.laysRepeat.mixed
  go_enter Tryz.func206, Tryz.ntmps206
  go_wp2
  go_region_o
  all_goals (go_wp2; go_ret; exact ⟨rfl, rfl⟩)
end Go.Proofs
end

section
/- strings.Builder's WriteString and String, as the evaluator does them: soundness. -/
set_option linter.unusedVariables false
set_option linter.unusedSimpArgs false
namespace Go.Ev
open Go Go.Proofs Go.Lib

abbrev byteCells (bs : List UInt8) : List Value := bs.map fun b => Value.int .u8 b.toNat

theorem old_block (w : World) (o : Obj) {B : Nat} (h : B < w.heap.size) : (w.drew.alloc o).heap[B]? = w.heap[B]? := by
  show (w.heap.push o)[B]? = _
  rw [Array.getElem?_push, if_neg (by omega)]
theorem new_block (w : World) (o : Obj) : (w.drew.alloc o).heap[w.heap.size]? = some o := by
  show (w.heap.push o)[w.heap.size]? = _
  rw [Array.getElem?_push, if_pos rfl]
theorem drew_heap (w : World) : w.drew.heap = w.heap := rfl

/-- A string's bytes behind such bytes. -/
theorem app_bytes (w1 : World) (v : Value) (bs : List UInt8) (s : ByteArray) (hlen : bs.length + s.size ≤ 140737488355328)
    (hv : (v = .slice none 0 0 ∧ bs = []) ∨ ∃ C arr cap, v = .slice (some ⟨C, 0, none⟩) bs.length cap ∧ w1.heap[C]? = some (.cells arr 5 (0, 0)) ∧ bs.length ≤ cap ∧ arr.size = cap ∧ arr.toList.take bs.length = byteCells bs) :
    ∃ w2 ao n' cap, (Builtin.append_ #[164, 9] 164 #[v, .string s]).run Tryz.prog w1 = .ok (.slice ao n' cap) w2 ∧
      ((v = .slice none 0 0 ∧ s.size = 0 ∧ ao = none ∧ n' = 0 ∧ cap = 0 ∧ w2 = w1) ∨
       (∃ C arr arr', v = .slice (some ⟨C, 0, none⟩) bs.length cap ∧ w1.heap[C]? = some (.cells arr 5 (0, 0)) ∧ ao = some ⟨C, 0, none⟩ ∧ n' = bs.length + s.size ∧ n' ≤ cap ∧ arr'.size = cap ∧ arr.size = cap ∧ arr'.toList.take n' = byteCells (bs ++ s.data.toList) ∧ w2 = w1.setRow C arr') ∨
       (∃ arr', (v = .slice none 0 0 → s.size ≠ 0) ∧ ao = some ⟨w1.heap.size, 0, none⟩ ∧ n' = bs.length + s.size ∧ n' ≤ cap ∧ arr'.size = cap ∧ arr'.toList.take n' = byteCells (bs ++ s.data.toList) ∧ w2 = w1.drew.alloc (.cells arr' 5))) := by
  have ht : Tryz.prog.underlying 164 = some (.slice 5) := by kernel_rfl
  have hu : Tryz.prog.underlying 9 = some .string := by kernel_rfl
  obtain ⟨i0, hi, hz, hs, hb⟩ : ∃ i, Tryz.prog.info? 5 = some i ∧ i.zero = some (.int .u8 0) ∧ i.size = 1 ∧ i.bytes = 1 := by
    obtain ⟨i, hi, h1, h2, h3⟩ := info_parts Tryz.extra.infoByte
    exact ⟨i, hi, h1, h2, h3⟩
  have hcs : ∀ l : List UInt8, l.map (fun b => Value.int .u8 b.toNat) = byteCells l := fun _ => rfl
  have hss : strCells s = byteCells s.data.toList := rfl
  rcases hv with ⟨rfl, rfl⟩ | ⟨C, arr, cap, rfl, hC, hle, hsz, htake⟩
  · obtain ⟨v', w2, hrun, hown, hgr, hnil⟩ := run_append_own_string (P := Tryz.prog) (w := w1) w1.heap.size 164 9 164 5 i0 ht hu hi hz hs hb (.slice none 0 0) 0 [] (World.ownsRow_nil _ _ _ _) s (by unfold maxLen; simp at hlen; omega) (by simpa using hlen) (Nat.le_refl _)
    by_cases h0 : s.size = 0
    · have hv' := hnil.2 ⟨rfl, h0⟩
      have hf := run_firstCells_string (P := Tryz.prog) (w := w1) 1 s
      refine ⟨w1, none, 0, 0, ?_, .inl ⟨rfl, h0, rfl, rfl, rfl, rfl⟩⟩
      rw [h0] at hf
      have hn : strCells s = [] := List.eq_nil_of_length_eq_zero (by rw [strCells_length]; exact h0)
      rw [hn] at hf
      simp [Builtin.append_, run_underlying ht, run_underlying hu, sizeOf, typeInfo, hi, hs, Builtin.lenOf, h0, hf]
    · have hr := run_append_nil_string (P := Tryz.prog) (w := w1) 164 9 164 5 i0 (.int .u8 0) ht hu hi hz s (by omega) (by simp at hlen; omega) (by rw [hb]; simp at hlen; omega)
      have hge := grownCap_ge w1 s.size 0 5
      refine ⟨_, _, _, _, hr, .inr (.inr ⟨_, fun _ => h0, rfl, by simp, hge, ?_, ?_, rfl⟩)⟩
      · have hz1 : (Value.int IntKind.u8 0).cells.size = 1 := rfl
        have : s.data.size = s.size := rfl
        simp only [Array.size_append, Array.size_map, size_zeroCells, hz1, this]; omega
      · rw [Array.toList_append, List.take_left']
        · simp [byteCells]
        · simp
  · by_cases hroom : bs.length + s.size ≤ cap
    · have hr := run_append_room_string (P := Tryz.prog) (w := w1) 164 9 164 5 i0 ht hu hi hs C bs.length cap arr hC s hroom (by omega)
      refine ⟨_, _, _, _, hr, .inr (.inl ⟨C, arr, _, rfl, hC, rfl, rfl, hroom, ?_, hsz, ?_, rfl⟩)⟩
      · simp only [List.size_toArray, List.length_append, List.length_take, List.length_drop, Array.length_toList, strCells_length]; omega
      · rw [htake, hss]
        have e : byteCells (bs ++ s.data.toList) = byteCells bs ++ byteCells s.data.toList := by simp [byteCells]
        rw [e]
        refine List.take_left' ?_
        have : s.data.size = s.size := rfl
        simp [byteCells, this]
    · have holds : ∀ j u, (byteCells bs)[j]? = some u → w1.cell? ((⟨C, 0, none⟩ : Addr).add j) = some u := by
        intro j u hj
        rw [addr_add, Nat.zero_add, Lib.cell_of_heap hC]
        have hjl : j < bs.length := by have := (List.getElem?_eq_some_iff.1 hj).1; simpa using this
        rw [← htake, List.getElem?_take, if_pos hjl] at hj
        simpa using hj
      have hr := run_append_grow_string (P := Tryz.prog) (w := w1) 164 9 164 5 i0 (.int .u8 0) ht hu hi hz ⟨C, 0, none⟩ bs.length cap (byteCells bs) (by rw [hs]; simp) holds s (by omega) (by omega) (by rw [hb]; exact growslice_fits (by omega) (by omega))
      have hge := grownCap_ge w1 (bs.length + s.size) cap 5
      refine ⟨_, _, _, _, hr, .inr (.inr ⟨_, (fun h => by cases h), rfl, rfl, hge, ?_, ?_, rfl⟩)⟩
      · have hz1 : (Value.int IntKind.u8 0).cells.size = 1 := rfl
        simp only [Array.size_append, List.size_toArray, size_zeroCells, hz1, strCells_length, byteCells, List.length_map]; omega
      · rw [Array.toList_append, Array.toList_append]
        have e : byteCells (bs ++ s.data.toList) = (byteCells bs).toArray.toList ++ (strCells s).toArray.toList := by simp [byteCells, strCells]
        rw [e]
        refine List.take_left' ?_
        simp [byteCells, strCells_length]
end Go.Ev
end

section
/- strings.Builder's WriteString and String, as the evaluator does them. -/
set_option linter.unusedVariables false
set_option linter.unusedSimpArgs false
namespace Go.Ev
open Go Go.Proofs Go.Lib

def wsRes (s : ByteArray) : PV := .tuple [.v (.int .i64 s.size), .v .nilIface]

def writeP (id : Nat) (al : List PV) (h : Hp) : Option (PV × Ups) :=
  match al with
  | [.ptr i g 0, .v (.string s)] =>
    if g = h.G i ∧ i ≠ id then
      match h.H i with
      | .bld T none =>
        if T = 273 ∧ s.size ≤ 140737488355328 then
          if s.size = 0 then some (wsRes s, [(i, h.G i, .bld 273 none)])
          else some (wsRes s, [(i, h.G i, .bld 273 none), (id, upd h.G i (h.G i) id + 1, .bytes 5 s.data.toList), (i, h.G i, .bld 273 (some (id, upd h.G i (h.G i) id + 1, s.size)))])
        else none
      | .bld T (some (j, gj, n)) =>
        match h.H j with
        | .bytes E bs =>
          if T = 273 ∧ E = 5 ∧ gj = h.G j ∧ j ≠ i ∧ bs.length = n ∧ bs.length + s.size ≤ 140737488355328 then
            some (wsRes s, [(i, h.G i, .bld 273 (some (j, h.G j, bs.length))), (j, h.G j, .dead), (id, upd (upd h.G i (h.G i)) j (h.G j) id + 1, .bytes 5 (bs ++ s.data.toList)), (i, h.G i, .bld 273 (some (id, upd (upd h.G i (h.G i)) j (h.G j) id + 1, bs.length + s.size)))])
          else none
        | _ => none
      | _ => none
    else none
  | _ => none

theorem wsRes_rel {F G L w} (s : ByteArray) : VRel F G L w (wsRes s) (.tuple #[.int .i64 s.size, .nilIface]) :=
  .tuple (us := [.int .i64 s.size, .nilIface]) (.cons (.c (.v rfl)) (.cons (.c (.v rfl)) .nil))

/-- The last store of WriteString: the new buffer, into the builder. -/
theorem put_buf {F L w h} (hr : HRel F L w h) {i B g : Nat} (hgi : h.G i = g) {buf : Option (Nat × Nat × Nat)} (hH : h.H i = .bld 273 buf) (hL : L i = some B) {q v : Value} (hb : w.heap[B]? = some (.cells #[q, v] 273 (0, 0))) (hq : q = .pointer (some ⟨B, 0, none⟩)) {buf' : Option (Nat × Nat × Nat)} {v' : Value}
    (hbuf : ∀ w', (∀ k, k ≠ B → w'.heap[k]? = w.heap[k]?) → BufIs h.G L w' buf' v') :
    HRel F L (w.setCell ⟨B, 1, none⟩ v') (h.app [(i, g, .bld 273 buf')]) ∧ Step F L w h F L (w.setCell ⟨B, 1, none⟩ v') (h.app [(i, g, .bld 273 buf')]) := by
  subst hgi
  have hx := heap_setCell w B 1 v' _ _ _ hb
  refine step_set hr (by rw [hH]; rfl) hL (fun k hk => RowKit.Below.heap_setCell _ _ _ _ hk) (by simp [World.setCell]) (fun T n hs => ?_) rfl rfl rfl _ (fun hl hnF => .bld hnF (by rw [hx]; rfl) (.inr hq) (hbuf _ (fun k hk => RowKit.Below.heap_setCell _ _ _ _ hk)))
  simp [World.shape?, hb] at hs
  obtain ⟨rfl, rfl⟩ := hs
  simp [World.shape?, hx]

/-- copyCheck's part. -/
theorem put_self {F L w h} (hr : HRel F L w h) {i B : Nat} {buf : Option (Nat × Nat × Nat)} (hH : h.H i = .bld 273 buf) (hL : L i = some B) {p v : Value} (hb : w.heap[B]? = some (.cells #[p, v] 273 (0, 0))) (hbuf : BufIs h.G L w buf v)
    {w1 : World} (hb1 : w1.heap[B]? = some (.cells #[.pointer (some ⟨B, 0, none⟩), v] 273 (0, 0))) (ho : ∀ k, k ≠ B → w1.heap[k]? = w.heap[k]?) (hs : w1.heap.size = w.heap.size) (e1 : w1.os = w.os) (e2 : w1.tape = w.tape) (e3 : w1.output = w.output) :
    HRel F L w1 (h.app [(i, h.G i, .bld 273 buf)]) ∧ Step F L w h F L w1 (h.app [(i, h.G i, .bld 273 buf)]) :=
  step_set hr (by rw [hH]; rfl) hL ho hs (fun T n hsh => by simp [World.shape?, hb] at hsh; obtain ⟨rfl, rfl⟩ := hsh; simp [World.shape?, hb1]) e1 e2 e3 _ (fun hl hnF => .bld hnF hb1 (.inr rfl) (hbuf.later hl))

theorem write_sound (id : Nat) (al : List PV) (h : Hp) (r : PV) (ups : Ups) (hw : writeP id al h = some (r, ups)) (F : Nat → Prop) (L : Nat → Option Nat) (w : World) (us : List Value) (hr : HRel F L w h) (has : VRels F h.G L w al us) :
    Calls Tryz.prog 204 us.toArray w (fun e w' => ∃ v F' L', e = .returned v ∧ HRel F' L' w' (h.app ups) ∧ Step F L w h F' L' w' (h.app ups) ∧ VRel F' (h.app ups).G L' w' r v) := by
  unfold writeP at hw
  split at hw <;> try (cases hw; done)
  rename_i i g s
  split at hw <;> try (cases hw; done)
  rename_i hc
  obtain ⟨hg, hid⟩ := hc
  cases has with
  | cons h1 h2 =>
  cases h2 with
  | cons h3 h4 =>
  cases h4
  obtain ⟨rfl, _⟩ := h3.v_iff
  cases h1 with
  | c h => cases h
  | ptr k1 k2 =>
  obtain ⟨B, hL, rfl⟩ := k2 hg
  have hb := hr.ok i
  split at hw <;> try (cases hw; done)
  · -- no buffer yet
    rename_i T hH
    split at hw <;> try (cases hw; done)
    rename_i hc
    obtain ⟨rfl, hlen⟩ := hc
    rw [hH, hL] at hb
    cases hb with
    | bld m1 m2 m3 m4 =>
    rename_i p v
    have hv : v = .slice none 0 0 := m4
    subst hv
    refine (Tryz.writeString B p _ s w m2 m3 rfl (fun w1 w' => ∃ F' L', HRel F' L' w' (h.app ups) ∧ Step F L w h F' L' w' (h.app ups)) ?_).mono ?_
    rotate_left
    · rintro e w' ⟨rfl, w1, _, _, _, _, _, _, F', L', k1, k2⟩
      refine ⟨_, F', L', rfl, k1, k2, ?_⟩
      split at hw <;> cases hw <;> exact wsRes_rel s
    intro w1 hb1 ho1 hs1 e1 e2 e3
    obtain ⟨st1, st2⟩ := put_self hr hH hL m2 m4 hb1 ho1 hs1 e1 e2 e3
    obtain ⟨w2, ao, n', cap, hrun, hcase⟩ := app_bytes w1 (.slice none 0 0) [] s (by simpa using hlen) (.inl ⟨rfl, rfl⟩)
    refine ⟨w2, ao, n', cap, hrun, ?_⟩
    rcases hcase with ⟨_, h0, rfl, rfl, rfl, rfl⟩ | ⟨C, arr, arr', hv, _⟩ | ⟨arr', hne, rfl, rfl, hle, hsz, htk, rfl⟩
    · refine ⟨rfl, F, L, ?_⟩
      rw [if_pos h0] at hw; cases hw
      obtain ⟨k1, k2⟩ := put_buf st1 (i := i) (B := B) (buf := none) (buf' := none) (v' := .slice none 0 0) rfl (upd_same _ _ _) hL hb1 rfl (fun _ _ => rfl)
      have hH2 : w2.setCell ⟨B, 1, none⟩ (.slice none 0 0) = w2.setCell ⟨B, 1, none⟩ (.slice none 0 0) := rfl
      have e : (h.app [(i, h.G i, .bld 273 none)]).app [(i, (h.app [(i, h.G i, .bld 273 none)]).G i, .bld 273 none)] = h.app [(i, h.G i, .bld 273 none)] :=
        app_same rfl (upd_same _ _ _)
      rw [e] at k1 k2
      have st := st2.trans k2
      exact ⟨k1, st⟩
    · cases hv
    · have hsz0 : s.size ≠ 0 := hne rfl
      have hBs : B < w1.heap.size := (Array.getElem?_eq_some_iff.1 hb1).1
      refine ⟨old_block w1 _ hBs, F, upd L id (some w1.heap.size), ?_⟩
      rw [if_neg hsz0] at hw; cases hw
      obtain ⟨n1, n2⟩ := step_new st1 (w' := w1.drew.alloc (.cells arr' 5)) (o := .cells arr' 5) rfl rfl rfl rfl id (.bytes 5 s.data.toList) (fun hl hnF => by
        have hsl : s.data.toList.length = s.size := by rw [Array.length_toList]; rfl
        refine .bytes hnF (new_block w1 _) (by omega) (by simp at hle; omega) ?_
        have := htk
        simp only [List.length_nil, Nat.zero_add, List.nil_append] at this
        rw [hsl]; exact this)
      have hH2 : ((h.app [(i, h.G i, .bld 273 none)]).app [(id, (h.app [(i, h.G i, .bld 273 none)]).G id + 1, .bytes 5 s.data.toList)]).H i = .bld 273 none := by
        show upd (upd h.H i _) id _ i = _
        rw [upd_other _ _ hid, upd_same]
      have hG2 : ((h.app [(i, h.G i, .bld 273 none)]).app [(id, (h.app [(i, h.G i, .bld 273 none)]).G id + 1, .bytes 5 s.data.toList)]).G i = h.G i := by
        show upd (upd h.G i _) id _ i = _
        rw [upd_other _ _ hid, upd_same]
      obtain ⟨k1, k2⟩ := put_buf n1 (i := i) (B := B) (buf := none) (buf' := some (id, upd h.G i (h.G i) id + 1, s.size)) (v' := .slice (some ⟨w1.heap.size, 0, none⟩) s.size cap) hG2 hH2 (by rw [upd_other _ _ hid]; exact hL)
        ((old_block w1 _ hBs).trans hb1) rfl (fun w' ho => ⟨by show _ ≤ upd (upd h.G i _) id _ id; rw [upd_same]; exact Nat.le_refl _, fun _ => ⟨w1.heap.size, 5, cap, upd_same _ _ _, by
          have hx : w'.heap[w1.heap.size]? = some (.cells arr' 5 (0, 0)) := (ho _ (by omega)).trans (new_block w1 _)
          simp [World.shape?, hx, hsz], rfl, by simpa using hle⟩⟩)
      have hn' : ([] : List UInt8).length + s.size = s.size := by simp
      rw [hn']
      exact ⟨k1, st2.trans (n2.trans k2)⟩
  · -- a buffer
    rename_i T j gj n hH
    split at hw <;> try (cases hw; done)
    rename_i E bs hJ
    split at hw <;> try (cases hw; done)
    rename_i hc
    obtain ⟨rfl, rfl, rfl, hji, rfl, hlen⟩ := hc
    simp only [Option.some.injEq, Prod.mk.injEq] at hw
    obtain ⟨rfl, hups⟩ := hw
    rw [hH, hL] at hb
    cases hb with
    | bld m1 m2 m3 m4 =>
    rename_i p v
    obtain ⟨C, E', cap0, a0, a1, rfl, a3⟩ := m4.2 rfl
    have hCB : C ≠ B := fun e => hji (hr.inj j i B (by rw [hJ]; rfl) (by rw [hH]; rfl) (e ▸ a0) hL)
    refine (Tryz.writeString B p _ s w m2 m3 rfl (fun w1 w' => ∃ F' L', HRel F' L' w' (h.app ups) ∧ Step F L w h F' L' w' (h.app ups)) ?_).mono ?_
    rotate_left
    · rintro e w' ⟨rfl, w1, _, _, _, _, _, _, F', L', k1, k2⟩
      exact ⟨_, F', L', rfl, k1, k2, wsRes_rel s⟩
    subst hups
    intro w1 hb1 ho1 hs1 e1 e2 e3
    obtain ⟨st1, st2⟩ := put_self hr hH hL m2 m4 hb1 ho1 hs1 e1 e2 e3
    have hJ1 : (h.app [(i, h.G i, .bld 273 (some (j, h.G j, bs.length)))]).H j = .bytes 5 bs := by
      show upd h.H i _ j = _
      rw [upd_other _ _ hji]; exact hJ
    have hG1 : (h.app [(i, h.G i, .bld 273 (some (j, h.G j, bs.length)))]).G j = h.G j := by
      show upd h.G i _ j = _
      rw [upd_other _ _ hji]
    have hbj := st1.ok j
    rw [hJ1, a0] at hbj
    cases hbj with
    | bytes b1 b2 b3 b4 b5 =>
    rename_i arr
    have hcap : cap0 = arr.size := by
      have hx : w.heap[C]? = some (.cells arr 5 (0, 0)) := (ho1 C hCB).symm.trans b2
      simp [World.shape?, hx] at a1
      exact a1.2.symm
    have hBs : B < w1.heap.size := (Array.getElem?_eq_some_iff.1 hb1).1
    obtain ⟨w2, ao, n', cap, hrun, hcase⟩ := app_bytes w1 (.slice (some ⟨C, 0, none⟩) bs.length cap0) bs s hlen (.inr ⟨C, arr, cap0, rfl, b2, by omega, hcap.symm, b5⟩)
    refine ⟨w2, ao, n', cap, hrun, ?_⟩
    have hlen' : (bs ++ s.data.toList).length = bs.length + s.size := by rw [List.length_append, Array.length_toList]; rfl
    rcases hcase with ⟨hv, _⟩ | ⟨C', arr1, arr', hv, hC', rfl, rfl, hle, hsz', hsz, htk, rfl⟩ | ⟨arr', _, rfl, rfl, hle, hsz, htk, rfl⟩
    · cases hv
    · simp only [Value.slice.injEq, Option.some.injEq, Addr.mk.injEq, true_and, and_true] at hv
      obtain ⟨rfl, rfl⟩ := hv
      have hother : ∀ k, k ≠ C → (w1.setRow C arr').heap[k]? = w1.heap[k]? := fun k hk => setRow_other w1 C k _ hk
      have hhere := setRow_heap w1 C arr arr' 5 (0, 0) b2
      refine ⟨hother B (fun e => hCB e.symm), F, upd L id (some C), ?_⟩
      obtain ⟨n1, n2⟩ := step_move st1 (i := j) (by rw [hJ1]; rfl) a0 hother (by simp [World.setRow]) (fun T n hs => by
        simp [World.shape?, b2] at hs
        obtain ⟨rfl, rfl⟩ := hs
        simp [World.shape?, hhere]; omega) rfl rfl rfl id (.bytes 5 (bs ++ s.data.toList)) (fun G' L' hl hnF => .bytes hnF hhere (by omega) (by omega) (by rw [hlen']; exact htk))
      rw [hG1] at n1 n2
      have hH2 : ((h.app [(i, h.G i, .bld 273 (some (j, h.G j, bs.length)))]).app [(j, h.G j, .dead), (id, upd (upd h.G i (h.G i)) j (h.G j) id + 1, .bytes 5 (bs ++ s.data.toList))]).H i = .bld 273 (some (j, h.G j, bs.length)) := by
        show upd (upd (upd h.H i _) j _) id _ i = _
        rw [upd_other _ _ hid, upd_other _ _ (fun e => hji e.symm), upd_same]
      have hG2 : ((h.app [(i, h.G i, .bld 273 (some (j, h.G j, bs.length)))]).app [(j, h.G j, .dead), (id, upd (upd h.G i (h.G i)) j (h.G j) id + 1, .bytes 5 (bs ++ s.data.toList))]).G i = h.G i := by
        show upd (upd (upd h.G i _) j _) id _ i = _
        rw [upd_other _ _ hid, upd_other _ _ (fun e => hji e.symm), upd_same]
      obtain ⟨k1, k2⟩ := put_buf n1 (i := i) (B := B) (buf' := some (id, upd (upd h.G i (h.G i)) j (h.G j) id + 1, bs.length + s.size)) (v' := .slice (some ⟨C, 0, none⟩) (bs.length + s.size) cap0) hG2 hH2 (by rw [upd_other _ _ hid]; exact hL)
        ((hother B (fun e => hCB e.symm)).trans hb1) rfl (fun w' ho => ⟨by show _ ≤ upd (upd (upd h.G i _) j _) id _ id; rw [upd_same]; exact Nat.le_refl _, fun _ => ⟨C, 5, cap0, upd_same _ _ _, by
          have hx : w'.heap[C]? = some (.cells arr' 5 (0, 0)) := (ho _ hCB).trans hhere
          simp [World.shape?, hx, hsz'], rfl, hle⟩⟩)
      exact ⟨k1, st2.trans (n2.trans k2)⟩
    · refine ⟨old_block w1 _ hBs, F, upd L id (some w1.heap.size), ?_⟩
      obtain ⟨d1, d2⟩ := step_dead st1 j
      rw [hG1] at d1 d2
      obtain ⟨n1, n2⟩ := step_new d1 (w' := w1.drew.alloc (.cells arr' 5)) (o := .cells arr' 5) rfl rfl rfl rfl id (.bytes 5 (bs ++ s.data.toList)) (fun hl hnF => .bytes hnF (new_block w1 _) (by omega) (by omega) (by rw [hlen']; exact htk))
      have hH2 : (((h.app [(i, h.G i, .bld 273 (some (j, h.G j, bs.length)))]).app [(j, h.G j, .dead)]).app [(id, upd (upd h.G i (h.G i)) j (h.G j) id + 1, .bytes 5 (bs ++ s.data.toList))]).H i = .bld 273 (some (j, h.G j, bs.length)) := by
        show upd (upd (upd h.H i _) j _) id _ i = _
        rw [upd_other _ _ hid, upd_other _ _ (fun e => hji e.symm), upd_same]
      have hG2 : (((h.app [(i, h.G i, .bld 273 (some (j, h.G j, bs.length)))]).app [(j, h.G j, .dead)]).app [(id, upd (upd h.G i (h.G i)) j (h.G j) id + 1, .bytes 5 (bs ++ s.data.toList))]).G i = h.G i := by
        show upd (upd (upd h.G i _) j _) id _ i = _
        rw [upd_other _ _ hid, upd_other _ _ (fun e => hji e.symm), upd_same]
      obtain ⟨k1, k2⟩ := put_buf n1 (i := i) (B := B) (buf' := some (id, upd (upd h.G i (h.G i)) j (h.G j) id + 1, bs.length + s.size)) (v' := .slice (some ⟨w1.heap.size, 0, none⟩) (bs.length + s.size) cap) hG2 hH2 (by rw [upd_other _ _ hid]; exact hL)
        ((old_block w1 _ hBs).trans hb1) rfl (fun w' ho => ⟨by show _ ≤ upd (upd (upd h.G i _) j _) id _ id; rw [upd_same]; exact Nat.le_refl _, fun _ => ⟨w1.heap.size, 5, cap, upd_same _ _ _, by
          have hx : w'.heap[w1.heap.size]? = some (.cells arr' 5 (0, 0)) := (ho _ (by omega)).trans (new_block w1 _)
          simp [World.shape?, hx, hsz], rfl, hle⟩⟩)
      exact ⟨k1, st2.trans (d2.trans (n2.trans k2))⟩
end Go.Ev
end

section
/- strings.Builder's String, as the evaluator does it; both, as rules of the evaluator. -/
set_option linter.unusedVariables false
set_option linter.unusedSimpArgs false
namespace Go.Proofs
open Go.Shelf Go.RowKit
set_option maxHeartbeats 2000000 in
set_option maxRecDepth 100000 in
theorem Tryz.builderStringNil (b : Nat) (p : Value) (w : World) (hbk : w.heap[b]? = some (.cells #[p, .slice none 0 0] 273 (0, 0))) :
    Calls Tryz.prog 206 #[.pointer (some ⟨b, 0, none⟩)] w fun e w' => e = .returned (.string .empty) ∧ w' = w.drew := by
  have c1 : w.drew.cell? ⟨b, 1, none⟩ = some (.slice none 0 0) := by
    have : w.drew.heap[b]? = some (.cells #[p, .slice none 0 0] 273 (0, 0)) := hbk
    rw [Lib.cell_of_heap this]; rfl
  have hSD : (Builtin.unsafeSliceData_ #[164] 335 #[.slice none 0 0]).run Tryz.prog w.drew = .ok (.pointer none) w.drew := Lib.run_unsafeSliceData_nil _ _ _ _ _
  have hUS : (Builtin.unsafeString_ #[335, 3] 9 #[.pointer none, .int .i64 0]).run Tryz.prog w.drew = .ok (.string .empty) w.drew := Lib.run_unsafeString_none _ _ _ _ _
  have mixed : Tryz.prog.follows .mixedOrders = true := Tryz.laysRepeat.mixed
  go_enter Tryz.func206, Tryz.ntmps206
  go_wp2
  go_region_o
  all_goals (go_wp2; go_ret; exact ⟨rfl, rfl⟩)
end Go.Proofs
namespace Go.Ev
open Go Go.Proofs Go.Lib

def stringP (id : Nat) (al : List PV) (h : Hp) : Option (PV × Ups) :=
  match al with
  | [.ptr i g 0] =>
    if g = h.G i then
      match h.H i with
      | .bld T none => if T = 273 then some (.v (.string .empty), []) else none
      | .bld T (some (j, gj, n)) =>
        match h.H j with
        | .bytes E bs => if T = 273 ∧ E = 5 ∧ gj = h.G j ∧ j ≠ i ∧ bs.length = n ∧ bs ≠ [] then some (.v (.string ⟨bs.toArray⟩), [(j, h.G j, .dead)]) else none
        | _ => none
      | _ => none
    else none
  | _ => none

theorem freeze_other (w : World) (g n : Nat) (k : Nat) (hk : k ≠ g) : (w.freeze ⟨g, 0, none⟩ n).heap[k]? = w.heap[k]? := by
  unfold World.freeze
  split
  · rfl
  · simp [Array.getElem?_modify, Ne.symm hk]

theorem string_sound (id : Nat) (al : List PV) (h : Hp) (r : PV) (ups : Ups) (hw : stringP id al h = some (r, ups)) (F : Nat → Prop) (L : Nat → Option Nat) (w : World) (us : List Value) (hr : HRel F L w h) (has : VRels F h.G L w al us) :
    Calls Tryz.prog 206 us.toArray w (fun e w' => ∃ v F' L', e = .returned v ∧ HRel F' L' w' (h.app ups) ∧ Step F L w h F' L' w' (h.app ups) ∧ VRel F' (h.app ups).G L' w' r v) := by
  unfold stringP at hw
  split at hw <;> try (cases hw; done)
  rename_i i g
  split at hw <;> try (cases hw; done)
  rename_i hg
  cases has with
  | cons h1 h2 =>
  cases h2
  cases h1 with
  | c h => cases h
  | ptr k1 k2 =>
  obtain ⟨B, hL, rfl⟩ := k2 hg
  have hb := hr.ok i
  obtain ⟨hd1, hd2⟩ := hrel_heap hr (w' := w.drew) rfl rfl rfl rfl
  split at hw <;> try (cases hw; done)
  · rename_i T hH
    split at hw <;> try (cases hw; done)
    rename_i hT
    subst hT
    cases hw
    rw [hH, hL] at hb
    cases hb with
    | bld m1 m2 m3 m4 =>
    have hv := m4
    simp only [BufIs] at hv
    subst hv
    refine (Tryz.builderStringNil B _ w m2).mono ?_
    rintro e w' ⟨rfl, rfl⟩
    exact ⟨_, F, L, rfl, hd1, hd2, .c (.v rfl)⟩
  · rename_i T j gj n hH
    split at hw <;> try (cases hw; done)
    rename_i E bs hJ
    split at hw <;> try (cases hw; done)
    rename_i hc
    obtain ⟨rfl, rfl, rfl, hji, rfl, hne⟩ := hc
    cases hw
    rw [hH, hL] at hb
    cases hb with
    | bld m1 m2 m3 m4 =>
    rename_i p v
    obtain ⟨C, E', cap0, a0, a1, rfl, a3⟩ := m4.2 rfl
    have hbj := hr.ok j
    rw [hJ, a0] at hbj
    cases hbj with
    | bytes b1 b2 b3 b4 b5 =>
    rename_i arr
    have hcap : cap0 = arr.size := by
      simp [World.shape?, b2] at a1
      exact a1.2.symm
    refine (Tryz.builderString B C cap0 p arr bs w m2 b2 hne a3 hcap.symm b3 b5).mono ?_
    rintro e w' ⟨rfl, rfl⟩
    have hl0 : bs.length ≠ 0 := by simpa using hne
    obtain ⟨k1, k2⟩ := step_set hd1 (i := j) (w' := w.drew.freeze ⟨C, 0, none⟩ bs.length) (by rw [hJ]; rfl) a0 (fun k hk => freeze_other _ _ _ _ hk) (by unfold World.freeze; split <;> simp) (fun T n hs => by
      have b2' : w.drew.heap[C]? = some (.cells arr 5 (0, 0)) := b2
      simp [World.shape?, b2'] at hs
      obtain ⟨rfl, rfl⟩ := hs
      unfold World.freeze
      rw [if_neg hl0]
      simp [World.shape?, Array.getElem?_modify, b2']) (by unfold World.freeze; split <;> rfl) (by unfold World.freeze; split <;> rfl) (by unfold World.freeze; split <;> rfl) .dead (fun _ _ => .dead)
    exact ⟨_, F, L, rfl, k1, hd2.trans k2, .c (.v rfl)⟩

theorem write_mono (id : Nat) (al : List PV) (h h' : Hp) (r : PV) (ups : Ups) (hm : Le h h') (hG : ∀ k, id ≤ k → k < id + 100 → h.G k = h'.G k) (hc : writeP id al h = some (r, ups)) : writeP id al h' = some (r, ups) := by
  have hid : h.G id = h'.G id := hG id (Nat.le_refl _) (by omega)
  unfold writeP at hc ⊢
  split at hc <;> try (cases hc; done)
  rename_i i g s
  split at hc <;> try (cases hc; done)
  rename_i hcond
  have hal : (h.H i).alive = true := by
    split at hc <;> try (cases hc; done)
    · rename_i hH; rw [hH]; rfl
    · rename_i hH; rw [hH]; rfl
  obtain ⟨e1, e2⟩ := hm.at hal
  have u1 : upd h'.G i (h'.G i) id = upd h.G i (h.G i) id := by rw [upd_at, upd_at, e1, hid]
  rw [e1, e2, if_pos hcond]
  split at hc <;> try (cases hc; done)
  · rename_i T hH
    have u1' : upd h'.G i (h.G i) id = upd h.G i (h.G i) id := by rw [← e1]; rw [e1]; rw [upd_at, upd_at, hid]
    rw [u1']
    exact hc
  · rename_i T j gj n hH
    split at hc <;> try (cases hc; done)
    rename_i E bs hJ
    obtain ⟨f1, f2⟩ := hm.at (k := j) (by rw [hJ]; rfl)
    have u2 : upd (upd h'.G i (h.G i)) j (h.G j) id = upd (upd h.G i (h.G i)) j (h.G j) id := by simp only [upd_at, hid]
    rw [f2, f1, hJ]
    dsimp only
    rw [u2]
    exact hc

theorem string_mono (id : Nat) (al : List PV) (h h' : Hp) (r : PV) (ups : Ups) (hm : Le h h') (hG : ∀ k, id ≤ k → k < id + 100 → h.G k = h'.G k) (hc : stringP id al h = some (r, ups)) : stringP id al h' = some (r, ups) := by
  unfold stringP at hc ⊢
  split at hc <;> try (cases hc; done)
  rename_i i g
  split at hc <;> try (cases hc; done)
  rename_i hcond
  have hal : (h.H i).alive = true := by
    split at hc <;> try (cases hc; done)
    · rename_i hH; rw [hH]; rfl
    · rename_i hH; rw [hH]; rfl
  obtain ⟨e1, e2⟩ := hm.at hal
  rw [e1, e2, if_pos hcond]
  split at hc <;> try (cases hc; done)
  · rename_i T hH
    exact hc
  · rename_i T j gj n hH
    split at hc <;> try (cases hc; done)
    rename_i E bs hJ
    obtain ⟨f1, f2⟩ := hm.at (k := j) (by rw [hJ]; rfl)
    rw [f2, f1, hJ]
    exact hc

theorem write_ok : IspOk Tryz.prog 204 writeP := ⟨fun id al h r ups hw F L w us hr has => write_sound id al h r ups hw F L w us hr has, write_mono⟩
theorem string_ok : IspOk Tryz.prog 206 stringP := ⟨fun id al h r ups hw F L w us hr has => string_sound id al h r ups hw F L w us hr has, string_mono⟩
end Go.Ev
end

section
/- (*extent.file).size and all, as the evaluator does them. -/
set_option linter.unusedVariables false
set_option linter.unusedSimpArgs false
namespace Go.Proofs
open Go.Shelf Go.RowKit
set_option maxHeartbeats 1000000 in
set_option maxRecDepth 100000 in
theorem Tryz.fileSize (B : Nat) (n : Int) (w : World) (hc : w.cell? ⟨B, 11, none⟩ = some (.int .i64 n)) :
    Calls Tryz.prog 79 #[.pointer (some ⟨B, 0, none⟩)] w fun e w' => e = .returned (.int .i64 (min n 8960)) ∧ w' = w := by
  go_enter Tryz.func79, Tryz.ntmps79
  go_wp2
  go_ret
  exact ⟨rfl, rfl⟩
set_option maxHeartbeats 1000000 in
set_option maxRecDepth 100000 in
theorem Tryz.fileAll (B : Nat) (n : Int) (w : World) :
    Calls Tryz.prog 229 #[.pointer (some ⟨B, 0, none⟩), .int .i64 n] w fun e w' => e = .returned (.func (.func 292) #[] #[.pointer (some ⟨w.heap.size + 1, 0, none⟩), .pointer (some ⟨w.heap.size, 0, none⟩)]) ∧ w' = (w.alloc (.cells #[.pointer (some ⟨B, 0, none⟩)] 145)).alloc (.cells #[.int .i64 n] 3) := by
  go_enter Tryz.func229, Tryz.ntmps229
  go_wp2
  go_ret
  exact ⟨by simp, rfl⟩
end Go.Proofs
namespace Go.Ev
open Go Go.Proofs

/-- A table of this program with nothing in it. -/
noncomputable def X0 : Ctx := ctxOf Tryz.prog (fun _ => none) (fun _ => none) (fun _ => false) (fun _ => false) (fun _ => none)

def sizeP (id : Nat) (al : List PV) (h : Hp) : Option (PV × Ups) :=
  match al with
  | [.ptr i g 0] =>
    match cellsAt h (.ptr i g 11) 1 with
    | some [.v (.int .i64 n)] => some (.v (.int .i64 (min n 8960)), [])
    | _ => none
  | _ => none

theorem size_ok : IspOk Tryz.prog 79 sizeP where
  sound := by
    intro id al h r ups hw F L w us hr has
    unfold sizeP at hw
    split at hw <;> try (cases hw; done)
    rename_i i g
    split at hw <;> try (cases hw; done)
    rename_i n hcs
    cases hw
    have hg : g = h.G i := by
      unfold cellsAt at hcs
      dsimp only at hcs
      split at hcs
      · assumption
      · cases hcs
    cases has with
    | cons h1 h2 =>
    cases h2
    cases h1 with
    | c h => cases h
    | ptr k1 k2 =>
    obtain ⟨B, hL, rfl⟩ := k2 hg
    have hv : VRel F h.G L w (.ptr i g 11) (.pointer (some ⟨B, 11, none⟩)) := .ptr k1 (fun _ => ⟨B, hL, rfl⟩)
    obtain ⟨B', o', he, hc⟩ := cellsAt_sound hr hcs hv
    simp only [Value.pointer.injEq, Option.some.injEq, Addr.mk.injEq, and_true] at he
    obtain ⟨rfl, rfl⟩ := he
    obtain ⟨hc, _⟩ := hc
    cases hc with
    | cons c1 c2 c3 c4 =>
    obtain ⟨rfl, _⟩ := c3.v_iff
    refine (Tryz.fileSize _ n w c1).mono ?_
    rintro e w' ⟨rfl, rfl⟩
    exact ⟨_, F, L, rfl, hr, .refl _ _ _ _, .c (.v rfl)⟩
  mono := by
    intro id al h h' r ups hm hG hc
    unfold sizeP at hc ⊢
    split at hc <;> try (cases hc; done)
    split at hc <;> try (cases hc; done)
    rename_i n hcs
    rw [cellsAt_mono hm hcs]
    exact hc

def allP (id : Nat) (al : List PV) (h : Hp) : Option (PV × Ups) :=
  match al with
  | [.ptr i g 0, .v (.int .i64 n)] =>
    if g = h.G i ∧ (h.H i).alive = true then
      some (.func (.func 292) [] [.ptr (id + 1) (upd h.G id (h.G id + 1) (id + 1) + 1) 0, .ptr id (h.G id + 1) 0], [(id, h.G id + 1, .var [.ptr i g 0]), (id + 1, upd h.G id (h.G id + 1) (id + 1) + 1, .var [.v (.int .i64 n)])])
    else none
  | _ => none

theorem all_ok : IspOk Tryz.prog 229 allP where
  sound := by
    intro id al h r ups hw F L w us hr has
    unfold allP at hw
    split at hw <;> try (cases hw; done)
    rename_i i g n
    split at hw <;> try (cases hw; done)
    rename_i hg
    cases hw
    cases has with
    | cons h1 h2 =>
    cases h2 with
    | cons h3 h4 =>
    cases h4
    obtain ⟨rfl, _⟩ := h3.v_iff
    have h1' := h1
    cases h1 with
    | c h => cases h
    | ptr k1 k2 =>
    obtain ⟨B, hL, rfl⟩ := k2 hg.1
    refine (Tryz.fileAll B n w).mono ?_
    rintro e w' ⟨rfl, rfl⟩
    obtain ⟨L1, a1, a2, a3⟩ := new_var (C := X0) hr id 145 (cs := [.ptr i g 0]) (us := [.pointer (some ⟨B, 0, none⟩)]) (.cons h1' .nil) (fun c hc => by simp at hc; subst hc; rfl)
    obtain ⟨L2, b1, b2, b3⟩ := new_var (C := X0) a1 (id + 1) 3 (cs := [.v (.int .i64 n)]) (us := [.int .i64 n]) (.cons (.c (.v rfl)) .nil) (fun c hc => by simp at hc; subst hc; rfl)
    refine ⟨_, F, L2, rfl, b1, a2.trans b2, .func .nil (.cons ?_ (.cons (a3.later b2.toLater) .nil))⟩
    have hsz : (w.alloc (.cells #[.pointer (some ⟨B, 0, none⟩)] 145)).heap.size = w.heap.size + 1 := by simp
    rw [← hsz]
    exact b3
  mono := by
    intro id al h h' r ups hm hG hc
    have e0 : h.G id = h'.G id := hG id (Nat.le_refl _) (by omega)
    have e1 : h.G (id + 1) = h'.G (id + 1) := hG (id + 1) (by omega) (by omega)
    unfold allP at hc ⊢
    split at hc <;> try (cases hc; done)
    rename_i i g n
    split at hc <;> try (cases hc; done)
    rename_i hcond
    obtain ⟨f1, f2⟩ := hm.at hcond.2
    rw [if_pos (by rw [f1, f2]; exact hcond)]
    rw [← hc, e0]
    simp only [upd_at, e1]
end Go.Ev
end
