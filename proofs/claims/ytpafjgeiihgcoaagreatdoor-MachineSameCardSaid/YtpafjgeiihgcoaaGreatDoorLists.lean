/- A part of the proof: HbLq. No conditions. -/
import Derived.Test.YtpafjgeiihgcoaaGreatDoorEqs

section
/- Regions that draw, some of whose operations are left out; slices.Equal; restOf. -/
set_option linter.unusedVariables false
set_option linter.unusedSimpArgs false
set_option maxRecDepth 10000
set_option maxHeartbeats 4000000
namespace Go.Ev
open Go Go.Proofs

section
variable {C : Ctx} {cal : Cal} {dp sz : Nat} {ops : Array Oper} {h0 : Hp}

/-- A region none of whose operations changes a block, in the text's order; operations may be left out. -/
inductive Calm (C : Ctx) (cal : Cal) (dp sz : Nat) (ops : Array Oper) (h0 : Hp) : List Oper → (Nat → PV) → (Nat → PV) → Prop
  | nil {t : Nat → PV} : Calm C cal dp sz ops h0 [] t t
  | cons {o : Oper} {os : List Oper} {t t' : Nat → PV} {r : PV} {d : Nat} : wantedP ops o t = some true → upsOp C cal dp o ⟨t, restr (readsH o t h0) h0⟩ = some (r, []) → o.dst = some d → Nat.blt d sz = true → Calm C cal dp sz ops h0 os (upd t d r) t' → Calm C cal dp sz ops h0 (o :: os) t t'
  | skip {o : Oper} {os : List Oper} {t t' : Nat → PV} {d : Nat} : wantedP ops o t = some false → o.dst = some d → Nat.blt d sz = true → Calm C cal dp sz ops h0 os (upd t d (.tuple [])) t' → Calm C cal dp sz ops h0 (o :: os) t t'

theorem calm_go {t0 : Nat → PV} : ∀ (l : List (Oper × Nat)) (recs : List Rec) (t' : Nat → PV), (∀ r ∈ recs, r.ups = []) → quietOk ops l (recs.map (·.o)) = true → Calm C cal dp sz ops h0 (l.map (·.1)) (tF (fun _ => true) 0 recs t0) t' →
    ∃ recs', drawGo C cal dp sz ops t0 h0 l recs = some recs' ∧ tF (fun _ => true) 0 recs' t0 = t' ∧ ∀ r ∈ recs', r.ups = []
  | [], recs, t', hr, _, hq => by
    cases hq
    exact ⟨recs, rfl, rfl, hr⟩
  | (o, m) :: l, recs, t', hr, hk, hq => by
    rw [List.map_cons] at hq
    simp only [quietOk, Bool.and_eq_true] at hk
    cases hq with
    | @cons _ _ _ _ r d hw hu hd hsz hrest =>
      have hd' : dstB o sz = true := by unfold dstB; rw [hd]; exact hsz
      have hset : setT o.dst r (tF (fun _ => true) 0 recs t0) = upd (tF (fun _ => true) 0 recs t0) d r := by rw [hd]; rfl
      have hr' : ∀ x ∈ recs ++ [⟨o, r, [], m, readsH o (tF (fun _ => true) 0 recs t0) h0⟩], x.ups = [] := by
        intro x hx
        rcases List.mem_append.1 hx with hx | hx
        · exact hr x hx
        · cases List.mem_singleton.1 hx; rfl
      have e1 : setT o.dst r (tF (fun _ => true) 0 recs t0) = tF (fun _ => true) 0 (recs ++ [⟨o, r, [], m, readsH o (tF (fun _ => true) 0 recs t0) h0⟩]) t0 := (tF_append recs 0 ⟨o, r, [], m, readsH o (tF (fun _ => true) 0 recs t0) h0⟩ t0 rfl).symm
      have e2 : recs.map (fun x : Rec => x.o) ++ [o] = (recs ++ [(⟨o, r, [], m, readsH o (tF (fun _ => true) 0 recs t0) h0⟩ : Rec)]).map (fun x : Rec => x.o) := by rw [List.map_append]; rfl
      rw [← hset, e1] at hrest
      rw [e2] at hk
      obtain ⟨recs', k1, k2, k3⟩ := calm_go l _ t' hr' hk.2 hrest
      refine ⟨recs', ?_, k2, k3⟩
      have hp : pairsOk dp ops ⟨o, r, [], m, readsH o (tF (fun _ => true) 0 recs t0) h0⟩ 0 recs = true := chk_pairs recs 0 hk.1 (by rw [usOf_quiet recs 0 hr]; rfl) (.inl rfl)
      simp only [drawGo, hw, hF_quiet recs 0 hr, hu]
      rw [recOk_of (r := ⟨o, r, [], m, readsH o (tF (fun _ => true) 0 recs t0) h0⟩) hd' (by simp), hp]
      exact k1
    | @skip _ _ _ _ d hw hd hsz hrest =>
      have hd' : dstB o sz = true := by unfold dstB; rw [hd]; exact hsz
      have hset : setT o.dst (.tuple []) (tF (fun _ => true) 0 recs t0) = upd (tF (fun _ => true) 0 recs t0) d (.tuple []) := by rw [hd]; rfl
      have hr' : ∀ x ∈ recs ++ [(⟨o, .tuple [], [], m, []⟩ : Rec)], x.ups = [] := by
        intro x hx
        rcases List.mem_append.1 hx with hx | hx
        · exact hr x hx
        · cases List.mem_singleton.1 hx; rfl
      have e1 : setT o.dst (.tuple []) (tF (fun _ => true) 0 recs t0) = tF (fun _ => true) 0 (recs ++ [(⟨o, .tuple [], [], m, []⟩ : Rec)]) t0 := (tF_append recs 0 ⟨o, .tuple [], [], m, []⟩ t0 rfl).symm
      have e2 : recs.map (fun x : Rec => x.o) ++ [o] = (recs ++ [(⟨o, .tuple [], [], m, []⟩ : Rec)]).map (fun x : Rec => x.o) := by rw [List.map_append]; rfl
      rw [← hset, e1] at hrest
      rw [e2] at hk
      obtain ⟨recs', k1, k2, k3⟩ := calm_go l _ t' hr' hk.2 hrest
      refine ⟨recs', ?_, k2, k3⟩
      have hp : pairsOk dp ops ⟨o, .tuple [], [], m, []⟩ 0 recs = true := chk_pairs recs 0 hk.1 (by rw [usOf_quiet recs 0 hr]; rfl) (.inl rfl)
      simp only [drawGo, hw]
      rw [recOk_of (r := ⟨o, .tuple [], [], m, []⟩) hd' (by simp), hp]
      exact k1

theorem runs_calm {rd : Option (Nat × Nat)} {t : Nat → PV} {Q : Ex → St → Prop} {id : Nat} {t' : Nat → PV} (hs : (edgesOk 0 ops.toList && quietOk ops (ops.toList.zip (masks ops.toList [])) []) = true) (h : Calm C (calOf C (evW C)) dp sz ops h0 ops.toList t t') (hq : Q .normal ⟨t', h0⟩) : Runs C rd dp sz (.region id ops true) ⟨t, h0⟩ Q := by
  rw [Bool.and_eq_true] at hs
  have e : (ops.toList.zip (masks ops.toList [])).map (·.1) = ops.toList := List.map_fst_zip (by rw [masks_length]; simp)
  obtain ⟨recs', k1, k2, k3⟩ := calm_go (t0 := t) (h0 := h0) (ops.toList.zip (masks ops.toList [])) [] t' (by simp) hs.2 (by rw [e]; exact h)
  refine runs_draw (s := ⟨t', h0⟩) ?_ hq
  unfold evalDraw
  rw [if_pos hs.1]
  dsimp only
  rw [k1]
  dsimp only
  rw [k2, hF_quiet recs' 0 k3]

variable {st : St} {o : Oper}
theorem upsK_mv {x : Operand} (v : PV) (ho : o.op = .move x) (hv : opd st.t x = v) : upsOp C cal dp o st = some (v, []) := by
  unfold upsOp
  rw [ho]
  simp only [evalOp, ho, hv]
theorem upsK_as {x : Operand} (v : PV) (ho : o.op = .assign x) (hv : opd st.t x = v) : upsOp C cal dp o st = some (v, []) := by
  unfold upsOp
  rw [ho]
  simp only [evalOp, ho, hv]
theorem upsK_pT {c a b : Operand} (v : PV) (ho : o.op = .pick c a b) (hc : opd st.t c = .v (.bool true)) (hv : opd st.t a = v) : upsOp C cal dp o st = some (v, []) := by
  unfold upsOp
  rw [ho]
  simp only [evalOp, ho, hc, hv]
theorem upsK_pF {c a b : Operand} (v : PV) (ho : o.op = .pick c a b) (hc : opd st.t c = .v (.bool false)) (hv : opd st.t b = v) : upsOp C cal dp o st = some (v, []) := by
  unfold upsOp
  rw [ho]
  simp only [evalOp, ho, hc, hv]
theorem upsK_not {x : Operand} {t : TypeId} {b : Bool} (v : PV) (ho : o.op = .unOp .not t x) (hv : opd st.t x = .v (.bool b)) (he : .v (.bool !b) = v) : upsOp C cal dp o st = some (v, []) := by
  unfold upsOp
  rw [ho]
  simp only [evalOp, ho, hv, unP, he]
theorem upsK_loadA {t : TypeId} {a : Operand} {n i g : Nat} {cs : List PV} (ho : o.op = .load t a) (hag : C.isAgg t = some true ∧ C.size t = n) (ha : opd st.t a = .ptr i g 0) (hg : st.h.G i = g) (hb : st.h.H i = .var cs) (hc : cs.length = n) : upsOp C cal dp o st = some (.agg cs, []) := by
  have : loadP C st.h t (.ptr i g 0) = some (.agg cs) := by
    simp only [loadP, hag.1, hag.2, cellsAt, hg, hb, if_true, List.drop_zero]
    rw [if_pos (by omega), ← hc, List.take_length]
    rfl
  unfold upsOp
  rw [ho]
  simp only [evalOp, ho, ha, this]
theorem upsK_callP {fid : FuncId} {args : Array Operand} {ats : Array TypeId} {p : PV} (hC : C.callable fid = true ∧ C.isp fid = none ∧ C.inl fid = false) (ho : o.op = .call { callee := .value (.func fid), args := args, argTypes := ats })
    (hx : callP cal st.h (idOf dp (o.dst.getD 99999) 0) fid (args.toList.map (opd st.t)) = some (p, [])) : upsOp C cal dp o st = some (p, []) := by
  obtain ⟨h1, h2, h3⟩ := hC
  unfold upsOp
  rw [ho]
  have e : opd st.t (.func fid) = .func (.func fid) [] [] := rfl
  simp only [e, h1, h2, h3, if_true, if_false, Bool.false_eq_true, List.nil_append, List.append_nil, hx]
/-- A call that answers plain data. -/
theorem callP_plain {h : Hp} {base : Nat} {fid : FuncId} {al cargs : List PV} {p q : PV} (hr : reifyL h al = some cargs) (hres : cal fid cargs = some (p, [])) (hq : reloc base 0 h.G p = some q) (hp : resPlain (p, []) = true) : callP cal h base fid al = some (q, []) := by
  simp only [callP, hr, hres, List.length_nil, hq, hp, if_true]; rfl
theorem upsK_cal {fid : FuncId} {args : Array Operand} {ats : Array TypeId} {cargs : List PV} {p q : PV} (hC : C.callable fid = true ∧ C.isp fid = none ∧ C.inl fid = false) (ho : o.op = .call { callee := .value (.func fid), args := args, argTypes := ats })
    (hr : reifyL st.h (args.toList.map (opd st.t)) = some cargs) (hres : cal fid cargs = some (p, [])) (hq : reloc (idOf dp (o.dst.getD 99999) 0) 0 st.h.G p = some q) (hp : resPlain (p, []) = true) : upsOp C cal dp o st = some (q, []) :=
  upsK_callP hC ho (callP_plain hr hres hq hp)
end

theorem eqI {C : Ctx} {t : TypeId} {k : IntKind} {n m : Int} {v : Bool} (h : (n == m) = v) : binP C .eql t (.v (.int k n)) (.v (.int k m)) = some (.v (.bool v)) := by
  subst h
  simp [binP, intArith]
theorem toList_beq (s u : ByteArray) : (s.toList == u.toList) = (s == u) := (beq_toListBytes s u).symm
theorem eqS {C : Ctx} {t : TypeId} {s u : ByteArray} {v : Bool} (h : (s == u) = v) : binP C .eql t (.v (.string s)) (.v (.string u)) = some (.v (.bool v)) := by
  subst h
  simp [binP, strOp, toList_beq]
theorem eqBv {C : Ctx} {t : TypeId} (ht : C.ty t = .bool) {a b : Bool} {v : Bool} (h : (a == b) = v) : binP C .eql t (.v (.bool a)) (.v (.bool b)) = some (.v (.bool v)) := by
  subst h
  simp [binP, ht]
theorem neN {C : Ctx} {n m : Nat} {v : Bool} (h : (!decide (n = m)) = v) : binP C .neq 3 (.v (.int .i64 (.ofNat n))) (.v (.int .i64 (.ofNat m))) = some (.v (.bool v)) := by
  subst h
  simp only [binP, intArith, if_true, Option.map_some]
  congr 3
  rw [Bool.eq_iff_iff]
  simp
  omega
theorem lsN {C : Ctx} {i n : Nat} : binP C .lss 3 (.v (.int .i64 (i : Int))) (.v (.int .i64 (.ofNat n))) = some (.v (.bool (decide (i < n)))) := by
  simp only [binP, intArith, if_true, Option.map_some]
  congr 3
  rw [Bool.eq_iff_iff]
  simp
theorem res_cell1 {C : Ctx} {s : St} {a ty n i g : Nat} {cs : List PV} (hag : C.isAgg ty = some true ∧ C.size ty = n) (ha : s.t a = .ptr i g 0) (hg : s.h.G i = g) (hb : s.h.H i = .var cs) (hc : cs.length = n) : resultsP C s [.cell a ty] = some [.agg cs] := by
  have : loadP C s.h ty (.ptr i g 0) = some (.agg cs) := by
    simp only [loadP, hag.1, hag.2, cellsAt, hg, hb, if_true, List.drop_zero]
    rw [if_pos (by omega), ← hc, List.take_length]
    rfl
  simp only [resultsP, ha, this]

theorem f14 : Tryz.prog.funcs[14]? = some Tryz.f14 := by kernel_rfl
theorem equal14 {eq sp il bl' is} {ok : PV → Bool} (hok : ∀ x, ok x = true → ElemOk (ctxOf Tryz.prog eq sp il bl' is) 9 false x) {args : List PV} {res : Res} (h : lstP (nqOf (ctxOf Tryz.prog eq sp il bl' is) 9) ok args = some res) : evalPure (ctxOf Tryz.prog eq sp il bl' is) (evW (ctxOf Tryz.prog eq sp il bl' is)) 14 args = some res := by
  have hty : (ctxOf Tryz.prog eq sp il bl' is).ty 23 = .slice 9 := sl23
  have hag : (ctxOf Tryz.prog eq sp il bl' is).isAgg 9 = some false := by kernel_rfl
  unfold lstP at h
  split at h <;> try (cases h; done)
  rename_i xs ys
  split at h <;> try (cases h; done)
  rename_i hc
  simp only [Bool.and_eq_true, decide_eq_true_eq, List.all_eq_true] at hc
  obtain ⟨⟨⟨hxs, hys⟩, hxl⟩, hyl⟩ := hc
  refine pure_of_runs (fn := Tryz.f14) f14 rfl ?_
  refine runs_seq (runs_region (by rfl) ?_)
  refine runs_seq (runs_seq (runs_region (opsK rfl rfl rfl (opsK rfl rfl rfl (opsK rfl rfl rfl (opsK rfl rfl rfl (opsK rfl (stepK_bin rfl (neN rfl)) rfl rfl))))) (runs_cond (v := !decide (xs.length = ys.length)) (by rfl) (fun h1 => ?_) (fun h1 => runs_skip ?_))))
  · have hne : xs.length ≠ ys.length := by simpa using h1
    rw [if_neg hne] at h
    cases h
    refine runs_seq (runs_region (by rfl) (runs_ret ?_))
    exact ⟨by simp, _, _, _, rfl, rfl, rfl⟩
  · have hlen : xs.length = ys.length := by simpa using h1
    rw [if_pos hlen] at h
    split at h <;> try (cases h; done)
    rename_i b hb
    cases h
    refine runs_seq (runs_seq (runs_region (by rfl) (runs_block ?_)))
    refine runs_loopS (fun i : Nat => xs.length - i) (fun i => [(0, .lst xs), (1, .lst ys), (12, .v (.int .i64 (.ofNat xs.length))), (13, .v (.int .i64 (i : Int)))])
      (fun i h => i ≤ xs.length ∧ eqLst (nqOf (ctxOf Tryz.prog eq sp il bl' is) 9) (xs.drop i) (ys.drop i) = some b) ?_ 0 _ ⟨rfl, rfl, rfl, rfl, trivial⟩ ⟨by omega, hb⟩
    rintro i t h ⟨hle, hi⟩
    refine runs_seq (runs_region (opsK rfl (stepK_bin rfl (lsN (i := i))) rfl rfl) ?_)
    refine runs_seq (runs_cond (v := decide (i < xs.length)) (by rfl) (fun hv => runs_skip ?_) (fun hv => runs_exit ?_))
    · have hlt : i < xs.length := by simpa using hv
      have hlt' : i < ys.length := by omega
      rw [List.drop_eq_getElem_cons hlt, List.drop_eq_getElem_cons hlt'] at hi
      simp only [eqLst] at hi
      obtain ⟨ex1, ex2⟩ := hok _ (hxs _ (List.getElem_mem hlt))
      obtain ⟨ey1, ey2⟩ := hok _ (hys _ (List.getElem_mem hlt'))
      have gx : xs[((i : Nat) : Int).toNat]? = some xs[i] := by rw [Int.toNat_natCast]; exact List.getElem?_eq_getElem hlt
      have gy : ys[((i : Nat) : Int).toNat]? = some ys[i] := by rw [Int.toNat_natCast]; exact List.getElem?_eq_getElem hlt'
      cases hn : nqOf (ctxOf Tryz.prog eq sp il bl' is) 9 xs[i] ys[i] with
      | none => rw [hn] at hi; cases hi
      | some c =>
        rw [hn] at hi
        have hbin := nqOf_some hn
        refine runs_seq (runs_block (runs_seq (runs_region (by rfl) ?_)))
        refine runs_seq (runs_quiet (by kernel_rfl) (.cons rfl rfl rfl (.cons rfl rfl rfl (.cons rfl (upsK_index rfl rfl rfl hty hag (by omega) gx ex1) rfl (.cons rfl (upsK_load rfl rfl hag ex1 ex2) rfl
          (.cons rfl rfl rfl (.cons rfl rfl rfl (.cons rfl (upsK_index rfl rfl rfl hty hag (by omega) gy ey1) rfl (.cons rfl (upsK_load rfl rfl hag ey1 ey2) rfl (.cons rfl (upsK_bin rfl hbin) rfl .nil))))))))) ?_)
        refine runs_cond (v := c) (by rfl) (fun h1 => ?_) (fun h2 => runs_skip ?_)
        · subst h1
          cases hi
          refine runs_seq (runs_region (by rfl) (runs_ret ?_))
          exact ⟨by simp, _, _, _, rfl, rfl, rfl⟩
        · subst h2
          refine runs_region (opsK rfl (stepK_bin rfl (add_one i (by omega))) rfl (opsK rfl rfl rfl rfl)) ?_
          exact ⟨i + 1, by omega, ⟨rfl, rfl, rfl, rfl, trivial⟩, by omega, hi⟩
    · have hge : xs.length ≤ i := by simpa using hv
      have hbt : b = true := by
        rw [List.drop_of_length_le hge] at hi
        cases hi; rfl
      subst hbt
      refine runs_seq (runs_region (by rfl) (runs_ret ?_))
      exact ⟨by simp, _, _, _, rfl, rfl, rfl⟩

theorem f15 : Tryz.prog.funcs[15]? = some Tryz.f15 := by kernel_rfl
theorem equal15 {eq sp il bl' is} {ok : PV → Bool} (hok : ∀ x, ok x = true → ElemOk (ctxOf Tryz.prog eq sp il bl' is) 44 true x) {args : List PV} {res : Res} (h : lstP (nqOf (ctxOf Tryz.prog eq sp il bl' is) 44) ok args = some res) : evalPure (ctxOf Tryz.prog eq sp il bl' is) (evW (ctxOf Tryz.prog eq sp il bl' is)) 15 args = some res := by
  have hty : (ctxOf Tryz.prog eq sp il bl' is).ty 24 = .slice 44 := sl24
  have hag : (ctxOf Tryz.prog eq sp il bl' is).isAgg 44 = some true := by kernel_rfl
  unfold lstP at h
  split at h <;> try (cases h; done)
  rename_i xs ys
  split at h <;> try (cases h; done)
  rename_i hc
  simp only [Bool.and_eq_true, decide_eq_true_eq, List.all_eq_true] at hc
  obtain ⟨⟨⟨hxs, hys⟩, hxl⟩, hyl⟩ := hc
  refine pure_of_runs (fn := Tryz.f15) f15 rfl ?_
  refine runs_seq (runs_region (by rfl) ?_)
  refine runs_seq (runs_seq (runs_region (opsK rfl rfl rfl (opsK rfl rfl rfl (opsK rfl rfl rfl (opsK rfl rfl rfl (opsK rfl (stepK_bin rfl (neN rfl)) rfl rfl))))) (runs_cond (v := !decide (xs.length = ys.length)) (by rfl) (fun h1 => ?_) (fun h1 => runs_skip ?_))))
  · have hne : xs.length ≠ ys.length := by simpa using h1
    rw [if_neg hne] at h
    cases h
    refine runs_seq (runs_region (by rfl) (runs_ret ?_))
    exact ⟨by simp, _, _, _, rfl, rfl, rfl⟩
  · have hlen : xs.length = ys.length := by simpa using h1
    rw [if_pos hlen] at h
    split at h <;> try (cases h; done)
    rename_i b hb
    cases h
    refine runs_seq (runs_seq (runs_region (by rfl) (runs_block ?_)))
    refine runs_loopS (fun i : Nat => xs.length - i) (fun i => [(0, .lst xs), (1, .lst ys), (12, .v (.int .i64 (.ofNat xs.length))), (13, .v (.int .i64 (i : Int)))])
      (fun i h => i ≤ xs.length ∧ eqLst (nqOf (ctxOf Tryz.prog eq sp il bl' is) 44) (xs.drop i) (ys.drop i) = some b) ?_ 0 _ ⟨rfl, rfl, rfl, rfl, trivial⟩ ⟨by omega, hb⟩
    rintro i t h ⟨hle, hi⟩
    refine runs_seq (runs_region (opsK rfl (stepK_bin rfl (lsN (i := i))) rfl rfl) ?_)
    refine runs_seq (runs_cond (v := decide (i < xs.length)) (by rfl) (fun hv => runs_skip ?_) (fun hv => runs_exit ?_))
    · have hlt : i < xs.length := by simpa using hv
      have hlt' : i < ys.length := by omega
      rw [List.drop_eq_getElem_cons hlt, List.drop_eq_getElem_cons hlt'] at hi
      simp only [eqLst] at hi
      obtain ⟨ex1, ex2⟩ := hok _ (hxs _ (List.getElem_mem hlt))
      obtain ⟨ey1, ey2⟩ := hok _ (hys _ (List.getElem_mem hlt'))
      have gx : xs[((i : Nat) : Int).toNat]? = some xs[i] := by rw [Int.toNat_natCast]; exact List.getElem?_eq_getElem hlt
      have gy : ys[((i : Nat) : Int).toNat]? = some ys[i] := by rw [Int.toNat_natCast]; exact List.getElem?_eq_getElem hlt'
      cases hn : nqOf (ctxOf Tryz.prog eq sp il bl' is) 44 xs[i] ys[i] with
      | none => rw [hn] at hi; cases hi
      | some c =>
        rw [hn] at hi
        have hbin := nqOf_some hn
        refine runs_seq (runs_block (runs_seq (runs_region (by rfl) ?_)))
        refine runs_seq (runs_quiet (by kernel_rfl) (.cons rfl rfl rfl (.cons rfl rfl rfl (.cons rfl (upsK_index rfl rfl rfl hty hag (by omega) gx ex1) rfl (.cons rfl (upsK_load rfl rfl hag ex1 ex2) rfl
          (.cons rfl rfl rfl (.cons rfl rfl rfl (.cons rfl (upsK_index rfl rfl rfl hty hag (by omega) gy ey1) rfl (.cons rfl (upsK_load rfl rfl hag ey1 ey2) rfl (.cons rfl (upsK_bin rfl hbin) rfl .nil))))))))) ?_)
        refine runs_cond (v := c) (by rfl) (fun h1 => ?_) (fun h2 => runs_skip ?_)
        · subst h1
          cases hi
          refine runs_seq (runs_region (by rfl) (runs_ret ?_))
          exact ⟨by simp, _, _, _, rfl, rfl, rfl⟩
        · subst h2
          refine runs_region (opsK rfl (stepK_bin rfl (add_one i (by omega))) rfl (opsK rfl rfl rfl rfl)) ?_
          exact ⟨i + 1, by omega, ⟨rfl, rfl, rfl, rfl, trivial⟩, by omega, hi⟩
    · have hge : xs.length ≤ i := by simpa using hv
      have hbt : b = true := by
        rw [List.drop_of_length_le hge] at hi
        cases hi; rfl
      subst hbt
      refine runs_seq (runs_region (by rfl) (runs_ret ?_))
      exact ⟨by simp, _, _, _, rfl, rfl, rfl⟩

theorem f16 : Tryz.prog.funcs[16]? = some Tryz.f16 := by kernel_rfl
theorem equal16 {eq sp il bl' is} {ok : PV → Bool} (hok : ∀ x, ok x = true → ElemOk (ctxOf Tryz.prog eq sp il bl' is) 46 true x) {args : List PV} {res : Res} (h : lstP (nqOf (ctxOf Tryz.prog eq sp il bl' is) 46) ok args = some res) : evalPure (ctxOf Tryz.prog eq sp il bl' is) (evW (ctxOf Tryz.prog eq sp il bl' is)) 16 args = some res := by
  have hty : (ctxOf Tryz.prog eq sp il bl' is).ty 25 = .slice 46 := sl25
  have hag : (ctxOf Tryz.prog eq sp il bl' is).isAgg 46 = some true := by kernel_rfl
  unfold lstP at h
  split at h <;> try (cases h; done)
  rename_i xs ys
  split at h <;> try (cases h; done)
  rename_i hc
  simp only [Bool.and_eq_true, decide_eq_true_eq, List.all_eq_true] at hc
  obtain ⟨⟨⟨hxs, hys⟩, hxl⟩, hyl⟩ := hc
  refine pure_of_runs (fn := Tryz.f16) f16 rfl ?_
  refine runs_seq (runs_region (by rfl) ?_)
  refine runs_seq (runs_seq (runs_region (opsK rfl rfl rfl (opsK rfl rfl rfl (opsK rfl rfl rfl (opsK rfl rfl rfl (opsK rfl (stepK_bin rfl (neN rfl)) rfl rfl))))) (runs_cond (v := !decide (xs.length = ys.length)) (by rfl) (fun h1 => ?_) (fun h1 => runs_skip ?_))))
  · have hne : xs.length ≠ ys.length := by simpa using h1
    rw [if_neg hne] at h
    cases h
    refine runs_seq (runs_region (by rfl) (runs_ret ?_))
    exact ⟨by simp, _, _, _, rfl, rfl, rfl⟩
  · have hlen : xs.length = ys.length := by simpa using h1
    rw [if_pos hlen] at h
    split at h <;> try (cases h; done)
    rename_i b hb
    cases h
    refine runs_seq (runs_seq (runs_region (by rfl) (runs_block ?_)))
    refine runs_loopS (fun i : Nat => xs.length - i) (fun i => [(0, .lst xs), (1, .lst ys), (12, .v (.int .i64 (.ofNat xs.length))), (13, .v (.int .i64 (i : Int)))])
      (fun i h => i ≤ xs.length ∧ eqLst (nqOf (ctxOf Tryz.prog eq sp il bl' is) 46) (xs.drop i) (ys.drop i) = some b) ?_ 0 _ ⟨rfl, rfl, rfl, rfl, trivial⟩ ⟨by omega, hb⟩
    rintro i t h ⟨hle, hi⟩
    refine runs_seq (runs_region (opsK rfl (stepK_bin rfl (lsN (i := i))) rfl rfl) ?_)
    refine runs_seq (runs_cond (v := decide (i < xs.length)) (by rfl) (fun hv => runs_skip ?_) (fun hv => runs_exit ?_))
    · have hlt : i < xs.length := by simpa using hv
      have hlt' : i < ys.length := by omega
      rw [List.drop_eq_getElem_cons hlt, List.drop_eq_getElem_cons hlt'] at hi
      simp only [eqLst] at hi
      obtain ⟨ex1, ex2⟩ := hok _ (hxs _ (List.getElem_mem hlt))
      obtain ⟨ey1, ey2⟩ := hok _ (hys _ (List.getElem_mem hlt'))
      have gx : xs[((i : Nat) : Int).toNat]? = some xs[i] := by rw [Int.toNat_natCast]; exact List.getElem?_eq_getElem hlt
      have gy : ys[((i : Nat) : Int).toNat]? = some ys[i] := by rw [Int.toNat_natCast]; exact List.getElem?_eq_getElem hlt'
      cases hn : nqOf (ctxOf Tryz.prog eq sp il bl' is) 46 xs[i] ys[i] with
      | none => rw [hn] at hi; cases hi
      | some c =>
        rw [hn] at hi
        have hbin := nqOf_some hn
        refine runs_seq (runs_block (runs_seq (runs_region (by rfl) ?_)))
        refine runs_seq (runs_quiet (by kernel_rfl) (.cons rfl rfl rfl (.cons rfl rfl rfl (.cons rfl (upsK_index rfl rfl rfl hty hag (by omega) gx ex1) rfl (.cons rfl (upsK_load rfl rfl hag ex1 ex2) rfl
          (.cons rfl rfl rfl (.cons rfl rfl rfl (.cons rfl (upsK_index rfl rfl rfl hty hag (by omega) gy ey1) rfl (.cons rfl (upsK_load rfl rfl hag ey1 ey2) rfl (.cons rfl (upsK_bin rfl hbin) rfl .nil))))))))) ?_)
        refine runs_cond (v := c) (by rfl) (fun h1 => ?_) (fun h2 => runs_skip ?_)
        · subst h1
          cases hi
          refine runs_seq (runs_region (by rfl) (runs_ret ?_))
          exact ⟨by simp, _, _, _, rfl, rfl, rfl⟩
        · subst h2
          refine runs_region (opsK rfl (stepK_bin rfl (add_one i (by omega))) rfl (opsK rfl rfl rfl rfl)) ?_
          exact ⟨i + 1, by omega, ⟨rfl, rfl, rfl, rfl, trivial⟩, by omega, hi⟩
    · have hge : xs.length ≤ i := by simpa using hv
      have hbt : b = true := by
        rw [List.drop_of_length_le hge] at hi
        cases hi; rfl
      subst hbt
      refine runs_seq (runs_region (by rfl) (runs_ret ?_))
      exact ⟨by simp, _, _, _, rfl, rfl, rfl⟩

theorem f17 : Tryz.prog.funcs[17]? = some Tryz.f17 := by kernel_rfl
theorem equal17 {eq sp il bl' is} {ok : PV → Bool} (hok : ∀ x, ok x = true → ElemOk (ctxOf Tryz.prog eq sp il bl' is) 48 true x) {args : List PV} {res : Res} (h : lstP (nqOf (ctxOf Tryz.prog eq sp il bl' is) 48) ok args = some res) : evalPure (ctxOf Tryz.prog eq sp il bl' is) (evW (ctxOf Tryz.prog eq sp il bl' is)) 17 args = some res := by
  have hty : (ctxOf Tryz.prog eq sp il bl' is).ty 26 = .slice 48 := sl26
  have hag : (ctxOf Tryz.prog eq sp il bl' is).isAgg 48 = some true := by kernel_rfl
  unfold lstP at h
  split at h <;> try (cases h; done)
  rename_i xs ys
  split at h <;> try (cases h; done)
  rename_i hc
  simp only [Bool.and_eq_true, decide_eq_true_eq, List.all_eq_true] at hc
  obtain ⟨⟨⟨hxs, hys⟩, hxl⟩, hyl⟩ := hc
  refine pure_of_runs (fn := Tryz.f17) f17 rfl ?_
  refine runs_seq (runs_region (by rfl) ?_)
  refine runs_seq (runs_seq (runs_region (opsK rfl rfl rfl (opsK rfl rfl rfl (opsK rfl rfl rfl (opsK rfl rfl rfl (opsK rfl (stepK_bin rfl (neN rfl)) rfl rfl))))) (runs_cond (v := !decide (xs.length = ys.length)) (by rfl) (fun h1 => ?_) (fun h1 => runs_skip ?_))))
  · have hne : xs.length ≠ ys.length := by simpa using h1
    rw [if_neg hne] at h
    cases h
    refine runs_seq (runs_region (by rfl) (runs_ret ?_))
    exact ⟨by simp, _, _, _, rfl, rfl, rfl⟩
  · have hlen : xs.length = ys.length := by simpa using h1
    rw [if_pos hlen] at h
    split at h <;> try (cases h; done)
    rename_i b hb
    cases h
    refine runs_seq (runs_seq (runs_region (by rfl) (runs_block ?_)))
    refine runs_loopS (fun i : Nat => xs.length - i) (fun i => [(0, .lst xs), (1, .lst ys), (12, .v (.int .i64 (.ofNat xs.length))), (13, .v (.int .i64 (i : Int)))])
      (fun i h => i ≤ xs.length ∧ eqLst (nqOf (ctxOf Tryz.prog eq sp il bl' is) 48) (xs.drop i) (ys.drop i) = some b) ?_ 0 _ ⟨rfl, rfl, rfl, rfl, trivial⟩ ⟨by omega, hb⟩
    rintro i t h ⟨hle, hi⟩
    refine runs_seq (runs_region (opsK rfl (stepK_bin rfl (lsN (i := i))) rfl rfl) ?_)
    refine runs_seq (runs_cond (v := decide (i < xs.length)) (by rfl) (fun hv => runs_skip ?_) (fun hv => runs_exit ?_))
    · have hlt : i < xs.length := by simpa using hv
      have hlt' : i < ys.length := by omega
      rw [List.drop_eq_getElem_cons hlt, List.drop_eq_getElem_cons hlt'] at hi
      simp only [eqLst] at hi
      obtain ⟨ex1, ex2⟩ := hok _ (hxs _ (List.getElem_mem hlt))
      obtain ⟨ey1, ey2⟩ := hok _ (hys _ (List.getElem_mem hlt'))
      have gx : xs[((i : Nat) : Int).toNat]? = some xs[i] := by rw [Int.toNat_natCast]; exact List.getElem?_eq_getElem hlt
      have gy : ys[((i : Nat) : Int).toNat]? = some ys[i] := by rw [Int.toNat_natCast]; exact List.getElem?_eq_getElem hlt'
      cases hn : nqOf (ctxOf Tryz.prog eq sp il bl' is) 48 xs[i] ys[i] with
      | none => rw [hn] at hi; cases hi
      | some c =>
        rw [hn] at hi
        have hbin := nqOf_some hn
        refine runs_seq (runs_block (runs_seq (runs_region (by rfl) ?_)))
        refine runs_seq (runs_quiet (by kernel_rfl) (.cons rfl rfl rfl (.cons rfl rfl rfl (.cons rfl (upsK_index rfl rfl rfl hty hag (by omega) gx ex1) rfl (.cons rfl (upsK_load rfl rfl hag ex1 ex2) rfl
          (.cons rfl rfl rfl (.cons rfl rfl rfl (.cons rfl (upsK_index rfl rfl rfl hty hag (by omega) gy ey1) rfl (.cons rfl (upsK_load rfl rfl hag ey1 ey2) rfl (.cons rfl (upsK_bin rfl hbin) rfl .nil))))))))) ?_)
        refine runs_cond (v := c) (by rfl) (fun h1 => ?_) (fun h2 => runs_skip ?_)
        · subst h1
          cases hi
          refine runs_seq (runs_region (by rfl) (runs_ret ?_))
          exact ⟨by simp, _, _, _, rfl, rfl, rfl⟩
        · subst h2
          refine runs_region (opsK rfl (stepK_bin rfl (add_one i (by omega))) rfl (opsK rfl rfl rfl rfl)) ?_
          exact ⟨i + 1, by omega, ⟨rfl, rfl, rfl, rfl, trivial⟩, by omega, hi⟩
    · have hge : xs.length ≤ i := by simpa using hv
      have hbt : b = true := by
        rw [List.drop_of_length_le hge] at hi
        cases hi; rfl
      subst hbt
      refine runs_seq (runs_region (by rfl) (runs_ret ?_))
      exact ⟨by simp, _, _, _, rfl, rfl, rfl⟩
end Go.Ev
end
