/- A part of the proof: HbLs HbSm HbFd. No conditions. -/
import Derived.Test.YtpafjgeiihgcoaaGreatDoorSpec

section
/- Regions that draw and change nothing; the comparisons of two lists. -/
set_option linter.unusedVariables false
set_option linter.unusedSimpArgs false
set_option maxRecDepth 4000
namespace Go.Ev
open Go Go.Proofs

section
variable {C : Ctx} {cal : Cal} {dp sz : Nat} {ops : Array Oper} {h0 : Hp}

/-- A region none of whose operations changes a block, in the text's order. -/
inductive Quiet (C : Ctx) (cal : Cal) (dp sz : Nat) (ops : Array Oper) (h0 : Hp) : List Oper → (Nat → PV) → (Nat → PV) → Prop
  | nil {t : Nat → PV} : Quiet C cal dp sz ops h0 [] t t
  | cons {o : Oper} {os : List Oper} {t t' : Nat → PV} {r : PV} : wantedP ops o t = some true → upsOp C cal dp o ⟨t, restr (readsH o t h0) h0⟩ = some (r, []) → dstB o sz = true → Quiet C cal dp sz ops h0 os (setT o.dst r t) t' → Quiet C cal dp sz ops h0 (o :: os) t t'

noncomputable def quietOk (ops : Array Oper) : List (Oper × Nat) → List Oper → Bool
  | [], _ => true
  | (o, m) :: l, prev => apartL ops o m prev 0 && quietOk ops l (prev ++ [o])

theorem hF_quiet {sel : Nat → Bool} {h : Hp} : ∀ (recs : List Rec) (k : Nat), (∀ r ∈ recs, r.ups = []) → hF sel k recs h = h
  | [], k, _ => rfl
  | r :: rs, k, hq => by
    simp only [hF]
    have : (if sel k = true then h.app r.ups else h) = h := by rw [hq r (List.mem_cons_self ..)]; split <;> rfl
    rw [this]
    exact hF_quiet rs (k + 1) (fun x hx => hq x (List.mem_cons_of_mem _ hx))
theorem usOf_quiet : ∀ (recs : List Rec) (k : Nat), (∀ r ∈ recs, r.ups = []) → usOf k recs = []
  | [], k, _ => rfl
  | r :: rs, k, hq => by
    simp only [usOf]
    rw [hq r (List.mem_cons_self ..)]
    exact usOf_quiet rs (k + 1) (fun x hx => hq x (List.mem_cons_of_mem _ hx))

theorem quiet_go {t0 : Nat → PV} : ∀ (l : List (Oper × Nat)) (recs : List Rec) (t' : Nat → PV), (∀ r ∈ recs, r.ups = []) → quietOk ops l (recs.map (·.o)) = true → Quiet C cal dp sz ops h0 (l.map (·.1)) (tF (fun _ => true) 0 recs t0) t' →
    ∃ recs', drawGo C cal dp sz ops t0 h0 l recs = some recs' ∧ tF (fun _ => true) 0 recs' t0 = t' ∧ ∀ r ∈ recs', r.ups = []
  | [], recs, t', hr, _, hq => by
    cases hq
    exact ⟨recs, rfl, rfl, hr⟩
  | (o, m) :: l, recs, t', hr, hk, hq => by
    rw [List.map_cons] at hq
    simp only [quietOk, Bool.and_eq_true] at hk
    cases hq with
    | @cons _ _ _ _ r hw hu hd hrest =>
    have hr' : ∀ x ∈ recs ++ [⟨o, r, [], m, readsH o (tF (fun _ => true) 0 recs t0) h0⟩], x.ups = [] := by
      intro x hx
      rcases List.mem_append.1 hx with hx | hx
      · exact hr x hx
      · cases List.mem_singleton.1 hx; rfl
    have e1 : setT o.dst r (tF (fun _ => true) 0 recs t0) = tF (fun _ => true) 0 (recs ++ [⟨o, r, [], m, readsH o (tF (fun _ => true) 0 recs t0) h0⟩]) t0 := (tF_append recs 0 ⟨o, r, [], m, readsH o (tF (fun _ => true) 0 recs t0) h0⟩ t0 rfl).symm
    have e2 : recs.map (fun x : Rec => x.o) ++ [o] = (recs ++ [(⟨o, r, [], m, readsH o (tF (fun _ => true) 0 recs t0) h0⟩ : Rec)]).map (fun x : Rec => x.o) := by rw [List.map_append]; rfl
    rw [e1] at hrest
    rw [e2] at hk
    obtain ⟨recs', k1, k2, k3⟩ := quiet_go l _ t' hr' hk.2 hrest
    refine ⟨recs', ?_, k2, k3⟩
    have hp : pairsOk dp ops ⟨o, r, [], m, readsH o (tF (fun _ => true) 0 recs t0) h0⟩ 0 recs = true := chk_pairs recs 0 hk.1 (by rw [usOf_quiet recs 0 hr]; rfl) (.inl rfl)
    simp only [drawGo, hw, hF_quiet recs 0 hr, hu]
    rw [recOk_of (r := ⟨o, r, [], m, readsH o (tF (fun _ => true) 0 recs t0) h0⟩) hd (by simp), hp]
    exact k1

theorem masks_length : ∀ (l : List Oper) (d : List Nat), (masks l d).length = d.length + l.length
  | [], d => rfl
  | o :: os, d => by simp only [masks]; rw [masks_length os]; simp; omega

theorem runs_quiet {rd : Option (Nat × Nat)} {st : St} {Q : Ex → St → Prop} {id : Nat} {t' : Nat → PV} (hs : (edgesOk 0 ops.toList && quietOk ops (ops.toList.zip (masks ops.toList [])) []) = true) (h : Quiet C (calOf C (evW C)) dp sz ops st.h ops.toList st.t t') (hq : Q .normal ⟨t', st.h⟩) : Runs C rd dp sz (.region id ops true) st Q := by
  rw [Bool.and_eq_true] at hs
  have e : (ops.toList.zip (masks ops.toList [])).map (·.1) = ops.toList := List.map_fst_zip (by rw [masks_length]; simp)
  obtain ⟨recs', k1, k2, k3⟩ := quiet_go (t0 := st.t) (h0 := st.h) (ops.toList.zip (masks ops.toList [])) [] t' (by simp) hs.2 (by rw [e]; exact h)
  refine runs_draw (s := ⟨t', st.h⟩) ?_ hq
  unfold evalDraw
  rw [if_pos hs.1, k1]
  dsimp only
  rw [k2, hF_quiet recs' 0 k3]

variable {st : St} {o : Oper}
theorem upsK_index {t e : TypeId} {x ix : Operand} {es : List PV} {k : IntKind} {i : Int} {y : PV} {b : Bool} (ho : o.op = .indexAddr t x ix) (hx : opd st.t x = .lst es) (hi : opd st.t ix = .v (.int k i)) (hty : C.ty t = .slice e) (hag : C.isAgg e = some b)
    (h0 : 0 ≤ i) (hy : es[i.toNat]? = some y) (hsz : y.cells.length = C.size e) : upsOp C cal dp o st = some (.lptr y.cells, []) := by
  have : indexAddrP C st.h t (opd st.t x) (opd st.t ix) = some (.lptr y.cells) := by
    rw [hx, hi]; simp only [indexAddrP, intP, hty, hag]; rw [if_pos h0, hy]; dsimp only; rw [if_pos hsz]
  unfold upsOp
  rw [ho]
  simp only [evalOp, ho, this]
theorem upsK_load {t : TypeId} {a : Operand} {cs : List PV} {b : Bool} {x : PV} (ho : o.op = .load t a) (hx : opd st.t a = .lptr cs) (hag : C.isAgg t = some b) (hsz : cs.length = C.size t) (hm : mkVal b cs = some x) : upsOp C cal dp o st = some (x, []) := by
  have : loadP C st.h t (opd st.t a) = some x := by
    rw [hx]; simp only [loadP, hag, cellsAt]; rw [if_pos (by omega), ← hsz, List.take_length]; exact hm
  unfold upsOp
  rw [ho]
  simp only [evalOp, ho, this]
theorem upsK_bin {op : BinOp} {t yt : TypeId} {x y : Operand} {r : PV} (ho : o.op = .binOp op t x y yt) (h : binP C op t (opd st.t x) (opd st.t y) = some r) : upsOp C cal dp o st = some (r, []) := by
  unfold upsOp
  rw [ho]
  simp only [evalOp, ho, h]
end

/-- An element of such a type. -/
def ElemOk (C : Ctx) (T : TypeId) (b : Bool) (x : PV) : Prop := x.cells.length = C.size T ∧ mkVal b x.cells = some x

def eqLst (nq : PV → PV → Option Bool) : List PV → List PV → Option Bool
  | x :: xs, y :: ys => match nq x y with
    | some true => some false
    | some false => eqLst nq xs ys
    | none => none
  | _, _ => some true

/-- Are two lists unlike somewhere? -/
def lstP (nq : PV → PV → Option Bool) (ok : PV → Bool) : List PV → Option Res
  | [.lst xs, .lst ys] =>
    if xs.all ok && ys.all ok && decide (xs.length < 9223372036854775808) && decide (ys.length < 9223372036854775808) then
      if xs.length = ys.length then
        match eqLst nq xs ys with
        | some b => some (.v (.bool b), [])
        | none => none
      else some (.v (.bool false), [])
    else none
  | _ => none

def okStr : PV → Bool
  | .v (.string _) => true
  | _ => false
def okAgg (n : Nat) : PV → Bool
  | .agg cs => cs.length == n
  | _ => false

def nqOf (C : Ctx) (T : TypeId) (x y : PV) : Option Bool := match binP C .neq T x y with
  | some (.v (.bool b)) => some b
  | _ => none
theorem nqOf_some {C : Ctx} {T : TypeId} {x y : PV} {b : Bool} (h : nqOf C T x y = some b) : binP C .neq T x y = some (.v (.bool b)) := by
  unfold nqOf at h
  split at h
  · rename_i c hc; cases h; exact hc
  · cases h

theorem f18 : Tryz.prog.funcs[18]? = some Tryz.f18 := by kernel_rfl
theorem sl23 : tyOf Tryz.prog 23 = .slice 9 := by kernel_rfl

theorem lst18_pure {eq sp il bl' is} {ok : PV → Bool} (hok : ∀ x, ok x = true → ElemOk (ctxOf Tryz.prog eq sp il bl' is) 9 false x) {args : List PV} {res : Res} (h : lstP (nqOf (ctxOf Tryz.prog eq sp il bl' is) 9) ok args = some res) : evalPure (ctxOf Tryz.prog eq sp il bl' is) (evW (ctxOf Tryz.prog eq sp il bl' is)) 18 args = some res := by
  have hty : (ctxOf Tryz.prog eq sp il bl' is).ty 23 = .slice 9 := sl23
  have hag : (ctxOf Tryz.prog eq sp il bl' is).isAgg 9 = some false := by kernel_rfl
  unfold lstP at h
  split at h <;> try (cases h; done)
  rename_i xs ys
  split at h <;> try (cases h; done)
  rename_i hc
  simp only [Bool.and_eq_true, decide_eq_true_eq, List.all_eq_true] at hc
  obtain ⟨⟨⟨hxs, hys⟩, hxl⟩, hyl⟩ := hc
  refine pure_of_runs (fn := Tryz.f18) f18 rfl ?_
  refine runs_seq (runs_region (by rfl) ?_)
  have hneq : binP (ctxOf Tryz.prog eq sp il bl' is) .neq 3 (.v (.int .i64 (.ofNat xs.length))) (.v (.int .i64 (.ofNat ys.length))) = some (.v (.bool (!decide (xs.length = ys.length)))) := by
    simp only [binP, intArith, if_true, Option.map_some]
    congr 3
    rw [Bool.eq_iff_iff]
    simp
    omega
  refine runs_seq (runs_seq (runs_region (opsK rfl rfl rfl (opsK rfl rfl rfl (opsK rfl rfl rfl (opsK rfl rfl rfl (opsK rfl (stepK_bin rfl hneq) rfl rfl))))) (runs_cond (v := !decide (xs.length = ys.length)) (by rfl) (fun h1 => ?_) (fun h1 => runs_skip ?_))))
  · have hne : xs.length ≠ ys.length := by simpa using h1
    rw [if_neg hne] at h
    cases h
    refine runs_seq (runs_region (by rfl) (runs_ret ?_))
    exact ⟨by simp, _, _, _, rfl, rfl, rfl⟩
  · have hlen : xs.length = ys.length := by simpa using h1
    rw [if_pos hlen] at h
    split at h <;> try (cases h; done)
    rename_i b hb
    cases h
    refine runs_seq (runs_seq (runs_region (by rfl) (runs_block ?_)))
    refine runs_loopS (fun i : Nat => xs.length - i) (fun i => [(0, .lst xs), (1, .lst ys), (5, .v (.int .i64 (i : Int)))])
      (fun i h => i ≤ xs.length ∧ eqLst (nqOf (ctxOf Tryz.prog eq sp il bl' is) 9) (xs.drop i) (ys.drop i) = some b) ?_ 0 _ ⟨rfl, rfl, rfl, trivial⟩ ⟨by omega, hb⟩
    rintro i t h ⟨hle, hi⟩
    have hlss : binP (ctxOf Tryz.prog eq sp il bl' is) .lss 3 (.v (.int .i64 (i : Int))) (.v (.int .i64 (.ofNat xs.length))) = some (.v (.bool (decide (i < xs.length)))) := by
      simp only [binP, intArith, if_true, Option.map_some]
      congr 3
      rw [Bool.eq_iff_iff]
      simp
    refine runs_seq (runs_seq (runs_region (opsK rfl rfl rfl (opsK rfl rfl rfl (opsK rfl rfl rfl (opsK rfl (stepK_bin rfl hlss) rfl rfl)))) ?_))
    refine runs_cond (v := decide (i < xs.length)) (by rfl) (fun hv => runs_skip ?_) (fun hv => runs_exit ?_)
    · have hlt : i < xs.length := by simpa using hv
      have hlt' : i < ys.length := by omega
      rw [List.drop_eq_getElem_cons hlt, List.drop_eq_getElem_cons hlt'] at hi
      simp only [eqLst] at hi
      obtain ⟨ex1, ex2⟩ := hok _ (hxs _ (List.getElem_mem hlt))
      obtain ⟨ey1, ey2⟩ := hok _ (hys _ (List.getElem_mem hlt'))
      have gx : xs[((i : Nat) : Int).toNat]? = some xs[i] := by rw [Int.toNat_natCast]; exact List.getElem?_eq_getElem hlt
      have gy : ys[((i : Nat) : Int).toNat]? = some ys[i] := by rw [Int.toNat_natCast]; exact List.getElem?_eq_getElem hlt'
      cases hn : nqOf (ctxOf Tryz.prog eq sp il bl' is) 9 xs[i] ys[i] with
      | none => rw [hn] at hi; cases hi
      | some c =>
        rw [hn] at hi
        have hbin := nqOf_some hn
        refine runs_seq (runs_block (runs_seq (runs_quiet (by kernel_rfl) (.cons rfl rfl rfl (.cons rfl rfl rfl (.cons rfl (upsK_index rfl rfl rfl hty hag (by omega) gx ex1) rfl (.cons rfl (upsK_load rfl rfl hag ex1 ex2) rfl
          (.cons rfl rfl rfl (.cons rfl rfl rfl (.cons rfl (upsK_index rfl rfl rfl hty hag (by omega) gy ey1) rfl (.cons rfl (upsK_load rfl rfl hag ey1 ey2) rfl (.cons rfl (upsK_bin rfl hbin) rfl .nil))))))))) ?_)))
        refine runs_cond (v := c) (by rfl) (fun h1 => ?_) (fun h2 => runs_skip ?_)
        · subst h1
          cases hi
          refine runs_seq (runs_region (by rfl) (runs_ret ?_))
          exact ⟨by simp, _, _, _, rfl, rfl, rfl⟩
        · subst h2
          refine runs_region (opsK rfl rfl rfl (opsK rfl (stepK_bin rfl (add_one i (by omega))) rfl (opsK rfl rfl rfl rfl))) ?_
          exact ⟨i + 1, by omega, ⟨rfl, rfl, rfl, trivial⟩, by omega, hi⟩
    · have hge : xs.length ≤ i := by simpa using hv
      have hbt : b = true := by
        rw [List.drop_of_length_le hge] at hi
        cases hi; rfl
      subst hbt
      refine runs_seq (runs_region (by rfl) (runs_ret ?_))
      exact ⟨by simp, _, _, _, rfl, rfl, rfl⟩

theorem f19 : Tryz.prog.funcs[19]? = some Tryz.f19 := by kernel_rfl
theorem sl24 : tyOf Tryz.prog 24 = .slice 44 := by kernel_rfl

theorem lst19_pure {eq sp il bl' is} {ok : PV → Bool} (hok : ∀ x, ok x = true → ElemOk (ctxOf Tryz.prog eq sp il bl' is) 44 true x) {args : List PV} {res : Res} (h : lstP (nqOf (ctxOf Tryz.prog eq sp il bl' is) 44) ok args = some res) : evalPure (ctxOf Tryz.prog eq sp il bl' is) (evW (ctxOf Tryz.prog eq sp il bl' is)) 19 args = some res := by
  have hty : (ctxOf Tryz.prog eq sp il bl' is).ty 24 = .slice 44 := sl24
  have hag : (ctxOf Tryz.prog eq sp il bl' is).isAgg 44 = some true := by kernel_rfl
  unfold lstP at h
  split at h <;> try (cases h; done)
  rename_i xs ys
  split at h <;> try (cases h; done)
  rename_i hc
  simp only [Bool.and_eq_true, decide_eq_true_eq, List.all_eq_true] at hc
  obtain ⟨⟨⟨hxs, hys⟩, hxl⟩, hyl⟩ := hc
  refine pure_of_runs (fn := Tryz.f19) f19 rfl ?_
  refine runs_seq (runs_region (by rfl) ?_)
  have hneq : binP (ctxOf Tryz.prog eq sp il bl' is) .neq 3 (.v (.int .i64 (.ofNat xs.length))) (.v (.int .i64 (.ofNat ys.length))) = some (.v (.bool (!decide (xs.length = ys.length)))) := by
    simp only [binP, intArith, if_true, Option.map_some]
    congr 3
    rw [Bool.eq_iff_iff]
    simp
    omega
  refine runs_seq (runs_seq (runs_region (opsK rfl rfl rfl (opsK rfl rfl rfl (opsK rfl rfl rfl (opsK rfl rfl rfl (opsK rfl (stepK_bin rfl hneq) rfl rfl))))) (runs_cond (v := !decide (xs.length = ys.length)) (by rfl) (fun h1 => ?_) (fun h1 => runs_skip ?_))))
  · have hne : xs.length ≠ ys.length := by simpa using h1
    rw [if_neg hne] at h
    cases h
    refine runs_seq (runs_region (by rfl) (runs_ret ?_))
    exact ⟨by simp, _, _, _, rfl, rfl, rfl⟩
  · have hlen : xs.length = ys.length := by simpa using h1
    rw [if_pos hlen] at h
    split at h <;> try (cases h; done)
    rename_i b hb
    cases h
    refine runs_seq (runs_seq (runs_region (by rfl) (runs_block ?_)))
    refine runs_loopS (fun i : Nat => xs.length - i) (fun i => [(0, .lst xs), (1, .lst ys), (5, .v (.int .i64 (i : Int)))])
      (fun i h => i ≤ xs.length ∧ eqLst (nqOf (ctxOf Tryz.prog eq sp il bl' is) 44) (xs.drop i) (ys.drop i) = some b) ?_ 0 _ ⟨rfl, rfl, rfl, trivial⟩ ⟨by omega, hb⟩
    rintro i t h ⟨hle, hi⟩
    have hlss : binP (ctxOf Tryz.prog eq sp il bl' is) .lss 3 (.v (.int .i64 (i : Int))) (.v (.int .i64 (.ofNat xs.length))) = some (.v (.bool (decide (i < xs.length)))) := by
      simp only [binP, intArith, if_true, Option.map_some]
      congr 3
      rw [Bool.eq_iff_iff]
      simp
    refine runs_seq (runs_seq (runs_region (opsK rfl rfl rfl (opsK rfl rfl rfl (opsK rfl rfl rfl (opsK rfl (stepK_bin rfl hlss) rfl rfl)))) ?_))
    refine runs_cond (v := decide (i < xs.length)) (by rfl) (fun hv => runs_skip ?_) (fun hv => runs_exit ?_)
    · have hlt : i < xs.length := by simpa using hv
      have hlt' : i < ys.length := by omega
      rw [List.drop_eq_getElem_cons hlt, List.drop_eq_getElem_cons hlt'] at hi
      simp only [eqLst] at hi
      obtain ⟨ex1, ex2⟩ := hok _ (hxs _ (List.getElem_mem hlt))
      obtain ⟨ey1, ey2⟩ := hok _ (hys _ (List.getElem_mem hlt'))
      have gx : xs[((i : Nat) : Int).toNat]? = some xs[i] := by rw [Int.toNat_natCast]; exact List.getElem?_eq_getElem hlt
      have gy : ys[((i : Nat) : Int).toNat]? = some ys[i] := by rw [Int.toNat_natCast]; exact List.getElem?_eq_getElem hlt'
      cases hn : nqOf (ctxOf Tryz.prog eq sp il bl' is) 44 xs[i] ys[i] with
      | none => rw [hn] at hi; cases hi
      | some c =>
        rw [hn] at hi
        have hbin := nqOf_some hn
        refine runs_seq (runs_block (runs_seq (runs_quiet (by kernel_rfl) (.cons rfl rfl rfl (.cons rfl rfl rfl (.cons rfl (upsK_index rfl rfl rfl hty hag (by omega) gx ex1) rfl (.cons rfl (upsK_load rfl rfl hag ex1 ex2) rfl
          (.cons rfl rfl rfl (.cons rfl rfl rfl (.cons rfl (upsK_index rfl rfl rfl hty hag (by omega) gy ey1) rfl (.cons rfl (upsK_load rfl rfl hag ey1 ey2) rfl (.cons rfl (upsK_bin rfl hbin) rfl .nil))))))))) ?_)))
        refine runs_cond (v := c) (by rfl) (fun h1 => ?_) (fun h2 => runs_skip ?_)
        · subst h1
          cases hi
          refine runs_seq (runs_region (by rfl) (runs_ret ?_))
          exact ⟨by simp, _, _, _, rfl, rfl, rfl⟩
        · subst h2
          refine runs_region (opsK rfl rfl rfl (opsK rfl (stepK_bin rfl (add_one i (by omega))) rfl (opsK rfl rfl rfl rfl))) ?_
          exact ⟨i + 1, by omega, ⟨rfl, rfl, rfl, trivial⟩, by omega, hi⟩
    · have hge : xs.length ≤ i := by simpa using hv
      have hbt : b = true := by
        rw [List.drop_of_length_le hge] at hi
        cases hi; rfl
      subst hbt
      refine runs_seq (runs_region (by rfl) (runs_ret ?_))
      exact ⟨by simp, _, _, _, rfl, rfl, rfl⟩

theorem f20 : Tryz.prog.funcs[20]? = some Tryz.f20 := by kernel_rfl
theorem sl26 : tyOf Tryz.prog 26 = .slice 48 := by kernel_rfl

theorem lst20_pure {eq sp il bl' is} {ok : PV → Bool} (hok : ∀ x, ok x = true → ElemOk (ctxOf Tryz.prog eq sp il bl' is) 48 true x) {args : List PV} {res : Res} (h : lstP (nqOf (ctxOf Tryz.prog eq sp il bl' is) 48) ok args = some res) : evalPure (ctxOf Tryz.prog eq sp il bl' is) (evW (ctxOf Tryz.prog eq sp il bl' is)) 20 args = some res := by
  have hty : (ctxOf Tryz.prog eq sp il bl' is).ty 26 = .slice 48 := sl26
  have hag : (ctxOf Tryz.prog eq sp il bl' is).isAgg 48 = some true := by kernel_rfl
  unfold lstP at h
  split at h <;> try (cases h; done)
  rename_i xs ys
  split at h <;> try (cases h; done)
  rename_i hc
  simp only [Bool.and_eq_true, decide_eq_true_eq, List.all_eq_true] at hc
  obtain ⟨⟨⟨hxs, hys⟩, hxl⟩, hyl⟩ := hc
  refine pure_of_runs (fn := Tryz.f20) f20 rfl ?_
  refine runs_seq (runs_region (by rfl) ?_)
  have hneq : binP (ctxOf Tryz.prog eq sp il bl' is) .neq 3 (.v (.int .i64 (.ofNat xs.length))) (.v (.int .i64 (.ofNat ys.length))) = some (.v (.bool (!decide (xs.length = ys.length)))) := by
    simp only [binP, intArith, if_true, Option.map_some]
    congr 3
    rw [Bool.eq_iff_iff]
    simp
    omega
  refine runs_seq (runs_seq (runs_region (opsK rfl rfl rfl (opsK rfl rfl rfl (opsK rfl rfl rfl (opsK rfl rfl rfl (opsK rfl (stepK_bin rfl hneq) rfl rfl))))) (runs_cond (v := !decide (xs.length = ys.length)) (by rfl) (fun h1 => ?_) (fun h1 => runs_skip ?_))))
  · have hne : xs.length ≠ ys.length := by simpa using h1
    rw [if_neg hne] at h
    cases h
    refine runs_seq (runs_region (by rfl) (runs_ret ?_))
    exact ⟨by simp, _, _, _, rfl, rfl, rfl⟩
  · have hlen : xs.length = ys.length := by simpa using h1
    rw [if_pos hlen] at h
    split at h <;> try (cases h; done)
    rename_i b hb
    cases h
    refine runs_seq (runs_seq (runs_region (by rfl) (runs_block ?_)))
    refine runs_loopS (fun i : Nat => xs.length - i) (fun i => [(0, .lst xs), (1, .lst ys), (5, .v (.int .i64 (i : Int)))])
      (fun i h => i ≤ xs.length ∧ eqLst (nqOf (ctxOf Tryz.prog eq sp il bl' is) 48) (xs.drop i) (ys.drop i) = some b) ?_ 0 _ ⟨rfl, rfl, rfl, trivial⟩ ⟨by omega, hb⟩
    rintro i t h ⟨hle, hi⟩
    have hlss : binP (ctxOf Tryz.prog eq sp il bl' is) .lss 3 (.v (.int .i64 (i : Int))) (.v (.int .i64 (.ofNat xs.length))) = some (.v (.bool (decide (i < xs.length)))) := by
      simp only [binP, intArith, if_true, Option.map_some]
      congr 3
      rw [Bool.eq_iff_iff]
      simp
    refine runs_seq (runs_seq (runs_region (opsK rfl rfl rfl (opsK rfl rfl rfl (opsK rfl rfl rfl (opsK rfl (stepK_bin rfl hlss) rfl rfl)))) ?_))
    refine runs_cond (v := decide (i < xs.length)) (by rfl) (fun hv => runs_skip ?_) (fun hv => runs_exit ?_)
    · have hlt : i < xs.length := by simpa using hv
      have hlt' : i < ys.length := by omega
      rw [List.drop_eq_getElem_cons hlt, List.drop_eq_getElem_cons hlt'] at hi
      simp only [eqLst] at hi
      obtain ⟨ex1, ex2⟩ := hok _ (hxs _ (List.getElem_mem hlt))
      obtain ⟨ey1, ey2⟩ := hok _ (hys _ (List.getElem_mem hlt'))
      have gx : xs[((i : Nat) : Int).toNat]? = some xs[i] := by rw [Int.toNat_natCast]; exact List.getElem?_eq_getElem hlt
      have gy : ys[((i : Nat) : Int).toNat]? = some ys[i] := by rw [Int.toNat_natCast]; exact List.getElem?_eq_getElem hlt'
      cases hn : nqOf (ctxOf Tryz.prog eq sp il bl' is) 48 xs[i] ys[i] with
      | none => rw [hn] at hi; cases hi
      | some c =>
        rw [hn] at hi
        have hbin := nqOf_some hn
        refine runs_seq (runs_block (runs_seq (runs_quiet (by kernel_rfl) (.cons rfl rfl rfl (.cons rfl rfl rfl (.cons rfl (upsK_index rfl rfl rfl hty hag (by omega) gx ex1) rfl (.cons rfl (upsK_load rfl rfl hag ex1 ex2) rfl
          (.cons rfl rfl rfl (.cons rfl rfl rfl (.cons rfl (upsK_index rfl rfl rfl hty hag (by omega) gy ey1) rfl (.cons rfl (upsK_load rfl rfl hag ey1 ey2) rfl (.cons rfl (upsK_bin rfl hbin) rfl .nil))))))))) ?_)))
        refine runs_cond (v := c) (by rfl) (fun h1 => ?_) (fun h2 => runs_skip ?_)
        · subst h1
          cases hi
          refine runs_seq (runs_region (by rfl) (runs_ret ?_))
          exact ⟨by simp, _, _, _, rfl, rfl, rfl⟩
        · subst h2
          refine runs_region (opsK rfl rfl rfl (opsK rfl (stepK_bin rfl (add_one i (by omega))) rfl (opsK rfl rfl rfl rfl))) ?_
          exact ⟨i + 1, by omega, ⟨rfl, rfl, rfl, trivial⟩, by omega, hi⟩
    · have hge : xs.length ≤ i := by simpa using hv
      have hbt : b = true := by
        rw [List.drop_of_length_le hge] at hi
        cases hi; rfl
      subst hbt
      refine runs_seq (runs_region (by rfl) (runs_ret ?_))
      exact ⟨by simp, _, _, _, rfl, rfl, rfl⟩
end Go.Ev
end

section
/- Two machines that are one: hibernacleref26.Same says so. -/
set_option linter.unusedVariables false
set_option linter.unusedSimpArgs false
set_option maxRecDepth 10000
namespace Go.Ev
open Go Go.Proofs

theorem stepK_cal {C : Ctx} {cal : Cal} {inl : Inl} {yl : Yl} {dp : Nat} {st : St} {o : Oper} {fid : FuncId} {args : Array Operand} {ats : Array TypeId} {cargs : List PV} {p q : PV} (hC : C.callable fid = true ∧ C.isp fid = none ∧ C.inl fid = false) (ho : o.op = .call { callee := .value (.func fid), args := args, argTypes := ats })
    (hr : reifyL st.h (args.toList.map (opd st.t)) = some cargs) (hres : cal fid cargs = some (p, [])) (hq : reloc (idOf dp (o.dst.getD 99999) 0) 0 st.h.G p = some q) (href : refsL (args.toList.map (opd st.t)) = []) : stepOp C cal inl yl dp o st = some (q, st.h) := by
  obtain ⟨h1, h2, h3⟩ := hC
  unfold stepOp
  rw [ho]
  have e : opd st.t (.func fid) = .func (.func fid) [] [] := rfl
  have k : ∀ b : Bool, (if b = true then some (q, resUps (idOf dp (o.dst.getD 99999) 0) st.h.G []) else some (q, frzUps st.h [] ++ resUps (idOf dp (o.dst.getD 99999) 0) st.h.G [])) = some (q, ([] : Ups)) := by intro b; cases b <;> rfl
  simp only [e, h1, h2, h3, if_true, if_false, Bool.false_eq_true, List.nil_append, List.append_nil, callP, hr, hres, List.length_nil, hq, href, k, Hp.app]

section
variable {C : Ctx} {cal : Cal} {inl : Inl} {yl : Yl} {dp : Nat} {st : St} {o : Oper}
theorem field_at {s : TypeId} {f : Nat} {fs : List (Nat × Nat)} {off size i g o' : Nat} (hty : C.ty s = .struct fs) (hf : fs[f]? = some (off, size)) (hs : Nat.beq size 0 = false) : fieldP C s (.ptr i g o') f = some (.ptr i g (o' + off)) := by
  have : ¬ size = 0 := fun e => by rw [e] at hs; cases hs
  simp only [fieldP, hty, hf, this, if_false]
theorem load_at {h : Hp} {t : TypeId} {i g off : Nat} {cs : List PV} {x : PV} (hag : C.isAgg t = some false) (hsz : C.size t = 1) (hg : h.G i = g) (hb : h.H i = .var cs) (hx : cs[off]? = some x) : loadP C h t (.ptr i g off) = some x := by
  obtain ⟨hl, hx'⟩ := List.getElem?_eq_some_iff.1 hx
  have e : (cs.drop off).take 1 = [x] := by rw [List.drop_eq_getElem_cons hl, hx']; rfl
  simp only [loadP, hag, cellsAt, hg, hb, hsz, if_true]
  rw [if_pos (by omega), e]
  rfl
theorem stepK_field {s : TypeId} {x : Operand} {f : Nat} {fs : List (Nat × Nat)} {off size i g o' : Nat} (ho : o.op = .fieldAddr s x f) (hty : C.ty s = .struct fs) (hf : fs[f]? = some (off, size)) (hs : Nat.beq size 0 = false) (hx : opd st.t x = .ptr i g o') : stepOp C cal inl yl dp o st = some (.ptr i g (o' + off), st.h) := by
  unfold stepOp
  rw [ho]
  simp only [evalOp, ho, hx, field_at hty hf hs, Hp.app]
theorem stepK_load {t : TypeId} {a : Operand} {i g off : Nat} {cs : List PV} {x : PV} (ho : o.op = .load t a) (hag : C.isAgg t = some false ∧ C.size t = 1) (ha : opd st.t a = .ptr i g off) (hg : st.h.G i = g) (hb : st.h.H i = .var cs) (hx : cs[off]? = some x) : stepOp C cal inl yl dp o st = some (x, st.h) := by
  unfold stepOp
  rw [ho]
  simp only [evalOp, ho, ha, load_at hag.1 hag.2 hg hb hx, Hp.app]
theorem stepK_mv {x : Operand} (v : PV) (ho : o.op = .move x) (hv : opd st.t x = v) : stepOp C cal inl yl dp o st = some (v, st.h) := by
  unfold stepOp
  rw [ho]
  simp only [evalOp, ho, hv, Hp.app]
theorem stepK_as {x : Operand} (v : PV) (ho : o.op = .assign x) (hv : opd st.t x = v) : stepOp C cal inl yl dp o st = some (v, st.h) := by
  unfold stepOp
  rw [ho]
  simp only [evalOp, ho, hv, Hp.app]
theorem stepK_pT {c a b : Operand} (v : PV) (ho : o.op = .pick c a b) (hc : opd st.t c = .v (.bool true)) (hv : opd st.t a = v) : stepOp C cal inl yl dp o st = some (v, st.h) := by
  unfold stepOp
  rw [ho]
  simp only [evalOp, ho, hc, hv, Hp.app]
theorem stepK_pF {c a b : Operand} (v : PV) (ho : o.op = .pick c a b) (hc : opd st.t c = .v (.bool false)) (hv : opd st.t b = v) : stepOp C cal inl yl dp o st = some (v, st.h) := by
  unfold stepOp
  rw [ho]
  simp only [evalOp, ho, hc, hv, Hp.app]
theorem upsK_field {s : TypeId} {x : Operand} {f : Nat} {fs : List (Nat × Nat)} {off size i g o' : Nat} (ho : o.op = .fieldAddr s x f) (hty : C.ty s = .struct fs) (hf : fs[f]? = some (off, size)) (hs : Nat.beq size 0 = false) (hx : opd st.t x = .ptr i g o') : upsOp C cal dp o st = some (.ptr i g (o' + off), []) := by
  unfold upsOp
  rw [ho]
  simp only [evalOp, ho, hx, field_at hty hf hs]
theorem upsK_load1 {t : TypeId} {a : Operand} {i g off : Nat} {cs : List PV} {x : PV} (ho : o.op = .load t a) (hag : C.isAgg t = some false ∧ C.size t = 1) (ha : opd st.t a = .ptr i g off) (hg : st.h.G i = g) (hb : st.h.H i = .var cs) (hx : cs[off]? = some x) : upsOp C cal dp o st = some (x, []) := by
  unfold upsOp
  rw [ho]
  simp only [evalOp, ho, ha, load_at hag.1 hag.2 hg hb hx]
theorem stepK_lenL {t e : TypeId} {x : Operand} {es : List PV} (ho : ∃ ats, o.op = .call { callee := .builtin .len, args := #[x], argTypes := ats } ∧ ats[0]? = some t) (hty : C.ty t = .slice e) (hx : opd st.t x = .lst es) : stepOp C cal inl yl dp o st = some (.v (.int .i64 (.ofNat es.length)), st.h) := by
  obtain ⟨ats, ho, ha⟩ := ho
  unfold stepOp
  rw [ho]
  simp only [evalOp, ho, ha, hx, lenP, hty, Hp.app]
  rfl
end

theorem eqIn {C : Ctx} {t : TypeId} (k : IntKind) (n : Int) : binP C .eql t (.v (.int k n)) (.v (.int k n)) = some (.v (.bool true)) := by
  simp [binP, intArith]
theorem neIn {C : Ctx} {t : TypeId} (k : IntKind) (n : Int) : binP C .neq t (.v (.int k n)) (.v (.int k n)) = some (.v (.bool false)) := by
  simp [binP, intArith]
theorem eqSt {C : Ctx} {t : TypeId} (s : ByteArray) : binP C .eql t (.v (.string s)) (.v (.string s)) = some (.v (.bool true)) := by
  simp [binP, strOp]
theorem eqBo {C : Ctx} {t : TypeId} (ht : C.ty t = .bool) (b : Bool) : binP C .eql t (.v (.bool b)) (.v (.bool b)) = some (.v (.bool true)) := by
  simp [binP, ht]

/-- Operations that leave the memory as it is: the state stays small. -/
theorem opsQ {C : Ctx} {cal : Cal} {inl : Inl} {yl : Yl} {dp sz : Nat} {ops : Array Oper} {o : Oper} {os : List Oper} {t : Nat → PV} {h : Hp} {r : PV} {d : Nat} {s : St} (hw : wantedP ops o t = some true) (hs : stepOp C cal inl yl dp o ⟨t, h⟩ = some (r, h)) (hd : o.dst = some d) (hsz : Nat.blt d sz = true) (hr : evalOps C cal inl yl dp sz ops os ⟨upd t d r, h⟩ = some s) : evalOps C cal inl yl dp sz ops (o :: os) ⟨t, h⟩ = some s :=
  ops_cons hw hs (by rw [hd]; have : d < sz := by simpa [Nat.blt_eq] using hsz
                     simp [putP, this]) hr
theorem opsS {C : Ctx} {cal : Cal} {inl : Inl} {yl : Yl} {dp sz : Nat} {ops : Array Oper} {o : Oper} {os : List Oper} {t : Nat → PV} {h : Hp} {d : Nat} {s : St} (hw : wantedP ops o t = some false) (hd : o.dst = some d) (hsz : Nat.blt d sz = true) (hr : evalOps C cal inl yl dp sz ops os ⟨upd t d (.tuple []), h⟩ = some s) : evalOps C cal inl yl dp sz ops (o :: os) ⟨t, h⟩ = some s :=
  ops_skip hw (by rw [hd]; have : d < sz := by simpa [Nat.blt_eq] using hsz
                  simp [putP, this]) hr

structure Mach where
  clock : Int
  quantum : Int
  cur : Int
  left : Int
  fr : List PV
  pr : List PV
  next : Int
  ini : ByteArray
  pi : List PV
  newPipe : Int
  inp : ByteArray
  fin : Bool
  told : Int
  bl : List PV
  pe : List PV
  dleft : Int
  di : List PV

@[reducible] def Mach.cells (m : Mach) : List PV := [.v (.int .u64 m.clock), .v (.int .i64 m.quantum), .v (.int .i64 m.cur), .v (.int .i64 m.left), .lst m.fr, .lst m.pr, .v (.int .i64 m.next), .v (.string m.ini), .lst m.pi, .v (.int .i64 m.newPipe), .v (.string m.inp), .v (.bool m.fin), .v (.int .u64 m.told), .lst m.bl, .lst m.pe, .v (.int .i64 m.dleft), .lst m.di]
@[reducible] def Mach.pv (m : Mach) : PV := .agg m.cells

/-- The lists' elements are of their types. -/
structure Mach.Ok (C : Ctx) (m : Mach) : Prop where
  fr : ∀ x ∈ m.fr, okStr x = true
  bl : ∀ x ∈ m.bl, okStr x = true
  pr : ∀ x ∈ m.pr, okAgg (C.size 44) x = true ∧ nqOf C 44 x x = some false
  pe : ∀ x ∈ m.pe, okAgg (C.size 48) x = true ∧ nqOf C 48 x x = some false
  di : ∀ x ∈ m.di, okAgg (C.size 48) x = true ∧ nqOf C 48 x x = some false
  pi : ∀ x ∈ m.pi, okAgg (C.size 46) x = true ∧ nqOf C 46 x x = some false
  frn : m.fr.length < 9223372036854775808
  bln : m.bl.length < 9223372036854775808
  prn : m.pr.length < 9223372036854775808
  pen : m.pe.length < 9223372036854775808
  din : m.di.length < 9223372036854775808
  pin : m.pi.length < 9223372036854775808

theorem eqLst_refl {nq : PV → PV → Option Bool} : ∀ (es : List PV), (∀ x ∈ es, nq x x = some false) → eqLst nq es es = some true
  | [], _ => rfl
  | e :: es, h => by
    simp only [eqLst, h e (List.mem_cons_self ..)]
    exact eqLst_refl es (fun x hx => h x (List.mem_cons_of_mem _ hx))

theorem lstP_refl {nq : PV → PV → Option Bool} {ok : PV → Bool} {es : List PV} (h1 : ∀ x ∈ es, ok x = true) (h2 : ∀ x ∈ es, nq x x = some false) (hn : es.length < 9223372036854775808) : lstP nq ok [.lst es, .lst es] = some (.v (.bool true), []) := by
  have : (es.all ok && es.all ok && decide (es.length < 9223372036854775808) && decide (es.length < 9223372036854775808)) = true := by
    simp only [Bool.and_eq_true, List.all_eq_true, decide_eq_true_eq]
    exact ⟨⟨⟨h1, h1⟩, hn⟩, hn⟩
  simp only [lstP, this, if_true, eqLst_refl es h2]

theorem okAgg_elem {C : Ctx} {T : TypeId} {x : PV} (h : okAgg (C.size T) x = true) : ElemOk C T true x := by
  cases x <;> simp [okAgg] at h
  exact ⟨h, rfl⟩
theorem okStr_elem {C : Ctx} {T : TypeId} {x : PV} (hs : C.size T = 1) (h : okStr x = true) : ElemOk C T false x := by
  unfold okStr at h
  split at h
  · exact ⟨hs.symm, rfl⟩
  · cases h
theorem okStr_nq {C : Ctx} {T : TypeId} {x : PV} (h : okStr x = true) : nqOf C T x x = some false := by
  unfold okStr at h
  split at h
  · simp [nqOf, binP, strOp]
  · cases h

theorem tyMach : tyOf Tryz.prog 30 = .struct [(0, 1), (1, 1), (2, 1), (3, 1), (4, 1), (5, 1), (6, 1), (7, 1), (8, 1), (9, 1), (10, 1), (11, 1), (12, 1), (13, 3), (16, 1)] := by kernel_rfl
theorem tyDrive : tyOf Tryz.prog 28 = .struct [(0, 1), (1, 1), (2, 1)] := by kernel_rfl
theorem f10 : Tryz.prog.funcs[10]? = some Tryz.f10 := by kernel_rfl
theorem sl25 : tyOf Tryz.prog 25 = .slice 46 := by kernel_rfl
theorem ty4 : tyOf Tryz.prog 4 = .bool := by kernel_rfl

/-- A table at which these functions are walked, with no contract of their own. -/
structure Bare (C : Ctx) (f : FuncId) : Prop where
  c : C.callable f = true ∧ C.isp f = none ∧ C.inl f = false
  s : C.spec f = none
theorem Bare.cal {C : Ctx} {f : FuncId} (h : Bare C f) {args : List PV} {res : Res} (hp : evalPure C (evW C) f args = some res) : calOf C (evW C) f args = some res := by
  unfold calOf; rw [h.s]; exact hp

section
variable {eq : TypeId → Option (List EK)} {sp : FuncId → Option (List PV → Option Res)} {il : FuncId → Bool} {bl' : TypeId → Bool} {is : FuncId → Option (Nat → List PV → Hp → Option (PV × Ups))}

theorem sz9 : (ctxOf Tryz.prog eq sp il bl' is).size 9 = 1 := by kernel_rfl

theorem same_refl (o18 : Bare (ctxOf Tryz.prog eq sp il bl' is) 18) (o19 : Bare (ctxOf Tryz.prog eq sp il bl' is) 19) (o20 : Bare (ctxOf Tryz.prog eq sp il bl' is) 20) {m : Mach} (h : m.Ok (ctxOf Tryz.prog eq sp il bl' is)) : evalPure (ctxOf Tryz.prog eq sp il bl' is) (evW (ctxOf Tryz.prog eq sp il bl' is)) 10 [m.pv, m.pv] = some (.v (.bool true), []) := by
  have same18 : ∀ {es : List PV}, (∀ x ∈ es, okStr x = true) → es.length < 9223372036854775808 → calOf (ctxOf Tryz.prog eq sp il bl' is) (evW (ctxOf Tryz.prog eq sp il bl' is)) 18 [.lst es, .lst es] = some (.v (.bool true), []) := fun h1 hn => o18.cal (lst18_pure (fun x hx => okStr_elem sz9 hx) (lstP_refl h1 (fun x hx => okStr_nq (h1 x hx)) hn))
  have same19 : ∀ {es : List PV}, (∀ x ∈ es, okAgg ((ctxOf Tryz.prog eq sp il bl' is).size 44) x = true ∧ nqOf (ctxOf Tryz.prog eq sp il bl' is) 44 x x = some false) → es.length < 9223372036854775808 → calOf (ctxOf Tryz.prog eq sp il bl' is) (evW (ctxOf Tryz.prog eq sp il bl' is)) 19 [.lst es, .lst es] = some (.v (.bool true), []) := fun h1 hn => o19.cal (lst19_pure (fun x hx => okAgg_elem hx) (lstP_refl (fun x hx => (h1 x hx).1) (fun x hx => (h1 x hx).2) hn))
  have same20 : ∀ {es : List PV}, (∀ x ∈ es, okAgg ((ctxOf Tryz.prog eq sp il bl' is).size 48) x = true ∧ nqOf (ctxOf Tryz.prog eq sp il bl' is) 48 x x = some false) → es.length < 9223372036854775808 → calOf (ctxOf Tryz.prog eq sp il bl' is) (evW (ctxOf Tryz.prog eq sp il bl' is)) 20 [.lst es, .lst es] = some (.v (.bool true), []) := fun h1 hn => o20.cal (lst20_pure (fun x hx => okAgg_elem hx) (lstP_refl (fun x hx => (h1 x hx).1) (fun x hx => (h1 x hx).2) hn))
  have c18 := o18.c
  have c19 := o19.c
  have c20 := o20.c
  have hty : (ctxOf Tryz.prog eq sp il bl' is).ty 25 = .slice 46 := sl25
  have hag : (ctxOf Tryz.prog eq sp il bl' is).isAgg 46 = some true := by kernel_rfl
  have ty4 : (ctxOf Tryz.prog eq sp il bl' is).ty 4 = .bool := ty4
  have ty30 : (ctxOf Tryz.prog eq sp il bl' is).ty 30 = .struct [(0, 1), (1, 1), (2, 1), (3, 1), (4, 1), (5, 1), (6, 1), (7, 1), (8, 1), (9, 1), (10, 1), (11, 1), (12, 1), (13, 3), (16, 1)] := tyMach
  have ty28 : (ctxOf Tryz.prog eq sp il bl' is).ty 28 = .struct [(0, 1), (1, 1), (2, 1)] := tyDrive
  have sl25' : (ctxOf Tryz.prog eq sp il bl' is).ty 25 = .slice 46 := sl25
  have ld3 : (ctxOf Tryz.prog eq sp il bl' is).isAgg 3 = some false ∧ (ctxOf Tryz.prog eq sp il bl' is).size 3 = 1 := ⟨by kernel_rfl, by kernel_rfl⟩
  have ld4 : (ctxOf Tryz.prog eq sp il bl' is).isAgg 4 = some false ∧ (ctxOf Tryz.prog eq sp il bl' is).size 4 = 1 := ⟨by kernel_rfl, by kernel_rfl⟩
  have ld9 : (ctxOf Tryz.prog eq sp il bl' is).isAgg 9 = some false ∧ (ctxOf Tryz.prog eq sp il bl' is).size 9 = 1 := ⟨by kernel_rfl, by kernel_rfl⟩
  have ld22 : (ctxOf Tryz.prog eq sp il bl' is).isAgg 22 = some false ∧ (ctxOf Tryz.prog eq sp il bl' is).size 22 = 1 := ⟨by kernel_rfl, by kernel_rfl⟩
  have ld23 : (ctxOf Tryz.prog eq sp il bl' is).isAgg 23 = some false ∧ (ctxOf Tryz.prog eq sp il bl' is).size 23 = 1 := ⟨by kernel_rfl, by kernel_rfl⟩
  have ld24 : (ctxOf Tryz.prog eq sp il bl' is).isAgg 24 = some false ∧ (ctxOf Tryz.prog eq sp il bl' is).size 24 = 1 := ⟨by kernel_rfl, by kernel_rfl⟩
  have ld25 : (ctxOf Tryz.prog eq sp il bl' is).isAgg 25 = some false ∧ (ctxOf Tryz.prog eq sp il bl' is).size 25 = 1 := ⟨by kernel_rfl, by kernel_rfl⟩
  have ld26 : (ctxOf Tryz.prog eq sp il bl' is).isAgg 26 = some false ∧ (ctxOf Tryz.prog eq sp il bl' is).size 26 = 1 := ⟨by kernel_rfl, by kernel_rfl⟩
  refine pure_of_runs (fn := Tryz.f10) f10 rfl ?_
  refine runs_seq (runs_region (by rfl) ?_)
  refine runs_seq (runs_seq (runs_region (opsQ rfl (stepK_field rfl ty30 rfl rfl rfl) rfl rfl (opsQ rfl (stepK_load rfl ld25 rfl rfl rfl rfl) rfl rfl (opsQ rfl (stepK_lenL ⟨_, rfl, rfl⟩ sl25' rfl) rfl rfl (opsQ rfl (stepK_field rfl ty30 rfl rfl rfl) rfl rfl (opsQ rfl (stepK_load rfl ld25 rfl rfl rfl rfl) rfl rfl (opsQ rfl (stepK_lenL ⟨_, rfl, rfl⟩ sl25' rfl) rfl rfl (opsQ rfl (stepK_bin rfl (neIn _ _)) rfl rfl rfl))))))) (runs_cond (v := false) (by rfl) (fun h1 => by cases h1) (fun _ => runs_skip ?_))))
  refine runs_seq (runs_seq (runs_region (by rfl) (runs_block ?_)))
  refine runs_loopS (fun i : Nat => m.pi.length - i) (fun i => [(2, .ptr (idOf 0 2 0) 1 0), (3, .ptr (idOf 0 3 0) 1 0), (5, .v (.int .i64 (i : Int)))])
    (fun i hh => i ≤ m.pi.length ∧ hh = (⟨fun _ => 0, fun _ => .none⟩ : Hp).app [(idOf 0 2 0, 1, .var m.cells), (idOf 0 3 0, 1, .var m.cells)]) ?_ 0 _ ⟨rfl, rfl, rfl, trivial⟩ ⟨by omega, rfl⟩
  rintro i t hh ⟨hle, rfl⟩
  have hlss : binP (ctxOf Tryz.prog eq sp il bl' is) .lss 3 (.v (.int .i64 (i : Int))) (.v (.int .i64 (.ofNat m.pi.length))) = some (.v (.bool (decide (i < m.pi.length)))) := by
    simp only [binP, intArith, if_true, Option.map_some]
    congr 3
    rw [Bool.eq_iff_iff]
    simp
  refine runs_seq (runs_seq (runs_region (opsQ rfl rfl rfl rfl (opsQ rfl (stepK_field rfl ty30 rfl rfl rfl) rfl rfl (opsQ rfl (stepK_load rfl ld25 rfl rfl rfl rfl) rfl rfl (opsQ rfl (stepK_lenL ⟨_, rfl, rfl⟩ sl25' rfl) rfl rfl (opsQ rfl (stepK_bin rfl hlss) rfl rfl rfl))))) ?_))
  refine runs_cond (v := decide (i < m.pi.length)) (by rfl) (fun hv => runs_skip ?_) (fun hv => runs_exit ?_)
  · have hlt : i < m.pi.length := by simpa using hv
    have hpin := h.pin
    obtain ⟨ok, hn⟩ := h.pi _ (List.getElem_mem hlt)
    obtain ⟨ex1, ex2⟩ := okAgg_elem ok
    have gx : m.pi[((i : Nat) : Int).toNat]? = some m.pi[i] := by rw [Int.toNat_natCast]; exact List.getElem?_eq_getElem hlt
    have hbin := nqOf_some hn
    refine runs_seq (runs_block (runs_seq (runs_quiet (by kernel_rfl) (.cons rfl (upsK_field rfl ty30 rfl rfl rfl) rfl (.cons rfl (upsK_load1 rfl ld25 rfl rfl rfl rfl) rfl (.cons rfl rfl rfl (.cons rfl (upsK_index rfl rfl rfl hty hag (by omega) gx ex1) rfl (.cons rfl (upsK_load rfl rfl hag ex1 ex2) rfl (.cons rfl (upsK_field rfl ty30 rfl rfl rfl) rfl (.cons rfl (upsK_load1 rfl ld25 rfl rfl rfl rfl) rfl (.cons rfl rfl rfl (.cons rfl (upsK_index rfl rfl rfl hty hag (by omega) gx ex1) rfl (.cons rfl (upsK_load rfl rfl hag ex1 ex2) rfl (.cons rfl (upsK_bin rfl hbin) rfl .nil))))))))))) ?_)))
    refine runs_cond (v := false) (by rfl) (fun h1 => by cases h1) (fun _ => runs_skip ?_)
    refine runs_region (opsQ rfl rfl rfl rfl (opsQ rfl (stepK_bin rfl (add_one i (by omega))) rfl rfl (opsQ rfl rfl rfl rfl rfl))) ?_
    exact ⟨i + 1, by omega, ⟨rfl, rfl, rfl, trivial⟩, by omega, rfl⟩
  · refine runs_seq (runs_region (opsQ rfl (stepK_field rfl ty30 rfl rfl rfl) rfl rfl (opsQ rfl (stepK_load rfl ld22 rfl rfl rfl rfl) rfl rfl (opsQ rfl (stepK_field rfl ty30 rfl rfl rfl) rfl rfl (opsQ rfl (stepK_load rfl ld22 rfl rfl rfl rfl) rfl rfl (opsQ rfl (stepK_bin rfl (eqIn _ _)) rfl rfl (opsQ rfl (stepK_mv (.v (.bool true)) rfl rfl) rfl rfl (opsQ rfl (stepK_field rfl ty30 rfl rfl rfl) rfl rfl (opsQ rfl (stepK_load rfl ld3 rfl rfl rfl rfl) rfl rfl (opsQ rfl (stepK_field rfl ty30 rfl rfl rfl) rfl rfl (opsQ rfl (stepK_load rfl ld3 rfl rfl rfl rfl) rfl rfl (opsQ rfl (stepK_bin rfl (eqIn _ _)) rfl rfl (opsQ rfl (stepK_pT (.v (.bool true)) rfl rfl rfl) rfl rfl (opsQ rfl (stepK_mv (.v (.bool true)) rfl rfl) rfl rfl (opsQ rfl (stepK_field rfl ty30 rfl rfl rfl) rfl rfl (opsQ rfl (stepK_load rfl ld3 rfl rfl rfl rfl) rfl rfl (opsQ rfl (stepK_field rfl ty30 rfl rfl rfl) rfl rfl (opsQ rfl (stepK_load rfl ld3 rfl rfl rfl rfl) rfl rfl (opsQ rfl (stepK_bin rfl (eqIn _ _)) rfl rfl (opsQ rfl (stepK_pT (.v (.bool true)) rfl rfl rfl) rfl rfl (opsQ rfl (stepK_mv (.v (.bool true)) rfl rfl) rfl rfl (opsQ rfl (stepK_field rfl ty30 rfl rfl rfl) rfl rfl (opsQ rfl (stepK_load rfl ld3 rfl rfl rfl rfl) rfl rfl (opsQ rfl (stepK_field rfl ty30 rfl rfl rfl) rfl rfl (opsQ rfl (stepK_load rfl ld3 rfl rfl rfl rfl) rfl rfl (opsQ rfl (stepK_bin rfl (eqIn _ _)) rfl rfl (opsQ rfl (stepK_pT (.v (.bool true)) rfl rfl rfl) rfl rfl (opsQ rfl (stepK_mv (.v (.bool true)) rfl rfl) rfl rfl (opsQ rfl (stepK_field rfl ty30 rfl rfl rfl) rfl rfl (opsQ rfl (stepK_load rfl ld3 rfl rfl rfl rfl) rfl rfl (opsQ rfl (stepK_field rfl ty30 rfl rfl rfl) rfl rfl (opsQ rfl (stepK_load rfl ld3 rfl rfl rfl rfl) rfl rfl (opsQ rfl (stepK_bin rfl (eqIn _ _)) rfl rfl (opsQ rfl (stepK_pT (.v (.bool true)) rfl rfl rfl) rfl rfl (opsQ rfl (stepK_mv (.v (.bool true)) rfl rfl) rfl rfl (opsQ rfl (stepK_field rfl ty30 rfl rfl rfl) rfl rfl (opsQ rfl (stepK_load rfl ld9 rfl rfl rfl rfl) rfl rfl (opsQ rfl (stepK_field rfl ty30 rfl rfl rfl) rfl rfl (opsQ rfl (stepK_load rfl ld9 rfl rfl rfl rfl) rfl rfl (opsQ rfl (stepK_bin rfl (eqSt _)) rfl rfl (opsQ rfl (stepK_pT (.v (.bool true)) rfl rfl rfl) rfl rfl (opsQ rfl (stepK_mv (.v (.bool true)) rfl rfl) rfl rfl (opsQ rfl (stepK_field rfl ty30 rfl rfl rfl) rfl rfl (opsQ rfl (stepK_load rfl ld3 rfl rfl rfl rfl) rfl rfl (opsQ rfl (stepK_field rfl ty30 rfl rfl rfl) rfl rfl (opsQ rfl (stepK_load rfl ld3 rfl rfl rfl rfl) rfl rfl (opsQ rfl (stepK_bin rfl (eqIn _ _)) rfl rfl (opsQ rfl (stepK_pT (.v (.bool true)) rfl rfl rfl) rfl rfl (opsQ rfl (stepK_mv (.v (.bool true)) rfl rfl) rfl rfl (opsQ rfl (stepK_field rfl ty30 rfl rfl rfl) rfl rfl (opsQ rfl (stepK_load rfl ld9 rfl rfl rfl rfl) rfl rfl (opsQ rfl (stepK_field rfl ty30 rfl rfl rfl) rfl rfl (opsQ rfl (stepK_load rfl ld9 rfl rfl rfl rfl) rfl rfl (opsQ rfl (stepK_bin rfl (eqSt _)) rfl rfl (opsQ rfl (stepK_pT (.v (.bool true)) rfl rfl rfl) rfl rfl (opsQ rfl (stepK_mv (.v (.bool true)) rfl rfl) rfl rfl (opsQ rfl (stepK_field rfl ty30 rfl rfl rfl) rfl rfl (opsQ rfl (stepK_load rfl ld4 rfl rfl rfl rfl) rfl rfl (opsQ rfl (stepK_field rfl ty30 rfl rfl rfl) rfl rfl (opsQ rfl (stepK_load rfl ld4 rfl rfl rfl rfl) rfl rfl (opsQ rfl (stepK_bin rfl (eqBo ty4 _)) rfl rfl (opsQ rfl (stepK_pT (.v (.bool true)) rfl rfl rfl) rfl rfl (opsQ rfl (stepK_mv (.v (.bool true)) rfl rfl) rfl rfl (opsQ rfl (stepK_field rfl ty30 rfl rfl rfl) rfl rfl (opsQ rfl (stepK_load rfl ld22 rfl rfl rfl rfl) rfl rfl (opsQ rfl (stepK_field rfl ty30 rfl rfl rfl) rfl rfl (opsQ rfl (stepK_load rfl ld22 rfl rfl rfl rfl) rfl rfl (opsQ rfl (stepK_bin rfl (eqIn _ _)) rfl rfl (opsQ rfl (stepK_pT (.v (.bool true)) rfl rfl rfl) rfl rfl (opsQ rfl rfl rfl rfl rfl))))))))))))))))))))))))))))))))))))))))))))))))))))))))))))))))))))) ?_)
    refine runs_seq (runs_region (opsQ rfl (stepK_mv (.v (.bool true)) rfl rfl) rfl rfl (opsQ rfl (stepK_mv (.v (.bool true)) rfl rfl) rfl rfl (opsQ rfl (stepK_field rfl ty30 rfl rfl rfl) rfl rfl (opsQ rfl (stepK_load rfl ld23 rfl rfl rfl rfl) rfl rfl (opsQ rfl (stepK_field rfl ty30 rfl rfl rfl) rfl rfl (opsQ rfl (stepK_load rfl ld23 rfl rfl rfl rfl) rfl rfl (opsQ rfl (stepK_cal c18 rfl rfl (same18 h.fr h.frn) rfl rfl) rfl rfl (opsQ rfl (stepK_pT (.v (.bool true)) rfl rfl rfl) rfl rfl (opsQ rfl (stepK_mv (.v (.bool true)) rfl rfl) rfl rfl (opsQ rfl (stepK_field rfl ty30 rfl rfl rfl) rfl rfl (opsQ rfl (stepK_load rfl ld24 rfl rfl rfl rfl) rfl rfl (opsQ rfl (stepK_field rfl ty30 rfl rfl rfl) rfl rfl (opsQ rfl (stepK_load rfl ld24 rfl rfl rfl rfl) rfl rfl (opsQ rfl (stepK_cal c19 rfl rfl (same19 h.pr h.prn) rfl rfl) rfl rfl (opsQ rfl (stepK_pT (.v (.bool true)) rfl rfl rfl) rfl rfl (opsQ rfl (stepK_mv (.v (.bool true)) rfl rfl) rfl rfl (opsQ rfl (stepK_field rfl ty30 rfl rfl rfl) rfl rfl (opsQ rfl (stepK_field rfl ty28 rfl rfl rfl) rfl rfl (opsQ rfl (stepK_load rfl ld23 rfl rfl rfl rfl) rfl rfl (opsQ rfl (stepK_field rfl ty30 rfl rfl rfl) rfl rfl (opsQ rfl (stepK_field rfl ty28 rfl rfl rfl) rfl rfl (opsQ rfl (stepK_load rfl ld23 rfl rfl rfl rfl) rfl rfl (opsQ rfl (stepK_cal c18 rfl rfl (same18 h.bl h.bln) rfl rfl) rfl rfl (opsQ rfl (stepK_pT (.v (.bool true)) rfl rfl rfl) rfl rfl (opsQ rfl (stepK_mv (.v (.bool true)) rfl rfl) rfl rfl (opsQ rfl (stepK_field rfl ty30 rfl rfl rfl) rfl rfl (opsQ rfl (stepK_field rfl ty28 rfl rfl rfl) rfl rfl (opsQ rfl (stepK_load rfl ld26 rfl rfl rfl rfl) rfl rfl (opsQ rfl (stepK_field rfl ty30 rfl rfl rfl) rfl rfl (opsQ rfl (stepK_field rfl ty28 rfl rfl rfl) rfl rfl (opsQ rfl (stepK_load rfl ld26 rfl rfl rfl rfl) rfl rfl (opsQ rfl (stepK_cal c20 rfl rfl (same20 h.pe h.pen) rfl rfl) rfl rfl (opsQ rfl (stepK_pT (.v (.bool true)) rfl rfl rfl) rfl rfl (opsQ rfl (stepK_mv (.v (.bool true)) rfl rfl) rfl rfl (opsQ rfl (stepK_field rfl ty30 rfl rfl rfl) rfl rfl (opsQ rfl (stepK_field rfl ty28 rfl rfl rfl) rfl rfl (opsQ rfl (stepK_load rfl ld3 rfl rfl rfl rfl) rfl rfl (opsQ rfl (stepK_field rfl ty30 rfl rfl rfl) rfl rfl (opsQ rfl (stepK_field rfl ty28 rfl rfl rfl) rfl rfl (opsQ rfl (stepK_load rfl ld3 rfl rfl rfl rfl) rfl rfl (opsQ rfl (stepK_bin rfl (eqIn _ _)) rfl rfl (opsQ rfl (stepK_pT (.v (.bool true)) rfl rfl rfl) rfl rfl (opsQ rfl (stepK_mv (.v (.bool true)) rfl rfl) rfl rfl (opsQ rfl (stepK_field rfl ty30 rfl rfl rfl) rfl rfl (opsQ rfl (stepK_load rfl ld26 rfl rfl rfl rfl) rfl rfl (opsQ rfl (stepK_field rfl ty30 rfl rfl rfl) rfl rfl (opsQ rfl (stepK_load rfl ld26 rfl rfl rfl rfl) rfl rfl (opsQ rfl (stepK_cal c20 rfl rfl (same20 h.di h.din) rfl rfl) rfl rfl (opsQ rfl (stepK_pT (.v (.bool true)) rfl rfl rfl) rfl rfl (opsQ rfl (stepK_as (.v (.bool true)) rfl rfl) rfl rfl rfl)))))))))))))))))))))))))))))))))))))))))))))))))) ?_)
    exact runs_ret ⟨by simp, _, _, _, rfl, rfl, rfl⟩
end
end Go.Ev
end

section
/- Input fed to a machine: machine.Feed and hibernacleref30.Feed. -/
set_option linter.unusedVariables false
set_option linter.unusedSimpArgs false
set_option maxRecDepth 10000
set_option maxHeartbeats 4000000
namespace Go.Ev
open Go Go.Proofs

section
variable {C : Ctx} {cal : Cal} {inl : Inl} {yl : Yl} {dp : Nat} {st : St} {o : Oper}
def Hp.put (h : Hp) (i g : Nat) (b : Blk) : Hp := ⟨upd h.G i g, upd h.H i b⟩
theorem stepK_build {t : TypeId} {parts : Array (Nat × Operand)} {y : PV} (ho : o.op = .build t parts) (hb : buildP C t (parts.toList.map fun (i, x) => (i, opd st.t x)) = some y) : stepOp C cal inl yl dp o st = some (y, st.h) := by
  unfold stepOp
  rw [ho]
  simp only [evalOp, ho, hb, Hp.app]
theorem stepK_storeA {t : TypeId} {a x : Operand} {n i g : Nat} {xs cs : List PV} (ho : o.op = .store t a x) (hag : C.isAgg t = some true ∧ C.size t = n) (ha : opd st.t a = .ptr i g 0) (hx : opd st.t x = .agg xs) (hn : xs.length = n) (hg : st.h.G i = g) (hb : st.h.H i = .var cs) (hc : cs.length = n) : stepOp C cal inl yl dp o st = some (.dead, Hp.put st.h i g (.var xs)) := by
  have : storeP C st.h t (.ptr i g 0) (.agg xs) = some [(i, g, .var xs)] := by
    simp only [storeP, hag.1, hag.2, cellsOf, hn, hg, hb, if_true]
    rw [if_pos (by omega)]
    simp only [splice, hn, hc, and_self, if_true]
  unfold stepOp
  rw [ho]
  simp only [evalOp, ho, ha, hx, this, Hp.app]; rfl
theorem stepK_store1 {t : TypeId} {a x : Operand} {i g off : Nat} {cs : List PV} (cs' : List PV) {y : PV} (ho : o.op = .store t a x) (hag : C.isAgg t = some false ∧ C.size t = 1) (ha : opd st.t a = .ptr i g off) (hx : opd st.t x = y) (hy : cellsOf y = some [y]) (hg : st.h.G i = g) (hb : st.h.H i = .var cs) (hc : Nat.ble (off + 1) cs.length = true) (hs : splice cs off [y] = cs') : stepOp C cal inl yl dp o st = some (.dead, Hp.put st.h i g (.var cs')) := by
  have : storeP C st.h t (.ptr i g off) y = some [(i, g, .var cs')] := by
    simp only [storeP, hag.1, hag.2, hy, List.length_singleton, if_true, hg, hb]
    rw [if_pos (Nat.le_of_ble_eq_true hc), hs]
  unfold stepOp
  rw [ho]
  simp only [evalOp, ho, ha, hx, this, Hp.app]; rfl
theorem stepK_loadA {t : TypeId} {a : Operand} {n i g : Nat} {cs : List PV} (ho : o.op = .load t a) (hag : C.isAgg t = some true ∧ C.size t = n) (ha : opd st.t a = .ptr i g 0) (hg : st.h.G i = g) (hb : st.h.H i = .var cs) (hc : cs.length = n) : stepOp C cal inl yl dp o st = some (.agg cs, st.h) := by
  have : loadP C st.h t (.ptr i g 0) = some (.agg cs) := by
    simp only [loadP, hag.1, hag.2, cellsAt, hg, hb, if_true, List.drop_zero]
    rw [if_pos (by omega), ← hc, List.take_length]
    rfl
  unfold stepOp
  rw [ho]
  simp only [evalOp, ho, ha, this, Hp.app]
theorem opsM {sz : Nat} {ops : Array Oper} {os : List Oper} {t : Nat → PV} {h : Hp} {i g : Nat} {b : Blk} {r : PV} {s : St} (hw : wantedP ops o t = some true) (hs : stepOp C cal inl yl dp o ⟨t, h⟩ = some (r, Hp.put h i g b)) (hd : o.dst = none) (hr : evalOps C cal inl yl dp sz ops os ⟨t, Hp.put h i g b⟩ = some s) : evalOps C cal inl yl dp sz ops (o :: os) ⟨t, h⟩ = some s :=
  ops_cons hw hs (by rw [hd]; rfl) hr
theorem res_cell {s : St} {a ty k n i g : Nat} {cs : List PV} {v : PV} (hag : C.isAgg ty = some true ∧ C.size ty = n) (ha : s.t a = .ptr i g 0) (hg : s.h.G i = g) (hb : s.h.H i = .var cs) (hc : cs.length = n) (hv : s.t k = v) : resultsP C s [.cell a ty, .tmp k] = some [.agg cs, v] := by
  have : loadP C s.h ty (.ptr i g 0) = some (.agg cs) := by
    simp only [loadP, hag.1, hag.2, cellsAt, hg, hb, if_true, List.drop_zero]
    rw [if_pos (by omega), ← hc, List.take_length]
    rfl
  simp only [resultsP, ha, this, hv]
theorem stepK_lenS {t : TypeId} {x : Operand} {s : ByteArray} (ho : ∃ ats, o.op = .call { callee := .builtin .len, args := #[x], argTypes := ats } ∧ ats[0]? = some t) (hty : C.ty t = .str) (hx : opd st.t x = .v (.string s)) : stepOp C cal inl yl dp o st = some (.v (.int .i64 (s.size : Int)), st.h) := by
  obtain ⟨ats, ho, ha⟩ := ho
  unfold stepOp
  rw [ho]
  simp only [evalOp, ho, ha, hx, lenP, hty, Hp.app]
theorem add_nat {a b : Nat} (h : a + b < 9223372036854775808) : binP C .add 3 (.v (.int .i64 (a : Int))) (.v (.int .i64 (b : Int))) = some (.v (.int .i64 ((a + b : Nat) : Int))) := by
  simp only [binP, intArith, if_true]
  rw [← Int.natCast_add, wrap64 h]; rfl
theorem sub_nat {a b : Nat} (hb : b ≤ a) (h : a < 9223372036854775808) : binP C .sub 3 (.v (.int .i64 (a : Int))) (.v (.int .i64 (b : Int))) = some (.v (.int .i64 ((a - b : Nat) : Int))) := by
  simp only [binP, intArith, if_true]
  rw [← Int.natCast_sub hb, wrap64 (by omega)]; rfl
theorem gtr_nat (a b : Nat) : binP C .gtr 3 (.v (.int .i64 (a : Int))) (.v (.int .i64 (b : Int))) = some (.v (.bool (decide (b < a)))) := by
  simp only [binP, intArith, if_true, Option.map_some]
  congr 3
  rw [Bool.eq_iff_iff]
  simp
theorem gtr_is {a b : Nat} {v : Bool} (h : decide (b < a) = v) : binP C .gtr 3 (.v (.int .i64 (a : Int))) (.v (.int .i64 (b : Int))) = some (.v (.bool v)) := by rw [← h]; exact gtr_nat a b
theorem addS {t : TypeId} {a b : ByteArray} (h : a.size + b.size ≤ 9223372036854775807) : binP C .add t (.v (.string a)) (.v (.string b)) = some (.v (.string (a ++ b))) := by
  simp [binP, strOp, h]
end

/-- A machine whose lists are lists, or nil. -/
structure MachP where
  clock : Int
  quantum : Int
  cur : Int
  left : Int
  fr : PV
  pr : PV
  next : Int
  ini : ByteArray
  pi : PV
  newPipe : Int
  inp : ByteArray
  fin : Bool
  told : Int
  bl : PV
  pe : PV
  dleft : Int
  di : PV
@[reducible] def MachP.cells (m : MachP) : List PV := [.v (.int .u64 m.clock), .v (.int .i64 m.quantum), .v (.int .i64 m.cur), .v (.int .i64 m.left), m.fr, m.pr, .v (.int .i64 m.next), .v (.string m.ini), m.pi, .v (.int .i64 m.newPipe), .v (.string m.inp), .v (.bool m.fin), .v (.int .u64 m.told), m.bl, m.pe, .v (.int .i64 m.dleft), m.di]
@[reducible] def MachP.pv (m : MachP) : PV := .agg m.cells
@[reducible] def Mach.p (m : Mach) : MachP := ⟨m.clock, m.quantum, m.cur, m.left, .lst m.fr, .lst m.pr, m.next, m.ini, .lst m.pi, m.newPipe, m.inp, m.fin, m.told, .lst m.bl, .lst m.pe, m.dleft, .lst m.di⟩
@[reducible] def zeroP : MachP := ⟨0, 0, 0, 0, .v (.slice none 0 0), .v (.slice none 0 0), 0, ⟨#[]⟩, .v (.slice none 0 0), 0, ⟨#[]⟩, false, 0, .v (.slice none 0 0), .v (.slice none 0 0), 0, .v (.slice none 0 0)⟩
@[reducible] def MachP.fed (m : MachP) (inp : ByteArray) (fin : Bool) : MachP := ⟨m.clock, m.quantum, m.cur, m.left, m.fr, m.pr, m.next, m.ini, m.pi, m.newPipe, inp, fin, m.told, m.bl, m.pe, m.dleft, m.di⟩
def FlatP (p : PV) : Prop := (∃ es, p = .lst es) ∨ ∃ x, p = .v x
structure MachP.Flat (m : MachP) : Prop where
  fr : FlatP m.fr
  pr : FlatP m.pr
  pi : FlatP m.pi
  bl : FlatP m.bl
  pe : FlatP m.pe
  di : FlatP m.di
theorem canon_flat {h : Hp} {p : PV} {acc : Acc} (hp : FlatP p) : canon h p acc = some (p, acc) := by
  rcases hp with ⟨es, rfl⟩ | ⟨x, rfl⟩ <;> rfl
theorem canon_mach (h : Hp) (m : MachP) (hm : m.Flat) (n : Int) : canon h (.tuple [m.pv, .v (.int .i64 n)]) [] = some (.tuple [m.pv, .v (.int .i64 n)], []) := by
  simp only [canon, canonL, canon_flat hm.fr, canon_flat hm.pr, canon_flat hm.pi, canon_flat hm.bl, canon_flat hm.pe, canon_flat hm.di]
theorem flat_mach (m : Mach) : m.p.Flat := ⟨.inl ⟨_, rfl⟩, .inl ⟨_, rfl⟩, .inl ⟨_, rfl⟩, .inl ⟨_, rfl⟩, .inl ⟨_, rfl⟩, .inl ⟨_, rfl⟩⟩
theorem flat_zero : zeroP.Flat := ⟨.inr ⟨_, rfl⟩, .inr ⟨_, rfl⟩, .inr ⟨_, rfl⟩, .inr ⟨_, rfl⟩, .inr ⟨_, rfl⟩, .inr ⟨_, rfl⟩⟩
theorem flat_fed {m : MachP} (h : m.Flat) (i : ByteArray) (e : Bool) : (m.fed i e).Flat := ⟨h.fr, h.pr, h.pi, h.bl, h.pe, h.di⟩

/-- What is answered. -/
def feedF (m : MachP) (s : ByteArray) (e : Bool) : MachP × Int :=
  if m.fin then (zeroP, 14) else if 4096 < m.inp.size + s.size then (zeroP, 6) else (m.fed (m.inp ++ s) e, 0)

theorem f8 : Tryz.prog.funcs[8]? = some Tryz.f8 := by kernel_rfl
theorem f9 : Tryz.prog.funcs[9]? = some Tryz.f9 := by kernel_rfl

section
variable {eq : TypeId → Option (List EK)} {sp : FuncId → Option (List PV → Option Res)} {il : FuncId → Bool} {bl' : TypeId → Bool} {is : FuncId → Option (Nat → List PV → Hp → Option (PV × Ups))}

theorem feed8 (m : MachP) (hm : m.Flat) (s : ByteArray) (e : Bool) (h1 : m.inp.size ≤ 10000) (h2 : s.size ≤ 10000) : evalPure (ctxOf Tryz.prog eq sp il bl' is) (evW (ctxOf Tryz.prog eq sp il bl' is)) 8 [m.pv, .v (.string s), .v (.bool e)] = some (.tuple [(feedF m s e).1.pv, .v (.int .i64 (feedF m s e).2)], []) := by
  have ty9 : (ctxOf Tryz.prog eq sp il bl' is).ty 9 = .str := ty9
  have ty30 : (ctxOf Tryz.prog eq sp il bl' is).ty 30 = .struct [(0, 1), (1, 1), (2, 1), (3, 1), (4, 1), (5, 1), (6, 1), (7, 1), (8, 1), (9, 1), (10, 1), (11, 1), (12, 1), (13, 3), (16, 1)] := tyMach
  have ld4 : (ctxOf Tryz.prog eq sp il bl' is).isAgg 4 = some false ∧ (ctxOf Tryz.prog eq sp il bl' is).size 4 = 1 := ⟨by kernel_rfl, by kernel_rfl⟩
  have ld9 : (ctxOf Tryz.prog eq sp il bl' is).isAgg 9 = some false ∧ (ctxOf Tryz.prog eq sp il bl' is).size 9 = 1 := ⟨by kernel_rfl, by kernel_rfl⟩
  have ld30 : (ctxOf Tryz.prog eq sp il bl' is).isAgg 30 = some true ∧ (ctxOf Tryz.prog eq sp il bl' is).size 30 = 17 := ⟨by kernel_rfl, by kernel_rfl⟩
  have hz : buildP (ctxOf Tryz.prog eq sp il bl' is) 30 [] = some zeroP.pv := by kernel_rfl
  refine pure_of_runs (fn := Tryz.f8) f8 rfl ?_
  refine runs_seq (runs_region (by rfl) ?_)
  refine runs_seq (runs_block (runs_seq (runs_region (opsQ rfl (stepK_field rfl ty30 rfl rfl rfl) rfl rfl (opsQ rfl (stepK_load rfl ld4 rfl rfl rfl rfl) rfl rfl (opsQ rfl rfl rfl rfl rfl))) (runs_cond (v := m.fin) (by rfl) (fun hf => ?_) (fun hf => ?_)))))
  · have : feedF m s e = (zeroP, 14) := by simp [feedF, hf]
    rw [this]
    refine runs_seq (runs_region (opsQ rfl (stepK_build rfl hz) rfl rfl (opsM rfl (stepK_storeA rfl ld30 rfl rfl rfl rfl rfl rfl) rfl (opsQ rfl rfl rfl rfl rfl))) ?_)
    exact runs_ret ⟨by simp, _, _, _, res_cell ld30 rfl rfl rfl rfl rfl, canon_mach _ _ flat_zero _, rfl⟩
  · refine runs_seq (runs_region (opsQ rfl (stepK_field rfl ty30 rfl rfl rfl) rfl rfl (opsQ rfl (stepK_load rfl ld9 rfl rfl rfl rfl) rfl rfl (opsQ rfl (stepK_lenS ⟨_, rfl, rfl⟩ ty9 rfl) rfl rfl (opsQ rfl rfl rfl rfl (opsQ rfl (stepK_lenS ⟨_, rfl, rfl⟩ ty9 rfl) rfl rfl (opsQ rfl (stepK_bin rfl (add_nat (by omega))) rfl rfl (opsQ rfl (stepK_bin rfl (gtr_nat _ 4096)) rfl rfl (opsQ rfl rfl rfl rfl rfl)))))))) (runs_cond (v := decide (4096 < m.inp.size + s.size)) (by rfl) (fun hg => ?_) (fun hg => runs_skip ?_)))
    · have : feedF m s e = (zeroP, 6) := by simp [feedF, hf, of_decide_eq_true hg]
      rw [this]
      refine runs_seq (runs_region (opsQ rfl (stepK_build rfl hz) rfl rfl (opsM rfl (stepK_storeA rfl ld30 rfl rfl rfl rfl rfl rfl) rfl (opsQ rfl rfl rfl rfl rfl))) ?_)
      exact runs_ret ⟨by simp, _, _, _, res_cell ld30 rfl rfl rfl rfl rfl, canon_mach _ _ flat_zero _, rfl⟩
    · have : feedF m s e = (m.fed (m.inp ++ s) e, 0) := by simp [feedF, hf, of_decide_eq_false hg]
      rw [this]
      refine runs_seq (runs_region (opsQ rfl (stepK_field rfl ty30 rfl rfl rfl) rfl rfl (opsQ rfl (stepK_load rfl ld9 rfl rfl rfl rfl) rfl rfl (opsQ rfl rfl rfl rfl (opsQ rfl (stepK_bin rfl (addS (by omega))) rfl rfl (opsQ rfl (stepK_field rfl ty30 rfl rfl rfl) rfl rfl (opsM rfl (stepK_store1 (m.fed (m.inp ++ s) m.fin).cells rfl ld9 rfl rfl rfl rfl rfl rfl rfl) rfl rfl)))))) ?_)
      refine runs_seq (runs_region (opsQ rfl rfl rfl rfl (opsQ rfl (stepK_field rfl ty30 rfl rfl rfl) rfl rfl (opsM rfl (stepK_store1 (m.fed (m.inp ++ s) e).cells rfl ld4 rfl rfl rfl rfl rfl rfl rfl) rfl rfl))) ?_)
      refine runs_seq (runs_region (opsQ rfl (stepK_loadA rfl ld30 rfl rfl rfl rfl) rfl rfl (opsM rfl (stepK_storeA rfl ld30 rfl rfl rfl rfl rfl rfl) rfl (opsQ rfl rfl rfl rfl rfl))) ?_)
      exact runs_ret ⟨by simp, _, _, _, res_cell ld30 rfl rfl rfl rfl rfl, canon_mach _ _ (flat_fed hm _ _) _, rfl⟩

theorem feed9 (m : MachP) (hm : m.Flat) (s : ByteArray) (e : Bool) (h1 : m.inp.size ≤ 10000) (h2 : s.size ≤ 10000) : evalPure (ctxOf Tryz.prog eq sp il bl' is) (evW (ctxOf Tryz.prog eq sp il bl' is)) 9 [m.pv, .v (.string s), .v (.bool e)] = some (.tuple [(feedF m s e).1.pv, .v (.int .i64 (feedF m s e).2)], []) := by
  have ty9 : (ctxOf Tryz.prog eq sp il bl' is).ty 9 = .str := ty9
  have ty30 : (ctxOf Tryz.prog eq sp il bl' is).ty 30 = .struct [(0, 1), (1, 1), (2, 1), (3, 1), (4, 1), (5, 1), (6, 1), (7, 1), (8, 1), (9, 1), (10, 1), (11, 1), (12, 1), (13, 3), (16, 1)] := tyMach
  have ld4 : (ctxOf Tryz.prog eq sp il bl' is).isAgg 4 = some false ∧ (ctxOf Tryz.prog eq sp il bl' is).size 4 = 1 := ⟨by kernel_rfl, by kernel_rfl⟩
  have ld9 : (ctxOf Tryz.prog eq sp il bl' is).isAgg 9 = some false ∧ (ctxOf Tryz.prog eq sp il bl' is).size 9 = 1 := ⟨by kernel_rfl, by kernel_rfl⟩
  have ld30 : (ctxOf Tryz.prog eq sp il bl' is).isAgg 30 = some true ∧ (ctxOf Tryz.prog eq sp il bl' is).size 30 = 17 := ⟨by kernel_rfl, by kernel_rfl⟩
  have hz : buildP (ctxOf Tryz.prog eq sp il bl' is) 30 [] = some zeroP.pv := by kernel_rfl
  refine pure_of_runs (fn := Tryz.f9) f9 rfl ?_
  refine runs_seq (runs_region (by rfl) ?_)
  refine runs_seq (runs_seq (runs_region (opsQ rfl (stepK_field rfl ty30 rfl rfl rfl) rfl rfl (opsQ rfl (stepK_load rfl ld4 rfl rfl rfl rfl) rfl rfl rfl)) (runs_cond (v := m.fin) (by rfl) (fun hf => ?_) (fun hf => runs_skip ?_))))
  · have : feedF m s e = (zeroP, 14) := by simp [feedF, hf]
    rw [this]
    refine runs_seq (runs_region (opsQ rfl (stepK_build rfl hz) rfl rfl (opsM rfl (stepK_storeA rfl ld30 rfl rfl rfl rfl rfl rfl) rfl (opsQ rfl rfl rfl rfl rfl))) ?_)
    exact runs_ret ⟨by simp, _, _, _, res_cell ld30 rfl rfl rfl rfl rfl, canon_mach _ _ flat_zero _, rfl⟩
  · by_cases hs : 4096 < s.size
    · have : feedF m s e = (zeroP, 6) := by simp [feedF, hf, show 4096 < m.inp.size + s.size by omega]
      rw [this]
      refine runs_seq (runs_seq (runs_region (opsQ rfl rfl rfl rfl (opsQ rfl (stepK_lenS ⟨_, rfl, rfl⟩ ty9 rfl) rfl rfl (opsQ rfl (stepK_bin rfl (gtr_is (a := s.size) (b := 4096) (decide_eq_true hs))) rfl rfl (opsQ rfl (stepK_mv (.v (.bool true)) rfl rfl) rfl rfl (opsS rfl rfl rfl (opsS rfl rfl rfl (opsS rfl rfl rfl (opsS rfl rfl rfl (opsS rfl rfl rfl (opsS rfl rfl rfl (opsS rfl rfl rfl (opsQ rfl (stepK_pT (.v (.bool true)) rfl rfl rfl) rfl rfl rfl)))))))))))) (runs_cond (v := true) (by rfl) (fun hg => ?_) (fun hg => by cases hg))))
      refine runs_seq (runs_region (opsQ rfl (stepK_build rfl hz) rfl rfl (opsM rfl (stepK_storeA rfl ld30 rfl rfl rfl rfl rfl rfl) rfl (opsQ rfl rfl rfl rfl rfl))) ?_)
      exact runs_ret ⟨by simp, _, _, _, res_cell ld30 rfl rfl rfl rfl rfl, canon_mach _ _ flat_zero _, rfl⟩
    · refine runs_seq (runs_seq (runs_region (opsQ rfl rfl rfl rfl (opsQ rfl (stepK_lenS ⟨_, rfl, rfl⟩ ty9 rfl) rfl rfl (opsQ rfl (stepK_bin rfl (gtr_is (a := s.size) (b := 4096) (decide_eq_false hs))) rfl rfl (opsQ rfl (stepK_mv (.v (.bool false)) rfl rfl) rfl rfl (opsQ rfl (stepK_field rfl ty30 rfl rfl rfl) rfl rfl (opsQ rfl (stepK_load rfl ld9 rfl rfl rfl rfl) rfl rfl (opsQ rfl (stepK_lenS ⟨_, rfl, rfl⟩ ty9 rfl) rfl rfl (opsQ rfl rfl rfl rfl (opsQ rfl (stepK_lenS ⟨_, rfl, rfl⟩ ty9 rfl) rfl rfl (opsQ rfl (stepK_bin rfl (sub_nat (a := 4096) (by omega) (by decide))) rfl rfl (opsQ rfl (stepK_bin rfl (gtr_nat _ _)) rfl rfl (opsQ rfl rfl rfl rfl rfl)))))))))))) (runs_cond (v := decide (4096 - s.size < m.inp.size)) (by rfl) (fun hg => ?_) (fun hg => runs_skip ?_))))
      · have : feedF m s e = (zeroP, 6) := by simp [feedF, hf, show 4096 < m.inp.size + s.size by have := of_decide_eq_true hg; omega]
        rw [this]
        refine runs_seq (runs_region (opsQ rfl (stepK_build rfl hz) rfl rfl (opsM rfl (stepK_storeA rfl ld30 rfl rfl rfl rfl rfl rfl) rfl (opsQ rfl rfl rfl rfl rfl))) ?_)
        exact runs_ret ⟨by simp, _, _, _, res_cell ld30 rfl rfl rfl rfl rfl, canon_mach _ _ flat_zero _, rfl⟩
      · have : feedF m s e = (m.fed (m.inp ++ s) e, 0) := by simp [feedF, hf, show ¬ 4096 < m.inp.size + s.size by have := of_decide_eq_false hg; omega]
        rw [this]
        refine runs_seq (runs_region (opsQ rfl (stepK_field rfl ty30 rfl rfl rfl) rfl rfl (opsQ rfl (stepK_load rfl ld9 rfl rfl rfl rfl) rfl rfl (opsQ rfl rfl rfl rfl (opsQ rfl (stepK_bin rfl (addS (by omega))) rfl rfl (opsQ rfl (stepK_field rfl ty30 rfl rfl rfl) rfl rfl (opsM rfl (stepK_store1 (m.fed (m.inp ++ s) m.fin).cells rfl ld9 rfl rfl rfl rfl rfl rfl rfl) rfl rfl)))))) ?_)
        refine runs_seq (runs_region (opsQ rfl rfl rfl rfl (opsQ rfl (stepK_field rfl ty30 rfl rfl rfl) rfl rfl (opsM rfl (stepK_store1 (m.fed (m.inp ++ s) e).cells rfl ld4 rfl rfl rfl rfl rfl rfl rfl) rfl rfl))) ?_)
        refine runs_seq (runs_region (opsQ rfl (stepK_loadA rfl ld30 rfl rfl rfl rfl) rfl rfl (opsM rfl (stepK_storeA rfl ld30 rfl rfl rfl rfl rfl rfl) rfl (opsQ rfl rfl rfl rfl rfl))) ?_)
        exact runs_ret ⟨by simp, _, _, _, res_cell ld30 rfl rfl rfl rfl rfl, canon_mach _ _ (flat_fed hm _ _) _, rfl⟩

end
end Go.Ev
end
