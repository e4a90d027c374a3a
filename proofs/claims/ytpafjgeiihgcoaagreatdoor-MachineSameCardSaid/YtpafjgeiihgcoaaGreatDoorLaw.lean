/- A part of the proof: HbLw. No conditions. -/
import Derived.Test.YtpafjgeiihgcoaaGreatDoorSame

section
/- MachineSame: true. -/
set_option linter.unusedVariables false
set_option linter.unusedSimpArgs false
set_option maxRecDepth 10000
set_option maxHeartbeats 8000000
namespace Go.Ev
open Go Go.Proofs

/-- The zero element, as a composite literal builds it. -/
noncomputable def zP (C : Ctx) (T : TypeId) : PV := (buildP C T []).getD .dead

theorem fits_closed : ∀ {ks : List EK} {cs : List PV}, fitsL ks cs = true → closedL cs = true
  | [], cs, h => by cases cs <;> first | rfl | (simp [fitsL] at h)
  | k :: ks, cs, h => by
    cases cs with
    | nil => simp [fitsL] at h
    | cons c r =>
    cases c <;> first | (simp [fitsL] at h; done) | skip
    simp only [fitsL, Bool.and_eq_true] at h
    simp [closedL, PV.closed, fits_closed h.2]
theorem agg_closed {C : Ctx} {T : TypeId} {x : PV} (h : okAgg (C.size T) x = true ∧ nqOf C T x x = some false) : x.closed = true := by
  obtain ⟨h1, h2⟩ := h
  cases x <;> simp only [okAgg] at h1 <;> try (cases h1; done)
  obtain ⟨ks, -, k2⟩ := nq_agg h2
  simp [PV.closed, fits_closed k2]
theorem str_closed {x : PV} (h : okStr x = true) : x.closed = true := by
  unfold okStr at h
  split at h
  · rfl
  · cases h

section
variable {C : Ctx} {cal : Cal} {inl : Inl} {yl : Yl} {dp : Nat} {st : St} {o : Oper}
theorem opsH {sz : Nat} {ops : Array Oper} {os : List Oper} {t : Nat → PV} {h h' : Hp} {d : Nat} {r : PV} {s : St} (hw : wantedP ops o t = some true) (hs : stepOp C cal inl yl dp o ⟨t, h⟩ = some (r, h')) (hd : o.dst = some d) (hsz : Nat.blt d sz = true) (hr : evalOps C cal inl yl dp sz ops os ⟨upd t d r, h'⟩ = some s) : evalOps C cal inl yl dp sz ops (o :: os) ⟨t, h⟩ = some s :=
  ops_cons hw hs (by rw [hd]; have : d < sz := by simpa [Nat.blt_eq] using hsz
                     simp [putP, this]) hr
theorem stepK_bslice {t : TypeId} {len n : Nat} {parts : Array (Nat × Operand)} {es : List PV} (ho : o.op = .buildSlice t len parts) (hg : st.h.G (idOf dp (o.dst.getD 99999) 0) = 0)
    (hb : buildSliceP C (idOf dp (o.dst.getD 99999) 0) 0 t len (parts.toList.map fun (i, x) => (i, opd st.t x)) = some (.row (idOf dp (o.dst.getD 99999) 0) 1 0 es.length n, [(idOf dp (o.dst.getD 99999) 0, 1, .row n es)])) :
    stepOp C cal inl yl dp o st = some (.row (idOf dp (o.dst.getD 99999) 0) 1 0 es.length n, Hp.put st.h (idOf dp (o.dst.getD 99999) 0) 1 (.row n es)) := by
  unfold stepOp
  rw [ho]
  simp only [evalOp, ho, hg, hb, Hp.app]; rfl
theorem elems_lst {h : Hp} {b : Bool} {s : Nat} {es : List PV} (hs : ∀ y ∈ es, y.cells.length = s) : elemsP h b s (.lst es) = some es := by
  simp only [elemsP]
  rw [if_pos]
  intro y hy
  exact hs y (List.mem_of_mem_head? hy)
theorem elems_one {h : Hp} {b : Bool} {s i : Nat} {z : PV} (hG : h.G i = 1) (hH : h.H i = .row s [z]) : elemsP h b s (.row i 1 0 1 s) = some [z] := by
  simp [elemsP, hG, hH]
theorem stepK_append {t e : TypeId} {x y : Operand} {ats : Array TypeId} {b : Bool} {s i : Nat} {es ns : List PV} (ho : o.op = .call { callee := .builtin .append, args := #[x, y], argTypes := ats }) (ha : ats[0]? = some t ∧ ats[1]? = some t) (hty : C.ty t = .slice e) (hag : C.isAgg e = some b) (hsz : C.size e = s)
    (hx : opd st.t x = .row i 1 0 es.length s) (hG : st.h.G i = 1) (hH : st.h.H i = .row s es) (hid : st.h.G (idOf dp (o.dst.getD 99999) 0) = 0) (hne : Nat.beq (idOf dp (o.dst.getD 99999) 0) i = false)
    (hy : elemsP st.h b s (opd st.t y) = some ns) (hbd : (es ++ ns).length * C.bytes e ≤ 140737488355328) (hb0 : 0 < C.bytes e) (hz : (C.zero e).isSome = true) :
    stepOp C cal inl yl dp o st = some (.row (idOf dp (o.dst.getD 99999) 0) 1 0 (es ++ ns).length s, Hp.put (Hp.put st.h i 1 .dead) (idOf dp (o.dst.getD 99999) 0) 1 (.row s (es ++ ns))) := by
  have h1 : (upd st.h.G i 1) (idOf dp (o.dst.getD 99999) 0) = 0 := by
    unfold upd; rw [hne]; exact hid
  have hbd' : (es.length + ns.length) * C.bytes e ≤ 140737488355328 := by rw [← List.length_append]; exact hbd
  have : appendP C st.h (idOf dp (o.dst.getD 99999) 0) t (C.ty t) (opd st.t x) (opd st.t y) = some (.row (idOf dp (o.dst.getD 99999) 0) 1 0 (es ++ ns).length s, [(i, 1, .dead), (idOf dp (o.dst.getD 99999) 0, 1, .row s (es ++ ns))]) := by
    subst hsz
    simp only [appendP, hty, hag, hy, hx, hG, hH, h1, if_true, and_self, Nat.le_refl, true_and]
    rw [if_pos ⟨hbd', hb0, hz⟩]
    simp [List.length_append]
  unfold stepOp
  rw [ho]
  simp only [evalOp, ho, ha.1, ha.2, this, Hp.app]; rfl
theorem addI {t : TypeId} {k : IntKind} {n m : Int} : binP C .add t (.v (.int k n)) (.v (.int k m)) = some (.v (.int k (k.wrap (n + m)))) := by
  simp [binP, intArith]
theorem stepK_notB {x : Operand} {t : TypeId} {b : Bool} (ho : o.op = .unOp .not t x) (hv : opd st.t x = .v (.bool b)) : stepOp C cal inl yl dp o st = some (.v (.bool !b), st.h) := by
  unfold stepOp
  rw [ho]
  simp only [evalOp, ho, hv, unP, Hp.app]
theorem restr_H {rd : List Nat} {h : Hp} {i : Nat} (hc : rd.contains i = true) : (restr rd h).H i = h.H i := by
  simp only [restr, hc, if_true]
theorem reify_row {h : Hp} {i s : Nat} {es : List PV} (hG : h.G i = 1) (hH : h.H i = .row s es) (hc : closedL es = true) : reify h (.row i 1 0 es.length s) = some (.lst es) := by
  simp only [reify, hG, hH, if_true]
  rw [if_pos (by refine ⟨?_, ?_, hc⟩ <;> first | trivial | omega)]
  simp
theorem reify_rowL {rd : List Nat} {h : Hp} {i s : Nat} {es : List PV} (hc : rd.contains i = true) (hG : h.G i = 1) (hH : h.H i = .row s es) (hcl : closedL es = true) : reify (restr rd h) (.row i 1 0 es.length s) = some (.lst es) := reify_row hG ((restr_H hc).trans hH) hcl
theorem reify_two_fr {h : Hp} {m : Mach} {p : PV} {es : List PV} (hp : reify h p = some (.lst es)) : reifyL h [m.pv, .agg ({ m.p with fr := p } : MachP).cells] = some [m.pv, ({ m with fr := es } : Mach).pv] := by
  simp only [reify, reifyL, hp]
theorem reify_two_pr {h : Hp} {m : Mach} {p : PV} {es : List PV} (hp : reify h p = some (.lst es)) : reifyL h [m.pv, .agg ({ m.p with pr := p } : MachP).cells] = some [m.pv, ({ m with pr := es } : Mach).pv] := by
  simp only [reify, reifyL, hp]
theorem reify_two_pi {h : Hp} {m : Mach} {p : PV} {es : List PV} (hp : reify h p = some (.lst es)) : reifyL h [m.pv, .agg ({ m.p with pi := p } : MachP).cells] = some [m.pv, ({ m with pi := es } : Mach).pv] := by
  simp only [reify, reifyL, hp]
theorem reify_two_di {h : Hp} {m : Mach} {p : PV} {es : List PV} (hp : reify h p = some (.lst es)) : reifyL h [m.pv, .agg ({ m.p with di := p } : MachP).cells] = some [m.pv, ({ m with di := es } : Mach).pv] := by
  simp only [reify, reifyL, hp]
theorem mem_deeper {h : Hp} {l : List Nat} {i : Nat} (hi : i ∈ l) : i ∈ deeper h l := List.mem_append_left _ hi
theorem reads_call {fid : FuncId} {x y : Operand} {ats : Array TypeId} {t : Nat → PV} {h : Hp} (ho : o.op = .call { callee := .value (.func fid), args := #[x, y], argTypes := ats }) {i : Nat} (hi : i ∈ readsOf (opd t y)) : (readsH o t h).contains i = true := by
  have : i ∈ reads o t := by
    have hc : clsOf o = 1 := by unfold clsOf; rw [ho]
    unfold reads
    rw [hc, ho]
    simp only [Op.operands, Call.operands]
    simp [List.mem_flatMap]
    first | exact .inr (.inr hi) | exact .inr hi | (right; right; exact hi) | simp [hi]
  have h2 : i ∈ readsH o t h := by
    unfold readsH
    rw [ho]
    exact mem_deeper (mem_deeper this)
  simpa using h2
end

/-- How things stand when the copy was changed. -/
def Post3 (C : Ctx) (a b : Mach) (s : St) : Prop :=
  ∃ xs, Has [(3, .ptr (idOf 0 3 0) 1 0), (4, .ptr (idOf 0 4 0) 1 0), (7, .ptr (idOf 0 7 0) 1 0)] s.t ∧ (s.h.G (idOf 0 3 0) = 1 ∧ s.h.H (idOf 0 3 0) = .var a.cells) ∧ (s.h.G (idOf 0 4 0) = 1 ∧ s.h.H (idOf 0 4 0) = .var b.cells) ∧ (s.h.G (idOf 0 7 0) = 1 ∧ s.h.H (idOf 0 7 0) = .var xs) ∧ xs.length = 17 ∧
    ∀ rd, (∀ i ∈ refsL xs, rd.contains i = true) → callP (calOf C (evW C)) (restr rd s.h) (idOf 0 200 0) 6 [a.pv, .agg xs] = some (.v (.bool false), [])

theorem f3 : Tryz.prog.funcs[3]? = some Tryz.f3 := by kernel_rfl
theorem tmod_12 {k : Int} (h : 0 ≤ k ∧ k ≤ 255) : ∃ j : Nat, j < 12 ∧ k.tmod 12 = (j : Int) := by
  refine ⟨(k.tmod 12).toNat, ?_, ?_⟩
  · rw [Int.tmod_eq_emod_of_nonneg h.1]; omega
  · rw [Int.tmod_eq_emod_of_nonneg h.1]; omega

section
variable {eq : TypeId → Option (List EK)} {sp : FuncId → Option (List PV → Option Res)} {il : FuncId → Bool} {bl' : TypeId → Bool} {is : FuncId → Option (Nat → List PV → Hp → Option (PV × Ups))}

theorem law3 (h5 : calOf (ctxOf Tryz.prog eq sp il bl' is) (evW (ctxOf Tryz.prog eq sp il bl' is)) 5 [] = some (.v (.bool true), [])) (c5 : (ctxOf Tryz.prog eq sp il bl' is).callable 5 = true ∧ (ctxOf Tryz.prog eq sp il bl' is).isp 5 = none ∧ (ctxOf Tryz.prog eq sp il bl' is).inl 5 = false) (hk : (ctxOf Tryz.prog eq sp il bl' is).eqOk 60 = some restK) (o6 : Bare (ctxOf Tryz.prog eq sp il bl' is) 6) (o7 : Bare (ctxOf Tryz.prog eq sp il bl' is) 7) (o10 : Bare (ctxOf Tryz.prog eq sp il bl' is) 10) (o13 : Bare (ctxOf Tryz.prog eq sp il bl' is) 13) (o14 : Bare (ctxOf Tryz.prog eq sp il bl' is) 14) (o15 : Bare (ctxOf Tryz.prog eq sp il bl' is) 15) (o16 : Bare (ctxOf Tryz.prog eq sp il bl' is) 16) (o17 : Bare (ctxOf Tryz.prog eq sp il bl' is) 17) (o18 : Bare (ctxOf Tryz.prog eq sp il bl' is) 18) (o19 : Bare (ctxOf Tryz.prog eq sp il bl' is) 19) (o20 : Bare (ctxOf Tryz.prog eq sp il bl' is) 20)
    (g44 : okAgg ((ctxOf Tryz.prog eq sp il bl' is).size 44) (zP (ctxOf Tryz.prog eq sp il bl' is) 44) = true ∧ nqOf (ctxOf Tryz.prog eq sp il bl' is) 44 (zP (ctxOf Tryz.prog eq sp il bl' is) 44) (zP (ctxOf Tryz.prog eq sp il bl' is) 44) = some false) (g46 : okAgg ((ctxOf Tryz.prog eq sp il bl' is).size 46) (zP (ctxOf Tryz.prog eq sp il bl' is) 46) = true ∧ nqOf (ctxOf Tryz.prog eq sp il bl' is) 46 (zP (ctxOf Tryz.prog eq sp il bl' is) 46) (zP (ctxOf Tryz.prog eq sp il bl' is) 46) = some false) (g48 : okAgg ((ctxOf Tryz.prog eq sp il bl' is).size 48) (zP (ctxOf Tryz.prog eq sp il bl' is) 48) = true ∧ nqOf (ctxOf Tryz.prog eq sp il bl' is) 48 (zP (ctxOf Tryz.prog eq sp il bl' is) 48) (zP (ctxOf Tryz.prog eq sp il bl' is) 48) = some false)
    {a b : Mach} (ha : a.Ok (ctxOf Tryz.prog eq sp il bl' is)) (hb : b.Ok (ctxOf Tryz.prog eq sp il bl' is)) (hin : a.inp.size ≤ 9223372036854775000) (k : Int) (hk8 : 0 ≤ k ∧ k ≤ 255) : evalPure (ctxOf Tryz.prog eq sp il bl' is) (evW (ctxOf Tryz.prog eq sp il bl' is)) 3 [a.pv, b.pv, .v (.int .u8 k)] = some (.v (.bool true), []) := by
  have ty4 : (ctxOf Tryz.prog eq sp il bl' is).ty 4 = .bool := ty4
  have ty9 : (ctxOf Tryz.prog eq sp il bl' is).ty 9 = .str := ty9
  have ty30 : (ctxOf Tryz.prog eq sp il bl' is).ty 30 = .struct [(0, 1), (1, 1), (2, 1), (3, 1), (4, 1), (5, 1), (6, 1), (7, 1), (8, 1), (9, 1), (10, 1), (11, 1), (12, 1), (13, 3), (16, 1)] := tyMach
  have ty28 : (ctxOf Tryz.prog eq sp il bl' is).ty 28 = .struct [(0, 1), (1, 1), (2, 1)] := tyDrive
  have sl23' : (ctxOf Tryz.prog eq sp il bl' is).ty 23 = .slice 9 := sl23
  have sl24' : (ctxOf Tryz.prog eq sp il bl' is).ty 24 = .slice 44 := sl24
  have sl25' : (ctxOf Tryz.prog eq sp il bl' is).ty 25 = .slice 46 := sl25
  have sl26' : (ctxOf Tryz.prog eq sp il bl' is).ty 26 = .slice 48 := sl26
  have ld3 : (ctxOf Tryz.prog eq sp il bl' is).isAgg 3 = some false ∧ (ctxOf Tryz.prog eq sp il bl' is).size 3 = 1 := ⟨by kernel_rfl, by kernel_rfl⟩
  have ld4 : (ctxOf Tryz.prog eq sp il bl' is).isAgg 4 = some false ∧ (ctxOf Tryz.prog eq sp il bl' is).size 4 = 1 := ⟨by kernel_rfl, by kernel_rfl⟩
  have ld9 : (ctxOf Tryz.prog eq sp il bl' is).isAgg 9 = some false ∧ (ctxOf Tryz.prog eq sp il bl' is).size 9 = 1 := ⟨by kernel_rfl, by kernel_rfl⟩
  have ld22 : (ctxOf Tryz.prog eq sp il bl' is).isAgg 22 = some false ∧ (ctxOf Tryz.prog eq sp il bl' is).size 22 = 1 := ⟨by kernel_rfl, by kernel_rfl⟩
  have ld23 : (ctxOf Tryz.prog eq sp il bl' is).isAgg 23 = some false ∧ (ctxOf Tryz.prog eq sp il bl' is).size 23 = 1 := ⟨by kernel_rfl, by kernel_rfl⟩
  have ld24 : (ctxOf Tryz.prog eq sp il bl' is).isAgg 24 = some false ∧ (ctxOf Tryz.prog eq sp il bl' is).size 24 = 1 := ⟨by kernel_rfl, by kernel_rfl⟩
  have ld25 : (ctxOf Tryz.prog eq sp il bl' is).isAgg 25 = some false ∧ (ctxOf Tryz.prog eq sp il bl' is).size 25 = 1 := ⟨by kernel_rfl, by kernel_rfl⟩
  have ld26 : (ctxOf Tryz.prog eq sp il bl' is).isAgg 26 = some false ∧ (ctxOf Tryz.prog eq sp il bl' is).size 26 = 1 := ⟨by kernel_rfl, by kernel_rfl⟩
  have ld30 : (ctxOf Tryz.prog eq sp il bl' is).isAgg 30 = some true ∧ (ctxOf Tryz.prog eq sp il bl' is).size 30 = 17 := ⟨by kernel_rfl, by kernel_rfl⟩
  have c6 := o6.c
  have c7 := o7.c
  have hz : ∃ zs, (ctxOf Tryz.prog eq sp il bl' is).zero 30 = some zs ∧ newBlk (ctxOf Tryz.prog eq sp il bl' is) 30 zs = .var (zeroP.cells) := ⟨zeroVs, by kernel_rfl, by kernel_rfl⟩
  have hS : ∀ {x y : Mach}, x.Ok (ctxOf Tryz.prog eq sp il bl' is) → y.Ok (ctxOf Tryz.prog eq sp il bl' is) → calOf (ctxOf Tryz.prog eq sp il bl' is) (evW (ctxOf Tryz.prog eq sp il bl' is)) 6 [x.pv, y.pv] = some (.v (.bool (sameM (ctxOf Tryz.prog eq sp il bl' is) x y)), []) := fun hx hy => o6.cal (same6 hk o13 o14 o15 o16 o17 hx hy)
  have hAB := hS ha hb
  have hAB7 := o7.cal (same7 o10 o18 o19 o20 ha hb)
  have hBA := hS hb ha
  rw [sameM_symm ha hb] at hBA
  have hAA := hS ha ha
  rw [sameM_refl ha] at hAA
  have hF : ∀ {x : Mach}, x.Ok (ctxOf Tryz.prog eq sp il bl' is) → sameM (ctxOf Tryz.prog eq sp il bl' is) a x = false → calOf (ctxOf Tryz.prog eq sp il bl' is) (evW (ctxOf Tryz.prog eq sp il bl' is)) 6 [a.pv, x.pv] = some (.v (.bool false), []) := fun hx hn => by rw [hS ha hx, hn]
  generalize sameM (ctxOf Tryz.prog eq sp il bl' is) a b = s0 at hAB hAB7 hBA
  refine pure_of_runs (fn := Tryz.f3) f3 rfl ?_
  refine runs_seq (runs_region (by rfl) ?_)
  refine runs_seq (runs_seq (runs_region (opsQ rfl (stepK_cal c5 rfl rfl h5 rfl rfl) rfl rfl (opsQ rfl (stepK_notB (b := true) rfl rfl) rfl rfl rfl)) (runs_cond (v := false) (by rfl) (fun h1 => by cases h1) (fun _ => runs_skip ?_))))
  by_cases g0 : 30 < a.fr.length
  · refine runs_seq (runs_seq (runs_region (opsQ rfl (stepK_field rfl ty30 rfl rfl rfl) rfl rfl (opsQ rfl (stepK_load rfl ld23 rfl rfl rfl rfl) rfl rfl (opsQ rfl (stepK_lenL ⟨_, rfl, rfl⟩ sl23' rfl) rfl rfl (opsQ rfl (stepK_bin rfl (gtr_is (a := a.fr.length) (b := 30) (decide_eq_true g0))) rfl rfl (opsQ rfl (stepK_mv (.v (.bool true)) rfl rfl) rfl rfl (opsS rfl rfl rfl (opsS rfl rfl rfl (opsS rfl rfl rfl (opsS rfl rfl rfl (opsQ rfl (stepK_pT (.v (.bool true)) rfl rfl rfl) rfl rfl (opsQ rfl (stepK_mv (.v (.bool true)) rfl rfl) rfl rfl (opsS rfl rfl rfl (opsS rfl rfl rfl (opsS rfl rfl rfl (opsS rfl rfl rfl (opsQ rfl (stepK_pT (.v (.bool true)) rfl rfl rfl) rfl rfl (opsQ rfl (stepK_mv (.v (.bool true)) rfl rfl) rfl rfl (opsS rfl rfl rfl (opsS rfl rfl rfl (opsS rfl rfl rfl (opsS rfl rfl rfl (opsQ rfl (stepK_pT (.v (.bool true)) rfl rfl rfl) rfl rfl (opsQ rfl (stepK_mv (.v (.bool true)) rfl rfl) rfl rfl (opsS rfl rfl rfl (opsS rfl rfl rfl (opsS rfl rfl rfl (opsS rfl rfl rfl (opsQ rfl (stepK_pT (.v (.bool true)) rfl rfl rfl) rfl rfl (opsQ rfl (stepK_mv (.v (.bool true)) rfl rfl) rfl rfl (opsS rfl rfl rfl (opsS rfl rfl rfl (opsS rfl rfl rfl (opsS rfl rfl rfl (opsQ rfl (stepK_pT (.v (.bool true)) rfl rfl rfl) rfl rfl (opsQ rfl (stepK_mv (.v (.bool true)) rfl rfl) rfl rfl (opsS rfl rfl rfl (opsS rfl rfl rfl (opsS rfl rfl rfl (opsS rfl rfl rfl (opsS rfl rfl rfl (opsQ rfl (stepK_pT (.v (.bool true)) rfl rfl rfl) rfl rfl (opsQ rfl (stepK_mv (.v (.bool true)) rfl rfl) rfl rfl (opsS rfl rfl rfl (opsS rfl rfl rfl (opsS rfl rfl rfl (opsS rfl rfl rfl (opsS rfl rfl rfl (opsQ rfl (stepK_pT (.v (.bool true)) rfl rfl rfl) rfl rfl (opsQ rfl (stepK_mv (.v (.bool true)) rfl rfl) rfl rfl (opsS rfl rfl rfl (opsS rfl rfl rfl (opsS rfl rfl rfl (opsS rfl rfl rfl (opsS rfl rfl rfl (opsQ rfl (stepK_pT (.v (.bool true)) rfl rfl rfl) rfl rfl (opsQ rfl (stepK_mv (.v (.bool true)) rfl rfl) rfl rfl (opsS rfl rfl rfl (opsS rfl rfl rfl (opsS rfl rfl rfl (opsS rfl rfl rfl (opsS rfl rfl rfl (opsQ rfl (stepK_pT (.v (.bool true)) rfl rfl rfl) rfl rfl (opsQ rfl (stepK_mv (.v (.bool true)) rfl rfl) rfl rfl (opsS rfl rfl rfl (opsS rfl rfl rfl (opsS rfl rfl rfl (opsS rfl rfl rfl (opsQ rfl (stepK_pT (.v (.bool true)) rfl rfl rfl) rfl rfl (opsQ rfl (stepK_mv (.v (.bool true)) rfl rfl) rfl rfl (opsS rfl rfl rfl (opsS rfl rfl rfl (opsS rfl rfl rfl (opsS rfl rfl rfl (opsQ rfl (stepK_pT (.v (.bool true)) rfl rfl rfl) rfl rfl rfl)))))))))))))))))))))))))))))))))))))))))))))))))))))))))))))))))))))))))) (runs_cond (v := true) (by rfl) (fun _ => ?_) (fun h1 => by cases h1))))
    refine runs_seq (runs_region (by rfl) ?_)
    exact runs_ret ⟨by simp, [.v (.bool true)], _, _, res_tmp rfl, rfl, rfl⟩
  by_cases g1 : 30 < b.fr.length
  · refine runs_seq (runs_seq (runs_region (opsQ rfl (stepK_field rfl ty30 rfl rfl rfl) rfl rfl (opsQ rfl (stepK_load rfl ld23 rfl rfl rfl rfl) rfl rfl (opsQ rfl (stepK_lenL ⟨_, rfl, rfl⟩ sl23' rfl) rfl rfl (opsQ rfl (stepK_bin rfl (gtr_is (a := a.fr.length) (b := 30) (decide_eq_false g0))) rfl rfl (opsQ rfl (stepK_mv (.v (.bool false)) rfl rfl) rfl rfl (opsQ rfl (stepK_field rfl ty30 rfl rfl rfl) rfl rfl (opsQ rfl (stepK_load rfl ld23 rfl rfl rfl rfl) rfl rfl (opsQ rfl (stepK_lenL ⟨_, rfl, rfl⟩ sl23' rfl) rfl rfl (opsQ rfl (stepK_bin rfl (gtr_is (a := b.fr.length) (b := 30) (decide_eq_true g1))) rfl rfl (opsQ rfl (stepK_pF (.v (.bool true)) rfl rfl rfl) rfl rfl (opsQ rfl (stepK_mv (.v (.bool true)) rfl rfl) rfl rfl (opsS rfl rfl rfl (opsS rfl rfl rfl (opsS rfl rfl rfl (opsS rfl rfl rfl (opsQ rfl (stepK_pT (.v (.bool true)) rfl rfl rfl) rfl rfl (opsQ rfl (stepK_mv (.v (.bool true)) rfl rfl) rfl rfl (opsS rfl rfl rfl (opsS rfl rfl rfl (opsS rfl rfl rfl (opsS rfl rfl rfl (opsQ rfl (stepK_pT (.v (.bool true)) rfl rfl rfl) rfl rfl (opsQ rfl (stepK_mv (.v (.bool true)) rfl rfl) rfl rfl (opsS rfl rfl rfl (opsS rfl rfl rfl (opsS rfl rfl rfl (opsS rfl rfl rfl (opsQ rfl (stepK_pT (.v (.bool true)) rfl rfl rfl) rfl rfl (opsQ rfl (stepK_mv (.v (.bool true)) rfl rfl) rfl rfl (opsS rfl rfl rfl (opsS rfl rfl rfl (opsS rfl rfl rfl (opsS rfl rfl rfl (opsQ rfl (stepK_pT (.v (.bool true)) rfl rfl rfl) rfl rfl (opsQ rfl (stepK_mv (.v (.bool true)) rfl rfl) rfl rfl (opsS rfl rfl rfl (opsS rfl rfl rfl (opsS rfl rfl rfl (opsS rfl rfl rfl (opsS rfl rfl rfl (opsQ rfl (stepK_pT (.v (.bool true)) rfl rfl rfl) rfl rfl (opsQ rfl (stepK_mv (.v (.bool true)) rfl rfl) rfl rfl (opsS rfl rfl rfl (opsS rfl rfl rfl (opsS rfl rfl rfl (opsS rfl rfl rfl (opsS rfl rfl rfl (opsQ rfl (stepK_pT (.v (.bool true)) rfl rfl rfl) rfl rfl (opsQ rfl (stepK_mv (.v (.bool true)) rfl rfl) rfl rfl (opsS rfl rfl rfl (opsS rfl rfl rfl (opsS rfl rfl rfl (opsS rfl rfl rfl (opsS rfl rfl rfl (opsQ rfl (stepK_pT (.v (.bool true)) rfl rfl rfl) rfl rfl (opsQ rfl (stepK_mv (.v (.bool true)) rfl rfl) rfl rfl (opsS rfl rfl rfl (opsS rfl rfl rfl (opsS rfl rfl rfl (opsS rfl rfl rfl (opsS rfl rfl rfl (opsQ rfl (stepK_pT (.v (.bool true)) rfl rfl rfl) rfl rfl (opsQ rfl (stepK_mv (.v (.bool true)) rfl rfl) rfl rfl (opsS rfl rfl rfl (opsS rfl rfl rfl (opsS rfl rfl rfl (opsS rfl rfl rfl (opsQ rfl (stepK_pT (.v (.bool true)) rfl rfl rfl) rfl rfl (opsQ rfl (stepK_mv (.v (.bool true)) rfl rfl) rfl rfl (opsS rfl rfl rfl (opsS rfl rfl rfl (opsS rfl rfl rfl (opsS rfl rfl rfl (opsQ rfl (stepK_pT (.v (.bool true)) rfl rfl rfl) rfl rfl rfl)))))))))))))))))))))))))))))))))))))))))))))))))))))))))))))))))))))))))) (runs_cond (v := true) (by rfl) (fun _ => ?_) (fun h1 => by cases h1))))
    refine runs_seq (runs_region (by rfl) ?_)
    exact runs_ret ⟨by simp, [.v (.bool true)], _, _, res_tmp rfl, rfl, rfl⟩
  by_cases g2 : 10 < a.pr.length
  · refine runs_seq (runs_seq (runs_region (opsQ rfl (stepK_field rfl ty30 rfl rfl rfl) rfl rfl (opsQ rfl (stepK_load rfl ld23 rfl rfl rfl rfl) rfl rfl (opsQ rfl (stepK_lenL ⟨_, rfl, rfl⟩ sl23' rfl) rfl rfl (opsQ rfl (stepK_bin rfl (gtr_is (a := a.fr.length) (b := 30) (decide_eq_false g0))) rfl rfl (opsQ rfl (stepK_mv (.v (.bool false)) rfl rfl) rfl rfl (opsQ rfl (stepK_field rfl ty30 rfl rfl rfl) rfl rfl (opsQ rfl (stepK_load rfl ld23 rfl rfl rfl rfl) rfl rfl (opsQ rfl (stepK_lenL ⟨_, rfl, rfl⟩ sl23' rfl) rfl rfl (opsQ rfl (stepK_bin rfl (gtr_is (a := b.fr.length) (b := 30) (decide_eq_false g1))) rfl rfl (opsQ rfl (stepK_pF (.v (.bool false)) rfl rfl rfl) rfl rfl (opsQ rfl (stepK_mv (.v (.bool false)) rfl rfl) rfl rfl (opsQ rfl (stepK_field rfl ty30 rfl rfl rfl) rfl rfl (opsQ rfl (stepK_load rfl ld24 rfl rfl rfl rfl) rfl rfl (opsQ rfl (stepK_lenL ⟨_, rfl, rfl⟩ sl24' rfl) rfl rfl (opsQ rfl (stepK_bin rfl (gtr_is (a := a.pr.length) (b := 10) (decide_eq_true g2))) rfl rfl (opsQ rfl (stepK_pF (.v (.bool true)) rfl rfl rfl) rfl rfl (opsQ rfl (stepK_mv (.v (.bool true)) rfl rfl) rfl rfl (opsS rfl rfl rfl (opsS rfl rfl rfl (opsS rfl rfl rfl (opsS rfl rfl rfl (opsQ rfl (stepK_pT (.v (.bool true)) rfl rfl rfl) rfl rfl (opsQ rfl (stepK_mv (.v (.bool true)) rfl rfl) rfl rfl (opsS rfl rfl rfl (opsS rfl rfl rfl (opsS rfl rfl rfl (opsS rfl rfl rfl (opsQ rfl (stepK_pT (.v (.bool true)) rfl rfl rfl) rfl rfl (opsQ rfl (stepK_mv (.v (.bool true)) rfl rfl) rfl rfl (opsS rfl rfl rfl (opsS rfl rfl rfl (opsS rfl rfl rfl (opsS rfl rfl rfl (opsQ rfl (stepK_pT (.v (.bool true)) rfl rfl rfl) rfl rfl (opsQ rfl (stepK_mv (.v (.bool true)) rfl rfl) rfl rfl (opsS rfl rfl rfl (opsS rfl rfl rfl (opsS rfl rfl rfl (opsS rfl rfl rfl (opsS rfl rfl rfl (opsQ rfl (stepK_pT (.v (.bool true)) rfl rfl rfl) rfl rfl (opsQ rfl (stepK_mv (.v (.bool true)) rfl rfl) rfl rfl (opsS rfl rfl rfl (opsS rfl rfl rfl (opsS rfl rfl rfl (opsS rfl rfl rfl (opsS rfl rfl rfl (opsQ rfl (stepK_pT (.v (.bool true)) rfl rfl rfl) rfl rfl (opsQ rfl (stepK_mv (.v (.bool true)) rfl rfl) rfl rfl (opsS rfl rfl rfl (opsS rfl rfl rfl (opsS rfl rfl rfl (opsS rfl rfl rfl (opsS rfl rfl rfl (opsQ rfl (stepK_pT (.v (.bool true)) rfl rfl rfl) rfl rfl (opsQ rfl (stepK_mv (.v (.bool true)) rfl rfl) rfl rfl (opsS rfl rfl rfl (opsS rfl rfl rfl (opsS rfl rfl rfl (opsS rfl rfl rfl (opsS rfl rfl rfl (opsQ rfl (stepK_pT (.v (.bool true)) rfl rfl rfl) rfl rfl (opsQ rfl (stepK_mv (.v (.bool true)) rfl rfl) rfl rfl (opsS rfl rfl rfl (opsS rfl rfl rfl (opsS rfl rfl rfl (opsS rfl rfl rfl (opsQ rfl (stepK_pT (.v (.bool true)) rfl rfl rfl) rfl rfl (opsQ rfl (stepK_mv (.v (.bool true)) rfl rfl) rfl rfl (opsS rfl rfl rfl (opsS rfl rfl rfl (opsS rfl rfl rfl (opsS rfl rfl rfl (opsQ rfl (stepK_pT (.v (.bool true)) rfl rfl rfl) rfl rfl rfl)))))))))))))))))))))))))))))))))))))))))))))))))))))))))))))))))))))))))) (runs_cond (v := true) (by rfl) (fun _ => ?_) (fun h1 => by cases h1))))
    refine runs_seq (runs_region (by rfl) ?_)
    exact runs_ret ⟨by simp, [.v (.bool true)], _, _, res_tmp rfl, rfl, rfl⟩
  by_cases g3 : 10 < b.pr.length
  · refine runs_seq (runs_seq (runs_region (opsQ rfl (stepK_field rfl ty30 rfl rfl rfl) rfl rfl (opsQ rfl (stepK_load rfl ld23 rfl rfl rfl rfl) rfl rfl (opsQ rfl (stepK_lenL ⟨_, rfl, rfl⟩ sl23' rfl) rfl rfl (opsQ rfl (stepK_bin rfl (gtr_is (a := a.fr.length) (b := 30) (decide_eq_false g0))) rfl rfl (opsQ rfl (stepK_mv (.v (.bool false)) rfl rfl) rfl rfl (opsQ rfl (stepK_field rfl ty30 rfl rfl rfl) rfl rfl (opsQ rfl (stepK_load rfl ld23 rfl rfl rfl rfl) rfl rfl (opsQ rfl (stepK_lenL ⟨_, rfl, rfl⟩ sl23' rfl) rfl rfl (opsQ rfl (stepK_bin rfl (gtr_is (a := b.fr.length) (b := 30) (decide_eq_false g1))) rfl rfl (opsQ rfl (stepK_pF (.v (.bool false)) rfl rfl rfl) rfl rfl (opsQ rfl (stepK_mv (.v (.bool false)) rfl rfl) rfl rfl (opsQ rfl (stepK_field rfl ty30 rfl rfl rfl) rfl rfl (opsQ rfl (stepK_load rfl ld24 rfl rfl rfl rfl) rfl rfl (opsQ rfl (stepK_lenL ⟨_, rfl, rfl⟩ sl24' rfl) rfl rfl (opsQ rfl (stepK_bin rfl (gtr_is (a := a.pr.length) (b := 10) (decide_eq_false g2))) rfl rfl (opsQ rfl (stepK_pF (.v (.bool false)) rfl rfl rfl) rfl rfl (opsQ rfl (stepK_mv (.v (.bool false)) rfl rfl) rfl rfl (opsQ rfl (stepK_field rfl ty30 rfl rfl rfl) rfl rfl (opsQ rfl (stepK_load rfl ld24 rfl rfl rfl rfl) rfl rfl (opsQ rfl (stepK_lenL ⟨_, rfl, rfl⟩ sl24' rfl) rfl rfl (opsQ rfl (stepK_bin rfl (gtr_is (a := b.pr.length) (b := 10) (decide_eq_true g3))) rfl rfl (opsQ rfl (stepK_pF (.v (.bool true)) rfl rfl rfl) rfl rfl (opsQ rfl (stepK_mv (.v (.bool true)) rfl rfl) rfl rfl (opsS rfl rfl rfl (opsS rfl rfl rfl (opsS rfl rfl rfl (opsS rfl rfl rfl (opsQ rfl (stepK_pT (.v (.bool true)) rfl rfl rfl) rfl rfl (opsQ rfl (stepK_mv (.v (.bool true)) rfl rfl) rfl rfl (opsS rfl rfl rfl (opsS rfl rfl rfl (opsS rfl rfl rfl (opsS rfl rfl rfl (opsQ rfl (stepK_pT (.v (.bool true)) rfl rfl rfl) rfl rfl (opsQ rfl (stepK_mv (.v (.bool true)) rfl rfl) rfl rfl (opsS rfl rfl rfl (opsS rfl rfl rfl (opsS rfl rfl rfl (opsS rfl rfl rfl (opsS rfl rfl rfl (opsQ rfl (stepK_pT (.v (.bool true)) rfl rfl rfl) rfl rfl (opsQ rfl (stepK_mv (.v (.bool true)) rfl rfl) rfl rfl (opsS rfl rfl rfl (opsS rfl rfl rfl (opsS rfl rfl rfl (opsS rfl rfl rfl (opsS rfl rfl rfl (opsQ rfl (stepK_pT (.v (.bool true)) rfl rfl rfl) rfl rfl (opsQ rfl (stepK_mv (.v (.bool true)) rfl rfl) rfl rfl (opsS rfl rfl rfl (opsS rfl rfl rfl (opsS rfl rfl rfl (opsS rfl rfl rfl (opsS rfl rfl rfl (opsQ rfl (stepK_pT (.v (.bool true)) rfl rfl rfl) rfl rfl (opsQ rfl (stepK_mv (.v (.bool true)) rfl rfl) rfl rfl (opsS rfl rfl rfl (opsS rfl rfl rfl (opsS rfl rfl rfl (opsS rfl rfl rfl (opsS rfl rfl rfl (opsQ rfl (stepK_pT (.v (.bool true)) rfl rfl rfl) rfl rfl (opsQ rfl (stepK_mv (.v (.bool true)) rfl rfl) rfl rfl (opsS rfl rfl rfl (opsS rfl rfl rfl (opsS rfl rfl rfl (opsS rfl rfl rfl (opsQ rfl (stepK_pT (.v (.bool true)) rfl rfl rfl) rfl rfl (opsQ rfl (stepK_mv (.v (.bool true)) rfl rfl) rfl rfl (opsS rfl rfl rfl (opsS rfl rfl rfl (opsS rfl rfl rfl (opsS rfl rfl rfl (opsQ rfl (stepK_pT (.v (.bool true)) rfl rfl rfl) rfl rfl rfl)))))))))))))))))))))))))))))))))))))))))))))))))))))))))))))))))))))))))) (runs_cond (v := true) (by rfl) (fun _ => ?_) (fun h1 => by cases h1))))
    refine runs_seq (runs_region (by rfl) ?_)
    exact runs_ret ⟨by simp, [.v (.bool true)], _, _, res_tmp rfl, rfl, rfl⟩
  by_cases g4 : 20 < a.pi.length
  · refine runs_seq (runs_seq (runs_region (opsQ rfl (stepK_field rfl ty30 rfl rfl rfl) rfl rfl (opsQ rfl (stepK_load rfl ld23 rfl rfl rfl rfl) rfl rfl (opsQ rfl (stepK_lenL ⟨_, rfl, rfl⟩ sl23' rfl) rfl rfl (opsQ rfl (stepK_bin rfl (gtr_is (a := a.fr.length) (b := 30) (decide_eq_false g0))) rfl rfl (opsQ rfl (stepK_mv (.v (.bool false)) rfl rfl) rfl rfl (opsQ rfl (stepK_field rfl ty30 rfl rfl rfl) rfl rfl (opsQ rfl (stepK_load rfl ld23 rfl rfl rfl rfl) rfl rfl (opsQ rfl (stepK_lenL ⟨_, rfl, rfl⟩ sl23' rfl) rfl rfl (opsQ rfl (stepK_bin rfl (gtr_is (a := b.fr.length) (b := 30) (decide_eq_false g1))) rfl rfl (opsQ rfl (stepK_pF (.v (.bool false)) rfl rfl rfl) rfl rfl (opsQ rfl (stepK_mv (.v (.bool false)) rfl rfl) rfl rfl (opsQ rfl (stepK_field rfl ty30 rfl rfl rfl) rfl rfl (opsQ rfl (stepK_load rfl ld24 rfl rfl rfl rfl) rfl rfl (opsQ rfl (stepK_lenL ⟨_, rfl, rfl⟩ sl24' rfl) rfl rfl (opsQ rfl (stepK_bin rfl (gtr_is (a := a.pr.length) (b := 10) (decide_eq_false g2))) rfl rfl (opsQ rfl (stepK_pF (.v (.bool false)) rfl rfl rfl) rfl rfl (opsQ rfl (stepK_mv (.v (.bool false)) rfl rfl) rfl rfl (opsQ rfl (stepK_field rfl ty30 rfl rfl rfl) rfl rfl (opsQ rfl (stepK_load rfl ld24 rfl rfl rfl rfl) rfl rfl (opsQ rfl (stepK_lenL ⟨_, rfl, rfl⟩ sl24' rfl) rfl rfl (opsQ rfl (stepK_bin rfl (gtr_is (a := b.pr.length) (b := 10) (decide_eq_false g3))) rfl rfl (opsQ rfl (stepK_pF (.v (.bool false)) rfl rfl rfl) rfl rfl (opsQ rfl (stepK_mv (.v (.bool false)) rfl rfl) rfl rfl (opsQ rfl (stepK_field rfl ty30 rfl rfl rfl) rfl rfl (opsQ rfl (stepK_load rfl ld25 rfl rfl rfl rfl) rfl rfl (opsQ rfl (stepK_lenL ⟨_, rfl, rfl⟩ sl25' rfl) rfl rfl (opsQ rfl (stepK_bin rfl (gtr_is (a := a.pi.length) (b := 20) (decide_eq_true g4))) rfl rfl (opsQ rfl (stepK_pF (.v (.bool true)) rfl rfl rfl) rfl rfl (opsQ rfl (stepK_mv (.v (.bool true)) rfl rfl) rfl rfl (opsS rfl rfl rfl (opsS rfl rfl rfl (opsS rfl rfl rfl (opsS rfl rfl rfl (opsQ rfl (stepK_pT (.v (.bool true)) rfl rfl rfl) rfl rfl (opsQ rfl (stepK_mv (.v (.bool true)) rfl rfl) rfl rfl (opsS rfl rfl rfl (opsS rfl rfl rfl (opsS rfl rfl rfl (opsS rfl rfl rfl (opsS rfl rfl rfl (opsQ rfl (stepK_pT (.v (.bool true)) rfl rfl rfl) rfl rfl (opsQ rfl (stepK_mv (.v (.bool true)) rfl rfl) rfl rfl (opsS rfl rfl rfl (opsS rfl rfl rfl (opsS rfl rfl rfl (opsS rfl rfl rfl (opsS rfl rfl rfl (opsQ rfl (stepK_pT (.v (.bool true)) rfl rfl rfl) rfl rfl (opsQ rfl (stepK_mv (.v (.bool true)) rfl rfl) rfl rfl (opsS rfl rfl rfl (opsS rfl rfl rfl (opsS rfl rfl rfl (opsS rfl rfl rfl (opsS rfl rfl rfl (opsQ rfl (stepK_pT (.v (.bool true)) rfl rfl rfl) rfl rfl (opsQ rfl (stepK_mv (.v (.bool true)) rfl rfl) rfl rfl (opsS rfl rfl rfl (opsS rfl rfl rfl (opsS rfl rfl rfl (opsS rfl rfl rfl (opsS rfl rfl rfl (opsQ rfl (stepK_pT (.v (.bool true)) rfl rfl rfl) rfl rfl (opsQ rfl (stepK_mv (.v (.bool true)) rfl rfl) rfl rfl (opsS rfl rfl rfl (opsS rfl rfl rfl (opsS rfl rfl rfl (opsS rfl rfl rfl (opsQ rfl (stepK_pT (.v (.bool true)) rfl rfl rfl) rfl rfl (opsQ rfl (stepK_mv (.v (.bool true)) rfl rfl) rfl rfl (opsS rfl rfl rfl (opsS rfl rfl rfl (opsS rfl rfl rfl (opsS rfl rfl rfl (opsQ rfl (stepK_pT (.v (.bool true)) rfl rfl rfl) rfl rfl rfl)))))))))))))))))))))))))))))))))))))))))))))))))))))))))))))))))))))))))) (runs_cond (v := true) (by rfl) (fun _ => ?_) (fun h1 => by cases h1))))
    refine runs_seq (runs_region (by rfl) ?_)
    exact runs_ret ⟨by simp, [.v (.bool true)], _, _, res_tmp rfl, rfl, rfl⟩
  by_cases g5 : 20 < b.pi.length
  · refine runs_seq (runs_seq (runs_region (opsQ rfl (stepK_field rfl ty30 rfl rfl rfl) rfl rfl (opsQ rfl (stepK_load rfl ld23 rfl rfl rfl rfl) rfl rfl (opsQ rfl (stepK_lenL ⟨_, rfl, rfl⟩ sl23' rfl) rfl rfl (opsQ rfl (stepK_bin rfl (gtr_is (a := a.fr.length) (b := 30) (decide_eq_false g0))) rfl rfl (opsQ rfl (stepK_mv (.v (.bool false)) rfl rfl) rfl rfl (opsQ rfl (stepK_field rfl ty30 rfl rfl rfl) rfl rfl (opsQ rfl (stepK_load rfl ld23 rfl rfl rfl rfl) rfl rfl (opsQ rfl (stepK_lenL ⟨_, rfl, rfl⟩ sl23' rfl) rfl rfl (opsQ rfl (stepK_bin rfl (gtr_is (a := b.fr.length) (b := 30) (decide_eq_false g1))) rfl rfl (opsQ rfl (stepK_pF (.v (.bool false)) rfl rfl rfl) rfl rfl (opsQ rfl (stepK_mv (.v (.bool false)) rfl rfl) rfl rfl (opsQ rfl (stepK_field rfl ty30 rfl rfl rfl) rfl rfl (opsQ rfl (stepK_load rfl ld24 rfl rfl rfl rfl) rfl rfl (opsQ rfl (stepK_lenL ⟨_, rfl, rfl⟩ sl24' rfl) rfl rfl (opsQ rfl (stepK_bin rfl (gtr_is (a := a.pr.length) (b := 10) (decide_eq_false g2))) rfl rfl (opsQ rfl (stepK_pF (.v (.bool false)) rfl rfl rfl) rfl rfl (opsQ rfl (stepK_mv (.v (.bool false)) rfl rfl) rfl rfl (opsQ rfl (stepK_field rfl ty30 rfl rfl rfl) rfl rfl (opsQ rfl (stepK_load rfl ld24 rfl rfl rfl rfl) rfl rfl (opsQ rfl (stepK_lenL ⟨_, rfl, rfl⟩ sl24' rfl) rfl rfl (opsQ rfl (stepK_bin rfl (gtr_is (a := b.pr.length) (b := 10) (decide_eq_false g3))) rfl rfl (opsQ rfl (stepK_pF (.v (.bool false)) rfl rfl rfl) rfl rfl (opsQ rfl (stepK_mv (.v (.bool false)) rfl rfl) rfl rfl (opsQ rfl (stepK_field rfl ty30 rfl rfl rfl) rfl rfl (opsQ rfl (stepK_load rfl ld25 rfl rfl rfl rfl) rfl rfl (opsQ rfl (stepK_lenL ⟨_, rfl, rfl⟩ sl25' rfl) rfl rfl (opsQ rfl (stepK_bin rfl (gtr_is (a := a.pi.length) (b := 20) (decide_eq_false g4))) rfl rfl (opsQ rfl (stepK_pF (.v (.bool false)) rfl rfl rfl) rfl rfl (opsQ rfl (stepK_mv (.v (.bool false)) rfl rfl) rfl rfl (opsQ rfl (stepK_field rfl ty30 rfl rfl rfl) rfl rfl (opsQ rfl (stepK_load rfl ld25 rfl rfl rfl rfl) rfl rfl (opsQ rfl (stepK_lenL ⟨_, rfl, rfl⟩ sl25' rfl) rfl rfl (opsQ rfl (stepK_bin rfl (gtr_is (a := b.pi.length) (b := 20) (decide_eq_true g5))) rfl rfl (opsQ rfl (stepK_pF (.v (.bool true)) rfl rfl rfl) rfl rfl (opsQ rfl (stepK_mv (.v (.bool true)) rfl rfl) rfl rfl (opsS rfl rfl rfl (opsS rfl rfl rfl (opsS rfl rfl rfl (opsS rfl rfl rfl (opsS rfl rfl rfl (opsQ rfl (stepK_pT (.v (.bool true)) rfl rfl rfl) rfl rfl (opsQ rfl (stepK_mv (.v (.bool true)) rfl rfl) rfl rfl (opsS rfl rfl rfl (opsS rfl rfl rfl (opsS rfl rfl rfl (opsS rfl rfl rfl (opsS rfl rfl rfl (opsQ rfl (stepK_pT (.v (.bool true)) rfl rfl rfl) rfl rfl (opsQ rfl (stepK_mv (.v (.bool true)) rfl rfl) rfl rfl (opsS rfl rfl rfl (opsS rfl rfl rfl (opsS rfl rfl rfl (opsS rfl rfl rfl (opsS rfl rfl rfl (opsQ rfl (stepK_pT (.v (.bool true)) rfl rfl rfl) rfl rfl (opsQ rfl (stepK_mv (.v (.bool true)) rfl rfl) rfl rfl (opsS rfl rfl rfl (opsS rfl rfl rfl (opsS rfl rfl rfl (opsS rfl rfl rfl (opsS rfl rfl rfl (opsQ rfl (stepK_pT (.v (.bool true)) rfl rfl rfl) rfl rfl (opsQ rfl (stepK_mv (.v (.bool true)) rfl rfl) rfl rfl (opsS rfl rfl rfl (opsS rfl rfl rfl (opsS rfl rfl rfl (opsS rfl rfl rfl (opsQ rfl (stepK_pT (.v (.bool true)) rfl rfl rfl) rfl rfl (opsQ rfl (stepK_mv (.v (.bool true)) rfl rfl) rfl rfl (opsS rfl rfl rfl (opsS rfl rfl rfl (opsS rfl rfl rfl (opsS rfl rfl rfl (opsQ rfl (stepK_pT (.v (.bool true)) rfl rfl rfl) rfl rfl rfl)))))))))))))))))))))))))))))))))))))))))))))))))))))))))))))))))))))))))) (runs_cond (v := true) (by rfl) (fun _ => ?_) (fun h1 => by cases h1))))
    refine runs_seq (runs_region (by rfl) ?_)
    exact runs_ret ⟨by simp, [.v (.bool true)], _, _, res_tmp rfl, rfl, rfl⟩
  by_cases g6 : 200 < a.bl.length
  · refine runs_seq (runs_seq (runs_region (opsQ rfl (stepK_field rfl ty30 rfl rfl rfl) rfl rfl (opsQ rfl (stepK_load rfl ld23 rfl rfl rfl rfl) rfl rfl (opsQ rfl (stepK_lenL ⟨_, rfl, rfl⟩ sl23' rfl) rfl rfl (opsQ rfl (stepK_bin rfl (gtr_is (a := a.fr.length) (b := 30) (decide_eq_false g0))) rfl rfl (opsQ rfl (stepK_mv (.v (.bool false)) rfl rfl) rfl rfl (opsQ rfl (stepK_field rfl ty30 rfl rfl rfl) rfl rfl (opsQ rfl (stepK_load rfl ld23 rfl rfl rfl rfl) rfl rfl (opsQ rfl (stepK_lenL ⟨_, rfl, rfl⟩ sl23' rfl) rfl rfl (opsQ rfl (stepK_bin rfl (gtr_is (a := b.fr.length) (b := 30) (decide_eq_false g1))) rfl rfl (opsQ rfl (stepK_pF (.v (.bool false)) rfl rfl rfl) rfl rfl (opsQ rfl (stepK_mv (.v (.bool false)) rfl rfl) rfl rfl (opsQ rfl (stepK_field rfl ty30 rfl rfl rfl) rfl rfl (opsQ rfl (stepK_load rfl ld24 rfl rfl rfl rfl) rfl rfl (opsQ rfl (stepK_lenL ⟨_, rfl, rfl⟩ sl24' rfl) rfl rfl (opsQ rfl (stepK_bin rfl (gtr_is (a := a.pr.length) (b := 10) (decide_eq_false g2))) rfl rfl (opsQ rfl (stepK_pF (.v (.bool false)) rfl rfl rfl) rfl rfl (opsQ rfl (stepK_mv (.v (.bool false)) rfl rfl) rfl rfl (opsQ rfl (stepK_field rfl ty30 rfl rfl rfl) rfl rfl (opsQ rfl (stepK_load rfl ld24 rfl rfl rfl rfl) rfl rfl (opsQ rfl (stepK_lenL ⟨_, rfl, rfl⟩ sl24' rfl) rfl rfl (opsQ rfl (stepK_bin rfl (gtr_is (a := b.pr.length) (b := 10) (decide_eq_false g3))) rfl rfl (opsQ rfl (stepK_pF (.v (.bool false)) rfl rfl rfl) rfl rfl (opsQ rfl (stepK_mv (.v (.bool false)) rfl rfl) rfl rfl (opsQ rfl (stepK_field rfl ty30 rfl rfl rfl) rfl rfl (opsQ rfl (stepK_load rfl ld25 rfl rfl rfl rfl) rfl rfl (opsQ rfl (stepK_lenL ⟨_, rfl, rfl⟩ sl25' rfl) rfl rfl (opsQ rfl (stepK_bin rfl (gtr_is (a := a.pi.length) (b := 20) (decide_eq_false g4))) rfl rfl (opsQ rfl (stepK_pF (.v (.bool false)) rfl rfl rfl) rfl rfl (opsQ rfl (stepK_mv (.v (.bool false)) rfl rfl) rfl rfl (opsQ rfl (stepK_field rfl ty30 rfl rfl rfl) rfl rfl (opsQ rfl (stepK_load rfl ld25 rfl rfl rfl rfl) rfl rfl (opsQ rfl (stepK_lenL ⟨_, rfl, rfl⟩ sl25' rfl) rfl rfl (opsQ rfl (stepK_bin rfl (gtr_is (a := b.pi.length) (b := 20) (decide_eq_false g5))) rfl rfl (opsQ rfl (stepK_pF (.v (.bool false)) rfl rfl rfl) rfl rfl (opsQ rfl (stepK_mv (.v (.bool false)) rfl rfl) rfl rfl (opsQ rfl (stepK_field rfl ty30 rfl rfl rfl) rfl rfl (opsQ rfl (stepK_field rfl ty28 rfl rfl rfl) rfl rfl (opsQ rfl (stepK_load rfl ld23 rfl rfl rfl rfl) rfl rfl (opsQ rfl (stepK_lenL ⟨_, rfl, rfl⟩ sl23' rfl) rfl rfl (opsQ rfl (stepK_bin rfl (gtr_is (a := a.bl.length) (b := 200) (decide_eq_true g6))) rfl rfl (opsQ rfl (stepK_pF (.v (.bool true)) rfl rfl rfl) rfl rfl (opsQ rfl (stepK_mv (.v (.bool true)) rfl rfl) rfl rfl (opsS rfl rfl rfl (opsS rfl rfl rfl (opsS rfl rfl rfl (opsS rfl rfl rfl (opsS rfl rfl rfl (opsQ rfl (stepK_pT (.v (.bool true)) rfl rfl rfl) rfl rfl (opsQ rfl (stepK_mv (.v (.bool true)) rfl rfl) rfl rfl (opsS rfl rfl rfl (opsS rfl rfl rfl (opsS rfl rfl rfl (opsS rfl rfl rfl (opsS rfl rfl rfl (opsQ rfl (stepK_pT (.v (.bool true)) rfl rfl rfl) rfl rfl (opsQ rfl (stepK_mv (.v (.bool true)) rfl rfl) rfl rfl (opsS rfl rfl rfl (opsS rfl rfl rfl (opsS rfl rfl rfl (opsS rfl rfl rfl (opsS rfl rfl rfl (opsQ rfl (stepK_pT (.v (.bool true)) rfl rfl rfl) rfl rfl (opsQ rfl (stepK_mv (.v (.bool true)) rfl rfl) rfl rfl (opsS rfl rfl rfl (opsS rfl rfl rfl (opsS rfl rfl rfl (opsS rfl rfl rfl (opsQ rfl (stepK_pT (.v (.bool true)) rfl rfl rfl) rfl rfl (opsQ rfl (stepK_mv (.v (.bool true)) rfl rfl) rfl rfl (opsS rfl rfl rfl (opsS rfl rfl rfl (opsS rfl rfl rfl (opsS rfl rfl rfl (opsQ rfl (stepK_pT (.v (.bool true)) rfl rfl rfl) rfl rfl rfl)))))))))))))))))))))))))))))))))))))))))))))))))))))))))))))))))))))))))) (runs_cond (v := true) (by rfl) (fun _ => ?_) (fun h1 => by cases h1))))
    refine runs_seq (runs_region (by rfl) ?_)
    exact runs_ret ⟨by simp, [.v (.bool true)], _, _, res_tmp rfl, rfl, rfl⟩
  by_cases g7 : 200 < b.bl.length
  · refine runs_seq (runs_seq (runs_region (opsQ rfl (stepK_field rfl ty30 rfl rfl rfl) rfl rfl (opsQ rfl (stepK_load rfl ld23 rfl rfl rfl rfl) rfl rfl (opsQ rfl (stepK_lenL ⟨_, rfl, rfl⟩ sl23' rfl) rfl rfl (opsQ rfl (stepK_bin rfl (gtr_is (a := a.fr.length) (b := 30) (decide_eq_false g0))) rfl rfl (opsQ rfl (stepK_mv (.v (.bool false)) rfl rfl) rfl rfl (opsQ rfl (stepK_field rfl ty30 rfl rfl rfl) rfl rfl (opsQ rfl (stepK_load rfl ld23 rfl rfl rfl rfl) rfl rfl (opsQ rfl (stepK_lenL ⟨_, rfl, rfl⟩ sl23' rfl) rfl rfl (opsQ rfl (stepK_bin rfl (gtr_is (a := b.fr.length) (b := 30) (decide_eq_false g1))) rfl rfl (opsQ rfl (stepK_pF (.v (.bool false)) rfl rfl rfl) rfl rfl (opsQ rfl (stepK_mv (.v (.bool false)) rfl rfl) rfl rfl (opsQ rfl (stepK_field rfl ty30 rfl rfl rfl) rfl rfl (opsQ rfl (stepK_load rfl ld24 rfl rfl rfl rfl) rfl rfl (opsQ rfl (stepK_lenL ⟨_, rfl, rfl⟩ sl24' rfl) rfl rfl (opsQ rfl (stepK_bin rfl (gtr_is (a := a.pr.length) (b := 10) (decide_eq_false g2))) rfl rfl (opsQ rfl (stepK_pF (.v (.bool false)) rfl rfl rfl) rfl rfl (opsQ rfl (stepK_mv (.v (.bool false)) rfl rfl) rfl rfl (opsQ rfl (stepK_field rfl ty30 rfl rfl rfl) rfl rfl (opsQ rfl (stepK_load rfl ld24 rfl rfl rfl rfl) rfl rfl (opsQ rfl (stepK_lenL ⟨_, rfl, rfl⟩ sl24' rfl) rfl rfl (opsQ rfl (stepK_bin rfl (gtr_is (a := b.pr.length) (b := 10) (decide_eq_false g3))) rfl rfl (opsQ rfl (stepK_pF (.v (.bool false)) rfl rfl rfl) rfl rfl (opsQ rfl (stepK_mv (.v (.bool false)) rfl rfl) rfl rfl (opsQ rfl (stepK_field rfl ty30 rfl rfl rfl) rfl rfl (opsQ rfl (stepK_load rfl ld25 rfl rfl rfl rfl) rfl rfl (opsQ rfl (stepK_lenL ⟨_, rfl, rfl⟩ sl25' rfl) rfl rfl (opsQ rfl (stepK_bin rfl (gtr_is (a := a.pi.length) (b := 20) (decide_eq_false g4))) rfl rfl (opsQ rfl (stepK_pF (.v (.bool false)) rfl rfl rfl) rfl rfl (opsQ rfl (stepK_mv (.v (.bool false)) rfl rfl) rfl rfl (opsQ rfl (stepK_field rfl ty30 rfl rfl rfl) rfl rfl (opsQ rfl (stepK_load rfl ld25 rfl rfl rfl rfl) rfl rfl (opsQ rfl (stepK_lenL ⟨_, rfl, rfl⟩ sl25' rfl) rfl rfl (opsQ rfl (stepK_bin rfl (gtr_is (a := b.pi.length) (b := 20) (decide_eq_false g5))) rfl rfl (opsQ rfl (stepK_pF (.v (.bool false)) rfl rfl rfl) rfl rfl (opsQ rfl (stepK_mv (.v (.bool false)) rfl rfl) rfl rfl (opsQ rfl (stepK_field rfl ty30 rfl rfl rfl) rfl rfl (opsQ rfl (stepK_field rfl ty28 rfl rfl rfl) rfl rfl (opsQ rfl (stepK_load rfl ld23 rfl rfl rfl rfl) rfl rfl (opsQ rfl (stepK_lenL ⟨_, rfl, rfl⟩ sl23' rfl) rfl rfl (opsQ rfl (stepK_bin rfl (gtr_is (a := a.bl.length) (b := 200) (decide_eq_false g6))) rfl rfl (opsQ rfl (stepK_pF (.v (.bool false)) rfl rfl rfl) rfl rfl (opsQ rfl (stepK_mv (.v (.bool false)) rfl rfl) rfl rfl (opsQ rfl (stepK_field rfl ty30 rfl rfl rfl) rfl rfl (opsQ rfl (stepK_field rfl ty28 rfl rfl rfl) rfl rfl (opsQ rfl (stepK_load rfl ld23 rfl rfl rfl rfl) rfl rfl (opsQ rfl (stepK_lenL ⟨_, rfl, rfl⟩ sl23' rfl) rfl rfl (opsQ rfl (stepK_bin rfl (gtr_is (a := b.bl.length) (b := 200) (decide_eq_true g7))) rfl rfl (opsQ rfl (stepK_pF (.v (.bool true)) rfl rfl rfl) rfl rfl (opsQ rfl (stepK_mv (.v (.bool true)) rfl rfl) rfl rfl (opsS rfl rfl rfl (opsS rfl rfl rfl (opsS rfl rfl rfl (opsS rfl rfl rfl (opsS rfl rfl rfl (opsQ rfl (stepK_pT (.v (.bool true)) rfl rfl rfl) rfl rfl (opsQ rfl (stepK_mv (.v (.bool true)) rfl rfl) rfl rfl (opsS rfl rfl rfl (opsS rfl rfl rfl (opsS rfl rfl rfl (opsS rfl rfl rfl (opsS rfl rfl rfl (opsQ rfl (stepK_pT (.v (.bool true)) rfl rfl rfl) rfl rfl (opsQ rfl (stepK_mv (.v (.bool true)) rfl rfl) rfl rfl (opsS rfl rfl rfl (opsS rfl rfl rfl (opsS rfl rfl rfl (opsS rfl rfl rfl (opsQ rfl (stepK_pT (.v (.bool true)) rfl rfl rfl) rfl rfl (opsQ rfl (stepK_mv (.v (.bool true)) rfl rfl) rfl rfl (opsS rfl rfl rfl (opsS rfl rfl rfl (opsS rfl rfl rfl (opsS rfl rfl rfl (opsQ rfl (stepK_pT (.v (.bool true)) rfl rfl rfl) rfl rfl rfl)))))))))))))))))))))))))))))))))))))))))))))))))))))))))))))))))))))))))) (runs_cond (v := true) (by rfl) (fun _ => ?_) (fun h1 => by cases h1))))
    refine runs_seq (runs_region (by rfl) ?_)
    exact runs_ret ⟨by simp, [.v (.bool true)], _, _, res_tmp rfl, rfl, rfl⟩
  by_cases g8 : 80 < a.pe.length
  · refine runs_seq (runs_seq (runs_region (opsQ rfl (stepK_field rfl ty30 rfl rfl rfl) rfl rfl (opsQ rfl (stepK_load rfl ld23 rfl rfl rfl rfl) rfl rfl (opsQ rfl (stepK_lenL ⟨_, rfl, rfl⟩ sl23' rfl) rfl rfl (opsQ rfl (stepK_bin rfl (gtr_is (a := a.fr.length) (b := 30) (decide_eq_false g0))) rfl rfl (opsQ rfl (stepK_mv (.v (.bool false)) rfl rfl) rfl rfl (opsQ rfl (stepK_field rfl ty30 rfl rfl rfl) rfl rfl (opsQ rfl (stepK_load rfl ld23 rfl rfl rfl rfl) rfl rfl (opsQ rfl (stepK_lenL ⟨_, rfl, rfl⟩ sl23' rfl) rfl rfl (opsQ rfl (stepK_bin rfl (gtr_is (a := b.fr.length) (b := 30) (decide_eq_false g1))) rfl rfl (opsQ rfl (stepK_pF (.v (.bool false)) rfl rfl rfl) rfl rfl (opsQ rfl (stepK_mv (.v (.bool false)) rfl rfl) rfl rfl (opsQ rfl (stepK_field rfl ty30 rfl rfl rfl) rfl rfl (opsQ rfl (stepK_load rfl ld24 rfl rfl rfl rfl) rfl rfl (opsQ rfl (stepK_lenL ⟨_, rfl, rfl⟩ sl24' rfl) rfl rfl (opsQ rfl (stepK_bin rfl (gtr_is (a := a.pr.length) (b := 10) (decide_eq_false g2))) rfl rfl (opsQ rfl (stepK_pF (.v (.bool false)) rfl rfl rfl) rfl rfl (opsQ rfl (stepK_mv (.v (.bool false)) rfl rfl) rfl rfl (opsQ rfl (stepK_field rfl ty30 rfl rfl rfl) rfl rfl (opsQ rfl (stepK_load rfl ld24 rfl rfl rfl rfl) rfl rfl (opsQ rfl (stepK_lenL ⟨_, rfl, rfl⟩ sl24' rfl) rfl rfl (opsQ rfl (stepK_bin rfl (gtr_is (a := b.pr.length) (b := 10) (decide_eq_false g3))) rfl rfl (opsQ rfl (stepK_pF (.v (.bool false)) rfl rfl rfl) rfl rfl (opsQ rfl (stepK_mv (.v (.bool false)) rfl rfl) rfl rfl (opsQ rfl (stepK_field rfl ty30 rfl rfl rfl) rfl rfl (opsQ rfl (stepK_load rfl ld25 rfl rfl rfl rfl) rfl rfl (opsQ rfl (stepK_lenL ⟨_, rfl, rfl⟩ sl25' rfl) rfl rfl (opsQ rfl (stepK_bin rfl (gtr_is (a := a.pi.length) (b := 20) (decide_eq_false g4))) rfl rfl (opsQ rfl (stepK_pF (.v (.bool false)) rfl rfl rfl) rfl rfl (opsQ rfl (stepK_mv (.v (.bool false)) rfl rfl) rfl rfl (opsQ rfl (stepK_field rfl ty30 rfl rfl rfl) rfl rfl (opsQ rfl (stepK_load rfl ld25 rfl rfl rfl rfl) rfl rfl (opsQ rfl (stepK_lenL ⟨_, rfl, rfl⟩ sl25' rfl) rfl rfl (opsQ rfl (stepK_bin rfl (gtr_is (a := b.pi.length) (b := 20) (decide_eq_false g5))) rfl rfl (opsQ rfl (stepK_pF (.v (.bool false)) rfl rfl rfl) rfl rfl (opsQ rfl (stepK_mv (.v (.bool false)) rfl rfl) rfl rfl (opsQ rfl (stepK_field rfl ty30 rfl rfl rfl) rfl rfl (opsQ rfl (stepK_field rfl ty28 rfl rfl rfl) rfl rfl (opsQ rfl (stepK_load rfl ld23 rfl rfl rfl rfl) rfl rfl (opsQ rfl (stepK_lenL ⟨_, rfl, rfl⟩ sl23' rfl) rfl rfl (opsQ rfl (stepK_bin rfl (gtr_is (a := a.bl.length) (b := 200) (decide_eq_false g6))) rfl rfl (opsQ rfl (stepK_pF (.v (.bool false)) rfl rfl rfl) rfl rfl (opsQ rfl (stepK_mv (.v (.bool false)) rfl rfl) rfl rfl (opsQ rfl (stepK_field rfl ty30 rfl rfl rfl) rfl rfl (opsQ rfl (stepK_field rfl ty28 rfl rfl rfl) rfl rfl (opsQ rfl (stepK_load rfl ld23 rfl rfl rfl rfl) rfl rfl (opsQ rfl (stepK_lenL ⟨_, rfl, rfl⟩ sl23' rfl) rfl rfl (opsQ rfl (stepK_bin rfl (gtr_is (a := b.bl.length) (b := 200) (decide_eq_false g7))) rfl rfl (opsQ rfl (stepK_pF (.v (.bool false)) rfl rfl rfl) rfl rfl (opsQ rfl (stepK_mv (.v (.bool false)) rfl rfl) rfl rfl (opsQ rfl (stepK_field rfl ty30 rfl rfl rfl) rfl rfl (opsQ rfl (stepK_field rfl ty28 rfl rfl rfl) rfl rfl (opsQ rfl (stepK_load rfl ld26 rfl rfl rfl rfl) rfl rfl (opsQ rfl (stepK_lenL ⟨_, rfl, rfl⟩ sl26' rfl) rfl rfl (opsQ rfl (stepK_bin rfl (gtr_is (a := a.pe.length) (b := 80) (decide_eq_true g8))) rfl rfl (opsQ rfl (stepK_pF (.v (.bool true)) rfl rfl rfl) rfl rfl (opsQ rfl (stepK_mv (.v (.bool true)) rfl rfl) rfl rfl (opsS rfl rfl rfl (opsS rfl rfl rfl (opsS rfl rfl rfl (opsS rfl rfl rfl (opsS rfl rfl rfl (opsQ rfl (stepK_pT (.v (.bool true)) rfl rfl rfl) rfl rfl (opsQ rfl (stepK_mv (.v (.bool true)) rfl rfl) rfl rfl (opsS rfl rfl rfl (opsS rfl rfl rfl (opsS rfl rfl rfl (opsS rfl rfl rfl (opsQ rfl (stepK_pT (.v (.bool true)) rfl rfl rfl) rfl rfl (opsQ rfl (stepK_mv (.v (.bool true)) rfl rfl) rfl rfl (opsS rfl rfl rfl (opsS rfl rfl rfl (opsS rfl rfl rfl (opsS rfl rfl rfl (opsQ rfl (stepK_pT (.v (.bool true)) rfl rfl rfl) rfl rfl rfl)))))))))))))))))))))))))))))))))))))))))))))))))))))))))))))))))))))))))) (runs_cond (v := true) (by rfl) (fun _ => ?_) (fun h1 => by cases h1))))
    refine runs_seq (runs_region (by rfl) ?_)
    exact runs_ret ⟨by simp, [.v (.bool true)], _, _, res_tmp rfl, rfl, rfl⟩
  by_cases g9 : 80 < b.pe.length
  · refine runs_seq (runs_seq (runs_region (opsQ rfl (stepK_field rfl ty30 rfl rfl rfl) rfl rfl (opsQ rfl (stepK_load rfl ld23 rfl rfl rfl rfl) rfl rfl (opsQ rfl (stepK_lenL ⟨_, rfl, rfl⟩ sl23' rfl) rfl rfl (opsQ rfl (stepK_bin rfl (gtr_is (a := a.fr.length) (b := 30) (decide_eq_false g0))) rfl rfl (opsQ rfl (stepK_mv (.v (.bool false)) rfl rfl) rfl rfl (opsQ rfl (stepK_field rfl ty30 rfl rfl rfl) rfl rfl (opsQ rfl (stepK_load rfl ld23 rfl rfl rfl rfl) rfl rfl (opsQ rfl (stepK_lenL ⟨_, rfl, rfl⟩ sl23' rfl) rfl rfl (opsQ rfl (stepK_bin rfl (gtr_is (a := b.fr.length) (b := 30) (decide_eq_false g1))) rfl rfl (opsQ rfl (stepK_pF (.v (.bool false)) rfl rfl rfl) rfl rfl (opsQ rfl (stepK_mv (.v (.bool false)) rfl rfl) rfl rfl (opsQ rfl (stepK_field rfl ty30 rfl rfl rfl) rfl rfl (opsQ rfl (stepK_load rfl ld24 rfl rfl rfl rfl) rfl rfl (opsQ rfl (stepK_lenL ⟨_, rfl, rfl⟩ sl24' rfl) rfl rfl (opsQ rfl (stepK_bin rfl (gtr_is (a := a.pr.length) (b := 10) (decide_eq_false g2))) rfl rfl (opsQ rfl (stepK_pF (.v (.bool false)) rfl rfl rfl) rfl rfl (opsQ rfl (stepK_mv (.v (.bool false)) rfl rfl) rfl rfl (opsQ rfl (stepK_field rfl ty30 rfl rfl rfl) rfl rfl (opsQ rfl (stepK_load rfl ld24 rfl rfl rfl rfl) rfl rfl (opsQ rfl (stepK_lenL ⟨_, rfl, rfl⟩ sl24' rfl) rfl rfl (opsQ rfl (stepK_bin rfl (gtr_is (a := b.pr.length) (b := 10) (decide_eq_false g3))) rfl rfl (opsQ rfl (stepK_pF (.v (.bool false)) rfl rfl rfl) rfl rfl (opsQ rfl (stepK_mv (.v (.bool false)) rfl rfl) rfl rfl (opsQ rfl (stepK_field rfl ty30 rfl rfl rfl) rfl rfl (opsQ rfl (stepK_load rfl ld25 rfl rfl rfl rfl) rfl rfl (opsQ rfl (stepK_lenL ⟨_, rfl, rfl⟩ sl25' rfl) rfl rfl (opsQ rfl (stepK_bin rfl (gtr_is (a := a.pi.length) (b := 20) (decide_eq_false g4))) rfl rfl (opsQ rfl (stepK_pF (.v (.bool false)) rfl rfl rfl) rfl rfl (opsQ rfl (stepK_mv (.v (.bool false)) rfl rfl) rfl rfl (opsQ rfl (stepK_field rfl ty30 rfl rfl rfl) rfl rfl (opsQ rfl (stepK_load rfl ld25 rfl rfl rfl rfl) rfl rfl (opsQ rfl (stepK_lenL ⟨_, rfl, rfl⟩ sl25' rfl) rfl rfl (opsQ rfl (stepK_bin rfl (gtr_is (a := b.pi.length) (b := 20) (decide_eq_false g5))) rfl rfl (opsQ rfl (stepK_pF (.v (.bool false)) rfl rfl rfl) rfl rfl (opsQ rfl (stepK_mv (.v (.bool false)) rfl rfl) rfl rfl (opsQ rfl (stepK_field rfl ty30 rfl rfl rfl) rfl rfl (opsQ rfl (stepK_field rfl ty28 rfl rfl rfl) rfl rfl (opsQ rfl (stepK_load rfl ld23 rfl rfl rfl rfl) rfl rfl (opsQ rfl (stepK_lenL ⟨_, rfl, rfl⟩ sl23' rfl) rfl rfl (opsQ rfl (stepK_bin rfl (gtr_is (a := a.bl.length) (b := 200) (decide_eq_false g6))) rfl rfl (opsQ rfl (stepK_pF (.v (.bool false)) rfl rfl rfl) rfl rfl (opsQ rfl (stepK_mv (.v (.bool false)) rfl rfl) rfl rfl (opsQ rfl (stepK_field rfl ty30 rfl rfl rfl) rfl rfl (opsQ rfl (stepK_field rfl ty28 rfl rfl rfl) rfl rfl (opsQ rfl (stepK_load rfl ld23 rfl rfl rfl rfl) rfl rfl (opsQ rfl (stepK_lenL ⟨_, rfl, rfl⟩ sl23' rfl) rfl rfl (opsQ rfl (stepK_bin rfl (gtr_is (a := b.bl.length) (b := 200) (decide_eq_false g7))) rfl rfl (opsQ rfl (stepK_pF (.v (.bool false)) rfl rfl rfl) rfl rfl (opsQ rfl (stepK_mv (.v (.bool false)) rfl rfl) rfl rfl (opsQ rfl (stepK_field rfl ty30 rfl rfl rfl) rfl rfl (opsQ rfl (stepK_field rfl ty28 rfl rfl rfl) rfl rfl (opsQ rfl (stepK_load rfl ld26 rfl rfl rfl rfl) rfl rfl (opsQ rfl (stepK_lenL ⟨_, rfl, rfl⟩ sl26' rfl) rfl rfl (opsQ rfl (stepK_bin rfl (gtr_is (a := a.pe.length) (b := 80) (decide_eq_false g8))) rfl rfl (opsQ rfl (stepK_pF (.v (.bool false)) rfl rfl rfl) rfl rfl (opsQ rfl (stepK_mv (.v (.bool false)) rfl rfl) rfl rfl (opsQ rfl (stepK_field rfl ty30 rfl rfl rfl) rfl rfl (opsQ rfl (stepK_field rfl ty28 rfl rfl rfl) rfl rfl (opsQ rfl (stepK_load rfl ld26 rfl rfl rfl rfl) rfl rfl (opsQ rfl (stepK_lenL ⟨_, rfl, rfl⟩ sl26' rfl) rfl rfl (opsQ rfl (stepK_bin rfl (gtr_is (a := b.pe.length) (b := 80) (decide_eq_true g9))) rfl rfl (opsQ rfl (stepK_pF (.v (.bool true)) rfl rfl rfl) rfl rfl (opsQ rfl (stepK_mv (.v (.bool true)) rfl rfl) rfl rfl (opsS rfl rfl rfl (opsS rfl rfl rfl (opsS rfl rfl rfl (opsS rfl rfl rfl (opsQ rfl (stepK_pT (.v (.bool true)) rfl rfl rfl) rfl rfl (opsQ rfl (stepK_mv (.v (.bool true)) rfl rfl) rfl rfl (opsS rfl rfl rfl (opsS rfl rfl rfl (opsS rfl rfl rfl (opsS rfl rfl rfl (opsQ rfl (stepK_pT (.v (.bool true)) rfl rfl rfl) rfl rfl rfl)))))))))))))))))))))))))))))))))))))))))))))))))))))))))))))))))))))))))) (runs_cond (v := true) (by rfl) (fun _ => ?_) (fun h1 => by cases h1))))
    refine runs_seq (runs_region (by rfl) ?_)
    exact runs_ret ⟨by simp, [.v (.bool true)], _, _, res_tmp rfl, rfl, rfl⟩
  by_cases g10 : 40 < a.di.length
  · refine runs_seq (runs_seq (runs_region (opsQ rfl (stepK_field rfl ty30 rfl rfl rfl) rfl rfl (opsQ rfl (stepK_load rfl ld23 rfl rfl rfl rfl) rfl rfl (opsQ rfl (stepK_lenL ⟨_, rfl, rfl⟩ sl23' rfl) rfl rfl (opsQ rfl (stepK_bin rfl (gtr_is (a := a.fr.length) (b := 30) (decide_eq_false g0))) rfl rfl (opsQ rfl (stepK_mv (.v (.bool false)) rfl rfl) rfl rfl (opsQ rfl (stepK_field rfl ty30 rfl rfl rfl) rfl rfl (opsQ rfl (stepK_load rfl ld23 rfl rfl rfl rfl) rfl rfl (opsQ rfl (stepK_lenL ⟨_, rfl, rfl⟩ sl23' rfl) rfl rfl (opsQ rfl (stepK_bin rfl (gtr_is (a := b.fr.length) (b := 30) (decide_eq_false g1))) rfl rfl (opsQ rfl (stepK_pF (.v (.bool false)) rfl rfl rfl) rfl rfl (opsQ rfl (stepK_mv (.v (.bool false)) rfl rfl) rfl rfl (opsQ rfl (stepK_field rfl ty30 rfl rfl rfl) rfl rfl (opsQ rfl (stepK_load rfl ld24 rfl rfl rfl rfl) rfl rfl (opsQ rfl (stepK_lenL ⟨_, rfl, rfl⟩ sl24' rfl) rfl rfl (opsQ rfl (stepK_bin rfl (gtr_is (a := a.pr.length) (b := 10) (decide_eq_false g2))) rfl rfl (opsQ rfl (stepK_pF (.v (.bool false)) rfl rfl rfl) rfl rfl (opsQ rfl (stepK_mv (.v (.bool false)) rfl rfl) rfl rfl (opsQ rfl (stepK_field rfl ty30 rfl rfl rfl) rfl rfl (opsQ rfl (stepK_load rfl ld24 rfl rfl rfl rfl) rfl rfl (opsQ rfl (stepK_lenL ⟨_, rfl, rfl⟩ sl24' rfl) rfl rfl (opsQ rfl (stepK_bin rfl (gtr_is (a := b.pr.length) (b := 10) (decide_eq_false g3))) rfl rfl (opsQ rfl (stepK_pF (.v (.bool false)) rfl rfl rfl) rfl rfl (opsQ rfl (stepK_mv (.v (.bool false)) rfl rfl) rfl rfl (opsQ rfl (stepK_field rfl ty30 rfl rfl rfl) rfl rfl (opsQ rfl (stepK_load rfl ld25 rfl rfl rfl rfl) rfl rfl (opsQ rfl (stepK_lenL ⟨_, rfl, rfl⟩ sl25' rfl) rfl rfl (opsQ rfl (stepK_bin rfl (gtr_is (a := a.pi.length) (b := 20) (decide_eq_false g4))) rfl rfl (opsQ rfl (stepK_pF (.v (.bool false)) rfl rfl rfl) rfl rfl (opsQ rfl (stepK_mv (.v (.bool false)) rfl rfl) rfl rfl (opsQ rfl (stepK_field rfl ty30 rfl rfl rfl) rfl rfl (opsQ rfl (stepK_load rfl ld25 rfl rfl rfl rfl) rfl rfl (opsQ rfl (stepK_lenL ⟨_, rfl, rfl⟩ sl25' rfl) rfl rfl (opsQ rfl (stepK_bin rfl (gtr_is (a := b.pi.length) (b := 20) (decide_eq_false g5))) rfl rfl (opsQ rfl (stepK_pF (.v (.bool false)) rfl rfl rfl) rfl rfl (opsQ rfl (stepK_mv (.v (.bool false)) rfl rfl) rfl rfl (opsQ rfl (stepK_field rfl ty30 rfl rfl rfl) rfl rfl (opsQ rfl (stepK_field rfl ty28 rfl rfl rfl) rfl rfl (opsQ rfl (stepK_load rfl ld23 rfl rfl rfl rfl) rfl rfl (opsQ rfl (stepK_lenL ⟨_, rfl, rfl⟩ sl23' rfl) rfl rfl (opsQ rfl (stepK_bin rfl (gtr_is (a := a.bl.length) (b := 200) (decide_eq_false g6))) rfl rfl (opsQ rfl (stepK_pF (.v (.bool false)) rfl rfl rfl) rfl rfl (opsQ rfl (stepK_mv (.v (.bool false)) rfl rfl) rfl rfl (opsQ rfl (stepK_field rfl ty30 rfl rfl rfl) rfl rfl (opsQ rfl (stepK_field rfl ty28 rfl rfl rfl) rfl rfl (opsQ rfl (stepK_load rfl ld23 rfl rfl rfl rfl) rfl rfl (opsQ rfl (stepK_lenL ⟨_, rfl, rfl⟩ sl23' rfl) rfl rfl (opsQ rfl (stepK_bin rfl (gtr_is (a := b.bl.length) (b := 200) (decide_eq_false g7))) rfl rfl (opsQ rfl (stepK_pF (.v (.bool false)) rfl rfl rfl) rfl rfl (opsQ rfl (stepK_mv (.v (.bool false)) rfl rfl) rfl rfl (opsQ rfl (stepK_field rfl ty30 rfl rfl rfl) rfl rfl (opsQ rfl (stepK_field rfl ty28 rfl rfl rfl) rfl rfl (opsQ rfl (stepK_load rfl ld26 rfl rfl rfl rfl) rfl rfl (opsQ rfl (stepK_lenL ⟨_, rfl, rfl⟩ sl26' rfl) rfl rfl (opsQ rfl (stepK_bin rfl (gtr_is (a := a.pe.length) (b := 80) (decide_eq_false g8))) rfl rfl (opsQ rfl (stepK_pF (.v (.bool false)) rfl rfl rfl) rfl rfl (opsQ rfl (stepK_mv (.v (.bool false)) rfl rfl) rfl rfl (opsQ rfl (stepK_field rfl ty30 rfl rfl rfl) rfl rfl (opsQ rfl (stepK_field rfl ty28 rfl rfl rfl) rfl rfl (opsQ rfl (stepK_load rfl ld26 rfl rfl rfl rfl) rfl rfl (opsQ rfl (stepK_lenL ⟨_, rfl, rfl⟩ sl26' rfl) rfl rfl (opsQ rfl (stepK_bin rfl (gtr_is (a := b.pe.length) (b := 80) (decide_eq_false g9))) rfl rfl (opsQ rfl (stepK_pF (.v (.bool false)) rfl rfl rfl) rfl rfl (opsQ rfl (stepK_mv (.v (.bool false)) rfl rfl) rfl rfl (opsQ rfl (stepK_field rfl ty30 rfl rfl rfl) rfl rfl (opsQ rfl (stepK_load rfl ld26 rfl rfl rfl rfl) rfl rfl (opsQ rfl (stepK_lenL ⟨_, rfl, rfl⟩ sl26' rfl) rfl rfl (opsQ rfl (stepK_bin rfl (gtr_is (a := a.di.length) (b := 40) (decide_eq_true g10))) rfl rfl (opsQ rfl (stepK_pF (.v (.bool true)) rfl rfl rfl) rfl rfl (opsQ rfl (stepK_mv (.v (.bool true)) rfl rfl) rfl rfl (opsS rfl rfl rfl (opsS rfl rfl rfl (opsS rfl rfl rfl (opsS rfl rfl rfl (opsQ rfl (stepK_pT (.v (.bool true)) rfl rfl rfl) rfl rfl rfl)))))))))))))))))))))))))))))))))))))))))))))))))))))))))))))))))))))))))) (runs_cond (v := true) (by rfl) (fun _ => ?_) (fun h1 => by cases h1))))
    refine runs_seq (runs_region (by rfl) ?_)
    exact runs_ret ⟨by simp, [.v (.bool true)], _, _, res_tmp rfl, rfl, rfl⟩
  by_cases g11 : 40 < b.di.length
  · refine runs_seq (runs_seq (runs_region (opsQ rfl (stepK_field rfl ty30 rfl rfl rfl) rfl rfl (opsQ rfl (stepK_load rfl ld23 rfl rfl rfl rfl) rfl rfl (opsQ rfl (stepK_lenL ⟨_, rfl, rfl⟩ sl23' rfl) rfl rfl (opsQ rfl (stepK_bin rfl (gtr_is (a := a.fr.length) (b := 30) (decide_eq_false g0))) rfl rfl (opsQ rfl (stepK_mv (.v (.bool false)) rfl rfl) rfl rfl (opsQ rfl (stepK_field rfl ty30 rfl rfl rfl) rfl rfl (opsQ rfl (stepK_load rfl ld23 rfl rfl rfl rfl) rfl rfl (opsQ rfl (stepK_lenL ⟨_, rfl, rfl⟩ sl23' rfl) rfl rfl (opsQ rfl (stepK_bin rfl (gtr_is (a := b.fr.length) (b := 30) (decide_eq_false g1))) rfl rfl (opsQ rfl (stepK_pF (.v (.bool false)) rfl rfl rfl) rfl rfl (opsQ rfl (stepK_mv (.v (.bool false)) rfl rfl) rfl rfl (opsQ rfl (stepK_field rfl ty30 rfl rfl rfl) rfl rfl (opsQ rfl (stepK_load rfl ld24 rfl rfl rfl rfl) rfl rfl (opsQ rfl (stepK_lenL ⟨_, rfl, rfl⟩ sl24' rfl) rfl rfl (opsQ rfl (stepK_bin rfl (gtr_is (a := a.pr.length) (b := 10) (decide_eq_false g2))) rfl rfl (opsQ rfl (stepK_pF (.v (.bool false)) rfl rfl rfl) rfl rfl (opsQ rfl (stepK_mv (.v (.bool false)) rfl rfl) rfl rfl (opsQ rfl (stepK_field rfl ty30 rfl rfl rfl) rfl rfl (opsQ rfl (stepK_load rfl ld24 rfl rfl rfl rfl) rfl rfl (opsQ rfl (stepK_lenL ⟨_, rfl, rfl⟩ sl24' rfl) rfl rfl (opsQ rfl (stepK_bin rfl (gtr_is (a := b.pr.length) (b := 10) (decide_eq_false g3))) rfl rfl (opsQ rfl (stepK_pF (.v (.bool false)) rfl rfl rfl) rfl rfl (opsQ rfl (stepK_mv (.v (.bool false)) rfl rfl) rfl rfl (opsQ rfl (stepK_field rfl ty30 rfl rfl rfl) rfl rfl (opsQ rfl (stepK_load rfl ld25 rfl rfl rfl rfl) rfl rfl (opsQ rfl (stepK_lenL ⟨_, rfl, rfl⟩ sl25' rfl) rfl rfl (opsQ rfl (stepK_bin rfl (gtr_is (a := a.pi.length) (b := 20) (decide_eq_false g4))) rfl rfl (opsQ rfl (stepK_pF (.v (.bool false)) rfl rfl rfl) rfl rfl (opsQ rfl (stepK_mv (.v (.bool false)) rfl rfl) rfl rfl (opsQ rfl (stepK_field rfl ty30 rfl rfl rfl) rfl rfl (opsQ rfl (stepK_load rfl ld25 rfl rfl rfl rfl) rfl rfl (opsQ rfl (stepK_lenL ⟨_, rfl, rfl⟩ sl25' rfl) rfl rfl (opsQ rfl (stepK_bin rfl (gtr_is (a := b.pi.length) (b := 20) (decide_eq_false g5))) rfl rfl (opsQ rfl (stepK_pF (.v (.bool false)) rfl rfl rfl) rfl rfl (opsQ rfl (stepK_mv (.v (.bool false)) rfl rfl) rfl rfl (opsQ rfl (stepK_field rfl ty30 rfl rfl rfl) rfl rfl (opsQ rfl (stepK_field rfl ty28 rfl rfl rfl) rfl rfl (opsQ rfl (stepK_load rfl ld23 rfl rfl rfl rfl) rfl rfl (opsQ rfl (stepK_lenL ⟨_, rfl, rfl⟩ sl23' rfl) rfl rfl (opsQ rfl (stepK_bin rfl (gtr_is (a := a.bl.length) (b := 200) (decide_eq_false g6))) rfl rfl (opsQ rfl (stepK_pF (.v (.bool false)) rfl rfl rfl) rfl rfl (opsQ rfl (stepK_mv (.v (.bool false)) rfl rfl) rfl rfl (opsQ rfl (stepK_field rfl ty30 rfl rfl rfl) rfl rfl (opsQ rfl (stepK_field rfl ty28 rfl rfl rfl) rfl rfl (opsQ rfl (stepK_load rfl ld23 rfl rfl rfl rfl) rfl rfl (opsQ rfl (stepK_lenL ⟨_, rfl, rfl⟩ sl23' rfl) rfl rfl (opsQ rfl (stepK_bin rfl (gtr_is (a := b.bl.length) (b := 200) (decide_eq_false g7))) rfl rfl (opsQ rfl (stepK_pF (.v (.bool false)) rfl rfl rfl) rfl rfl (opsQ rfl (stepK_mv (.v (.bool false)) rfl rfl) rfl rfl (opsQ rfl (stepK_field rfl ty30 rfl rfl rfl) rfl rfl (opsQ rfl (stepK_field rfl ty28 rfl rfl rfl) rfl rfl (opsQ rfl (stepK_load rfl ld26 rfl rfl rfl rfl) rfl rfl (opsQ rfl (stepK_lenL ⟨_, rfl, rfl⟩ sl26' rfl) rfl rfl (opsQ rfl (stepK_bin rfl (gtr_is (a := a.pe.length) (b := 80) (decide_eq_false g8))) rfl rfl (opsQ rfl (stepK_pF (.v (.bool false)) rfl rfl rfl) rfl rfl (opsQ rfl (stepK_mv (.v (.bool false)) rfl rfl) rfl rfl (opsQ rfl (stepK_field rfl ty30 rfl rfl rfl) rfl rfl (opsQ rfl (stepK_field rfl ty28 rfl rfl rfl) rfl rfl (opsQ rfl (stepK_load rfl ld26 rfl rfl rfl rfl) rfl rfl (opsQ rfl (stepK_lenL ⟨_, rfl, rfl⟩ sl26' rfl) rfl rfl (opsQ rfl (stepK_bin rfl (gtr_is (a := b.pe.length) (b := 80) (decide_eq_false g9))) rfl rfl (opsQ rfl (stepK_pF (.v (.bool false)) rfl rfl rfl) rfl rfl (opsQ rfl (stepK_mv (.v (.bool false)) rfl rfl) rfl rfl (opsQ rfl (stepK_field rfl ty30 rfl rfl rfl) rfl rfl (opsQ rfl (stepK_load rfl ld26 rfl rfl rfl rfl) rfl rfl (opsQ rfl (stepK_lenL ⟨_, rfl, rfl⟩ sl26' rfl) rfl rfl (opsQ rfl (stepK_bin rfl (gtr_is (a := a.di.length) (b := 40) (decide_eq_false g10))) rfl rfl (opsQ rfl (stepK_pF (.v (.bool false)) rfl rfl rfl) rfl rfl (opsQ rfl (stepK_mv (.v (.bool false)) rfl rfl) rfl rfl (opsQ rfl (stepK_field rfl ty30 rfl rfl rfl) rfl rfl (opsQ rfl (stepK_load rfl ld26 rfl rfl rfl rfl) rfl rfl (opsQ rfl (stepK_lenL ⟨_, rfl, rfl⟩ sl26' rfl) rfl rfl (opsQ rfl (stepK_bin rfl (gtr_is (a := b.di.length) (b := 40) (decide_eq_true g11))) rfl rfl (opsQ rfl (stepK_pF (.v (.bool true)) rfl rfl rfl) rfl rfl rfl)))))))))))))))))))))))))))))))))))))))))))))))))))))))))))))))))))))))))) (runs_cond (v := true) (by rfl) (fun _ => ?_) (fun h1 => by cases h1))))
    refine runs_seq (runs_region (by rfl) ?_)
    exact runs_ret ⟨by simp, [.v (.bool true)], _, _, res_tmp rfl, rfl, rfl⟩
  refine runs_seq (runs_seq (runs_region (opsQ rfl (stepK_field rfl ty30 rfl rfl rfl) rfl rfl (opsQ rfl (stepK_load rfl ld23 rfl rfl rfl rfl) rfl rfl (opsQ rfl (stepK_lenL ⟨_, rfl, rfl⟩ sl23' rfl) rfl rfl (opsQ rfl (stepK_bin rfl (gtr_is (a := a.fr.length) (b := 30) (decide_eq_false g0))) rfl rfl (opsQ rfl (stepK_mv (.v (.bool false)) rfl rfl) rfl rfl (opsQ rfl (stepK_field rfl ty30 rfl rfl rfl) rfl rfl (opsQ rfl (stepK_load rfl ld23 rfl rfl rfl rfl) rfl rfl (opsQ rfl (stepK_lenL ⟨_, rfl, rfl⟩ sl23' rfl) rfl rfl (opsQ rfl (stepK_bin rfl (gtr_is (a := b.fr.length) (b := 30) (decide_eq_false g1))) rfl rfl (opsQ rfl (stepK_pF (.v (.bool false)) rfl rfl rfl) rfl rfl (opsQ rfl (stepK_mv (.v (.bool false)) rfl rfl) rfl rfl (opsQ rfl (stepK_field rfl ty30 rfl rfl rfl) rfl rfl (opsQ rfl (stepK_load rfl ld24 rfl rfl rfl rfl) rfl rfl (opsQ rfl (stepK_lenL ⟨_, rfl, rfl⟩ sl24' rfl) rfl rfl (opsQ rfl (stepK_bin rfl (gtr_is (a := a.pr.length) (b := 10) (decide_eq_false g2))) rfl rfl (opsQ rfl (stepK_pF (.v (.bool false)) rfl rfl rfl) rfl rfl (opsQ rfl (stepK_mv (.v (.bool false)) rfl rfl) rfl rfl (opsQ rfl (stepK_field rfl ty30 rfl rfl rfl) rfl rfl (opsQ rfl (stepK_load rfl ld24 rfl rfl rfl rfl) rfl rfl (opsQ rfl (stepK_lenL ⟨_, rfl, rfl⟩ sl24' rfl) rfl rfl (opsQ rfl (stepK_bin rfl (gtr_is (a := b.pr.length) (b := 10) (decide_eq_false g3))) rfl rfl (opsQ rfl (stepK_pF (.v (.bool false)) rfl rfl rfl) rfl rfl (opsQ rfl (stepK_mv (.v (.bool false)) rfl rfl) rfl rfl (opsQ rfl (stepK_field rfl ty30 rfl rfl rfl) rfl rfl (opsQ rfl (stepK_load rfl ld25 rfl rfl rfl rfl) rfl rfl (opsQ rfl (stepK_lenL ⟨_, rfl, rfl⟩ sl25' rfl) rfl rfl (opsQ rfl (stepK_bin rfl (gtr_is (a := a.pi.length) (b := 20) (decide_eq_false g4))) rfl rfl (opsQ rfl (stepK_pF (.v (.bool false)) rfl rfl rfl) rfl rfl (opsQ rfl (stepK_mv (.v (.bool false)) rfl rfl) rfl rfl (opsQ rfl (stepK_field rfl ty30 rfl rfl rfl) rfl rfl (opsQ rfl (stepK_load rfl ld25 rfl rfl rfl rfl) rfl rfl (opsQ rfl (stepK_lenL ⟨_, rfl, rfl⟩ sl25' rfl) rfl rfl (opsQ rfl (stepK_bin rfl (gtr_is (a := b.pi.length) (b := 20) (decide_eq_false g5))) rfl rfl (opsQ rfl (stepK_pF (.v (.bool false)) rfl rfl rfl) rfl rfl (opsQ rfl (stepK_mv (.v (.bool false)) rfl rfl) rfl rfl (opsQ rfl (stepK_field rfl ty30 rfl rfl rfl) rfl rfl (opsQ rfl (stepK_field rfl ty28 rfl rfl rfl) rfl rfl (opsQ rfl (stepK_load rfl ld23 rfl rfl rfl rfl) rfl rfl (opsQ rfl (stepK_lenL ⟨_, rfl, rfl⟩ sl23' rfl) rfl rfl (opsQ rfl (stepK_bin rfl (gtr_is (a := a.bl.length) (b := 200) (decide_eq_false g6))) rfl rfl (opsQ rfl (stepK_pF (.v (.bool false)) rfl rfl rfl) rfl rfl (opsQ rfl (stepK_mv (.v (.bool false)) rfl rfl) rfl rfl (opsQ rfl (stepK_field rfl ty30 rfl rfl rfl) rfl rfl (opsQ rfl (stepK_field rfl ty28 rfl rfl rfl) rfl rfl (opsQ rfl (stepK_load rfl ld23 rfl rfl rfl rfl) rfl rfl (opsQ rfl (stepK_lenL ⟨_, rfl, rfl⟩ sl23' rfl) rfl rfl (opsQ rfl (stepK_bin rfl (gtr_is (a := b.bl.length) (b := 200) (decide_eq_false g7))) rfl rfl (opsQ rfl (stepK_pF (.v (.bool false)) rfl rfl rfl) rfl rfl (opsQ rfl (stepK_mv (.v (.bool false)) rfl rfl) rfl rfl (opsQ rfl (stepK_field rfl ty30 rfl rfl rfl) rfl rfl (opsQ rfl (stepK_field rfl ty28 rfl rfl rfl) rfl rfl (opsQ rfl (stepK_load rfl ld26 rfl rfl rfl rfl) rfl rfl (opsQ rfl (stepK_lenL ⟨_, rfl, rfl⟩ sl26' rfl) rfl rfl (opsQ rfl (stepK_bin rfl (gtr_is (a := a.pe.length) (b := 80) (decide_eq_false g8))) rfl rfl (opsQ rfl (stepK_pF (.v (.bool false)) rfl rfl rfl) rfl rfl (opsQ rfl (stepK_mv (.v (.bool false)) rfl rfl) rfl rfl (opsQ rfl (stepK_field rfl ty30 rfl rfl rfl) rfl rfl (opsQ rfl (stepK_field rfl ty28 rfl rfl rfl) rfl rfl (opsQ rfl (stepK_load rfl ld26 rfl rfl rfl rfl) rfl rfl (opsQ rfl (stepK_lenL ⟨_, rfl, rfl⟩ sl26' rfl) rfl rfl (opsQ rfl (stepK_bin rfl (gtr_is (a := b.pe.length) (b := 80) (decide_eq_false g9))) rfl rfl (opsQ rfl (stepK_pF (.v (.bool false)) rfl rfl rfl) rfl rfl (opsQ rfl (stepK_mv (.v (.bool false)) rfl rfl) rfl rfl (opsQ rfl (stepK_field rfl ty30 rfl rfl rfl) rfl rfl (opsQ rfl (stepK_load rfl ld26 rfl rfl rfl rfl) rfl rfl (opsQ rfl (stepK_lenL ⟨_, rfl, rfl⟩ sl26' rfl) rfl rfl (opsQ rfl (stepK_bin rfl (gtr_is (a := a.di.length) (b := 40) (decide_eq_false g10))) rfl rfl (opsQ rfl (stepK_pF (.v (.bool false)) rfl rfl rfl) rfl rfl (opsQ rfl (stepK_mv (.v (.bool false)) rfl rfl) rfl rfl (opsQ rfl (stepK_field rfl ty30 rfl rfl rfl) rfl rfl (opsQ rfl (stepK_load rfl ld26 rfl rfl rfl rfl) rfl rfl (opsQ rfl (stepK_lenL ⟨_, rfl, rfl⟩ sl26' rfl) rfl rfl (opsQ rfl (stepK_bin rfl (gtr_is (a := b.di.length) (b := 40) (decide_eq_false g11))) rfl rfl (opsQ rfl (stepK_pF (.v (.bool false)) rfl rfl rfl) rfl rfl rfl)))))))))))))))))))))))))))))))))))))))))))))))))))))))))))))))))))))))))) (runs_cond (v := false) (by rfl) (fun h1 => by cases h1) (fun _ => runs_skip ?_))))
  refine runs_seq (runs_region (opsQ rfl (stepK_loadA rfl ld30 rfl rfl rfl rfl) rfl rfl (opsA rfl (stepK_alloc rfl hz rfl) rfl rfl (opsM rfl (stepK_storeA rfl ld30 rfl rfl rfl rfl rfl rfl) rfl rfl))) ?_)
  refine runs_seq (Runs.mono (Q := fun e s => e = .normal ∧ Post3 (ctxOf Tryz.prog eq sp il bl' is) a b s) ?_ ?_)
  rotate_left
  · rintro e s ⟨rfl, xs, hh, gA, gB, gX, hxl, hL⟩
    obtain ⟨t, h⟩ := s
    show Runs _ _ _ _ _ ⟨t, h⟩ _
    dsimp only at hh gA gB gX hL
    rw [← setL_has hh]
    refine runs_seq (runs_calm (by kernel_rfl) (.cons rfl (upsK_loadA rfl ld30 rfl gA.1 gA.2 rfl) rfl rfl (.cons rfl (upsK_loadA rfl ld30 rfl gB.1 gB.2 rfl) rfl rfl (.cons rfl (upsK_cal c6 rfl rfl hAB rfl rfl) rfl rfl (.cons rfl (upsK_loadA rfl ld30 rfl gA.1 gA.2 rfl) rfl rfl (.cons rfl (upsK_loadA rfl ld30 rfl gB.1 gB.2 rfl) rfl rfl (.cons rfl (upsK_cal c7 rfl rfl hAB7 rfl rfl) rfl rfl (.cons rfl (upsK_bin rfl (eqBv ty4 (v := true) (by simp))) rfl rfl (.cons rfl (upsK_mv (.v (.bool true)) rfl rfl) rfl rfl (.cons rfl (upsK_loadA rfl ld30 rfl gB.1 gB.2 rfl) rfl rfl (.cons rfl (upsK_loadA rfl ld30 rfl gA.1 gA.2 rfl) rfl rfl (.cons rfl (upsK_cal c6 rfl rfl hBA rfl rfl) rfl rfl (.cons rfl (upsK_loadA rfl ld30 rfl gA.1 gA.2 rfl) rfl rfl (.cons rfl (upsK_loadA rfl ld30 rfl gB.1 gB.2 rfl) rfl rfl (.cons rfl (upsK_cal c6 rfl rfl hAB rfl rfl) rfl rfl (.cons rfl (upsK_bin rfl (eqBv ty4 (v := true) (by simp))) rfl rfl (.cons rfl (upsK_pT (.v (.bool true)) rfl rfl rfl) rfl rfl (.cons rfl (upsK_mv (.v (.bool true)) rfl rfl) rfl rfl (.cons rfl (upsK_loadA rfl ld30 rfl gA.1 gA.2 rfl) rfl rfl (.cons rfl (upsK_loadA rfl ld30 rfl gA.1 gA.2 rfl) rfl rfl (.cons rfl (upsK_cal c6 rfl rfl hAA rfl rfl) rfl rfl (.cons rfl (upsK_pT (.v (.bool true)) rfl rfl rfl) rfl rfl (.cons rfl (upsK_mv (.v (.bool true)) rfl rfl) rfl rfl (.cons rfl (upsK_loadA rfl ld30 rfl gA.1 gA.2 rfl) rfl rfl (.cons rfl (upsK_loadA rfl ld30 rfl gX.1 gX.2 hxl) rfl rfl (.cons rfl (upsK_callP c6 rfl (hL _ (fun i hi => reads_call (y := .tmp 199) rfl hi))) rfl rfl (.cons rfl (upsK_not (.v (.bool true)) rfl rfl rfl) rfl rfl (.cons rfl (upsK_pT (.v (.bool true)) rfl rfl rfl) rfl rfl (.cons rfl (upsK_as (.v (.bool true)) rfl rfl) rfl rfl .nil)))))))))))))))))))))))))))) ?_)
    exact runs_ret ⟨by simp, [.v (.bool true)], _, _, res_tmp rfl, rfl, rfl⟩
  obtain ⟨j, hj, hkj⟩ := tmod_12 hk8
  have hrem : binP (ctxOf Tryz.prog eq sp il bl' is) .rem 5 (.v (.int .u8 k)) (.v (.int .u8 12)) = some (.v (.int .u8 (j : Int))) := by
    rw [← hkj]; simp [binP, intArith]
  clear hkj hk8
  match j, hj with
  | 0, _ =>
    refine runs_seq (runs_region (opsQ rfl (stepK_mv (.v (.int .u8 k)) rfl rfl) rfl rfl (opsQ rfl (stepK_bin rfl hrem) rfl rfl rfl)) (runs_block ?_))
    refine runs_seq (runs_region (opsQ rfl (stepK_bin rfl (eqI (v := true) rfl)) rfl rfl (opsQ rfl (stepK_as (.v (.bool true)) rfl rfl) rfl rfl rfl)) ?_)
    refine runs_cond (v := true) (by rfl) (fun _ => ?_) (fun h => by cases h)
    let x : Mach := { a with clock := IntKind.u64.wrap (a.clock + 1) }
    have hx : x.Ok (ctxOf Tryz.prog eq sp il bl' is) := ⟨ha.fr, ha.bl, ha.pr, ha.pe, ha.di, ha.pi, ha.frn, ha.bln, ha.prn, ha.pen, ha.din, ha.pin⟩
    have hn : sameM (ctxOf Tryz.prog eq sp il bl' is) a x = false := by
      have : (a.clock == IntKind.u64.wrap (a.clock + 1)) = false := by simpa using fun h => wrap_next_u64 a.clock h.symm
      simp [x, sameM, restEq, this]
    refine runs_region (opsQ rfl (stepK_field rfl ty30 rfl rfl rfl) rfl rfl (opsQ rfl (stepK_load rfl ld22 rfl rfl rfl rfl) rfl rfl (opsQ rfl (stepK_bin rfl addI) rfl rfl (opsQ rfl (stepK_field rfl ty30 rfl rfl rfl) rfl rfl (opsM rfl (stepK_store1 x.cells rfl ld22 rfl rfl rfl rfl rfl rfl rfl) rfl rfl))))) ?_
    exact ⟨rfl, x.cells, ⟨rfl, rfl, rfl, trivial⟩, ⟨rfl, rfl⟩, ⟨rfl, rfl⟩, ⟨rfl, rfl⟩, rfl, fun rd _ => callP_plain rfl (hF hx hn) rfl rfl⟩
  | 1, _ =>
    refine runs_seq (runs_region (opsQ rfl (stepK_mv (.v (.int .u8 k)) rfl rfl) rfl rfl (opsQ rfl (stepK_bin rfl hrem) rfl rfl rfl)) (runs_block ?_))
    refine runs_seq (runs_region (opsQ rfl (stepK_bin rfl (eqI (v := false) rfl)) rfl rfl (opsQ rfl (stepK_as (.v (.bool false)) rfl rfl) rfl rfl rfl)) ?_)
    refine runs_cond (v := false) (by rfl) (fun h => by cases h) (fun _ => ?_)
    refine runs_seq (runs_region (opsQ rfl (stepK_bin rfl (eqI (v := true) rfl)) rfl rfl (opsQ rfl (stepK_as (.v (.bool true)) rfl rfl) rfl rfl rfl)) ?_)
    refine runs_cond (v := true) (by rfl) (fun _ => ?_) (fun h => by cases h)
    let x : Mach := { a with quantum := IntKind.i64.wrap (a.quantum + 1) }
    have hx : x.Ok (ctxOf Tryz.prog eq sp il bl' is) := ⟨ha.fr, ha.bl, ha.pr, ha.pe, ha.di, ha.pi, ha.frn, ha.bln, ha.prn, ha.pen, ha.din, ha.pin⟩
    have hn : sameM (ctxOf Tryz.prog eq sp il bl' is) a x = false := by
      have : (a.quantum == IntKind.i64.wrap (a.quantum + 1)) = false := by simpa using fun h => wrap_next_i64 a.quantum h.symm
      simp [x, sameM, restEq, this]
    refine runs_region (opsQ rfl (stepK_field rfl ty30 rfl rfl rfl) rfl rfl (opsQ rfl (stepK_load rfl ld3 rfl rfl rfl rfl) rfl rfl (opsQ rfl (stepK_bin rfl addI) rfl rfl (opsQ rfl (stepK_field rfl ty30 rfl rfl rfl) rfl rfl (opsM rfl (stepK_store1 x.cells rfl ld3 rfl rfl rfl rfl rfl rfl rfl) rfl rfl))))) ?_
    exact ⟨rfl, x.cells, ⟨rfl, rfl, rfl, trivial⟩, ⟨rfl, rfl⟩, ⟨rfl, rfl⟩, ⟨rfl, rfl⟩, rfl, fun rd _ => callP_plain rfl (hF hx hn) rfl rfl⟩
  | 2, _ =>
    refine runs_seq (runs_region (opsQ rfl (stepK_mv (.v (.int .u8 k)) rfl rfl) rfl rfl (opsQ rfl (stepK_bin rfl hrem) rfl rfl rfl)) (runs_block ?_))
    refine runs_seq (runs_region (opsQ rfl (stepK_bin rfl (eqI (v := false) rfl)) rfl rfl (opsQ rfl (stepK_as (.v (.bool false)) rfl rfl) rfl rfl rfl)) ?_)
    refine runs_cond (v := false) (by rfl) (fun h => by cases h) (fun _ => ?_)
    refine runs_seq (runs_region (opsQ rfl (stepK_bin rfl (eqI (v := false) rfl)) rfl rfl (opsQ rfl (stepK_as (.v (.bool false)) rfl rfl) rfl rfl rfl)) ?_)
    refine runs_cond (v := false) (by rfl) (fun h => by cases h) (fun _ => ?_)
    refine runs_seq (runs_region (opsQ rfl (stepK_bin rfl (eqI (v := true) rfl)) rfl rfl (opsQ rfl (stepK_as (.v (.bool true)) rfl rfl) rfl rfl rfl)) ?_)
    refine runs_cond (v := true) (by rfl) (fun _ => ?_) (fun h => by cases h)
    let x : Mach := { a with cur := IntKind.i64.wrap (a.cur + 1) }
    have hx : x.Ok (ctxOf Tryz.prog eq sp il bl' is) := ⟨ha.fr, ha.bl, ha.pr, ha.pe, ha.di, ha.pi, ha.frn, ha.bln, ha.prn, ha.pen, ha.din, ha.pin⟩
    have hn : sameM (ctxOf Tryz.prog eq sp il bl' is) a x = false := by
      have : (a.cur == IntKind.i64.wrap (a.cur + 1)) = false := by simpa using fun h => wrap_next_i64 a.cur h.symm
      simp [x, sameM, restEq, this]
    refine runs_region (opsQ rfl (stepK_field rfl ty30 rfl rfl rfl) rfl rfl (opsQ rfl (stepK_load rfl ld3 rfl rfl rfl rfl) rfl rfl (opsQ rfl (stepK_bin rfl addI) rfl rfl (opsQ rfl (stepK_field rfl ty30 rfl rfl rfl) rfl rfl (opsM rfl (stepK_store1 x.cells rfl ld3 rfl rfl rfl rfl rfl rfl rfl) rfl rfl))))) ?_
    exact ⟨rfl, x.cells, ⟨rfl, rfl, rfl, trivial⟩, ⟨rfl, rfl⟩, ⟨rfl, rfl⟩, ⟨rfl, rfl⟩, rfl, fun rd _ => callP_plain rfl (hF hx hn) rfl rfl⟩
  | 3, _ =>
    refine runs_seq (runs_region (opsQ rfl (stepK_mv (.v (.int .u8 k)) rfl rfl) rfl rfl (opsQ rfl (stepK_bin rfl hrem) rfl rfl rfl)) (runs_block ?_))
    refine runs_seq (runs_region (opsQ rfl (stepK_bin rfl (eqI (v := false) rfl)) rfl rfl (opsQ rfl (stepK_as (.v (.bool false)) rfl rfl) rfl rfl rfl)) ?_)
    refine runs_cond (v := false) (by rfl) (fun h => by cases h) (fun _ => ?_)
    refine runs_seq (runs_region (opsQ rfl (stepK_bin rfl (eqI (v := false) rfl)) rfl rfl (opsQ rfl (stepK_as (.v (.bool false)) rfl rfl) rfl rfl rfl)) ?_)
    refine runs_cond (v := false) (by rfl) (fun h => by cases h) (fun _ => ?_)
    refine runs_seq (runs_region (opsQ rfl (stepK_bin rfl (eqI (v := false) rfl)) rfl rfl (opsQ rfl (stepK_as (.v (.bool false)) rfl rfl) rfl rfl rfl)) ?_)
    refine runs_cond (v := false) (by rfl) (fun h => by cases h) (fun _ => ?_)
    refine runs_seq (runs_region (opsQ rfl (stepK_bin rfl (eqI (v := true) rfl)) rfl rfl (opsQ rfl (stepK_as (.v (.bool true)) rfl rfl) rfl rfl rfl)) ?_)
    refine runs_cond (v := true) (by rfl) (fun _ => ?_) (fun h => by cases h)
    let x : Mach := { a with left := IntKind.i64.wrap (a.left + 1) }
    have hx : x.Ok (ctxOf Tryz.prog eq sp il bl' is) := ⟨ha.fr, ha.bl, ha.pr, ha.pe, ha.di, ha.pi, ha.frn, ha.bln, ha.prn, ha.pen, ha.din, ha.pin⟩
    have hn : sameM (ctxOf Tryz.prog eq sp il bl' is) a x = false := by
      have : (a.left == IntKind.i64.wrap (a.left + 1)) = false := by simpa using fun h => wrap_next_i64 a.left h.symm
      simp [x, sameM, restEq, this]
    refine runs_region (opsQ rfl (stepK_field rfl ty30 rfl rfl rfl) rfl rfl (opsQ rfl (stepK_load rfl ld3 rfl rfl rfl rfl) rfl rfl (opsQ rfl (stepK_bin rfl addI) rfl rfl (opsQ rfl (stepK_field rfl ty30 rfl rfl rfl) rfl rfl (opsM rfl (stepK_store1 x.cells rfl ld3 rfl rfl rfl rfl rfl rfl rfl) rfl rfl))))) ?_
    exact ⟨rfl, x.cells, ⟨rfl, rfl, rfl, trivial⟩, ⟨rfl, rfl⟩, ⟨rfl, rfl⟩, ⟨rfl, rfl⟩, rfl, fun rd _ => callP_plain rfl (hF hx hn) rfl rfl⟩
  | 4, _ =>
    refine runs_seq (runs_region (opsQ rfl (stepK_mv (.v (.int .u8 k)) rfl rfl) rfl rfl (opsQ rfl (stepK_bin rfl hrem) rfl rfl rfl)) (runs_block ?_))
    refine runs_seq (runs_region (opsQ rfl (stepK_bin rfl (eqI (v := false) rfl)) rfl rfl (opsQ rfl (stepK_as (.v (.bool false)) rfl rfl) rfl rfl rfl)) ?_)
    refine runs_cond (v := false) (by rfl) (fun h => by cases h) (fun _ => ?_)
    refine runs_seq (runs_region (opsQ rfl (stepK_bin rfl (eqI (v := false) rfl)) rfl rfl (opsQ rfl (stepK_as (.v (.bool false)) rfl rfl) rfl rfl rfl)) ?_)
    refine runs_cond (v := false) (by rfl) (fun h => by cases h) (fun _ => ?_)
    refine runs_seq (runs_region (opsQ rfl (stepK_bin rfl (eqI (v := false) rfl)) rfl rfl (opsQ rfl (stepK_as (.v (.bool false)) rfl rfl) rfl rfl rfl)) ?_)
    refine runs_cond (v := false) (by rfl) (fun h => by cases h) (fun _ => ?_)
    refine runs_seq (runs_region (opsQ rfl (stepK_bin rfl (eqI (v := false) rfl)) rfl rfl (opsQ rfl (stepK_as (.v (.bool false)) rfl rfl) rfl rfl rfl)) ?_)
    refine runs_cond (v := false) (by rfl) (fun h => by cases h) (fun _ => ?_)
    refine runs_seq (runs_region (opsQ rfl (stepK_bin rfl (eqI (v := true) rfl)) rfl rfl (opsQ rfl (stepK_as (.v (.bool true)) rfl rfl) rfl rfl rfl)) ?_)
    refine runs_cond (v := true) (by rfl) (fun _ => ?_) (fun h => by cases h)
    have hy0 : (ctxOf Tryz.prog eq sp il bl' is).bytes 9 ≤ 100000 ∧ 0 < (ctxOf Tryz.prog eq sp il bl' is).bytes 9 ∧ ((ctxOf Tryz.prog eq sp il bl' is).zero 9).isSome = true := ⟨Nat.le_of_ble_eq_true (by kernel_rfl), Nat.lt_of_lt_of_le (by decide) (Nat.le_of_ble_eq_true (show Nat.ble 1 ((ctxOf Tryz.prog eq sp il bl' is).bytes 9) = true by kernel_rfl)), by kernel_rfl⟩
    have hagT : (ctxOf Tryz.prog eq sp il bl' is).isAgg 9 = some false := by kernel_rfl
    have hb0 : buildSliceP (ctxOf Tryz.prog eq sp il bl' is) (idOf 0 113 0) 0 23 0 [] = some (.row (idOf 0 113 0) 1 0 ([] : List PV).length ((ctxOf Tryz.prog eq sp il bl' is).size 9), [(idOf 0 113 0, 1, .row ((ctxOf Tryz.prog eq sp il bl' is).size 9) [])]) := by kernel_rfl
    have hb1 : buildSliceP (ctxOf Tryz.prog eq sp il bl' is) (idOf 0 117 0) 0 23 1 [(0, (PV.v (Value.string ⟨#[]⟩)))] = some (.row (idOf 0 117 0) 1 0 [(PV.v (Value.string ⟨#[]⟩))].length ((ctxOf Tryz.prog eq sp il bl' is).size 9), [(idOf 0 117 0, 1, .row ((ctxOf Tryz.prog eq sp il bl' is).size 9) [(PV.v (Value.string ⟨#[]⟩))])]) := by kernel_rfl
    have hel : ∀ y ∈ a.fr, y.cells.length = (ctxOf Tryz.prog eq sp il bl' is).size 9 := fun y hy => (okStr_elem sz9 (ha.fr y hy)).1
    have hlen : ([] ++ a.fr : List PV).length ≤ 30 := by simp; omega
    have hbd1 : ([] ++ a.fr : List PV).length * (ctxOf Tryz.prog eq sp il bl' is).bytes 9 ≤ 140737488355328 := Nat.le_trans (Nat.mul_le_mul hlen hy0.1) (by decide)
    have hbd2 : (([] ++ a.fr) ++ [(PV.v (Value.string ⟨#[]⟩))] : List PV).length * (ctxOf Tryz.prog eq sp il bl' is).bytes 9 ≤ 140737488355328 := Nat.le_trans (Nat.mul_le_mul (show _ ≤ 31 by simp; omega) hy0.1) (by decide)
    have hclo : closedL (([] ++ a.fr) ++ [(PV.v (Value.string ⟨#[]⟩))]) = true := closedL_of (fun c hc => by
      simp at hc
      rcases hc with hc | rfl
      · exact str_closed (ha.fr c hc)
      · exact rfl)
    let y : Mach := { a with fr := ([] ++ a.fr) ++ [(PV.v (Value.string ⟨#[]⟩))] }
    let x : MachP := { a.p with fr := .row (idOf 0 118 0) 1 0 (([] ++ a.fr) ++ [(PV.v (Value.string ⟨#[]⟩))]).length ((ctxOf Tryz.prog eq sp il bl' is).size 9) }
    have hel2 : ∀ c ∈ y.fr, okStr c = true := fun c hc => by
      simp [y] at hc
      rcases hc with hc | rfl
      · exact ha.fr c hc
      · exact rfl
    have hln : y.fr.length < 9223372036854775808 := by simp [y]; omega
    have hy : y.Ok (ctxOf Tryz.prog eq sp il bl' is) := ⟨hel2, ha.bl, ha.pr, ha.pe, ha.di, ha.pi, hln, ha.bln, ha.prn, ha.pen, ha.din, ha.pin⟩
    have hn : sameM (ctxOf Tryz.prog eq sp il bl' is) a y = false := by
      have : lq (nqOf (ctxOf Tryz.prog eq sp il bl' is) 9) a.fr (([] ++ a.fr) ++ [(PV.v (Value.string ⟨#[]⟩))]) = false := lq_len (by simp)
      simp only [y, sameM, this, Bool.and_false, Bool.false_and]
    refine runs_region (opsH rfl (stepK_bslice rfl rfl hb0) rfl rfl (opsQ rfl (stepK_field rfl ty30 rfl rfl rfl) rfl rfl (opsQ rfl (stepK_load rfl ld23 rfl rfl rfl rfl) rfl rfl (opsH rfl (stepK_append (es := []) (ns := a.fr) rfl ⟨rfl, rfl⟩ sl23' hagT rfl rfl rfl rfl rfl rfl (elems_lst hel) hbd1 hy0.2.1 hy0.2.2) rfl rfl (opsH rfl (stepK_bslice rfl rfl hb1) rfl rfl (opsH rfl (stepK_append (es := [] ++ a.fr) (ns := [(PV.v (Value.string ⟨#[]⟩))]) rfl ⟨rfl, rfl⟩ sl23' hagT rfl rfl rfl rfl rfl rfl (elems_one rfl rfl) hbd2 hy0.2.1 hy0.2.2) rfl rfl (opsQ rfl (stepK_field rfl ty30 rfl rfl rfl) rfl rfl (opsM rfl (stepK_store1 x.cells rfl ld23 rfl rfl rfl rfl rfl rfl rfl) rfl rfl)))))))) ?_
    refine ⟨rfl, x.cells, ⟨rfl, rfl, rfl, trivial⟩, ⟨rfl, rfl⟩, ⟨rfl, rfl⟩, ⟨rfl, rfl⟩, rfl, fun rd hrd => callP_plain (cargs := [a.pv, y.pv]) ?_ (hF hy hn) rfl rfl⟩
    have hc := hrd (idOf 0 118 0) (by simp [x, refsL, refs])
    exact reify_two_fr (reify_rowL hc rfl rfl hclo)
  | 5, _ =>
    refine runs_seq (runs_region (opsQ rfl (stepK_mv (.v (.int .u8 k)) rfl rfl) rfl rfl (opsQ rfl (stepK_bin rfl hrem) rfl rfl rfl)) (runs_block ?_))
    refine runs_seq (runs_region (opsQ rfl (stepK_bin rfl (eqI (v := false) rfl)) rfl rfl (opsQ rfl (stepK_as (.v (.bool false)) rfl rfl) rfl rfl rfl)) ?_)
    refine runs_cond (v := false) (by rfl) (fun h => by cases h) (fun _ => ?_)
    refine runs_seq (runs_region (opsQ rfl (stepK_bin rfl (eqI (v := false) rfl)) rfl rfl (opsQ rfl (stepK_as (.v (.bool false)) rfl rfl) rfl rfl rfl)) ?_)
    refine runs_cond (v := false) (by rfl) (fun h => by cases h) (fun _ => ?_)
    refine runs_seq (runs_region (opsQ rfl (stepK_bin rfl (eqI (v := false) rfl)) rfl rfl (opsQ rfl (stepK_as (.v (.bool false)) rfl rfl) rfl rfl rfl)) ?_)
    refine runs_cond (v := false) (by rfl) (fun h => by cases h) (fun _ => ?_)
    refine runs_seq (runs_region (opsQ rfl (stepK_bin rfl (eqI (v := false) rfl)) rfl rfl (opsQ rfl (stepK_as (.v (.bool false)) rfl rfl) rfl rfl rfl)) ?_)
    refine runs_cond (v := false) (by rfl) (fun h => by cases h) (fun _ => ?_)
    refine runs_seq (runs_region (opsQ rfl (stepK_bin rfl (eqI (v := false) rfl)) rfl rfl (opsQ rfl (stepK_as (.v (.bool false)) rfl rfl) rfl rfl rfl)) ?_)
    refine runs_cond (v := false) (by rfl) (fun h => by cases h) (fun _ => ?_)
    refine runs_seq (runs_region (opsQ rfl (stepK_bin rfl (eqI (v := true) rfl)) rfl rfl (opsQ rfl (stepK_as (.v (.bool true)) rfl rfl) rfl rfl rfl)) ?_)
    refine runs_cond (v := true) (by rfl) (fun _ => ?_) (fun h => by cases h)
    have hy0 : (ctxOf Tryz.prog eq sp il bl' is).bytes 44 ≤ 100000 ∧ 0 < (ctxOf Tryz.prog eq sp il bl' is).bytes 44 ∧ ((ctxOf Tryz.prog eq sp il bl' is).zero 44).isSome = true := ⟨Nat.le_of_ble_eq_true (by kernel_rfl), Nat.lt_of_lt_of_le (by decide) (Nat.le_of_ble_eq_true (show Nat.ble 1 ((ctxOf Tryz.prog eq sp il bl' is).bytes 44) = true by kernel_rfl)), by kernel_rfl⟩
    have hagT : (ctxOf Tryz.prog eq sp il bl' is).isAgg 44 = some true := by kernel_rfl
    have hb0 : buildSliceP (ctxOf Tryz.prog eq sp il bl' is) (idOf 0 122 0) 0 24 0 [] = some (.row (idOf 0 122 0) 1 0 ([] : List PV).length ((ctxOf Tryz.prog eq sp il bl' is).size 44), [(idOf 0 122 0, 1, .row ((ctxOf Tryz.prog eq sp il bl' is).size 44) [])]) := by kernel_rfl
    have hb1 : buildSliceP (ctxOf Tryz.prog eq sp il bl' is) (idOf 0 127 0) 0 24 1 [(0, (zP (ctxOf Tryz.prog eq sp il bl' is) 44))] = some (.row (idOf 0 127 0) 1 0 [(zP (ctxOf Tryz.prog eq sp il bl' is) 44)].length ((ctxOf Tryz.prog eq sp il bl' is).size 44), [(idOf 0 127 0, 1, .row ((ctxOf Tryz.prog eq sp il bl' is).size 44) [(zP (ctxOf Tryz.prog eq sp il bl' is) 44)])]) := by kernel_rfl
    have hbz : buildP (ctxOf Tryz.prog eq sp il bl' is) 44 [] = some (zP (ctxOf Tryz.prog eq sp il bl' is) 44) := by kernel_rfl
    have hel : ∀ y ∈ a.pr, y.cells.length = (ctxOf Tryz.prog eq sp il bl' is).size 44 := fun y hy => (okAgg_elem (ha.pr y hy).1).1
    have hlen : ([] ++ a.pr : List PV).length ≤ 10 := by simp; omega
    have hbd1 : ([] ++ a.pr : List PV).length * (ctxOf Tryz.prog eq sp il bl' is).bytes 44 ≤ 140737488355328 := Nat.le_trans (Nat.mul_le_mul hlen hy0.1) (by decide)
    have hbd2 : (([] ++ a.pr) ++ [(zP (ctxOf Tryz.prog eq sp il bl' is) 44)] : List PV).length * (ctxOf Tryz.prog eq sp il bl' is).bytes 44 ≤ 140737488355328 := Nat.le_trans (Nat.mul_le_mul (show _ ≤ 11 by simp; omega) hy0.1) (by decide)
    have hclo : closedL (([] ++ a.pr) ++ [(zP (ctxOf Tryz.prog eq sp il bl' is) 44)]) = true := closedL_of (fun c hc => by
      simp at hc
      rcases hc with hc | rfl
      · exact agg_closed (ha.pr c hc)
      · exact agg_closed g44)
    let y : Mach := { a with pr := ([] ++ a.pr) ++ [(zP (ctxOf Tryz.prog eq sp il bl' is) 44)] }
    let x : MachP := { a.p with pr := .row (idOf 0 128 0) 1 0 (([] ++ a.pr) ++ [(zP (ctxOf Tryz.prog eq sp il bl' is) 44)]).length ((ctxOf Tryz.prog eq sp il bl' is).size 44) }
    have hel2 : ∀ c ∈ y.pr, okAgg ((ctxOf Tryz.prog eq sp il bl' is).size 44) c = true ∧ nqOf (ctxOf Tryz.prog eq sp il bl' is) 44 c c = some false := fun c hc => by
      simp [y] at hc
      rcases hc with hc | rfl
      · exact ha.pr c hc
      · exact g44
    have hln : y.pr.length < 9223372036854775808 := by simp [y]; omega
    have hy : y.Ok (ctxOf Tryz.prog eq sp il bl' is) := ⟨ha.fr, ha.bl, hel2, ha.pe, ha.di, ha.pi, ha.frn, ha.bln, hln, ha.pen, ha.din, ha.pin⟩
    have hn : sameM (ctxOf Tryz.prog eq sp il bl' is) a y = false := by
      have : lq (nqOf (ctxOf Tryz.prog eq sp il bl' is) 44) a.pr (([] ++ a.pr) ++ [(zP (ctxOf Tryz.prog eq sp il bl' is) 44)]) = false := lq_len (by simp)
      simp only [y, sameM, this, Bool.and_false, Bool.false_and]
    refine runs_region (opsH rfl (stepK_bslice rfl rfl hb0) rfl rfl (opsQ rfl (stepK_field rfl ty30 rfl rfl rfl) rfl rfl (opsQ rfl (stepK_load rfl ld24 rfl rfl rfl rfl) rfl rfl (opsH rfl (stepK_append (es := []) (ns := a.pr) rfl ⟨rfl, rfl⟩ sl24' hagT rfl rfl rfl rfl rfl rfl (elems_lst hel) hbd1 hy0.2.1 hy0.2.2) rfl rfl (opsQ rfl (stepK_build rfl hbz) rfl rfl (opsH rfl (stepK_bslice rfl rfl hb1) rfl rfl (opsH rfl (stepK_append (es := [] ++ a.pr) (ns := [(zP (ctxOf Tryz.prog eq sp il bl' is) 44)]) rfl ⟨rfl, rfl⟩ sl24' hagT rfl rfl rfl rfl rfl rfl (elems_one rfl rfl) hbd2 hy0.2.1 hy0.2.2) rfl rfl (opsQ rfl (stepK_field rfl ty30 rfl rfl rfl) rfl rfl (opsM rfl (stepK_store1 x.cells rfl ld24 rfl rfl rfl rfl rfl rfl rfl) rfl rfl))))))))) ?_
    refine ⟨rfl, x.cells, ⟨rfl, rfl, rfl, trivial⟩, ⟨rfl, rfl⟩, ⟨rfl, rfl⟩, ⟨rfl, rfl⟩, rfl, fun rd hrd => callP_plain (cargs := [a.pv, y.pv]) ?_ (hF hy hn) rfl rfl⟩
    have hc := hrd (idOf 0 128 0) (by simp [x, refsL, refs])
    exact reify_two_pr (reify_rowL hc rfl rfl hclo)
  | 6, _ =>
    refine runs_seq (runs_region (opsQ rfl (stepK_mv (.v (.int .u8 k)) rfl rfl) rfl rfl (opsQ rfl (stepK_bin rfl hrem) rfl rfl rfl)) (runs_block ?_))
    refine runs_seq (runs_region (opsQ rfl (stepK_bin rfl (eqI (v := false) rfl)) rfl rfl (opsQ rfl (stepK_as (.v (.bool false)) rfl rfl) rfl rfl rfl)) ?_)
    refine runs_cond (v := false) (by rfl) (fun h => by cases h) (fun _ => ?_)
    refine runs_seq (runs_region (opsQ rfl (stepK_bin rfl (eqI (v := false) rfl)) rfl rfl (opsQ rfl (stepK_as (.v (.bool false)) rfl rfl) rfl rfl rfl)) ?_)
    refine runs_cond (v := false) (by rfl) (fun h => by cases h) (fun _ => ?_)
    refine runs_seq (runs_region (opsQ rfl (stepK_bin rfl (eqI (v := false) rfl)) rfl rfl (opsQ rfl (stepK_as (.v (.bool false)) rfl rfl) rfl rfl rfl)) ?_)
    refine runs_cond (v := false) (by rfl) (fun h => by cases h) (fun _ => ?_)
    refine runs_seq (runs_region (opsQ rfl (stepK_bin rfl (eqI (v := false) rfl)) rfl rfl (opsQ rfl (stepK_as (.v (.bool false)) rfl rfl) rfl rfl rfl)) ?_)
    refine runs_cond (v := false) (by rfl) (fun h => by cases h) (fun _ => ?_)
    refine runs_seq (runs_region (opsQ rfl (stepK_bin rfl (eqI (v := false) rfl)) rfl rfl (opsQ rfl (stepK_as (.v (.bool false)) rfl rfl) rfl rfl rfl)) ?_)
    refine runs_cond (v := false) (by rfl) (fun h => by cases h) (fun _ => ?_)
    refine runs_seq (runs_region (opsQ rfl (stepK_bin rfl (eqI (v := false) rfl)) rfl rfl (opsQ rfl (stepK_as (.v (.bool false)) rfl rfl) rfl rfl rfl)) ?_)
    refine runs_cond (v := false) (by rfl) (fun h => by cases h) (fun _ => ?_)
    refine runs_seq (runs_region (opsQ rfl (stepK_bin rfl (eqI (v := true) rfl)) rfl rfl (opsQ rfl (stepK_as (.v (.bool true)) rfl rfl) rfl rfl rfl)) ?_)
    refine runs_cond (v := true) (by rfl) (fun _ => ?_) (fun h => by cases h)
    have hy0 : (ctxOf Tryz.prog eq sp il bl' is).bytes 46 ≤ 100000 ∧ 0 < (ctxOf Tryz.prog eq sp il bl' is).bytes 46 ∧ ((ctxOf Tryz.prog eq sp il bl' is).zero 46).isSome = true := ⟨Nat.le_of_ble_eq_true (by kernel_rfl), Nat.lt_of_lt_of_le (by decide) (Nat.le_of_ble_eq_true (show Nat.ble 1 ((ctxOf Tryz.prog eq sp il bl' is).bytes 46) = true by kernel_rfl)), by kernel_rfl⟩
    have hagT : (ctxOf Tryz.prog eq sp il bl' is).isAgg 46 = some true := by kernel_rfl
    have hb0 : buildSliceP (ctxOf Tryz.prog eq sp il bl' is) (idOf 0 132 0) 0 25 0 [] = some (.row (idOf 0 132 0) 1 0 ([] : List PV).length ((ctxOf Tryz.prog eq sp il bl' is).size 46), [(idOf 0 132 0, 1, .row ((ctxOf Tryz.prog eq sp il bl' is).size 46) [])]) := by kernel_rfl
    have hb1 : buildSliceP (ctxOf Tryz.prog eq sp il bl' is) (idOf 0 137 0) 0 25 1 [(0, (zP (ctxOf Tryz.prog eq sp il bl' is) 46))] = some (.row (idOf 0 137 0) 1 0 [(zP (ctxOf Tryz.prog eq sp il bl' is) 46)].length ((ctxOf Tryz.prog eq sp il bl' is).size 46), [(idOf 0 137 0, 1, .row ((ctxOf Tryz.prog eq sp il bl' is).size 46) [(zP (ctxOf Tryz.prog eq sp il bl' is) 46)])]) := by kernel_rfl
    have hbz : buildP (ctxOf Tryz.prog eq sp il bl' is) 46 [] = some (zP (ctxOf Tryz.prog eq sp il bl' is) 46) := by kernel_rfl
    have hel : ∀ y ∈ a.pi, y.cells.length = (ctxOf Tryz.prog eq sp il bl' is).size 46 := fun y hy => (okAgg_elem (ha.pi y hy).1).1
    have hlen : ([] ++ a.pi : List PV).length ≤ 20 := by simp; omega
    have hbd1 : ([] ++ a.pi : List PV).length * (ctxOf Tryz.prog eq sp il bl' is).bytes 46 ≤ 140737488355328 := Nat.le_trans (Nat.mul_le_mul hlen hy0.1) (by decide)
    have hbd2 : (([] ++ a.pi) ++ [(zP (ctxOf Tryz.prog eq sp il bl' is) 46)] : List PV).length * (ctxOf Tryz.prog eq sp il bl' is).bytes 46 ≤ 140737488355328 := Nat.le_trans (Nat.mul_le_mul (show _ ≤ 21 by simp; omega) hy0.1) (by decide)
    have hclo : closedL (([] ++ a.pi) ++ [(zP (ctxOf Tryz.prog eq sp il bl' is) 46)]) = true := closedL_of (fun c hc => by
      simp at hc
      rcases hc with hc | rfl
      · exact agg_closed (ha.pi c hc)
      · exact agg_closed g46)
    let y : Mach := { a with pi := ([] ++ a.pi) ++ [(zP (ctxOf Tryz.prog eq sp il bl' is) 46)] }
    let x : MachP := { a.p with pi := .row (idOf 0 138 0) 1 0 (([] ++ a.pi) ++ [(zP (ctxOf Tryz.prog eq sp il bl' is) 46)]).length ((ctxOf Tryz.prog eq sp il bl' is).size 46) }
    have hel2 : ∀ c ∈ y.pi, okAgg ((ctxOf Tryz.prog eq sp il bl' is).size 46) c = true ∧ nqOf (ctxOf Tryz.prog eq sp il bl' is) 46 c c = some false := fun c hc => by
      simp [y] at hc
      rcases hc with hc | rfl
      · exact ha.pi c hc
      · exact g46
    have hln : y.pi.length < 9223372036854775808 := by simp [y]; omega
    have hy : y.Ok (ctxOf Tryz.prog eq sp il bl' is) := ⟨ha.fr, ha.bl, ha.pr, ha.pe, ha.di, hel2, ha.frn, ha.bln, ha.prn, ha.pen, ha.din, hln⟩
    have hn : sameM (ctxOf Tryz.prog eq sp il bl' is) a y = false := by
      have : lq (nqOf (ctxOf Tryz.prog eq sp il bl' is) 46) a.pi (([] ++ a.pi) ++ [(zP (ctxOf Tryz.prog eq sp il bl' is) 46)]) = false := lq_len (by simp)
      simp only [y, sameM, this, Bool.and_false, Bool.false_and]
    refine runs_region (opsH rfl (stepK_bslice rfl rfl hb0) rfl rfl (opsQ rfl (stepK_field rfl ty30 rfl rfl rfl) rfl rfl (opsQ rfl (stepK_load rfl ld25 rfl rfl rfl rfl) rfl rfl (opsH rfl (stepK_append (es := []) (ns := a.pi) rfl ⟨rfl, rfl⟩ sl25' hagT rfl rfl rfl rfl rfl rfl (elems_lst hel) hbd1 hy0.2.1 hy0.2.2) rfl rfl (opsQ rfl (stepK_build rfl hbz) rfl rfl (opsH rfl (stepK_bslice rfl rfl hb1) rfl rfl (opsH rfl (stepK_append (es := [] ++ a.pi) (ns := [(zP (ctxOf Tryz.prog eq sp il bl' is) 46)]) rfl ⟨rfl, rfl⟩ sl25' hagT rfl rfl rfl rfl rfl rfl (elems_one rfl rfl) hbd2 hy0.2.1 hy0.2.2) rfl rfl (opsQ rfl (stepK_field rfl ty30 rfl rfl rfl) rfl rfl (opsM rfl (stepK_store1 x.cells rfl ld25 rfl rfl rfl rfl rfl rfl rfl) rfl rfl))))))))) ?_
    refine ⟨rfl, x.cells, ⟨rfl, rfl, rfl, trivial⟩, ⟨rfl, rfl⟩, ⟨rfl, rfl⟩, ⟨rfl, rfl⟩, rfl, fun rd hrd => callP_plain (cargs := [a.pv, y.pv]) ?_ (hF hy hn) rfl rfl⟩
    have hc := hrd (idOf 0 138 0) (by simp [x, refsL, refs])
    exact reify_two_pi (reify_rowL hc rfl rfl hclo)
  | 7, _ =>
    refine runs_seq (runs_region (opsQ rfl (stepK_mv (.v (.int .u8 k)) rfl rfl) rfl rfl (opsQ rfl (stepK_bin rfl hrem) rfl rfl rfl)) (runs_block ?_))
    refine runs_seq (runs_region (opsQ rfl (stepK_bin rfl (eqI (v := false) rfl)) rfl rfl (opsQ rfl (stepK_as (.v (.bool false)) rfl rfl) rfl rfl rfl)) ?_)
    refine runs_cond (v := false) (by rfl) (fun h => by cases h) (fun _ => ?_)
    refine runs_seq (runs_region (opsQ rfl (stepK_bin rfl (eqI (v := false) rfl)) rfl rfl (opsQ rfl (stepK_as (.v (.bool false)) rfl rfl) rfl rfl rfl)) ?_)
    refine runs_cond (v := false) (by rfl) (fun h => by cases h) (fun _ => ?_)
    refine runs_seq (runs_region (opsQ rfl (stepK_bin rfl (eqI (v := false) rfl)) rfl rfl (opsQ rfl (stepK_as (.v (.bool false)) rfl rfl) rfl rfl rfl)) ?_)
    refine runs_cond (v := false) (by rfl) (fun h => by cases h) (fun _ => ?_)
    refine runs_seq (runs_region (opsQ rfl (stepK_bin rfl (eqI (v := false) rfl)) rfl rfl (opsQ rfl (stepK_as (.v (.bool false)) rfl rfl) rfl rfl rfl)) ?_)
    refine runs_cond (v := false) (by rfl) (fun h => by cases h) (fun _ => ?_)
    refine runs_seq (runs_region (opsQ rfl (stepK_bin rfl (eqI (v := false) rfl)) rfl rfl (opsQ rfl (stepK_as (.v (.bool false)) rfl rfl) rfl rfl rfl)) ?_)
    refine runs_cond (v := false) (by rfl) (fun h => by cases h) (fun _ => ?_)
    refine runs_seq (runs_region (opsQ rfl (stepK_bin rfl (eqI (v := false) rfl)) rfl rfl (opsQ rfl (stepK_as (.v (.bool false)) rfl rfl) rfl rfl rfl)) ?_)
    refine runs_cond (v := false) (by rfl) (fun h => by cases h) (fun _ => ?_)
    refine runs_seq (runs_region (opsQ rfl (stepK_bin rfl (eqI (v := false) rfl)) rfl rfl (opsQ rfl (stepK_as (.v (.bool false)) rfl rfl) rfl rfl rfl)) ?_)
    refine runs_cond (v := false) (by rfl) (fun h => by cases h) (fun _ => ?_)
    refine runs_seq (runs_region (opsQ rfl (stepK_bin rfl (eqI (v := true) rfl)) rfl rfl (opsQ rfl (stepK_as (.v (.bool true)) rfl rfl) rfl rfl rfl)) ?_)
    refine runs_cond (v := true) (by rfl) (fun _ => ?_) (fun h => by cases h)
    let x : Mach := { a with fin := !a.fin }
    have hx : x.Ok (ctxOf Tryz.prog eq sp il bl' is) := ⟨ha.fr, ha.bl, ha.pr, ha.pe, ha.di, ha.pi, ha.frn, ha.bln, ha.prn, ha.pen, ha.din, ha.pin⟩
    have hn : sameM (ctxOf Tryz.prog eq sp il bl' is) a x = false := by
      have : (a.fin == !a.fin) = false := by cases a.fin <;> rfl
      simp [x, sameM, restEq, this]
    refine runs_region (opsQ rfl (stepK_field rfl ty30 rfl rfl rfl) rfl rfl (opsQ rfl (stepK_load rfl ld4 rfl rfl rfl rfl) rfl rfl (opsQ rfl (stepK_notB rfl rfl) rfl rfl (opsQ rfl (stepK_field rfl ty30 rfl rfl rfl) rfl rfl (opsM rfl (stepK_store1 x.cells rfl ld4 rfl rfl rfl rfl rfl rfl rfl) rfl rfl))))) ?_
    exact ⟨rfl, x.cells, ⟨rfl, rfl, rfl, trivial⟩, ⟨rfl, rfl⟩, ⟨rfl, rfl⟩, ⟨rfl, rfl⟩, rfl, fun rd _ => callP_plain rfl (hF hx hn) rfl rfl⟩
  | 8, _ =>
    refine runs_seq (runs_region (opsQ rfl (stepK_mv (.v (.int .u8 k)) rfl rfl) rfl rfl (opsQ rfl (stepK_bin rfl hrem) rfl rfl rfl)) (runs_block ?_))
    refine runs_seq (runs_region (opsQ rfl (stepK_bin rfl (eqI (v := false) rfl)) rfl rfl (opsQ rfl (stepK_as (.v (.bool false)) rfl rfl) rfl rfl rfl)) ?_)
    refine runs_cond (v := false) (by rfl) (fun h => by cases h) (fun _ => ?_)
    refine runs_seq (runs_region (opsQ rfl (stepK_bin rfl (eqI (v := false) rfl)) rfl rfl (opsQ rfl (stepK_as (.v (.bool false)) rfl rfl) rfl rfl rfl)) ?_)
    refine runs_cond (v := false) (by rfl) (fun h => by cases h) (fun _ => ?_)
    refine runs_seq (runs_region (opsQ rfl (stepK_bin rfl (eqI (v := false) rfl)) rfl rfl (opsQ rfl (stepK_as (.v (.bool false)) rfl rfl) rfl rfl rfl)) ?_)
    refine runs_cond (v := false) (by rfl) (fun h => by cases h) (fun _ => ?_)
    refine runs_seq (runs_region (opsQ rfl (stepK_bin rfl (eqI (v := false) rfl)) rfl rfl (opsQ rfl (stepK_as (.v (.bool false)) rfl rfl) rfl rfl rfl)) ?_)
    refine runs_cond (v := false) (by rfl) (fun h => by cases h) (fun _ => ?_)
    refine runs_seq (runs_region (opsQ rfl (stepK_bin rfl (eqI (v := false) rfl)) rfl rfl (opsQ rfl (stepK_as (.v (.bool false)) rfl rfl) rfl rfl rfl)) ?_)
    refine runs_cond (v := false) (by rfl) (fun h => by cases h) (fun _ => ?_)
    refine runs_seq (runs_region (opsQ rfl (stepK_bin rfl (eqI (v := false) rfl)) rfl rfl (opsQ rfl (stepK_as (.v (.bool false)) rfl rfl) rfl rfl rfl)) ?_)
    refine runs_cond (v := false) (by rfl) (fun h => by cases h) (fun _ => ?_)
    refine runs_seq (runs_region (opsQ rfl (stepK_bin rfl (eqI (v := false) rfl)) rfl rfl (opsQ rfl (stepK_as (.v (.bool false)) rfl rfl) rfl rfl rfl)) ?_)
    refine runs_cond (v := false) (by rfl) (fun h => by cases h) (fun _ => ?_)
    refine runs_seq (runs_region (opsQ rfl (stepK_bin rfl (eqI (v := false) rfl)) rfl rfl (opsQ rfl (stepK_as (.v (.bool false)) rfl rfl) rfl rfl rfl)) ?_)
    refine runs_cond (v := false) (by rfl) (fun h => by cases h) (fun _ => ?_)
    refine runs_seq (runs_region (opsQ rfl (stepK_bin rfl (eqI (v := true) rfl)) rfl rfl (opsQ rfl (stepK_as (.v (.bool true)) rfl rfl) rfl rfl rfl)) ?_)
    refine runs_cond (v := true) (by rfl) (fun _ => ?_) (fun h => by cases h)
    let x : Mach := { a with told := IntKind.u64.wrap (a.told + 1) }
    have hx : x.Ok (ctxOf Tryz.prog eq sp il bl' is) := ⟨ha.fr, ha.bl, ha.pr, ha.pe, ha.di, ha.pi, ha.frn, ha.bln, ha.prn, ha.pen, ha.din, ha.pin⟩
    have hn : sameM (ctxOf Tryz.prog eq sp il bl' is) a x = false := by
      have : (a.told == IntKind.u64.wrap (a.told + 1)) = false := by simpa using fun h => wrap_next_u64 a.told h.symm
      simp [x, sameM, restEq, this]
    refine runs_region (opsQ rfl (stepK_field rfl ty30 rfl rfl rfl) rfl rfl (opsQ rfl (stepK_load rfl ld22 rfl rfl rfl rfl) rfl rfl (opsQ rfl (stepK_bin rfl addI) rfl rfl (opsQ rfl (stepK_field rfl ty30 rfl rfl rfl) rfl rfl (opsM rfl (stepK_store1 x.cells rfl ld22 rfl rfl rfl rfl rfl rfl rfl) rfl rfl))))) ?_
    exact ⟨rfl, x.cells, ⟨rfl, rfl, rfl, trivial⟩, ⟨rfl, rfl⟩, ⟨rfl, rfl⟩, ⟨rfl, rfl⟩, rfl, fun rd _ => callP_plain rfl (hF hx hn) rfl rfl⟩
  | 9, _ =>
    refine runs_seq (runs_region (opsQ rfl (stepK_mv (.v (.int .u8 k)) rfl rfl) rfl rfl (opsQ rfl (stepK_bin rfl hrem) rfl rfl rfl)) (runs_block ?_))
    refine runs_seq (runs_region (opsQ rfl (stepK_bin rfl (eqI (v := false) rfl)) rfl rfl (opsQ rfl (stepK_as (.v (.bool false)) rfl rfl) rfl rfl rfl)) ?_)
    refine runs_cond (v := false) (by rfl) (fun h => by cases h) (fun _ => ?_)
    refine runs_seq (runs_region (opsQ rfl (stepK_bin rfl (eqI (v := false) rfl)) rfl rfl (opsQ rfl (stepK_as (.v (.bool false)) rfl rfl) rfl rfl rfl)) ?_)
    refine runs_cond (v := false) (by rfl) (fun h => by cases h) (fun _ => ?_)
    refine runs_seq (runs_region (opsQ rfl (stepK_bin rfl (eqI (v := false) rfl)) rfl rfl (opsQ rfl (stepK_as (.v (.bool false)) rfl rfl) rfl rfl rfl)) ?_)
    refine runs_cond (v := false) (by rfl) (fun h => by cases h) (fun _ => ?_)
    refine runs_seq (runs_region (opsQ rfl (stepK_bin rfl (eqI (v := false) rfl)) rfl rfl (opsQ rfl (stepK_as (.v (.bool false)) rfl rfl) rfl rfl rfl)) ?_)
    refine runs_cond (v := false) (by rfl) (fun h => by cases h) (fun _ => ?_)
    refine runs_seq (runs_region (opsQ rfl (stepK_bin rfl (eqI (v := false) rfl)) rfl rfl (opsQ rfl (stepK_as (.v (.bool false)) rfl rfl) rfl rfl rfl)) ?_)
    refine runs_cond (v := false) (by rfl) (fun h => by cases h) (fun _ => ?_)
    refine runs_seq (runs_region (opsQ rfl (stepK_bin rfl (eqI (v := false) rfl)) rfl rfl (opsQ rfl (stepK_as (.v (.bool false)) rfl rfl) rfl rfl rfl)) ?_)
    refine runs_cond (v := false) (by rfl) (fun h => by cases h) (fun _ => ?_)
    refine runs_seq (runs_region (opsQ rfl (stepK_bin rfl (eqI (v := false) rfl)) rfl rfl (opsQ rfl (stepK_as (.v (.bool false)) rfl rfl) rfl rfl rfl)) ?_)
    refine runs_cond (v := false) (by rfl) (fun h => by cases h) (fun _ => ?_)
    refine runs_seq (runs_region (opsQ rfl (stepK_bin rfl (eqI (v := false) rfl)) rfl rfl (opsQ rfl (stepK_as (.v (.bool false)) rfl rfl) rfl rfl rfl)) ?_)
    refine runs_cond (v := false) (by rfl) (fun h => by cases h) (fun _ => ?_)
    refine runs_seq (runs_region (opsQ rfl (stepK_bin rfl (eqI (v := false) rfl)) rfl rfl (opsQ rfl (stepK_as (.v (.bool false)) rfl rfl) rfl rfl rfl)) ?_)
    refine runs_cond (v := false) (by rfl) (fun h => by cases h) (fun _ => ?_)
    refine runs_seq (runs_region (opsQ rfl (stepK_bin rfl (eqI (v := true) rfl)) rfl rfl (opsQ rfl (stepK_as (.v (.bool true)) rfl rfl) rfl rfl rfl)) ?_)
    refine runs_cond (v := true) (by rfl) (fun _ => ?_) (fun h => by cases h)
    let x : Mach := { a with dleft := IntKind.i64.wrap (a.dleft + 1) }
    have hx : x.Ok (ctxOf Tryz.prog eq sp il bl' is) := ⟨ha.fr, ha.bl, ha.pr, ha.pe, ha.di, ha.pi, ha.frn, ha.bln, ha.prn, ha.pen, ha.din, ha.pin⟩
    have hn : sameM (ctxOf Tryz.prog eq sp il bl' is) a x = false := by
      have : (a.dleft == IntKind.i64.wrap (a.dleft + 1)) = false := by simpa using fun h => wrap_next_i64 a.dleft h.symm
      simp [x, sameM, restEq, this]
    refine runs_region (opsQ rfl (stepK_field rfl ty30 rfl rfl rfl) rfl rfl (opsQ rfl (stepK_field rfl ty28 rfl rfl rfl) rfl rfl (opsQ rfl (stepK_load rfl ld3 rfl rfl rfl rfl) rfl rfl (opsQ rfl (stepK_bin rfl addI) rfl rfl (opsQ rfl (stepK_field rfl ty30 rfl rfl rfl) rfl rfl (opsQ rfl (stepK_field rfl ty28 rfl rfl rfl) rfl rfl (opsM rfl (stepK_store1 x.cells rfl ld3 rfl rfl rfl rfl rfl rfl rfl) rfl rfl))))))) ?_
    exact ⟨rfl, x.cells, ⟨rfl, rfl, rfl, trivial⟩, ⟨rfl, rfl⟩, ⟨rfl, rfl⟩, ⟨rfl, rfl⟩, rfl, fun rd _ => callP_plain rfl (hF hx hn) rfl rfl⟩
  | 10, _ =>
    refine runs_seq (runs_region (opsQ rfl (stepK_mv (.v (.int .u8 k)) rfl rfl) rfl rfl (opsQ rfl (stepK_bin rfl hrem) rfl rfl rfl)) (runs_block ?_))
    refine runs_seq (runs_region (opsQ rfl (stepK_bin rfl (eqI (v := false) rfl)) rfl rfl (opsQ rfl (stepK_as (.v (.bool false)) rfl rfl) rfl rfl rfl)) ?_)
    refine runs_cond (v := false) (by rfl) (fun h => by cases h) (fun _ => ?_)
    refine runs_seq (runs_region (opsQ rfl (stepK_bin rfl (eqI (v := false) rfl)) rfl rfl (opsQ rfl (stepK_as (.v (.bool false)) rfl rfl) rfl rfl rfl)) ?_)
    refine runs_cond (v := false) (by rfl) (fun h => by cases h) (fun _ => ?_)
    refine runs_seq (runs_region (opsQ rfl (stepK_bin rfl (eqI (v := false) rfl)) rfl rfl (opsQ rfl (stepK_as (.v (.bool false)) rfl rfl) rfl rfl rfl)) ?_)
    refine runs_cond (v := false) (by rfl) (fun h => by cases h) (fun _ => ?_)
    refine runs_seq (runs_region (opsQ rfl (stepK_bin rfl (eqI (v := false) rfl)) rfl rfl (opsQ rfl (stepK_as (.v (.bool false)) rfl rfl) rfl rfl rfl)) ?_)
    refine runs_cond (v := false) (by rfl) (fun h => by cases h) (fun _ => ?_)
    refine runs_seq (runs_region (opsQ rfl (stepK_bin rfl (eqI (v := false) rfl)) rfl rfl (opsQ rfl (stepK_as (.v (.bool false)) rfl rfl) rfl rfl rfl)) ?_)
    refine runs_cond (v := false) (by rfl) (fun h => by cases h) (fun _ => ?_)
    refine runs_seq (runs_region (opsQ rfl (stepK_bin rfl (eqI (v := false) rfl)) rfl rfl (opsQ rfl (stepK_as (.v (.bool false)) rfl rfl) rfl rfl rfl)) ?_)
    refine runs_cond (v := false) (by rfl) (fun h => by cases h) (fun _ => ?_)
    refine runs_seq (runs_region (opsQ rfl (stepK_bin rfl (eqI (v := false) rfl)) rfl rfl (opsQ rfl (stepK_as (.v (.bool false)) rfl rfl) rfl rfl rfl)) ?_)
    refine runs_cond (v := false) (by rfl) (fun h => by cases h) (fun _ => ?_)
    refine runs_seq (runs_region (opsQ rfl (stepK_bin rfl (eqI (v := false) rfl)) rfl rfl (opsQ rfl (stepK_as (.v (.bool false)) rfl rfl) rfl rfl rfl)) ?_)
    refine runs_cond (v := false) (by rfl) (fun h => by cases h) (fun _ => ?_)
    refine runs_seq (runs_region (opsQ rfl (stepK_bin rfl (eqI (v := false) rfl)) rfl rfl (opsQ rfl (stepK_as (.v (.bool false)) rfl rfl) rfl rfl rfl)) ?_)
    refine runs_cond (v := false) (by rfl) (fun h => by cases h) (fun _ => ?_)
    refine runs_seq (runs_region (opsQ rfl (stepK_bin rfl (eqI (v := false) rfl)) rfl rfl (opsQ rfl (stepK_as (.v (.bool false)) rfl rfl) rfl rfl rfl)) ?_)
    refine runs_cond (v := false) (by rfl) (fun h => by cases h) (fun _ => ?_)
    refine runs_seq (runs_region (opsQ rfl (stepK_bin rfl (eqI (v := true) rfl)) rfl rfl (opsQ rfl (stepK_as (.v (.bool true)) rfl rfl) rfl rfl rfl)) ?_)
    refine runs_cond (v := true) (by rfl) (fun _ => ?_) (fun h => by cases h)
    have hy0 : (ctxOf Tryz.prog eq sp il bl' is).bytes 48 ≤ 100000 ∧ 0 < (ctxOf Tryz.prog eq sp il bl' is).bytes 48 ∧ ((ctxOf Tryz.prog eq sp il bl' is).zero 48).isSome = true := ⟨Nat.le_of_ble_eq_true (by kernel_rfl), Nat.lt_of_lt_of_le (by decide) (Nat.le_of_ble_eq_true (show Nat.ble 1 ((ctxOf Tryz.prog eq sp il bl' is).bytes 48) = true by kernel_rfl)), by kernel_rfl⟩
    have hagT : (ctxOf Tryz.prog eq sp il bl' is).isAgg 48 = some true := by kernel_rfl
    have hb0 : buildSliceP (ctxOf Tryz.prog eq sp il bl' is) (idOf 0 162 0) 0 26 0 [] = some (.row (idOf 0 162 0) 1 0 ([] : List PV).length ((ctxOf Tryz.prog eq sp il bl' is).size 48), [(idOf 0 162 0, 1, .row ((ctxOf Tryz.prog eq sp il bl' is).size 48) [])]) := by kernel_rfl
    have hb1 : buildSliceP (ctxOf Tryz.prog eq sp il bl' is) (idOf 0 167 0) 0 26 1 [(0, (zP (ctxOf Tryz.prog eq sp il bl' is) 48))] = some (.row (idOf 0 167 0) 1 0 [(zP (ctxOf Tryz.prog eq sp il bl' is) 48)].length ((ctxOf Tryz.prog eq sp il bl' is).size 48), [(idOf 0 167 0, 1, .row ((ctxOf Tryz.prog eq sp il bl' is).size 48) [(zP (ctxOf Tryz.prog eq sp il bl' is) 48)])]) := by kernel_rfl
    have hbz : buildP (ctxOf Tryz.prog eq sp il bl' is) 48 [] = some (zP (ctxOf Tryz.prog eq sp il bl' is) 48) := by kernel_rfl
    have hel : ∀ y ∈ a.di, y.cells.length = (ctxOf Tryz.prog eq sp il bl' is).size 48 := fun y hy => (okAgg_elem (ha.di y hy).1).1
    have hlen : ([] ++ a.di : List PV).length ≤ 40 := by simp; omega
    have hbd1 : ([] ++ a.di : List PV).length * (ctxOf Tryz.prog eq sp il bl' is).bytes 48 ≤ 140737488355328 := Nat.le_trans (Nat.mul_le_mul hlen hy0.1) (by decide)
    have hbd2 : (([] ++ a.di) ++ [(zP (ctxOf Tryz.prog eq sp il bl' is) 48)] : List PV).length * (ctxOf Tryz.prog eq sp il bl' is).bytes 48 ≤ 140737488355328 := Nat.le_trans (Nat.mul_le_mul (show _ ≤ 41 by simp; omega) hy0.1) (by decide)
    have hclo : closedL (([] ++ a.di) ++ [(zP (ctxOf Tryz.prog eq sp il bl' is) 48)]) = true := closedL_of (fun c hc => by
      simp at hc
      rcases hc with hc | rfl
      · exact agg_closed (ha.di c hc)
      · exact agg_closed g48)
    let y : Mach := { a with di := ([] ++ a.di) ++ [(zP (ctxOf Tryz.prog eq sp il bl' is) 48)] }
    let x : MachP := { a.p with di := .row (idOf 0 168 0) 1 0 (([] ++ a.di) ++ [(zP (ctxOf Tryz.prog eq sp il bl' is) 48)]).length ((ctxOf Tryz.prog eq sp il bl' is).size 48) }
    have hel2 : ∀ c ∈ y.di, okAgg ((ctxOf Tryz.prog eq sp il bl' is).size 48) c = true ∧ nqOf (ctxOf Tryz.prog eq sp il bl' is) 48 c c = some false := fun c hc => by
      simp [y] at hc
      rcases hc with hc | rfl
      · exact ha.di c hc
      · exact g48
    have hln : y.di.length < 9223372036854775808 := by simp [y]; omega
    have hy : y.Ok (ctxOf Tryz.prog eq sp il bl' is) := ⟨ha.fr, ha.bl, ha.pr, ha.pe, hel2, ha.pi, ha.frn, ha.bln, ha.prn, ha.pen, hln, ha.pin⟩
    have hn : sameM (ctxOf Tryz.prog eq sp il bl' is) a y = false := by
      have : lq (nqOf (ctxOf Tryz.prog eq sp il bl' is) 48) a.di (([] ++ a.di) ++ [(zP (ctxOf Tryz.prog eq sp il bl' is) 48)]) = false := lq_len (by simp)
      simp only [y, sameM, this, Bool.and_false, Bool.false_and]
    refine runs_region (opsH rfl (stepK_bslice rfl rfl hb0) rfl rfl (opsQ rfl (stepK_field rfl ty30 rfl rfl rfl) rfl rfl (opsQ rfl (stepK_load rfl ld26 rfl rfl rfl rfl) rfl rfl (opsH rfl (stepK_append (es := []) (ns := a.di) rfl ⟨rfl, rfl⟩ sl26' hagT rfl rfl rfl rfl rfl rfl (elems_lst hel) hbd1 hy0.2.1 hy0.2.2) rfl rfl (opsQ rfl (stepK_build rfl hbz) rfl rfl (opsH rfl (stepK_bslice rfl rfl hb1) rfl rfl (opsH rfl (stepK_append (es := [] ++ a.di) (ns := [(zP (ctxOf Tryz.prog eq sp il bl' is) 48)]) rfl ⟨rfl, rfl⟩ sl26' hagT rfl rfl rfl rfl rfl rfl (elems_one rfl rfl) hbd2 hy0.2.1 hy0.2.2) rfl rfl (opsQ rfl (stepK_field rfl ty30 rfl rfl rfl) rfl rfl (opsM rfl (stepK_store1 x.cells rfl ld26 rfl rfl rfl rfl rfl rfl rfl) rfl rfl))))))))) ?_
    refine ⟨rfl, x.cells, ⟨rfl, rfl, rfl, trivial⟩, ⟨rfl, rfl⟩, ⟨rfl, rfl⟩, ⟨rfl, rfl⟩, rfl, fun rd hrd => callP_plain (cargs := [a.pv, y.pv]) ?_ (hF hy hn) rfl rfl⟩
    have hc := hrd (idOf 0 168 0) (by simp [x, refsL, refs])
    exact reify_two_di (reify_rowL hc rfl rfl hclo)
  | 11, _ =>
    refine runs_seq (runs_region (opsQ rfl (stepK_mv (.v (.int .u8 k)) rfl rfl) rfl rfl (opsQ rfl (stepK_bin rfl hrem) rfl rfl rfl)) (runs_block ?_))
    refine runs_seq (runs_region (opsQ rfl (stepK_bin rfl (eqI (v := false) rfl)) rfl rfl (opsQ rfl (stepK_as (.v (.bool false)) rfl rfl) rfl rfl rfl)) ?_)
    refine runs_cond (v := false) (by rfl) (fun h => by cases h) (fun _ => ?_)
    refine runs_seq (runs_region (opsQ rfl (stepK_bin rfl (eqI (v := false) rfl)) rfl rfl (opsQ rfl (stepK_as (.v (.bool false)) rfl rfl) rfl rfl rfl)) ?_)
    refine runs_cond (v := false) (by rfl) (fun h => by cases h) (fun _ => ?_)
    refine runs_seq (runs_region (opsQ rfl (stepK_bin rfl (eqI (v := false) rfl)) rfl rfl (opsQ rfl (stepK_as (.v (.bool false)) rfl rfl) rfl rfl rfl)) ?_)
    refine runs_cond (v := false) (by rfl) (fun h => by cases h) (fun _ => ?_)
    refine runs_seq (runs_region (opsQ rfl (stepK_bin rfl (eqI (v := false) rfl)) rfl rfl (opsQ rfl (stepK_as (.v (.bool false)) rfl rfl) rfl rfl rfl)) ?_)
    refine runs_cond (v := false) (by rfl) (fun h => by cases h) (fun _ => ?_)
    refine runs_seq (runs_region (opsQ rfl (stepK_bin rfl (eqI (v := false) rfl)) rfl rfl (opsQ rfl (stepK_as (.v (.bool false)) rfl rfl) rfl rfl rfl)) ?_)
    refine runs_cond (v := false) (by rfl) (fun h => by cases h) (fun _ => ?_)
    refine runs_seq (runs_region (opsQ rfl (stepK_bin rfl (eqI (v := false) rfl)) rfl rfl (opsQ rfl (stepK_as (.v (.bool false)) rfl rfl) rfl rfl rfl)) ?_)
    refine runs_cond (v := false) (by rfl) (fun h => by cases h) (fun _ => ?_)
    refine runs_seq (runs_region (opsQ rfl (stepK_bin rfl (eqI (v := false) rfl)) rfl rfl (opsQ rfl (stepK_as (.v (.bool false)) rfl rfl) rfl rfl rfl)) ?_)
    refine runs_cond (v := false) (by rfl) (fun h => by cases h) (fun _ => ?_)
    refine runs_seq (runs_region (opsQ rfl (stepK_bin rfl (eqI (v := false) rfl)) rfl rfl (opsQ rfl (stepK_as (.v (.bool false)) rfl rfl) rfl rfl rfl)) ?_)
    refine runs_cond (v := false) (by rfl) (fun h => by cases h) (fun _ => ?_)
    refine runs_seq (runs_region (opsQ rfl (stepK_bin rfl (eqI (v := false) rfl)) rfl rfl (opsQ rfl (stepK_as (.v (.bool false)) rfl rfl) rfl rfl rfl)) ?_)
    refine runs_cond (v := false) (by rfl) (fun h => by cases h) (fun _ => ?_)
    refine runs_seq (runs_region (opsQ rfl (stepK_bin rfl (eqI (v := false) rfl)) rfl rfl (opsQ rfl (stepK_as (.v (.bool false)) rfl rfl) rfl rfl rfl)) ?_)
    refine runs_cond (v := false) (by rfl) (fun h => by cases h) (fun _ => ?_)
    refine runs_seq (runs_region (opsQ rfl (stepK_bin rfl (eqI (v := false) rfl)) rfl rfl (opsQ rfl (stepK_as (.v (.bool false)) rfl rfl) rfl rfl rfl)) ?_)
    refine runs_cond (v := false) (by rfl) (fun h => by cases h) (fun _ => ?_)
    refine runs_seq (runs_region (opsQ rfl (stepK_bin rfl (eqI (v := true) rfl)) rfl rfl (opsQ rfl (stepK_as (.v (.bool true)) rfl rfl) rfl rfl rfl)) ?_)
    refine runs_cond (v := true) (by rfl) (fun _ => ?_) (fun h => by cases h)
    let x : Mach := { a with inp := a.inp ++ ⟨#[120]⟩ }
    have hx : x.Ok (ctxOf Tryz.prog eq sp il bl' is) := ⟨ha.fr, ha.bl, ha.pr, ha.pe, ha.di, ha.pi, ha.frn, ha.bln, ha.prn, ha.pen, ha.din, ha.pin⟩
    have hn : sameM (ctxOf Tryz.prog eq sp il bl' is) a x = false := by
      have : (a.inp == a.inp ++ ⟨#[120]⟩) = false := by
        rw [beq_toListBytes, beq_eq_false_iff_ne]
        intro h
        have h2 := congrArg List.length h
        rw [Lib.toList_data, Lib.toList_data] at h2
        simp at h2
      simp [x, sameM, restEq, this]
    refine runs_region (opsQ rfl (stepK_field rfl ty30 rfl rfl rfl) rfl rfl (opsQ rfl (stepK_load rfl ld9 rfl rfl rfl rfl) rfl rfl (opsQ rfl (stepK_bin rfl (addS (a := a.inp) (b := ⟨#[120]⟩) (by show a.inp.size + 1 ≤ _; omega))) rfl rfl (opsQ rfl (stepK_field rfl ty30 rfl rfl rfl) rfl rfl (opsM rfl (stepK_store1 x.cells rfl ld9 rfl rfl rfl rfl rfl rfl rfl) rfl rfl))))) ?_
    exact ⟨rfl, x.cells, ⟨rfl, rfl, rfl, trivial⟩, ⟨rfl, rfl⟩, ⟨rfl, rfl⟩, ⟨rfl, rfl⟩, rfl, fun rd _ => callP_plain rfl (hF hx hn) rfl rfl⟩
end
end Go.Ev
end
