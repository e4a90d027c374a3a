/- A part of the proof: HbF4 HbF5. No conditions. -/
import Derived.Test.YtpafjgeiihgcoaaGreatDoorWalks
import Derived.Test.YtpafjgeiihgcoaaGreatDoorAlive

section
/- MachineFeeds: true. -/
set_option linter.unusedVariables false
set_option linter.unusedSimpArgs false
set_option maxRecDepth 10000
set_option maxHeartbeats 4000000
namespace Go.Ev
open Go Go.Proofs

theorem reify_flat {h : Hp} {p : PV} (hp : FlatP p) : reify h p = some p := by
  rcases hp with ⟨es, rfl⟩ | ⟨x, rfl⟩ <;> rfl
theorem refs_flat {p : PV} (hp : FlatP p) : refs p = [] := by
  rcases hp with ⟨es, rfl⟩ | ⟨x, rfl⟩ <;> rfl
theorem reloc_flat {base n : Nat} {G : Nat → Nat} {p : PV} (hp : FlatP p) : reloc base n G p = some p := by
  rcases hp with ⟨es, rfl⟩ | ⟨x, rfl⟩ <;> rfl
theorem reify3 {h : Hp} {m : MachP} (hm : m.Flat) (s : ByteArray) (e : Bool) : reifyL h [m.pv, .v (.string s), .v (.bool e)] = some [m.pv, .v (.string s), .v (.bool e)] := by
  simp only [reify, reifyL, reify_flat hm.fr, reify_flat hm.pr, reify_flat hm.pi, reify_flat hm.bl, reify_flat hm.pe, reify_flat hm.di]
theorem refs3 {m : MachP} (hm : m.Flat) (s : ByteArray) (e : Bool) : refsL [m.pv, .v (.string s), .v (.bool e)] = [] := by
  simp only [refs, refsL, refs_flat hm.fr, refs_flat hm.pr, refs_flat hm.pi, refs_flat hm.bl, refs_flat hm.pe, refs_flat hm.di, List.append_nil]
theorem reify2 {h : Hp} {m : MachP} (hm : m.Flat) : reifyL h [m.pv, m.pv] = some [m.pv, m.pv] := by
  simp only [reify, reifyL, reify_flat hm.fr, reify_flat hm.pr, reify_flat hm.pi, reify_flat hm.bl, reify_flat hm.pe, reify_flat hm.di]
theorem refs2 {m : MachP} (hm : m.Flat) : refsL [m.pv, m.pv] = [] := by
  simp only [refs, refsL, refs_flat hm.fr, refs_flat hm.pr, refs_flat hm.pi, refs_flat hm.bl, refs_flat hm.pe, refs_flat hm.di, List.append_nil]
theorem reloc_mach {base n : Nat} {G : Nat → Nat} {m : MachP} (hm : m.Flat) (k : Int) : reloc base n G (.tuple [m.pv, .v (.int .i64 k)]) = some (.tuple [m.pv, .v (.int .i64 k)]) := by
  simp only [reloc, relocL, reloc_flat hm.fr, reloc_flat hm.pr, reloc_flat hm.pi, reloc_flat hm.bl, reloc_flat hm.pe, reloc_flat hm.di]

section
variable {C : Ctx} {cal : Cal} {inl : Inl} {yl : Yl} {dp : Nat} {st : St} {o : Oper}
theorem stepK_alloc {t : TypeId} {cs : List PV} (ho : o.op = .alloc t) (hz : ∃ zs, C.zero t = some zs ∧ newBlk C t zs = .var cs) (hg : st.h.G (idOf dp (o.dst.getD 99999) 0) = 0) : stepOp C cal inl yl dp o st = some (.ptr (idOf dp (o.dst.getD 99999) 0) 1 0, Hp.put st.h (idOf dp (o.dst.getD 99999) 0) 1 (.var cs)) := by
  obtain ⟨zs, hz, hn⟩ := hz
  unfold stepOp
  rw [ho]
  simp only [evalOp, ho, hz, hn, hg, Hp.app]; rfl
theorem opsA {sz : Nat} {ops : Array Oper} {os : List Oper} {t : Nat → PV} {h : Hp} {i g d : Nat} {b : Blk} {r : PV} {s : St} (hw : wantedP ops o t = some true) (hs : stepOp C cal inl yl dp o ⟨t, h⟩ = some (r, Hp.put h i g b)) (hd : o.dst = some d) (hsz : Nat.blt d sz = true) (hr : evalOps C cal inl yl dp sz ops os ⟨upd t d r, Hp.put h i g b⟩ = some s) : evalOps C cal inl yl dp sz ops (o :: os) ⟨t, h⟩ = some s :=
  ops_cons hw hs (by rw [hd]; have : d < sz := by simpa [Nat.blt_eq] using hsz
                     simp [putP, this]) hr
end

theorem res_tmp {C : Ctx} {s : St} {k : Nat} {v : PV} (hv : s.t k = v) : resultsP C s [.tmp k] = some [v] := by simp only [resultsP, hv]
theorem size_append' (a b : ByteArray) : (a ++ b).size = a.size + b.size := ByteArray.size_append
theorem feedF_law {m : MachP} {s u : ByteArray} {e : Bool} (h : (feedF m s false).2 = 0) : feedF (feedF m s false).1 u e = feedF m (s ++ u) e := by
  unfold feedF at h
  by_cases hf : m.fin = true
  · simp [hf] at h
  · by_cases hs : 4096 < m.inp.size + s.size
    · simp [hf, hs] at h
    · have e1 : feedF m s false = (m.fed (m.inp ++ s) false, 0) := by simp [feedF, hf, hs]
      rw [e1]
      unfold feedF
      have hf' : m.fin = false := by simpa using hf
      simp only [hf', Bool.false_eq_true, if_false, size_append', Nat.add_assoc, ByteArray.append_assoc]
theorem feedF_inp {m : MachP} {s : ByteArray} {e : Bool} : (feedF m s e).1.inp.size ≤ 4096 := by
  unfold feedF
  split
  · decide
  · split
    · decide
    · rename_i h; show (m.inp ++ s).size ≤ 4096; rw [size_append']; omega
theorem feedF_flat {m : MachP} (hm : m.Flat) {s : ByteArray} {e : Bool} : (feedF m s e).1.Flat := by
  unfold feedF
  split
  · exact flat_zero
  · split
    · exact flat_zero
    · exact flat_fed hm _ _

def zeroVs : List Value := [.int .u64 0, .int .i64 0, .int .i64 0, .int .i64 0, .slice none 0 0, .slice none 0 0, .int .i64 0, .string ⟨#[]⟩, .slice none 0 0, .int .i64 0, .string ⟨#[]⟩, .bool false, .int .u64 0, .slice none 0 0, .slice none 0 0, .int .i64 0, .slice none 0 0]
theorem f4 : Tryz.prog.funcs[4]? = some Tryz.f4 := by kernel_rfl

section
variable {eq : TypeId → Option (List EK)} {sp : FuncId → Option (List PV → Option Res)} {il : FuncId → Bool} {bl' : TypeId → Bool} {is : FuncId → Option (Nat → List PV → Hp → Option (PV × Ups))}

theorem feed_ok_mach {m : Mach} (h : m.Ok (ctxOf Tryz.prog eq sp il bl' is)) (i : ByteArray) (e : Bool) : ({ m with inp := i, fin := e } : Mach).Ok (ctxOf Tryz.prog eq sp il bl' is) := ⟨h.fr, h.bl, h.pr, h.pe, h.di, h.pi, h.frn, h.bln, h.prn, h.pen, h.din, h.pin⟩

/-- What feeding leaves is the same as itself. -/
theorem same_fed (o10 : Bare (ctxOf Tryz.prog eq sp il bl' is) 10) (o18 : Bare (ctxOf Tryz.prog eq sp il bl' is) 18) (o19 : Bare (ctxOf Tryz.prog eq sp il bl' is) 19) (o20 : Bare (ctxOf Tryz.prog eq sp il bl' is) 20) (hz : evalPure (ctxOf Tryz.prog eq sp il bl' is) (evW (ctxOf Tryz.prog eq sp il bl' is)) 10 [zeroP.pv, zeroP.pv] = some (.v (.bool true), [])) {m : Mach} (h : m.Ok (ctxOf Tryz.prog eq sp il bl' is)) (s : ByteArray) (e : Bool) : calOf (ctxOf Tryz.prog eq sp il bl' is) (evW (ctxOf Tryz.prog eq sp il bl' is)) 10 [(feedF m.p s e).1.pv, (feedF m.p s e).1.pv] = some (.v (.bool true), []) := by
  refine o10.cal ?_
  unfold feedF
  split
  · exact hz
  · split
    · exact hz
    · exact same_refl o18 o19 o20 (feed_ok_mach h (m.inp ++ s) e)

theorem feeds4 (h5 : calOf (ctxOf Tryz.prog eq sp il bl' is) (evW (ctxOf Tryz.prog eq sp il bl' is)) 5 [] = some (.v (.bool true), [])) (c5 : (ctxOf Tryz.prog eq sp il bl' is).callable 5 = true ∧ (ctxOf Tryz.prog eq sp il bl' is).isp 5 = none ∧ (ctxOf Tryz.prog eq sp il bl' is).inl 5 = false) (o8 : Bare (ctxOf Tryz.prog eq sp il bl' is) 8) (o9 : Bare (ctxOf Tryz.prog eq sp il bl' is) 9) (o10 : Bare (ctxOf Tryz.prog eq sp il bl' is) 10) (o18 : Bare (ctxOf Tryz.prog eq sp il bl' is) 18) (o19 : Bare (ctxOf Tryz.prog eq sp il bl' is) 19) (o20 : Bare (ctxOf Tryz.prog eq sp il bl' is) 20) (hz10 : evalPure (ctxOf Tryz.prog eq sp il bl' is) (evW (ctxOf Tryz.prog eq sp il bl' is)) 10 [zeroP.pv, zeroP.pv] = some (.v (.bool true), []))
    {m : Mach} (hm : m.Ok (ctxOf Tryz.prog eq sp il bl' is)) (s u : ByteArray) (e : Bool) : evalPure (ctxOf Tryz.prog eq sp il bl' is) (evW (ctxOf Tryz.prog eq sp il bl' is)) 4 [m.pv, .v (.string s), .v (.string u), .v (.bool e)] = some (.v (.bool true), []) := by
  have ty9 : (ctxOf Tryz.prog eq sp il bl' is).ty 9 = .str := ty9
  have ty30 : (ctxOf Tryz.prog eq sp il bl' is).ty 30 = .struct [(0, 1), (1, 1), (2, 1), (3, 1), (4, 1), (5, 1), (6, 1), (7, 1), (8, 1), (9, 1), (10, 1), (11, 1), (12, 1), (13, 3), (16, 1)] := tyMach
  have ld9 : (ctxOf Tryz.prog eq sp il bl' is).isAgg 9 = some false ∧ (ctxOf Tryz.prog eq sp il bl' is).size 9 = 1 := ⟨by kernel_rfl, by kernel_rfl⟩
  have ld23 : (ctxOf Tryz.prog eq sp il bl' is).isAgg 23 = some false ∧ (ctxOf Tryz.prog eq sp il bl' is).size 23 = 1 := ⟨by kernel_rfl, by kernel_rfl⟩
  have ld24 : (ctxOf Tryz.prog eq sp il bl' is).isAgg 24 = some false ∧ (ctxOf Tryz.prog eq sp il bl' is).size 24 = 1 := ⟨by kernel_rfl, by kernel_rfl⟩
  have ld30 : (ctxOf Tryz.prog eq sp il bl' is).isAgg 30 = some true ∧ (ctxOf Tryz.prog eq sp il bl' is).size 30 = 17 := ⟨by kernel_rfl, by kernel_rfl⟩
  have sl23' : (ctxOf Tryz.prog eq sp il bl' is).ty 23 = .slice 9 := sl23
  have sl24' : (ctxOf Tryz.prog eq sp il bl' is).ty 24 = .slice 44 := sl24
  have hz : ∃ zs, (ctxOf Tryz.prog eq sp il bl' is).zero 30 = some zs ∧ newBlk (ctxOf Tryz.prog eq sp il bl' is) 30 zs = .var (zeroP.cells) := ⟨zeroVs, by kernel_rfl, by kernel_rfl⟩
  have c8 := o8.c
  have c9 := o9.c
  have c10 := o10.c
  refine pure_of_runs (fn := Tryz.f4) f4 rfl ?_
  refine runs_seq (runs_region (by rfl) ?_)
  refine runs_seq (runs_seq (runs_region (opsQ rfl (stepK_cal c5 rfl rfl h5 rfl rfl) rfl rfl (opsQ rfl (rfl) rfl rfl rfl)) (runs_cond (v := false) (by rfl) (fun h1 => by cases h1) (fun _ => runs_skip ?_))))
  by_cases h1 : 5000 < m.inp.size
  · refine runs_seq (runs_seq (runs_region (opsQ rfl (stepK_field rfl ty30 rfl rfl rfl) rfl rfl (opsQ rfl (stepK_load rfl ld9 rfl rfl rfl rfl) rfl rfl (opsQ rfl (stepK_lenS ⟨_, rfl, rfl⟩ ty9 rfl) rfl rfl (opsQ rfl (stepK_bin rfl (gtr_is (a := m.inp.size) (b := 5000) (decide_eq_true h1))) rfl rfl (opsQ rfl (stepK_mv (.v (.bool true)) rfl rfl) rfl rfl (opsS rfl rfl rfl (opsS rfl rfl rfl (opsS rfl rfl rfl (opsQ rfl (stepK_pT (.v (.bool true)) rfl rfl rfl) rfl rfl (opsQ rfl (stepK_mv (.v (.bool true)) rfl rfl) rfl rfl (opsS rfl rfl rfl (opsS rfl rfl rfl (opsS rfl rfl rfl (opsQ rfl (stepK_pT (.v (.bool true)) rfl rfl rfl) rfl rfl (opsQ rfl (stepK_mv (.v (.bool true)) rfl rfl) rfl rfl (opsS rfl rfl rfl (opsS rfl rfl rfl (opsS rfl rfl rfl (opsS rfl rfl rfl (opsQ rfl (stepK_pT (.v (.bool true)) rfl rfl rfl) rfl rfl (opsQ rfl (stepK_mv (.v (.bool true)) rfl rfl) rfl rfl (opsS rfl rfl rfl (opsS rfl rfl rfl (opsS rfl rfl rfl (opsS rfl rfl rfl (opsQ rfl (stepK_pT (.v (.bool true)) rfl rfl rfl) rfl rfl rfl)))))))))))))))))))))))))) (runs_cond (v := true) (by rfl) (fun _ => ?_) (fun h => by cases h))))
    refine runs_seq (runs_region (by rfl) ?_)
    exact runs_ret ⟨by simp, [.v (.bool true)], _, _, res_tmp rfl, rfl, rfl⟩
  by_cases h2 : 5000 < s.size
  · refine runs_seq (runs_seq (runs_region (opsQ rfl (stepK_field rfl ty30 rfl rfl rfl) rfl rfl (opsQ rfl (stepK_load rfl ld9 rfl rfl rfl rfl) rfl rfl (opsQ rfl (stepK_lenS ⟨_, rfl, rfl⟩ ty9 rfl) rfl rfl (opsQ rfl (stepK_bin rfl (gtr_is (a := m.inp.size) (b := 5000) (decide_eq_false h1))) rfl rfl (opsQ rfl (stepK_mv (.v (.bool false)) rfl rfl) rfl rfl (opsQ rfl rfl rfl rfl (opsQ rfl (stepK_lenS ⟨_, rfl, rfl⟩ ty9 rfl) rfl rfl (opsQ rfl (stepK_bin rfl (gtr_is (a := s.size) (b := 5000) (decide_eq_true h2))) rfl rfl (opsQ rfl (stepK_pF (.v (.bool true)) rfl rfl rfl) rfl rfl (opsQ rfl (stepK_mv (.v (.bool true)) rfl rfl) rfl rfl (opsS rfl rfl rfl (opsS rfl rfl rfl (opsS rfl rfl rfl (opsQ rfl (stepK_pT (.v (.bool true)) rfl rfl rfl) rfl rfl (opsQ rfl (stepK_mv (.v (.bool true)) rfl rfl) rfl rfl (opsS rfl rfl rfl (opsS rfl rfl rfl (opsS rfl rfl rfl (opsS rfl rfl rfl (opsQ rfl (stepK_pT (.v (.bool true)) rfl rfl rfl) rfl rfl (opsQ rfl (stepK_mv (.v (.bool true)) rfl rfl) rfl rfl (opsS rfl rfl rfl (opsS rfl rfl rfl (opsS rfl rfl rfl (opsS rfl rfl rfl (opsQ rfl (stepK_pT (.v (.bool true)) rfl rfl rfl) rfl rfl rfl)))))))))))))))))))))))))) (runs_cond (v := true) (by rfl) (fun _ => ?_) (fun h => by cases h))))
    refine runs_seq (runs_region (by rfl) ?_)
    exact runs_ret ⟨by simp, [.v (.bool true)], _, _, res_tmp rfl, rfl, rfl⟩
  by_cases h3 : 5000 < u.size
  · refine runs_seq (runs_seq (runs_region (opsQ rfl (stepK_field rfl ty30 rfl rfl rfl) rfl rfl (opsQ rfl (stepK_load rfl ld9 rfl rfl rfl rfl) rfl rfl (opsQ rfl (stepK_lenS ⟨_, rfl, rfl⟩ ty9 rfl) rfl rfl (opsQ rfl (stepK_bin rfl (gtr_is (a := m.inp.size) (b := 5000) (decide_eq_false h1))) rfl rfl (opsQ rfl (stepK_mv (.v (.bool false)) rfl rfl) rfl rfl (opsQ rfl rfl rfl rfl (opsQ rfl (stepK_lenS ⟨_, rfl, rfl⟩ ty9 rfl) rfl rfl (opsQ rfl (stepK_bin rfl (gtr_is (a := s.size) (b := 5000) (decide_eq_false h2))) rfl rfl (opsQ rfl (stepK_pF (.v (.bool false)) rfl rfl rfl) rfl rfl (opsQ rfl (stepK_mv (.v (.bool false)) rfl rfl) rfl rfl (opsQ rfl rfl rfl rfl (opsQ rfl (stepK_lenS ⟨_, rfl, rfl⟩ ty9 rfl) rfl rfl (opsQ rfl (stepK_bin rfl (gtr_is (a := u.size) (b := 5000) (decide_eq_true h3))) rfl rfl (opsQ rfl (stepK_pF (.v (.bool true)) rfl rfl rfl) rfl rfl (opsQ rfl (stepK_mv (.v (.bool true)) rfl rfl) rfl rfl (opsS rfl rfl rfl (opsS rfl rfl rfl (opsS rfl rfl rfl (opsS rfl rfl rfl (opsQ rfl (stepK_pT (.v (.bool true)) rfl rfl rfl) rfl rfl (opsQ rfl (stepK_mv (.v (.bool true)) rfl rfl) rfl rfl (opsS rfl rfl rfl (opsS rfl rfl rfl (opsS rfl rfl rfl (opsS rfl rfl rfl (opsQ rfl (stepK_pT (.v (.bool true)) rfl rfl rfl) rfl rfl rfl)))))))))))))))))))))))))) (runs_cond (v := true) (by rfl) (fun _ => ?_) (fun h => by cases h))))
    refine runs_seq (runs_region (by rfl) ?_)
    exact runs_ret ⟨by simp, [.v (.bool true)], _, _, res_tmp rfl, rfl, rfl⟩
  by_cases h4 : 70 < m.fr.length
  · refine runs_seq (runs_seq (runs_region (opsQ rfl (stepK_field rfl ty30 rfl rfl rfl) rfl rfl (opsQ rfl (stepK_load rfl ld9 rfl rfl rfl rfl) rfl rfl (opsQ rfl (stepK_lenS ⟨_, rfl, rfl⟩ ty9 rfl) rfl rfl (opsQ rfl (stepK_bin rfl (gtr_is (a := m.inp.size) (b := 5000) (decide_eq_false h1))) rfl rfl (opsQ rfl (stepK_mv (.v (.bool false)) rfl rfl) rfl rfl (opsQ rfl rfl rfl rfl (opsQ rfl (stepK_lenS ⟨_, rfl, rfl⟩ ty9 rfl) rfl rfl (opsQ rfl (stepK_bin rfl (gtr_is (a := s.size) (b := 5000) (decide_eq_false h2))) rfl rfl (opsQ rfl (stepK_pF (.v (.bool false)) rfl rfl rfl) rfl rfl (opsQ rfl (stepK_mv (.v (.bool false)) rfl rfl) rfl rfl (opsQ rfl rfl rfl rfl (opsQ rfl (stepK_lenS ⟨_, rfl, rfl⟩ ty9 rfl) rfl rfl (opsQ rfl (stepK_bin rfl (gtr_is (a := u.size) (b := 5000) (decide_eq_false h3))) rfl rfl (opsQ rfl (stepK_pF (.v (.bool false)) rfl rfl rfl) rfl rfl (opsQ rfl (stepK_mv (.v (.bool false)) rfl rfl) rfl rfl (opsQ rfl (stepK_field rfl ty30 rfl rfl rfl) rfl rfl (opsQ rfl (stepK_load rfl ld23 rfl rfl rfl rfl) rfl rfl (opsQ rfl (stepK_lenL ⟨_, rfl, rfl⟩ sl23' rfl) rfl rfl (opsQ rfl (stepK_bin rfl (gtr_is (a := m.fr.length) (b := 70) (decide_eq_true h4))) rfl rfl (opsQ rfl (stepK_pF (.v (.bool true)) rfl rfl rfl) rfl rfl (opsQ rfl (stepK_mv (.v (.bool true)) rfl rfl) rfl rfl (opsS rfl rfl rfl (opsS rfl rfl rfl (opsS rfl rfl rfl (opsS rfl rfl rfl (opsQ rfl (stepK_pT (.v (.bool true)) rfl rfl rfl) rfl rfl rfl)))))))))))))))))))))))))) (runs_cond (v := true) (by rfl) (fun _ => ?_) (fun h => by cases h))))
    refine runs_seq (runs_region (by rfl) ?_)
    exact runs_ret ⟨by simp, [.v (.bool true)], _, _, res_tmp rfl, rfl, rfl⟩
  by_cases h5 : 10 < m.pr.length
  · refine runs_seq (runs_seq (runs_region (opsQ rfl (stepK_field rfl ty30 rfl rfl rfl) rfl rfl (opsQ rfl (stepK_load rfl ld9 rfl rfl rfl rfl) rfl rfl (opsQ rfl (stepK_lenS ⟨_, rfl, rfl⟩ ty9 rfl) rfl rfl (opsQ rfl (stepK_bin rfl (gtr_is (a := m.inp.size) (b := 5000) (decide_eq_false h1))) rfl rfl (opsQ rfl (stepK_mv (.v (.bool false)) rfl rfl) rfl rfl (opsQ rfl rfl rfl rfl (opsQ rfl (stepK_lenS ⟨_, rfl, rfl⟩ ty9 rfl) rfl rfl (opsQ rfl (stepK_bin rfl (gtr_is (a := s.size) (b := 5000) (decide_eq_false h2))) rfl rfl (opsQ rfl (stepK_pF (.v (.bool false)) rfl rfl rfl) rfl rfl (opsQ rfl (stepK_mv (.v (.bool false)) rfl rfl) rfl rfl (opsQ rfl rfl rfl rfl (opsQ rfl (stepK_lenS ⟨_, rfl, rfl⟩ ty9 rfl) rfl rfl (opsQ rfl (stepK_bin rfl (gtr_is (a := u.size) (b := 5000) (decide_eq_false h3))) rfl rfl (opsQ rfl (stepK_pF (.v (.bool false)) rfl rfl rfl) rfl rfl (opsQ rfl (stepK_mv (.v (.bool false)) rfl rfl) rfl rfl (opsQ rfl (stepK_field rfl ty30 rfl rfl rfl) rfl rfl (opsQ rfl (stepK_load rfl ld23 rfl rfl rfl rfl) rfl rfl (opsQ rfl (stepK_lenL ⟨_, rfl, rfl⟩ sl23' rfl) rfl rfl (opsQ rfl (stepK_bin rfl (gtr_is (a := m.fr.length) (b := 70) (decide_eq_false h4))) rfl rfl (opsQ rfl (stepK_pF (.v (.bool false)) rfl rfl rfl) rfl rfl (opsQ rfl (stepK_mv (.v (.bool false)) rfl rfl) rfl rfl (opsQ rfl (stepK_field rfl ty30 rfl rfl rfl) rfl rfl (opsQ rfl (stepK_load rfl ld24 rfl rfl rfl rfl) rfl rfl (opsQ rfl (stepK_lenL ⟨_, rfl, rfl⟩ sl24' rfl) rfl rfl (opsQ rfl (stepK_bin rfl (gtr_is (a := m.pr.length) (b := 10) (decide_eq_true h5))) rfl rfl (opsQ rfl (stepK_pF (.v (.bool true)) rfl rfl rfl) rfl rfl rfl)))))))))))))))))))))))))) (runs_cond (v := true) (by rfl) (fun _ => ?_) (fun h => by cases h))))
    refine runs_seq (runs_region (by rfl) ?_)
    exact runs_ret ⟨by simp, [.v (.bool true)], _, _, res_tmp rfl, rfl, rfl⟩
  refine runs_seq (runs_seq (runs_region (opsQ rfl (stepK_field rfl ty30 rfl rfl rfl) rfl rfl (opsQ rfl (stepK_load rfl ld9 rfl rfl rfl rfl) rfl rfl (opsQ rfl (stepK_lenS ⟨_, rfl, rfl⟩ ty9 rfl) rfl rfl (opsQ rfl (stepK_bin rfl (gtr_is (a := m.inp.size) (b := 5000) (decide_eq_false h1))) rfl rfl (opsQ rfl (stepK_mv (.v (.bool false)) rfl rfl) rfl rfl (opsQ rfl rfl rfl rfl (opsQ rfl (stepK_lenS ⟨_, rfl, rfl⟩ ty9 rfl) rfl rfl (opsQ rfl (stepK_bin rfl (gtr_is (a := s.size) (b := 5000) (decide_eq_false h2))) rfl rfl (opsQ rfl (stepK_pF (.v (.bool false)) rfl rfl rfl) rfl rfl (opsQ rfl (stepK_mv (.v (.bool false)) rfl rfl) rfl rfl (opsQ rfl rfl rfl rfl (opsQ rfl (stepK_lenS ⟨_, rfl, rfl⟩ ty9 rfl) rfl rfl (opsQ rfl (stepK_bin rfl (gtr_is (a := u.size) (b := 5000) (decide_eq_false h3))) rfl rfl (opsQ rfl (stepK_pF (.v (.bool false)) rfl rfl rfl) rfl rfl (opsQ rfl (stepK_mv (.v (.bool false)) rfl rfl) rfl rfl (opsQ rfl (stepK_field rfl ty30 rfl rfl rfl) rfl rfl (opsQ rfl (stepK_load rfl ld23 rfl rfl rfl rfl) rfl rfl (opsQ rfl (stepK_lenL ⟨_, rfl, rfl⟩ sl23' rfl) rfl rfl (opsQ rfl (stepK_bin rfl (gtr_is (a := m.fr.length) (b := 70) (decide_eq_false h4))) rfl rfl (opsQ rfl (stepK_pF (.v (.bool false)) rfl rfl rfl) rfl rfl (opsQ rfl (stepK_mv (.v (.bool false)) rfl rfl) rfl rfl (opsQ rfl (stepK_field rfl ty30 rfl rfl rfl) rfl rfl (opsQ rfl (stepK_load rfl ld24 rfl rfl rfl rfl) rfl rfl (opsQ rfl (stepK_lenL ⟨_, rfl, rfl⟩ sl24' rfl) rfl rfl (opsQ rfl (stepK_bin rfl (gtr_is (a := m.pr.length) (b := 10) (decide_eq_false h5))) rfl rfl (opsQ rfl (stepK_pF (.v (.bool false)) rfl rfl rfl) rfl rfl rfl)))))))))))))))))))))))))) (runs_cond (v := false) (by rfl) (fun h => by cases h) (fun _ => runs_skip ?_))))
  have hK : m.p.Flat := flat_mach m
  have hA := o8.cal (feed8 m.p hK s e (by show m.inp.size ≤ 10000; omega) (by omega))
  have hB := o9.cal (feed9 m.p hK s e (by show m.inp.size ≤ 10000; omega) (by omega))
  have hX := o8.cal (feed8 m.p hK s false (by show m.inp.size ≤ 10000; omega) (by omega))
  have hY := o8.cal (feed8 (feedF m.p s false).1 (feedF_flat hK) u e (Nat.le_trans feedF_inp (by decide)) (by omega))
  have hZ := o8.cal (feed8 m.p hK (s ++ u) e (by show m.inp.size ≤ 10000; omega) (by rw [size_append']; omega))
  have hS := same_fed o10 o18 o19 o20 hz10 hm s e
  have hT := same_fed o10 o18 o19 o20 hz10 hm (s ++ u) e
  have hL := feedF_law (m := m.p) (s := s) (u := u) (e := e)
  have fa := feedF_flat hK (s := s) (e := e)
  have fx := feedF_flat hK (s := s) (e := false)
  have fy := feedF_flat fx (s := u) (e := e)
  have fz := feedF_flat hK (s := s ++ u) (e := e)
  generalize feedF (feedF m.p s false).1 u e = ry at hY hL fy
  generalize feedF m.p s e = ra at hA hB hS fa
  generalize feedF m.p s false = rx at hX hY hL fx
  generalize feedF m.p (s ++ u) e = rz at hZ hT hL fz
  obtain ⟨pa, ca⟩ := ra
  obtain ⟨px, cx⟩ := rx
  obtain ⟨py, cy⟩ := ry
  obtain ⟨pz, cz⟩ := rz
  refine runs_seq (runs_region (opsQ rfl (stepK_loadA rfl ld30 rfl rfl rfl rfl) rfl rfl (opsQ rfl (stepK_mv (.v (.string s)) rfl rfl) rfl rfl (opsQ rfl (stepK_mv (.v (.bool e)) rfl rfl) rfl rfl (opsQ rfl (stepK_cal c8 rfl (reify3 hK _ _) hA (reloc_mach fa _) (refs3 hK _ _)) rfl rfl (opsQ rfl (stepK_mv (.tuple [pa.pv, .v (.int .i64 ca)]) rfl rfl) rfl rfl (opsQ rfl rfl rfl rfl (opsQ rfl rfl rfl rfl (opsA rfl (stepK_alloc rfl hz rfl) rfl rfl (opsM rfl (stepK_storeA rfl ld30 rfl rfl rfl rfl rfl rfl) rfl (opsQ rfl (stepK_as (.v (.int .i64 ca)) rfl rfl) rfl rfl rfl)))))))))) ?_)
  refine runs_seq (runs_region (opsQ rfl (stepK_loadA rfl ld30 rfl rfl rfl rfl) rfl rfl (opsQ rfl (stepK_mv (.v (.string s)) rfl rfl) rfl rfl (opsQ rfl (stepK_mv (.v (.bool e)) rfl rfl) rfl rfl (opsQ rfl (stepK_cal c9 rfl (reify3 hK _ _) hB (reloc_mach fa _) (refs3 hK _ _)) rfl rfl (opsQ rfl (stepK_mv (.tuple [pa.pv, .v (.int .i64 ca)]) rfl rfl) rfl rfl (opsQ rfl rfl rfl rfl (opsQ rfl rfl rfl rfl (opsA rfl (stepK_alloc rfl hz rfl) rfl rfl (opsM rfl (stepK_storeA rfl ld30 rfl rfl rfl rfl rfl rfl) rfl (opsQ rfl (stepK_as (.v (.int .i64 ca)) rfl rfl) rfl rfl rfl)))))))))) ?_)
  refine runs_seq (runs_seq (runs_region (opsQ rfl (stepK_mv (.v (.int .i64 ca)) rfl rfl) rfl rfl (opsQ rfl (stepK_mv (.v (.int .i64 ca)) rfl rfl) rfl rfl (opsQ rfl (stepK_bin rfl (neIn _ _)) rfl rfl (opsQ rfl (stepK_mv (.v (.bool false)) rfl rfl) rfl rfl (opsQ rfl (stepK_loadA rfl ld30 rfl rfl rfl rfl) rfl rfl (opsQ rfl (stepK_loadA rfl ld30 rfl rfl rfl rfl) rfl rfl (opsQ rfl (stepK_cal c10 rfl (reify2 fa) hS rfl (refs2 fa)) rfl rfl (opsQ rfl (rfl) rfl rfl (opsQ rfl (stepK_pF (.v (.bool false)) rfl rfl rfl) rfl rfl rfl))))))))) (runs_cond (v := false) (by rfl) (fun h => by cases h) (fun _ => runs_skip ?_))))
  refine runs_seq (runs_region (opsQ rfl (stepK_loadA rfl ld30 rfl rfl rfl rfl) rfl rfl (opsQ rfl (stepK_mv (.v (.string s)) rfl rfl) rfl rfl (opsQ rfl (stepK_cal c8 rfl (reify3 hK _ _) hX (reloc_mach fx _) (refs3 hK _ _)) rfl rfl (opsQ rfl (stepK_mv (.tuple [px.pv, .v (.int .i64 cx)]) rfl rfl) rfl rfl (opsQ rfl rfl rfl rfl (opsQ rfl rfl rfl rfl (opsA rfl (stepK_alloc rfl hz rfl) rfl rfl (opsM rfl (stepK_storeA rfl ld30 rfl rfl rfl rfl rfl rfl) rfl (opsQ rfl (stepK_as (.v (.int .i64 cx)) rfl rfl) rfl rfl rfl))))))))) ?_)
  refine runs_seq (runs_region (opsQ rfl (stepK_loadA rfl ld30 rfl rfl rfl rfl) rfl rfl (opsQ rfl (stepK_mv (.v (.string u)) rfl rfl) rfl rfl (opsQ rfl (stepK_mv (.v (.bool e)) rfl rfl) rfl rfl (opsQ rfl (stepK_cal c8 rfl (reify3 fx _ _) hY (reloc_mach fy _) (refs3 fx _ _)) rfl rfl (opsQ rfl (stepK_mv (.tuple [py.pv, .v (.int .i64 cy)]) rfl rfl) rfl rfl (opsQ rfl rfl rfl rfl (opsQ rfl rfl rfl rfl (opsA rfl (stepK_alloc rfl hz rfl) rfl rfl (opsM rfl (stepK_storeA rfl ld30 rfl rfl rfl rfl rfl rfl) rfl (opsQ rfl (stepK_as (.v (.int .i64 cy)) rfl rfl) rfl rfl rfl)))))))))) ?_)
  refine runs_seq (runs_region (opsQ rfl (stepK_loadA rfl ld30 rfl rfl rfl rfl) rfl rfl (opsQ rfl (stepK_mv (.v (.string s)) rfl rfl) rfl rfl (opsQ rfl (stepK_mv (.v (.string u)) rfl rfl) rfl rfl (opsQ rfl (stepK_bin rfl (addS (a := s) (b := u) (by omega))) rfl rfl (opsQ rfl (stepK_mv (.v (.bool e)) rfl rfl) rfl rfl (opsQ rfl (stepK_cal c8 rfl (reify3 hK _ _) hZ (reloc_mach fz _) (refs3 hK _ _)) rfl rfl (opsQ rfl (stepK_mv (.tuple [pz.pv, .v (.int .i64 cz)]) rfl rfl) rfl rfl (opsQ rfl rfl rfl rfl (opsQ rfl rfl rfl rfl (opsA rfl (stepK_alloc rfl hz rfl) rfl rfl (opsM rfl (stepK_storeA rfl ld30 rfl rfl rfl rfl rfl rfl) rfl (opsQ rfl (stepK_as (.v (.int .i64 cz)) rfl rfl) rfl rfl rfl)))))))))))) ?_)
  have hne : binP (ctxOf Tryz.prog eq sp il bl' is) .neq 51 (.v (.int .i64 cx)) (.v (.int .i64 0)) = some (.v (.bool (!decide (cx = 0)))) := by
    simp only [binP, intArith, if_true, Option.map_some]
    congr 3
  refine runs_seq (runs_seq (runs_region (opsQ rfl (stepK_mv (.v (.int .i64 cx)) rfl rfl) rfl rfl (opsQ rfl (stepK_bin rfl hne) rfl rfl rfl)) (runs_cond (v := !decide (cx = 0)) (by rfl) (fun hc => ?_) (fun hc => runs_skip ?_))))
  · refine runs_seq (runs_region (by rfl) ?_)
    exact runs_ret ⟨by simp, [.v (.bool true)], _, _, res_tmp rfl, rfl, rfl⟩
  · have hc0 : cx = 0 := by simpa using hc
    have hyz := hL hc0
    injection hyz with hp hcc
    subst hp
    subst hcc
    refine runs_seq (runs_region (opsQ rfl (stepK_mv (.v (.int .i64 cy)) rfl rfl) rfl rfl (opsQ rfl (stepK_mv (.v (.int .i64 cy)) rfl rfl) rfl rfl (opsQ rfl (stepK_bin rfl (eqIn _ _)) rfl rfl (opsQ rfl (stepK_mv (.v (.bool true)) rfl rfl) rfl rfl (opsQ rfl (stepK_loadA rfl ld30 rfl rfl rfl rfl) rfl rfl (opsQ rfl (stepK_loadA rfl ld30 rfl rfl rfl rfl) rfl rfl (opsQ rfl (stepK_cal c10 rfl (reify2 fy) hT rfl (refs2 fy)) rfl rfl (opsQ rfl (stepK_pT (.v (.bool true)) rfl rfl rfl) rfl rfl (opsQ rfl (stepK_as (.v (.bool true)) rfl rfl) rfl rfl rfl))))))))) ?_)
    exact runs_ret ⟨by simp, [.v (.bool true)], _, _, res_tmp rfl, rfl, rfl⟩
end
end Go.Ev
end

section
/- MachineFeeds at this program: what a call answers. -/
set_option linter.unusedVariables false
set_option linter.unusedSimpArgs false
namespace Go.Ev
open Go Go.Proofs

def aliveP : List PV → Option Res
  | [] => some (.v (.bool true), [])
  | _ => none
theorem aliveP_con {al res} (h : aliveP al = some res) : Con Tryz.prog 5 al res := by
  unfold aliveP at h
  split at h
  · cases h; exact alive_con
  · cases h

/-- The fourth table: alive(), too. -/
noncomputable def specD : FuncId → Option (List PV → Option Res) := fun f => bif Nat.beq f 5 then some aliveP else specC f
theorem specD_ok : ∀ f Fn args res, specD f = some Fn → Fn args = some res → Con Tryz.prog f args res := by
  intro f Fn args res h hr
  unfold specD at h
  cases h1 : Nat.beq f 5 with
  | true => rw [h1] at h; cases h; rw [Nat.eq_of_beq_eq_true h1]; exact aliveP_con hr
  | false => rw [h1] at h; exact specC_ok f Fn args res h hr
noncomputable def XD : Ctx := ctxOf Tryz.prog eqA specD inlA bldA ispA
theorem XD_ok : TablesOk XD := ctxOf_ok Tryz.laysRepeat.mixed eqA_ok ispA_ok

theorem bareD8 : Bare XD 8 := ⟨⟨by kernel_rfl, by kernel_rfl, by kernel_rfl⟩, by kernel_rfl⟩
theorem bareD9 : Bare XD 9 := ⟨⟨by kernel_rfl, by kernel_rfl, by kernel_rfl⟩, by kernel_rfl⟩
theorem bareD10 : Bare XD 10 := ⟨⟨by kernel_rfl, by kernel_rfl, by kernel_rfl⟩, by kernel_rfl⟩
theorem bareD18 : Bare XD 18 := ⟨⟨by kernel_rfl, by kernel_rfl, by kernel_rfl⟩, by kernel_rfl⟩
theorem bareD19 : Bare XD 19 := ⟨⟨by kernel_rfl, by kernel_rfl, by kernel_rfl⟩, by kernel_rfl⟩
theorem bareD20 : Bare XD 20 := ⟨⟨by kernel_rfl, by kernel_rfl, by kernel_rfl⟩, by kernel_rfl⟩
theorem same_zero : evalPure XD (evW XD) 10 [zeroP.pv, zeroP.pv] = some (.v (.bool true), []) :=
  evalPure_more (kCode_le 20) _ _ _ (show evalPure XD (kCode XD 100 20) 10 [zeroP.pv, zeroP.pv] = some (.v (.bool true), []) by kernel_rfl)

theorem feeds_con {m : Mach} (hm : m.Ok XD) (s u : ByteArray) (e : Bool) : Con Tryz.prog 4 [m.pv, .v (.string s), .v (.string u), .v (.bool e)] (.v (.bool true), []) :=
  pureW_sound XD_ok specD_ok (feeds4 (eq := eqA) (sp := specD) (il := inlA) (bl' := bldA) (is := ispA) rfl ⟨by kernel_rfl, by kernel_rfl, by kernel_rfl⟩ bareD8 bareD9 bareD10 bareD18 bareD19 bareD20 same_zero hm s u e)
end Go.Ev
end
