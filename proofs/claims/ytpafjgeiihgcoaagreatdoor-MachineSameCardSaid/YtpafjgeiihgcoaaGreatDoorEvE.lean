/- A part of the proof: HbEvS HbEvTab HbEvFu HbEvCon HbEvOm HbEvWk. No conditions. -/
import Derived.Test.YtpafjgeiihgcoaaGreatDoorEvD
import Derived.LoopNIn
import Derived.RangeFuncNested
import Derived.Below

section
/- What the evaluator says of code, the model does. -/
set_option linter.unusedVariables false
set_option linter.unusedSimpArgs false
namespace Go.Ev
open Go

/-- The loop around, where there is one. -/
def RdRel (Fc : Fence) (rd : Option (Nat × Nat)) (F : Nat → Prop) (h : Hp) (L : Nat → Option Nat) (w : World) : Prop :=
  match Fc.round, rd with
  | none, none => True
  | some l, some (i, g) => VRel F h.G L w (.yld i g) (.func (.yield l) #[] #[])
  | _, _ => False

theorem RdRel.step {Fc rd F h L w F' L' w' h'} (hr : RdRel Fc rd F h L w) (hs : Step F L w h F' L' w' h') : RdRel Fc rd F' h' L' w' := by
  unfold RdRel at *
  split <;> simp_all
  exact hr.later hs.toLater

/-- The marks that loops over iterators have left. -/
def Marks (n0 : Nat) (F : Nat → Prop) (L : Nat → Option Nat) (h : Hp) (w : World) (ds : List Deferred) : Prop :=
  ∃ bs : List Nat, ds = bs.map (fun D => { target := .collected D, args := #[] }) ∧ bs.Nodup ∧ ∀ D ∈ bs, n0 ≤ D ∧ w.heap[D]? = some (.deferred (some [])) ∧ ¬ F D ∧ ¬ Own h L D

theorem Marks.nil {n0 F L h w} : Marks n0 F L h w [] := ⟨[], rfl, .nil, fun _ h => by cases h⟩

theorem Marks.step {n0 F L h w ds F' L' w' h'} (hm : Marks n0 F L h w ds) (hs : Step F L w h F' L' w' h') : Marks n0 F' L' h' w' ds := by
  obtain ⟨bs, h1, h2, h3⟩ := hm
  refine ⟨bs, h1, h2, fun D hD => ?_⟩
  obtain ⟨k0, k1, k2, k3⟩ := h3 D hD
  have hlt : D < w.heap.size := (Array.getElem?_eq_some_iff.1 k1).1
  refine ⟨k0, (hs.keep D hlt k3).trans k1, fun hF => ?_, fun hO => ?_⟩
  · rcases hs.fro D hF with h | h | h
    · exact k2 h
    · exact k3 h
    · omega
  · rcases hs.own D hO with h | h
    · exact k3 h
    · omega

def EvOk (C : Ctx) (ev : Ev) : Prop := ∀ rd dp sz c st e st', ev rd dp sz c st = some (e, st') → ∀ Fc n, Wd Fc → ∀ F L ds a w n0, RdRel Fc rd F st.h L w → n0 ≤ w.heap.size → Marks n0 F L st.h w ds → SRel F L sz ds st a w →
  c.wpIn Fc n C.P (fun ex a' w' => ex = e.out ∧ ∃ F' L' ds', SRel F' L' sz ds' st' a' w' ∧ Step F L w st.h F' L' w' st'.h ∧ Marks n0 F' L' st'.h w' ds') a w

def resOf (tmps : Array Value) : ResultVar → Sem Value
  | .tmp t => pure (tmps.getD t undef)
  | .cell a t => do loadVar t (← asAddr (tmps.getD a undef))

theorem results_list {C : Ctx} (ht : TablesOk C) {F L sz ds st a w} (hs : SRel F L sz ds st a w) : ∀ {rs : List ResultVar} {ps : List PV}, resultsP C st rs = some ps → ∃ vs, (rs.mapM (resOf a.tmps)).run C.P w = .ok vs w ∧ VRels F st.h.G L w ps vs
  | [], ps, h => by simp only [resultsP] at h; cases h; exact ⟨[], by simp, .nil⟩
  | .tmp t :: rs, ps, h => by
    simp only [resultsP] at h
    split at h <;> try (cases h; done)
    rename_i qs hq
    cases h
    obtain ⟨vs, h1, h2⟩ := results_list ht hs hq
    exact ⟨_ :: vs, by simp [List.mapM_cons, resOf, h1], .cons (hs.tmps t) h2⟩
  | .cell b ty :: rs, ps, h => by
    simp only [resultsP] at h
    split at h <;> try (cases h; done)
    rename_i p qs hp hq
    cases h
    obtain ⟨vs, h1, h2⟩ := results_list ht hs hq
    obtain ⟨x, h3, h4⟩ := loadP_sound ht hs.heap hp (hs.tmps b)
    have h5 : (resOf a.tmps (.cell b ty)).run C.P w = .ok x w := by
      unfold loadP at hp
      split at hp <;> try (cases hp; done)
      split at hp <;> try (cases hp; done)
      rename_i cs hcs
      obtain ⟨B, o, he, _⟩ := cellsAt_sound hs.heap hcs (hs.tmps b)
      have he' : a.tmps[b]?.getD undef = .pointer (some ⟨B, o, none⟩) := by simpa using he
      rw [he] at h3
      simp only [Instr.loadAt, Instr.sureAddr, Sem.run_bind, Sem.run_pure, Result.andThen_ok] at h3
      simp [resOf, he', asAddr, h3]
    exact ⟨x :: vs, by simp [List.mapM_cons, h5, h1], .cons h4 h2⟩

theorem results_sound {C : Ctx} (ht : TablesOk C) {F L sz ds st a w} (hs : SRel F L sz ds st a w) {fn : Func} {ps : List PV} (h : resultsP C st fn.results.toList = some ps) : ∃ v, (results fn a.tmps).run C.P w = .ok v w ∧ VRel F st.h.G L w (oneOr ps) v := by
  obtain ⟨vs, h1, h2⟩ := results_list ht hs h
  have hrun : (fn.results.mapM (resOf a.tmps)).run C.P w = .ok vs.toArray w := by
    rw [Array.mapM_eq_mapM_toList, Sem.run_map, h1]; rfl
  have hres : (results fn a.tmps).run C.P w = .ok (if hh : vs.toArray.size = 1 then vs.toArray[0] else .tuple vs.toArray) w := by
    have e : results fn a.tmps = (do let vs ← fn.results.mapM (resOf a.tmps); pure (if h : vs.size = 1 then vs[0] else .tuple vs)) := by
      unfold results
      first | rfl | (congr 1; congr 1; funext r; cases r <;> rfl)
    rw [e, Sem.run_bind, hrun, Result.andThen_ok, Sem.run_pure]
  refine ⟨_, hres, ?_⟩
  cases h2 with
  | nil => exact .tuple .nil
  | cons k1 k2 =>
    cases k2 with
    | nil => exact k1
    | cons k2 k3 => 
      simp only [oneOr]
      exact .tuple (.cons k1 (.cons k2 k3))

/-- A block of nobody's, laid since, is shut. -/
theorem step_shut {F0 L0 w0 h0 F L w h} (hr : HRel F L w h) (hs : Step F0 L0 w0 h0 F L w h) {D : Nat} {o : Obj} (hD : w0.heap.size ≤ D) (hx : w.heap[D]? = some (.deferred (some []))) (hF : ¬ F D) (hO : ¬ Own h L D) :
    HRel F L (w.putObj D o) h ∧ Step F0 L0 w0 h0 F L (w.putObj D o) h ∧ Later F h.G L w F h.G L (w.putObj D o) := by
  have hl : Later F h.G L w F h.G L (w.putObj D o) := ⟨⟨fun _ h => h, fun B hB => World.putObj_heap_other (fun e => hF (e ▸ hB))⟩, fun B T n hsh => by
    by_cases e : B = D
    · subst e; simp [World.shape?, hx] at hsh
    · exact (shape_of_heap (World.putObj_heap_other e)).trans hsh, fun _ => .inr ⟨rfl, rfl⟩⟩
  refine ⟨⟨fun j => (hr.ok j).later hl (fun hj B hB => ⟨World.putObj_heap_other (fun e => hO ⟨j, hj, e ▸ hB⟩), id⟩), hr.inj, fun B hB => by rw [World.putObj_size]; exact hr.flt B hB⟩, ?_, hl⟩
  exact { hs.toLater.trans hl with
    os := hs.os, tape := hs.tape, output := hs.output, size := by rw [World.putObj_size]; exact hs.size
    keep := fun B hB hn => (World.putObj_heap_other (by omega)).trans (hs.keep B hB hn), own := hs.own, fro := hs.fro }

theorem leaves {C : Ctx} (ht : TablesOk C) {Fc : Fence} {n : Nat} {fn : Func} {R : Ending → World → Prop} {F0 L0 w0 h0} {sz : Nat} {st : St} {ps : List PV} (hps : resultsP C st fn.results.toList = some ps)
    (hR : ∀ v F' L' w', HRel F' L' w' st.h → Step F0 L0 w0 h0 F' L' w' st.h → VRel F' st.h.G L' w' (oneOr ps) v → R (.returned v) w') :
    ∀ (bs : List Nat) (ds0 : List Deferred) (F : Nat → Prop) (L : Nat → Option Nat) (a : Act) (w : World), bs.Nodup → (∀ D ∈ bs, w0.heap.size ≤ D ∧ w.heap[D]? = some (.deferred (some [])) ∧ ¬ F D ∧ ¬ Own st.h L D) → SRel F L sz ds0 st a w → Step F0 L0 w0 h0 F L w st.h →
      LeavesInM Fc n C.P fn a.tmps R (bs.map (fun D => { target := .collected D, args := #[] })) .returning w
  | [], ds0, F, L, a, w, hn, hb, hs, hst => by
    obtain ⟨v, hv1, hv2⟩ := results_sound ht hs hps
    exact ⟨v, hv1, hR v F L w hs.heap hst hv2⟩
  | D :: bs, ds0, F, L, a, w, hn, hb, hs, hst => by
    obtain ⟨k0, k1, k2, k3⟩ := hb D (by simp)
    obtain ⟨j1, j2, j3⟩ := step_shut hs.heap hst (o := .deferred none) k0 k1 k2 k3
    refine ⟨by simp, .inl ⟨D, _, rfl, run_takeDeferred k1, ?_⟩⟩
    refine leaves ht hps hR bs ds0 F L a _ (List.nodup_cons.1 hn).2 (fun E hE => ?_) ⟨j1, hs.tmps.later j3, hs.size, hs.defers⟩ j2
    obtain ⟨m0, m1, m2, m3⟩ := hb E (by simp [hE])
    exact ⟨m0, (World.putObj_heap_other (k := E) (r := D) (fun e => (List.nodup_cons.1 hn).1 (by rw [← e]; exact hE))).trans m1, m2, m3⟩

theorem body_sound {C : Ctx} (ht : TablesOk C) {ev} (hev : EvOk C ev) {dp : Nat} : InlOk C.P (evalBody C ev dp) := by
  intro f as h r h' hc F L w us hr has
  unfold evalBody at hc
  split at hc <;> try (cases hc; done)
  rename_i fn hfn
  split at hc <;> try (cases hc; done)
  rename_i c hbody
  have hlen : us.length = as.length := has.length.symm
  have hs : SRel F L (max as.length fn.ntmps) [] ⟨fun i => as.getD i .dead, h⟩ { tmps := us.toArray ++ Array.replicate (fn.ntmps - us.toArray.size) undef, defers := [] } w := by
    refine ⟨hr, fun i => ?_, by simp; omega, rfl⟩
    by_cases hi : i < as.length
    · obtain ⟨u, hu1, hu2⟩ := has.get (List.getElem?_eq_getElem hi)
      have e1 : as.getD i .dead = as[i] := by simp [hi]
      have e2 : (us.toArray ++ Array.replicate (fn.ntmps - us.toArray.size) undef).getD i undef = u := by
        rw [Array.getD_eq_getD_getElem?, Array.getElem?_append_left (by simp; omega)]
        simp [hu1]
      show VRel F h.G L w (as.getD i .dead) _
      rw [e1, e2]; exact hu2
    · have e1 : as.getD i .dead = .dead := by rw [List.getD_eq_getElem?_getD, List.getElem?_eq_none (by omega)]; rfl
      show VRel F h.G L w (as.getD i .dead) _
      rw [e1]; exact .dead
  refine (callsIn_wide (n := 0)).1 (callsIn_of_wp_marks (ht.func f fn hfn) hbody trivial ?_)
  have fin : ∀ e st ps, ev none dp (max as.length fn.ntmps) c ⟨fun i => as.getD i .dead, h⟩ = some (e, st) → (e = .normal ∨ e = .ret) → resultsP C st fn.results.toList = some ps → some (oneOr ps, st.h) = some (r, h') →
      c.wpIn Fence.wide 0 C.P (bodyPostM Fence.wide 0 C.P fn fun e w' => ∃ v F' L', e = .returned v ∧ HRel F' L' w' h' ∧ Step F L w h F' L' w' h' ∧ VRel F' h'.G L' w' r v) { tmps := us.toArray ++ Array.replicate (fn.ntmps - us.toArray.size) undef, defers := [] } w := by
    intro e st ps hevc he hps heq
    cases heq
    refine wpIn_mono (hev _ _ _ _ _ _ _ hevc Fence.wide 0 (.inl rfl) F L [] _ w w.heap.size trivial (Nat.le_refl _) .nil hs) ?_
    rintro ex a' w' ⟨rfl, F', L', ds', hs', hst, bs, hds, hnd, hm⟩
    have := leaves ht (Fc := Fence.wide) (n := 0) (fn := fn) (R := fun e w' => ∃ v F' L', e = .returned v ∧ HRel F' L' w' st.h ∧ Step F L w h F' L' w' st.h ∧ VRel F' st.h.G L' w' (oneOr ps) v) hps
      (fun v F' L' w' h1 h2 h3 => ⟨v, F', L', rfl, h1, h2, h3⟩) bs ds' F' L' a' w' hnd hm hs' hst
    rw [← hds, ← hs'.defers] at this
    rcases he with rfl | rfl <;> exact this
  split at hc <;> try (cases hc; done)
  rename_i e st hne hevc
  split at hc <;> try (cases hc; done)
  rename_i ps hps
  refine fin e st ps hevc ?_ hps hc
  cases e with
  | normal => exact .inl rfl
  | ret => exact .inr rfl
  | exit id => exact (hne id rfl).elim

theorem pure_sound {C : Ctx} (ht : TablesOk C) {ev} (hev : EvOk C ev) {f as res} (hc : evalPure C ev f as = some res) : Con C.P f as res := by
  intro F w vs hF has
  unfold evalPure at hc
  split at hc <;> try (cases hc; done)
  rename_i r h hb
  split at hc <;> try (cases hc; done)
  rename_i q acc hq
  cases hc
  have hr0 : HRel F (fun _ => none) w ⟨fun _ => 0, fun _ => .none⟩ := ⟨fun _ => .none, (fun i j B hi => by cases hi), hF⟩
  refine (body_sound ht hev f as _ r h hb F (fun _ => none) w vs hr0 has.toV).mono ?_
  rintro e w' ⟨v, F', L', rfl, h1, h2, h3⟩
  exact ⟨v, F', _, rfl, canon_came h1 h2 h3 hq⟩

theorem cal_sound {C : Ctx} (ht : TablesOk C) {ev} (hev : EvOk C ev) (hspec : ∀ f F args res, C.spec f = some F → F args = some res → Con C.P f args res) : CalOk C.P (calOf C ev) := by
  intro f as res hres
  unfold calOf at hres
  split at hres
  · rename_i G hsp; exact hspec f G as res hsp hres
  · exact pure_sound ht hev hres

/-- The loop's record turns. -/
theorem put_loop {F L w h} (hr : HRel F L w h) {i l : Nat} (hL : L i = some l) {ps asg bd sz s p t} (hH : h.H i = .loop ps asg bd sz s p t) {r r' : Loop} (hl : w.heap[l]? = some (.loop r)) (s' : Nat) (p' : Option Code)
    (e1 : r'.params = r.params) (e2 : r'.assign = r.assign) (e3 : r'.body = r.body) (e4 : r'.tmps = r.tmps) (hs : (s' = 0 ∧ r'.state = .ready ∧ r'.pending = none) ∨ (s' = 1 ∧ r'.state = .busy) ∨ (s' = 2 ∧ r'.state = .done ∧ r'.pending = p')) :
    HRel F L (w.putObj l (.loop r')) (h.app [(i, h.G i, .loop ps asg bd sz s' p' t)]) ∧ Step F L w h F L (w.putObj l (.loop r')) (h.app [(i, h.G i, .loop ps asg bd sz s' p' t)]) := by
  have hlt : l < w.heap.size := (Array.getElem?_eq_some_iff.1 hl).1
  refine step_set hr (by rw [hH]; rfl) hL (fun k hk => World.putObj_heap_other hk) World.putObj_size (fun T n hsh => by simp [World.shape?, hl] at hsh) rfl rfl rfl _ (fun hla hnF => ?_)
  have hb := hr.ok i
  rw [hH, hL] at hb
  cases hb with
  | loop k1 k2 k3 k4 k5 k6 k7 k8 =>
    rw [hl] at k2; cases k2
    exact .loop hnF (World.putObj_heap_same hlt) (by rw [e1]; exact k3) (by rw [e2]; exact k4) (by rw [e3]; exact k5) (by rw [e4]; exact k6) hs (fun i => by rw [e4]; exact (k8 i).later hla)

theorem setAll_rel {F G L w} : ∀ {ps : List Nat} {as : List PV} {us : List Value} {t : Nat → PV} {tm : Array Value}, VRels F G L w as us → ps.length = as.length → (∀ p ∈ ps, p < tm.size) → (∀ i, VRel F G L w (t i) (tm.getD i undef)) →
    (∀ i, VRel F G L w (setAll ps as t i) (((ps.zip us).foldl (fun tmps (x : Nat × Value) => tmps.setIfInBounds x.1 x.2) tm).getD i undef)) ∧ ((ps.zip us).foldl (fun tmps (x : Nat × Value) => tmps.setIfInBounds x.1 x.2) tm).size = tm.size
  | [], [], _, t, tm, .nil, _, _, ht => ⟨ht, rfl⟩
  | p :: ps, a :: as, _, t, tm, .cons (u := u) (us := us) h1 h2, hl, hp, ht => by
    have := setAll_rel (ps := ps) (as := as) (us := us) (t := upd t p a) (tm := tm.setIfInBounds p u) h2 (by simpa using hl) (fun q hq => by simpa using hp q (by simp [hq])) (fun i => by
      by_cases e : i = p
      · subst e
        have hlt := hp i (by simp)
        rw [upd_same]
        simp [hlt]; exact h1
      · rw [upd_other _ _ e]
        have := ht i
        simpa [Array.getElem?_setIfInBounds_ne (Ne.symm e)] using this)
    simp only [setAll, List.zip_cons_cons, List.foldl_cons]
    exact ⟨this.1, by rw [this.2]; simp⟩
  | [], _ :: _, _, _, _, _, hl, _, _ => by simp at hl
  | _ :: _, [], _, _, _, _, hl, _, _ => by simp at hl

theorem out_round {C : Ctx} {l : Nat} {R : Ending → World → Prop} {e : Ex} {a : Act} {w w' : World} {v : Value} (h1 : (Instr.endRound l e.jump).run C.P w = .ok v w') (h2 : R (.returned v) w') : roundPost C.P l R e.out a w := by
  cases e <;> exact ⟨v, w', h1, h2⟩

theorem round_sound {C : Ctx} {ev} (hev : EvOk C ev) {dp : Nat} : YlOk C.P (evalRound ev dp) := by
  intro i g as h r h' hc Fc n hFc F L w l us hr hy has
  unfold evalRound at hc
  split at hc <;> try (cases hc; done)
  rename_i ps asg bd sz pd t hH
  split at hc <;> try (cases hc; done)
  rename_i hcond
  obtain ⟨hg, hlen, hall⟩ := hcond
  have hL : L i = some l := by cases hy with | c h => cases h | yld _ h2 => exact h2 hg
  have hb := hr.ok i
  rw [hH, hL] at hb
  cases hb with
  | loop k1 k2 k3 k4 k5 k6 k7 k8 =>
  rename_i rc
  have hst0 : rc.state = .ready ∧ rc.pending = none := by
    rcases k7 with ⟨_, h1, h2⟩ | ⟨h, _⟩ | ⟨h, _⟩
    · exact ⟨h1, h2⟩
    · cases h
    · cases h
  have hus : us.length = as.length := has.length.symm
  have hpsz : rc.params.size = us.length := by rw [hus, ← hlen, ← k3, Array.length_toList]
  obtain ⟨q1, q2⟩ := setAll_rel (t := t) (tm := rc.tmps) has hlen (fun p hp => by rw [k6]; simpa using List.all_eq_true.1 hall p hp) k8
  have hfold : (rc.params.zip us.toArray).foldl (fun tmps (x : Nat × Value) => tmps.setIfInBounds x.1 x.2) rc.tmps = ((ps.zip us).foldl (fun tmps (x : Nat × Value) => tmps.setIfInBounds x.1 x.2) rc.tmps) := by
    rw [← Array.foldl_toList, Array.toList_zip, k3]
  refine ⟨rc.fn, _, rc.assign, rc.body, run_yield k2 (by simp [hpsz]), ?_⟩
  rw [hfold]
  split at hc <;> try (cases hc; done)
  rename_i st1 hev1
  split at hc <;> try (cases hc; done)
  rename_i ps1 asg1 bd1 sz1 pd1 t1 hH1
  split at hc <;> try (cases hc; done)
  rename_i hg1
  split at hc <;> try (cases hc; done)
  rename_i e st2 hev2
  split at hc <;> try (cases hc; done)
  rename_i ps2 asg2 bd2 sz2 s2 pd2 t2 hH2
  split at hc <;> try (cases hc; done)
  rename_i hg2
  cases hc
  refine roundIn_of_wpIn (hFc.fn _) ?_
  have hs : SRel F L sz [] ⟨setAll ps as t, h⟩ { tmps := (ps.zip us).foldl (fun tmps (x : Nat × Value) => tmps.setIfInBounds x.1 x.2) rc.tmps, defers := [] } w := ⟨hr, q1, by rw [← k6]; exact q2, rfl⟩
  rw [k4, k5]
  refine wpIn_mono (hev (some (i, g)) dp sz asg _ _ _ hev1 (Fc.inRound l) n (hFc.inRound l) F L [] _ w w.heap.size hy (Nat.le_refl _) .nil hs) ?_
  rintro ex a1 w1 ⟨rfl, F1, L1, ds1, hs1, hst1, hm1⟩
  have hy1 := hy.later hst1.toLater
  have hL1 : L1 i = some l := by cases hy1 with | c h => cases h | yld _ h2 => exact h2 hg1
  have hb1 := hs1.heap.ok i
  rw [hH1, hL1] at hb1
  cases hb1 with
  | loop m1 m2 m3 m4 m5 m6 m7 m8 =>
  rename_i rc1
  have hst1' : rc1.state = .ready := by
    rcases m7 with ⟨_, h1, h2⟩ | ⟨h, _⟩ | ⟨h, _⟩
    · exact h1
    · cases h
    · cases h
  obtain ⟨j1, j2⟩ := put_loop hs1.heap hL1 hH1 m2 (r' := { rc1 with state := .busy }) 1 none rfl rfl rfl rfl (.inr (.inl ⟨rfl, rfl⟩))
  refine ⟨_, run_beginRound m2 hst1', ?_⟩
  have hb2 : SRel F1 L1 sz ds1 ⟨st1.t, st1.h.app [(i, st1.h.G i, .loop ps1 asg1 bd1 sz1 1 none t1)]⟩ a1 (w1.putObj l (.loop { rc1 with state := .busy })) := ⟨j1, hs1.tmps.later j2.toLater, hs1.size, hs1.defers⟩
  refine wpIn_mono (hev (some (i, g)) dp sz bd _ _ _ hev2 (Fc.inRound l) n (hFc.inRound l) F1 L1 ds1 a1 _ w.heap.size (hy1.later j2.toLater) (by rw [World.putObj_size]; exact hst1.size) (hm1.step j2) hb2) ?_
  rintro ex a2 w2 ⟨rfl, F2, L2, ds2, hs2, hst2, hm2⟩
  have hy2 := (hy1.later j2.toLater).later hst2.toLater
  have hL2 : L2 i = some l := by cases hy2 with | c h => cases h | yld _ h2 => exact h2 hg2
  have hb3 := hs2.heap.ok i
  rw [hH2, hL2] at hb3
  cases hb3 with
  | loop n1 n2 n3 n4 n5 n6 n7 n8 =>
  rename_i rc2
  obtain ⟨x1, x2⟩ := put_loop hs2.heap hL2 hH2 n2 (r' := { rc2 with state := if e.jump.isNone then .ready else .done, pending := e.jump }) (if e.jump.isNone then 0 else 2) e.jump rfl rfl rfl rfl (by
    cases e with
    | normal => exact .inl ⟨rfl, rfl, rfl⟩
    | exit id => exact .inr (.inr ⟨rfl, rfl, rfl⟩)
    | ret => exact .inr (.inr ⟨rfl, rfl, rfl⟩))
  exact out_round (run_endRound e.jump n2) ⟨_, F2, L2, rfl, x1, (hst1.trans j2).trans (hst2.trans x2), .c (.v rfl)⟩

/-- A block of nobody's is laid. -/
theorem step_alloc {F L w h} (hr : HRel F L w h) (o : Obj) : HRel F L (w.alloc o) h ∧ Step F L w h F L (w.alloc o) h := by
  have hold : ∀ B, B < w.heap.size → (w.alloc o).heap[B]? = w.heap[B]? := fun B hB => by
    show (w.heap.push o)[B]? = _
    rw [Array.getElem?_push, if_neg (by omega)]
  have hl : Later F h.G L w F h.G L (w.alloc o) := ⟨⟨fun _ h => h, fun B hB => hold B (hr.flt B hB)⟩, fun B T n hs => (shape_of_heap (hold B (shape_lt hs))).trans hs, fun _ => .inr ⟨rfl, rfl⟩⟩
  refine ⟨⟨fun j => (hr.ok j).later hl (fun hj B hB => ⟨hold B (BRel.lt (hB ▸ hr.ok j) hj), id⟩), hr.inj, fun B hB => by have := hr.flt B hB; simp; omega⟩, ?_⟩
  exact { hl with os := rfl, tape := rfl, output := rfl, size := by simp, keep := fun B hB _ => hold B hB, own := fun _ h => .inl h, fro := fun _ h => .inl h }

theorem range_sound {C : Ctx} (ht : TablesOk C) {inl : Inl} (hinl : InlOk C.P inl) {rd : Option (Nat × Nat)} {dp sz : Nat} {g : Operand} {ps : Array Nat} {assign body : Code} {st st' : St} {e : Ex}
    (hc : evalRange C inl rd dp sz g ps.toList assign body st = some (e, st')) {Fc : Fence} {n : Nat} (hFc : Wd Fc) {F L ds a w n0} (hrd : RdRel Fc rd F st.h L w) (hn0 : n0 ≤ w.heap.size) (hm : Marks n0 F L st.h w ds) (hs : SRel F L sz ds st a w) :
    (Code.rangeFunc g ps assign body).wpIn Fc n C.P (fun ex a' w' => ex = e.out ∧ ∃ F' L' ds', SRel F' L' sz ds' st' a' w' ∧ Step F L w st.h F' L' w' st'.h ∧ Marks n0 F' L' st'.h w' ds') a w := by
  unfold evalRange at hc
  have hf := opd_sound hs.tmps g
  split at hc <;> try (cases hc; done)
  rename_i gf cs hfv
  rw [hfv] at hf
  obtain ⟨us, xs, hfe, h1, h2⟩ := hf.func_inv
  cases h1
  split at hc <;> try (cases hc; done)
  rename_i hcond
  obtain ⟨hcal, hrdk⟩ := hcond
  obtain ⟨fn, hfn, hbody, hname⟩ := ht.callable gf hcal
  split at hc <;> try (cases hc; done)
  rename_i rv h2' hinlc
  split at hc <;> try (cases hc; done)
  rename_i ps2 asg2 bd2 sz2 s2 pd2 t2 hH2
  split at hc <;> try (cases hc; done)
  rename_i hg2
  generalize hid : idOf dp 99998 0 = i at *
  -- the world in which the function is called
  have main : ∀ (l : Nat) (mark : List Deferred) (w1 wb : World) (rec : Loop) (fnm : FuncId), (Instr.enterLoop fnm a.tmps ps assign body Fc.round).run C.P w = .ok (l, mark) w1 → w1 = wb.alloc (.loop rec) → l = wb.heap.size → HRel F L wb st.h → Step F L w st.h F L wb st.h →
      (rec.state = .ready ∧ rec.pending = none ∧ rec.tmps = a.tmps ∧ rec.params = ps ∧ rec.assign = assign ∧ rec.body = body) → Marks n0 F L st.h wb (mark ++ ds) →
      ∃ (l : Nat) (mark : List Deferred) (w₁ : World) (d : Deferred) (w₁' : World) (f : FuncId) (args : Array Value) (w₂ : World),
        (Instr.enterLoop fnm a.tmps ps assign body Fc.round).run C.P w = .ok (l, mark) w₁ ∧
        (resolve a.eval (rangeCall g l) 0).run C.P w₁ = .ok d w₁' ∧
        (∀ f', Target.leads C.P w₁' d.target d.args = some f' → Fc.fn f') ∧
        (invoke d.target d.args).run C.P w₁' = .ok (.enter f args) w₂ ∧
        (Fc.depth.isSome = true → 1 ≤ n) ∧
        CallsIn Fc (n - 1) C.P f args w₂ (rangePost Fc n C.P l (fun ex a' w' => ex = e.out ∧ ∃ F' L' ds', SRel F' L' sz ds' st' a' w' ∧ Step F L w st.h F' L' w' st'.h ∧ Marks n0 F' L' st'.h w' ds') { a with defers := mark ++ a.defers }) := by
    intro l mark w1 wb rec fnm hent hw1 hl hrb hstb hrec hmb
    obtain ⟨z1, z2, z3, z4, z5, z6⟩ := hrec
    subst hw1
    subst hl
    obtain ⟨j1, j2⟩ := step_new hrb (w' := wb.alloc (.loop rec)) (o := .loop rec) rfl rfl rfl rfl i (.loop ps.toList assign body sz 0 none st.t) (fun hl hnF =>
      .loop hnF (World.alloc_heap_new wb _) (by rw [z4]) z5 z6 (by rw [z3]; exact hs.size) (.inl ⟨rfl, z1, z2⟩) (fun k => by rw [z3]; exact ((hs.tmps k).later hstb.toLater).later hl))
    refine ⟨wb.heap.size, mark, wb.alloc (.loop rec), { target := .fn (.func gf) xs.toArray, args := #[.func (.yield wb.heap.size) #[] #[]] }, wb.alloc (.loop rec), gf, (Value.func (.yield wb.heap.size) #[] #[] :: xs).toArray, wb.alloc (.loop rec), hent, ?_, fun f' _ => hFc.fn f', ?_, fun h => hFc.depth h, ?_⟩
    · have hcc : a.eval (.const (.func (.yield wb.heap.size) #[] #[])) = .func (.yield wb.heap.size) #[] #[] := rfl
      simp only [resolve, hfe]
      simp [Deferred.ofValue, hcc]
    · have hn' : fn.name ≠ "runtime.NumGoroutine" := by simpa using hname
      have hb' : fn.body ≠ none := by intro hh; simp [hh] at hbody
      simp [invoke, callFunc, hfn, hb', hn']
    · have hyl : VRel F (upd st.h.G i (st.h.G i + 1)) (upd L i (some wb.heap.size)) (wb.alloc (.loop rec)) (.yld i (st.h.G i + 1)) (.func (.yield wb.heap.size) #[] #[]) := .yld (by rw [upd_same]; exact Nat.le_refl _) (fun _ => by rw [upd_same])
      have hxs : VRels F (upd st.h.G i (st.h.G i + 1)) (upd L i (some wb.heap.size)) (wb.alloc (.loop rec)) cs xs := (h2.later hstb.toLater).later j2.toLater
      refine hFc.calls ((hinl gf _ _ _ _ hinlc F _ _ _ j1 (.cons hyl hxs)).mono ?_)
      rintro e' w3 ⟨v, F3, L3, rfl, x1, x2, x3⟩
      have hy3 := hyl.later x2.toLater
      have hL3 : L3 i = some wb.heap.size := by cases hy3 with | c h => cases h | yld _ h2 => exact h2 hg2
      have hb3 := x1.ok i
      rw [hH2, hL3] at hb3
      cases hb3 with
      | loop n1 n2 n3 n4 n5 n6 n7 n8 =>
      rename_i rc
      have hlt : wb.heap.size < w3.heap.size := (Array.getElem?_eq_some_iff.1 n2).1
      obtain ⟨y1, y2⟩ := step_set x1 (w' := w3.putObj wb.heap.size (.loop { rc with state := .exhausted })) (i := i) (by rw [hH2]; rfl) hL3 (fun k hk => World.putObj_heap_other hk) World.putObj_size (fun T n hsh => by simp [World.shape?, n2] at hsh) rfl rfl rfl .dead (fun _ _ => .dead)
      have hall := hstb.trans (j2.trans (x2.trans y2))
      have hm' : Marks n0 F3 L3 (h2'.app [(i, h2'.G i, .dead)]) (w3.putObj wb.heap.size (.loop { rc with state := .exhausted })) (mark ++ ds) := hmb.step (j2.trans (x2.trans y2))
      have hs' : SRel F3 L3 sz (mark ++ ds) ⟨st.t, h2'.app [(i, h2'.G i, .dead)]⟩ { a with defers := mark ++ a.defers } (w3.putObj wb.heap.size (.loop { rc with state := .exhausted })) := ⟨y1, hs.tmps.later hall.toLater, hs.size, by rw [← hs.defers]⟩
      have hend : rc.state ≠ .busy → (Instr.endLoop wb.heap.size).run C.P w3 = .ok rc.pending (w3.putObj wb.heap.size (.loop { rc with state := .exhausted })) := fun hb => run_endLoop n2 hb
      split at hc
      · cases hc
        rcases n7 with ⟨_, q1, q2⟩ | ⟨q, _⟩ | ⟨q, _⟩
        · refine ⟨none, _, by rw [hend (by rw [q1]; simp), q2], rfl, F3, L3, _, hs', hall, hm'⟩
        · cases q
        · cases q
      · cases hc
        rcases n7 with ⟨q, _⟩ | ⟨q, _⟩ | ⟨_, q1, q2⟩
        · cases q
        · cases q
        · exact ⟨some (.exit _), _, by rw [hend (by rw [q1]; simp), q2], wpIn_exit ⟨rfl, F3, L3, _, hs', hall, hm'⟩⟩
      · cases hc
        rcases n7 with ⟨q, _⟩ | ⟨q, _⟩ | ⟨_, q1, q2⟩
        · cases q
        · cases q
        · exact ⟨some .ret, _, by rw [hend (by rw [q1]; simp), q2], wpIn_ret ⟨rfl, F3, L3, _, hs', hall, hm'⟩⟩
      · cases hc
  refine wpIn_rangeFunc (fun fnm hfnm => ?_)
  unfold RdRel at hrd
  split at hrd
  · -- an outermost loop
    rename_i hround
    obtain ⟨b1, b2⟩ := step_alloc hs.heap (.deferred (some []))
    refine main (w.heap.size + 1) [{ target := .collected w.heap.size, args := #[] }] _ (w.alloc (.deferred (some []))) { state := .ready, pending := none, fn := fnm, tmps := a.tmps, params := ps, assign, body, defers := w.heap.size } fnm (by rw [hround]; exact run_enterLoop_outer _ _ _ _ _) rfl (by simp) b1 b2 ⟨rfl, rfl, rfl, rfl, rfl, rfl⟩ ?_
    obtain ⟨bs, e1, e2, e3⟩ := hm.step b2
    obtain ⟨bs0, f1, f2, f3⟩ := hm
    have hbs : bs = bs0 := by
      have : bs.map (fun D => ({ target := .collected D, args := #[] } : Deferred)) = bs0.map (fun D => { target := .collected D, args := #[] }) := e1.symm.trans f1
      exact List.map_inj_right (fun x y h => by cases h; rfl) |>.1 this
    refine ⟨w.heap.size :: bs, by rw [e1]; rfl, List.nodup_cons.2 ⟨fun hmem => ?_, e2⟩, fun D hD => ?_⟩
    · rw [hbs] at hmem
      have := (Array.getElem?_eq_some_iff.1 (f3 _ hmem).2.1).1
      omega
    · rcases List.mem_cons.1 hD with rfl | hD
      · refine ⟨hn0, World.alloc_heap_new w _, fun hF => ?_, fun hO => ?_⟩
        · have := hs.heap.flt _ hF; omega
        · have := hO.lt hs.heap; omega
      · exact e3 D hD
  · -- a loop in a round
    rename_i l i0 g0 hround
    have hl0 : ∃ r0, w.heap[l]? = some (.loop r0) := by
      simp only [rdOk, Bool.and_eq_true, decide_eq_true_eq] at hrdk
      obtain ⟨hg0, hk⟩ := hrdk
      have hL0 : L i0 = some l := by cases hrd with | c h => cases h | yld _ h2 => exact h2 hg0
      have hb := hs.heap.ok i0
      rw [hL0] at hb
      split at hk <;> try (cases hk; done)
      rename_i hH0
      rw [hH0] at hb
      cases hb with
      | loop _ k2 _ _ _ _ _ _ => exact ⟨_, k2⟩
    obtain ⟨r0, hl0⟩ := hl0
    exact main w.heap.size [] _ w { state := .ready, pending := none, fn := fnm, tmps := a.tmps, params := ps, assign, body, defers := r0.defers } fnm (by rw [hround]; exact run_enterLoop_inner hl0 _ _ _ _ _) rfl rfl hs.heap (.refl _ _ _ _) ⟨rfl, rfl, rfl, rfl, rfl, rfl⟩ (by simpa using hm)
  · exact hrd.elim

theorem loop_rounds {C : Ctx} {x : Code} {rd : Option (Nat × Nat)} {dp sz : Nat} {e : Ex} {st' : St} {Fc : Fence} {k : Nat} (hFc : Wd Fc) {F0 : Nat → Prop} {L0 : Nat → Option Nat} {w0 : World} {h0 : Hp} {n0 : Nat} : ∀ n, (∀ m, m < n → EvOk C (evalCode C m)) → ∀ st F L ds a w, evalCode C n rd dp sz (.loop x) st = some (e, st') → RdRel Fc rd F st.h L w → n0 ≤ w.heap.size → Marks n0 F L st.h w ds → SRel F L sz ds st a w → Step F0 L0 w0 h0 F L w st.h →
    Code.roundsIn Fc k C.P x (fun ex a' w' => ex = e.out ∧ ∃ F' L' ds', SRel F' L' sz ds' st' a' w' ∧ Step F0 L0 w0 h0 F' L' w' st'.h ∧ Marks n0 F' L' st'.h w' ds') n a w
  | 0, _, st, F, L, ds, a, w, h, _, _, _, _, _ => by simp [evalCode] at h
  | n + 1, hev, st, F, L, ds, a, w, h, hrd, hn0, hm, hs, hst => by
    have ih := hev n (by omega)
    simp only [evalCode] at h
    rw [roundsIn_succ]
    split at h
    · rename_i st1 hx
      refine wpIn_mono (ih _ _ _ _ _ _ _ hx Fc k hFc F L ds a w n0 hrd hn0 hm hs) ?_
      rintro ex a' w' ⟨rfl, F', L', ds', hs', hst', hm'⟩
      exact loop_rounds hFc n (fun m hm => hev m (by omega)) st1 F' L' ds' a' w' h (hrd.step hst') (Nat.le_trans hn0 hst'.size) hm' hs' (hst.trans hst')
    · rename_i hne
      refine wpIn_mono (ih _ _ _ _ _ _ _ h Fc k hFc F L ds a w n0 hrd hn0 hm hs) ?_
      rintro ex a' w' ⟨rfl, F', L', ds', hs', hst', hm'⟩
      cases e with
      | normal => exact (hne _ h).elim
      | exit id => exact ⟨rfl, F', L', ds', hs', hst.trans hst', hm'⟩
      | ret => exact ⟨rfl, F', L', ds', hs', hst.trans hst', hm'⟩

/-- THE EVALUATOR IS SOUND. -/
theorem code_sound {C : Ctx} (ht : TablesOk C) (hspec : ∀ f F args res, C.spec f = some F → F args = some res → Con C.P f args res) : ∀ n, EvOk C (evalCode C n) := by
  intro n
  induction n using Nat.strongRecOn with
  | _ n IH =>
  cases n with
  | zero => intro rd dp sz c st e st' h; simp [evalCode] at h
  | succ n =>
    have ih := IH n (by omega)
    intro rd dp sz c st e st' h Fc k hFc F L ds a w n0 hrd hn0 hm hs
    unfold evalCode at h
    split at h
    · cases h; exact wpIn_skip ⟨rfl, F, L, ds, hs, .refl _ _ _ _, hm⟩
    · rename_i id ops
      split at h <;> try (cases h; done)
      rename_i st1 hops
      cases h
      exact evalDraw_sound ht (cal_sound ht ih hspec) hFc hops hs (fun a' w' F' L' h1 h2 => ⟨rfl, F', L', ds, h1, h2, hm.step h2⟩)
    · rename_i id ops
      split at h <;> try (cases h; done)
      rename_i st1 hops
      cases h
      refine wpIn_region ?_
      have := evalOps_sound (Q := fun ex a' w' => ex = Ex.normal.out ∧ ∃ F' L' ds', SRel F' L' sz ds' st' a' w' ∧ Step F L w st.h F' L' w' st'.h ∧ Marks n0 F' L' st'.h w' ds') ht (cal_sound ht ih hspec) (body_sound ht ih) (round_sound ih) hFc (n := k) ops.toList 0 st F L a w (by simp) hs hops (fun a' w' F' L' h1 h2 => ⟨rfl, F', L', ds, h1, h2, hm.step h2⟩)
      rwa [← List.range_eq_range', Array.length_toList] at this
    · rename_i x y
      refine wpIn_seq ?_
      split at h
      · rename_i st1 hx
        refine wpIn_mono (ih _ _ _ _ _ _ _ hx Fc k hFc F L ds a w n0 hrd hn0 hm hs) ?_
        rintro ex a' w' ⟨rfl, F', L', ds', hs', hst, hm'⟩
        refine wpIn_mono (ih _ _ _ _ _ _ _ h Fc k hFc F' L' ds' a' w' n0 (hrd.step hst) (Nat.le_trans hn0 hst.size) hm' hs') ?_
        rintro ex a2 w2 ⟨he, F2, L2, ds2, hs2, hst2, hm2⟩
        exact ⟨he, F2, L2, ds2, hs2, hst.trans hst2, hm2⟩
      · rename_i r hne
        refine wpIn_mono (ih _ _ _ _ _ _ _ h Fc k hFc F L ds a w n0 hrd hn0 hm hs) ?_
        rintro ex a' w' ⟨rfl, F', L', ds', hs', hst, hm'⟩
        cases e with
        | normal => exact (hne _ h).elim
        | exit id => exact ⟨rfl, F', L', ds', hs', hst, hm'⟩
        | ret => exact ⟨rfl, F', L', ds', hs', hst, hm'⟩
    · rename_i x y z
      have hx := opd_sound hs.tmps x
      split at h <;> try (cases h; done)
      · rename_i hv
        rw [hv] at hx
        obtain ⟨hb, _⟩ := hx.v_iff
        exact wpIn_cond_true hb (ih _ _ _ _ _ _ _ h Fc k hFc F L ds a w n0 hrd hn0 hm hs)
      · rename_i hv
        rw [hv] at hx
        obtain ⟨hb, _⟩ := hx.v_iff
        exact wpIn_cond_false hb (ih _ _ _ _ _ _ _ h Fc k hFc F L ds a w n0 hrd hn0 hm hs)
    · rename_i id x
      refine wpIn_block ?_
      split at h
      · rename_i i st1 hx
        cases h
        refine wpIn_mono (ih _ _ _ _ _ _ _ hx Fc k hFc F L ds a w n0 hrd hn0 hm hs) ?_
        rintro ex a' w' ⟨rfl, F', L', ds', hs', hst, hm'⟩
        simp only [Exit.inBlock, Ex.out]
        split
        · exact ⟨rfl, F', L', ds', hs', hst, hm'⟩
        · exact ⟨rfl, F', L', ds', hs', hst, hm'⟩
      · rename_i hne
        refine wpIn_mono (ih _ _ _ _ _ _ _ h Fc k hFc F L ds a w n0 hrd hn0 hm hs) ?_
        rintro ex a' w' ⟨rfl, F', L', ds', hs', hst, hm'⟩
        cases e with
        | normal => exact ⟨rfl, F', L', ds', hs', hst, hm'⟩
        | exit id => exact (hne _ _ h).elim
        | ret => exact ⟨rfl, F', L', ds', hs', hst, hm'⟩
    · rename_i x
      exact wpIn_loop_rounds (n + 1) (loop_rounds hFc (n + 1) IH st F L ds a w (by rw [evalCode]; exact h) hrd hn0 hm hs (.refl _ _ _ _))
    · rename_i g ps asg bd
      exact range_sound ht (body_sound ht ih) h hFc hrd hn0 hm hs
    · cases h; exact wpIn_exit ⟨rfl, F, L, ds, hs, .refl _ _ _ _, hm⟩
    · cases h; exact wpIn_ret ⟨rfl, F, L, ds, hs, .refl _ _ _ _, hm⟩
    · cases h
end Go.Ev
end

section
/- The evaluator's tables, out of any program. -/
set_option linter.unusedVariables false
set_option linter.unusedSimpArgs false
namespace Go.Ev
open Go

def fieldsOf (P : Program) : List Field → Option (List (Nat × Nat))
  | [] => some []
  | f :: fs =>
    match P.info? f.type, fieldsOf P fs with
    | some i, some l => some ((f.offset, i.size) :: l)
    | _, _ => none

def oneOf (P : Program) (t : TypeId) (x : Ty) : Ty := if P.cellsOf t = 1 then x else .other

def tyOf (P : Program) (t : TypeId) : Ty :=
  match P.underlying t with
  | some (.int k) => oneOf P t (.int k)
  | some .bool => oneOf P t .bool
  | some .string => oneOf P t .str
  | some (.slice e) => oneOf P t (.slice e)
  | some (.map k e) => oneOf P t (.map k e)
  | some (.array n e) => .array n e
  | some (.struct fs) => match fieldsOf P fs.toList with | some l => .struct l | none => .other
  | some (.interface _) => .other
  | some _ => oneOf P t .plain
  | none => .other

def aggOf : Ty → Option Bool
  | .array _ _ | .struct _ => some true
  | .other => none
  | _ => some false

def zeroOf (P : Program) (t : TypeId) : Option (List Value) :=
  match aggOf (tyOf P t), P.info? t with
  | some true, some i =>
    match i.zero with
    | some (.agg zs) => if zs.toList.length = i.size ∧ zs.toList.all (·.oneCell') = true then some zs.toList else none
    | _ => none
  | some false, some i =>
    match i.zero with
    | some z => if z.oneCell' = true then some [z] else none
    | none => none
  | _, _ => none

def callOf (P : Program) (f : FuncId) : Bool :=
  match P.funcs[f]? with
  | some fn => !fn.body.isNone && !(fn.name == "runtime.NumGoroutine")
  | none => false

def ctxOf (P : Program) (eqOk : TypeId → Option (List EK)) (spec : FuncId → Option (List PV → Option Res)) (inl : FuncId → Bool) (bld : TypeId → Bool) (isp : FuncId → Option (Nat → List PV → Hp → Option (PV × Ups))) : Ctx :=
  { P := P, ty := tyOf P, size := P.cellsOf, bytes := P.bytesOf, zero := zeroOf P, eqOk := eqOk, func := fun f => P.funcs[f]?, callable := callOf P, spec := spec, inl := inl, bld := bld, isp := isp }

theorem fieldsOf_ok {P : Program} : ∀ {fs : List Field} {l}, fieldsOf P fs = some l → l.length = fs.length ∧ ∀ (j : Nat) f, fs[j]? = some f → ∃ i, P.info? f.type = some i ∧ l[j]? = some (f.offset, i.size)
  | [], l, h => by simp only [fieldsOf] at h; cases h; exact ⟨rfl, fun j f h => by simp at h⟩
  | f :: fs, l, h => by
    simp only [fieldsOf] at h
    split at h <;> try (cases h; done)
    rename_i i l' h1 h2
    cases h
    obtain ⟨k1, k2⟩ := fieldsOf_ok h2
    refine ⟨by simp [k1], fun j g hg => ?_⟩
    cases j with
    | zero => simp at hg; subst hg; exact ⟨i, h1, rfl⟩
    | succ j => simp at hg; simpa using k2 j g hg

theorem oneOf_agg {P : Program} {t : TypeId} {x : Ty} {b} (h : aggOf (oneOf P t x) = some b) : P.cellsOf t = 1 ∧ oneOf P t x = x := by
  unfold oneOf at *
  split at h
  · rename_i hc; exact ⟨hc, if_pos hc⟩
  · cases h

theorem tyOf_ok (P : Program) (t : TypeId) : TyOk P t (tyOf P t) := by
  have one : ∀ x, TyOk P t x → TyOk P t (oneOf P t x) := by
    intro x hx; unfold oneOf; split
    · exact hx
    · trivial
  unfold tyOf
  split <;> first | (rename_i h; exact one _ h) | skip
  · rename_i h; exact h
  · rename_i fs h
    split
    · rename_i l hl
      obtain ⟨k1, k2⟩ := fieldsOf_ok hl
      exact ⟨fs, h, by simpa using k1, fun j f hj => k2 j f (by simpa using hj)⟩
    · trivial
  · trivial
  · rename_i d h1 h2 h3 h4 h5 h6 h7 h8 hd
    refine one _ ⟨d, hd, ?_⟩
    cases d <;> first | rfl | (simp_all; done)
  · trivial

theorem info_of_under {P : Program} {t d} (h : P.underlying t = some d) : ∃ i, P.info? t = some i := by
  unfold Program.underlying at h
  cases hi : P.info? t with
  | none => rw [hi] at h; cases h
  | some i => exact ⟨i, rfl⟩

theorem agg_info {P : Program} {t b} (h : aggOf (tyOf P t) = some b) : ∃ i, P.info? t = some i ∧ i.size = P.cellsOf t ∧ i.bytes = P.bytesOf t ∧ (b = false → P.cellsOf t = 1) := by
  have hu : ∃ d, P.underlying t = some d := by
    unfold tyOf at h
    split at h <;> first | exact ⟨_, by assumption⟩ | cases h
  obtain ⟨d, hd⟩ := hu
  obtain ⟨i, hi⟩ := info_of_under hd
  refine ⟨i, hi, by simp [Program.cellsOf, hi], by simp [Program.bytesOf, hi], fun hb => ?_⟩
  subst hb
  unfold tyOf at h
  split at h <;> first | exact (oneOf_agg h).1 | (cases h; done) | skip
  split at h <;> cases h

theorem ctxOf_isAgg {P : Program} {eqOk spec inl bld isp t} : (ctxOf P eqOk spec inl bld isp).isAgg t = aggOf (tyOf P t) := by
  unfold Ctx.isAgg aggOf ctxOf
  dsimp only
  cases tyOf P t <;> rfl

def EqOk (P : Program) (eqOk : TypeId → Option (List EK)) : Prop := ∀ t ks (cs ds : List PV) b, eqOk t = some ks → eqCells ks cs ds = some b → ∀ (us xs : List Value) (w : World), cs = us.map PV.v → ds = xs.map PV.v → ∀ op, (op = .eql ∨ op = .neq) → ∀ (x y : Operand),
    (eqGuard op t x y (.agg us.toArray) (.agg xs.toArray)).run P w = .ok () w ∧ (Op.equal t (.agg us.toArray) (.agg xs.toArray)).run P w = .ok b w

theorem ctxOf_ok {P : Program} {eqOk spec inl bld isp} (hm : P.follows .mixedOrders = true) (he : EqOk P eqOk) (hi : ∀ f Fn, isp f = some Fn → IspOk P f Fn) : TablesOk (ctxOf P eqOk spec inl bld isp) where
  mixed := hm
  ty := tyOf_ok P
  info := fun t b h => by rw [ctxOf_isAgg] at h; exact agg_info h
  zero := fun t zs h => by
    change zeroOf P t = some zs at h
    unfold zeroOf at h
    split at h <;> try (cases h; done)
    · rename_i i ha hi
      split at h <;> try (cases h; done)
      rename_i arr hz
      split at h <;> try (cases h; done)
      rename_i hc
      cases h
      obtain ⟨i', hi', hs, _⟩ := agg_info ha
      rw [hi] at hi'; cases hi'
      exact ⟨true, _, i, by rw [ctxOf_isAgg]; exact ha, hc.1.trans hs, fun u hu => List.all_eq_true.1 hc.2 u hu, hi, hz, by simp⟩
    · rename_i i ha hi
      split at h <;> try (cases h; done)
      rename_i z hz
      split at h <;> try (cases h; done)
      rename_i hc
      cases h
      obtain ⟨i', hi', hs, _, h1⟩ := agg_info ha
      exact ⟨false, z, i, by rw [ctxOf_isAgg]; exact ha, (h1 rfl).symm, fun u hu => by simp at hu; subst hu; exact hc, hi, hz, by simp⟩
  func := fun f fn h => h
  callable := fun f h => by
    change callOf P f = true at h
    unfold callOf at h
    split at h
    · rename_i fn hf
      simp only [Bool.and_eq_true, Bool.not_eq_true'] at h
      exact ⟨fn, hf, h.1, h.2⟩
    · cases h
  eq := he
  isp := hi

theorem eqOk_none (P : Program) : EqOk P (fun _ => none) := fun t ks cs ds b h => by cases h
end Go.Ev
end

section
/- More fuel, the same answer. -/
set_option linter.unusedVariables false
set_option linter.unusedSimpArgs false
namespace Go.Ev
open Go

def LeC (c d : Cal) : Prop := ∀ f as r, c f as = some r → d f as = some r
def LeI (c d : Inl) : Prop := ∀ f as h r, c f as h = some r → d f as h = some r
def LeY (c d : Yl) : Prop := ∀ i g as h r, c i g as h = some r → d i g as h = some r
def LeE (c d : Ev) : Prop := ∀ rd dp sz x st r, c rd dp sz x st = some r → d rd dp sz x st = some r

theorem callP_more {c d : Cal} (h : LeC c d) {hp : Hp} {base : Nat} {f : FuncId} {as : List PV} {r} (hc : callP c hp base f as = some r) : callP d hp base f as = some r := by
  unfold callP at hc ⊢
  split at hc <;> try (cases hc; done)
  rename_i cargs h1
  split at hc <;> try (cases hc; done)
  rename_i res h2
  rw [h _ _ _ h2]
  exact hc

theorem stepOp_more {C : Ctx} {c d : Cal} {i j : Inl} {y z : Yl} (h1 : LeC c d) (h2 : LeI i j) (h3 : LeY y z) {dp : Nat} {o : Oper} {st : St} {r} (hc : stepOp C c i y dp o st = some r) : stepOp C d j z dp o st = some r := by
  unfold stepOp at hc ⊢
  split at hc
  · split at hc <;> try (cases hc; done)
    · split at hc <;> try (cases hc; done)
      rename_i hcal
      rw [if_pos hcal]
      split at hc
      · exact hc
      · split at hc
        · rename_i hi; rw [if_pos hi]; exact h2 _ _ _ _ hc
        · rename_i hi; rw [if_neg hi]
          split at hc <;> try (cases hc; done)
          rename_i r0 ups hcp
          rw [callP_more h1 hcp]; exact hc
    · exact h3 _ _ _ _ _ hc
  · exact hc

theorem evalOps_more {C : Ctx} {c d : Cal} {i j : Inl} {y z : Yl} (h1 : LeC c d) (h2 : LeI i j) (h3 : LeY y z) {dp sz : Nat} {ops : Array Oper} : ∀ {l : List Oper} {st : St} {r}, evalOps C c i y dp sz ops l st = some r → evalOps C d j z dp sz ops l st = some r
  | [], st, r, h => h
  | o :: os, st, r, h => by
    simp only [evalOps] at h ⊢
    split at h <;> try (cases h; done)
    · split at h <;> try (cases h; done)
      rename_i r0 hp hst
      rw [stepOp_more h1 h2 h3 hst]
      dsimp only
      split at h <;> try (cases h; done)
      exact evalOps_more h1 h2 h3 h
    · split at h <;> try (cases h; done)
      exact evalOps_more h1 h2 h3 h

theorem upsOp_more {C : Ctx} {c d : Cal} (h1 : LeC c d) {dp : Nat} {o : Oper} {st : St} {r} (hc : upsOp C c dp o st = some r) : upsOp C d dp o st = some r := by
  unfold upsOp at hc ⊢
  split at hc
  · split at hc <;> try (cases hc; done)
    split at hc <;> try (cases hc; done)
    rename_i hcal
    rw [if_pos hcal]
    split at hc
    · exact hc
    · split at hc <;> try (cases hc; done)
      rename_i hi
      rw [if_neg hi]
      exact callP_more h1 hc
  · exact hc

theorem drawGo_more {C : Ctx} {c d : Cal} (h1 : LeC c d) {dp sz : Nat} {ops : Array Oper} {t0 : Nat → PV} {h0 : Hp} : ∀ {l : List (Oper × Nat)} {recs : List Rec} {r}, drawGo C c dp sz ops t0 h0 l recs = some r → drawGo C d dp sz ops t0 h0 l recs = some r
  | [], recs, r, h => h
  | (o, m) :: os, recs, r, h => by
    simp only [drawGo] at h ⊢
    split at h <;> try (cases h; done)
    · split at h <;> try (cases h; done)
      rename_i r0 ups hu
      rw [upsOp_more h1 hu]
      dsimp only
      split at h <;> try (cases h; done)
      rename_i hk
      rw [if_pos hk]
      exact drawGo_more h1 h
    · split at h <;> try (cases h; done)
      rename_i hk
      rw [if_pos hk]
      exact drawGo_more h1 h

theorem evalDraw_more {C : Ctx} {c d : Cal} (h1 : LeC c d) {dp sz : Nat} {ops : Array Oper} {st : St} {r} (hc : evalDraw C c dp sz ops st = some r) : evalDraw C d dp sz ops st = some r := by
  unfold evalDraw at hc ⊢
  split at hc <;> try (cases hc; done)
  rename_i he
  rw [if_pos he]
  split at hc <;> try (cases hc; done)
  rename_i recs hd
  rw [drawGo_more h1 hd]; exact hc

theorem evalBody_more {C : Ctx} {e f : Ev} (h : LeE e f) {dp : Nat} : LeI (evalBody C e dp) (evalBody C f dp) := by
  intro fid as hp r hc
  unfold evalBody at hc ⊢
  split at hc <;> try (cases hc; done)
  split at hc <;> try (cases hc; done)
  split at hc <;> try (cases hc; done)
  rename_i x st hne hev
  rw [h _ _ _ _ _ _ hev]
  split
  · rename_i heq; cases heq; exact (hne _ rfl).elim
  · rename_i heq; cases heq; exact hc
  · rename_i heq; cases heq

theorem evalPure_more {C : Ctx} {e f : Ev} (h : LeE e f) : LeC (evalPure C e) (evalPure C f) := by
  intro fid as r hc
  unfold evalPure at hc ⊢
  split at hc <;> try (cases hc; done)
  rename_i r0 hp hb
  rw [evalBody_more h _ _ _ _ hb]
  exact hc

theorem calOf_more {C : Ctx} {e f : Ev} (h : LeE e f) : LeC (calOf C e) (calOf C f) := by
  intro fid as r hc
  unfold calOf at hc ⊢
  split at hc
  · exact hc
  · exact evalPure_more h _ _ _ hc

theorem evalRound_more {e f : Ev} (h : LeE e f) {dp : Nat} : LeY (evalRound e dp) (evalRound f dp) := by
  intro i g as hp r hc
  unfold evalRound at hc ⊢
  split at hc <;> try (cases hc; done)
  split at hc <;> try (cases hc; done)
  rename_i hcond
  rw [if_pos hcond]
  split at hc <;> try (cases hc; done)
  rename_i st1 h1
  rw [h _ _ _ _ _ _ h1]
  dsimp only
  split at hc <;> try (cases hc; done)
  split at hc <;> try (cases hc; done)
  rename_i hg
  rw [if_pos hg]
  split at hc <;> try (cases hc; done)
  rename_i e2 st2 h2
  rw [h _ _ _ _ _ _ h2]
  exact hc

theorem evalRange_more {C : Ctx} {i j : Inl} (h : LeI i j) {rd dp sz g ps asg bd st r} (hc : evalRange C i rd dp sz g ps asg bd st = some r) : evalRange C j rd dp sz g ps asg bd st = some r := by
  unfold evalRange at hc ⊢
  split at hc <;> try (cases hc; done)
  split at hc <;> try (cases hc; done)
  rename_i hcond
  rw [if_pos hcond]
  split at hc <;> try (cases hc; done)
  rename_i r0 h2 hi
  rw [h _ _ _ _ hi]
  exact hc

theorem evalCode_succ {C : Ctx} : ∀ n, LeE (evalCode C n) (evalCode C (n + 1))
  | 0 => fun rd dp sz x st r h => by simp [evalCode] at h
  | n + 1 => fun rd dp sz x st r h => by
    have ih := evalCode_succ (C := C) n
    unfold evalCode at h
    unfold evalCode
    split at h
    · exact h
    · split at h <;> try (cases h; done)
      rename_i st1 hd
      rw [evalDraw_more (calOf_more ih) hd]; exact h
    · split at h <;> try (cases h; done)
      rename_i st1 hd
      rw [evalOps_more (calOf_more ih) (evalBody_more ih) (evalRound_more ih) hd]; exact h
    · split at h
      · rename_i st1 h1
        rw [ih _ _ _ _ _ _ h1]; exact ih _ _ _ _ _ _ h
      · rename_i hne
        rw [ih _ _ _ _ _ _ h]
        split
        · rename_i heq; cases heq; exact (hne _ h).elim
        · rfl
    · split at h <;> try (cases h; done)
      · exact ih _ _ _ _ _ _ h
      · exact ih _ _ _ _ _ _ h
    · split at h
      · rename_i i st1 h1
        rw [ih _ _ _ _ _ _ h1]; exact h
      · rename_i hne
        rw [ih _ _ _ _ _ _ h]
        split
        · rename_i heq; cases heq; exact (hne _ _ h).elim
        · rfl
    · split at h
      · rename_i st1 h1
        rw [ih _ _ _ _ _ _ h1]; exact ih _ _ _ _ _ _ h
      · rename_i hne
        rw [ih _ _ _ _ _ _ h]
        split
        · rename_i heq; cases heq; exact (hne _ h).elim
        · rfl
    · exact evalRange_more (evalBody_more ih) h
    · exact h
    · exact h
    · cases h

theorem evalCode_more {C : Ctx} {n m : Nat} (h : n ≤ m) : LeE (evalCode C n) (evalCode C m) := by
  induction h with
  | refl => exact fun _ _ _ _ _ _ h => h
  | step _ ih => exact fun rd dp sz x st r hc => evalCode_succ _ _ _ _ _ _ _ (ih _ _ _ _ _ _ hc)
end Go.Ev
end

section
/- Contracts of the library, as the evaluator takes them. -/
set_option linter.unusedVariables false
set_option linter.unusedSimpArgs false
namespace Go.Ev
open Go Go.RowKit

/-- A function that hands back one plain value, and leaves what was there. -/
theorem con_of_below {P : Program} {f : FuncId} {args : List PV} {v : Value} (hv : v.oneCell' = true) (h : ∀ (F : Nat → Prop) (w : World) (vs : List Value), (∀ B, F B → B < w.heap.size) → CRels F w args vs → Calls P f vs.toArray w (fun e w' => e = .returned v ∧ Below w.heap.size w w')) : Con P f args (.v v, []) := by
  intro F w vs hF has
  refine (h F w vs hF has).mono ?_
  rintro e w' ⟨rfl, hb⟩
  refine ⟨v, F, fun _ => none, rfl, hb.os, hb.tape, hb.output, hb.size, hb.block, fun _ h => h, fun _ h => .inl h, ⟨fun k => ?_, fun j k B hj => ?_, fun B hB => Nat.lt_of_lt_of_le (hF B hB) hb.size⟩, fun k B hk => ?_, .c (.v hv), fun k s es hk => ?_⟩
  · simp only [resHp, List.getElem?_nil]; exact .none
  · simp only [resHp, List.getElem?_nil] at hj; cases hj
  · cases hk
  · simp at hk

theorem CRels.v1 {F w x us} (h : CRels F w [.v x] us) : us = [x] := by
  cases h with
  | cons h1 h2 => cases h1; cases h2; rfl
theorem CRels.v2 {F w x y us} (h : CRels F w [.v x, .v y] us) : us = [x, y] := by
  cases h with
  | cons h1 h2 => cases h1; rw [CRels.v1 h2]
end Go.Ev
end

section
/- The evaluator without fuel. -/
set_option linter.unusedVariables false
set_option linter.unusedSimpArgs false
namespace Go.Ev
open Go

theorem evalCode_one {C : Ctx} {n m : Nat} {rd dp sz c st r s} (h1 : evalCode C n rd dp sz c st = some r) (h2 : evalCode C m rd dp sz c st = some s) : r = s := by
  have k1 := evalCode_more (C := C) (Nat.le_max_left n m) _ _ _ _ _ _ h1
  have k2 := evalCode_more (C := C) (Nat.le_max_right n m) _ _ _ _ _ _ h2
  rw [k1] at k2; exact Option.some.inj k2

open Classical in
noncomputable def evW (C : Ctx) : Ev := fun rd dp sz c st => if h : ∃ r, ∃ n, evalCode C n rd dp sz c st = some r then some h.choose else none

theorem evW_iff {C : Ctx} {rd dp sz c st r} : evW C rd dp sz c st = some r ↔ ∃ n, evalCode C n rd dp sz c st = some r := by
  unfold evW
  constructor
  · intro h
    split at h <;> try (cases h; done)
    rename_i hx
    cases h
    exact hx.choose_spec
  · rintro ⟨n, h⟩
    have hx : ∃ r, ∃ n, evalCode C n rd dp sz c st = some r := ⟨r, n, h⟩
    rw [dif_pos hx]
    obtain ⟨m, hm⟩ := hx.choose_spec
    rw [evalCode_one hm h]

theorem evW_ge {C : Ctx} (n : Nat) : LeE (evalCode C n) (evW C) := fun _ _ _ _ _ _ h => evW_iff.2 ⟨n, h⟩

/-- What evW answers, the evaluator answers from some fuel on. -/
def Soon (C : Ctx) {α : Type} (φ : Ev → Option α) : Prop := ∀ r, φ (evW C) = some r → ∃ n, ∀ m, n ≤ m → φ (evalCode C m) = some r

theorem soon_ev {C : Ctx} {rd dp sz c st} : Soon C (fun ev => ev rd dp sz c st) := by
  intro r h
  obtain ⟨n, hn⟩ := evW_iff.1 h
  exact ⟨n, fun m hm => evalCode_more hm _ _ _ _ _ _ hn⟩

theorem soon_bind {C : Ctx} {α β : Type} {φ : Ev → Option α} {ψ : Ev → α → Option β} (h1 : Soon C φ) (h2 : ∀ a, Soon C (fun ev => ψ ev a)) : Soon C (fun ev => (φ ev).bind (ψ ev)) := by
  intro r h
  cases hx : φ (evW C) with
  | none => simp [hx] at h
  | some a =>
    simp [hx] at h
    obtain ⟨n, hn⟩ := h1 a hx
    obtain ⟨k, hk⟩ := h2 a r h
    exact ⟨max n k, fun m hm => by simp [hn m (by omega), hk m (by omega)]⟩

theorem soon_const {C : Ctx} {α : Type} {x : Option α} : Soon C (fun _ => x) := fun r h => ⟨0, fun _ _ => h⟩

section
variable {C : Ctx} {calF : Ev → Cal} {inlF : Ev → Inl} {ylF : Ev → Yl} (h1 : ∀ f as, Soon C (fun ev => calF ev f as)) (h2 : ∀ f as h, Soon C (fun ev => inlF ev f as h)) (h3 : ∀ i g as h, Soon C (fun ev => ylF ev i g as h))
include h1

theorem callP_soon {hp : Hp} {base : Nat} {f : FuncId} {as : List PV} : Soon C (fun ev => callP (calF ev) hp base f as) := by
  intro r hc
  dsimp only at hc
  unfold callP at hc
  split at hc <;> try (cases hc; done)
  rename_i cargs hr
  split at hc <;> try (cases hc; done)
  rename_i res hres
  obtain ⟨n, hn⟩ := h1 _ _ _ hres
  dsimp only at hn
  refine ⟨n, fun m hm => ?_⟩
  dsimp only
  unfold callP
  rw [hr]
  dsimp only
  rw [hn m hm]
  exact hc

theorem upsOp_soon {dp : Nat} {o : Oper} {st : St} : Soon C (fun ev => upsOp C (calF ev) dp o st) := by
  intro r hc
  dsimp only at hc
  unfold upsOp at hc
  split at hc
  · rename_i f args at' hop
    split at hc <;> try (cases hc; done)
    rename_i fid fs cs hf
    split at hc <;> try (cases hc; done)
    rename_i hcal
    split at hc
    · rename_i Fn hfn
      refine ⟨0, fun m hm => ?_⟩
      dsimp only
      unfold upsOp
      simp only [hop, hf]
      rw [if_pos hcal]
      simp only [hfn]
      exact hc
    · rename_i hfn
      split at hc <;> try (cases hc; done)
      rename_i hi
      obtain ⟨n, hn⟩ := callP_soon h1 _ hc
      dsimp only at hn
      refine ⟨n, fun m hm => ?_⟩
      dsimp only
      unfold upsOp
      simp only [hop, hf]
      rw [if_pos hcal]
      simp only [hfn]
      rw [if_neg hi]
      exact hn m hm
  · rename_i hne
    refine ⟨0, fun m hm => ?_⟩
    dsimp only
    unfold upsOp
    split
    · rename_i f args at' hop; exact (hne f args at' hop).elim
    · exact hc

theorem drawGo_soon {dp sz : Nat} {ops : Array Oper} {t0 : Nat → PV} {h0 : Hp} : ∀ {l : List (Oper × Nat)} {recs : List Rec}, Soon C (fun ev => drawGo C (calF ev) dp sz ops t0 h0 l recs)
  | [], recs => fun r h => ⟨0, fun _ _ => h⟩
  | (o, m) :: os, recs => by
    intro r hc
    simp only [drawGo] at hc ⊢
    split at hc <;> try (cases hc; done)
    · split at hc <;> try (cases hc; done)
      rename_i r0 ups hu
      split at hc <;> try (cases hc; done)
      rename_i hk
      obtain ⟨n, hn⟩ := upsOp_soon h1 _ hu
      dsimp only at hn
      obtain ⟨k, hk'⟩ := drawGo_soon _ hc
      dsimp only at hk'
      refine ⟨max n k, fun m hm => ?_⟩
      rw [hn m (by omega)]
      dsimp only
      rw [if_pos hk]
      exact hk' m (by omega)
    · split at hc <;> try (cases hc; done)
      rename_i hk
      obtain ⟨k, hk'⟩ := drawGo_soon _ hc
      dsimp only at hk'
      refine ⟨k, fun m hm => ?_⟩
      rw [if_pos hk]
      exact hk' m hm

theorem evalDraw_soon {dp sz : Nat} {ops : Array Oper} {st : St} : Soon C (fun ev => evalDraw C (calF ev) dp sz ops st) := by
  intro r hc
  dsimp only at hc
  unfold evalDraw at hc
  split at hc <;> try (cases hc; done)
  rename_i he
  split at hc <;> try (cases hc; done)
  rename_i recs hd
  obtain ⟨n, hn⟩ := drawGo_soon h1 _ hd
  dsimp only at hn
  refine ⟨n, fun m hm => ?_⟩
  dsimp only
  unfold evalDraw
  rw [if_pos he, hn m hm]
  exact hc

include h2 h3

theorem stepOp_soon {dp : Nat} {o : Oper} {st : St} : Soon C (fun ev => stepOp C (calF ev) (inlF ev) (ylF ev) dp o st) := by
  intro r hc
  dsimp only at hc
  unfold stepOp at hc
  split at hc
  · rename_i f args at' hop
    split at hc <;> try (cases hc; done)
    · rename_i fid fs cs hf
      split at hc <;> try (cases hc; done)
      rename_i hcal
      split at hc
      · rename_i Fn hfn
        refine ⟨0, fun m hm => ?_⟩
        dsimp only
        unfold stepOp
        simp only [hop, hf]
        rw [if_pos hcal]
        simp only [hfn]
        exact hc
      rename_i hfn
      split at hc
      · rename_i hi
        obtain ⟨n, hn⟩ := h2 _ _ _ _ hc
        dsimp only at hn
        refine ⟨n, fun m hm => ?_⟩
        dsimp only
        unfold stepOp
        simp only [hop, hf]
        rw [if_pos hcal]
        simp only [hfn]
        rw [if_pos hi]
        exact hn m hm
      · rename_i hi
        split at hc <;> try (cases hc; done)
        rename_i r0 ups hcp
        obtain ⟨n, hn⟩ := callP_soon h1 _ hcp
        dsimp only at hn
        refine ⟨n, fun m hm => ?_⟩
        dsimp only
        unfold stepOp
        simp only [hop, hf]
        rw [if_pos hcal]
        simp only [hfn]
        rw [if_neg hi, hn m hm]
        exact hc
    · rename_i i g hf
      obtain ⟨n, hn⟩ := h3 _ _ _ _ _ hc
      dsimp only at hn
      refine ⟨n, fun m hm => ?_⟩
      dsimp only
      unfold stepOp
      simp only [hop, hf]
      exact hn m hm
  · rename_i hne
    refine ⟨0, fun m hm => ?_⟩
    dsimp only
    unfold stepOp
    split
    · rename_i f args at' hop; exact (hne f args at' hop).elim
    · exact hc

theorem evalOps_soon {dp sz : Nat} {ops : Array Oper} : ∀ {l : List Oper} {st : St}, Soon C (fun ev => evalOps C (calF ev) (inlF ev) (ylF ev) dp sz ops l st)
  | [], st => fun r h => ⟨0, fun _ _ => h⟩
  | o :: os, st => by
    intro r hc
    simp only [evalOps] at hc ⊢
    split at hc <;> try (cases hc; done)
    · split at hc <;> try (cases hc; done)
      rename_i r0 hp hst
      split at hc <;> try (cases hc; done)
      rename_i t hput
      obtain ⟨n, hn⟩ := stepOp_soon h1 h2 h3 _ hst
      dsimp only at hn
      obtain ⟨k, hk⟩ := evalOps_soon _ hc
      dsimp only at hk
      refine ⟨max n k, fun m hm => ?_⟩
      rw [hn m (by omega)]
      dsimp only
      rw [hput]
      exact hk m (by omega)
    · split at hc <;> try (cases hc; done)
      exact evalOps_soon _ hc
end

theorem evalBody_soon {C : Ctx} {dp : Nat} (fid : FuncId) (as : List PV) (hp : Hp) : Soon C (fun ev => evalBody C ev dp fid as hp) := by
  intro r hc
  dsimp only at hc
  unfold evalBody at hc
  split at hc <;> try (cases hc; done)
  rename_i fn hfn
  split at hc <;> try (cases hc; done)
  rename_i c hb
  split at hc <;> try (cases hc; done)
  rename_i x st hne hev
  obtain ⟨n, hn⟩ := soon_ev _ hev
  dsimp only at hn
  refine ⟨n, fun m hm => ?_⟩
  dsimp only
  unfold evalBody
  rw [hfn]
  dsimp only
  rw [hb]
  dsimp only
  rw [hn m hm]
  split
  · rename_i heq; cases heq; exact (hne _ rfl).elim
  · rename_i heq; cases heq; exact hc
  · rename_i heq; cases heq

theorem evalPure_soon {C : Ctx} (fid : FuncId) (as : List PV) : Soon C (fun ev => evalPure C ev fid as) := by
  intro r hc
  dsimp only at hc
  unfold evalPure at hc
  split at hc <;> try (cases hc; done)
  rename_i r0 hp hb
  obtain ⟨n, hn⟩ := evalBody_soon _ _ _ _ hb
  dsimp only at hn
  refine ⟨n, fun m hm => ?_⟩
  dsimp only
  unfold evalPure
  rw [hn m hm]
  exact hc

theorem calOf_soon {C : Ctx} (fid : FuncId) (as : List PV) : Soon C (fun ev => calOf C ev fid as) := by
  intro r hc
  dsimp only at hc
  unfold calOf at hc
  split at hc
  · rename_i F hF
    exact ⟨0, fun m hm => by dsimp only; unfold calOf; rw [hF]; exact hc⟩
  · rename_i hF
    obtain ⟨n, hn⟩ := evalPure_soon _ _ _ hc
    exact ⟨n, fun m hm => by dsimp only; unfold calOf; rw [hF]; exact hn m hm⟩

theorem evalRound_soon {C : Ctx} {dp : Nat} (i g : Nat) (as : List PV) (hp : Hp) : Soon C (fun ev => evalRound ev dp i g as hp) := by
  intro r hc
  dsimp only at hc
  unfold evalRound at hc
  split at hc <;> try (cases hc; done)
  rename_i ps asg bd sz pd t hH
  split at hc <;> try (cases hc; done)
  rename_i hcond
  split at hc <;> try (cases hc; done)
  rename_i st1 hev1
  split at hc <;> try (cases hc; done)
  rename_i ps1 asg1 bd1 sz1 pd1 t1 hH1
  split at hc <;> try (cases hc; done)
  rename_i hg1
  split at hc <;> try (cases hc; done)
  rename_i e st2 hev2
  obtain ⟨n, hn⟩ := soon_ev _ hev1
  obtain ⟨k, hk⟩ := soon_ev _ hev2
  dsimp only at hn hk
  refine ⟨max n k, fun m hm => ?_⟩
  dsimp only
  unfold evalRound
  simp only [hH]
  rw [if_pos hcond, hn m (by omega)]
  simp only [hH1]
  rw [if_pos hg1, hk m (by omega)]
  exact hc

theorem evalRange_soon {C : Ctx} {rd dp sz g ps asg bd st} : Soon C (fun ev => evalRange C (evalBody C ev (dp + 1)) rd dp sz g ps asg bd st) := by
  intro r hc
  dsimp only at hc
  unfold evalRange at hc
  split at hc <;> try (cases hc; done)
  rename_i gf cs hf
  split at hc <;> try (cases hc; done)
  rename_i hcond
  split at hc <;> try (cases hc; done)
  rename_i r0 h2 hi
  obtain ⟨n, hn⟩ := evalBody_soon _ _ _ _ hi
  dsimp only at hn
  refine ⟨n, fun m hm => ?_⟩
  dsimp only
  unfold evalRange
  rw [hf]
  simp only []
  rw [if_pos hcond, hn m hm]
  exact hc

/-- One step of the evaluator, over any evaluator. -/
def stepE (C : Ctx) (ev : Ev) : Ev := fun rd dp sz c st =>
  match c with
  | .skip => some (.normal, st)
  | .region _ ops true =>
    match evalDraw C (calOf C ev) dp sz ops st with
    | some st' => some (.normal, st')
    | none => none
  | .region _ ops false =>
    match evalOps C (calOf C ev) (evalBody C ev (dp + 1)) (evalRound ev (dp + 1000)) dp sz ops ops.toList st with
    | some st' => some (.normal, st')
    | none => none
  | .seq a b =>
    match ev rd dp sz a st with
    | some (.normal, st') => ev rd dp sz b st'
    | r => r
  | .cond x a b =>
    match opd st.t x with
    | .v (.bool true) => ev rd dp sz a st
    | .v (.bool false) => ev rd dp sz b st
    | _ => none
  | .block id a =>
    match ev rd dp sz a st with
    | some (.exit i, st') => some (if i = id then .normal else .exit i, st')
    | r => r
  | .loop a =>
    match ev rd dp sz a st with
    | some (.normal, st') => ev rd dp sz (.loop a) (squash sz st')
    | r => r
  | .rangeFunc g ps assign body => evalRange C (evalBody C ev (dp + 1)) rd dp sz g ps.toList assign body st
  | .exit id => some (.exit id, st)
  | .ret => some (.ret, st)
  | _ => none

theorem evalCode_stepE {C : Ctx} {n : Nat} : evalCode C (n + 1) = stepE C (evalCode C n) := by
  funext rd dp sz c st
  unfold evalCode stepE
  rfl

theorem stepE_soon {C : Ctx} {rd dp sz c st} : Soon C (fun ev => stepE C ev rd dp sz c st) := by
  intro r h
  dsimp only at h ⊢
  unfold stepE at h ⊢
  split at h
  · exact ⟨0, fun _ _ => h⟩
  · split at h <;> try (cases h; done)
    rename_i st1 hd
    obtain ⟨n, hn⟩ := evalDraw_soon calOf_soon _ hd
    dsimp only at hn
    exact ⟨n, fun m hm => by rw [hn m hm]; exact h⟩
  · split at h <;> try (cases h; done)
    rename_i st1 hd
    obtain ⟨n, hn⟩ := evalOps_soon calOf_soon evalBody_soon evalRound_soon _ hd
    dsimp only at hn
    exact ⟨n, fun m hm => by rw [hn m hm]; exact h⟩
  · split at h
    · rename_i st1 h1
      obtain ⟨n, hn⟩ := soon_ev _ h1
      obtain ⟨k, hk⟩ := soon_ev _ h
      dsimp only at hn hk
      exact ⟨max n k, fun m hm => by rw [hn m (by omega)]; exact hk m (by omega)⟩
    · rename_i hne
      obtain ⟨n, hn⟩ := soon_ev _ h
      dsimp only at hn
      refine ⟨n, fun m hm => ?_⟩
      rw [hn m hm]
      split
      · rename_i heq; cases heq; exact (hne _ h).elim
      · rfl
  · split at h <;> try (cases h; done)
    · exact soon_ev _ h
    · exact soon_ev _ h
  · split at h
    · rename_i i st1 h1
      obtain ⟨n, hn⟩ := soon_ev _ h1
      dsimp only at hn
      exact ⟨n, fun m hm => by rw [hn m hm]; exact h⟩
    · rename_i hne
      obtain ⟨n, hn⟩ := soon_ev _ h
      dsimp only at hn
      refine ⟨n, fun m hm => ?_⟩
      rw [hn m hm]
      split
      · rename_i heq; cases heq; exact (hne _ _ h).elim
      · rfl
  · split at h
    · rename_i st1 h1
      obtain ⟨n, hn⟩ := soon_ev _ h1
      obtain ⟨k, hk⟩ := soon_ev _ h
      dsimp only at hn hk
      exact ⟨max n k, fun m hm => by rw [hn m (by omega)]; exact hk m (by omega)⟩
    · rename_i hne
      obtain ⟨n, hn⟩ := soon_ev _ h
      dsimp only at hn
      refine ⟨n, fun m hm => ?_⟩
      rw [hn m hm]
      split
      · rename_i heq; cases heq; exact (hne _ h).elim
      · rfl
  · exact evalRange_soon _ h
  · exact ⟨0, fun _ _ => h⟩
  · exact ⟨0, fun _ _ => h⟩
  · cases h

/-- WITHOUT FUEL: what one step over evW answers, evW answers. -/
theorem evW_of_step {C : Ctx} {rd dp sz c st r} (h : stepE C (evW C) rd dp sz c st = some r) : evW C rd dp sz c st = some r := by
  obtain ⟨n, hn⟩ := stepE_soon _ h
  have := hn n (Nat.le_refl _)
  dsimp only at this
  exact evW_iff.2 ⟨n + 1, by rw [evalCode_stepE]; exact this⟩

theorem pureW_sound {C : Ctx} (ht : TablesOk C) (hspec : ∀ f F args res, C.spec f = some F → F args = some res → Con C.P f args res) {f as res} (h : evalPure C (evW C) f as = some res) : Con C.P f as res := by
  obtain ⟨n, hn⟩ := evalPure_soon _ _ _ h
  have := hn n (Nat.le_refl _)
  exact pure_sound ht (code_sound ht hspec n) this
end Go.Ev
end

section
/- Walks of the evaluator over values that are not all known: rules. -/
set_option linter.unusedVariables false
set_option linter.unusedSimpArgs false
namespace Go.Ev
open Go

/-- The code runs, and leaves what Q takes. -/
def Runs (C : Ctx) (rd : Option (Nat × Nat)) (dp sz : Nat) (c : Code) (st : St) (Q : Ex → St → Prop) : Prop := ∃ e st', evW C rd dp sz c st = some (e, st') ∧ Q e st'

section
variable {C : Ctx} {rd : Option (Nat × Nat)} {dp sz : Nat} {st : St} {Q : Ex → St → Prop}

theorem Runs.mono {c : Code} {R : Ex → St → Prop} (h : Runs C rd dp sz c st Q) (hq : ∀ e s, Q e s → R e s) : Runs C rd dp sz c st R := by
  obtain ⟨e, s, h1, h2⟩ := h
  exact ⟨e, s, h1, hq _ _ h2⟩

theorem runs_skip (h : Q .normal st) : Runs C rd dp sz .skip st Q := ⟨_, _, evW_of_step rfl, h⟩
theorem runs_exit {id : Nat} (h : Q (.exit id) st) : Runs C rd dp sz (.exit id) st Q := ⟨_, _, evW_of_step rfl, h⟩
theorem runs_ret (h : Q .ret st) : Runs C rd dp sz .ret st Q := ⟨_, _, evW_of_step rfl, h⟩

def thenQ (K : St → Prop) (Q : Ex → St → Prop) : Ex → St → Prop
  | .normal, s => K s
  | e, s => Q e s

theorem runs_seq {a b : Code} (h : Runs C rd dp sz a st (thenQ (fun s => Runs C rd dp sz b s Q) Q)) : Runs C rd dp sz (.seq a b) st Q := by
  obtain ⟨e, s, h1, h2⟩ := h
  cases e with
  | normal =>
    obtain ⟨e2, s2, k1, k2⟩ := h2
    exact ⟨e2, s2, evW_of_step (by simp only [stepE, h1]; exact k1), k2⟩
  | exit id => exact ⟨_, _, evW_of_step (by simp only [stepE, h1]), h2⟩
  | ret => exact ⟨_, _, evW_of_step (by simp only [stepE, h1]), h2⟩

theorem runs_cond {x : Operand} {a b : Code} {v : Bool} (hv : opd st.t x = .v (.bool v)) (h1 : v = true → Runs C rd dp sz a st Q) (h2 : v = false → Runs C rd dp sz b st Q) : Runs C rd dp sz (.cond x a b) st Q := by
  cases v with
  | true => obtain ⟨e, s, k1, k2⟩ := h1 rfl; exact ⟨e, s, evW_of_step (by simp only [stepE, hv]; exact k1), k2⟩
  | false => obtain ⟨e, s, k1, k2⟩ := h2 rfl; exact ⟨e, s, evW_of_step (by simp only [stepE, hv]; exact k1), k2⟩

def blockQ (id : Nat) (Q : Ex → St → Prop) : Ex → St → Prop
  | .exit i, s => Q (if i = id then .normal else .exit i) s
  | e, s => Q e s

theorem runs_block {id : Nat} {a : Code} (h : Runs C rd dp sz a st (blockQ id Q)) : Runs C rd dp sz (.block id a) st Q := by
  obtain ⟨e, s, h1, h2⟩ := h
  cases e with
  | normal => exact ⟨_, _, evW_of_step (by simp only [stepE, h1]), h2⟩
  | exit i => exact ⟨_, _, evW_of_step (by simp only [stepE, h1]), h2⟩
  | ret => exact ⟨_, _, evW_of_step (by simp only [stepE, h1]), h2⟩

/-- A loop, by what holds ahead of each round, and a measure that falls. -/
theorem runs_loop {a : Code} (I : Nat → St → Prop) (hb : ∀ k s, I k s → Runs C rd dp sz a s (thenQ (fun s' => ∃ k', k' < k ∧ I k' s') Q)) : ∀ (k : Nat) (s : St), I k s → Runs C rd dp sz (.loop a) s Q := by
  intro k
  induction k using Nat.strongRecOn with
  | ind k ih =>
    intro s hs
    obtain ⟨e, s1, h1, h2⟩ := hb k s hs
    cases e with
    | normal =>
      obtain ⟨k', hk, hi⟩ := h2
      obtain ⟨e2, s2, j1, j2⟩ := ih k' hk s1 hi
      exact ⟨e2, s2, evW_of_step (by simp only [stepE, h1]; exact j1), j2⟩
    | exit id => exact ⟨_, _, evW_of_step (by simp only [stepE, h1]), h2⟩
    | ret => exact ⟨_, _, evW_of_step (by simp only [stepE, h1]), h2⟩

theorem runs_region {id : Nat} {ops : Array Oper} {s : St} (h : evalOps C (calOf C (evW C)) (evalBody C (evW C) (dp + 1)) (evalRound (evW C) (dp + 1000)) dp sz ops ops.toList st = some s) (hq : Q .normal s) : Runs C rd dp sz (.region id ops false) st Q :=
  ⟨_, _, evW_of_step (by simp only [stepE, h]), hq⟩

theorem runs_draw {id : Nat} {ops : Array Oper} {s : St} (h : evalDraw C (calOf C (evW C)) dp sz ops st = some s) (hq : Q .normal s) : Runs C rd dp sz (.region id ops true) st Q :=
  ⟨_, _, evW_of_step (by simp only [stepE, h]), hq⟩

/-- A function's answer, out of its body's walk. -/
theorem pure_of_runs {f : FuncId} {fn : Func} {c : Code} {as : List PV} {res : Res} (hf : C.func f = some fn) (hb : fn.body = some c)
    (h : Runs C none 0 (max as.length fn.ntmps) c ⟨fun i => as.getD i .dead, ⟨fun _ => 0, fun _ => .none⟩⟩ (fun e s => (∀ i, e ≠ .exit i) ∧ ∃ ps q acc, resultsP C s fn.results.toList = some ps ∧ canon s.h (oneOr ps) [] = some (q, acc) ∧ res = (q, acc.map (·.2)))) : evalPure C (evW C) f as = some res := by
  obtain ⟨e, s, h1, h2, ps, q, acc, h3, h4, rfl⟩ := h
  unfold evalPure evalBody
  rw [hf]
  dsimp only
  rw [hb]
  dsimp only
  rw [h1]
  cases e with
  | normal => dsimp only; rw [h3]; dsimp only; rw [h4]
  | exit i => exact (h2 i rfl).elim
  | ret => dsimp only; rw [h3]; dsimp only; rw [h4]

/-- One operation of a region in the text's order. -/
theorem ops_cons {cal : Cal} {inl : Inl} {yl : Yl} {ops : Array Oper} {o : Oper} {os : List Oper} {r : PV} {h' : Hp} {t' : Nat → PV} {res : Option St} (hw : wantedP ops o st.t = some true) (hs : stepOp C cal inl yl dp o st = some (r, h')) (hp : putP sz st.t o.dst r = some t') (hr : evalOps C cal inl yl dp sz ops os ⟨t', h'⟩ = res) : evalOps C cal inl yl dp sz ops (o :: os) st = res := by
  simp only [evalOps, hw, hs, hp, hr]

theorem ops_skip {cal : Cal} {inl : Inl} {yl : Yl} {ops : Array Oper} {o : Oper} {os : List Oper} {t' : Nat → PV} {res : Option St} (hw : wantedP ops o st.t = some false) (hp : putP sz st.t o.dst (.tuple []) = some t') (hr : evalOps C cal inl yl dp sz ops os ⟨t', st.h⟩ = res) : evalOps C cal inl yl dp sz ops (o :: os) st = res := by
  simp only [evalOps, hw, hp, hr]
end
end Go.Ev
end
