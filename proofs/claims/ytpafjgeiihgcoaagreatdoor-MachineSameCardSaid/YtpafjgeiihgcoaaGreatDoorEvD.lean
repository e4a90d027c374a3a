/- A part of the proof: HbEvT HbEvU HbEvV HbEvW HbEvX HbEvY HbEvZ. No conditions. -/
import Derived.Test.YtpafjgeiihgcoaaGreatDoorEvC
import Derived.Orders
import Derived.OrdersIn

section
/- What an operation of the evaluator hangs on: its operands, and what it finds in memory. -/
set_option linter.unusedVariables false
set_option linter.unusedSimpArgs false
set_option linter.unusedSectionVars false
namespace Go.Ev
open Go

theorem Le.refl (h : Hp) : Le h h := fun _ => .inr ⟨rfl, rfl⟩

theorem Le.at {h h' : Hp} (hm : Le h h') {k : Nat} (ha : (h.H k).alive = true) : h'.G k = h.G k ∧ h'.H k = h.H k := by
  rcases hm k with h1 | ⟨h1, h2⟩
  · rw [h1] at ha; cases ha
  · exact ⟨h1.symm, h2.symm⟩

theorem alive_var {h : Hp} {i cs} (e : h.H i = .var cs) : (h.H i).alive = true := by rw [e]; rfl
theorem alive_fvar {h : Hp} {i cs} (e : h.H i = .fvar cs) : (h.H i).alive = true := by rw [e]; rfl
theorem alive_row {h : Hp} {i s cs} (e : h.H i = .row s cs) : (h.H i).alive = true := by rw [e]; rfl
theorem alive_frow {h : Hp} {i s cs} (e : h.H i = .frow s cs) : (h.H i).alive = true := by rw [e]; rfl
theorem alive_map {h : Hp} {i ks vs} (e : h.H i = .map ks vs) : (h.H i).alive = true := by rw [e]; rfl
theorem alive_fzmap {h : Hp} {i ks vs} (e : h.H i = .fzmap ks vs) : (h.H i).alive = true := by rw [e]; rfl

section
variable {h h' : Hp} (hm : Le h h')
include hm

theorem cellsAt_mono {p n cs} (hc : cellsAt h p n = some cs) : cellsAt h' p n = some cs := by
  cases p <;> simp only [cellsAt] at hc ⊢ <;> first
    | exact hc
    | (rename_i i _ _; rcases hm i with e | ⟨e1, e2⟩
       · revert hc e; cases h.H i <;> simp [Blk.alive]
       · rw [← e1, ← e2]; exact hc)
    | (rename_i i _ _ _ _; rcases hm i with e | ⟨e1, e2⟩
       · revert hc e; cases h.H i <;> simp [Blk.alive]
       · rw [← e1, ← e2]; exact hc)

theorem loadP_mono {C t p y} (hc : loadP C h t p = some y) : loadP C h' t p = some y := by
  unfold loadP at hc ⊢
  split at hc <;> try (cases hc; done)
  split at hc <;> try (cases hc; done)
  rename_i cs hcs
  rw [cellsAt_mono hm hcs]
  exact hc

theorem storeP_mono {C t p x u} (hc : storeP C h t p x = some u) : storeP C h' t p x = some u := by
  unfold storeP at hc ⊢
  split at hc <;> try (cases hc; done)
  split at hc <;> try (cases hc; done)
  rename_i hl
  rw [if_pos hl]
  cases p <;> simp only at hc ⊢ <;> first
    | exact hc
    | (rename_i i _ _; rcases hm i with e | ⟨e1, e2⟩
       · revert hc e; cases h.H i <;> simp [Blk.alive]
       · rw [← e1, ← e2]; exact hc)
    | (rename_i i _ _ _ _; rcases hm i with e | ⟨e1, e2⟩
       · revert hc e; cases h.H i <;> simp [Blk.alive]
       · rw [← e1, ← e2]; exact hc)

theorem elemsP_mono {b s x es} (hc : elemsP h b s x = some es) : elemsP h' b s x = some es := by
  unfold elemsP at hc ⊢
  split at hc
  · exact hc
  · rename_i i _ _ _ _
    try dsimp only
    split at hc
    · rename_i h0; rw [if_pos h0]; exact hc
    · rename_i h0; rw [if_neg h0]
      rcases hm i with e | ⟨e1, e2⟩
      · revert hc e; cases h.H i <;> simp [Blk.alive]
      · rw [← e1, ← e2]; exact hc
  · rename_i i _ _ _ _
    try dsimp only
    split at hc
    · rename_i h0; rw [if_pos h0]; exact hc
    · rename_i h0; rw [if_neg h0]
      rcases hm i with e | ⟨e1, e2⟩
      · revert hc e; cases h.H i <;> simp [Blk.alive]
      · rw [← e1, ← e2]; exact hc
  · exact hc
  · exact hc
  · cases hc

theorem mapLen_mono {i g n : Nat} (hc : (if g = h.G i then (match h.H i with | .map ks _ | .fzmap ks _ => some ks.length | _ => none) else none) = some n) :
    (if g = h'.G i then (match h'.H i with | .map ks _ | .fzmap ks _ => some ks.length | _ => none) else none) = some n := by
  rcases hm i with e | ⟨e1, e2⟩
  · revert hc e; cases h.H i <;> simp [Blk.alive]
  · rw [← e1, ← e2]; exact hc

theorem lenP_mono {C t x n} (hc : lenP C h t x = some n) : lenP C h' t x = some n := by
  unfold lenP at hc ⊢
  split at hc <;> first
    | cases hc; done
    | exact mapLen_mono hm hc
    | simpa only using hc

theorem indexAddrP_mono {C t x ix y} (hc : indexAddrP C h t x ix = some y) : indexAddrP C h' t x ix = some y := by
  unfold indexAddrP at hc ⊢
  split at hc <;> try (cases hc; done)
  split at hc <;> try (cases hc; done)
  · exact hc
  · split at hc <;> try (cases hc; done)
    split at hc
    · exact hc
    · split at hc <;> try (cases hc; done)
      rename_i hcond
      obtain ⟨k1, k2, k3, k4, k5⟩ := hcond
      obtain ⟨e1, e2⟩ := hm.at k5
      try dsimp only
      rw [if_pos ⟨k1, k2, k3, by rw [e1]; exact k4, by rw [e2]; exact k5⟩]
      exact hc
    · split at hc <;> try (cases hc; done)
      rename_i hcond
      obtain ⟨k1, k2, k3, k4, k5⟩ := hcond
      obtain ⟨e1, e2⟩ := hm.at k5
      try dsimp only
      rw [if_pos ⟨k1, k2, k3, by rw [e1]; exact k4, by rw [e2]; exact k5⟩]
      exact hc
    · cases hc

theorem found_mono {m : PV} {q : List Value × List PV} (hc : foundP h m = some q) : foundP h' m = some q := by
  unfold foundP at hc ⊢
  split at hc
  · exact hc
  · rename_i i g
    try dsimp only
    rcases hm i with e | ⟨e1, e2⟩
    · revert hc e; cases h.H i <;> simp [Blk.alive]
    · rw [← e1, ← e2]; exact hc
  · exact hc
  · cases hc

theorem lookupP_mono {C t m k ok r} (hc : lookupP C h t m k ok = some r) : lookupP C h' t m k ok = some r := by
  unfold lookupP at hc ⊢
  split at hc <;> try (cases hc; done)
  split at hc <;> try (cases hc; done)
  rename_i hk
  rw [if_pos hk]
  split at hc <;> try (cases hc; done)
  rename_i ks vs hf
  rw [found_mono hm hf]
  exact hc

theorem mapUpdP_mono {C t m k x u} (hc : mapUpdP C h t m k x = some u) : mapUpdP C h' t m k x = some u := by
  unfold mapUpdP at hc ⊢
  split at hc <;> try (cases hc; done)
  rename_i i g _
  try dsimp only
  rcases hm i with e | ⟨e1, e2⟩
  · revert hc e; cases h.H i <;> simp [Blk.alive]
  · rw [← e1, ← e2]; exact hc

theorem sliceP_mono {C id g t x lo hi mx r} (hc : sliceP C h id g t x lo hi mx = some r) : sliceP C h' id g t x lo hi mx = some r := by
  unfold sliceP at hc ⊢
  split at hc
  · exact hc
  · split at hc
    · exact hc
    · exact hc
    · split at hc <;> try (cases hc; done)
      split at hc <;> try (cases hc; done)
      rename_i hcond
      obtain ⟨k1, k2, k3, k4, k5⟩ := hcond
      obtain ⟨e1, e2⟩ := hm.at k5
      try dsimp only
      rw [if_pos ⟨k1, k2, k3, by rw [e1]; exact k4, by rw [e2]; exact k5⟩]
      exact hc
    · split at hc <;> try (cases hc; done)
      split at hc <;> try (cases hc; done)
      rename_i hcond
      obtain ⟨k1, k2, k3, k4, k5⟩ := hcond
      obtain ⟨e1, e2⟩ := hm.at k5
      try dsimp only
      rw [if_pos ⟨k1, k2, k3, by rw [e1]; exact k4, by rw [e2]; exact k5⟩]
      exact hc
    · exact hc
    · exact hc
    · cases hc

theorem appendP_mono {C id t ty x y r} (hG : h.G id = h'.G id) (hc : appendP C h id t ty x y = some r) : appendP C h' id t ty x y = some r := by
  unfold appendP at hc ⊢
  split at hc <;> try (cases hc; done)
  split at hc <;> try (cases hc; done)
  split at hc <;> try (cases hc; done)
  rename_i ns hns
  try dsimp only
  rw [elemsP_mono hm hns]
  split at hc
  · try dsimp only
    rw [← hG]; exact hc
  · rename_i i g len s
    try dsimp only
    rcases hm i with e | ⟨e1, e2⟩
    · revert hc e; cases h.H i <;> simp [Blk.alive]
    · have hu : (upd h'.G i g) id = (upd h.G i g) id := by rw [upd_at, upd_at]; split; rfl; exact hG.symm
      rw [← e1, ← e2, hu]; exact hc
  · cases hc

theorem copyP_mono {C t x y r} (hc : copyP C h t x y = some r) : copyP C h' t x y = some r := by
  unfold copyP at hc ⊢
  split at hc <;> try (cases hc; done)
  split at hc <;> try (cases hc; done)
  split at hc <;> try (cases hc; done)
  rename_i ns hns
  try dsimp only
  rw [elemsP_mono hm hns]
  split at hc
  · exact hc
  · rename_i i g lo len s
    try dsimp only
    rcases hm i with e | ⟨e1, e2⟩
    · revert hc e; cases h.H i <;> simp [Blk.alive]
    · rw [← e1, ← e2]; exact hc
  · rename_i i g lo len s
    try dsimp only
    rcases hm i with e | ⟨e1, e2⟩
    · revert hc e; cases h.H i <;> simp [Blk.alive]
    · rw [← e1, ← e2]; exact hc
  · cases hc

theorem convP_mono {C id g src dst x r} (hc : convP C h id g src dst x = some r) : convP C h' id g src dst x = some r := by
  unfold convP at hc ⊢
  split at hc
  · exact hc
  · exact hc
  · exact hc
  · split at hc <;> try (cases hc; done)
    split at hc <;> try (cases hc; done)
    rename_i h1
    split at hc <;> try (cases hc; done)
    rename_i es hes
    try dsimp only
    simp only [*]
    rw [if_pos trivial, elemsP_mono hm hes]
    exact hc
  · cases hc

mutual
theorem reify_mono : ∀ {p q}, reify h p = some q → reify h' p = some q ∧ ∀ k ∈ refs p, (h.H k).alive = true
  | .v _, q, hq => ⟨hq, by simp [refs]⟩
  | .agg cs, q, hq => by
    simp only [reify] at hq ⊢
    split at hq <;> try (cases hq; done)
    rename_i ds hds
    obtain ⟨k1, k2⟩ := reifyL_mono hds
    rw [k1]; exact ⟨hq, k2⟩
  | .tuple cs, q, hq => by
    simp only [reify] at hq ⊢
    split at hq <;> try (cases hq; done)
    rename_i ds hds
    obtain ⟨k1, k2⟩ := reifyL_mono hds
    rw [k1]; exact ⟨hq, k2⟩
  | .func fn fs cs, q, hq => by
    simp only [reify] at hq ⊢
    split at hq <;> try (cases hq; done)
    rename_i ds es hds hes
    obtain ⟨k1, k2⟩ := reifyL_mono hds
    obtain ⟨k3, k4⟩ := reifyL_mono hes
    rw [k1, k3]
    refine ⟨hq, fun k hk => ?_⟩
    simp only [refs, List.mem_append] at hk
    exact hk.elim (k2 k) (k4 k)
  | .iface t x, q, hq => by
    simp only [reify] at hq ⊢
    split at hq <;> try (cases hq; done)
    rename_i y hy
    obtain ⟨k1, k2⟩ := reify_mono hy
    rw [k1]; exact ⟨hq, k2⟩
  | .lst _, q, hq => ⟨hq, by simp [refs]⟩
  | .lptr _, q, hq => ⟨hq, by simp [refs]⟩
  | .fmap _ _, q, hq => ⟨hq, by simp [refs]⟩
  | .row i g lo len s, q, hq => by
    simp only [reify] at hq ⊢
    have ha : (h.H i).alive = true := by revert hq; cases h.H i <;> simp [Blk.alive]
    obtain ⟨e1, e2⟩ := hm.at ha
    rw [e1, e2]; exact ⟨hq, by simp [refs, ha]⟩
  | .asl i g lo len s, q, hq => by
    simp only [reify] at hq ⊢
    have ha : (h.H i).alive = true := by revert hq; cases h.H i <;> simp [Blk.alive]
    obtain ⟨e1, e2⟩ := hm.at ha
    rw [e1, e2]; exact ⟨hq, by simp [refs, ha]⟩
  | .ptr i g off, q, hq => by
    simp only [reify] at hq ⊢
    have ha : (h.H i).alive = true := by revert hq; cases h.H i <;> simp [Blk.alive]
    obtain ⟨e1, e2⟩ := hm.at ha
    rw [e1, e2]; exact ⟨hq, by simp [refs, ha]⟩
  | .map i g, q, hq => by
    simp only [reify] at hq ⊢
    have ha : (h.H i).alive = true := by revert hq; cases h.H i <;> simp [Blk.alive]
    obtain ⟨e1, e2⟩ := hm.at ha
    rw [e1, e2]; exact ⟨hq, by simp [refs, ha]⟩
  | .rptr _ _ _ _ _, q, hq => by simp only [reify] at hq; cases hq
  | .dead, q, hq => by simp only [reify] at hq; cases hq
theorem reifyL_mono : ∀ {ps qs}, reifyL h ps = some qs → reifyL h' ps = some qs ∧ ∀ k ∈ refsL ps, (h.H k).alive = true
  | [], qs, hq => ⟨hq, by simp [refsL]⟩
  | p :: ps, qs, hq => by
    simp only [reifyL] at hq ⊢
    split at hq <;> try (cases hq; done)
    rename_i q qs' e1 e2
    obtain ⟨k1, k2⟩ := reify_mono e1
    obtain ⟨k3, k4⟩ := reifyL_mono e2
    rw [k1, k3]
    refine ⟨hq, fun k hk => ?_⟩
    simp only [refsL, List.mem_append] at hk
    exact hk.elim (k2 k) (k4 k)
end

theorem frzUps_mono : ∀ {ids : List Nat}, (∀ k ∈ ids, (h.H k).alive = true) → frzUps h' ids = frzUps h ids
  | [], _ => rfl
  | k :: ids, ha => by
    obtain ⟨e1, e2⟩ := hm.at (ha k (by simp))
    simp only [frzUps, e1, e2, frzUps_mono (ids := ids) (fun j hj => ha j (by simp [hj]))]
end

mutual
theorem reloc_congr {base n : Nat} {G G' : Nat → Nat} (hG : ∀ k, k < n → G (base + k) = G' (base + k)) : ∀ p, reloc base n G p = reloc base n G' p
  | .v _ => rfl
  | .agg cs => by simp only [reloc, relocL_congr hG cs]
  | .tuple cs => by simp only [reloc, relocL_congr hG cs]
  | .func _ fs cs => by simp only [reloc, relocL_congr hG fs, relocL_congr hG cs]
  | .iface _ x => by simp only [reloc, reloc_congr hG x]
  | .lst _ => rfl
  | .lptr _ => rfl
  | .fmap _ _ => rfl
  | .row k g lo len s => by
    simp only [reloc]
    split
    · rename_i hk; rw [hG k hk.2]
    · rfl
  | .asl _ _ _ _ _ => rfl
  | .ptr _ _ _ => rfl
  | .map _ _ => rfl
  | .yld _ _ => rfl
  | .rptr _ _ _ _ _ => rfl
  | .dead => rfl
theorem relocL_congr {base n : Nat} {G G' : Nat → Nat} (hG : ∀ k, k < n → G (base + k) = G' (base + k)) : ∀ ps, relocL base n G ps = relocL base n G' ps
  | [] => rfl
  | p :: ps => by simp only [relocL, reloc_congr hG p, relocL_congr hG ps]
end

theorem resUps_congr {G G' : Nat → Nat} : ∀ (RH : List (Nat × List PV)) (base : Nat), (∀ k, k < RH.length → G (base + k) = G' (base + k)) → resUps base G RH = resUps base G' RH
  | [], _, _ => rfl
  | (s, es) :: RH, base, hG => by
    have h0 : G base = G' base := by have := hG 0 (by simp); simpa using this
    have h1 : ∀ k, k < RH.length → G (base + 1 + k) = G' (base + 1 + k) := fun k hk => by
      have := hG (k + 1) (by simpa using hk)
      rwa [Nat.add_assoc, Nat.add_comm 1 k]
    simp only [resUps, h0, resUps_congr RH (base + 1) h1]

theorem resUps_len : ∀ (RH : List (Nat × List PV)) (base : Nat) (G : Nat → Nat), (resUps base G RH).length = RH.length
  | [], _, _ => rfl
  | (s, es) :: RH, base, G => by simp [resUps, resUps_len RH]

theorem callP_mono {cal : Cal} {h h' : Hp} (hm : Le h h') {base f as r} {ups : Ups} (hc : callP cal h base f as = some (r, ups)) (hG : ∀ k, k < ups.length → h.G (base + k) = h'.G (base + k)) : callP cal h' base f as = some (r, ups) := by
  unfold callP at hc ⊢
  split at hc <;> try (cases hc; done)
  rename_i cargs hre
  obtain ⟨k1, k2⟩ := reifyL_mono hm hre
  rw [k1]
  try dsimp only
  split at hc <;> try (cases hc; done)
  rename_i res hres
  try rw [hres]
  try dsimp only
  split at hc <;> try (cases hc; done)
  rename_i r0 hrl
  have hlen : res.2.length ≤ ups.length := by
    split at hc <;> cases hc
    · rw [resUps_len]; exact Nat.le_refl _
    · rw [List.length_append, resUps_len]; omega
  have hG' : ∀ k, k < res.2.length → h.G (base + k) = h'.G (base + k) := fun k hk => hG k (by omega)
  rw [← reloc_congr hG' res.1, hrl, frzUps_mono hm k2, ← resUps_congr res.2 base hG']
  exact hc

theorem evalOp_congr {C : Ctx} {dp : Nat} {o : Oper} {t t' : Nat → PV} {h : Hp} (ht : ∀ x ∈ o.op.operands, opd t x = opd t' x) : evalOp C dp o ⟨t, h⟩ = evalOp C dp o ⟨t', h⟩ := by
  obtain ⟨dst, op, type, pos, after, guard⟩ := o
  have pairs : ∀ ps : Array (Nat × Operand), (∀ x ∈ (ps.toList.map (·.2)).toArray, opd t x = opd t' x) → (ps.toList.map fun (i, x) => (i, opd t x)) = (ps.toList.map fun (i, x) => (i, opd t' x)) := fun ps hp =>
    List.map_congr_left fun p hm => by
      obtain ⟨i, x⟩ := p
      simp only [hp x (by simp; exact ⟨i, by simpa using hm⟩)]
  cases op <;> simp only [Op.operands] at ht <;> (try simp only [evalOp]) <;> try rfl
  case build ty ps => rw [pairs ps ht]
  case buildSlice ty len ps => rw [pairs ps ht]
  case makeMap ty r => cases r <;> rfl
  case slice ty x lo hi mx =>
    have e1 : opd t x = opd t' x := ht x (by simp)
    have e2 : lo.map (opd t) = lo.map (opd t') := by cases lo <;> simp_all
    have e3 : hi.map (opd t) = hi.map (opd t') := by cases hi <;> simp_all
    have e4 : mx.map (opd t) = mx.map (opd t') := by cases mx <;> simp_all
    rw [e1, e2, e3, e4]
  case call c =>
    obtain ⟨callee, args, argTypes⟩ := c
    cases callee with
    | value f => rfl
    | invoke f m => rfl
    | builtin b =>
      have ha : ∀ x ∈ args.toList, opd t x = opd t' x := fun x hx => ht x (by simp [Call.operands]; simpa using hx)
      cases b <;> try rfl
      all_goals
        dsimp only
        generalize args.toList = l at ha
        split <;> first
          | rfl
          | (simp only [List.mem_cons, List.not_mem_nil, or_false, forall_eq_or_imp, forall_eq] at ha; simp only [ha]; done)
  all_goals (simp_all; done)
end Go.Ev
end

section
/- Regions that draw their order: every order comes to what the text's order does. -/
set_option linter.unusedVariables false
set_option linter.unusedSimpArgs false
namespace Go.Ev
open Go

theorem evalOp_mono {C : Ctx} {dp : Nat} {o : Oper} {t : Nat → PV} {h h' : Hp} (hm : Le h h') (hG : h.G (idOf dp (o.dst.getD 99999) 0) = h'.G (idOf dp (o.dst.getD 99999) 0)) {res : PV × Ups} (hc : evalOp C dp o ⟨t, h⟩ = some res) : evalOp C dp o ⟨t, h'⟩ = some res := by
  obtain ⟨dst, op, type, pos, after, guard⟩ := o
  have only : ∀ {x y : Option PV}, (match x with | some y => some (y, ([] : Ups)) | none => none) = some res → (∀ z, x = some z → y = some z) → (match y with | some y => some (y, ([] : Ups)) | none => none) = some res := by
    intro x y hx hy
    cases x with
    | none => cases hx
    | some z => rw [hy z rfl]; exact hx
  have unit : ∀ {x y : Option Ups}, (match x with | some y => some (PV.dead, y) | none => none) = some res → (∀ z, x = some z → y = some z) → (match y with | some y => some (PV.dead, y) | none => none) = some res := by
    intro x y hx hy
    cases x with
    | none => cases hx
    | some z => rw [hy z rfl]; exact hx
  cases op <;> (try (simp only [evalOp] at hc ⊢)) <;> (try (first | exact hc | (rw [← hG]; exact hc)))
  case load ty x => exact only hc (fun z hz => loadP_mono hm hz)
  case store ty x y => exact unit hc (fun z hz => storeP_mono hm hz)
  case indexAddr ty x y => exact only hc (fun z hz => indexAddrP_mono hm hz)
  case lookup ty x y ok => exact only hc (fun z hz => lookupP_mono hm hz)
  case mapUpdate ty x y z => exact unit hc (fun z hz => mapUpdP_mono hm hz)
  case insert ty x y z => exact unit hc (fun z hz => mapUpdP_mono hm hz)
  case slice ty x lo hi mx => rw [← hG]; exact sliceP_mono hm hc
  case convert src dst x => rw [← hG]; exact convP_mono hm hc
  case makeMap ty r =>
    cases r with
    | none => dsimp only at hc ⊢; rw [← hG]; exact hc
    | some x => exact hc
  case call c =>
    obtain ⟨callee, args, argTypes⟩ := c
    cases callee with
    | value f => exact hc
    | invoke f m => exact hc
    | builtin b =>
      cases b <;> try exact hc
      all_goals
        dsimp only at hc ⊢
        split at hc <;> try (cases hc; done)
      all_goals first
        | exact appendP_mono hm hG hc
        | exact copyP_mono hm hc
        | (split at hc <;> try (cases hc; done)
           rename_i n hn
           rw [lenP_mono hm hn]; exact hc)
        | exact hc

/-! ### A region's operations by class -/
/-- 0: hangs on no memory; 1: reads; 2: changes memory, or calls (whatever has ups). 3: not taken. -/
def clsOf (o : Oper) : Nat :=
  match o.op with
  | .move _ | .assign _ | .pick _ _ _ | .alloc _ | .box _ _ | .build _ _ | .buildSlice _ _ _ | .nilCheck _ | .binOp _ _ _ _ _ | .unOp _ _ _ | .makeInterface _ _ | .makeFunc _ _ _
  | .makeMap _ _ | .makeSlice _ _ _ | .fieldAddr _ _ _ | .index _ _ _ | .extract _ _ => 0
  | .load _ _ | .indexAddr _ _ _ | .slice _ _ _ _ _ | .lookup _ _ _ _ | .convert _ _ _ => 1
  | .call { callee := .builtin .len, .. } | .call { callee := .builtin .min, .. } | .call { callee := .builtin .max, .. } => 1
  | .call { callee := .builtin .append, .. } | .call { callee := .builtin .copy, .. } | .store _ _ _ | .mapUpdate _ _ _ _ | .insert _ _ _ _ => 2
  | .call { callee := .value _, .. } => 1
  | _ => 3

/-- One operation, no call of a Go function but by its contract. -/
def upsOp (C : Ctx) (cal : Cal) (dp : Nat) (o : Oper) (st : St) : Option (PV × Ups) :=
  match o.op with
  | .call { callee := .value f, args, .. } =>
    match opd st.t f with
    | .func (.func fid) fs cs =>
      if C.callable fid then
        match C.isp fid with
        | some Fn => Fn (idOf dp (o.dst.getD 99999) 0) (fs ++ (args.toList.map (opd st.t) ++ cs)) st.h
        | none => if C.inl fid then none else callP cal st.h (idOf dp (o.dst.getD 99999) 0) fid (fs ++ (args.toList.map (opd st.t) ++ cs))
      else none
    | _ => none
  | _ => evalOp C dp o st

theorem upsOp_step {C : Ctx} {cal : Cal} {inl : Inl} {yl : Yl} {dp : Nat} {o : Oper} {st : St} {r : PV} {ups : Ups} (h : upsOp C cal dp o st = some (r, ups)) : stepOp C cal inl yl dp o st = some (r, st.h.app ups) := by
  unfold upsOp at h
  unfold stepOp
  split at h
  · rename_i f args argTypes hop
    simp only [hop]
    split at h <;> try (cases h; done)
    rename_i fid fs cs hf
    simp only [hf]
    split at h <;> try (cases h; done)
    rename_i hcal
    rw [if_pos hcal]
    split at h
    · rename_i Fn hfn
      simp only [hfn, h]
    · rename_i hfn
      split at h <;> try (cases h; done)
      rename_i hi
      simp only [hfn]
      rw [if_neg hi, h]
  · rename_i hne
    split
    · rename_i f args argTypes hop
      exact (hne f args argTypes hop).elim
    · rw [h]

theorem upsOp_congr {C : Ctx} {cal : Cal} {dp : Nat} {o : Oper} {t t' : Nat → PV} {h : Hp} (ht : ∀ x ∈ o.op.operands, opd t x = opd t' x) : upsOp C cal dp o ⟨t, h⟩ = upsOp C cal dp o ⟨t', h⟩ := by
  unfold upsOp
  split
  · rename_i f args argTypes hop
    rw [hop] at ht
    have e1 : opd t f = opd t' f := ht f (by simp [Op.operands, Call.operands])
    have e2 : args.toList.map (opd t) = args.toList.map (opd t') := List.map_congr_left (fun x hx => ht x (by simp [Op.operands, Call.operands]; right; simpa using hx))
    simp only [e1, e2]
  · exact evalOp_congr ht

/-- The blocks that an operation may make. -/
def ownOf (dp : Nat) (o : Oper) (k : Nat) : Prop := idOf dp (o.dst.getD 99999) 0 ≤ k ∧ k < idOf dp (o.dst.getD 99999) 0 + 100

instance (dp : Nat) (o : Oper) (k : Nat) : Decidable (ownOf dp o k) := inferInstanceAs (Decidable (_ ∧ _))

theorem upsOp_mono {C : Ctx} (ht : TablesOk C) {cal : Cal} {dp : Nat} {o : Oper} {t : Nat → PV} {h h' : Hp} (hm : Le h h') (hG : ∀ k, ownOf dp o k → h.G k = h'.G k) {r : PV} {ups : Ups} (hl : ups.length ≤ 100) (hc : upsOp C cal dp o ⟨t, h⟩ = some (r, ups)) : upsOp C cal dp o ⟨t, h'⟩ = some (r, ups) := by
  unfold upsOp at hc ⊢
  split at hc
  · rename_i f args argTypes hop
    split at hc <;> try (cases hc; done)
    rename_i fid fs cs hf
    simp only [hf]
    split at hc <;> try (cases hc; done)
    rename_i hcal
    rw [if_pos hcal]
    split at hc
    · rename_i Fn hfn
      exact (ht.isp fid Fn hfn).mono _ _ _ _ _ _ hm (fun k h1 h2 => hG k ⟨h1, h2⟩) hc
    · split at hc <;> try (cases hc; done)
      rename_i hi
      rw [if_neg hi]
      exact callP_mono hm hc (fun k hk => hG _ ⟨by omega, by omega⟩)
  · exact evalOp_mono hm (hG _ ⟨Nat.le_refl _, by omega⟩) hc
end Go.Ev
end

section
/- Regions that draw their order: what the evaluator does, and what it checks. -/
set_option linter.unusedVariables false
set_option linter.unusedSimpArgs false
namespace Go.Ev
open Go

structure Rec where
  o : Oper
  r : PV
  ups : Ups
  m : Nat
  rd : List Nat

def setT (d : Option Nat) (v : PV) (t : Nat → PV) : Nat → PV := match d with | some d => upd t d v | none => t
theorem setT_other {d : Option Nat} {v : PV} {t : Nat → PV} {x : Nat} (h : d ≠ some x) : setT d v t x = t x := by
  cases d with
  | none => rfl
  | some d => exact upd_other _ _ (fun e => h (by rw [e]))
theorem setT_same {v : PV} {t : Nat → PV} {x : Nat} : setT (some x) v t x = v := upd_same _ _ _

/-- Before which operations: a set of numbers, as bits. -/
def maskOf (done : List Nat) (es : List Edge) : Nat := es.foldl (fun s e => if Region.binds .any e then s ||| (2 ^ e.on) ||| done.getD e.on 0 else s) 0
def masks : List Oper → List Nat → List Nat
  | [], done => done
  | o :: os, done => masks os (done ++ [maskOf done o.after.toList])

def hF (sel : Nat → Bool) : Nat → List Rec → Hp → Hp
  | _, [], h => h
  | k, r :: rs, h => hF sel (k + 1) rs (if sel k then h.app r.ups else h)
def tF (sel : Nat → Bool) : Nat → List Rec → (Nat → PV) → (Nat → PV)
  | _, [], t => t
  | k, r :: rs, t => tF sel (k + 1) rs (if sel k then setT r.o.dst r.r t else t)

/-- The blocks that an operation may look into. -/
def readsOf : PV → List Nat
  | .rptr i _ _ _ _ => [i]
  | p => refs p
def reads (o : Oper) (t : Nat → PV) : List Nat := if clsOf o = 0 then [] else o.op.operands.toList.flatMap (fun x => readsOf (opd t x))

/-- And what lies behind these blocks. -/
def deeper (h : Hp) (l : List Nat) : List Nat := l ++ l.flatMap (fun i => match h.H i with | .var cs | .fvar cs => refsL cs | .bld _ (some (j, _)) => [j] | _ => [])
def readsH (o : Oper) (t : Nat → PV) (h : Hp) : List Nat :=
  match o.op with
  | .call { callee := .value _, .. } => deeper h (deeper h (reads o t))
  | _ => reads o t

/-- Nothing is there but these blocks. -/
def restr (rd : List Nat) (h : Hp) : Hp := ⟨h.G, fun k => if rd.contains k then h.H k else .dead⟩

/-- Do these changes touch what an operation hangs on, or changes? -/
def hits (dp : Nat) (r : Rec) (u : Ups) : Bool := u.any (fun e => decide (ownOf dp r.o e.1) || r.rd.contains e.1 || r.ups.any (fun f => f.1 == e.1))

/-- The pairs j < i that must be ordered, are. -/
def pairOk (dp : Nat) (ops : Array Oper) (j : Nat) (rj ri : Rec) : Bool :=
  ri.m.testBit j || (Oper.apart ops rj.o ri.o && !hits dp ri rj.ups && !hits dp rj ri.ups)
def pairsOk (dp : Nat) (ops : Array Oper) (ri : Rec) : Nat → List Rec → Bool
  | _, [] => true
  | j, rj :: rs => pairOk dp ops j rj ri && pairsOk dp ops ri (j + 1) rs

def recOk (sz : Nat) (r : Rec) : Bool :=
  (match r.o.dst with | some d => decide (d < sz) | none => true) && decide (r.ups.length ≤ 100)

def drawGo (C : Ctx) (cal : Cal) (dp sz : Nat) (ops : Array Oper) (t0 : Nat → PV) (h0 : Hp) : List (Oper × Nat) → List Rec → Option (List Rec)
  | [], recs => some recs
  | (o, m) :: os, recs =>
    match wantedP ops o (tF (fun _ => true) 0 recs t0) with
    | some true =>
      match upsOp C cal dp o ⟨tF (fun _ => true) 0 recs t0, restr (readsH o (tF (fun _ => true) 0 recs t0) (hF (fun j => m.testBit j) 0 recs h0)) (hF (fun j => m.testBit j) 0 recs h0)⟩ with
      | some (r, ups) =>
        if recOk sz ⟨o, r, ups, m, readsH o (tF (fun _ => true) 0 recs t0) (hF (fun j => m.testBit j) 0 recs h0)⟩ && pairsOk dp ops ⟨o, r, ups, m, readsH o (tF (fun _ => true) 0 recs t0) (hF (fun j => m.testBit j) 0 recs h0)⟩ 0 recs then drawGo C cal dp sz ops t0 h0 os (recs ++ [⟨o, r, ups, m, readsH o (tF (fun _ => true) 0 recs t0) (hF (fun j => m.testBit j) 0 recs h0)⟩]) else none
      | none => none
    | some false =>
      if recOk sz ⟨o, .tuple [], [], m, []⟩ && pairsOk dp ops ⟨o, .tuple [], [], m, []⟩ 0 recs then drawGo C cal dp sz ops t0 h0 os (recs ++ [⟨o, .tuple [], [], m, []⟩]) else none
    | none => none

def edgesOk : Nat → List Oper → Bool
  | _, [] => true
  | i, o :: os => o.after.toList.all (fun e => !Region.binds .any e || decide (e.on < i)) && edgesOk (i + 1) os

def evalDraw (C : Ctx) (cal : Cal) (dp sz : Nat) (ops : Array Oper) (st : St) : Option St :=
  if edgesOk 0 ops.toList then
    match drawGo C cal dp sz ops st.t st.h (ops.toList.zip (masks ops.toList [])) [] with
    | some recs => some ⟨tF (fun _ => true) 0 recs st.t, hF (fun _ => true) 0 recs st.h⟩
    | none => none
  else none

/-! ### Lists of changes -/
def Touch (u : Ups) (k : Nat) : Prop := ∃ e ∈ u, e.1 = k

theorem app_untouched : ∀ {u : Ups} {h : Hp} {k : Nat}, ¬ Touch u k → (h.app u).G k = h.G k ∧ (h.app u).H k = h.H k
  | [], h, k, _ => ⟨rfl, rfl⟩
  | (i, g, b) :: u, h, k, hn => by
    have h1 : k ≠ i := fun e => hn ⟨(i, g, b), by simp, e.symm⟩
    obtain ⟨a1, a2⟩ := app_untouched (u := u) (h := ⟨upd h.G i g, upd h.H i b⟩) (k := k) (fun ⟨e, he, hk⟩ => hn ⟨e, by simp [he], hk⟩)
    exact ⟨a1.trans (upd_other _ _ h1), a2.trans (upd_other _ _ h1)⟩

theorem app_at : ∀ {u : Ups} {h h' : Hp} {k : Nat}, (h.G k = h'.G k ∧ h.H k = h'.H k) ∨ Touch u k → (h.app u).G k = (h'.app u).G k ∧ (h.app u).H k = (h'.app u).H k
  | [], h, h', k, hn => by
    rcases hn with hn | ⟨e, he, _⟩
    · exact hn
    · simp at he
  | (i, g, b) :: u, h, h', k, hn => by
    refine app_at (u := u) (h := ⟨upd h.G i g, upd h.H i b⟩) (h' := ⟨upd h'.G i g, upd h'.H i b⟩) ?_
    by_cases e : k = i
    · subst e; exact .inl ⟨by simp [upd_same], by simp [upd_same]⟩
    · rcases hn with hn | ⟨x, hx, hk⟩
      · exact .inl ⟨by simp [upd_other _ _ e, hn.1], by simp [upd_other _ _ e, hn.2]⟩
      · rcases List.mem_cons.1 hx with rfl | hx
        · exact (e hk.symm).elim
        · exact .inr ⟨x, hx, hk⟩

/-- At a place whose changes are chosen alike, two choices come to the same. -/
theorem hF_at {sel sel' : Nat → Bool} {k : Nat} : ∀ {rs : List Rec} {q : Nat} {h h' : Hp}, (h.G k = h'.G k ∧ h.H k = h'.H k) → (∀ (j : Nat) r, rs[j]? = some r → Touch r.ups k → sel (q + j) = sel' (q + j)) →
    (hF sel q rs h).G k = (hF sel' q rs h').G k ∧ (hF sel q rs h).H k = (hF sel' q rs h').H k
  | [], q, h, h', hh, _ => hh
  | r :: rs, q, h, h', hh, hs => by
    refine hF_at (rs := rs) (q := q + 1) ?_ (fun j r' hr ht => by have := hs (j + 1) r' (by simpa using hr) ht; rwa [show q + (j + 1) = q + 1 + j by omega] at this)
    by_cases ht : Touch r.ups k
    · have := hs 0 r (by simp) ht
      rw [Nat.add_zero] at this
      rw [this]
      split
      · exact app_at (.inr ht)
      · exact hh
    · have a1 := app_untouched (h := h) ht
      have a2 := app_untouched (h := h') ht
      split <;> split <;> simp only [a1, a2, hh, and_self]

theorem tF_at {sel sel' : Nat → Bool} {x : Nat} : ∀ {rs : List Rec} {q : Nat} {t t' : Nat → PV}, t x = t' x → (∀ (j : Nat) r, rs[j]? = some r → r.o.dst = some x → sel (q + j) = sel' (q + j)) → tF sel q rs t x = tF sel' q rs t' x
  | [], q, t, t', hh, _ => hh
  | r :: rs, q, t, t', hh, hs => by
    refine tF_at (rs := rs) (q := q + 1) ?_ (fun j r' hr ht => by have := hs (j + 1) r' (by simpa using hr) ht; rwa [show q + (j + 1) = q + 1 + j by omega] at this)
    by_cases e : r.o.dst = some x
    · have := hs 0 r (by simp) e
      rw [Nat.add_zero] at this
      rw [this, e]
      split
      · simp only [setT_same]
      · exact hh
    · split <;> split <;> simp only [setT_other e, hh]

/-- One more is chosen, and no later one that is chosen touches what it touches. -/
theorem hF_put {sel sel' : Nat → Bool} {k i : Nat} {u : Ups} : ∀ {rs : List Rec} {q : Nat} {h : Hp} {r : Rec}, rs[i]? = some r → r.ups = u → sel (q + i) = false → sel' (q + i) = true → (∀ j, j ≠ q + i → sel' j = sel j) → (∀ (j : Nat) r', rs[j]? = some r' → i < j → sel (q + j) = true → Touch r'.ups k → Touch u k → False) →
    (hF sel' q rs h).G k = ((hF sel q rs h).app u).G k ∧ (hF sel' q rs h).H k = ((hF sel q rs h).app u).H k := by
  intro rs q h r hi hu h1 h2 h3 h4
  by_cases ht : Touch u k
  · -- the last word is u's
    induction rs generalizing q h i with
    | nil => simp at hi
    | cons r0 rs ih =>
      cases i with
      | zero =>
        simp at hi; subst hi
        simp only [hF]
        rw [Nat.add_zero] at h1 h2
        rw [h1, h2, if_pos rfl, if_neg (by simp), hu]
        have e1 := hF_at (k := k) (sel := sel') (sel' := fun _ => false) (rs := rs) (q := q + 1) (h := h.app u) (h' := h.app u) ⟨rfl, rfl⟩ (fun j r' hr htr => by
          have hne : q + 1 + j ≠ q + 0 := by omega
          rw [h3 _ hne]
          cases hs : sel (q + 1 + j) with
          | false => rfl
          | true => exact (h4 (j + 1) r' (by simpa using hr) (by omega) (by rwa [show q + (j + 1) = q + 1 + j by omega]) htr ht).elim)
        have e2 : ∀ (rs : List Rec) (q : Nat) (h : Hp), hF (fun _ => false) q rs h = h := by
          intro rs; induction rs with
          | nil => intros; rfl
          | cons r rs ih => intro q h; simp only [hF]; exact ih _ _
        rw [e2] at e1
        have e3 := app_at (u := u) (h := h) (h' := hF sel (q + 1) rs h) (k := k) (.inr ht)
        exact ⟨e1.1.trans e3.1, e1.2.trans e3.2⟩
      | succ i =>
        simp only [hF]
        have hq : sel' q = sel q := h3 q (by omega)
        rw [hq]
        exact ih (i := i) (q := q + 1) (by simpa using hi) (by rwa [show q + 1 + i = q + (i + 1) by omega]) (by rwa [show q + 1 + i = q + (i + 1) by omega]) (fun j hj => h3 j (by omega)) (fun j r' hr hij hs => h4 (j + 1) r' (by simpa using hr) (by omega) (by rwa [show q + (j + 1) = q + 1 + j by omega]))
  · have a1 := app_untouched (h := hF sel q rs h) ht
    have e1 := hF_at (k := k) (sel := sel') (sel' := sel) (rs := rs) (q := q) (h := h) (h' := h) ⟨rfl, rfl⟩ (fun j r' hr htr => by
      by_cases e : j = i
      · subst e; rw [hi] at hr; cases hr; rw [hu] at htr; exact (ht htr).elim
      · exact h3 _ (by omega))
    exact ⟨e1.1.trans a1.1.symm, e1.2.trans a1.2.symm⟩

theorem tF_put {sel sel' : Nat → Bool} {x i : Nat} : ∀ {rs : List Rec} {q : Nat} {t : Nat → PV} {r : Rec}, rs[i]? = some r → sel (q + i) = false → sel' (q + i) = true → (∀ j, j ≠ q + i → sel' j = sel j) → (∀ (j : Nat) r', rs[j]? = some r' → i < j → sel (q + j) = true → r'.o.dst ≠ none → r'.o.dst ≠ r.o.dst) →
    tF sel' q rs t x = setT r.o.dst r.r (tF sel q rs t) x := by
  intro rs q t r hi h1 h2 h3 h4
  by_cases hx : r.o.dst = some x
  · rw [hx, setT_same]
    induction rs generalizing q t i with
    | nil => simp at hi
    | cons r0 rs ih =>
      cases i with
      | zero =>
        simp at hi; subst hi
        simp only [tF]
        rw [Nat.add_zero] at h2
        rw [h2, if_pos rfl, hx]
        have e2 : ∀ (rs : List Rec) (q : Nat) (t : Nat → PV), (∀ (j : Nat) r', rs[j]? = some r' → sel' (q + j) = true → r'.o.dst ≠ some x) → tF sel' q rs t x = t x := by
          intro rs; induction rs with
          | nil => intros; rfl
          | cons r rs ih =>
            intro q t hh
            simp only [tF]
            rw [ih _ _ (fun j r' hr hs => hh (j + 1) r' (by simpa using hr) (by rwa [show q + (j + 1) = q + 1 + j by omega]))]
            have := hh 0 r (by simp)
            rw [Nat.add_zero] at this
            split
            · rename_i hs; exact setT_other (this hs)
            · rfl
        rw [e2 rs (q + 1) _ (fun j r' hr hs hd => h4 (j + 1) r' (by simpa using hr) (by omega) (by rw [show q + (j + 1) = q + 1 + j by omega, ← h3 _ (by omega)]; exact hs) (by rw [hd]; simp) (by rw [hd, hx]))]
        exact setT_same
      | succ i =>
        simp only [tF]
        exact ih (i := i) (q := q + 1) (by simpa using hi) (by rwa [show q + 1 + i = q + (i + 1) by omega]) (by rwa [show q + 1 + i = q + (i + 1) by omega]) (fun j hj => h3 j (by omega)) (fun j r' hr hij hs => h4 (j + 1) r' (by simpa using hr) (by omega) (by rwa [show q + (j + 1) = q + 1 + j by omega]))
  · have e1 := tF_at (x := x) (sel := sel') (sel' := sel) (rs := rs) (q := q) (t := t) (t' := t) rfl (fun j r' hr hd => by
      by_cases e : j = i
      · subst e; rw [hi] at hr; cases hr; exact (hx hd).elim
      · exact h3 _ (by omega))
    rw [e1, setT_other hx]
end Go.Ev
end

section
/- Regions that draw their order: the laws of the recorded run. -/
set_option linter.unusedVariables false
set_option linter.unusedSimpArgs false
namespace Go.Ev
open Go

theorem masks_eq : ∀ (os : List Oper) (done : List Nat), ∃ rest, masks os done = done ++ rest ∧ rest.length = os.length ∧ ∀ (i : Nat) o, os[i]? = some o → rest[i]? = some (maskOf (done ++ rest.take i) o.after.toList)
  | [], done => ⟨[], by simp [masks], rfl, fun i o h => by simp at h⟩
  | o :: os, done => by
    obtain ⟨rest, h1, h2, h3⟩ := masks_eq os (done ++ [maskOf done o.after.toList])
    refine ⟨maskOf done o.after.toList :: rest, by simp [masks, h1], by simp [h2], fun i o' h => ?_⟩
    cases i with
    | zero => simp at h; subst h; simp
    | succ i => simp at h; simpa using h3 i o' h

theorem maskOf_bit {done : List Nat} {es : List Edge} {j : Nat} : (maskOf done es).testBit j = true ↔ ∃ e ∈ es, Region.binds .any e = true ∧ (j = e.on ∨ (done.getD e.on 0).testBit j = true) := by
  unfold maskOf
  have aux : ∀ (es : List Edge) (s : Nat), (es.foldl (fun s e => if Region.binds .any e then s ||| (2 ^ e.on) ||| done.getD e.on 0 else s) s).testBit j = true ↔ s.testBit j = true ∨ ∃ e ∈ es, Region.binds .any e = true ∧ (j = e.on ∨ (done.getD e.on 0).testBit j = true) := by
    intro es
    induction es with
    | nil => intro s; simp
    | cons e es ih =>
      intro s
      rw [List.foldl_cons, ih]
      by_cases hb : Region.binds .any e = true
      · rw [if_pos hb]
        simp only [Nat.testBit_or, Bool.or_eq_true, Nat.testBit_two_pow, decide_eq_true_eq, List.mem_cons, exists_eq_or_imp, hb, true_and]
        constructor
        · rintro (((h | h) | h) | h)
          · exact .inl h
          · exact .inr (.inl (.inl h.symm))
          · exact .inr (.inl (.inr h))
          · exact .inr (.inr h)
        · rintro (h | (h | h) | h)
          · exact .inl (.inl (.inl h))
          · exact .inl (.inl (.inr h.symm))
          · exact .inl (.inr h)
          · exact .inr h
      · rw [if_neg hb]
        simp [hb]
  rw [aux]
  simp

theorem edgesOk_at : ∀ {os : List Oper} {k i : Nat} {o : Oper}, edgesOk k os = true → os[i]? = some o → ∀ e ∈ o.after.toList, Region.binds .any e = true → e.on < k + i
  | [], k, i, o, _, h, _, _, _ => by simp at h
  | o' :: os, k, i, o, hk, h, e, he, hb => by
    simp only [edgesOk, Bool.and_eq_true, List.all_eq_true] at hk
    cases i with
    | zero =>
      simp at h; subst h
      have := hk.1 e he
      simp [hb] at this
      exact this
    | succ i =>
      have := edgesOk_at hk.2 (by simpa using h) e he hb
      omega

/-- What the recorded run knows of each of its operations. -/
structure Good (C : Ctx) (cal : Cal) (dp sz : Nat) (ops : Array Oper) (t0 : Nat → PV) (h0 : Hp) (pre : List Rec) (r : Rec) : Prop where
  run : ∃ b, wantedP ops r.o (tF (fun _ => true) 0 pre t0) = some b ∧ (b = true → upsOp C cal dp r.o ⟨tF (fun _ => true) 0 pre t0, restr r.rd (hF (fun j => r.m.testBit j) 0 pre h0)⟩ = some (r.r, r.ups)) ∧ (b = false → r.r = .tuple [] ∧ r.ups = [])
  dst : ∀ d, r.o.dst = some d → d < sz
  len : r.ups.length ≤ 100
  pairs : pairsOk dp ops r 0 pre = true

theorem recOk_good {sz : Nat} {r : Rec} (hr : recOk sz r = true) : (∀ d, r.o.dst = some d → d < sz) ∧ r.ups.length ≤ 100 := by
  unfold recOk at hr
  simp only [Bool.and_eq_true, decide_eq_true_eq] at hr
  refine ⟨fun d hd => ?_, hr.2⟩
  have := hr.1
  rw [hd] at this; simpa using this

theorem drawGo_good {C : Ctx} {cal : Cal} {dp sz : Nat} {ops : Array Oper} {t0 : Nat → PV} {h0 : Hp} : ∀ (l : List (Oper × Nat)) (pre recs : List Rec), drawGo C cal dp sz ops t0 h0 l pre = some recs →
    ∃ rest, recs = pre ++ rest ∧ rest.length = l.length ∧ ∀ (i : Nat) r, rest[i]? = some r → l[i]? = some (r.o, r.m) ∧ Good C cal dp sz ops t0 h0 (pre ++ rest.take i) r
  | [], pre, recs, h => by
    simp only [drawGo] at h; cases h
    exact ⟨[], by simp, rfl, fun i r h => by simp at h⟩
  | (o, m) :: l, pre, recs, h => by
    have fin : ∀ r : Rec, r.o = o → r.m = m → Good C cal dp sz ops t0 h0 pre r → drawGo C cal dp sz ops t0 h0 l (pre ++ [r]) = some recs →
        ∃ rest, recs = pre ++ rest ∧ rest.length = ((o, m) :: l).length ∧ ∀ (i : Nat) r, rest[i]? = some r → ((o, m) :: l)[i]? = some (r.o, r.m) ∧ Good C cal dp sz ops t0 h0 (pre ++ rest.take i) r := by
      intro r ho hm hg hd
      obtain ⟨rest, h1, h2, h3⟩ := drawGo_good l _ _ hd
      refine ⟨r :: rest, by simp [h1], by simp [h2], fun i r' hr' => ?_⟩
      cases i with
      | zero => simp at hr'; subst hr'; simp [ho, hm]; exact hg
      | succ i =>
        simp at hr'
        obtain ⟨k1, k2⟩ := h3 i r' hr'
        refine ⟨by simpa using k1, ?_⟩
        simpa using k2
    simp only [drawGo] at h
    split at h <;> try (cases h; done)
    · rename_i hw
      split at h <;> try (cases h; done)
      rename_i r ups hu
      split at h <;> try (cases h; done)
      rename_i hk
      simp only [Bool.and_eq_true] at hk
      obtain ⟨k1, k2⟩ := recOk_good hk.1
      exact fin _ rfl rfl ⟨⟨true, hw, fun _ => hu, (fun h => by cases h)⟩, k1, k2, hk.2⟩ h
    · rename_i hw
      split at h <;> try (cases h; done)
      rename_i hk
      simp only [Bool.and_eq_true] at hk
      obtain ⟨k1, k2⟩ := recOk_good hk.1
      exact fin _ rfl rfl ⟨⟨false, hw, (fun h => by cases h), fun _ => ⟨rfl, rfl⟩⟩, k1, k2, hk.2⟩ h

theorem pairsOk_at {dp : Nat} {ops : Array Oper} {ri : Rec} : ∀ {l : List Rec} {k j : Nat} {rj : Rec}, pairsOk dp ops ri k l = true → l[j]? = some rj → pairOk dp ops (k + j) rj ri = true
  | [], k, j, rj, _, h => by simp at h
  | r :: l, k, j, rj, hp, h => by
    simp only [pairsOk, Bool.and_eq_true] at hp
    cases j with
    | zero => simp at h; subst h; exact hp.1
    | succ j => rw [show k + (j + 1) = k + 1 + j by omega]; exact pairsOk_at hp.2 (by simpa using h)

/-- A recorded run. -/
structure Run (C : Ctx) (cal : Cal) (dp sz : Nat) (ops : Array Oper) (t0 : Nat → PV) (h0 : Hp) (recs : List Rec) : Prop where
  size : recs.length = ops.size
  op : ∀ (i : Nat) r, recs[i]? = some r → ops[i]? = some r.o
  good : ∀ (i : Nat) r, recs[i]? = some r → Good C cal dp sz ops t0 h0 (recs.take i) r
  bits : ∀ (i : Nat) r, recs[i]? = some r → ∀ j, r.m.testBit j = true ↔ ∃ e ∈ r.o.after.toList, Region.binds .any e = true ∧ (j = e.on ∨ ∃ r', recs[e.on]? = some r' ∧ r'.m.testBit j = true)
  edge : ∀ (i : Nat) r, recs[i]? = some r → ∀ e ∈ r.o.after.toList, Region.binds .any e = true → e.on < i

theorem run_of_draw {C : Ctx} {cal : Cal} {dp sz : Nat} {ops : Array Oper} {st : St} {st' : St} (h : evalDraw C cal dp sz ops st = some st') :
    ∃ recs, Run C cal dp sz ops st.t st.h recs ∧ st' = ⟨tF (fun _ => true) 0 recs st.t, hF (fun _ => true) 0 recs st.h⟩ := by
  unfold evalDraw at h
  split at h <;> try (cases h; done)
  rename_i he
  split at h <;> try (cases h; done)
  rename_i recs hd
  cases h
  obtain ⟨rest, h1, h2, h3⟩ := drawGo_good _ _ _ hd
  rw [List.nil_append] at h1
  subst h1
  obtain ⟨ms, m1, m2, m3⟩ := masks_eq ops.toList []
  rw [List.nil_append] at m1
  rw [m1] at h2 h3
  have hat : ∀ (i : Nat) r, recs[i]? = some r → ops.toList[i]? = some r.o ∧ ms[i]? = some r.m := by
    intro i r hr
    have := (h3 i r hr).1
    rw [List.getElem?_zip_eq_some] at this
    exact this
  have hedge : ∀ (i : Nat) r, recs[i]? = some r → ∀ e ∈ r.o.after.toList, Region.binds .any e = true → e.on < i := by
    intro i r hr e he' hb
    have := edgesOk_at he (hat i r hr).1 e he' hb
    omega
  have hlen : recs.length = ops.size := by rw [h2, List.length_zip, m2]; simp
  refine ⟨recs, ⟨hlen, fun i r hr => by have := (hat i r hr).1; simpa using this, fun i r hr => by simpa using (h3 i r hr).2, fun i r hr j => ?_, hedge⟩, rfl⟩
  · have hmm : r.m = maskOf (ms.take i) r.o.after.toList := by
      have := m3 i r.o (hat i r hr).1
      rw [(hat i r hr).2, List.nil_append] at this
      exact Option.some.inj this
    rw [hmm, maskOf_bit]
    constructor
    · rintro ⟨e, he', hb, hj⟩
      refine ⟨e, he', hb, ?_⟩
      rcases hj with hj | hj
      · exact .inl hj
      · have hlt := hedge i r hr e he' hb
        have hi : i < recs.length := (List.getElem?_eq_some_iff.1 hr).1
        obtain ⟨r', hr'⟩ : ∃ r', recs[e.on]? = some r' := ⟨recs[e.on]'(by omega), List.getElem?_eq_getElem (by omega)⟩
        refine .inr ⟨r', hr', ?_⟩
        have : (ms.take i)[e.on]? = some r'.m := by rw [List.getElem?_take, if_pos hlt]; exact (hat _ _ hr').2
        rw [List.getD_eq_getElem?_getD, this] at hj
        exact hj
    · rintro ⟨e, he', hb, hj⟩
      refine ⟨e, he', hb, ?_⟩
      rcases hj with hj | ⟨r', hr', hj⟩
      · exact .inl hj
      · have hlt := hedge i r hr e he' hb
        have : (ms.take i)[e.on]? = some r'.m := by rw [List.getElem?_take, if_pos hlt]; exact (hat _ _ hr').2
        rw [List.getD_eq_getElem?_getD, this]
        exact .inr hj
end Go.Ev
end

section
/- Regions that draw their order: every order comes to the recorded run. -/
set_option linter.unusedVariables false
set_option linter.unusedSimpArgs false
namespace Go.Ev
open Go

theorem hF_take {sel : Nat → Bool} : ∀ {rs : List Rec} {q i : Nat} {h : Hp}, hF sel q (rs.take i) h = hF (fun j => decide (j < q + i) && sel j) q rs h
  | [], q, i, h => by simp [hF]
  | r :: rs, q, 0, h => by
    simp only [List.take_zero, hF]
    have : ∀ (rs : List Rec) (p : Nat) (h : Hp), q ≤ p → h = hF (fun j => decide (j < q + 0) && sel j) p rs h := by
      intro rs
      induction rs with
      | nil => intros; rfl
      | cons r rs ih =>
        intro p h hp
        simp only [hF]
        rw [if_neg (by simp; omega)]
        exact ih _ _ (by omega)
    rw [if_neg (by simp)]
    exact this rs (q + 1) h (by omega)
  | r :: rs, q, i + 1, h => by
    simp only [List.take_succ_cons, hF]
    rw [hF_take (rs := rs) (q := q + 1) (i := i)]
    have : decide (q < q + (i + 1)) = true := by simp
    simp only [this, Bool.true_and, show q + 1 + i = q + (i + 1) by omega]

theorem tF_take {sel : Nat → Bool} : ∀ {rs : List Rec} {q i : Nat} {t : Nat → PV}, tF sel q (rs.take i) t = tF (fun j => decide (j < q + i) && sel j) q rs t
  | [], q, i, h => by simp [tF]
  | r :: rs, q, 0, h => by
    simp only [List.take_zero, tF]
    have : ∀ (rs : List Rec) (p : Nat) (t : Nat → PV), q ≤ p → t = tF (fun j => decide (j < q + 0) && sel j) p rs t := by
      intro rs
      induction rs with
      | nil => intros; rfl
      | cons r rs ih =>
        intro p h hp
        simp only [tF]
        rw [if_neg (by simp; omega)]
        exact ih _ _ (by omega)
    rw [if_neg (by simp)]
    exact this rs (q + 1) h (by omega)
  | r :: rs, q, i + 1, h => by
    simp only [List.take_succ_cons, tF]
    rw [tF_take (rs := rs) (q := q + 1) (i := i)]
    have : decide (q < q + (i + 1)) = true := by simp
    simp only [this, Bool.true_and, show q + 1 + i = q + (i + 1) by omega]

theorem hF_none {rs : List Rec} : ∀ {q : Nat} {h : Hp}, hF (fun _ => false) q rs h = h := by
  induction rs with
  | nil => intros; rfl
  | cons r rs ih => intro q h; simp only [hF]; exact ih

theorem hF_bits {rs : List Rec} {i : Nat} {h : Hp} {m : Nat} (hm : ∀ j, m.testBit j = true → j < i) : hF (fun j => m.testBit j) 0 (rs.take i) h = hF (fun j => m.testBit j) 0 rs h := by
  rw [hF_take]
  congr 1
  funext j
  cases hb : m.testBit j with
  | false => simp
  | true => simp [hm j hb]

section
variable {C : Ctx} {cal : Cal} {dp sz : Nat} {ops : Array Oper} {t0 : Nat → PV} {h0 : Hp} {recs : List Rec}

theorem Run.bit_lt (R : Run C cal dp sz ops t0 h0 recs) : ∀ (i : Nat) r, recs[i]? = some r → ∀ j, r.m.testBit j = true → j < i := by
  intro i
  induction i using Nat.strongRecOn with
  | ind i ih =>
    intro r hr j hj
    obtain ⟨e, he, hb, hj⟩ := (R.bits i r hr j).1 hj
    have hlt := R.edge i r hr e he hb
    rcases hj with hj | ⟨r', hr', hj⟩
    · omega
    · have := ih _ hlt r' hr' j hj; omega

theorem Run.bit_trans (R : Run C cal dp sz ops t0 h0 recs) : ∀ (i : Nat) r, recs[i]? = some r → ∀ j rj, recs[j]? = some rj → r.m.testBit j = true → ∀ k, rj.m.testBit k = true → r.m.testBit k = true := by
  intro i
  induction i using Nat.strongRecOn with
  | ind i ih =>
    intro r hr j rj hrj hj k hk
    obtain ⟨e, he, hb, hj⟩ := (R.bits i r hr j).1 hj
    have hlt := R.edge i r hr e he hb
    refine (R.bits i r hr k).2 ⟨e, he, hb, ?_⟩
    rcases hj with hj | ⟨r', hr', hj⟩
    · subst hj; exact .inr ⟨rj, hrj, hk⟩
    · exact .inr ⟨r', hr', ih _ hlt r' hr' j rj hrj hj k hk⟩

def Dn (recs : List Rec) (S : Nat → Bool) : Prop := ∀ (i : Nat) r, recs[i]? = some r → S i = true → ∀ e ∈ r.o.after.toList, Region.binds .any e = true → S e.on = true

theorem Run.bit_mem (R : Run C cal dp sz ops t0 h0 recs) {S : Nat → Bool} (hD : Dn recs S) : ∀ (i : Nat) r, recs[i]? = some r → (∀ e ∈ r.o.after.toList, Region.binds .any e = true → S e.on = true) → ∀ j, r.m.testBit j = true → S j = true := by
  intro i
  induction i using Nat.strongRecOn with
  | ind i ih =>
    intro r hr hp j hj
    obtain ⟨e, he, hb, hj⟩ := (R.bits i r hr j).1 hj
    have hlt := R.edge i r hr e he hb
    rcases hj with hj | ⟨r', hr', hj⟩
    · subst hj; exact hp e he hb
    · exact ih _ hlt r' hr' (hD _ r' hr' (hp e he hb)) j hj

theorem Run.pair (R : Run C cal dp sz ops t0 h0 recs) {i j : Nat} {ri rj : Rec} (hi : recs[i]? = some ri) (hj : recs[j]? = some rj) (h : i < j) : pairOk dp ops i ri rj = true := by
  have := (R.good j rj hj).pairs
  have h2 := pairsOk_at this (j := i) (rj := ri) (by rw [List.getElem?_take, if_pos h]; exact hi)
  rwa [Nat.zero_add] at h2

theorem Run.conf (R : Run C cal dp sz ops t0 h0 recs) {i j : Nat} {ri rj : Rec} (hi : recs[i]? = some ri) (hj : recs[j]? = some rj) (h : i < j) : rj.m.testBit i = true ∨ (Oper.apart ops ri.o rj.o = true ∧ hits dp rj ri.ups = false ∧ hits dp ri rj.ups = false) := by
  have := R.pair hi hj h
  simp only [pairOk, Bool.or_eq_true, Bool.and_eq_true, Bool.not_eq_true'] at this
  rcases this with k | ⟨⟨k1, k2⟩, k3⟩
  · exact .inl k
  · exact .inr ⟨k1, k2, k3⟩

theorem not_hits {r : Rec} {u : Ups} (h : hits dp r u = false) {k : Nat} (ht : Touch u k) : ¬ ownOf dp r.o k ∧ r.rd.contains k = false ∧ ¬ Touch r.ups k := by
  obtain ⟨e, he, rfl⟩ := ht
  have := List.any_eq_false.1 h e he
  simp only [Bool.or_eq_true, decide_eq_true_eq, not_or] at this
  refine ⟨this.1.1, by simpa using this.1.2, fun ⟨f, hf, hk⟩ => this.2 ?_⟩
  rw [List.any_eq_true]
  exact ⟨f, hf, by simp [hk]⟩

/-- An operation that may be next, at what has been done. -/
structure Next (recs : List Rec) (S : Nat → Bool) (i : Nat) (r : Rec) : Prop where
  at' : recs[i]? = some r
  dn : Dn recs S
  out : S i = false
  pre : ∀ e ∈ r.o.after.toList, Region.binds .any e = true → S e.on = true

theorem Next.before {S i r} (R : Run C cal dp sz ops t0 h0 recs) (N : Next recs S i r) {j : Nat} (h : r.m.testBit j = true) : S j = true := R.bit_mem N.dn i r N.at' N.pre j h
theorem Next.not {S i r} (R : Run C cal dp sz ops t0 h0 recs) (N : Next recs S i r) {j : Nat} {rj : Rec} (hj : recs[j]? = some rj) (hS : S j = true) : ¬ rj.m.testBit i = true := fun h => by
  have := R.bit_mem N.dn j rj hj (N.dn j rj hj hS) i h
  rw [N.out] at this; cases this

/-- At a block on which it hangs, what came before it in the recorded run is what was done of it. -/
theorem Next.same {S i r} (R : Run C cal dp sz ops t0 h0 recs) (N : Next recs S i r) {k : Nat} (hk : ownOf dp r.o k ∨ r.rd.contains k = true) :
    (hF (fun j => r.m.testBit j) 0 recs h0).G k = (hF S 0 recs h0).G k ∧ (hF (fun j => r.m.testBit j) 0 recs h0).H k = (hF S 0 recs h0).H k := by
  refine hF_at (k := k) ⟨rfl, rfl⟩ (fun j rj hj ht => ?_)
  rw [Nat.zero_add]
  cases hb : r.m.testBit j with
  | true => exact (N.before R hb).symm
  | false =>
    by_cases e : j = i
    · subst e; exact N.out.symm
    rcases Nat.lt_or_gt_of_ne e with h | h
    · rcases R.conf hj N.at' h with hc | ⟨_, h1, _⟩
      · rw [hb] at hc; cases hc
      · obtain ⟨n1, n2, _⟩ := not_hits h1 ht
        rcases hk with hk | hk
        · exact (n1 hk).elim
        · rw [n2] at hk; cases hk
    · rcases R.conf N.at' hj h with hc | ⟨_, _, h1⟩
      · cases hs : S j with
        | false => rfl
        | true => exact (N.not R hj hs hc).elim
      · obtain ⟨n1, n2, _⟩ := not_hits h1 ht
        rcases hk with hk | hk
        · exact (n1 hk).elim
        · rw [n2] at hk; cases hk

theorem Next.le {S i r} (R : Run C cal dp sz ops t0 h0 recs) (N : Next recs S i r) : Le (restr r.rd (hF (fun j => r.m.testBit j) 0 recs h0)) (hF S 0 recs h0) := by
  intro k
  cases hk : r.rd.contains k with
  | false => exact .inl (by simp only [restr, hk]; rfl)
  | true =>
    obtain ⟨h1, h2⟩ := N.same R (k := k) (.inr hk)
    exact .inr ⟨h1, by simp only [restr, hk, if_true]; exact h2⟩

theorem Next.clear {S i r} (R : Run C cal dp sz ops t0 h0 recs) (N : Next recs S i r) {j : Nat} {rj : Rec} (hj : recs[j]? = some rj) (hlt : i < j) (hS : S j = true) {k : Nat} (h1 : Touch rj.ups k) (h2 : Touch r.ups k) : False := by
  rcases R.conf N.at' hj hlt with hc | ⟨_, _, h3⟩
  · exact N.not R hj hS hc
  · exact (not_hits h3 h1).2.2 h2

theorem Next.tmp {S i r} (R : Run C cal dp sz ops t0 h0 recs) (N : Next recs S i r) {d : Nat} (hd : d ∈ r.o.looksAt ops) : tF (fun _ => true) 0 (recs.take i) t0 d = tF S 0 recs t0 d := by
  rw [tF_take]
  refine tF_at rfl (fun j rj hj hdj => ?_)
  simp only [Nat.zero_add, Bool.and_true]
  by_cases e : j = i
  · subst e; rw [N.out]; simp
  · rcases Nat.lt_or_gt_of_ne e with h | h
    · rcases R.conf hj N.at' h with hb | ⟨ha, _⟩
      · rw [N.before R hb]; simpa using h
      · exact ((Oper.apart_spec ha).1 d hdj hd).elim
    · rcases R.conf N.at' hj h with hb | ⟨ha, _⟩
      rotate_left
      · exact ((Oper.apart_spec ha).2.2 d hdj hd).elim
      · have h1 : S j = false := by
          cases hs : S j with
          | false => rfl
          | true => exact (N.not R hj hs hb).elim
        rw [h1]; simp; omega

theorem Next.dst {S i r} (R : Run C cal dp sz ops t0 h0 recs) (N : Next recs S i r) {j : Nat} {rj : Rec} (hj : recs[j]? = some rj) (hlt : i < j) (hS : S j = true) (h : rj.o.dst ≠ none) : rj.o.dst ≠ r.o.dst := by
  rcases R.conf N.at' hj hlt with hb | ⟨ha, _⟩
  rotate_left
  · intro e
    cases hd : rj.o.dst with
    | none => exact h hd
    | some d => exact (Oper.apart_spec ha).2.1 d (by rw [← e]; exact hd) hd
  · exact (N.not R hj hS hb).elim
end
end Go.Ev
end

section
/- Regions that draw their order: soundness. -/
set_option linter.unusedVariables false
set_option linter.unusedSimpArgs false
namespace Go.Ev
open Go

section
variable {C : Ctx} {cal : Cal} {dp sz : Nat} {ops : Array Oper} {t0 : Nat → PV} {h0 : Hp} {recs : List Rec}

theorem mem_looksAt {o : Oper} {d : Nat} (h : Operand.tmp d ∈ o.op.operands) : d ∈ o.looksAt ops := by
  unfold Oper.looksAt
  refine List.mem_append.2 (.inl ?_)
  rw [List.mem_filterMap]
  exact ⟨.tmp d, by simpa using h, rfl⟩

/-- One more operation is done. -/
theorem next_done {S : Nat → Bool} {i : Nat} {r : Rec} (R : Run C cal dp sz ops t0 h0 recs) (N : Next recs S i r) {S' : Nat → Bool} (h2 : S' i = true) (h3 : ∀ j, j ≠ i → S' j = S j) :
    hF S' 0 recs h0 = (hF S 0 recs h0).app r.ups ∧ tF S' 0 recs t0 = setT r.o.dst r.r (tF S 0 recs t0) := by
  have key : ∀ k, (hF S' 0 recs h0).G k = ((hF S 0 recs h0).app r.ups).G k ∧ (hF S' 0 recs h0).H k = ((hF S 0 recs h0).app r.ups).H k := fun k =>
    hF_put (q := 0) N.at' rfl (by rw [Nat.zero_add]; exact N.out) (by rw [Nat.zero_add]; exact h2) (by rw [Nat.zero_add]; exact h3) (fun j rj hj hlt hS k1 k2 => N.clear R hj hlt (by rwa [Nat.zero_add] at hS) k1 k2)
  constructor
  · have e1 : (hF S' 0 recs h0).G = ((hF S 0 recs h0).app r.ups).G := funext fun k => (key k).1
    have e2 : (hF S' 0 recs h0).H = ((hF S 0 recs h0).app r.ups).H := funext fun k => (key k).2
    calc hF S' 0 recs h0 = ⟨(hF S' 0 recs h0).G, (hF S' 0 recs h0).H⟩ := rfl
      _ = ⟨((hF S 0 recs h0).app r.ups).G, ((hF S 0 recs h0).app r.ups).H⟩ := by rw [e1, e2]
      _ = _ := rfl
  · funext x
    exact tF_put (q := 0) N.at' (by rw [Nat.zero_add]; exact N.out) (by rw [Nat.zero_add]; exact h2) (by rw [Nat.zero_add]; exact h3) (fun j rj hj hlt hS hd => N.dst R hj hlt (by rwa [Nat.zero_add] at hS) hd)

theorem wantedP_congr {o : Oper} {t t' : Nat → PV} (h : ∀ d ∈ o.looksAt ops, t d = t' d) : wantedP ops o t = wantedP ops o t' := by
  unfold wantedP
  split
  · rfl
  · rename_i j want hg
    split
    · rename_i d hd
      have : t d = t' d := h d (by
        unfold Oper.looksAt
        refine List.mem_append.2 (.inr ?_)
        rw [hg]
        simp only [hd]
        simp)
      rw [this]
    · rfl

theorem Next.ups (ht : TablesOk C) {S : Nat → Bool} {i : Nat} {r : Rec} (R : Run C cal dp sz ops t0 h0 recs) (N : Next recs S i r) (h : upsOp C cal dp r.o ⟨tF (fun _ => true) 0 (recs.take i) t0, restr r.rd (hF (fun j => r.m.testBit j) 0 (recs.take i) h0)⟩ = some (r.r, r.ups)) : upsOp C cal dp r.o ⟨tF S 0 recs t0, hF S 0 recs h0⟩ = some (r.r, r.ups) := by
  rw [hF_bits (R.bit_lt i r N.at')] at h
  rw [upsOp_congr (t' := tF S 0 recs t0) (fun x hx => ?_)] at h
  · exact upsOp_mono ht (N.le R) (fun k hk => (N.same R (.inl hk)).1) (R.good i r N.at').len h
  · cases x with
    | tmp d => exact N.tmp R (mem_looksAt (by simpa using hx))
    | _ => rfl

theorem setT_putP {sz : Nat} {t : Nat → PV} {dst : Option Nat} {v : PV} (h : ∀ d, dst = some d → d < sz) : putP sz t dst v = some (setT dst v t) := by
  cases dst with
  | none => rfl
  | some d => unfold putP setT; exact if_pos (h d rfl)

theorem draw_go (ht : TablesOk C) (hcal : CalOk C.P cal) {Fc : Fence} (hFc : Wd Fc) {n : Nat} {ds : List Deferred} (R : Run C cal dp sz ops t0 h0 recs) {Q : Exit → Act → World → Prop} {w0 : World} {F0 : Nat → Prop} {L0 : Nat → Option Nat} {hp0 : Hp}
    (hQ : ∀ a' w' F' L', SRel F' L' sz ds ⟨tF (fun _ => true) 0 recs t0, hF (fun _ => true) 0 recs h0⟩ a' w' → Step F0 L0 w0 hp0 F' L' w' (hF (fun _ => true) 0 recs h0) → Q .normal a' w') :
    ∀ (fuel : Nat) (listed : Array Bool) (todo : List Nat) (a : Act) (w : World) (F : Nat → Prop) (L : Nat → Option Nat), listed.size = ops.size → todo.length ≤ fuel → (∀ i, i < ops.size → listed.getD i false = false → i ∈ todo) →
      Dn recs (fun i => listed.getD i false) → SRel F L sz ds ⟨tF (fun i => listed.getD i false) 0 recs t0, hF (fun i => listed.getD i false) 0 recs h0⟩ a w →
      Step F0 L0 w0 hp0 F L w (hF (fun i => listed.getD i false) 0 recs h0) → wpAnyIn Fc n C.P .any ops Q fuel listed a w := by
  intro fuel
  -- nobody is next: all is done
  have done : ∀ (listed : Array Bool) (a : Act) (w : World) (F : Nat → Prop) (L : Nat → Option Nat), listed.size = ops.size → (Region.ready .any ops listed = []) → Dn recs (fun i => listed.getD i false) → SRel F L sz ds ⟨tF (fun i => listed.getD i false) 0 recs t0, hF (fun i => listed.getD i false) 0 recs h0⟩ a w → Step F0 L0 w0 hp0 F L w (hF (fun i => listed.getD i false) 0 recs h0) → Q .normal a w := by
    intro listed a w F L hsz hr hD hs hst
    have hall : ∀ i, i < ops.size → listed.getD i false = true := by
      intro i
      induction i using Nat.strongRecOn with
      | ind i ih =>
        intro hi
        cases hl : listed.getD i false with
        | true => rfl
        | false =>
          exfalso
          have hi' : i < recs.length := by rw [R.size]; exact hi
          have hri : recs[i]? = some recs[i] := List.getElem?_eq_getElem hi'
          have : i ∈ Region.ready .any ops listed := by
            rw [mem_ready]
            refine ⟨?_, recs[i].o, R.op i _ hri, fun e he hb => ?_⟩
            · have hi2 : i < listed.size := by omega
              simp [hi2] at hl ⊢; exact hl
            · have hlt := R.edge i _ hri e (by simpa using he) hb
              exact ih e.on hlt (by omega)
          rw [hr] at this
          cases this
    have e1 : hF (fun i => listed.getD i false) 0 recs h0 = hF (fun _ => true) 0 recs h0 := by
      have key := fun k => hF_at (sel := fun i => listed.getD i false) (sel' := fun _ => true) (k := k) (rs := recs) (q := 0) (h := h0) (h' := h0) ⟨rfl, rfl⟩ (fun j r hj _ => by
        rw [Nat.zero_add]
        exact hall j (by have := (List.getElem?_eq_some_iff.1 hj).1; have := R.size; omega))
      have k1 : (hF (fun i => listed.getD i false) 0 recs h0).G = (hF (fun _ => true) 0 recs h0).G := funext fun k => (key k).1
      have k2 : (hF (fun i => listed.getD i false) 0 recs h0).H = (hF (fun _ => true) 0 recs h0).H := funext fun k => (key k).2
      calc hF (fun i => listed.getD i false) 0 recs h0 = ⟨(hF (fun i => listed.getD i false) 0 recs h0).G, (hF (fun i => listed.getD i false) 0 recs h0).H⟩ := rfl
        _ = ⟨(hF (fun _ => true) 0 recs h0).G, (hF (fun _ => true) 0 recs h0).H⟩ := by rw [k1, k2]
        _ = _ := rfl
    have e2 : tF (fun i => listed.getD i false) 0 recs t0 = tF (fun _ => true) 0 recs t0 := by
      funext x
      refine tF_at rfl (fun j r hj _ => ?_)
      rw [Nat.zero_add]
      exact hall j (by have := (List.getElem?_eq_some_iff.1 hj).1; have := R.size; omega)
    rw [e1, e2] at hs
    rw [e1] at hst
    exact hQ a w F L hs hst
  induction fuel with
  | zero =>
    intro listed todo a w F L hsz hle htodo hD hs hst
    have hnil : todo = [] := List.length_eq_zero_iff.1 (by omega)
    subst hnil
    have hr : Region.ready .any ops listed = [] := by
      rw [List.eq_nil_iff_forall_not_mem]
      intro i hi
      obtain ⟨h1, o, ho, _⟩ := mem_ready.1 hi
      have hlt : i < ops.size := (Array.getElem?_eq_some_iff.1 ho).1
      have := htodo i hlt (by
        have hi2 : i < listed.size := by omega
        simp [hi2] at h1 ⊢; exact h1)
      cases this
    exact ⟨hr, done listed a w F L hsz hr hD hs hst⟩
  | succ fuel ih =>
    intro listed todo a w F L hsz hle htodo hD hs hst
    refine ⟨fun hr => done listed a w F L hsz hr hD hs hst, fun i hi => ?_⟩
    obtain ⟨h1, o, ho, hpre⟩ := mem_ready.1 hi
    have hlt : i < ops.size := (Array.getElem?_eq_some_iff.1 ho).1
    have hil : i < listed.size := by omega
    have hi' : i < recs.length := by rw [R.size]; exact hlt
    have hri : recs[i]? = some recs[i] := List.getElem?_eq_getElem hi'
    generalize recs[i] = r at hri
    have ho' := R.op i r hri
    rw [ho] at ho'; cases ho'
    have hout : listed.getD i false = false := by simp [hil] at h1 ⊢; exact h1
    have N : Next recs (fun i => listed.getD i false) i r := ⟨hri, hD, hout, fun e he hb => hpre e (by simpa using he) hb⟩
    have hS1 : (listed.setIfInBounds i true).getD i false = true := by simp [hil]
    have hS2 : ∀ j, j ≠ i → (listed.setIfInBounds i true).getD j false = listed.getD j false := fun j hj => getD_set_ne false (Ne.symm hj)
    obtain ⟨eh, et⟩ := next_done (S' := fun j => (listed.setIfInBounds i true).getD j false) R N hS1 hS2
    have hgood := R.good i r hri
    obtain ⟨b, hw, hb1, hb0⟩ := hgood.run
    have hw' : wantedP ops r.o (tF (fun i => listed.getD i false) 0 recs t0) = some b := by
      rw [← wantedP_congr (fun d hd => N.tmp R hd)]; exact hw
    have hput := setT_putP (t := tF (fun i => listed.getD i false) 0 recs t0) (v := r.r) (fun d hd => hgood.dst d hd)
    have hDn : Dn recs (fun j => (listed.setIfInBounds i true).getD j false) := by
      intro j rj hj hS e he hb
      by_cases ej : j = i
      · subst ej; rw [hri] at hj; cases hj
        exact getD_set_true (N.pre e he hb)
      · exact getD_set_true (hD j rj hj (by show listed.getD j false = true; rw [← hS2 j ej]; exact hS) e he hb)
    have hmem : i ∈ todo := htodo i hlt hout
    have go : ∀ a' w' F' L', SRel F' L' sz ds ⟨setT r.o.dst r.r (tF (fun i => listed.getD i false) 0 recs t0), (hF (fun i => listed.getD i false) 0 recs h0).app r.ups⟩ a' w' → Step F L w (hF (fun i => listed.getD i false) 0 recs h0) F' L' w' ((hF (fun i => listed.getD i false) 0 recs h0).app r.ups) → wpAnyIn Fc n C.P .any ops Q fuel (listed.setIfInBounds i true) a' w' := by
      intro a' w' F' L' hs' hst'
      refine ih (listed.setIfInBounds i true) (todo.erase i) a' w' F' L' (by simpa using hsz) ?_ ?_ hDn ?_ ?_
      · rw [List.length_erase_of_mem hmem]; omega
      · intro j hj hjl
        have ej : j ≠ i := by intro e; subst e; rw [hS1] at hjl; cases hjl
        rw [hS2 j ej] at hjl
        exact (List.mem_erase_of_ne ej).2 (htodo j hj hjl)
      · rw [eh, et]; exact hs'
      · rw [eh]; exact hst.trans hst'
    simp only [wpOpIn, ho]
    rw [wantedP_sound hs.tmps hw']
    cases b with
    | true =>
      rw [if_pos rfl]
      have hu := upsOp_step (inl := fun _ _ _ => none) (yl := fun _ _ _ _ => none) (N.ups ht R (hb1 rfl))
      exact stepOp_sound ht hcal (fun f as h r h' hh => by cases hh) (fun i g as h r h' hh => by cases hh) hFc hs hu hput go
    | false =>
      rw [if_neg (by simp)]
      obtain ⟨er, eu⟩ := hb0 rfl
      rw [er] at hput
      obtain ⟨k1, k2, k3⟩ := putP_sound hs.size hs.tmps (v := undef) (VRel.tuple (us := []) .nil) hput
      refine ⟨fun f _ => hFc.fn f, ?_⟩
      refine go _ _ F L ?_ ?_
      · rw [er, eu]; exact ⟨hs.heap, k1, k2, by rw [k3]; exact hs.defers⟩
      · rw [eu]; exact .refl _ _ _ _

theorem tF_false {t : Nat → PV} : ∀ {rs : List Rec} {q : Nat}, tF (fun _ => false) q rs t = t
  | [], q => rfl
  | r :: rs, q => by simp only [tF]; exact tF_false

/-- A region that draws does in every order what the recorded run did. -/
theorem evalDraw_sound (ht : TablesOk C) (hcal : CalOk C.P cal) {Fc : Fence} (hFc : Wd Fc) {n : Nat} {ds : List Deferred} {st st' : St} (h : evalDraw C cal dp sz ops st = some st') {id : Nat} {Q : Exit → Act → World → Prop} {F : Nat → Prop} {L : Nat → Option Nat} {a : Act} {w : World} (hs : SRel F L sz ds st a w)
    (hQ : ∀ a' w' F' L', SRel F' L' sz ds st' a' w' → Step F L w st.h F' L' w' st'.h → Q .normal a' w') : (Code.region id ops true).wpIn Fc n C.P Q a w := by
  obtain ⟨recs, R, rfl⟩ := run_of_draw h
  refine wpIn_region_draw fun t => ?_
  simp only [Region.schedule, ht.mixed, Bool.true_or, if_true]
  refine wpAnyIn_sound ops.size t _ a _ ?_
  obtain ⟨h1, h2⟩ := hrel_heap hs.heap (w' := { w with drawn := w.drawn + 1 }) rfl rfl rfl rfl
  have hfalse : ∀ i, (Array.replicate ops.size false).getD i false = false := by
    intro i
    by_cases hi : i < ops.size
    · simp [hi]
    · simp [hi]
  have e0 : (fun i => (Array.replicate ops.size false).getD i false) = fun _ => false := funext hfalse
  refine draw_go ht hcal hFc R hQ ops.size (Array.replicate ops.size false) (List.range ops.size) a _ F L (by simp) (by simp) (fun i hi _ => by simpa using hi) ?_ ?_ ?_
  · intro i r hi hS
    simp only [hfalse] at hS
    cases hS
  · rw [e0, tF_false, hF_none]
    exact ⟨h1, (hs.tmps.later h2.toLater), hs.size, hs.defers⟩
  · rw [e0, hF_none]
    exact h2
end
end Go.Ev
end

section
/- Code, as the evaluator does it. -/
set_option linter.unusedVariables false
set_option linter.unusedSimpArgs false
namespace Go.Ev
open Go

inductive Ex where
  | normal
  | exit (id : Nat)
  | ret

def Ex.out : Ex → Exit
  | .normal => .normal
  | .exit id => .exit id
  | .ret => .ret

def resultsP (C : Ctx) (st : St) : List ResultVar → Option (List PV)
  | [] => some []
  | .tmp t :: r => match resultsP C st r with | some ps => some (st.t t :: ps) | none => none
  | .cell a ty :: r => match loadP C st.h ty (st.t a), resultsP C st r with | some p, some ps => some (p :: ps) | _, _ => none

def oneOr : List PV → PV
  | [p] => p
  | ps => .tuple ps

/-- An evaluator of code: the loop over an iterator in whose round it is; how deep; how many temporaries. -/
abbrev Ev := Option (Nat × Nat) → Nat → Nat → Code → St → Option (Ex × St)

def Ex.jump : Ex → Option Code
  | .normal => none
  | .exit id => some (.exit id)
  | .ret => some .ret

def setAll : List Nat → List PV → (Nat → PV) → (Nat → PV)
  | p :: ps, x :: xs, t => setAll ps xs (upd t p x)
  | _, _, t => t

/-- A round: yield is called. -/
def evalRound (ev : Ev) (dp : Nat) : Yl := fun i g as h =>
  match h.H i with
  | .loop ps assign body sz 0 _ t =>
    if g = h.G i ∧ ps.length = as.length ∧ ps.all (fun p => decide (p < sz)) = true then
      match ev (some (i, g)) dp sz assign ⟨setAll ps as t, h⟩ with
      | some (.normal, st1) =>
        match st1.h.H i with
        | .loop ps1 assign1 body1 sz1 0 pend1 t1 =>
          if g = st1.h.G i then
            match ev (some (i, g)) dp sz body ⟨st1.t, st1.h.app [(i, st1.h.G i, .loop ps1 assign1 body1 sz1 1 none t1)]⟩ with
            | some (e, st2) =>
              match st2.h.H i with
              | .loop ps2 assign2 body2 sz2 _ _ t2 =>
                if g = st2.h.G i then some (.v (.bool e.jump.isNone), st2.h.app [(i, st2.h.G i, .loop ps2 assign2 body2 sz2 (if e.jump.isNone then 0 else 2) e.jump t2)]) else none
              | _ => none
            | none => none
          else none
        | _ => none
      | _ => none
    else none
  | _ => none

/-- Is the loop around there? -/
def rdOk (rd : Option (Nat × Nat)) (h : Hp) : Bool :=
  match rd with
  | none => true
  | some (i, g) => decide (g = h.G i) && (match h.H i with | .loop _ _ _ _ _ _ _ => true | _ => false)

/-- A range over a function. -/
def evalRange (C : Ctx) (inl : Inl) (rd : Option (Nat × Nat)) (dp sz : Nat) (g : Operand) (ps : List Nat) (assign body : Code) (st : St) : Option (Ex × St) :=
  match opd st.t g with
  | .func (.func gf) [] cs =>
    if C.callable gf = true ∧ rdOk rd st.h = true then
      match inl gf (.yld (idOf dp 99998 0) (st.h.G (idOf dp 99998 0) + 1) :: cs) (st.h.app [(idOf dp 99998 0, st.h.G (idOf dp 99998 0) + 1, .loop ps assign body sz 0 none st.t)]) with
      | some (_, h2) =>
        match h2.H (idOf dp 99998 0) with
        | .loop _ _ _ _ s pend _ =>
          if st.h.G (idOf dp 99998 0) + 1 = h2.G (idOf dp 99998 0) then
            match s, pend with
            | 0, _ => some (.normal, ⟨st.t, h2.app [(idOf dp 99998 0, h2.G (idOf dp 99998 0), .dead)]⟩)
            | 2, some (.exit id) => some (.exit id, ⟨st.t, h2.app [(idOf dp 99998 0, h2.G (idOf dp 99998 0), .dead)]⟩)
            | 2, some .ret => some (.ret, ⟨st.t, h2.app [(idOf dp 99998 0, h2.G (idOf dp 99998 0), .dead)]⟩)
            | _, _ => none
          else none
        | _ => none
      | none => none
    else none
  | _ => none

def evalBody (C : Ctx) (ev : Ev) (dp : Nat) (f : FuncId) (as : List PV) (h : Hp) : Option (PV × Hp) :=
  match C.func f with
  | some fn =>
    match fn.body with
    | some c =>
      match ev none dp (max as.length fn.ntmps) c ⟨fun i => as.getD i .dead, h⟩ with
      | some (.exit _, _) => none
      | some (_, st) =>
        match resultsP C st fn.results.toList with
        | some ps => some (oneOr ps, st.h)
        | none => none
      | none => none
    | none => none
  | none => none

/-! ### What is handed back, in a form of its own -/
abbrev Acc := List (Nat × Nat × List PV)
mutual
def canon (h : Hp) : PV → Acc → Option (PV × Acc)
  | .v x, acc => some (.v x, acc)
  | .lst es, acc => some (.lst es, acc)
  | .lptr cs, acc => some (.lptr cs, acc)
  | .fmap ks vs, acc => some (.fmap ks vs, acc)
  | .agg cs, acc => match canonL h cs acc with | some (ds, acc') => some (.agg ds, acc') | none => none
  | .tuple cs, acc => match canonL h cs acc with | some (ds, acc') => some (.tuple ds, acc') | none => none
  | .row i g lo len s, acc =>
    if g = h.G i then
      match h.H i with
      | .row s' es => if s = s' ∧ lo = 0 ∧ len ≤ es.length ∧ closedL es = true ∧ (acc.all fun x => x.1 != i) = true then some (.row acc.length 1 0 len s, acc ++ [(i, s, es.take len)]) else none
      | .frow s' es => if s = s' ∧ lo + len ≤ es.length ∧ closedL es = true then some (.lst ((es.drop lo).take len), acc) else none
      | _ => none
    else none
  | _, _ => none
def canonL (h : Hp) : List PV → Acc → Option (List PV × Acc)
  | [], acc => some ([], acc)
  | p :: ps, acc =>
    match canon h p acc with
    | some (q, acc') => match canonL h ps acc' with | some (qs, acc'') => some (q :: qs, acc'') | none => none
    | none => none
end

def evalPure (C : Ctx) (ev : Ev) (f : FuncId) (as : List PV) : Option Res :=
  match evalBody C ev 0 f as ⟨fun _ => 0, fun _ => .none⟩ with
  | some (r, h) =>
    match canon h r [] with
    | some (q, acc) => some (q, acc.map (·.2))
    | none => none
  | none => none

def squash (sz : Nat) (st : St) : St := st

def calOf (C : Ctx) (ev : Ev) : Cal := fun f as => match C.spec f with | some F => F as | none => evalPure C ev f as

def evalCode (C : Ctx) : Nat → Ev
  | 0, _, _, _, _, _ => none
  | n + 1, rd, dp, sz, c, st =>
    match c with
    | .skip => some (.normal, st)
    | .region _ ops true =>
      match evalDraw C (calOf C (evalCode C n)) dp sz ops st with
      | some st' => some (.normal, st')
      | none => none
    | .region _ ops false =>
      match evalOps C (calOf C (evalCode C n)) (evalBody C (evalCode C n) (dp + 1)) (evalRound (evalCode C n) (dp + 1000)) dp sz ops ops.toList st with
      | some st' => some (.normal, st')
      | none => none
    | .seq a b =>
      match evalCode C n rd dp sz a st with
      | some (.normal, st') => evalCode C n rd dp sz b st'
      | r => r
    | .cond x a b =>
      match opd st.t x with
      | .v (.bool true) => evalCode C n rd dp sz a st
      | .v (.bool false) => evalCode C n rd dp sz b st
      | _ => none
    | .block id a =>
      match evalCode C n rd dp sz a st with
      | some (.exit i, st') => some (if i = id then .normal else .exit i, st')
      | r => r
    | .loop a =>
      match evalCode C n rd dp sz a st with
      | some (.normal, st') => evalCode C n rd dp sz (.loop a) (squash sz st')
      | r => r
    | .rangeFunc g ps assign body => evalRange C (evalBody C (evalCode C n) (dp + 1)) rd dp sz g ps.toList assign body st
    | .exit id => some (.exit id, st)
    | .ret => some (.ret, st)
    | _ => none

/-! ### Soundness of code -/
def GoodAcc (h : Hp) (acc : Acc) : Prop := (∀ x ∈ acc, ∃ es0 n, h.H x.1 = .row x.2.1 es0 ∧ x.2.2 = es0.take n ∧ closedL x.2.2 = true) ∧ (acc.map (·.1)).Nodup

def LrOf (L : Nat → Option Nat) (acc : Acc) : Nat → Option Nat := fun k => (acc[k]?).bind (fun x => L x.1)

theorem closedL_take {es : List PV} (h : closedL es = true) (n : Nat) : closedL (es.take n) = true := closedL_of (fun c hc => closedL_mem h c (List.mem_of_mem_take hc))

theorem canon_isCell {h : Hp} {p q : PV} {acc acc' : Acc} (hq : canon h p acc = some (q, acc')) (hc : p.isCell = true) : q.isCell = true := by
  cases p <;> simp only [canon] at hq <;> (try (simp [PV.isCell] at hc; done)) <;> (repeat' split at hq) <;> cases hq <;> first | rfl | exact hc

mutual
theorem canon_sound {F L w h} (hr : HRel F L w h) : ∀ {p q acc acc'}, canon h p acc = some (q, acc') → (∃ ext, acc' = acc ++ ext) ∧ (GoodAcc h acc → GoodAcc h acc') ∧ ∀ accF, (∃ ext, accF = acc' ++ ext) → ∀ u, VRel F h.G L w p u → VRel F (fun _ => 1) (LrOf L accF) w q u
  | .v x, q, acc, acc', hq => by simp only [canon] at hq; cases hq; exact ⟨⟨[], by simp⟩, id, fun _ _ u hv => by cases hv with | c h => exact .c h⟩
  | .lst es, q, acc, acc', hq => by simp only [canon] at hq; cases hq; exact ⟨⟨[], by simp⟩, id, fun _ _ u hv => by cases hv with | c h => exact .c h⟩
  | .lptr es, q, acc, acc', hq => by simp only [canon] at hq; cases hq; exact ⟨⟨[], by simp⟩, id, fun _ _ u hv => by cases hv with | c h => exact .c h⟩
  | .fmap ks es, q, acc, acc', hq => by simp only [canon] at hq; cases hq; exact ⟨⟨[], by simp⟩, id, fun _ _ u hv => by cases hv with | c h => exact .c h⟩
  | .agg cs, q, acc, acc', hq => by
    simp only [canon] at hq
    split at hq <;> try (cases hq; done)
    rename_i ds acc2 hds
    cases hq
    obtain ⟨h1, h2, h3, h4⟩ := canonL_sound hr hds
    refine ⟨h1, h2, fun accF hF u hv => ?_⟩
    obtain ⟨us, rfl, k1, k2⟩ := hv.agg_inv
    exact .agg (h4 k1) (h3 accF hF us k2)
  | .tuple cs, q, acc, acc', hq => by
    simp only [canon] at hq
    split at hq <;> try (cases hq; done)
    rename_i ds acc2 hds
    cases hq
    obtain ⟨h1, h2, h3, h4⟩ := canonL_sound hr hds
    refine ⟨h1, h2, fun accF hF u hv => ?_⟩
    obtain ⟨us, rfl, k2⟩ := hv.tuple_inv
    exact .tuple (h3 accF hF us k2)
  | .row i g lo len s, q, acc, acc', hq => by
    simp only [canon] at hq
    split at hq <;> try (cases hq; done)
    rename_i hg
    split at hq <;> try (cases hq; done)
    · rename_i s' es hH
      split at hq <;> try (cases hq; done)
      rename_i hcond
      obtain ⟨rfl, rfl, hle, hcl, hall⟩ := hcond
      cases hq
      refine ⟨⟨_, rfl⟩, fun hga => ⟨fun x hx => ?_, ?_⟩, fun accF hF u hv => ?_⟩
      · rcases List.mem_append.1 hx with hx | hx
        · exact hga.1 x hx
        · simp at hx; subst hx
          exact ⟨es, len, hH, rfl, closedL_take hcl len⟩
      · rw [List.map_append, List.nodup_append]
        refine ⟨hga.2, by simp, fun a ha b hb => ?_⟩
        simp at hb; subst hb
        obtain ⟨x, hx, rfl⟩ := List.mem_map.1 ha
        have := List.all_eq_true.1 hall x hx
        simpa using this
      · obtain ⟨ext, rfl⟩ := hF
        have hlr : LrOf L (acc ++ [(i, s, es.take len)] ++ ext) acc.length = L i := by
          simp [LrOf]
        cases hv with
        | c hv => cases hv
        | row h1 h2 =>
          refine .row (Nat.le_refl _) (fun _ => ?_)
          rcases h2 hg with hz | ⟨B, T, m, a0, a1⟩
          · exact .inl hz
          · exact .inr ⟨B, T, m, hlr.trans a0, a1⟩
    · rename_i s' es hH
      split at hq <;> try (cases hq; done)
      rename_i hcond
      obtain ⟨rfl, hle, hcl⟩ := hcond
      cases hq
      refine ⟨⟨[], by simp⟩, id, fun accF hF u hv => ?_⟩
      have hre : reify h (.row i g lo len s) = some (.lst ((es.drop lo).take len)) := by
        simp only [reify]; rw [if_pos hg, hH]; simp [hle, hcl]
      have := reify_sound hr hv hre
      refine .c (this.later ⟨fun B hB => ?_, fun _ _ => rfl⟩)
      rcases hB with hB | ⟨j, hj, hlj, _⟩
      · exact hB
      · simp [refs] at hj; subst hj; rw [hH] at hlj; cases hlj
  | .func _ _ _, q, acc, acc', hq => by simp only [canon] at hq; cases hq
  | .iface _ _, q, acc, acc', hq => by simp only [canon] at hq; cases hq
  | .rptr _ _ _ _ _, q, acc, acc', hq => by simp only [canon] at hq; cases hq
  | .ptr _ _ _, q, acc, acc', hq => by simp only [canon] at hq; cases hq
  | .asl _ _ _ _ _, q, acc, acc', hq => by simp only [canon] at hq; cases hq
  | .map _ _, q, acc, acc', hq => by simp only [canon] at hq; cases hq
  | .yld _ _, q, acc, acc', hq => by simp only [canon] at hq; cases hq
  | .dead, q, acc, acc', hq => by simp only [canon] at hq; cases hq
theorem canonL_sound {F L w h} (hr : HRel F L w h) : ∀ {ps qs acc acc'}, canonL h ps acc = some (qs, acc') → (∃ ext, acc' = acc ++ ext) ∧ (GoodAcc h acc → GoodAcc h acc') ∧ (∀ accF, (∃ ext, accF = acc' ++ ext) → ∀ us, VRels F h.G L w ps us → VRels F (fun _ => 1) (LrOf L accF) w qs us) ∧ ((∀ c ∈ ps, PV.isCell c = true) → ∀ c ∈ qs, PV.isCell c = true)
  | [], qs, acc, acc', hq => by simp only [canonL] at hq; cases hq; exact ⟨⟨[], by simp⟩, id, fun _ _ us hv => by cases hv; exact .nil, fun _ => by simp⟩
  | p :: ps, qs, acc, acc', hq => by
    simp only [canonL] at hq
    split at hq <;> try (cases hq; done)
    rename_i q acc1 h1
    split at hq <;> try (cases hq; done)
    rename_i qs' acc2 h2
    cases hq
    obtain ⟨⟨e1, rfl⟩, a2, a3⟩ := canon_sound hr h1
    obtain ⟨⟨e2, rfl⟩, b2, b3, b4⟩ := canonL_sound hr h2
    refine ⟨⟨e1 ++ e2, by simp⟩, fun hg => b2 (a2 hg), fun accF hF us hv => ?_, fun hc c hm => ?_⟩
    · cases hv with
      | cons hv1 hv2 =>
        obtain ⟨e3, rfl⟩ := hF
        exact .cons (a3 _ ⟨e2 ++ e3, by simp⟩ _ hv1) (b3 _ ⟨e3, rfl⟩ _ hv2)
    · rcases List.mem_cons.1 hm with rfl | hm
      · exact canon_isCell h1 (hc p (by simp))
      · exact b4 (fun c hcm => hc c (by simp [hcm])) c hm
end

/-- What 'canon' tells is what came. -/
theorem canon_came {F w h L w' F' r q acc v} (hr : HRel F' L w' h) (hs : Step F (fun _ => none) w ⟨fun _ => 0, fun _ => .none⟩ F' L w' h) (hv : VRel F' h.G L w' r v) (hq : canon h r [] = some (q, acc)) : Came F w (q, acc.map (·.2)) v w' F' (LrOf L acc) := by
  obtain ⟨_, hgood, hval⟩ := canon_sound hr hq
  obtain ⟨hg1, hg2⟩ := hgood ⟨by simp, by simp⟩
  have hno : ∀ B, ¬ Own ⟨fun _ => 0, fun _ => .none⟩ (fun _ => none) B := fun B ⟨i, h1, _⟩ => by cases h1
  have hget : ∀ (k : Nat) x, acc[k]? = some x → ∃ es0 n, h.H x.1 = .row x.2.1 es0 ∧ x.2.2 = es0.take n ∧ closedL x.2.2 = true := fun k x hk => hg1 x (List.mem_of_getElem? hk)
  refine ⟨hs.os, hs.tape, hs.output, hs.size, fun B hB => hs.keep B hB (hno B), hs.fr, fun B hB => ?_, ⟨fun k => ?_, fun j k B hj hk hLj hLk => ?_, hr.flt⟩, fun k B hk hL => ?_, hval acc ⟨[], by simp⟩ v hv, fun k s es hk => ?_⟩
  · rcases hs.fro B hB with h | h | h
    · exact .inl h
    · exact (hno B h).elim
    · exact .inr h
  · cases hk : acc[k]? with
    | none => simp only [resHp, List.getElem?_map, hk, Option.map_none]; exact .none
    | some x =>
      obtain ⟨es0, n, h1, h2, h3⟩ := hget k x hk
      simp only [resHp, List.getElem?_map, hk, Option.map_some, LrOf, Option.bind_some]
      have hb := hr.ok x.1
      rw [h1] at hb
      obtain ⟨i, s, es⟩ := x
      simp only at h2 h3 hb ⊢
      subst h2
      generalize hx : L i = y at hb
      cases hb with
      | rowNone => simp; exact .rowNone
      | row k1 k2 k3 =>
        have hst : ElemsAt F' h.G L w' _ s 0 (es0.take n) := .of_flat (k3.ok.take n) (by rw [k3.ok.flat_take]; exact k3.flat.take _)
        obtain ⟨arr, T, fr, g1, g2, g3⟩ := k2
        exact .row k1 ⟨arr, T, fr, g1, Nat.le_trans (Nat.mul_le_mul_right _ (by simp; omega)) g2, g3⟩ (hst.close h3).toAt
  · simp only [resHp, List.getElem?_map] at hj hk
    cases ej : acc[j]? with
    | none => rw [ej] at hj; cases hj
    | some x =>
      cases ek : acc[k]? with
      | none => rw [ek] at hk; cases hk
      | some y =>
        simp only [LrOf, ej, ek, Option.bind_some] at hLj hLk
        obtain ⟨es1, n1, h1, _⟩ := hget j x ej
        obtain ⟨es2, n2, h2, _⟩ := hget k y ek
        have hxy : x.1 = y.1 := hr.inj _ _ B (by rw [h1]; rfl) (by rw [h2]; rfl) hLj hLk
        have hjl := (List.getElem?_eq_some_iff.1 ej).1
        have hkl := (List.getElem?_eq_some_iff.1 ek).1
        have e1 : (acc.map (·.1))[j]? = some x.1 := by simp [ej]
        have e2 : (acc.map (·.1))[k]? = some x.1 := by simp [ek, hxy]
        exact (List.getElem?_inj (by simpa using hjl) hg2).1 (e1.trans e2.symm)
  · simp only [List.length_map] at hk
    have hkx : acc[k]? = some acc[k] := List.getElem?_eq_getElem hk
    simp only [LrOf, hkx, Option.bind_some] at hL
    obtain ⟨es1, n1, h1, _⟩ := hget k _ hkx
    rcases hs.own B ⟨_, by rw [h1]; rfl, hL⟩ with ho | ho
    · exact (hno B ho).elim
    · exact ho
  · simp only [List.getElem?_map] at hk
    cases ek : acc[k]? with
    | none => rw [ek] at hk; cases hk
    | some x =>
      rw [ek] at hk
      obtain ⟨_, _, _, _, h3⟩ := hget k x ek
      simp at hk
      rw [hk] at h3; exact h3
end Go.Ev
end
