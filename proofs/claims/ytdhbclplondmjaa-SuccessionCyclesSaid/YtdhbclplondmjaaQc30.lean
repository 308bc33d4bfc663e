/- Texts of one's own, laid together: X25, X26, X27 -/
import Derived.Test.YtdhbclplondmjaaQc29
import Derived.Test.YtdhbclplondmjaaQc26
import Derived.Test.YtdhbclplondmjaaQc27
import Derived.Test.YtdhbclplondmjaaQc28
section
/- The law's search for a cycle, run. -/
set_option linter.unusedVariables false
set_option linter.unusedSimpArgs false
set_option maxRecDepth 100000
set_option maxHeartbeats 4000000
namespace Go.Proofs.Ytdhbclplondmjaa.C
open Go.RowKit Go.Sort

theorem ev_sneF {s : List Value} {H : Heap} {t t2 : TypeId} {x y : Operand} {a b : Nm} (h : a = b) (hx : ev s x = str a) (hy : ev s y = str b) : opEval tab s H (.binOp .neq t x y t2) = some (.bool false, H) := by
  subst h
  simp [opEval, binOp, hx, hy, binStr]
theorem ev_sneT {s : List Value} {H : Heap} {t t2 : TypeId} {x y : Operand} {a b : Nm} (h : ¬ a = b) (hx : ev s x = str a) (hy : ev s y = str b) : opEval tab s H (.binOp .neq t x y t2) = some (.bool true, H) := by
  simp only [opEval, hx, hy, binOp, binStr, str_eq, decide_eq_false h, Bool.not_false, Option.map_some]

theorem next_at {l : List Rel} {k q : Nat} {c : Arc} (hc : c ∈ nextOf (arcsOf l) q) (e : c.i = k) : ∃ h : k < l.length, l[k].kind ≠ 4 ∧ idx (unitsP l) l[k].lo = q := by
  obtain ⟨h1, h2⟩ := next_mem.1 hc
  obtain ⟨j, hj, _, h4, rfl⟩ := arcs_mem.1 h1
  have e : j = k := e
  subst e
  exact ⟨hj, h4, h2⟩
theorem at_next {l : List Rel} {k q : Nat} (h : k < l.length) (h4 : ¬ l[k].kind = 4) (hq : idx (unitsP l) l[k].lo = q) : ∃ b, b ∈ nextOf (arcsOf l) q ∧ b.i = k ∧ b.up = idx (unitsP l) l[k].up :=
  ⟨⟨k, idx (unitsP l) l[k].lo, idx (unitsP l) l[k].up⟩, next_mem.2 ⟨arcs_mem.2 ⟨k, h, h, h4, rfl⟩, hq⟩, rfl, rfl⟩

theorem closing_runs (d : Nat) : ∀ {H : Heap} {v cv : Value} {l : List Rel} {n q : Nat} {a : Arc} {cs : List Arc}, n - cs.length = d → cs.length ≤ n → Sl H 3 v (rels l) → Sl H 1 cv (List.map encN (List.map Arc.i cs)) → l.length ≤ 8 → n ≤ 6 → Trail (arcsOf l) a q cs → NoLess (arcsOf l) n →
    ∃ r H1, big tab 37 [v, cv, nat n] H = some (r, H1) ∧ Ext H H1 ∧ Sl H1 1 r (List.map encN (closeR (arcsOf l) a q n cs)) := by
  induction d using Nat.strongRecOn with
  | _ d ih =>
    intro H v cv l n q a cs hd hcn hl hc hll hn6 hT hN
    have hpos := hT.pos
    obtain ⟨ha1, ha2, ha3⟩ := arc_at (by have := hT.mem _ (List.getElem_mem hpos); rw [hT.fst] at this; exact this : a ∈ arcsOf l)
    obtain ⟨zi, hzi, hz, hzu⟩ : ∃ zi, zi = (cs[cs.length - 1]).i ∧ ∃ hz : zi < l.length, idx (unitsP l) l[zi].up = q := by
      obtain ⟨h1, h2, h3⟩ := arc_at (hT.mem _ (List.getElem_mem (show cs.length - 1 < cs.length by omega)))
      exact ⟨_, rfl, h1, by rw [← h3]; exact hT.last⟩
    have hM := Mem.start H
    refine big_of_runs rfl rfl rfl ?_
    obtain ⟨z, hz⟩ := startC_mkS Try.f37 [v, cv, nat n]
    rw [show startC (37, Try.f37).snd [v, cv, nat n] = _ from hz]
    clear hz
    refine Runs.cut (n := 99) (l := [(0, v), (1, cv), (2, nat n)]) (Is.of ⟨rfl, rfl, rfl, rfl, rfl, rfl, trivial⟩) (fun a0 => ?_)
    refine Runs.seq ?_
    refine Runs.region ?_
    refine Rg.opp (v := .slice none 0 0) rfl rfl rfl rfl rfl ?_
    refine Rg.nil ?_
    refine Runs.seq ?_
    refine Runs.region ?_
    refine Rg.opp (v := v) rfl rfl rfl rfl rfl ?_
    refine Rg.opp (v := cv) rfl rfl rfl rfl rfl ?_
    refine Rg.opp (v := cv) rfl rfl rfl rfl rfl ?_
    refine Rg.opp (v := nat cs.length) rfl rfl rfl (by rw [show cs.length = (List.map Arc.i cs).length by simp]; exact ev_lenM (hc.sees hM.ext.sees) rfl rfl) rfl ?_
    refine Rg.opp (v := nat (cs.length - 1)) rfl rfl rfl (ev_subN (a := cs.length) (b := 1) rfl rfl (by omega) (by omega)) rfl ?_
    refine Rg.opp (v := ptrAt (sAddr cv) ((cs.length - 1) * 1)) rfl rfl rfl (ev_idxM (k := cs.length - 1) (hc.sees hM.ext.sees) rfl rfl (by rw [List.length_map]; omega) rfl rfl rfl (by decide)) rfl ?_
    refine Rg.opp (v := nat zi) rfl rfl rfl (ev_ldM (k := (cs.length - 1)) (hc.sees hM.ext.sees) rfl (by rw [List.length_map]; omega) (by simp [hzi]) rfl rfl rfl) rfl ?_
    refine Rg.opp (v := ptrAt (sAddr v) (zi * 3)) rfl rfl rfl (ev_idxM (k := zi) (hl.sees hM.ext.sees) rfl rfl (hz) rfl rfl rfl (by decide)) rfl ?_
    refine Rg.opp (v := ptrAt (sAddr v) (zi * 3 + 1)) rfl rfl rfl (ev_fldM (k := zi) (m := zi * 3) (q := (9, 1)) (hl.sees hM.ext.sees) rfl (hz) rfl rfl rfl rfl (by decide)) rfl ?_
    refine Rg.opp (v := str (l[zi].up)) rfl rfl rfl (ev_ldfM (k := zi) (hl.sees hM.ext.sees) rfl (hz) rfl rfl rfl rfl) rfl ?_
    refine Rg.opp (v := str (l[zi].up)) rfl rfl rfl rfl rfl ?_
    refine Rg.nil ?_
    refine Runs.seq ?_
    refine Runs.seq ?_
    refine Runs.region ?_
    refine Rg.opp (v := cv) rfl rfl rfl rfl rfl ?_
    refine Rg.opp (v := nat cs.length) rfl rfl rfl (by rw [show cs.length = (List.map Arc.i cs).length by simp]; exact ev_lenM (hc.sees hM.ext.sees) rfl rfl) rfl ?_
    refine Rg.opp (v := nat n) rfl rfl rfl rfl rfl ?_
    by_cases hcn2 : cs.length = n
    · skip
      refine Rg.opp (v := .bool true) rfl rfl rfl (ev_eqT rfl rfl (hcn2)) rfl ?_
      refine Rg.nil ?_
      refine Runs.cond true rfl (fun _ => ?_) (fun h => by cases h)
      refine Runs.seq ?_
      refine Runs.seq ?_
      refine Runs.region ?_
      refine Rg.opp (v := str (l[zi].up)) rfl rfl rfl rfl rfl ?_
      refine Rg.opp (v := v) rfl rfl rfl rfl rfl ?_
      refine Rg.opp (v := cv) rfl rfl rfl rfl rfl ?_
      refine Rg.opp (v := ptrAt (sAddr cv) (0 * 1)) rfl rfl rfl (ev_idxM (k := 0) (hc.sees hM.ext.sees) rfl rfl (by rw [List.length_map]; omega) rfl rfl rfl (by decide)) rfl ?_
      refine Rg.opp (v := nat a.i) rfl rfl rfl (ev_ldM (k := 0) (hc.sees hM.ext.sees) rfl (by rw [List.length_map]; omega) (by simp [hT.fst]) rfl rfl rfl) rfl ?_
      refine Rg.opp (v := ptrAt (sAddr v) (a.i * 3)) rfl rfl rfl (ev_idxM (k := a.i) (hl.sees hM.ext.sees) rfl rfl (ha1) rfl rfl rfl (by decide)) rfl ?_
      refine Rg.opp (v := ptrAt (sAddr v) (a.i * 3 + 2)) rfl rfl rfl (ev_fldM (k := a.i) (m := a.i * 3) (q := (9, 2)) (hl.sees hM.ext.sees) rfl (ha1) rfl rfl rfl rfl (by decide)) rfl ?_
      refine Rg.opp (v := str (l[a.i].lo)) rfl rfl rfl (ev_ldfM (k := a.i) (hl.sees hM.ext.sees) rfl (ha1) rfl rfl rfl rfl) rfl ?_
      by_cases heq : l[zi].up = l[a.i].lo
      · skip
        refine Rg.opp (v := .bool true) rfl rfl rfl (ev_seqB (decide_eq_true heq) rfl rfl) rfl ?_
        refine Rg.nil ?_
        refine Runs.cond true rfl (fun _ => ?_) (fun h => by cases h)
        refine Runs.seq ?_
        refine Runs.region ?_
        refine Rg.opp (v := cv) rfl rfl rfl rfl rfl ?_
        refine Rg.opp (v := cv) rfl rfl rfl rfl rfl ?_
        refine Rg.nil ?_
        refine Runs.ret ?_
        refine ⟨cv, rfl, ?_⟩
        refine ⟨hM.ext, ?_⟩
        rw [show q = a.lo by rw [← hzu, ha2, heq], closeR_end_T hcn2]
        exact hc.sees hM.ext.sees
      · skip
        refine Rg.opp (v := .bool false) rfl rfl rfl (ev_seqB (decide_eq_false heq) rfl rfl) rfl ?_
        refine Rg.nil ?_
        refine Runs.cond false rfl (fun h => by cases h) (fun _ => ?_)
        refine Runs.skip ?_
        refine Runs.seq ?_
        refine Runs.region ?_
        refine Rg.opp (v := .slice none 0 0) rfl rfl rfl rfl rfl ?_
        refine Rg.nil ?_
        refine Runs.ret ?_
        refine ⟨.slice none 0 0, rfl, ?_⟩
        refine ⟨hM.ext, ?_⟩
        rw [closeR_end_F hcn2 (fun e => heq (idx_inj (up_unit hz) (lo_unit ha1) (by rw [hzu, e, ha2])))]
        exact ⟨none, 0, rfl, Nat.le_refl _, .inl rfl⟩
    · skip
      have hlt : cs.length < n := by omega
      refine Rg.opp (v := .bool false) rfl rfl rfl (ev_eqF rfl rfl (hcn2)) rfl ?_
      refine Rg.nil ?_
      refine Runs.cond false rfl (fun h => by cases h) (fun _ => ?_)
      refine Runs.skip ?_
      refine Runs.seq ?_
      refine Runs.seq ?_
      refine Runs.region ?_
      refine Rg.opp (v := cv) rfl rfl rfl rfl rfl ?_
      refine Rg.opp (v := ptrAt (sAddr cv) (0 * 1)) rfl rfl rfl (ev_idxM (k := 0) (hc.sees hM.ext.sees) rfl rfl (by rw [List.length_map]; omega) rfl rfl rfl (by decide)) rfl ?_
      refine Rg.opp (v := nat a.i) rfl rfl rfl (ev_ldM (k := 0) (hc.sees hM.ext.sees) rfl (by rw [List.length_map]; omega) (by simp [hT.fst]) rfl rfl rfl) rfl ?_
      refine Rg.opp (v := nat (a.i + 1)) rfl rfl rfl (ev_addN (b := 1) rfl rfl (by omega)) rfl ?_
      refine Rg.opp (v := nat (a.i + 1)) rfl rfl rfl rfl rfl ?_
      refine Rg.nil ?_
      refine Runs.block ?_
      refine Runs.loop (fun m s Hc => ∃ (k : Nat), m = l.length - k ∧ Mem H Hc ([]) ∧ (a.i + 1 ≤ k) ∧ (k ≤ l.length) ∧ (∀ c ∈ nextOf (arcsOf l) q, a.i < c.i → c.i < k → closeR (arcsOf l) a c.up n (cs ++ [c]) = []) ∧ Is s 99 [(0, v), (1, cv), (2, nat n), (7, str (l[zi].up)), (8, nat k)]) _
        ⟨a.i + 1, rfl, hM, Nat.le_refl _, ha1, (fun c hc h1 h2 => by omega), Is.of ⟨rfl, rfl, rfl, rfl, rfl, rfl, rfl, rfl, rfl, rfl, trivial⟩⟩ ?_
      rintro m s Hc ⟨k, rfl, hM, hk0, hk1, hno, hs⟩
      obtain ⟨a1, rfl⟩ := hs.mk1
      clear hs
      refine Runs.seq ?_
      refine Runs.seq ?_
      refine Runs.region ?_
      refine Rg.opp (v := nat k) rfl rfl rfl rfl rfl ?_
      refine Rg.opp (v := v) rfl rfl rfl rfl rfl ?_
      refine Rg.opp (v := nat l.length) rfl rfl rfl (ev_lenM (hl.sees hM.ext.sees) rfl rfl) rfl ?_
      by_cases hkl : k < l.length
      · skip
        refine Rg.opp (v := .bool true) rfl rfl rfl (ev_ltT rfl rfl (hkl)) rfl ?_
        refine Rg.nil ?_
        refine Runs.cond true rfl (fun _ => ?_) (fun h => by cases h)
        refine Runs.skip ?_
        refine Runs.seq ?_
        refine Runs.block ?_
        refine Runs.seq ?_
        refine Runs.seq ?_
        refine Runs.region ?_
        refine Rg.opp (v := v) rfl rfl rfl rfl rfl ?_
        refine Rg.opp (v := nat k) rfl rfl rfl rfl rfl ?_
        refine Rg.opp (v := ptrAt (sAddr v) (k * 3)) rfl rfl rfl (ev_idxM (k := k) (hl.sees hM.ext.sees) rfl rfl (hkl) rfl rfl rfl (by decide)) rfl ?_
        refine Rg.opp (v := .agg (relC (l[k])).toArray) rfl rfl rfl (ev_ldAM (k := k) (hl.sees hM.ext.sees) rfl (hkl) rfl rfl rfl) rfl ?_
        by_cases hk4 : l[k].kind = 4
        · skip
          refine Rg.calls (v := .bool false) rfl rfl rfl rfl (rfl) rfl (arc_F _ _ _ hk4) ?_
          refine Rg.opp (v := .bool true) rfl rfl rfl rfl rfl ?_
          refine Rg.opp (v := .bool true) rfl rfl rfl rfl rfl ?_
          refine Rg.guards false rfl rfl rfl (fun h => by cases h) (fun _ => ?_)
          refine Rg.guards false rfl rfl rfl (fun h => by cases h) (fun _ => ?_)
          refine Rg.guards false rfl rfl rfl (fun h => by cases h) (fun _ => ?_)
          refine Rg.guards false rfl rfl rfl (fun h => by cases h) (fun _ => ?_)
          refine Rg.guards false rfl rfl rfl (fun h => by cases h) (fun _ => ?_)
          refine Rg.guards false rfl rfl rfl (fun h => by cases h) (fun _ => ?_)
          refine Rg.guards false rfl rfl rfl (fun h => by cases h) (fun _ => ?_)
          refine Rg.opp (v := .bool true) rfl rfl rfl rfl rfl ?_
          refine Rg.nil ?_
          refine Runs.cond true rfl (fun _ => ?_) (fun h => by cases h)
          refine Runs.exit ?_
          refine Runs.region ?_
          refine Rg.opp (v := nat k) rfl rfl rfl rfl rfl ?_
          refine Rg.opp (v := nat (k + 1)) rfl rfl rfl (ev_addN (b := 1) rfl rfl (by omega)) rfl ?_
          refine Rg.opp (v := nat (k + 1)) rfl rfl rfl rfl rfl ?_
          refine Rg.nil ?_
          refine ⟨l.length - (k + 1), by omega, k + 1, rfl, hM, (by omega), hkl, (fun c hc h1 h2 => by
            rcases Nat.lt_or_ge c.i k with z | z
            · exact hno c hc h1 z
            · obtain ⟨h3, h4, h5⟩ := next_at hc (show c.i = k by omega)
              exact absurd hk4 h4), Is.of ⟨rfl, rfl, rfl, rfl, rfl, rfl, rfl, rfl, rfl, rfl, trivial⟩⟩
        · skip
          refine Rg.calls (v := .bool true) rfl rfl rfl rfl (rfl) rfl (arc_T _ _ _ hk4) ?_
          refine Rg.opp (v := .bool false) rfl rfl rfl rfl rfl ?_
          refine Rg.opp (v := .bool false) rfl rfl rfl rfl rfl ?_
          refine Rg.guards true rfl rfl rfl (fun _ => ⟨v, _, evW_op (rfl), rfl, ?_⟩) (fun h => by cases h)
          refine Rg.guards true rfl rfl rfl (fun _ => ⟨nat k, _, evW_op (rfl), rfl, ?_⟩) (fun h => by cases h)
          refine Rg.guards true rfl rfl rfl (fun _ => ⟨ptrAt (sAddr v) (k * 3), _, evW_op (ev_idxM (k := k) (hl.sees hM.ext.sees) rfl rfl (hkl) rfl rfl rfl (by decide)), rfl, ?_⟩) (fun h => by cases h)
          refine Rg.guards true rfl rfl rfl (fun _ => ⟨ptrAt (sAddr v) (k * 3 + 2), _, evW_op (ev_fldM (k := k) (m := k * 3) (q := (9, 2)) (hl.sees hM.ext.sees) rfl (hkl) rfl rfl rfl rfl (by decide)), rfl, ?_⟩) (fun h => by cases h)
          refine Rg.guards true rfl rfl rfl (fun _ => ⟨str (l[k].lo), _, evW_op (ev_ldfM (k := k) (hl.sees hM.ext.sees) rfl (hkl) rfl rfl rfl rfl), rfl, ?_⟩) (fun h => by cases h)
          refine Rg.guards true rfl rfl rfl (fun _ => ⟨str (l[zi].up), _, evW_op (rfl), rfl, ?_⟩) (fun h => by cases h)
          by_cases hlz : l[k].lo = l[zi].up
          · skip
            refine Rg.guards true rfl rfl rfl (fun _ => ⟨.bool false, _, evW_op (ev_sneF hlz rfl rfl), rfl, ?_⟩) (fun h => by cases h)
            refine Rg.opp (v := .bool false) rfl rfl rfl rfl rfl ?_
            refine Rg.nil ?_
            refine Runs.cond false rfl (fun h => by cases h) (fun _ => ?_)
            refine Runs.skip ?_
            refine Runs.seq ?_
            refine Runs.region ?_
            refine Rg.opp (v := .bool true) rfl rfl rfl rfl rfl ?_
            refine Rg.nil ?_
            refine Runs.seq ?_
            refine Runs.seq ?_
            refine Runs.region ?_
            refine Rg.opp (v := nat 0) rfl rfl rfl rfl rfl ?_
            refine Rg.nil ?_
            refine Runs.block ?_
            refine Runs.loop (fun m s Hc => ∃ (j : Nat), m = cs.length - j ∧ Mem H Hc ([]) ∧ (j ≤ cs.length) ∧ Is s 99 [(0, v), (1, cv), (2, nat n), (7, str (l[zi].up)), (8, nat k), (9, .bool true), (10, nat j)]) _
              ⟨0, rfl, hM, Nat.zero_le _, Is.of ⟨rfl, rfl, rfl, rfl, rfl, rfl, rfl, rfl, rfl, rfl, rfl, rfl, rfl, rfl, trivial⟩⟩ ?_
            rintro m s Hc ⟨j, rfl, hM, hj, hs⟩
            obtain ⟨a2, rfl⟩ := hs.mk1
            clear hs
            refine Runs.seq ?_
            refine Runs.seq ?_
            refine Runs.region ?_
            refine Rg.opp (v := nat j) rfl rfl rfl rfl rfl ?_
            refine Rg.opp (v := cv) rfl rfl rfl rfl rfl ?_
            refine Rg.opp (v := nat cs.length) rfl rfl rfl (by rw [show cs.length = (List.map Arc.i cs).length by simp]; exact ev_lenM (hc.sees hM.ext.sees) rfl rfl) rfl ?_
            by_cases hjc : j < cs.length
            · skip
              obtain ⟨hj1, hj2, hj3⟩ := arc_at (hT.mem _ (List.getElem_mem hjc))
              have hfr : ¬ l[cs[j].i].lo = l[k].lo := fun e => hT.fresh hN hlt hjc (by rw [hj2, e, hlz, hzu])
              refine Rg.opp (v := .bool true) rfl rfl rfl (ev_ltT rfl rfl (hjc)) rfl ?_
              refine Rg.nil ?_
              refine Runs.cond true rfl (fun _ => ?_) (fun h => by cases h)
              refine Runs.skip ?_
              refine Runs.seq ?_
              refine Runs.block ?_
              refine Runs.drawn (is := [0, 1, 2, 3, 4, 5, 6, 7, 8, 9, 10, 11, 12, 13, 14, 15, 16, 17]) (by decide +kernel) ?_
              refine Rg.opp (v := .bool true) rfl rfl rfl rfl rfl ?_
              refine Rg.opp (v := .bool true) rfl rfl rfl rfl rfl ?_
              refine Rg.guards true rfl rfl rfl (fun _ => ⟨v, _, evW_op (rfl), rfl, ?_⟩) (fun h => by cases h)
              refine Rg.guards true rfl rfl rfl (fun _ => ⟨cv, _, evW_op (rfl), rfl, ?_⟩) (fun h => by cases h)
              refine Rg.guards true rfl rfl rfl (fun _ => ⟨nat j, _, evW_op (rfl), rfl, ?_⟩) (fun h => by cases h)
              refine Rg.guards true rfl rfl rfl (fun _ => ⟨ptrAt (sAddr cv) (j * 1), _, evW_op (ev_idxM (k := j) (hc.sees hM.ext.sees) rfl rfl (by rw [List.length_map]; omega) rfl rfl rfl (by decide)), rfl, ?_⟩) (fun h => by cases h)
              refine Rg.guards true rfl rfl rfl (fun _ => ⟨nat (cs[j].i), _, evW_op (ev_ldM (k := j) (hc.sees hM.ext.sees) rfl (by rw [List.length_map]; omega) (by simp) rfl rfl rfl), rfl, ?_⟩) (fun h => by cases h)
              refine Rg.guards true rfl rfl rfl (fun _ => ⟨ptrAt (sAddr v) ((cs[j].i) * 3), _, evW_op (ev_idxM (k := cs[j].i) (hl.sees hM.ext.sees) rfl rfl (hj1) rfl rfl rfl (by decide)), rfl, ?_⟩) (fun h => by cases h)
              refine Rg.guards true rfl rfl rfl (fun _ => ⟨ptrAt (sAddr v) ((cs[j].i) * 3 + 2), _, evW_op (ev_fldM (k := (cs[j].i)) (m := (cs[j].i) * 3) (q := (9, 2)) (hl.sees hM.ext.sees) rfl (hj1) rfl rfl rfl rfl (by decide)), rfl, ?_⟩) (fun h => by cases h)
              refine Rg.guards true rfl rfl rfl (fun _ => ⟨str (l[(cs[j].i)].lo), _, evW_op (ev_ldfM (k := (cs[j].i)) (hl.sees hM.ext.sees) rfl (hj1) rfl rfl rfl rfl), rfl, ?_⟩) (fun h => by cases h)
              refine Rg.guards true rfl rfl rfl (fun _ => ⟨v, _, evW_op (rfl), rfl, ?_⟩) (fun h => by cases h)
              refine Rg.guards true rfl rfl rfl (fun _ => ⟨nat k, _, evW_op (rfl), rfl, ?_⟩) (fun h => by cases h)
              refine Rg.guards true rfl rfl rfl (fun _ => ⟨ptrAt (sAddr v) (k * 3), _, evW_op (ev_idxM (k := k) (hl.sees hM.ext.sees) rfl rfl (hkl) rfl rfl rfl (by decide)), rfl, ?_⟩) (fun h => by cases h)
              refine Rg.guards true rfl rfl rfl (fun _ => ⟨ptrAt (sAddr v) (k * 3 + 2), _, evW_op (ev_fldM (k := k) (m := k * 3) (q := (9, 2)) (hl.sees hM.ext.sees) rfl (hkl) rfl rfl rfl rfl (by decide)), rfl, ?_⟩) (fun h => by cases h)
              refine Rg.guards true rfl rfl rfl (fun _ => ⟨str (l[k].lo), _, evW_op (ev_ldfM (k := k) (hl.sees hM.ext.sees) rfl (hkl) rfl rfl rfl rfl), rfl, ?_⟩) (fun h => by cases h)
              refine Rg.guards true rfl rfl rfl (fun _ => ⟨.bool true, _, evW_op (ev_sneT hfr rfl rfl), rfl, ?_⟩) (fun h => by cases h)
              refine Rg.opp (v := .bool true) rfl rfl rfl rfl rfl ?_
              refine Rg.opp (v := .bool true) rfl rfl rfl rfl rfl ?_
              refine Rg.nil ?_
              refine Runs.region ?_
              refine Rg.opp (v := nat j) rfl rfl rfl rfl rfl ?_
              refine Rg.opp (v := nat (j + 1)) rfl rfl rfl (ev_addN (b := 1) rfl rfl (by omega)) rfl ?_
              refine Rg.opp (v := nat (j + 1)) rfl rfl rfl rfl rfl ?_
              refine Rg.nil ?_
              refine ⟨cs.length - (j + 1), by omega, j + 1, rfl, hM, hjc, Is.of ⟨rfl, rfl, rfl, rfl, rfl, rfl, rfl, rfl, rfl, rfl, rfl, rfl, rfl, rfl, trivial⟩⟩
            · skip
              refine Rg.opp (v := .bool false) rfl rfl rfl (ev_ltF rfl rfl (hjc)) rfl ?_
              refine Rg.nil ?_
              refine Runs.cond false rfl (fun h => by cases h) (fun _ => ?_)
              refine Runs.exit ?_
              refine Runs.seq ?_
              refine Runs.seq ?_
              refine Runs.region ?_
              refine Rg.opp (v := .bool true) rfl rfl rfl rfl rfl ?_
              refine Rg.opp (v := .bool false) rfl rfl rfl rfl rfl ?_
              refine Rg.nil ?_
              refine Runs.cond false rfl (fun h => by cases h) (fun _ => ?_)
              refine Runs.skip ?_
              refine Runs.seq ?_
              refine Runs.region ?_
              refine Rg.opp (v := v) rfl rfl rfl rfl rfl ?_
              obtain ⟨b, hbn, hbi, hbu⟩ := at_next hkl hk4 (show idx (unitsP l) l[k].lo = q by rw [hlz]; exact hzu)
              refine Rg.lit0 (sz := 1) hM rfl rfl rfl rfl rfl (fun u0 Hc hM hgv => ?_)
              refine Rg.opp (v := cv) rfl rfl rfl rfl rfl ?_
              refine Rg.appM (f := encN) (sz := 1) (j := 0) (v := u0) (xs := ([] : List Nat)) (ys := List.map Arc.i cs) hM rfl rfl rfl rfl rfl rfl rfl (hc.sees hM.ext.sees) ⟨rfl, rfl, rfl, by decide⟩ rfl (by simp [oneCell]) (by show (_ + _) * 8 ≤ 2 ^ 40; simp only [List.length_nil, List.length_map]; omega) (by intro h; have := congrArg List.length h; simp only [List.length_map, List.length_nil] at this; omega) (fun u1 Hc (hM : Mem H Hc ([.sl 1 u1 (List.map encN ((([] : List Nat)) ++ (List.map Arc.i cs)))])) hgr => ?_)
              replace hM : Mem H Hc ([.sl 1 u1 (List.map encN (List.map Arc.i cs))]) := hM
              refine Rg.opp (v := nat k) rfl rfl rfl rfl rfl ?_
              refine Rg.lit (f := encN) (sz := 1) (xs := [k]) hM rfl rfl rfl rfl rfl (by simp) (by simp) (fun u3 Hc (hM : Mem H Hc ([.sl 1 u3 (List.map encN ([k])), .sl 1 u1 (List.map encN (List.map Arc.i cs))])) _ => ?_)
              refine Rg.appM (f := encN) (sz := 1) (j := 1) (v := u1) (xs := List.map Arc.i cs) (ys := [k]) hM rfl rfl rfl rfl rfl rfl rfl (hM.get_sl (j := 0) rfl) ⟨rfl, rfl, rfl, by decide⟩ rfl (by simp [oneCell]) (by show (_ + _) * 8 ≤ 2 ^ 40; simp only [List.length_nil, List.length_cons, List.length_map]; omega) (by simp) (fun u2 Hc (hM : Mem H Hc ([.sl 1 u3 (List.map encN ([k])), .sl 1 u2 (List.map encN ((List.map Arc.i cs) ++ ([k])))])) hgr => ?_)
              replace hM : Mem H Hc ([.sl 1 u3 (List.map encN ([k])), .sl 1 u2 (List.map encN (List.map Arc.i (cs ++ [b])))]) := by rw [List.map_append, show List.map Arc.i [b] = [k] by simp [hbi]]; exact hM
              replace hM : Mem H _ ([.sl 1 u2 (List.map encN (List.map Arc.i (cs ++ [b])))]) := hM.erase 0
              refine Rg.opp (v := nat n) rfl rfl rfl rfl rfl ?_
              refine Rg.callW rfl rfl rfl rfl (rfl) rfl (ih (n - (cs ++ [b]).length) (by simp only [List.length_append, List.length_cons, List.length_nil]; omega) rfl (by simp only [List.length_append, List.length_cons, List.length_nil]; omega) (hl.sees hM.ext.sees) (hM.get_sl (j := 0) rfl) hll hn6 (hT.step (next_mem.1 hbn).1 (next_mem.1 hbn).2) hN) (fun fv Hf hP => ?_)
              obtain ⟨hef, hfs⟩ := hP
              replace hM := hM.more hef
              refine Rg.opp (v := fv) rfl rfl rfl rfl rfl ?_
              refine Rg.nil ?_
              refine Runs.seq ?_
              refine Runs.region ?_
              refine Rg.opp (v := fv) rfl rfl rfl rfl rfl ?_
              refine Rg.opp (v := nat ((closeR (arcsOf l) a b.up n (cs ++ [b])).length)) rfl rfl rfl (ev_lenM (hfs) rfl rfl) rfl ?_
              by_cases hfound : 0 < (closeR (arcsOf l) a b.up n (cs ++ [b])).length
              · skip
                refine Rg.opp (v := .bool true) rfl rfl rfl (ev_gtT rfl rfl (hfound)) rfl ?_
                refine Rg.nil ?_
                refine Runs.cond true rfl (fun _ => ?_) (fun h => by cases h)
                refine Runs.seq ?_
                refine Runs.region ?_
                refine Rg.opp (v := fv) rfl rfl rfl rfl rfl ?_
                refine Rg.opp (v := fv) rfl rfl rfl rfl rfl ?_
                refine Rg.nil ?_
                refine Runs.ret ?_
                refine ⟨fv, rfl, ?_⟩
                refine ⟨hM.ext, ?_⟩
                rw [← closeR_step hT hN hlt hbn (by omega) (fun c hc h1 h2 => hno c hc h1 (by omega)) (by intro e; rw [e] at hfound; simp at hfound)]
                exact hfs
              · skip
                refine Rg.opp (v := .bool false) rfl rfl rfl (ev_gtF rfl rfl (hfound)) rfl ?_
                refine Rg.nil ?_
                refine Runs.cond false rfl (fun h => by cases h) (fun _ => ?_)
                refine Runs.skip ?_
                refine Runs.region ?_
                refine Rg.opp (v := nat k) rfl rfl rfl rfl rfl ?_
                refine Rg.opp (v := nat (k + 1)) rfl rfl rfl (ev_addN (b := 1) rfl rfl (by omega)) rfl ?_
                refine Rg.opp (v := nat (k + 1)) rfl rfl rfl rfl rfl ?_
                refine Rg.nil ?_
                refine ⟨l.length - (k + 1), by omega, k + 1, rfl, hM.drop 1, (by omega), hkl, (fun c hc h1 h2 => by
                  rcases Nat.lt_or_ge c.i k with z | z
                  · exact hno c hc h1 z
                  · obtain ⟨h3, h4, h5⟩ := next_at hc (show c.i = k by omega)
                    rw [arcs_one l c (next_mem.1 hc).1 b (next_mem.1 hbn).1 (by omega)]
                    exact List.length_eq_zero_iff.1 (by omega)), Is.of ⟨rfl, rfl, rfl, rfl, rfl, rfl, rfl, rfl, rfl, rfl, trivial⟩⟩
          · skip
            refine Rg.guards true rfl rfl rfl (fun _ => ⟨.bool true, _, evW_op (ev_sneT hlz rfl rfl), rfl, ?_⟩) (fun h => by cases h)
            refine Rg.opp (v := .bool true) rfl rfl rfl rfl rfl ?_
            refine Rg.nil ?_
            refine Runs.cond true rfl (fun _ => ?_) (fun h => by cases h)
            refine Runs.exit ?_
            refine Runs.region ?_
            refine Rg.opp (v := nat k) rfl rfl rfl rfl rfl ?_
            refine Rg.opp (v := nat (k + 1)) rfl rfl rfl (ev_addN (b := 1) rfl rfl (by omega)) rfl ?_
            refine Rg.opp (v := nat (k + 1)) rfl rfl rfl rfl rfl ?_
            refine Rg.nil ?_
            refine ⟨l.length - (k + 1), by omega, k + 1, rfl, hM, (by omega), hkl, (fun c hc h1 h2 => by
              rcases Nat.lt_or_ge c.i k with z | z
              · exact hno c hc h1 z
              · obtain ⟨h3, h4, h5⟩ := next_at hc (show c.i = k by omega)
                exact absurd (idx_inj (lo_unit h3) (up_unit hz) (h5.trans hzu.symm)) hlz), Is.of ⟨rfl, rfl, rfl, rfl, rfl, rfl, rfl, rfl, rfl, rfl, trivial⟩⟩
      · skip
        refine Rg.opp (v := .bool false) rfl rfl rfl (ev_ltF rfl rfl (hkl)) rfl ?_
        refine Rg.nil ?_
        refine Runs.cond false rfl (fun h => by cases h) (fun _ => ?_)
        refine Runs.exit ?_
        refine Runs.seq ?_
        refine Runs.region ?_
        refine Rg.opp (v := .slice none 0 0) rfl rfl rfl rfl rfl ?_
        refine Rg.nil ?_
        refine Runs.ret ?_
        refine ⟨.slice none 0 0, rfl, ?_⟩
        refine ⟨hM.ext, ?_⟩
        rw [closeR_none hlt (fun c hc h1 => hno c hc h1 (by obtain ⟨h3, _⟩ := arc_at (next_mem.1 hc).1; omega))]
        exact ⟨none, 0, rfl, Nat.le_refl _, .inl rfl⟩


end Go.Proofs.Ytdhbclplondmjaa.C

end

section
/- The law's cycle, run. -/
set_option linter.unusedVariables false
set_option linter.unusedSimpArgs false
set_option maxRecDepth 100000
set_option maxHeartbeats 4000000
namespace Go.Proofs.Ytdhbclplondmjaa.C
open Go.RowKit Go.Sort

theorem distF_lt {n to : Nat} {arcs : List Arc} (wf : WF n arcs) (hto : to < n) (t : Int) (x : Nat) : distF (abv arcs t) to x + 1 ≤ n := by
  obtain ⟨g, hg, hc⟩ := Dist.ex wf (Dist.start (arcs := arcs) (above := t) hto)
  rw [← hg.done hc x]
  rcases Nat.lt_or_ge x n with q | q
  · have := hg.lt x q
    have := knownN_le g n
    omega
  · rcases Int.lt_or_le (g x) 1 with z | z
    · omega
    · have hw := hg.walk x (by omega)
      rw [show (g x).toNat = ((g x).toNat - 1) + 1 by omega] at hw
      obtain ⟨y, hy, _⟩ := hw.head
      obtain ⟨b, hb, e⟩ := List.mem_map.1 hy
      have e1 : b.lo = x := (Prod.mk.inj e).1
      have := wf.lo b (List.mem_filter.1 hb).1
      omega

structure FC (l : List Rel) (ls : Nat) (a : Arc) : Prop where
  ha : a ∈ arcsOf l
  st : distF (abv (arcsOf l) ((a.i : Nat) : Int)) a.lo a.up = (ls : Int) - 1
  no : ∀ b ∈ arcsOf l, b.i < a.i → distF (abv (arcsOf l) ((b.i : Nat) : Int)) b.lo b.up ≠ (ls : Int) - 1
  min : NoLess (arcsOf l) ls
  two : 2 ≤ ls
  six : ls ≤ 6

theorem FirstC.fc {l : List Rel} {c : List Nat} (sly : Seenly l) (h : FirstC (arcsOf l) c) : ∃ ls a, FC l ls a ∧ c = a.i :: greedy (arcsOf l) a a.up (ls - 1) := by
  obtain ⟨ls, hL, h0, j, hj, hs, hno, rfl⟩ := h
  have hnn := hL.nn
  have hm := List.getElem_mem hj
  have hlt := distF_lt (arcs_wf l) ((arcs_wf l).lo _ hm) (((arcsOf l)[j].i : Nat) : Int) (arcsOf l)[j].up
  have hsu := sly.units
  unfold Start at hs hno
  refine ⟨ls.toNat, (arcsOf l)[j], ⟨hm, by omega, fun b hb hbi => ?_, fun m x hm w => ?_, ?_, by omega⟩, ?_⟩
  · obtain ⟨k, hk, rfl⟩ := List.mem_iff_getElem.1 hb
    have hkj : k < j := by
      refine Classical.byContradiction fun q => ?_
      rcases Nat.eq_or_lt_of_le (Nat.le_of_not_lt q) with e | e
      · subst e; exact Nat.lt_irrefl _ hbi
      · have := List.pairwise_iff_getElem.1 (arcsUp_sorted l (Nat.le_refl _)) j k hj hk e
        exact Nat.lt_asymm hbi this
    have := hno k hk hkj
    omega
  · have := hL.min hm w
    omega
  · rcases Nat.lt_or_ge ls.toNat 2 with q | q
    · have : distF (abv (arcsOf l) (((arcsOf l)[j].i : Nat) : Int)) (arcsOf l)[j].lo (arcsOf l)[j].up = 0 := by omega
      have := distF_zero.1 this
      obtain ⟨h1, h2, h3⟩ := arc_at hm
      rw [h2, h3] at this
      exact absurd (idx_inj (up_unit h1) (lo_unit h1) this) (sly.ne _ (List.getElem_mem h1))
    · exact q
  · rw [show (ls - 1).toNat = ls.toNat - 1 by omega]

theorem NoLess.mono {arcs : List Arc} {m n : Nat} (h : NoLess arcs n) (hm : m ≤ n) : NoLess arcs m := fun k x hk w => Nat.le_trans hm (h k x hk w)

theorem close_one_d {l : List Rel} {b : Arc} {n : Nat} (hf : closeR (arcsOf l) b b.up n [b] ≠ []) : distF (abv (arcsOf l) ((b.i : Nat) : Int)) b.lo b.up = (n : Int) - 1 := by
  unfold closeR at hf
  split at hf
  · rename_i h; simpa using h
  · exact absurd rfl hf
theorem close_one_a {l : List Rel} {a : Arc} {ls : Nat} (h : FC l ls a) : closeR (arcsOf l) a a.up ls [a] = a.i :: greedy (arcsOf l) a a.up (ls - 1) := by
  unfold closeR
  rw [if_pos (by simpa using h.st)]
  rfl
theorem close_one_ne {l : List Rel} {a b : Arc} {n ls : Nat} (h : FC l ls a) (hb : b ∈ arcsOf l) (hn : n ≤ ls) (h1 : 1 ≤ n) (hi : n = ls → b.i ≤ a.i) (hf : closeR (arcsOf l) b b.up n [b] ≠ []) : b = a ∧ n = ls := by
  have hd := close_one_d hf
  have hw := W.cons (List.mem_map.2 ⟨b, hb, rfl⟩ : (b.lo, b.up) ∈ prs (arcsOf l)) (abv_sub (distF_some (A := abv (arcsOf l) ((b.i : Nat) : Int)) (to := b.lo) (x := b.up) (by omega)))
  have hmin := h.min _ _ (by omega) hw
  have e : n = ls := by omega
  refine ⟨arcs_one l b hb a h.ha ?_, e⟩
  rcases Nat.lt_or_ge b.i a.i with q | q
  · exact absurd (by omega) (h.no b hb q)
  · have := hi e; omega
theorem close_one_not {l : List Rel} {b : Arc} {n : Nat} (hc : ¬ Cyc (arcsOf l)) (hb : b ∈ arcsOf l) (h1 : 1 ≤ n) : closeR (arcsOf l) b b.up n [b] = [] := by
  refine Classical.byContradiction fun hf => hc ?_
  have hd := close_one_d hf
  exact cyc_of_start (t := ((b.i : Nat) : Int)) hb (by omega)

theorem lawcycle_T {H : Heap} {v : Value} {l : List Rel} (hl : Sl H 3 v (rels l)) (sly : Seenly l) {ls : Nat} {a : Arc} (hF : FC l ls a) :
    ∃ r H1, big tab 19 [v] H = some (r, H1) ∧ Ext H H1 ∧ Sl H1 1 r (List.map encN (a.i :: greedy (arcsOf l) a a.up (ls - 1))) := by
  have hF6 := hF.six
  obtain ⟨hal, hak⟩ : ∃ h : a.i < l.length, l[a.i].kind ≠ 4 := by
    obtain ⟨j, hj, _, h4, e⟩ := arcs_mem.1 hF.ha
    rw [e]; exact ⟨hj, h4⟩
  have hll := sly.len
  have hM := Mem.start H
  refine big_of_runs rfl rfl rfl ?_
  obtain ⟨z, hz⟩ := startC_mkS Try.f19 [v]
  rw [show startC (19, Try.f19).snd [v] = _ from hz]
  clear hz
  refine Runs.cut (n := 30) (l := [(0, v)]) (Is.of ⟨rfl, rfl, trivial⟩) (fun a0 => ?_)
  refine Runs.seq ?_
  refine Runs.region ?_
  refine Rg.opp (v := .slice none 0 0) rfl rfl rfl rfl rfl ?_
  refine Rg.nil ?_
  refine Runs.seq ?_
  refine Runs.seq ?_
  refine Runs.region ?_
  refine Rg.opp (v := nat 2) rfl rfl rfl rfl rfl ?_
  refine Rg.nil ?_
  refine Runs.block ?_
  refine Runs.loop (fun m s Hc => ∃ (n : Nat), m = 7 - n ∧ Mem H Hc ([]) ∧ (2 ≤ n) ∧ (n ≤ ls) ∧ Is s 30 [(0, v), (3, nat n)]) _
    ⟨2, rfl, hM, Nat.le_refl _, hF.two, Is.of ⟨rfl, rfl, rfl, rfl, trivial⟩⟩ ?_
  rintro m s Hc ⟨n, rfl, hM, hn1, hn2, hs⟩
  obtain ⟨a1, rfl⟩ := hs.mk1
  clear hs
  refine Runs.seq ?_
  refine Runs.seq ?_
  refine Runs.region ?_
  refine Rg.opp (v := nat n) rfl rfl rfl rfl rfl ?_
  refine Rg.opp (v := .bool true) rfl rfl rfl (ev_leT (a := n) (b := 6) rfl rfl (by omega)) rfl ?_
  refine Rg.nil ?_
  refine Runs.cond true rfl (fun _ => ?_) (fun h => by cases h)
  refine Runs.skip ?_
  refine Runs.seq ?_
  refine Runs.block ?_
  refine Runs.seq ?_
  refine Runs.region ?_
  refine Rg.opp (v := nat 0) rfl rfl rfl rfl rfl ?_
  refine Rg.nil ?_
  refine Runs.block ?_
  refine Runs.loop (fun m s Hc => ∃ (i : Nat), m = l.length - i ∧ Mem H Hc ([]) ∧ (i ≤ l.length) ∧ (n = ls → i ≤ a.i) ∧ Is s 30 [(0, v), (3, nat n), (4, nat i)]) _
    ⟨0, rfl, hM, Nat.zero_le _, (fun _ => Nat.zero_le _), Is.of ⟨rfl, rfl, rfl, rfl, rfl, rfl, trivial⟩⟩ ?_
  rintro m s Hc ⟨i, rfl, hM, hi, hia, hs⟩
  obtain ⟨a2, rfl⟩ := hs.mk1
  clear hs
  refine Runs.seq ?_
  refine Runs.seq ?_
  refine Runs.region ?_
  refine Rg.opp (v := nat i) rfl rfl rfl rfl rfl ?_
  refine Rg.opp (v := v) rfl rfl rfl rfl rfl ?_
  refine Rg.opp (v := nat l.length) rfl rfl rfl (ev_lenM (hl.sees hM.ext.sees) rfl rfl) rfl ?_
  by_cases hlt : i < l.length
  · skip
    refine Rg.opp (v := .bool true) rfl rfl rfl (ev_ltT rfl rfl (hlt)) rfl ?_
    refine Rg.nil ?_
    refine Runs.cond true rfl (fun _ => ?_) (fun h => by cases h)
    refine Runs.skip ?_
    refine Runs.seq ?_
    refine Runs.block ?_
    refine Runs.seq ?_
    refine Runs.region ?_
    refine Rg.opp (v := v) rfl rfl rfl rfl rfl ?_
    refine Rg.opp (v := nat i) rfl rfl rfl rfl rfl ?_
    refine Rg.opp (v := ptrAt (sAddr v) (i * 3)) rfl rfl rfl (ev_idxM (k := i) (hl.sees hM.ext.sees) rfl rfl (hlt) rfl rfl rfl (by decide)) rfl ?_
    refine Rg.opp (v := .agg (relC (l[i])).toArray) rfl rfl rfl (ev_ldAM (k := i) (hl.sees hM.ext.sees) rfl (hlt) rfl rfl rfl) rfl ?_
    by_cases hk4 : l[i].kind = 4
    · skip
      refine Rg.calls (v := .bool false) rfl rfl rfl rfl (rfl) rfl (arc_F _ _ _ hk4) ?_
      refine Rg.nil ?_
      refine Runs.cond false rfl (fun h => by cases h) (fun _ => ?_)
      refine Runs.skip ?_
      refine Runs.region ?_
      refine Rg.opp (v := nat i) rfl rfl rfl rfl rfl ?_
      refine Rg.opp (v := nat (i + 1)) rfl rfl rfl (ev_addN (b := 1) rfl rfl (by omega)) rfl ?_
      refine Rg.opp (v := nat (i + 1)) rfl rfl rfl rfl rfl ?_
      refine Rg.nil ?_
      refine ⟨l.length - (i + 1), by omega, i + 1, rfl, hM, hlt, (fun e => by
        have := hia e
        rcases Nat.eq_or_lt_of_le this with z | z
        · subst z
          exact absurd hk4 hak
        · exact z), Is.of ⟨rfl, rfl, rfl, rfl, rfl, rfl, trivial⟩⟩
    · skip
      refine Rg.calls (v := .bool true) rfl rfl rfl rfl (rfl) rfl (arc_T _ _ _ hk4) ?_
      refine Rg.nil ?_
      refine Runs.cond true rfl (fun _ => ?_) (fun h => by cases h)
      refine Runs.seq ?_
      refine Runs.region ?_
      refine Rg.opp (v := v) rfl rfl rfl rfl rfl ?_
      refine Rg.opp (v := nat i) rfl rfl rfl rfl rfl ?_
      obtain ⟨b, hbn, hbi, hbu⟩ := at_next hlt hk4 rfl
      refine Rg.lit (f := encN) (sz := 1) (xs := [i]) hM rfl rfl rfl rfl rfl (by simp) (by simp) (fun u3 Hc (hM : Mem H Hc ([.sl 1 u3 (List.map encN ([i]))])) _ => ?_)
      refine Rg.opp (v := nat n) rfl rfl rfl rfl rfl ?_
      refine Rg.callW rfl rfl rfl rfl (rfl) rfl (closing_runs _ (l := l) (n := n) (a := b) (q := b.up) (cs := [b]) rfl (by simp only [List.length_cons, List.length_nil]; omega) (hl.sees hM.ext.sees) (by have := hM.get_sl (j := 0) rfl; rw [← hbi] at this; exact this) (by omega) (by omega) (Trail.one (next_mem.1 hbn).1) (hF.min.mono hn2)) (fun fv Hf hP => ?_)
      obtain ⟨hef, hfs⟩ := hP
      replace hM := hM.more hef
      refine Rg.opp (v := fv) rfl rfl rfl rfl rfl ?_
      refine Rg.nil ?_
      refine Runs.seq ?_
      refine Runs.region ?_
      refine Rg.opp (v := fv) rfl rfl rfl rfl rfl ?_
      refine Rg.opp (v := nat ((closeR (arcsOf l) b b.up n [b]).length)) rfl rfl rfl (ev_lenM (hfs) rfl rfl) rfl ?_
      by_cases hfound : 0 < (closeR (arcsOf l) b b.up n [b]).length
      · skip
        refine Rg.opp (v := .bool true) rfl rfl rfl (ev_gtT rfl rfl (hfound)) rfl ?_
        refine Rg.nil ?_
        refine Runs.cond true rfl (fun _ => ?_) (fun h => by cases h)
        refine Runs.seq ?_
        refine Runs.region ?_
        refine Rg.opp (v := fv) rfl rfl rfl rfl rfl ?_
        refine Rg.opp (v := fv) rfl rfl rfl rfl rfl ?_
        refine Rg.nil ?_
        refine Runs.ret ?_
        refine ⟨fv, rfl, ?_⟩
        obtain ⟨e1, e2⟩ := close_one_ne hF (next_mem.1 hbn).1 hn2 (by omega) (fun e => by rw [hbi]; exact hia e) (by intro e; rw [e] at hfound; simp at hfound)
        refine ⟨hM.ext, ?_⟩
        rw [← close_one_a hF, ← e1, ← e2]
        exact hfs
      · skip
        refine Rg.opp (v := .bool false) rfl rfl rfl (ev_gtF rfl rfl (hfound)) rfl ?_
        refine Rg.nil ?_
        refine Runs.cond false rfl (fun h => by cases h) (fun _ => ?_)
        refine Runs.skip ?_
        refine Runs.region ?_
        refine Rg.opp (v := nat i) rfl rfl rfl rfl rfl ?_
        refine Rg.opp (v := nat (i + 1)) rfl rfl rfl (ev_addN (b := 1) rfl rfl (by omega)) rfl ?_
        refine Rg.opp (v := nat (i + 1)) rfl rfl rfl rfl rfl ?_
        refine Rg.nil ?_
        refine ⟨l.length - (i + 1), by omega, i + 1, rfl, hM.drop 1, hlt, (fun e => by
          have := hia e
          rcases Nat.eq_or_lt_of_le this with z | z
          · have e2 : b = a := arcs_one l b (next_mem.1 hbn).1 a hF.ha (by omega)
            rw [e2, e, close_one_a hF] at hfound
            simp at hfound
          · exact z), Is.of ⟨rfl, rfl, rfl, rfl, rfl, rfl, trivial⟩⟩
  · skip
    refine Rg.opp (v := .bool false) rfl rfl rfl (ev_ltF rfl rfl (hlt)) rfl ?_
    refine Rg.nil ?_
    refine Runs.cond false rfl (fun h => by cases h) (fun _ => ?_)
    refine Runs.exit ?_
    refine Runs.region ?_
    refine Rg.opp (v := nat n) rfl rfl rfl rfl rfl ?_
    refine Rg.opp (v := nat (n + 1)) rfl rfl rfl (ev_addN (b := 1) rfl rfl (by omega)) rfl ?_
    refine Rg.opp (v := nat (n + 1)) rfl rfl rfl rfl rfl ?_
    refine Rg.nil ?_
    refine ⟨7 - (n + 1), by omega, n + 1, rfl, hM, (by omega), (by
      have : n ≠ ls := fun e => by have := hia e; omega
      omega), Is.of ⟨rfl, rfl, rfl, rfl, trivial⟩⟩

theorem lawcycle_F {H : Heap} {v : Value} {l : List Rel} (hl : Sl H 3 v (rels l)) (sly : Seenly l) (hc : ¬ Cyc (arcsOf l)) :
    ∃ r H1, big tab 19 [v] H = some (r, H1) ∧ r = .slice none 0 0 ∧ Ext H H1 := by
  have hll := sly.len
  have hM := Mem.start H
  refine big_of_runs rfl rfl rfl ?_
  obtain ⟨z, hz⟩ := startC_mkS Try.f19 [v]
  rw [show startC (19, Try.f19).snd [v] = _ from hz]
  clear hz
  refine Runs.cut (n := 30) (l := [(0, v)]) (Is.of ⟨rfl, rfl, trivial⟩) (fun a0 => ?_)
  refine Runs.seq ?_
  refine Runs.region ?_
  refine Rg.opp (v := .slice none 0 0) rfl rfl rfl rfl rfl ?_
  refine Rg.nil ?_
  refine Runs.seq ?_
  refine Runs.seq ?_
  refine Runs.region ?_
  refine Rg.opp (v := nat 2) rfl rfl rfl rfl rfl ?_
  refine Rg.nil ?_
  refine Runs.block ?_
  refine Runs.loop (fun m s Hc => ∃ (n : Nat), m = 7 - n ∧ Mem H Hc ([]) ∧ (2 ≤ n) ∧ (n ≤ 7) ∧ Is s 30 [(0, v), (3, nat n)]) _
    ⟨2, rfl, hM, Nat.le_refl _, (by omega), Is.of ⟨rfl, rfl, rfl, rfl, trivial⟩⟩ ?_
  rintro m s Hc ⟨n, rfl, hM, hn1, hn2, hs⟩
  obtain ⟨a1, rfl⟩ := hs.mk1
  clear hs
  refine Runs.seq ?_
  refine Runs.seq ?_
  refine Runs.region ?_
  refine Rg.opp (v := nat n) rfl rfl rfl rfl rfl ?_
  by_cases hn6 : n ≤ 6
  · skip
    refine Rg.opp (v := .bool true) rfl rfl rfl (ev_leT rfl rfl (hn6)) rfl ?_
    refine Rg.nil ?_
    refine Runs.cond true rfl (fun _ => ?_) (fun h => by cases h)
    refine Runs.skip ?_
    refine Runs.seq ?_
    refine Runs.block ?_
    refine Runs.seq ?_
    refine Runs.region ?_
    refine Rg.opp (v := nat 0) rfl rfl rfl rfl rfl ?_
    refine Rg.nil ?_
    refine Runs.block ?_
    refine Runs.loop (fun m s Hc => ∃ (i : Nat), m = l.length - i ∧ Mem H Hc ([]) ∧ (i ≤ l.length) ∧ Is s 30 [(0, v), (3, nat n), (4, nat i)]) _
      ⟨0, rfl, hM, Nat.zero_le _, Is.of ⟨rfl, rfl, rfl, rfl, rfl, rfl, trivial⟩⟩ ?_
    rintro m s Hc ⟨i, rfl, hM, hi, hs⟩
    obtain ⟨a2, rfl⟩ := hs.mk1
    clear hs
    refine Runs.seq ?_
    refine Runs.seq ?_
    refine Runs.region ?_
    refine Rg.opp (v := nat i) rfl rfl rfl rfl rfl ?_
    refine Rg.opp (v := v) rfl rfl rfl rfl rfl ?_
    refine Rg.opp (v := nat l.length) rfl rfl rfl (ev_lenM (hl.sees hM.ext.sees) rfl rfl) rfl ?_
    by_cases hlt : i < l.length
    · skip
      refine Rg.opp (v := .bool true) rfl rfl rfl (ev_ltT rfl rfl (hlt)) rfl ?_
      refine Rg.nil ?_
      refine Runs.cond true rfl (fun _ => ?_) (fun h => by cases h)
      refine Runs.skip ?_
      refine Runs.seq ?_
      refine Runs.block ?_
      refine Runs.seq ?_
      refine Runs.region ?_
      refine Rg.opp (v := v) rfl rfl rfl rfl rfl ?_
      refine Rg.opp (v := nat i) rfl rfl rfl rfl rfl ?_
      refine Rg.opp (v := ptrAt (sAddr v) (i * 3)) rfl rfl rfl (ev_idxM (k := i) (hl.sees hM.ext.sees) rfl rfl (hlt) rfl rfl rfl (by decide)) rfl ?_
      refine Rg.opp (v := .agg (relC (l[i])).toArray) rfl rfl rfl (ev_ldAM (k := i) (hl.sees hM.ext.sees) rfl (hlt) rfl rfl rfl) rfl ?_
      by_cases hk4 : l[i].kind = 4
      · skip
        refine Rg.calls (v := .bool false) rfl rfl rfl rfl (rfl) rfl (arc_F _ _ _ hk4) ?_
        refine Rg.nil ?_
        refine Runs.cond false rfl (fun h => by cases h) (fun _ => ?_)
        refine Runs.skip ?_
        refine Runs.region ?_
        refine Rg.opp (v := nat i) rfl rfl rfl rfl rfl ?_
        refine Rg.opp (v := nat (i + 1)) rfl rfl rfl (ev_addN (b := 1) rfl rfl (by omega)) rfl ?_
        refine Rg.opp (v := nat (i + 1)) rfl rfl rfl rfl rfl ?_
        refine Rg.nil ?_
        refine ⟨l.length - (i + 1), by omega, i + 1, rfl, hM, hlt, Is.of ⟨rfl, rfl, rfl, rfl, rfl, rfl, trivial⟩⟩
      · skip
        refine Rg.calls (v := .bool true) rfl rfl rfl rfl (rfl) rfl (arc_T _ _ _ hk4) ?_
        refine Rg.nil ?_
        refine Runs.cond true rfl (fun _ => ?_) (fun h => by cases h)
        refine Runs.seq ?_
        refine Runs.region ?_
        refine Rg.opp (v := v) rfl rfl rfl rfl rfl ?_
        refine Rg.opp (v := nat i) rfl rfl rfl rfl rfl ?_
        obtain ⟨b, hbn, hbi, hbu⟩ := at_next hlt hk4 rfl
        refine Rg.lit (f := encN) (sz := 1) (xs := [i]) hM rfl rfl rfl rfl rfl (by simp) (by simp) (fun u3 Hc (hM : Mem H Hc ([.sl 1 u3 (List.map encN ([i]))])) _ => ?_)
        refine Rg.opp (v := nat n) rfl rfl rfl rfl rfl ?_
        refine Rg.callW rfl rfl rfl rfl (rfl) rfl (closing_runs _ (l := l) (n := n) (a := b) (q := b.up) (cs := [b]) rfl (by simp only [List.length_cons, List.length_nil]; omega) (hl.sees hM.ext.sees) (by have := hM.get_sl (j := 0) rfl; rw [← hbi] at this; exact this) (by omega) (by omega) (Trail.one (next_mem.1 hbn).1) (fun m x hm w => absurd ⟨x, m, hm, w⟩ hc)) (fun fv Hf hP => ?_)
        obtain ⟨hef, hfs⟩ := hP
        replace hM := hM.more hef
        refine Rg.opp (v := fv) rfl rfl rfl rfl rfl ?_
        refine Rg.nil ?_
        refine Runs.seq ?_
        refine Runs.region ?_
        refine Rg.opp (v := fv) rfl rfl rfl rfl rfl ?_
        refine Rg.opp (v := nat ((closeR (arcsOf l) b b.up n [b]).length)) rfl rfl rfl (ev_lenM (hfs) rfl rfl) rfl ?_
        by_cases hfound : 0 < (closeR (arcsOf l) b b.up n [b]).length
        · skip
          refine Rg.opp (v := .bool true) rfl rfl rfl (ev_gtT rfl rfl (hfound)) rfl ?_
          refine Rg.nil ?_
          refine Runs.cond true rfl (fun _ => ?_) (fun h => by cases h)
          refine Runs.seq ?_
          refine Runs.region ?_
          refine Rg.opp (v := fv) rfl rfl rfl rfl rfl ?_
          refine Rg.opp (v := fv) rfl rfl rfl rfl rfl ?_
          refine Rg.nil ?_
          refine Runs.ret ?_
          refine ⟨fv, rfl, ?_⟩
          rw [close_one_not hc (next_mem.1 hbn).1 (by omega)] at hfound
          simp at hfound
        · skip
          refine Rg.opp (v := .bool false) rfl rfl rfl (ev_gtF rfl rfl (hfound)) rfl ?_
          refine Rg.nil ?_
          refine Runs.cond false rfl (fun h => by cases h) (fun _ => ?_)
          refine Runs.skip ?_
          refine Runs.region ?_
          refine Rg.opp (v := nat i) rfl rfl rfl rfl rfl ?_
          refine Rg.opp (v := nat (i + 1)) rfl rfl rfl (ev_addN (b := 1) rfl rfl (by omega)) rfl ?_
          refine Rg.opp (v := nat (i + 1)) rfl rfl rfl rfl rfl ?_
          refine Rg.nil ?_
          refine ⟨l.length - (i + 1), by omega, i + 1, rfl, hM.drop 1, hlt, Is.of ⟨rfl, rfl, rfl, rfl, rfl, rfl, trivial⟩⟩
    · skip
      refine Rg.opp (v := .bool false) rfl rfl rfl (ev_ltF rfl rfl (hlt)) rfl ?_
      refine Rg.nil ?_
      refine Runs.cond false rfl (fun h => by cases h) (fun _ => ?_)
      refine Runs.exit ?_
      refine Runs.region ?_
      refine Rg.opp (v := nat n) rfl rfl rfl rfl rfl ?_
      refine Rg.opp (v := nat (n + 1)) rfl rfl rfl (ev_addN (b := 1) rfl rfl (by omega)) rfl ?_
      refine Rg.opp (v := nat (n + 1)) rfl rfl rfl rfl rfl ?_
      refine Rg.nil ?_
      refine ⟨7 - (n + 1), by omega, n + 1, rfl, hM, (by omega), (by omega), Is.of ⟨rfl, rfl, rfl, rfl, trivial⟩⟩
  · skip
    refine Rg.opp (v := .bool false) rfl rfl rfl (ev_leF rfl rfl (hn6)) rfl ?_
    refine Rg.nil ?_
    refine Runs.cond false rfl (fun h => by cases h) (fun _ => ?_)
    refine Runs.exit ?_
    refine Runs.seq ?_
    refine Runs.region ?_
    refine Rg.opp (v := .slice none 0 0) rfl rfl rfl rfl rfl ?_
    refine Rg.nil ?_
    refine Runs.ret ?_
    refine ⟨.slice none 0 0, rfl, ?_⟩
    exact ⟨rfl, hM.ext⟩


end Go.Proofs.Ytdhbclplondmjaa.C

end

section
/- The law on succession.First and the least cycle, run: it answers true. -/
set_option linter.unusedVariables false
set_option linter.unusedSimpArgs false
set_option maxRecDepth 100000
set_option maxHeartbeats 4000000
namespace Go.Proofs.Ytdhbclplondmjaa.C
open Go.RowKit Go.Sort

theorem sameInts_TT {H : Heap} {v1 v2 : Value} {xs : List Nat} (h1 : Sl H 1 v1 (xs.map encN)) (h2 : Sl H 1 v2 (xs.map encN)) (hx : xs.length < 2 ^ 40) : big tab 15 [v1, v2] H = some (.bool true, H) := by
  have := sameN_runs h1 h2 hx
  rwa [decide_eq_true rfl] at this
theorem sameInts_nil {H : Heap} : big tab 15 [.slice none 0 0, .slice none 0 0] H = some (.bool true, H) := by
  have h : Sl H 1 (.slice none 0 0) (List.map encN ([] : List Nat)) := ⟨none, 0, rfl, Nat.le_refl _, .inl rfl⟩
  exact sameInts_TT h h (by simp)

theorem lawCycles_runs {H : Heap} {v : Value} {xs : List Seen} (hs : Sl H 3 v (seens xs)) (hsm : ∀ s ∈ xs, s.k < 256 ∧ s.u < 256 ∧ s.l < 256) :
    ∃ r H1, big tab 5 [v] H = some (r, H1) ∧ r = .bool true := by
  refine big_of_runs rfl rfl rfl ?_
  obtain ⟨z, hz⟩ := startC_mkS Try.f5 [v]
  rw [show startC (5, Try.f5).snd [v] = _ from hz]
  clear hz
  refine Runs.cut (n := 88) (l := [(0, v)]) (Is.of ⟨rfl, rfl, trivial⟩) (fun a0 => ?_)
  refine Runs.seq ?_
  refine Runs.region ?_
  refine Rg.opp (v := .bool false) rfl rfl rfl rfl rfl ?_
  refine Rg.nil ?_
  refine Runs.seq ?_
  refine Runs.seq ?_
  refine Runs.region ?_
  refine Rg.calls (v := .bool true) rfl rfl rfl rfl (rfl) rfl (known_is _) ?_
  refine Rg.opp (v := .bool false) rfl rfl rfl rfl rfl ?_
  refine Rg.opp (v := .bool false) rfl rfl rfl rfl rfl ?_
  refine Rg.guards true rfl rfl rfl (fun _ => ⟨v, _, evW_op (rfl), rfl, ?_⟩) (fun h => by cases h)
  by_cases hx8 : xs.length ≤ 8
  · skip
    refine Rg.guards true rfl rfl rfl (fun _ => ⟨.bool true, _, evW_call rfl (rfl) (fits_T hs hx8), rfl, ?_⟩) (fun h => by cases h)
    refine Rg.guards true rfl rfl rfl (fun _ => ⟨.bool false, _, evW_op (rfl), rfl, ?_⟩) (fun h => by cases h)
    refine Rg.opp (v := .bool false) rfl rfl rfl rfl rfl ?_
    refine Rg.nil ?_
    refine Runs.cond false rfl (fun h => by cases h) (fun _ => ?_)
    refine Runs.skip ?_
    refine Runs.seq ?_
    refine Runs.region ?_
    refine Rg.opp (v := v) rfl rfl rfl rfl rfl ?_
    refine Rg.callW rfl rfl rfl rfl (rfl) rfl (makeS_runs hs hsm hx8) (fun lv Hm hP => ?_)
    obtain ⟨hem, hl⟩ := hP
    have sly := seenly xs hx8
    generalize List.map mk xs = l at hl sly
    have hll := sly.len
    have hu6 := sly.units
    have hM := Mem.start Hm
    refine Rg.opp (v := lv) rfl rfl rfl rfl rfl ?_
    refine Rg.nil ?_
    refine Runs.seq ?_
    refine Runs.region ?_
    refine Rg.opp (v := lv) rfl rfl rfl rfl rfl ?_
    by_cases hcy : Cyc (arcsOf l)
    · skip
      refine Rg.callW rfl rfl rfl rfl (rfl) rfl (cycleS_T (hl.sees hM.ext.sees) (by omega) sly.good (by omega) hcy) (fun rv0 Hx hP => ?_)
      obtain ⟨cv, cs, D, rfl, hMc, hT, hFC⟩ := hP
      replace hM := hM.under hMc
      obtain ⟨i0, hi0, hci, hni⟩ := cyc_first hcy
      obtain ⟨ls, a, hF, hcs⟩ := hFC.fc sly
      have hcp := hT.pos
      refine Rg.opp (v := .tuple #[cv, .bool true, nat 0]) rfl rfl rfl rfl rfl ?_
      refine Rg.opp (v := cv) rfl rfl rfl rfl rfl ?_
      refine Rg.opp (v := .bool true) rfl rfl rfl rfl rfl ?_
      refine Rg.opp (v := nat 0) rfl rfl rfl rfl rfl ?_
      refine Rg.opp (v := cv) rfl rfl rfl rfl rfl ?_
      refine Rg.opp (v := .bool true) rfl rfl rfl rfl rfl ?_
      refine Rg.opp (v := nat 0) rfl rfl rfl rfl rfl ?_
      refine Rg.nil ?_
      refine Runs.seq ?_
      refine Runs.region ?_
      refine Rg.opp (v := lv) rfl rfl rfl rfl rfl ?_
      refine Rg.callW rfl rfl rfl rfl (rfl) rfl (first_T (hl.sees hM.ext.sees) sly hi0 hci hni) (fun rv1 Hw hP => ?_)
      obtain ⟨rfl, heo⟩ := hP
      replace hM := hM.more heo
      refine Rg.opp (v := .tuple #[nat i0, .bool true, nat 0]) rfl rfl rfl rfl rfl ?_
      refine Rg.opp (v := nat i0) rfl rfl rfl rfl rfl ?_
      refine Rg.opp (v := .bool true) rfl rfl rfl rfl rfl ?_
      refine Rg.opp (v := nat 0) rfl rfl rfl rfl rfl ?_
      refine Rg.opp (v := nat i0) rfl rfl rfl rfl rfl ?_
      refine Rg.opp (v := .bool true) rfl rfl rfl rfl rfl ?_
      refine Rg.opp (v := nat 0) rfl rfl rfl rfl rfl ?_
      refine Rg.nil ?_
      refine Runs.seq ?_
      refine Runs.region ?_
      refine Rg.opp (v := lv) rfl rfl rfl rfl rfl ?_
      refine Rg.callW rfl rfl rfl rfl (rfl) rfl (lawcycle_T (hl.sees hM.ext.sees) sly hF) (fun yv Hy hP => ?_)
      obtain ⟨hey, hys⟩ := hP
      rw [← hcs] at hys
      have hcv := (hM.more hey).get_sl (j := 0) rfl
      replace hey := hM.ext.trans hey
      have hM := Mem.start Hy
      refine Rg.opp (v := yv) rfl rfl rfl rfl rfl ?_
      refine Rg.nil ?_
      refine Runs.seq ?_
      refine Runs.region ?_
      refine Rg.opp (v := nat 0) rfl rfl rfl rfl rfl ?_
      refine Rg.nil ?_
      refine Runs.seq ?_
      refine Runs.block ?_
      refine Runs.loop (fun m s Hc => ∃ (i : Nat), m = l.length - i ∧ Mem Hy Hc ([]) ∧ (i ≤ i0) ∧ Is s 88 [(3, lv), (4, cv), (5, .bool true), (6, nat 0), (7, nat i0), (8, .bool true), (9, nat 0), (10, yv), (11, nat i)]) _
        ⟨0, rfl, hM, Nat.zero_le _, Is.of ⟨rfl, rfl, rfl, rfl, rfl, rfl, rfl, rfl, rfl, rfl, rfl, rfl, rfl, rfl, rfl, rfl, rfl, rfl, trivial⟩⟩ ?_
      rintro m s Hc ⟨i, rfl, hM, hi, hs⟩
      obtain ⟨a1, rfl⟩ := hs.mk1
      clear hs
      refine Runs.seq ?_
      refine Runs.seq ?_
      refine Runs.region ?_
      refine Rg.opp (v := nat i) rfl rfl rfl rfl rfl ?_
      refine Rg.opp (v := lv) rfl rfl rfl rfl rfl ?_
      refine Rg.opp (v := nat l.length) rfl rfl rfl (ev_lenM (hl.sees (hey.trans hM.ext).sees) rfl rfl) rfl ?_
      refine Rg.opp (v := .bool true) rfl rfl rfl (ev_ltT (a := i) (b := l.length) rfl rfl (by omega)) rfl ?_
      refine Rg.opp (v := .bool true) rfl rfl rfl rfl rfl ?_
      refine Rg.guards true rfl rfl rfl (fun _ => ⟨lv, _, evW_op (rfl), rfl, ?_⟩) (fun h => by cases h)
      refine Rg.guards true rfl rfl rfl (fun _ => ⟨nat i, _, evW_op (rfl), rfl, ?_⟩) (fun h => by cases h)
      refine Rg.guards true rfl rfl rfl (fun _ => ⟨nat (i + 1), _, evW_op (ev_addN (b := 1) rfl rfl (by omega)), rfl, ?_⟩) (fun h => by cases h)
      obtain ⟨pv, hpv, hps⟩ := rels_prefix (hl.sees (hey.trans hM.ext).sees) (m := i + 1) (by omega) (by omega)
      have hsp := sly.take (i + 1)
      have hspl := hsp.len
      have hspu := hsp.units
      refine Rg.guards true rfl rfl rfl (fun _ => ⟨pv, _, evW_op (ev_slice rfl hpv), rfl, ?_⟩) (fun h => by cases h)
      by_cases hji : i = i0
      · skip
        obtain ⟨rw, Hc', hcall, hP⟩ := cyclic_runs hps (by omega) (by omega)
        refine Rg.guards true rfl rfl rfl (fun _ => ⟨_, _, evW_call rfl (rfl) hcall, rfl, ?_⟩) (fun h => by cases h)
        obtain ⟨hr, hec⟩ := hP
        rw [show cycB (arcsOf (l.take (i + 1))) = true from by rw [hji]; exact hci] at hr
        subst hr
        replace hM := hM.more hec
        refine Rg.guards true rfl rfl rfl (fun _ => ⟨.bool false, _, evW_op (rfl), rfl, ?_⟩) (fun h => by cases h)
        refine Rg.opp (v := .bool false) rfl rfl rfl rfl rfl ?_
        refine Rg.nil ?_
        refine Runs.cond false rfl (fun h => by cases h) (fun _ => ?_)
        refine Runs.exit ?_
        refine Runs.seq ?_
        refine Runs.seq ?_
        refine Runs.region ?_
        refine Rg.opp (v := nat 0) rfl rfl rfl rfl rfl ?_
        refine Rg.opp (v := .bool false) rfl rfl rfl (ev_neF rfl rfl (by decide)) rfl ?_
        refine Rg.opp (v := .bool false) rfl rfl rfl rfl rfl ?_
        refine Rg.guards true rfl rfl rfl (fun _ => ⟨nat 0, _, evW_op (rfl), rfl, ?_⟩) (fun h => by cases h)
        refine Rg.guards true rfl rfl rfl (fun _ => ⟨.bool false, _, evW_op (ev_neF rfl rfl (by decide)), rfl, ?_⟩) (fun h => by cases h)
        refine Rg.opp (v := .bool false) rfl rfl rfl rfl rfl ?_
        refine Rg.opp (v := .bool false) rfl rfl rfl rfl rfl ?_
        refine Rg.guards true rfl rfl rfl (fun _ => ⟨.bool true, _, evW_op (rfl), rfl, ?_⟩) (fun h => by cases h)
        refine Rg.guards true rfl rfl rfl (fun _ => ⟨yv, _, evW_op (rfl), rfl, ?_⟩) (fun h => by cases h)
        refine Rg.guards true rfl rfl rfl (fun _ => ⟨nat cs.length, _, evW_op (by rw [show cs.length = (List.map Arc.i cs).length by simp]; exact ev_lenM (hys.sees hM.ext.sees) rfl rfl), rfl, ?_⟩) (fun h => by cases h)
        refine Rg.guards true rfl rfl rfl (fun _ => ⟨.bool true, _, evW_op (ev_gtT (a := cs.length) (b := 0) rfl rfl (hcp)), rfl, ?_⟩) (fun h => by cases h)
        refine Rg.guards true rfl rfl rfl (fun _ => ⟨.bool false, _, evW_op (rfl), rfl, ?_⟩) (fun h => by cases h)
        refine Rg.opp (v := .bool false) rfl rfl rfl rfl rfl ?_
        refine Rg.opp (v := .bool false) rfl rfl rfl rfl rfl ?_
        refine Rg.guards true rfl rfl rfl (fun _ => ⟨cv, _, evW_op (rfl), rfl, ?_⟩) (fun h => by cases h)
        refine Rg.guards true rfl rfl rfl (fun _ => ⟨yv, _, evW_op (rfl), rfl, ?_⟩) (fun h => by cases h)
        refine Rg.guards true rfl rfl rfl (fun _ => ⟨.bool true, _, evW_call rfl (rfl) (sameInts_TT (hcv.sees hM.ext.sees) (hys.sees hM.ext.sees) (by rw [List.length_map]; have := hT.le; omega)), rfl, ?_⟩) (fun h => by cases h)
        refine Rg.guards true rfl rfl rfl (fun _ => ⟨.bool false, _, evW_op (rfl), rfl, ?_⟩) (fun h => by cases h)
        refine Rg.opp (v := .bool false) rfl rfl rfl rfl rfl ?_
        refine Rg.opp (v := .bool false) rfl rfl rfl rfl rfl ?_
        refine Rg.guards true rfl rfl rfl (fun _ => ⟨.bool true, _, evW_op (rfl), rfl, ?_⟩) (fun h => by cases h)
        refine Rg.guards true rfl rfl rfl (fun _ => ⟨.bool true, _, evW_op (rfl), rfl, ?_⟩) (fun h => by cases h)
        refine Rg.guards true rfl rfl rfl (fun _ => ⟨.bool false, _, evW_op (rfl), rfl, ?_⟩) (fun h => by cases h)
        refine Rg.opp (v := .bool false) rfl rfl rfl rfl rfl ?_
        refine Rg.nil ?_
        refine Runs.cond false rfl (fun h => by cases h) (fun _ => ?_)
        refine Runs.skip ?_
        refine Runs.seq ?_
        refine Runs.region ?_
        refine Rg.opp (v := .bool true) rfl rfl rfl rfl rfl ?_
        refine Rg.opp (v := .bool false) rfl rfl rfl rfl rfl ?_
        refine Rg.opp (v := .bool false) rfl rfl rfl rfl rfl ?_
        refine Rg.guards false rfl rfl rfl (fun h => by cases h) (fun _ => ?_)
        refine Rg.guards false rfl rfl rfl (fun h => by cases h) (fun _ => ?_)
        refine Rg.opp (v := .bool false) rfl rfl rfl rfl rfl ?_
        refine Rg.opp (v := .bool false) rfl rfl rfl rfl rfl ?_
        refine Rg.guards true rfl rfl rfl (fun _ => ⟨.bool true, _, evW_op (rfl), rfl, ?_⟩) (fun h => by cases h)
        refine Rg.guards true rfl rfl rfl (fun _ => ⟨.bool true, _, evW_op (rfl), rfl, ?_⟩) (fun h => by cases h)
        refine Rg.guards true rfl rfl rfl (fun _ => ⟨nat i0, _, evW_op (rfl), rfl, ?_⟩) (fun h => by cases h)
        refine Rg.guards true rfl rfl rfl (fun _ => ⟨nat i, _, evW_op (rfl), rfl, ?_⟩) (fun h => by cases h)
        refine Rg.guards true rfl rfl rfl (fun _ => ⟨.bool true, _, evW_op (ev_eqT (a := i0) (b := i) rfl rfl (by omega)), rfl, ?_⟩) (fun h => by cases h)
        refine Rg.guards true rfl rfl rfl (fun _ => ⟨.bool true, _, evW_op (rfl), rfl, ?_⟩) (fun h => by cases h)
        refine Rg.opp (v := .bool true) rfl rfl rfl rfl rfl ?_
        refine Rg.opp (v := .bool true) rfl rfl rfl rfl rfl ?_
        refine Rg.nil ?_
        refine Runs.ret ?_
        refine ⟨.bool true, rfl, ?_⟩
        rfl
      · skip
        obtain ⟨rw, Hc', hcall, hP⟩ := cyclic_runs hps (by omega) (by omega)
        refine Rg.guards true rfl rfl rfl (fun _ => ⟨_, _, evW_call rfl (rfl) hcall, rfl, ?_⟩) (fun h => by cases h)
        obtain ⟨hr, hec⟩ := hP
        rw [show cycB (arcsOf (l.take (i + 1))) = false from hni i (by omega)] at hr
        subst hr
        replace hM := hM.more hec
        refine Rg.guards true rfl rfl rfl (fun _ => ⟨.bool true, _, evW_op (rfl), rfl, ?_⟩) (fun h => by cases h)
        refine Rg.opp (v := .bool true) rfl rfl rfl rfl rfl ?_
        refine Rg.nil ?_
        refine Runs.cond true rfl (fun _ => ?_) (fun h => by cases h)
        refine Runs.skip ?_
        refine Runs.block ?_
        refine Runs.region ?_
        refine Rg.opp (v := nat i) rfl rfl rfl rfl rfl ?_
        refine Rg.opp (v := nat (i + 1)) rfl rfl rfl (ev_addN (b := 1) rfl rfl (by omega)) rfl ?_
        refine Rg.opp (v := nat (i + 1)) rfl rfl rfl rfl rfl ?_
        refine Rg.nil ?_
        refine ⟨l.length - (i + 1), by omega, i + 1, rfl, hM, (by omega), Is.of ⟨rfl, rfl, rfl, rfl, rfl, rfl, rfl, rfl, rfl, rfl, rfl, rfl, rfl, rfl, rfl, rfl, rfl, rfl, trivial⟩⟩
    · skip
      refine Rg.callW rfl rfl rfl rfl (rfl) rfl (cycleS_F (hl.sees hM.ext.sees) (by omega) sly.good (by omega) hcy) (fun rv0 Hx hP => ?_)
      obtain ⟨rfl, hex⟩ := hP
      replace hM := hM.more hex
      refine Rg.opp (v := .tuple #[.slice none 0 0, .bool false, nat 0]) rfl rfl rfl rfl rfl ?_
      refine Rg.opp (v := .slice none 0 0) rfl rfl rfl rfl rfl ?_
      refine Rg.opp (v := .bool false) rfl rfl rfl rfl rfl ?_
      refine Rg.opp (v := nat 0) rfl rfl rfl rfl rfl ?_
      refine Rg.opp (v := .slice none 0 0) rfl rfl rfl rfl rfl ?_
      refine Rg.opp (v := .bool false) rfl rfl rfl rfl rfl ?_
      refine Rg.opp (v := nat 0) rfl rfl rfl rfl rfl ?_
      refine Rg.nil ?_
      refine Runs.seq ?_
      refine Runs.region ?_
      refine Rg.opp (v := lv) rfl rfl rfl rfl rfl ?_
      refine Rg.callW rfl rfl rfl rfl (rfl) rfl (first_F (hl.sees hM.ext.sees) sly (fun k _ => cyc_take hcy)) (fun rv1 Hw hP => ?_)
      obtain ⟨rfl, heo⟩ := hP
      replace hM := hM.more heo
      refine Rg.opp (v := .tuple #[nat 0, .bool false, nat 0]) rfl rfl rfl rfl rfl ?_
      refine Rg.opp (v := nat 0) rfl rfl rfl rfl rfl ?_
      refine Rg.opp (v := .bool false) rfl rfl rfl rfl rfl ?_
      refine Rg.opp (v := nat 0) rfl rfl rfl rfl rfl ?_
      refine Rg.opp (v := nat 0) rfl rfl rfl rfl rfl ?_
      refine Rg.opp (v := .bool false) rfl rfl rfl rfl rfl ?_
      refine Rg.opp (v := nat 0) rfl rfl rfl rfl rfl ?_
      refine Rg.nil ?_
      refine Runs.seq ?_
      refine Runs.region ?_
      refine Rg.opp (v := lv) rfl rfl rfl rfl rfl ?_
      refine Rg.callW rfl rfl rfl rfl (rfl) rfl (lawcycle_F (hl.sees hM.ext.sees) sly hcy) (fun yv Hv hP => ?_)
      obtain ⟨rfl, hey⟩ := hP
      replace hM := hM.more hey
      refine Rg.opp (v := .slice none 0 0) rfl rfl rfl rfl rfl ?_
      refine Rg.nil ?_
      refine Runs.seq ?_
      refine Runs.region ?_
      refine Rg.opp (v := nat 0) rfl rfl rfl rfl rfl ?_
      refine Rg.nil ?_
      refine Runs.seq ?_
      refine Runs.block ?_
      refine Runs.loop (fun m s Hc => ∃ (i : Nat), m = l.length - i ∧ Mem Hm Hc ([]) ∧ (i ≤ l.length) ∧ Is s 88 [(3, lv), (4, .slice none 0 0), (5, .bool false), (6, nat 0), (7, nat 0), (8, .bool false), (9, nat 0), (10, .slice none 0 0), (11, nat i)]) _
        ⟨0, rfl, hM, Nat.zero_le _, Is.of ⟨rfl, rfl, rfl, rfl, rfl, rfl, rfl, rfl, rfl, rfl, rfl, rfl, rfl, rfl, rfl, rfl, rfl, rfl, trivial⟩⟩ ?_
      rintro m s Hc ⟨i, rfl, hM, hi, hs⟩
      obtain ⟨a2, rfl⟩ := hs.mk1
      clear hs
      refine Runs.seq ?_
      refine Runs.seq ?_
      refine Runs.region ?_
      refine Rg.opp (v := nat i) rfl rfl rfl rfl rfl ?_
      refine Rg.opp (v := lv) rfl rfl rfl rfl rfl ?_
      refine Rg.opp (v := nat l.length) rfl rfl rfl (ev_lenM (hl.sees hM.ext.sees) rfl rfl) rfl ?_
      by_cases hil : i < l.length
      · skip
        refine Rg.opp (v := .bool true) rfl rfl rfl (ev_ltT rfl rfl (hil)) rfl ?_
        refine Rg.opp (v := .bool true) rfl rfl rfl rfl rfl ?_
        refine Rg.guards true rfl rfl rfl (fun _ => ⟨lv, _, evW_op (rfl), rfl, ?_⟩) (fun h => by cases h)
        refine Rg.guards true rfl rfl rfl (fun _ => ⟨nat i, _, evW_op (rfl), rfl, ?_⟩) (fun h => by cases h)
        refine Rg.guards true rfl rfl rfl (fun _ => ⟨nat (i + 1), _, evW_op (ev_addN (b := 1) rfl rfl (by omega)), rfl, ?_⟩) (fun h => by cases h)
        obtain ⟨pv, hpv, hps⟩ := rels_prefix (hl.sees hM.ext.sees) (m := i + 1) (by omega) (by omega)
        have hsp := sly.take (i + 1)
        have hspl := hsp.len
        have hspu := hsp.units
        refine Rg.guards true rfl rfl rfl (fun _ => ⟨pv, _, evW_op (ev_slice rfl hpv), rfl, ?_⟩) (fun h => by cases h)
        obtain ⟨rw, Hc', hcall, hP⟩ := cyclic_runs hps (by omega) (by omega)
        refine Rg.guards true rfl rfl rfl (fun _ => ⟨_, _, evW_call rfl (rfl) hcall, rfl, ?_⟩) (fun h => by cases h)
        obtain ⟨hr, hec⟩ := hP
        rw [cyc_take hcy] at hr
        subst hr
        replace hM := hM.more hec
        refine Rg.guards true rfl rfl rfl (fun _ => ⟨.bool true, _, evW_op (rfl), rfl, ?_⟩) (fun h => by cases h)
        refine Rg.opp (v := .bool true) rfl rfl rfl rfl rfl ?_
        refine Rg.nil ?_
        refine Runs.cond true rfl (fun _ => ?_) (fun h => by cases h)
        refine Runs.skip ?_
        refine Runs.block ?_
        refine Runs.region ?_
        refine Rg.opp (v := nat i) rfl rfl rfl rfl rfl ?_
        refine Rg.opp (v := nat (i + 1)) rfl rfl rfl (ev_addN (b := 1) rfl rfl (by omega)) rfl ?_
        refine Rg.opp (v := nat (i + 1)) rfl rfl rfl rfl rfl ?_
        refine Rg.nil ?_
        refine ⟨l.length - (i + 1), by omega, i + 1, rfl, hM, (by omega), Is.of ⟨rfl, rfl, rfl, rfl, rfl, rfl, rfl, rfl, rfl, rfl, rfl, rfl, rfl, rfl, rfl, rfl, rfl, rfl, trivial⟩⟩
      · skip
        refine Rg.opp (v := .bool false) rfl rfl rfl (ev_ltF rfl rfl (hil)) rfl ?_
        refine Rg.opp (v := .bool false) rfl rfl rfl rfl rfl ?_
        refine Rg.guards false rfl rfl rfl (fun h => by cases h) (fun _ => ?_)
        refine Rg.guards false rfl rfl rfl (fun h => by cases h) (fun _ => ?_)
        refine Rg.guards false rfl rfl rfl (fun h => by cases h) (fun _ => ?_)
        refine Rg.guards false rfl rfl rfl (fun h => by cases h) (fun _ => ?_)
        refine Rg.guards false rfl rfl rfl (fun h => by cases h) (fun _ => ?_)
        refine Rg.guards false rfl rfl rfl (fun h => by cases h) (fun _ => ?_)
        refine Rg.opp (v := .bool false) rfl rfl rfl rfl rfl ?_
        refine Rg.nil ?_
        refine Runs.cond false rfl (fun h => by cases h) (fun _ => ?_)
        refine Runs.exit ?_
        refine Runs.seq ?_
        refine Runs.seq ?_
        refine Runs.region ?_
        refine Rg.opp (v := nat 0) rfl rfl rfl rfl rfl ?_
        refine Rg.opp (v := .bool false) rfl rfl rfl (ev_neF rfl rfl (by decide)) rfl ?_
        refine Rg.opp (v := .bool false) rfl rfl rfl rfl rfl ?_
        refine Rg.guards true rfl rfl rfl (fun _ => ⟨nat 0, _, evW_op (rfl), rfl, ?_⟩) (fun h => by cases h)
        refine Rg.guards true rfl rfl rfl (fun _ => ⟨.bool false, _, evW_op (ev_neF rfl rfl (by decide)), rfl, ?_⟩) (fun h => by cases h)
        refine Rg.opp (v := .bool false) rfl rfl rfl rfl rfl ?_
        refine Rg.opp (v := .bool false) rfl rfl rfl rfl rfl ?_
        refine Rg.guards true rfl rfl rfl (fun _ => ⟨.bool false, _, evW_op (rfl), rfl, ?_⟩) (fun h => by cases h)
        refine Rg.guards true rfl rfl rfl (fun _ => ⟨.slice none 0 0, _, evW_op (rfl), rfl, ?_⟩) (fun h => by cases h)
        refine Rg.guards true rfl rfl rfl (fun _ => ⟨nat 0, _, evW_op (rfl), rfl, ?_⟩) (fun h => by cases h)
        refine Rg.guards true rfl rfl rfl (fun _ => ⟨.bool false, _, evW_op (ev_gtF rfl rfl (by decide)), rfl, ?_⟩) (fun h => by cases h)
        refine Rg.guards true rfl rfl rfl (fun _ => ⟨.bool false, _, evW_op (rfl), rfl, ?_⟩) (fun h => by cases h)
        refine Rg.opp (v := .bool false) rfl rfl rfl rfl rfl ?_
        refine Rg.opp (v := .bool false) rfl rfl rfl rfl rfl ?_
        refine Rg.guards true rfl rfl rfl (fun _ => ⟨.slice none 0 0, _, evW_op (rfl), rfl, ?_⟩) (fun h => by cases h)
        refine Rg.guards true rfl rfl rfl (fun _ => ⟨.slice none 0 0, _, evW_op (rfl), rfl, ?_⟩) (fun h => by cases h)
        refine Rg.guards true rfl rfl rfl (fun _ => ⟨.bool true, _, evW_call rfl (rfl) (sameInts_nil), rfl, ?_⟩) (fun h => by cases h)
        refine Rg.guards true rfl rfl rfl (fun _ => ⟨.bool false, _, evW_op (rfl), rfl, ?_⟩) (fun h => by cases h)
        refine Rg.opp (v := .bool false) rfl rfl rfl rfl rfl ?_
        refine Rg.opp (v := .bool false) rfl rfl rfl rfl rfl ?_
        refine Rg.guards true rfl rfl rfl (fun _ => ⟨.bool false, _, evW_op (rfl), rfl, ?_⟩) (fun h => by cases h)
        refine Rg.guards true rfl rfl rfl (fun _ => ⟨.bool false, _, evW_op (rfl), rfl, ?_⟩) (fun h => by cases h)
        refine Rg.guards true rfl rfl rfl (fun _ => ⟨.bool false, _, evW_op (rfl), rfl, ?_⟩) (fun h => by cases h)
        refine Rg.opp (v := .bool false) rfl rfl rfl rfl rfl ?_
        refine Rg.nil ?_
        refine Runs.cond false rfl (fun h => by cases h) (fun _ => ?_)
        refine Runs.skip ?_
        refine Runs.seq ?_
        refine Runs.region ?_
        refine Rg.opp (v := .bool false) rfl rfl rfl rfl rfl ?_
        refine Rg.opp (v := .bool true) rfl rfl rfl rfl rfl ?_
        refine Rg.opp (v := .bool true) rfl rfl rfl rfl rfl ?_
        refine Rg.guards true rfl rfl rfl (fun _ => ⟨nat 0, _, evW_op (rfl), rfl, ?_⟩) (fun h => by cases h)
        refine Rg.guards true rfl rfl rfl (fun _ => ⟨.bool true, _, evW_op (ev_eqT rfl rfl (by decide)), rfl, ?_⟩) (fun h => by cases h)
        refine Rg.opp (v := .bool true) rfl rfl rfl rfl rfl ?_
        refine Rg.opp (v := .bool true) rfl rfl rfl rfl rfl ?_
        refine Rg.guards false rfl rfl rfl (fun h => by cases h) (fun _ => ?_)
        refine Rg.guards false rfl rfl rfl (fun h => by cases h) (fun _ => ?_)
        refine Rg.guards false rfl rfl rfl (fun h => by cases h) (fun _ => ?_)
        refine Rg.guards false rfl rfl rfl (fun h => by cases h) (fun _ => ?_)
        refine Rg.guards false rfl rfl rfl (fun h => by cases h) (fun _ => ?_)
        refine Rg.guards false rfl rfl rfl (fun h => by cases h) (fun _ => ?_)
        refine Rg.opp (v := .bool true) rfl rfl rfl rfl rfl ?_
        refine Rg.opp (v := .bool true) rfl rfl rfl rfl rfl ?_
        refine Rg.nil ?_
        refine Runs.ret ?_
        refine ⟨.bool true, rfl, ?_⟩
        rfl
  · skip
    refine Rg.guards true rfl rfl rfl (fun _ => ⟨.bool false, _, evW_call rfl (rfl) (fits_F hs hx8), rfl, ?_⟩) (fun h => by cases h)
    refine Rg.guards true rfl rfl rfl (fun _ => ⟨.bool true, _, evW_op (rfl), rfl, ?_⟩) (fun h => by cases h)
    refine Rg.opp (v := .bool true) rfl rfl rfl rfl rfl ?_
    refine Rg.nil ?_
    refine Runs.cond true rfl (fun _ => ?_) (fun h => by cases h)
    refine Runs.seq ?_
    refine Runs.region ?_
    refine Rg.calls (v := .bool true) rfl rfl rfl rfl (rfl) rfl (known_is _) ?_
    refine Rg.opp (v := .bool true) rfl rfl rfl rfl rfl ?_
    refine Rg.nil ?_
    refine Runs.ret ?_
    refine ⟨.bool true, rfl, ?_⟩
    rfl

end Go.Proofs.Ytdhbclplondmjaa.C

end
