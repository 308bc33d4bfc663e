/- Texts of one's own, laid together: X14 -/
import Derived.Test.YtdhbclplondmjaaQp28
section
/- cyclic; the law on Closure and Reduction, run: it answers true. -/
set_option linter.unusedVariables false
set_option linter.unusedSimpArgs false
set_option maxRecDepth 100000
set_option maxHeartbeats 4000000
namespace Go.Proofs.Ytdhbclplondmjaa.C
open Go.RowKit Go.Sort

theorem cyclic_runs {H : Heap} {v : Value} {l : List Rel} (hl : Sl H 3 v (rels l)) (hll : l.length ≤ 2 ^ 16) (hn : (unitsP l).length ≤ 8) :
    ∃ r H1, big tab 13 [v] H = some (r, H1) ∧ r = .bool (cycB (arcsOf l)) ∧ Ext H H1 := by
  refine big_of_runs rfl rfl rfl ?_
  obtain ⟨z, hz⟩ := startC_mkS Try.f13 [v]
  rw [show startC (13, Try.f13).snd [v] = _ from hz]
  clear hz
  refine Runs.cut (n := 21) (l := [(0, v)]) (Is.of ⟨rfl, rfl, trivial⟩) (fun a0 => ?_)
  refine Runs.seq ?_
  refine Runs.region ?_
  refine Rg.opp (v := .bool false) rfl rfl rfl rfl rfl ?_
  refine Rg.nil ?_
  refine Runs.seq ?_
  refine Runs.region ?_
  refine Rg.opp (v := v) rfl rfl rfl rfl rfl ?_
  refine Rg.callW rfl rfl rfl rfl (rfl) rfl (reach_runs hl (by omega) (by omega)) (fun rv Hr hP => ?_)
  obtain ⟨her, ov, mm, hrow, hov, hrows, hF⟩ := hP
  have hM := Mem.start Hr
  refine Rg.opp (v := rv) rfl rfl rfl rfl rfl ?_
  refine Rg.nil ?_
  refine Runs.seq ?_
  refine Runs.seq ?_
  refine Runs.region ?_
  refine Rg.opp (v := nat 0) rfl rfl rfl rfl rfl ?_
  refine Rg.nil ?_
  refine Runs.block ?_
  refine Runs.loop (fun m s Hc => ∃ (i : Nat), m = ov.length - i ∧ Mem Hr Hc ([]) ∧ (i ≤ ov.length) ∧ (∀ k, k < i → mm k k = 0) ∧ Is s 21 [(3, rv), (4, nat i)]) _
    ⟨0, rfl, hM, Nat.zero_le _, fun k h => by omega, Is.of ⟨rfl, rfl, rfl, rfl, trivial⟩⟩ ?_
  rintro m s Hc ⟨i, rfl, hM, hi, hno, hs⟩
  obtain ⟨a1, rfl⟩ := hs.mk1
  clear hs
  refine Runs.seq ?_
  refine Runs.seq ?_
  refine Runs.region ?_
  refine Rg.opp (v := nat i) rfl rfl rfl rfl rfl ?_
  refine Rg.opp (v := rv) rfl rfl rfl rfl rfl ?_
  refine Rg.opp (v := nat ov.length) rfl rfl rfl (ev_lenM (hrow.sees hM.ext.sees) rfl rfl) rfl ?_
  by_cases hlt : i < ov.length
  · skip
    refine Rg.opp (v := .bool true) rfl rfl rfl (ev_ltT rfl rfl (hlt)) rfl ?_
    refine Rg.nil ?_
    refine Runs.cond true rfl (fun _ => ?_) (fun h => by cases h)
    refine Runs.skip ?_
    refine Runs.seq ?_
    refine Runs.block ?_
    refine Runs.seq ?_
    refine Runs.region ?_
    refine Rg.opp (v := rv) rfl rfl rfl rfl rfl ?_
    refine Rg.opp (v := nat i) rfl rfl rfl rfl rfl ?_
    refine Rg.opp (v := ptrAt (sAddr rv) (i * 1)) rfl rfl rfl (ev_idxM (k := i) (hrow.sees hM.ext.sees) rfl rfl (hlt) rfl rfl rfl (by decide)) rfl ?_
    refine Rg.opp (v := ov[i]) rfl rfl rfl (ev_ldM (k := i) (hrow.sees hM.ext.sees) rfl (hlt) rfl rfl rfl rfl) rfl ?_
    refine Rg.opp (v := nat i) rfl rfl rfl rfl rfl ?_
    refine Rg.opp (v := ptrAt (sAddr (ov[i])) (i * 1)) rfl rfl rfl (ev_idxM (k := i) ((hrows i hlt).sees hM.ext.sees) rfl rfl (by simp; omega) rfl rfl rfl (by decide)) rfl ?_
    refine Rg.opp (v := nat (mm i i)) rfl rfl rfl (ev_ldM (k := i) ((hrows i hlt).sees hM.ext.sees) rfl (by simp; omega) (by simp) rfl rfl rfl) rfl ?_
    by_cases hpos : 0 < mm i i
    · skip
      refine Rg.opp (v := .bool true) rfl rfl rfl (ev_gtT rfl rfl (hpos)) rfl ?_
      refine Rg.nil ?_
      refine Runs.cond true rfl (fun _ => ?_) (fun h => by cases h)
      refine Runs.seq ?_
      refine Runs.region ?_
      refine Rg.opp (v := .bool true) rfl rfl rfl rfl rfl ?_
      refine Rg.nil ?_
      refine Runs.ret ?_
      refine ⟨.bool true, rfl, ?_⟩
      refine ⟨?_, her.trans hM.ext⟩
      rw [cycB_iff.2 ⟨i, (rch_far (arcs_wf l) hn (hF i i)).1 hpos⟩]
    · skip
      refine Rg.opp (v := .bool false) rfl rfl rfl (ev_gtF rfl rfl (hpos)) rfl ?_
      refine Rg.nil ?_
      refine Runs.cond false rfl (fun h => by cases h) (fun _ => ?_)
      refine Runs.skip ?_
      refine Runs.region ?_
      refine Rg.opp (v := nat i) rfl rfl rfl rfl rfl ?_
      refine Rg.opp (v := nat (i + 1)) rfl rfl rfl (ev_addN (b := 1) rfl rfl (by omega)) rfl ?_
      refine Rg.opp (v := nat (i + 1)) rfl rfl rfl rfl rfl ?_
      refine Rg.nil ?_
      refine ⟨ov.length - (i + 1), by omega, i + 1, rfl, hM, hlt, fun k hk => by
        rcases Nat.lt_or_ge k i with q | q
        · exact hno k q
        · have : k = i := by omega
          subst this; omega, Is.of ⟨rfl, rfl, rfl, rfl, trivial⟩⟩
  · skip
    refine Rg.opp (v := .bool false) rfl rfl rfl (ev_ltF rfl rfl (hlt)) rfl ?_
    refine Rg.nil ?_
    refine Runs.cond false rfl (fun h => by cases h) (fun _ => ?_)
    refine Runs.exit ?_
    refine Runs.seq ?_
    refine Runs.region ?_
    refine Rg.opp (v := .bool false) rfl rfl rfl rfl rfl ?_
    refine Rg.nil ?_
    refine Runs.ret ?_
    refine ⟨.bool false, rfl, ?_⟩
    refine ⟨?_, her.trans hM.ext⟩
    rw [cycB_not.2]
    rintro ⟨x, hx⟩
    have h1 := (rch_lt (arcs_wf l) hx).1
    have h2 := (rch_far (arcs_wf l) hn (hF x x)).2 hx
    have := hno x (by omega)
    omega

theorem lawPairs_runs {H : Heap} {v : Value} {xs : List Seen} (hs : Sl H 3 v (seens xs)) (hsm : ∀ s ∈ xs, s.k < 256 ∧ s.u < 256 ∧ s.l < 256) :
    ∃ r H1, big tab 7 [v] H = some (r, H1) ∧ r = .bool true := by
  refine big_of_runs rfl rfl rfl ?_
  obtain ⟨z, hz⟩ := startC_mkS Try.f7 [v]
  rw [show startC (7, Try.f7).snd [v] = _ from hz]
  clear hz
  refine Runs.cut (n := 186) (l := [(0, v)]) (Is.of ⟨rfl, rfl, trivial⟩) (fun a0 => ?_)
  refine Runs.seq ?_
  refine Runs.region ?_
  refine Rg.opp (v := .bool false) rfl rfl rfl rfl rfl ?_
  refine Rg.nil ?_
  refine Runs.seq ?_
  refine Runs.seq ?_
  refine Runs.region ?_
  refine Rg.calls (v := .bool true) rfl rfl rfl rfl (rfl) rfl (known_is _) ?_
  refine Rg.opp (v := .bool false) rfl rfl rfl rfl rfl ?_
  refine Rg.opp (v := .bool false) rfl rfl rfl rfl rfl ?_
  refine Rg.guards true rfl rfl rfl (fun _ => ⟨v, _, evW_op (rfl), rfl, ?_⟩) (fun h => by cases h)
  by_cases hx8 : xs.length ≤ 8
  · skip
    refine Rg.guards true rfl rfl rfl (fun _ => ⟨.bool true, _, evW_call rfl (rfl) (fits_T hs hx8), rfl, ?_⟩) (fun h => by cases h)
    refine Rg.guards true rfl rfl rfl (fun _ => ⟨.bool false, _, evW_op (rfl), rfl, ?_⟩) (fun h => by cases h)
    refine Rg.opp (v := .bool false) rfl rfl rfl rfl rfl ?_
    refine Rg.nil ?_
    refine Runs.cond false rfl (fun h => by cases h) (fun _ => ?_)
    refine Runs.skip ?_
    refine Runs.seq ?_
    refine Runs.region ?_
    refine Rg.opp (v := v) rfl rfl rfl rfl rfl ?_
    refine Rg.callW rfl rfl rfl rfl (rfl) rfl (makeS_runs hs hsm hx8) (fun lv Hm hP => ?_)
    obtain ⟨hem, hl⟩ := hP
    have sly := seenly xs hx8
    generalize List.map mk xs = l at hl sly
    have hll := sly.len
    have hu6 := sly.units
    have hM := Mem.start Hm
    refine Rg.opp (v := lv) rfl rfl rfl rfl rfl ?_
    refine Rg.nil ?_
    refine Runs.seq ?_
    refine Runs.region ?_
    refine Rg.opp (v := lv) rfl rfl rfl rfl rfl ?_
    refine Rg.callW rfl rfl rfl rfl (rfl) rfl (closure_runs (hl.sees hM.ext.sees) (by omega) sly.good (by omega)) (fun rp Hp hP => ?_)
    obtain ⟨pv, rfl, hMp⟩ := hP
    have hep := hMp.ext
    have hps := hMp.get_sl (j := 0) rfl
    clear hMp
    have hM := Mem.start Hp
    refine Rg.opp (v := .tuple #[pv, nat 0]) rfl rfl rfl rfl rfl ?_
    refine Rg.opp (v := pv) rfl rfl rfl rfl rfl ?_
    refine Rg.opp (v := nat 0) rfl rfl rfl rfl rfl ?_
    refine Rg.opp (v := pv) rfl rfl rfl rfl rfl ?_
    refine Rg.opp (v := nat 0) rfl rfl rfl rfl rfl ?_
    refine Rg.nil ?_
    refine Runs.seq ?_
    refine Runs.region ?_
    refine Rg.opp (v := lv) rfl rfl rfl rfl rfl ?_
    by_cases hcy : cycB (arcsOf l) = true
    · skip
      refine Rg.callW rfl rfl rfl rfl (rfl) rfl (reduction_runs (hl.sees (hep.trans hM.ext).sees) (by omega) sly.good (by omega)) (fun rq Hq hP => ?_)
      obtain ⟨qv, hrq, hMq⟩ := hP
      rw [if_pos hcy] at hrq hMq
      subst hrq
      have heq := hMq.ext
      have hqs := hMq.get_sl (j := 0) rfl
      clear hMq
      have hM := Mem.start Hq
      refine Rg.opp (v := .tuple #[qv, nat 27]) rfl rfl rfl rfl rfl ?_
      refine Rg.opp (v := qv) rfl rfl rfl rfl rfl ?_
      refine Rg.opp (v := nat 27) rfl rfl rfl rfl rfl ?_
      refine Rg.opp (v := qv) rfl rfl rfl rfl rfl ?_
      refine Rg.opp (v := nat 27) rfl rfl rfl rfl rfl ?_
      refine Rg.nil ?_
      refine Runs.seq ?_
      refine Runs.region ?_
      refine Rg.opp (v := lv) rfl rfl rfl rfl rfl ?_
      refine Rg.callW rfl rfl rfl rfl (rfl) rfl (unitsS_runs (hl.sees (hep.trans (heq.trans hM.ext)).sees) (by omega)) (fun uv Hu hP => ?_)
      obtain ⟨heu, hus⟩ := hP
      have hM := Mem.start Hu
      refine Rg.opp (v := lv) rfl rfl rfl rfl rfl ?_
      refine Rg.callW rfl rfl rfl rfl (rfl) rfl (reach_runs (hl.sees (hep.trans (heq.trans (heu.trans hM.ext))).sees) (by omega) (by omega)) (fun rv Hr hP => ?_)
      obtain ⟨her, ov, mm, hrow, hov, hrows, hF⟩ := hP
      have hM := Mem.start Hr
      refine Rg.opp (v := uv) rfl rfl rfl rfl rfl ?_
      refine Rg.opp (v := rv) rfl rfl rfl rfl rfl ?_
      refine Rg.nil ?_
      refine Runs.seq ?_
      refine Runs.region ?_
      refine Rg.opp (v := nat 0) rfl rfl rfl rfl rfl ?_
      refine Rg.nil ?_
      refine Runs.seq ?_
      refine Runs.seq ?_
      refine Runs.region ?_
      refine Rg.opp (v := nat 0) rfl rfl rfl rfl rfl ?_
      refine Rg.nil ?_
      refine Runs.block ?_
      refine Runs.loop (fun m s Hc => ∃ (i : Nat), m = (unitsP l).length - i ∧ Mem Hr Hc ([]) ∧ (i ≤ (unitsP l).length) ∧ Is s 186 [(3, lv), (4, pv), (5, nat 0), (6, qv), (7, nat 27), (8, uv), (9, rv), (10, nat ((closeL (arcsOf l) (unitsP l).length i).length)), (11, nat i)]) _
        ⟨0, rfl, hM, Nat.zero_le _, Is.of ⟨rfl, rfl, rfl, rfl, rfl, rfl, rfl, rfl, rfl, rfl, rfl, rfl, rfl, rfl, rfl, rfl, rfl, rfl, trivial⟩⟩ ?_
      rintro m s Hc ⟨i, rfl, hM, hi, hs⟩
      obtain ⟨a1, rfl⟩ := hs.mk1
      clear hs
      have hcl := closeL_len (arcsOf l) (unitsP l).length i
      have hmul : i * (unitsP l).length ≤ 6 * 6 := Nat.mul_le_mul (by omega) (by omega)
      refine Runs.seq ?_
      refine Runs.seq ?_
      refine Runs.region ?_
      refine Rg.opp (v := nat i) rfl rfl rfl rfl rfl ?_
      refine Rg.opp (v := uv) rfl rfl rfl rfl rfl ?_
      refine Rg.opp (v := nat ((unitsP l).length)) rfl rfl rfl (ev_lenM (hus.sees (her.trans hM.ext).sees) rfl rfl) rfl ?_
      by_cases hlt : i < (unitsP l).length
      · skip
        refine Rg.opp (v := .bool true) rfl rfl rfl (ev_ltT rfl rfl (hlt)) rfl ?_
        refine Rg.nil ?_
        refine Runs.cond true rfl (fun _ => ?_) (fun h => by cases h)
        refine Runs.skip ?_
        refine Runs.seq ?_
        refine Runs.block ?_
        refine Runs.seq ?_
        refine Runs.region ?_
        refine Rg.opp (v := nat 0) rfl rfl rfl rfl rfl ?_
        refine Rg.nil ?_
        refine Runs.block ?_
        refine Runs.loop (fun m s Hc => ∃ (k : Nat) (c : Nat), m = (unitsP l).length - k ∧ Mem Hr Hc ([]) ∧ (k ≤ (unitsP l).length) ∧ (c = (closeL (arcsOf l) (unitsP l).length i).length + (closeIn (arcsOf l) i k).length) ∧ Is s 186 [(3, lv), (4, pv), (5, nat 0), (6, qv), (7, nat 27), (8, uv), (9, rv), (10, nat c), (11, nat i), (12, nat k)]) _
          ⟨0, (closeL (arcsOf l) (unitsP l).length i).length, rfl, hM, Nat.zero_le _, rfl, Is.of ⟨rfl, rfl, rfl, rfl, rfl, rfl, rfl, rfl, rfl, rfl, rfl, rfl, rfl, rfl, rfl, rfl, rfl, rfl, rfl, rfl, trivial⟩⟩ ?_
        rintro m s Hc ⟨k, c, rfl, hM, hk, hc, hs⟩
        obtain ⟨a2, rfl⟩ := hs.mk1
        clear hs
        have hci := closeIn_len (arcsOf l) i k
        refine Runs.seq ?_
        refine Runs.seq ?_
        refine Runs.region ?_
        refine Rg.opp (v := nat k) rfl rfl rfl rfl rfl ?_
        refine Rg.opp (v := uv) rfl rfl rfl rfl rfl ?_
        refine Rg.opp (v := nat ((unitsP l).length)) rfl rfl rfl (ev_lenM (hus.sees (her.trans hM.ext).sees) rfl rfl) rfl ?_
        by_cases hltk : k < (unitsP l).length
        · skip
          refine Rg.opp (v := .bool true) rfl rfl rfl (ev_ltT rfl rfl (hltk)) rfl ?_
          refine Rg.nil ?_
          refine Runs.cond true rfl (fun _ => ?_) (fun h => by cases h)
          refine Runs.skip ?_
          refine Runs.seq ?_
          refine Runs.block ?_
          refine Runs.seq ?_
          refine Runs.region ?_
          refine Rg.opp (v := rv) rfl rfl rfl rfl rfl ?_
          refine Rg.opp (v := nat i) rfl rfl rfl rfl rfl ?_
          refine Rg.opp (v := ptrAt (sAddr rv) (i * 1)) rfl rfl rfl (ev_idxM (k := i) (hrow.sees hM.ext.sees) rfl rfl (by omega) rfl rfl rfl (by decide)) rfl ?_
          refine Rg.opp (v := ov[i]) rfl rfl rfl (ev_ldM (k := i) (hrow.sees hM.ext.sees) rfl (by omega) rfl rfl rfl rfl) rfl ?_
          refine Rg.opp (v := nat k) rfl rfl rfl rfl rfl ?_
          refine Rg.opp (v := ptrAt (sAddr (ov[i])) (k * 1)) rfl rfl rfl (ev_idxM (k := k) ((hrows _ (by omega)).sees hM.ext.sees) rfl rfl (by simp; omega) rfl rfl rfl (by decide)) rfl ?_
          refine Rg.opp (v := nat (mm i k)) rfl rfl rfl (ev_ldM (k := k) ((hrows _ (by omega)).sees hM.ext.sees) rfl (by simp; omega) (by simp) rfl rfl rfl) rfl ?_
          by_cases hpos : 0 < mm i k
          · skip
            have hrc : rchB (arcsOf l) i k = true := rchB_iff.2 ((rch_far (arcs_wf l) (by omega) (hF i k)).1 hpos)
            obtain ⟨hat1, hat2⟩ := close_at hlt hltk hrc
            have hat3 : c < (closeL (arcsOf l) (unitsP l).length (unitsP l).length).length := by omega
            have hat4 : (closeL (arcsOf l) (unitsP l).length (unitsP l).length)[c] = (i, k) := by rw [← hat2]; congr 1
            refine Rg.opp (v := .bool true) rfl rfl rfl (ev_gtT rfl rfl (hpos)) rfl ?_
            refine Rg.nil ?_
            refine Runs.cond true rfl (fun _ => ?_) (fun h => by cases h)
            refine Runs.seq ?_
            refine Runs.seq ?_
            refine Runs.drawn (is := [0, 1, 2, 3, 4, 5, 6, 7, 8, 9, 10, 11, 12, 13, 14, 15, 16, 17, 18, 19]) (by decide +kernel) ?_
            refine Rg.opp (v := nat c) rfl rfl rfl rfl rfl ?_
            refine Rg.opp (v := pv) rfl rfl rfl rfl rfl ?_
            refine Rg.opp (v := nat ((closeL (arcsOf l) (unitsP l).length (unitsP l).length).length)) rfl rfl rfl (ev_lenM (hps.sees (heq.trans (heu.trans (her.trans hM.ext))).sees) rfl rfl) rfl ?_
            refine Rg.opp (v := .bool false) rfl rfl rfl (ev_geF (a := c) (b := (closeL (arcsOf l) (unitsP l).length (unitsP l).length).length) rfl rfl (by omega)) rfl ?_
            refine Rg.opp (v := .bool false) rfl rfl rfl rfl rfl ?_
            refine Rg.guards true rfl rfl rfl (fun _ => ⟨pv, _, evW_op (rfl), rfl, ?_⟩) (fun h => by cases h)
            refine Rg.guards true rfl rfl rfl (fun _ => ⟨nat c, _, evW_op (rfl), rfl, ?_⟩) (fun h => by cases h)
            refine Rg.guards true rfl rfl rfl (fun _ => ⟨ptrAt (sAddr pv) (c * 2), _, evW_op (ev_idxM (k := c) (hps.sees (heq.trans (heu.trans (her.trans hM.ext))).sees) rfl rfl (hat3) rfl rfl rfl (by decide)), rfl, ?_⟩) (fun h => by cases h)
            refine Rg.guards true rfl rfl rfl (fun _ => ⟨.agg (pairC (unitsP l) (i, k)).toArray, _, evW_op (ev_ldAMx (k := c) (hps.sees (heq.trans (heu.trans (her.trans hM.ext))).sees) rfl (hat3) (by rw [hat4]) rfl rfl rfl), rfl, ?_⟩) (fun h => by cases h)
            refine Rg.guards true rfl rfl rfl (fun _ => ⟨uv, _, evW_op (rfl), rfl, ?_⟩) (fun h => by cases h)
            refine Rg.guards true rfl rfl rfl (fun _ => ⟨nat i, _, evW_op (rfl), rfl, ?_⟩) (fun h => by cases h)
            refine Rg.guards true rfl rfl rfl (fun _ => ⟨ptrAt (sAddr uv) (i * 1), _, evW_op (ev_idxM (k := i) (hus.sees (her.trans hM.ext).sees) rfl rfl (hlt) rfl rfl rfl (by decide)), rfl, ?_⟩) (fun h => by cases h)
            refine Rg.guards true rfl rfl rfl (fun _ => ⟨str ((unitsP l).getD i []), _, evW_op (ev_ldM (k := i) (hus.sees (her.trans hM.ext).sees) rfl (hlt) (encS_getD hlt) rfl rfl rfl), rfl, ?_⟩) (fun h => by cases h)
            refine Rg.guards true rfl rfl rfl (fun _ => ⟨uv, _, evW_op (rfl), rfl, ?_⟩) (fun h => by cases h)
            refine Rg.guards true rfl rfl rfl (fun _ => ⟨nat k, _, evW_op (rfl), rfl, ?_⟩) (fun h => by cases h)
            refine Rg.guards true rfl rfl rfl (fun _ => ⟨ptrAt (sAddr uv) (k * 1), _, evW_op (ev_idxM (k := k) (hus.sees (her.trans hM.ext).sees) rfl rfl (hltk) rfl rfl rfl (by decide)), rfl, ?_⟩) (fun h => by cases h)
            refine Rg.guards true rfl rfl rfl (fun _ => ⟨str ((unitsP l).getD k []), _, evW_op (ev_ldM (k := k) (hus.sees (her.trans hM.ext).sees) rfl (hltk) (encS_getD hltk) rfl rfl rfl), rfl, ?_⟩) (fun h => by cases h)
            refine Rg.guards true rfl rfl rfl (fun _ => ⟨.agg (pairC (unitsP l) (i, k)).toArray, _, evW_op (rfl), rfl, ?_⟩) (fun h => by cases h)
            refine Rg.guards true rfl rfl rfl (fun _ => ⟨.bool false, _, evW_op (ev_nePair rfl rfl), rfl, ?_⟩) (fun h => by cases h)
            refine Rg.opp (v := .bool false) rfl rfl rfl rfl rfl ?_
            refine Rg.nil ?_
            refine Runs.cond false rfl (fun h => by cases h) (fun _ => ?_)
            refine Runs.skip ?_
            refine Runs.region ?_
            refine Rg.opp (v := nat c) rfl rfl rfl rfl rfl ?_
            refine Rg.opp (v := nat (c + 1)) rfl rfl rfl (ev_addN (b := 1) rfl rfl (by omega)) rfl ?_
            refine Rg.opp (v := nat (c + 1)) rfl rfl rfl rfl rfl ?_
            refine Rg.nil ?_
            refine Runs.region ?_
            refine Rg.opp (v := nat k) rfl rfl rfl rfl rfl ?_
            refine Rg.opp (v := nat (k + 1)) rfl rfl rfl (ev_addN (b := 1) rfl rfl (by omega)) rfl ?_
            refine Rg.opp (v := nat (k + 1)) rfl rfl rfl rfl rfl ?_
            refine Rg.nil ?_
            refine ⟨(unitsP l).length - (k + 1), by omega, k + 1, c + 1, rfl, hM, hltk, by rw [closeIn_succ, if_pos hrc, List.length_append]; simp only [List.length_cons, List.length_nil]; omega, Is.of ⟨rfl, rfl, rfl, rfl, rfl, rfl, rfl, rfl, rfl, rfl, rfl, rfl, rfl, rfl, rfl, rfl, rfl, rfl, rfl, rfl, trivial⟩⟩
          · skip
            have hrc : ¬ rchB (arcsOf l) i k = true := fun h => hpos ((rch_far (arcs_wf l) (by omega) (hF i k)).2 (rchB_iff.1 h))
            refine Rg.opp (v := .bool false) rfl rfl rfl (ev_gtF rfl rfl (hpos)) rfl ?_
            refine Rg.nil ?_
            refine Runs.cond false rfl (fun h => by cases h) (fun _ => ?_)
            refine Runs.skip ?_
            refine Runs.region ?_
            refine Rg.opp (v := nat k) rfl rfl rfl rfl rfl ?_
            refine Rg.opp (v := nat (k + 1)) rfl rfl rfl (ev_addN (b := 1) rfl rfl (by omega)) rfl ?_
            refine Rg.opp (v := nat (k + 1)) rfl rfl rfl rfl rfl ?_
            refine Rg.nil ?_
            refine ⟨(unitsP l).length - (k + 1), by omega, k + 1, c, rfl, hM, hltk, by rw [closeIn_succ, if_neg hrc]; exact hc, Is.of ⟨rfl, rfl, rfl, rfl, rfl, rfl, rfl, rfl, rfl, rfl, rfl, rfl, rfl, rfl, rfl, rfl, rfl, rfl, rfl, rfl, trivial⟩⟩
        · skip
          have hke : k = (unitsP l).length := by omega
          rw [hke, ← List.length_append, ← closeL_succ] at hc
          subst hc
          refine Rg.opp (v := .bool false) rfl rfl rfl (ev_ltF rfl rfl (hltk)) rfl ?_
          refine Rg.nil ?_
          refine Runs.cond false rfl (fun h => by cases h) (fun _ => ?_)
          refine Runs.exit ?_
          refine Runs.region ?_
          refine Rg.opp (v := nat i) rfl rfl rfl rfl rfl ?_
          refine Rg.opp (v := nat (i + 1)) rfl rfl rfl (ev_addN (b := 1) rfl rfl (by omega)) rfl ?_
          refine Rg.opp (v := nat (i + 1)) rfl rfl rfl rfl rfl ?_
          refine Rg.nil ?_
          refine ⟨(unitsP l).length - (i + 1), by omega, i + 1, rfl, hM, hlt, Is.of ⟨rfl, rfl, rfl, rfl, rfl, rfl, rfl, rfl, rfl, rfl, rfl, rfl, rfl, rfl, rfl, rfl, rfl, rfl, trivial⟩⟩
      · skip
        have hie : i = (unitsP l).length := by omega
        refine Rg.opp (v := .bool false) rfl rfl rfl (ev_ltF rfl rfl (hlt)) rfl ?_
        refine Rg.nil ?_
        refine Runs.cond false rfl (fun h => by cases h) (fun _ => ?_)
        refine Runs.exit ?_
        rw [hie]
        refine Runs.seq ?_
        refine Runs.seq ?_
        refine Runs.region ?_
        refine Rg.opp (v := nat 0) rfl rfl rfl rfl rfl ?_
        refine Rg.opp (v := .bool false) rfl rfl rfl (ev_neF rfl rfl (by decide)) rfl ?_
        refine Rg.opp (v := .bool false) rfl rfl rfl rfl rfl ?_
        refine Rg.guards true rfl rfl rfl (fun _ => ⟨nat ((closeL (arcsOf l) (unitsP l).length (unitsP l).length).length), _, evW_op (rfl), rfl, ?_⟩) (fun h => by cases h)
        refine Rg.guards true rfl rfl rfl (fun _ => ⟨pv, _, evW_op (rfl), rfl, ?_⟩) (fun h => by cases h)
        refine Rg.guards true rfl rfl rfl (fun _ => ⟨nat ((closeL (arcsOf l) (unitsP l).length (unitsP l).length).length), _, evW_op (ev_lenM (hps.sees (heq.trans (heu.trans (her.trans hM.ext))).sees) rfl rfl), rfl, ?_⟩) (fun h => by cases h)
        refine Rg.guards true rfl rfl rfl (fun _ => ⟨.bool false, _, evW_op (ev_neF (a := (closeL (arcsOf l) (unitsP l).length (unitsP l).length).length) (b := (closeL (arcsOf l) (unitsP l).length (unitsP l).length).length) rfl rfl (rfl)), rfl, ?_⟩) (fun h => by cases h)
        refine Rg.opp (v := .bool false) rfl rfl rfl rfl rfl ?_
        refine Rg.nil ?_
        refine Runs.cond false rfl (fun h => by cases h) (fun _ => ?_)
        refine Runs.skip ?_
        refine Runs.seq ?_
        refine Runs.seq ?_
        refine Runs.region ?_
        refine Rg.opp (v := lv) rfl rfl rfl rfl rfl ?_
        refine Rg.callW rfl rfl rfl rfl (rfl) rfl (cyclic_runs (hl.sees (hep.trans (heq.trans (heu.trans (her.trans hM.ext)))).sees) (by omega) (by omega)) (fun rc Hc hP => ?_)
        obtain ⟨hrc, hec⟩ := hP
        rw [hcy] at hrc
        subst hrc
        replace hM := hM.more hec
        refine Rg.nil ?_
        refine Runs.cond true rfl (fun _ => ?_) (fun h => by cases h)
        refine Runs.seq ?_
        refine Runs.region ?_
        refine Rg.opp (v := qv) rfl rfl rfl rfl rfl ?_
        refine Rg.opp (v := nat ((([] : List Nat)).length)) rfl rfl rfl (ev_lenM (hqs.sees (heu.trans (her.trans hM.ext)).sees) rfl rfl) rfl ?_
        refine Rg.opp (v := .bool true) rfl rfl rfl (ev_eqT (a := (([] : List Nat)).length) (b := 0) rfl rfl (rfl)) rfl ?_
        refine Rg.opp (v := .bool true) rfl rfl rfl rfl rfl ?_
        refine Rg.guards true rfl rfl rfl (fun _ => ⟨nat 27, _, evW_op (rfl), rfl, ?_⟩) (fun h => by cases h)
        refine Rg.guards true rfl rfl rfl (fun _ => ⟨.bool true, _, evW_op (ev_eqT rfl rfl (by decide)), rfl, ?_⟩) (fun h => by cases h)
        refine Rg.opp (v := .bool true) rfl rfl rfl rfl rfl ?_
        refine Rg.opp (v := .bool true) rfl rfl rfl rfl rfl ?_
        refine Rg.nil ?_
        refine Runs.ret ?_
        refine ⟨.bool true, rfl, ?_⟩
        rfl
    · skip
      refine Rg.callW rfl rfl rfl rfl (rfl) rfl (reduction_runs (hl.sees (hep.trans hM.ext).sees) (by omega) sly.good (by omega)) (fun rq Hq hP => ?_)
      obtain ⟨qv, hrq, hMq⟩ := hP
      rw [if_neg hcy] at hrq hMq
      subst hrq
      have heq := hMq.ext
      have hqs := hMq.get_sl (j := 0) rfl
      clear hMq
      have hM := Mem.start Hq
      refine Rg.opp (v := .tuple #[qv, nat 0]) rfl rfl rfl rfl rfl ?_
      refine Rg.opp (v := qv) rfl rfl rfl rfl rfl ?_
      refine Rg.opp (v := nat 0) rfl rfl rfl rfl rfl ?_
      refine Rg.opp (v := qv) rfl rfl rfl rfl rfl ?_
      refine Rg.opp (v := nat 0) rfl rfl rfl rfl rfl ?_
      refine Rg.nil ?_
      refine Runs.seq ?_
      refine Runs.region ?_
      refine Rg.opp (v := lv) rfl rfl rfl rfl rfl ?_
      refine Rg.callW rfl rfl rfl rfl (rfl) rfl (unitsS_runs (hl.sees (hep.trans (heq.trans hM.ext)).sees) (by omega)) (fun uv Hu hP => ?_)
      obtain ⟨heu, hus⟩ := hP
      have hM := Mem.start Hu
      refine Rg.opp (v := lv) rfl rfl rfl rfl rfl ?_
      refine Rg.callW rfl rfl rfl rfl (rfl) rfl (reach_runs (hl.sees (hep.trans (heq.trans (heu.trans hM.ext))).sees) (by omega) (by omega)) (fun rv Hr hP => ?_)
      obtain ⟨her, ov, mm, hrow, hov, hrows, hF⟩ := hP
      have hM := Mem.start Hr
      refine Rg.opp (v := uv) rfl rfl rfl rfl rfl ?_
      refine Rg.opp (v := rv) rfl rfl rfl rfl rfl ?_
      refine Rg.nil ?_
      refine Runs.seq ?_
      refine Runs.region ?_
      refine Rg.opp (v := nat 0) rfl rfl rfl rfl rfl ?_
      refine Rg.nil ?_
      refine Runs.seq ?_
      refine Runs.seq ?_
      refine Runs.region ?_
      refine Rg.opp (v := nat 0) rfl rfl rfl rfl rfl ?_
      refine Rg.nil ?_
      refine Runs.block ?_
      refine Runs.loop (fun m s Hc => ∃ (i : Nat), m = (unitsP l).length - i ∧ Mem Hr Hc ([]) ∧ (i ≤ (unitsP l).length) ∧ Is s 186 [(3, lv), (4, pv), (5, nat 0), (6, qv), (7, nat 0), (8, uv), (9, rv), (10, nat ((closeL (arcsOf l) (unitsP l).length i).length)), (11, nat i)]) _
        ⟨0, rfl, hM, Nat.zero_le _, Is.of ⟨rfl, rfl, rfl, rfl, rfl, rfl, rfl, rfl, rfl, rfl, rfl, rfl, rfl, rfl, rfl, rfl, rfl, rfl, trivial⟩⟩ ?_
      rintro m s Hc ⟨i, rfl, hM, hi, hs⟩
      obtain ⟨a3, rfl⟩ := hs.mk1
      clear hs
      have hcl := closeL_len (arcsOf l) (unitsP l).length i
      have hmul : i * (unitsP l).length ≤ 6 * 6 := Nat.mul_le_mul (by omega) (by omega)
      refine Runs.seq ?_
      refine Runs.seq ?_
      refine Runs.region ?_
      refine Rg.opp (v := nat i) rfl rfl rfl rfl rfl ?_
      refine Rg.opp (v := uv) rfl rfl rfl rfl rfl ?_
      refine Rg.opp (v := nat ((unitsP l).length)) rfl rfl rfl (ev_lenM (hus.sees (her.trans hM.ext).sees) rfl rfl) rfl ?_
      by_cases hlt : i < (unitsP l).length
      · skip
        refine Rg.opp (v := .bool true) rfl rfl rfl (ev_ltT rfl rfl (hlt)) rfl ?_
        refine Rg.nil ?_
        refine Runs.cond true rfl (fun _ => ?_) (fun h => by cases h)
        refine Runs.skip ?_
        refine Runs.seq ?_
        refine Runs.block ?_
        refine Runs.seq ?_
        refine Runs.region ?_
        refine Rg.opp (v := nat 0) rfl rfl rfl rfl rfl ?_
        refine Rg.nil ?_
        refine Runs.block ?_
        refine Runs.loop (fun m s Hc => ∃ (k : Nat) (c : Nat), m = (unitsP l).length - k ∧ Mem Hr Hc ([]) ∧ (k ≤ (unitsP l).length) ∧ (c = (closeL (arcsOf l) (unitsP l).length i).length + (closeIn (arcsOf l) i k).length) ∧ Is s 186 [(3, lv), (4, pv), (5, nat 0), (6, qv), (7, nat 0), (8, uv), (9, rv), (10, nat c), (11, nat i), (12, nat k)]) _
          ⟨0, (closeL (arcsOf l) (unitsP l).length i).length, rfl, hM, Nat.zero_le _, rfl, Is.of ⟨rfl, rfl, rfl, rfl, rfl, rfl, rfl, rfl, rfl, rfl, rfl, rfl, rfl, rfl, rfl, rfl, rfl, rfl, rfl, rfl, trivial⟩⟩ ?_
        rintro m s Hc ⟨k, c, rfl, hM, hk, hc, hs⟩
        obtain ⟨a4, rfl⟩ := hs.mk1
        clear hs
        have hci := closeIn_len (arcsOf l) i k
        refine Runs.seq ?_
        refine Runs.seq ?_
        refine Runs.region ?_
        refine Rg.opp (v := nat k) rfl rfl rfl rfl rfl ?_
        refine Rg.opp (v := uv) rfl rfl rfl rfl rfl ?_
        refine Rg.opp (v := nat ((unitsP l).length)) rfl rfl rfl (ev_lenM (hus.sees (her.trans hM.ext).sees) rfl rfl) rfl ?_
        by_cases hltk : k < (unitsP l).length
        · skip
          refine Rg.opp (v := .bool true) rfl rfl rfl (ev_ltT rfl rfl (hltk)) rfl ?_
          refine Rg.nil ?_
          refine Runs.cond true rfl (fun _ => ?_) (fun h => by cases h)
          refine Runs.skip ?_
          refine Runs.seq ?_
          refine Runs.block ?_
          refine Runs.seq ?_
          refine Runs.region ?_
          refine Rg.opp (v := rv) rfl rfl rfl rfl rfl ?_
          refine Rg.opp (v := nat i) rfl rfl rfl rfl rfl ?_
          refine Rg.opp (v := ptrAt (sAddr rv) (i * 1)) rfl rfl rfl (ev_idxM (k := i) (hrow.sees hM.ext.sees) rfl rfl (by omega) rfl rfl rfl (by decide)) rfl ?_
          refine Rg.opp (v := ov[i]) rfl rfl rfl (ev_ldM (k := i) (hrow.sees hM.ext.sees) rfl (by omega) rfl rfl rfl rfl) rfl ?_
          refine Rg.opp (v := nat k) rfl rfl rfl rfl rfl ?_
          refine Rg.opp (v := ptrAt (sAddr (ov[i])) (k * 1)) rfl rfl rfl (ev_idxM (k := k) ((hrows _ (by omega)).sees hM.ext.sees) rfl rfl (by simp; omega) rfl rfl rfl (by decide)) rfl ?_
          refine Rg.opp (v := nat (mm i k)) rfl rfl rfl (ev_ldM (k := k) ((hrows _ (by omega)).sees hM.ext.sees) rfl (by simp; omega) (by simp) rfl rfl rfl) rfl ?_
          by_cases hpos : 0 < mm i k
          · skip
            have hrc : rchB (arcsOf l) i k = true := rchB_iff.2 ((rch_far (arcs_wf l) (by omega) (hF i k)).1 hpos)
            obtain ⟨hat1, hat2⟩ := close_at hlt hltk hrc
            have hat3 : c < (closeL (arcsOf l) (unitsP l).length (unitsP l).length).length := by omega
            have hat4 : (closeL (arcsOf l) (unitsP l).length (unitsP l).length)[c] = (i, k) := by rw [← hat2]; congr 1
            refine Rg.opp (v := .bool true) rfl rfl rfl (ev_gtT rfl rfl (hpos)) rfl ?_
            refine Rg.nil ?_
            refine Runs.cond true rfl (fun _ => ?_) (fun h => by cases h)
            refine Runs.seq ?_
            refine Runs.seq ?_
            refine Runs.drawn (is := [0, 1, 2, 3, 4, 5, 6, 7, 8, 9, 10, 11, 12, 13, 14, 15, 16, 17, 18, 19]) (by decide +kernel) ?_
            refine Rg.opp (v := nat c) rfl rfl rfl rfl rfl ?_
            refine Rg.opp (v := pv) rfl rfl rfl rfl rfl ?_
            refine Rg.opp (v := nat ((closeL (arcsOf l) (unitsP l).length (unitsP l).length).length)) rfl rfl rfl (ev_lenM (hps.sees (heq.trans (heu.trans (her.trans hM.ext))).sees) rfl rfl) rfl ?_
            refine Rg.opp (v := .bool false) rfl rfl rfl (ev_geF (a := c) (b := (closeL (arcsOf l) (unitsP l).length (unitsP l).length).length) rfl rfl (by omega)) rfl ?_
            refine Rg.opp (v := .bool false) rfl rfl rfl rfl rfl ?_
            refine Rg.guards true rfl rfl rfl (fun _ => ⟨pv, _, evW_op (rfl), rfl, ?_⟩) (fun h => by cases h)
            refine Rg.guards true rfl rfl rfl (fun _ => ⟨nat c, _, evW_op (rfl), rfl, ?_⟩) (fun h => by cases h)
            refine Rg.guards true rfl rfl rfl (fun _ => ⟨ptrAt (sAddr pv) (c * 2), _, evW_op (ev_idxM (k := c) (hps.sees (heq.trans (heu.trans (her.trans hM.ext))).sees) rfl rfl (hat3) rfl rfl rfl (by decide)), rfl, ?_⟩) (fun h => by cases h)
            refine Rg.guards true rfl rfl rfl (fun _ => ⟨.agg (pairC (unitsP l) (i, k)).toArray, _, evW_op (ev_ldAMx (k := c) (hps.sees (heq.trans (heu.trans (her.trans hM.ext))).sees) rfl (hat3) (by rw [hat4]) rfl rfl rfl), rfl, ?_⟩) (fun h => by cases h)
            refine Rg.guards true rfl rfl rfl (fun _ => ⟨uv, _, evW_op (rfl), rfl, ?_⟩) (fun h => by cases h)
            refine Rg.guards true rfl rfl rfl (fun _ => ⟨nat i, _, evW_op (rfl), rfl, ?_⟩) (fun h => by cases h)
            refine Rg.guards true rfl rfl rfl (fun _ => ⟨ptrAt (sAddr uv) (i * 1), _, evW_op (ev_idxM (k := i) (hus.sees (her.trans hM.ext).sees) rfl rfl (hlt) rfl rfl rfl (by decide)), rfl, ?_⟩) (fun h => by cases h)
            refine Rg.guards true rfl rfl rfl (fun _ => ⟨str ((unitsP l).getD i []), _, evW_op (ev_ldM (k := i) (hus.sees (her.trans hM.ext).sees) rfl (hlt) (encS_getD hlt) rfl rfl rfl), rfl, ?_⟩) (fun h => by cases h)
            refine Rg.guards true rfl rfl rfl (fun _ => ⟨uv, _, evW_op (rfl), rfl, ?_⟩) (fun h => by cases h)
            refine Rg.guards true rfl rfl rfl (fun _ => ⟨nat k, _, evW_op (rfl), rfl, ?_⟩) (fun h => by cases h)
            refine Rg.guards true rfl rfl rfl (fun _ => ⟨ptrAt (sAddr uv) (k * 1), _, evW_op (ev_idxM (k := k) (hus.sees (her.trans hM.ext).sees) rfl rfl (hltk) rfl rfl rfl (by decide)), rfl, ?_⟩) (fun h => by cases h)
            refine Rg.guards true rfl rfl rfl (fun _ => ⟨str ((unitsP l).getD k []), _, evW_op (ev_ldM (k := k) (hus.sees (her.trans hM.ext).sees) rfl (hltk) (encS_getD hltk) rfl rfl rfl), rfl, ?_⟩) (fun h => by cases h)
            refine Rg.guards true rfl rfl rfl (fun _ => ⟨.agg (pairC (unitsP l) (i, k)).toArray, _, evW_op (rfl), rfl, ?_⟩) (fun h => by cases h)
            refine Rg.guards true rfl rfl rfl (fun _ => ⟨.bool false, _, evW_op (ev_nePair rfl rfl), rfl, ?_⟩) (fun h => by cases h)
            refine Rg.opp (v := .bool false) rfl rfl rfl rfl rfl ?_
            refine Rg.nil ?_
            refine Runs.cond false rfl (fun h => by cases h) (fun _ => ?_)
            refine Runs.skip ?_
            refine Runs.region ?_
            refine Rg.opp (v := nat c) rfl rfl rfl rfl rfl ?_
            refine Rg.opp (v := nat (c + 1)) rfl rfl rfl (ev_addN (b := 1) rfl rfl (by omega)) rfl ?_
            refine Rg.opp (v := nat (c + 1)) rfl rfl rfl rfl rfl ?_
            refine Rg.nil ?_
            refine Runs.region ?_
            refine Rg.opp (v := nat k) rfl rfl rfl rfl rfl ?_
            refine Rg.opp (v := nat (k + 1)) rfl rfl rfl (ev_addN (b := 1) rfl rfl (by omega)) rfl ?_
            refine Rg.opp (v := nat (k + 1)) rfl rfl rfl rfl rfl ?_
            refine Rg.nil ?_
            refine ⟨(unitsP l).length - (k + 1), by omega, k + 1, c + 1, rfl, hM, hltk, by rw [closeIn_succ, if_pos hrc, List.length_append]; simp only [List.length_cons, List.length_nil]; omega, Is.of ⟨rfl, rfl, rfl, rfl, rfl, rfl, rfl, rfl, rfl, rfl, rfl, rfl, rfl, rfl, rfl, rfl, rfl, rfl, rfl, rfl, trivial⟩⟩
          · skip
            have hrc : ¬ rchB (arcsOf l) i k = true := fun h => hpos ((rch_far (arcs_wf l) (by omega) (hF i k)).2 (rchB_iff.1 h))
            refine Rg.opp (v := .bool false) rfl rfl rfl (ev_gtF rfl rfl (hpos)) rfl ?_
            refine Rg.nil ?_
            refine Runs.cond false rfl (fun h => by cases h) (fun _ => ?_)
            refine Runs.skip ?_
            refine Runs.region ?_
            refine Rg.opp (v := nat k) rfl rfl rfl rfl rfl ?_
            refine Rg.opp (v := nat (k + 1)) rfl rfl rfl (ev_addN (b := 1) rfl rfl (by omega)) rfl ?_
            refine Rg.opp (v := nat (k + 1)) rfl rfl rfl rfl rfl ?_
            refine Rg.nil ?_
            refine ⟨(unitsP l).length - (k + 1), by omega, k + 1, c, rfl, hM, hltk, by rw [closeIn_succ, if_neg hrc]; exact hc, Is.of ⟨rfl, rfl, rfl, rfl, rfl, rfl, rfl, rfl, rfl, rfl, rfl, rfl, rfl, rfl, rfl, rfl, rfl, rfl, rfl, rfl, trivial⟩⟩
        · skip
          have hke : k = (unitsP l).length := by omega
          rw [hke, ← List.length_append, ← closeL_succ] at hc
          subst hc
          refine Rg.opp (v := .bool false) rfl rfl rfl (ev_ltF rfl rfl (hltk)) rfl ?_
          refine Rg.nil ?_
          refine Runs.cond false rfl (fun h => by cases h) (fun _ => ?_)
          refine Runs.exit ?_
          refine Runs.region ?_
          refine Rg.opp (v := nat i) rfl rfl rfl rfl rfl ?_
          refine Rg.opp (v := nat (i + 1)) rfl rfl rfl (ev_addN (b := 1) rfl rfl (by omega)) rfl ?_
          refine Rg.opp (v := nat (i + 1)) rfl rfl rfl rfl rfl ?_
          refine Rg.nil ?_
          refine ⟨(unitsP l).length - (i + 1), by omega, i + 1, rfl, hM, hlt, Is.of ⟨rfl, rfl, rfl, rfl, rfl, rfl, rfl, rfl, rfl, rfl, rfl, rfl, rfl, rfl, rfl, rfl, rfl, rfl, trivial⟩⟩
      · skip
        have hie : i = (unitsP l).length := by omega
        refine Rg.opp (v := .bool false) rfl rfl rfl (ev_ltF rfl rfl (hlt)) rfl ?_
        refine Rg.nil ?_
        refine Runs.cond false rfl (fun h => by cases h) (fun _ => ?_)
        refine Runs.exit ?_
        rw [hie]
        refine Runs.seq ?_
        refine Runs.seq ?_
        refine Runs.region ?_
        refine Rg.opp (v := nat 0) rfl rfl rfl rfl rfl ?_
        refine Rg.opp (v := .bool false) rfl rfl rfl (ev_neF rfl rfl (by decide)) rfl ?_
        refine Rg.opp (v := .bool false) rfl rfl rfl rfl rfl ?_
        refine Rg.guards true rfl rfl rfl (fun _ => ⟨nat ((closeL (arcsOf l) (unitsP l).length (unitsP l).length).length), _, evW_op (rfl), rfl, ?_⟩) (fun h => by cases h)
        refine Rg.guards true rfl rfl rfl (fun _ => ⟨pv, _, evW_op (rfl), rfl, ?_⟩) (fun h => by cases h)
        refine Rg.guards true rfl rfl rfl (fun _ => ⟨nat ((closeL (arcsOf l) (unitsP l).length (unitsP l).length).length), _, evW_op (ev_lenM (hps.sees (heq.trans (heu.trans (her.trans hM.ext))).sees) rfl rfl), rfl, ?_⟩) (fun h => by cases h)
        refine Rg.guards true rfl rfl rfl (fun _ => ⟨.bool false, _, evW_op (ev_neF (a := (closeL (arcsOf l) (unitsP l).length (unitsP l).length).length) (b := (closeL (arcsOf l) (unitsP l).length (unitsP l).length).length) rfl rfl (rfl)), rfl, ?_⟩) (fun h => by cases h)
        refine Rg.opp (v := .bool false) rfl rfl rfl rfl rfl ?_
        refine Rg.nil ?_
        refine Runs.cond false rfl (fun h => by cases h) (fun _ => ?_)
        refine Runs.skip ?_
        refine Runs.seq ?_
        refine Runs.seq ?_
        refine Runs.region ?_
        refine Rg.opp (v := lv) rfl rfl rfl rfl rfl ?_
        refine Rg.callW rfl rfl rfl rfl (rfl) rfl (cyclic_runs (hl.sees (hep.trans (heq.trans (heu.trans (her.trans hM.ext)))).sees) (by omega) (by omega)) (fun rc Hc hP => ?_)
        obtain ⟨hrc, hec⟩ := hP
        rw [show cycB (arcsOf l) = false by simpa using hcy] at hrc
        subst hrc
        replace hM := hM.more hec
        refine Rg.nil ?_
        refine Runs.cond false rfl (fun h => by cases h) (fun _ => ?_)
        refine Runs.skip ?_
        refine Runs.seq ?_
        refine Runs.region ?_
        refine Rg.opp (v := .slice none 0 0) rfl rfl rfl rfl rfl ?_
        refine Rg.nil ?_
        refine Runs.seq ?_
        refine Runs.seq ?_
        refine Runs.region ?_
        refine Rg.opp (v := nat 0) rfl rfl rfl rfl rfl ?_
        refine Rg.nil ?_
        refine Runs.block ?_
        refine Runs.loop (fun m s Hc => ∃ (i : Nat) (wv : Value), m = l.length - i ∧ Mem Hr Hc ([.sl 1 wv (List.map encN (wantL l (unitsP l) mm i))]) ∧ (i ≤ l.length) ∧ Is s 186 [(3, lv), (6, qv), (7, nat 0), (8, uv), (9, rv), (13, wv), (14, nat i)]) _
          ⟨0, .slice none 0 0, rfl, hM.nilSl 1, Nat.zero_le _, Is.of ⟨rfl, rfl, rfl, rfl, rfl, rfl, rfl, rfl, rfl, rfl, rfl, rfl, rfl, rfl, trivial⟩⟩ ?_
        rintro m s Hc ⟨i, wv, rfl, hM, hi, hs⟩
        obtain ⟨a5, rfl⟩ := hs.mk1
        clear hs
        have hwl := wantL_len l (unitsP l) mm i
        refine Runs.seq ?_
        refine Runs.seq ?_
        refine Runs.region ?_
        refine Rg.opp (v := nat i) rfl rfl rfl rfl rfl ?_
        refine Rg.opp (v := lv) rfl rfl rfl rfl rfl ?_
        refine Rg.opp (v := nat l.length) rfl rfl rfl (ev_lenM (hl.sees (hep.trans (heq.trans (heu.trans (her.trans hM.ext)))).sees) rfl rfl) rfl ?_
        by_cases hlt : i < l.length
        · skip
          have hmu := mem_unitsP.2 (mem_names_up (List.getElem_mem hlt))
          have hml := mem_unitsP.2 (mem_names_lo (List.getElem_mem hlt))
          have hlo := idx_lt hml
          have hup := idx_lt hmu
          refine Rg.opp (v := .bool true) rfl rfl rfl (ev_ltT rfl rfl (hlt)) rfl ?_
          refine Rg.nil ?_
          refine Runs.cond true rfl (fun _ => ?_) (fun h => by cases h)
          refine Runs.skip ?_
          refine Runs.seq ?_
          refine Runs.block ?_
          refine Runs.seq ?_
          refine Runs.drawn (is := [0, 1, 2, 3, 4, 5, 6, 7, 8, 9, 10, 11, 12, 13, 14, 15, 16, 17, 18, 19, 20, 21, 22, 23, 24, 25, 26, 27, 28]) (by decide +kernel) ?_
          refine Rg.opp (v := lv) rfl rfl rfl rfl rfl ?_
          refine Rg.opp (v := nat i) rfl rfl rfl rfl rfl ?_
          refine Rg.opp (v := ptrAt (sAddr lv) (i * 3)) rfl rfl rfl (ev_idxM (k := i) (hl.sees (hep.trans (heq.trans (heu.trans (her.trans hM.ext)))).sees) rfl rfl (hlt) rfl rfl rfl (by decide)) rfl ?_
          refine Rg.opp (v := .agg (relC (l[i])).toArray) rfl rfl rfl (ev_ldAM (k := i) (hl.sees (hep.trans (heq.trans (heu.trans (her.trans hM.ext)))).sees) rfl (hlt) rfl rfl rfl) rfl ?_
          by_cases hi4 : l[i].kind = 4
          · skip
            refine Rg.calls (v := .bool false) rfl rfl rfl rfl (rfl) rfl (quiet_pure (fun K => arc_F _ _ K hi4) _) ?_
            refine Rg.opp (v := .bool true) rfl rfl rfl rfl rfl ?_
            refine Rg.opp (v := .bool true) rfl rfl rfl rfl rfl ?_
            refine Rg.guards false rfl rfl rfl (fun h => by cases h) (fun _ => ?_)
            refine Rg.guards false rfl rfl rfl (fun h => by cases h) (fun _ => ?_)
            refine Rg.guards false rfl rfl rfl (fun h => by cases h) (fun _ => ?_)
            refine Rg.guards false rfl rfl rfl (fun h => by cases h) (fun _ => ?_)
            refine Rg.guards false rfl rfl rfl (fun h => by cases h) (fun _ => ?_)
            refine Rg.guards false rfl rfl rfl (fun h => by cases h) (fun _ => ?_)
            refine Rg.guards false rfl rfl rfl (fun h => by cases h) (fun _ => ?_)
            refine Rg.guards false rfl rfl rfl (fun h => by cases h) (fun _ => ?_)
            refine Rg.guards false rfl rfl rfl (fun h => by cases h) (fun _ => ?_)
            refine Rg.guards false rfl rfl rfl (fun h => by cases h) (fun _ => ?_)
            refine Rg.guards false rfl rfl rfl (fun h => by cases h) (fun _ => ?_)
            refine Rg.guards false rfl rfl rfl (fun h => by cases h) (fun _ => ?_)
            refine Rg.guards false rfl rfl rfl (fun h => by cases h) (fun _ => ?_)
            refine Rg.guards false rfl rfl rfl (fun h => by cases h) (fun _ => ?_)
            refine Rg.guards false rfl rfl rfl (fun h => by cases h) (fun _ => ?_)
            refine Rg.guards false rfl rfl rfl (fun h => by cases h) (fun _ => ?_)
            refine Rg.guards false rfl rfl rfl (fun h => by cases h) (fun _ => ?_)
            refine Rg.guards false rfl rfl rfl (fun h => by cases h) (fun _ => ?_)
            refine Rg.guards false rfl rfl rfl (fun h => by cases h) (fun _ => ?_)
            refine Rg.guards false rfl rfl rfl (fun h => by cases h) (fun _ => ?_)
            refine Rg.opp (v := .bool true) rfl rfl rfl rfl rfl ?_
            refine Rg.opp (v := .bool true) rfl rfl rfl rfl rfl ?_
            refine Rg.nil ?_
            refine Runs.seq ?_
            refine Runs.seq ?_
            refine Runs.region ?_
            refine Rg.opp (v := nat 0) rfl rfl rfl rfl rfl ?_
            refine Rg.nil ?_
            refine Runs.block ?_
            refine Runs.loop (fun m s Hc => ∃ (k : Nat) (b : Bool), m = i - k ∧ Mem Hr Hc ([.sl 1 wv (List.map encN (wantL l (unitsP l) mm i))]) ∧ (k ≤ i) ∧ (b = lawImp l (unitsP l) mm l[i] k) ∧ Is s 186 [(3, lv), (6, qv), (7, nat 0), (8, uv), (9, rv), (13, wv), (14, nat i), (15, .bool (b)), (16, nat k)]) _
              ⟨0, true, rfl, hM, Nat.zero_le _, by simp [lawImp, hi4], Is.of ⟨rfl, rfl, rfl, rfl, rfl, rfl, rfl, rfl, rfl, rfl, rfl, rfl, rfl, rfl, rfl, rfl, rfl, rfl, trivial⟩⟩ ?_
            rintro m s Hc ⟨k, b, rfl, hM, hk, hbv, hs⟩
            obtain ⟨a6, rfl⟩ := hs.mk1
            clear hs
            refine Runs.seq ?_
            refine Runs.seq ?_
            refine Runs.region ?_
            refine Rg.opp (v := nat k) rfl rfl rfl rfl rfl ?_
            refine Rg.opp (v := nat i) rfl rfl rfl rfl rfl ?_
            by_cases hltk : k < i
            · skip
              have hkl : k < l.length := by omega
              refine Rg.opp (v := .bool true) rfl rfl rfl (ev_ltT rfl rfl (hltk)) rfl ?_
              refine Rg.nil ?_
              refine Runs.cond true rfl (fun _ => ?_) (fun h => by cases h)
              refine Runs.skip ?_
              refine Runs.seq ?_
              refine Runs.block ?_
              refine Runs.drawn (is := [0, 1, 2, 3, 4, 5, 6, 7, 8, 9, 10, 11, 12, 13, 14, 15, 16, 17, 18, 19, 20, 21, 22, 23, 24, 25, 26, 27, 28, 29, 30, 31, 32, 33, 34]) (by decide +kernel) ?_
              by_cases hb1 : b = true
              · skip
                subst hb1
                refine Rg.opp (v := .bool true) rfl rfl rfl rfl rfl ?_
                refine Rg.opp (v := .bool true) rfl rfl rfl rfl rfl ?_
                refine Rg.guards false rfl rfl rfl (fun h => by cases h) (fun _ => ?_)
                refine Rg.guards false rfl rfl rfl (fun h => by cases h) (fun _ => ?_)
                refine Rg.guards false rfl rfl rfl (fun h => by cases h) (fun _ => ?_)
                refine Rg.guards false rfl rfl rfl (fun h => by cases h) (fun _ => ?_)
                refine Rg.guards false rfl rfl rfl (fun h => by cases h) (fun _ => ?_)
                refine Rg.guards false rfl rfl rfl (fun h => by cases h) (fun _ => ?_)
                refine Rg.guards false rfl rfl rfl (fun h => by cases h) (fun _ => ?_)
                refine Rg.guards false rfl rfl rfl (fun h => by cases h) (fun _ => ?_)
                refine Rg.guards false rfl rfl rfl (fun h => by cases h) (fun _ => ?_)
                refine Rg.guards false rfl rfl rfl (fun h => by cases h) (fun _ => ?_)
                refine Rg.guards false rfl rfl rfl (fun h => by cases h) (fun _ => ?_)
                refine Rg.guards false rfl rfl rfl (fun h => by cases h) (fun _ => ?_)
                refine Rg.guards false rfl rfl rfl (fun h => by cases h) (fun _ => ?_)
                refine Rg.guards false rfl rfl rfl (fun h => by cases h) (fun _ => ?_)
                refine Rg.guards false rfl rfl rfl (fun h => by cases h) (fun _ => ?_)
                refine Rg.guards false rfl rfl rfl (fun h => by cases h) (fun _ => ?_)
                refine Rg.guards false rfl rfl rfl (fun h => by cases h) (fun _ => ?_)
                refine Rg.guards false rfl rfl rfl (fun h => by cases h) (fun _ => ?_)
                refine Rg.guards false rfl rfl rfl (fun h => by cases h) (fun _ => ?_)
                refine Rg.guards false rfl rfl rfl (fun h => by cases h) (fun _ => ?_)
                refine Rg.guards false rfl rfl rfl (fun h => by cases h) (fun _ => ?_)
                refine Rg.guards false rfl rfl rfl (fun h => by cases h) (fun _ => ?_)
                refine Rg.guards false rfl rfl rfl (fun h => by cases h) (fun _ => ?_)
                refine Rg.guards false rfl rfl rfl (fun h => by cases h) (fun _ => ?_)
                refine Rg.guards false rfl rfl rfl (fun h => by cases h) (fun _ => ?_)
                refine Rg.guards false rfl rfl rfl (fun h => by cases h) (fun _ => ?_)
                refine Rg.guards false rfl rfl rfl (fun h => by cases h) (fun _ => ?_)
                refine Rg.guards false rfl rfl rfl (fun h => by cases h) (fun _ => ?_)
                refine Rg.guards false rfl rfl rfl (fun h => by cases h) (fun _ => ?_)
                refine Rg.guards false rfl rfl rfl (fun h => by cases h) (fun _ => ?_)
                refine Rg.guards false rfl rfl rfl (fun h => by cases h) (fun _ => ?_)
                refine Rg.opp (v := .bool true) rfl rfl rfl rfl rfl ?_
                refine Rg.opp (v := .bool true) rfl rfl rfl rfl rfl ?_
                refine Rg.nil ?_
                refine Runs.region ?_
                refine Rg.opp (v := nat k) rfl rfl rfl rfl rfl ?_
                refine Rg.opp (v := nat (k + 1)) rfl rfl rfl (ev_addN (b := 1) rfl rfl (by omega)) rfl ?_
                refine Rg.opp (v := nat (k + 1)) rfl rfl rfl rfl rfl ?_
                refine Rg.nil ?_
                refine ⟨i - (k + 1), by omega, k + 1, true, rfl, hM, hltk, by rw [lawImp_succ hkl, ← hbv]; rfl, Is.of ⟨rfl, rfl, rfl, rfl, rfl, rfl, rfl, rfl, rfl, rfl, rfl, rfl, rfl, rfl, rfl, rfl, rfl, rfl, trivial⟩⟩
              · skip
                have hb0 : b = false := by simpa using hb1
                subst hb0
                refine Rg.opp (v := .bool false) rfl rfl rfl rfl rfl ?_
                refine Rg.opp (v := .bool false) rfl rfl rfl rfl rfl ?_
                refine Rg.guards true rfl rfl rfl (fun _ => ⟨lv, _, evW_op (rfl), rfl, ?_⟩) (fun h => by cases h)
                refine Rg.guards true rfl rfl rfl (fun _ => ⟨nat k, _, evW_op (rfl), rfl, ?_⟩) (fun h => by cases h)
                refine Rg.guards true rfl rfl rfl (fun _ => ⟨ptrAt (sAddr lv) (k * 3), _, evW_op (ev_idxM (k := k) (hl.sees (hep.trans (heq.trans (heu.trans (her.trans hM.ext)))).sees) rfl rfl (hkl) rfl rfl rfl (by decide)), rfl, ?_⟩) (fun h => by cases h)
                refine Rg.guards true rfl rfl rfl (fun _ => ⟨.agg (relC (l[k])).toArray, _, evW_op (ev_ldAM (k := k) (hl.sees (hep.trans (heq.trans (heu.trans (her.trans hM.ext)))).sees) rfl (hkl) rfl rfl rfl), rfl, ?_⟩) (fun h => by cases h)
                by_cases hk4 : l[k].kind = 4
                · skip
                  refine Rg.guards true rfl rfl rfl (fun _ => ⟨.bool false, _, evW_call rfl (rfl) (quiet_pure (fun K => arc_F _ _ K hk4) _), rfl, ?_⟩) (fun h => by cases h)
                  refine Rg.guards true rfl rfl rfl (fun _ => ⟨.bool false, _, evW_op (rfl), rfl, ?_⟩) (fun h => by cases h)
                  refine Rg.guards false rfl rfl rfl (fun h => by cases h) (fun _ => ?_)
                  refine Rg.guards false rfl rfl rfl (fun h => by cases h) (fun _ => ?_)
                  refine Rg.guards false rfl rfl rfl (fun h => by cases h) (fun _ => ?_)
                  refine Rg.guards false rfl rfl rfl (fun h => by cases h) (fun _ => ?_)
                  refine Rg.guards false rfl rfl rfl (fun h => by cases h) (fun _ => ?_)
                  refine Rg.guards false rfl rfl rfl (fun h => by cases h) (fun _ => ?_)
                  refine Rg.guards false rfl rfl rfl (fun h => by cases h) (fun _ => ?_)
                  refine Rg.guards false rfl rfl rfl (fun h => by cases h) (fun _ => ?_)
                  refine Rg.guards false rfl rfl rfl (fun h => by cases h) (fun _ => ?_)
                  refine Rg.guards false rfl rfl rfl (fun h => by cases h) (fun _ => ?_)
                  refine Rg.guards false rfl rfl rfl (fun h => by cases h) (fun _ => ?_)
                  refine Rg.guards true rfl rfl rfl (fun _ => ⟨.bool false, _, evW_op (rfl), rfl, ?_⟩) (fun h => by cases h)
                  refine Rg.guards true rfl rfl rfl (fun _ => ⟨.bool false, _, evW_op (rfl), rfl, ?_⟩) (fun h => by cases h)
                  refine Rg.guards false rfl rfl rfl (fun h => by cases h) (fun _ => ?_)
                  refine Rg.guards false rfl rfl rfl (fun h => by cases h) (fun _ => ?_)
                  refine Rg.guards false rfl rfl rfl (fun h => by cases h) (fun _ => ?_)
                  refine Rg.guards false rfl rfl rfl (fun h => by cases h) (fun _ => ?_)
                  refine Rg.guards false rfl rfl rfl (fun h => by cases h) (fun _ => ?_)
                  refine Rg.guards false rfl rfl rfl (fun h => by cases h) (fun _ => ?_)
                  refine Rg.guards false rfl rfl rfl (fun h => by cases h) (fun _ => ?_)
                  refine Rg.guards false rfl rfl rfl (fun h => by cases h) (fun _ => ?_)
                  refine Rg.guards false rfl rfl rfl (fun h => by cases h) (fun _ => ?_)
                  refine Rg.guards false rfl rfl rfl (fun h => by cases h) (fun _ => ?_)
                  refine Rg.guards false rfl rfl rfl (fun h => by cases h) (fun _ => ?_)
                  refine Rg.guards true rfl rfl rfl (fun _ => ⟨.bool false, _, evW_op (rfl), rfl, ?_⟩) (fun h => by cases h)
                  refine Rg.opp (v := .bool false) rfl rfl rfl rfl rfl ?_
                  refine Rg.opp (v := .bool false) rfl rfl rfl rfl rfl ?_
                  refine Rg.nil ?_
                  refine Runs.region ?_
                  refine Rg.opp (v := nat k) rfl rfl rfl rfl rfl ?_
                  refine Rg.opp (v := nat (k + 1)) rfl rfl rfl (ev_addN (b := 1) rfl rfl (by omega)) rfl ?_
                  refine Rg.opp (v := nat (k + 1)) rfl rfl rfl rfl rfl ?_
                  refine Rg.nil ?_
                  refine ⟨i - (k + 1), by omega, k + 1, false, rfl, hM, hltk, by rw [lawImp_succ hkl, ← hbv]; simp [hk4], Is.of ⟨rfl, rfl, rfl, rfl, rfl, rfl, rfl, rfl, rfl, rfl, rfl, rfl, rfl, rfl, rfl, rfl, rfl, rfl, trivial⟩⟩
                · skip
                  refine Rg.guards true rfl rfl rfl (fun _ => ⟨.bool true, _, evW_call rfl (rfl) (quiet_pure (fun K => arc_T _ _ K hk4) _), rfl, ?_⟩) (fun h => by cases h)
                  refine Rg.guards true rfl rfl rfl (fun _ => ⟨.bool true, _, evW_op (rfl), rfl, ?_⟩) (fun h => by cases h)
                  refine Rg.guards true rfl rfl rfl (fun _ => ⟨lv, _, evW_op (rfl), rfl, ?_⟩) (fun h => by cases h)
                  refine Rg.guards true rfl rfl rfl (fun _ => ⟨nat k, _, evW_op (rfl), rfl, ?_⟩) (fun h => by cases h)
                  refine Rg.guards true rfl rfl rfl (fun _ => ⟨ptrAt (sAddr lv) (k * 3), _, evW_op (ev_idxM (k := k) (hl.sees (hep.trans (heq.trans (heu.trans (her.trans hM.ext)))).sees) rfl rfl (hkl) rfl rfl rfl (by decide)), rfl, ?_⟩) (fun h => by cases h)
                  refine Rg.guards true rfl rfl rfl (fun _ => ⟨ptrAt (sAddr lv) (k * 3 + 1), _, evW_op (ev_fldM (k := k) (m := k * 3) (q := (9, 1)) (hl.sees (hep.trans (heq.trans (heu.trans (her.trans hM.ext)))).sees) rfl (hkl) rfl rfl rfl rfl (by decide)), rfl, ?_⟩) (fun h => by cases h)
                  refine Rg.guards true rfl rfl rfl (fun _ => ⟨str (l[k].up), _, evW_op (ev_ldfM (k := k) (hl.sees (hep.trans (heq.trans (heu.trans (her.trans hM.ext)))).sees) rfl (hkl) rfl rfl rfl rfl), rfl, ?_⟩) (fun h => by cases h)
                  refine Rg.guards true rfl rfl rfl (fun _ => ⟨lv, _, evW_op (rfl), rfl, ?_⟩) (fun h => by cases h)
                  refine Rg.guards true rfl rfl rfl (fun _ => ⟨nat i, _, evW_op (rfl), rfl, ?_⟩) (fun h => by cases h)
                  refine Rg.guards true rfl rfl rfl (fun _ => ⟨ptrAt (sAddr lv) (i * 3), _, evW_op (ev_idxM (k := i) (hl.sees (hep.trans (heq.trans (heu.trans (her.trans hM.ext)))).sees) rfl rfl (hlt) rfl rfl rfl (by decide)), rfl, ?_⟩) (fun h => by cases h)
                  refine Rg.guards true rfl rfl rfl (fun _ => ⟨ptrAt (sAddr lv) (i * 3 + 1), _, evW_op (ev_fldM (k := i) (m := i * 3) (q := (9, 1)) (hl.sees (hep.trans (heq.trans (heu.trans (her.trans hM.ext)))).sees) rfl (hlt) rfl rfl rfl rfl (by decide)), rfl, ?_⟩) (fun h => by cases h)
                  refine Rg.guards true rfl rfl rfl (fun _ => ⟨str (l[i].up), _, evW_op (ev_ldfM (k := i) (hl.sees (hep.trans (heq.trans (heu.trans (her.trans hM.ext)))).sees) rfl (hlt) rfl rfl rfl rfl), rfl, ?_⟩) (fun h => by cases h)
                  by_cases hup2 : l[k].up = l[i].up
                  · skip
                    refine Rg.guards true rfl rfl rfl (fun _ => ⟨.bool true, _, evW_op (ev_seqB (decide_eq_true hup2) rfl rfl), rfl, ?_⟩) (fun h => by cases h)
                    refine Rg.guards true rfl rfl rfl (fun _ => ⟨.bool true, _, evW_op (rfl), rfl, ?_⟩) (fun h => by cases h)
                    refine Rg.guards true rfl rfl rfl (fun _ => ⟨.bool true, _, evW_op (rfl), rfl, ?_⟩) (fun h => by cases h)
                    refine Rg.guards true rfl rfl rfl (fun _ => ⟨lv, _, evW_op (rfl), rfl, ?_⟩) (fun h => by cases h)
                    refine Rg.guards true rfl rfl rfl (fun _ => ⟨nat k, _, evW_op (rfl), rfl, ?_⟩) (fun h => by cases h)
                    refine Rg.guards true rfl rfl rfl (fun _ => ⟨ptrAt (sAddr lv) (k * 3), _, evW_op (ev_idxM (k := k) (hl.sees (hep.trans (heq.trans (heu.trans (her.trans hM.ext)))).sees) rfl rfl (hkl) rfl rfl rfl (by decide)), rfl, ?_⟩) (fun h => by cases h)
                    refine Rg.guards true rfl rfl rfl (fun _ => ⟨ptrAt (sAddr lv) (k * 3 + 2), _, evW_op (ev_fldM (k := k) (m := k * 3) (q := (9, 2)) (hl.sees (hep.trans (heq.trans (heu.trans (her.trans hM.ext)))).sees) rfl (hkl) rfl rfl rfl rfl (by decide)), rfl, ?_⟩) (fun h => by cases h)
                    refine Rg.guards true rfl rfl rfl (fun _ => ⟨str (l[k].lo), _, evW_op (ev_ldfM (k := k) (hl.sees (hep.trans (heq.trans (heu.trans (her.trans hM.ext)))).sees) rfl (hkl) rfl rfl rfl rfl), rfl, ?_⟩) (fun h => by cases h)
                    refine Rg.guards true rfl rfl rfl (fun _ => ⟨lv, _, evW_op (rfl), rfl, ?_⟩) (fun h => by cases h)
                    refine Rg.guards true rfl rfl rfl (fun _ => ⟨nat i, _, evW_op (rfl), rfl, ?_⟩) (fun h => by cases h)
                    refine Rg.guards true rfl rfl rfl (fun _ => ⟨ptrAt (sAddr lv) (i * 3), _, evW_op (ev_idxM (k := i) (hl.sees (hep.trans (heq.trans (heu.trans (her.trans hM.ext)))).sees) rfl rfl (hlt) rfl rfl rfl (by decide)), rfl, ?_⟩) (fun h => by cases h)
                    refine Rg.guards true rfl rfl rfl (fun _ => ⟨ptrAt (sAddr lv) (i * 3 + 2), _, evW_op (ev_fldM (k := i) (m := i * 3) (q := (9, 2)) (hl.sees (hep.trans (heq.trans (heu.trans (her.trans hM.ext)))).sees) rfl (hlt) rfl rfl rfl rfl (by decide)), rfl, ?_⟩) (fun h => by cases h)
                    refine Rg.guards true rfl rfl rfl (fun _ => ⟨str (l[i].lo), _, evW_op (ev_ldfM (k := i) (hl.sees (hep.trans (heq.trans (heu.trans (her.trans hM.ext)))).sees) rfl (hlt) rfl rfl rfl rfl), rfl, ?_⟩) (fun h => by cases h)
                    by_cases hlo2 : l[k].lo = l[i].lo
                    · skip
                      refine Rg.guards true rfl rfl rfl (fun _ => ⟨.bool true, _, evW_op (ev_seqB (decide_eq_true hlo2) rfl rfl), rfl, ?_⟩) (fun h => by cases h)
                      refine Rg.guards true rfl rfl rfl (fun _ => ⟨.bool true, _, evW_op (rfl), rfl, ?_⟩) (fun h => by cases h)
                      refine Rg.opp (v := .bool true) rfl rfl rfl rfl rfl ?_
                      refine Rg.opp (v := .bool true) rfl rfl rfl rfl rfl ?_
                      refine Rg.nil ?_
                      refine Runs.region ?_
                      refine Rg.opp (v := nat k) rfl rfl rfl rfl rfl ?_
                      refine Rg.opp (v := nat (k + 1)) rfl rfl rfl (ev_addN (b := 1) rfl rfl (by omega)) rfl ?_
                      refine Rg.opp (v := nat (k + 1)) rfl rfl rfl rfl rfl ?_
                      refine Rg.nil ?_
                      refine ⟨i - (k + 1), by omega, k + 1, true, rfl, hM, hltk, by rw [lawImp_succ hkl, ← hbv]; simp [hk4, hup2, hlo2], Is.of ⟨rfl, rfl, rfl, rfl, rfl, rfl, rfl, rfl, rfl, rfl, rfl, rfl, rfl, rfl, rfl, rfl, rfl, rfl, trivial⟩⟩
                    · skip
                      refine Rg.guards true rfl rfl rfl (fun _ => ⟨.bool false, _, evW_op (ev_seqB (decide_eq_false hlo2) rfl rfl), rfl, ?_⟩) (fun h => by cases h)
                      refine Rg.guards true rfl rfl rfl (fun _ => ⟨.bool false, _, evW_op (rfl), rfl, ?_⟩) (fun h => by cases h)
                      refine Rg.opp (v := .bool false) rfl rfl rfl rfl rfl ?_
                      refine Rg.opp (v := .bool false) rfl rfl rfl rfl rfl ?_
                      refine Rg.nil ?_
                      refine Runs.region ?_
                      refine Rg.opp (v := nat k) rfl rfl rfl rfl rfl ?_
                      refine Rg.opp (v := nat (k + 1)) rfl rfl rfl (ev_addN (b := 1) rfl rfl (by omega)) rfl ?_
                      refine Rg.opp (v := nat (k + 1)) rfl rfl rfl rfl rfl ?_
                      refine Rg.nil ?_
                      refine ⟨i - (k + 1), by omega, k + 1, false, rfl, hM, hltk, by rw [lawImp_succ hkl, ← hbv]; simp [hk4, hup2, hlo2], Is.of ⟨rfl, rfl, rfl, rfl, rfl, rfl, rfl, rfl, rfl, rfl, rfl, rfl, rfl, rfl, rfl, rfl, rfl, rfl, trivial⟩⟩
                  · skip
                    refine Rg.guards true rfl rfl rfl (fun _ => ⟨.bool false, _, evW_op (ev_seqB (decide_eq_false hup2) rfl rfl), rfl, ?_⟩) (fun h => by cases h)
                    refine Rg.guards true rfl rfl rfl (fun _ => ⟨.bool false, _, evW_op (rfl), rfl, ?_⟩) (fun h => by cases h)
                    refine Rg.guards true rfl rfl rfl (fun _ => ⟨.bool false, _, evW_op (rfl), rfl, ?_⟩) (fun h => by cases h)
                    refine Rg.guards false rfl rfl rfl (fun h => by cases h) (fun _ => ?_)
                    refine Rg.guards false rfl rfl rfl (fun h => by cases h) (fun _ => ?_)
                    refine Rg.guards false rfl rfl rfl (fun h => by cases h) (fun _ => ?_)
                    refine Rg.guards false rfl rfl rfl (fun h => by cases h) (fun _ => ?_)
                    refine Rg.guards false rfl rfl rfl (fun h => by cases h) (fun _ => ?_)
                    refine Rg.guards false rfl rfl rfl (fun h => by cases h) (fun _ => ?_)
                    refine Rg.guards false rfl rfl rfl (fun h => by cases h) (fun _ => ?_)
                    refine Rg.guards false rfl rfl rfl (fun h => by cases h) (fun _ => ?_)
                    refine Rg.guards false rfl rfl rfl (fun h => by cases h) (fun _ => ?_)
                    refine Rg.guards false rfl rfl rfl (fun h => by cases h) (fun _ => ?_)
                    refine Rg.guards false rfl rfl rfl (fun h => by cases h) (fun _ => ?_)
                    refine Rg.guards true rfl rfl rfl (fun _ => ⟨.bool false, _, evW_op (rfl), rfl, ?_⟩) (fun h => by cases h)
                    refine Rg.opp (v := .bool false) rfl rfl rfl rfl rfl ?_
                    refine Rg.opp (v := .bool false) rfl rfl rfl rfl rfl ?_
                    refine Rg.nil ?_
                    refine Runs.region ?_
                    refine Rg.opp (v := nat k) rfl rfl rfl rfl rfl ?_
                    refine Rg.opp (v := nat (k + 1)) rfl rfl rfl (ev_addN (b := 1) rfl rfl (by omega)) rfl ?_
                    refine Rg.opp (v := nat (k + 1)) rfl rfl rfl rfl rfl ?_
                    refine Rg.nil ?_
                    refine ⟨i - (k + 1), by omega, k + 1, false, rfl, hM, hltk, by rw [lawImp_succ hkl, ← hbv]; simp [hk4, hup2], Is.of ⟨rfl, rfl, rfl, rfl, rfl, rfl, rfl, rfl, rfl, rfl, rfl, rfl, rfl, rfl, rfl, rfl, rfl, rfl, trivial⟩⟩
            · skip
              have hke : k = i := by omega
              rw [hke] at hbv
              refine Rg.opp (v := .bool false) rfl rfl rfl (ev_ltF rfl rfl (hltk)) rfl ?_
              refine Rg.nil ?_
              refine Runs.cond false rfl (fun h => by cases h) (fun _ => ?_)
              refine Runs.exit ?_
              refine Runs.seq ?_
              refine Runs.region ?_
              by_cases hbt0 : b = true
              · skip
                subst hbt0
                have hbt := hbv.symm
                refine Rg.opp (v := .bool true) rfl rfl rfl rfl rfl ?_
                refine Rg.opp (v := .bool false) rfl rfl rfl rfl rfl ?_
                refine Rg.nil ?_
                refine Runs.cond false rfl (fun h => by cases h) (fun _ => ?_)
                refine Runs.skip ?_
                refine Runs.region ?_
                refine Rg.opp (v := nat i) rfl rfl rfl rfl rfl ?_
                refine Rg.opp (v := nat (i + 1)) rfl rfl rfl (ev_addN (b := 1) rfl rfl (by omega)) rfl ?_
                refine Rg.opp (v := nat (i + 1)) rfl rfl rfl rfl rfl ?_
                refine Rg.nil ?_
                refine ⟨l.length - (i + 1), by omega, i + 1, wv, rfl, by rw [wantL_succ hlt, if_pos hbt]; exact hM, hlt, Is.of ⟨rfl, rfl, rfl, rfl, rfl, rfl, rfl, rfl, rfl, rfl, rfl, rfl, rfl, rfl, trivial⟩⟩
              · skip
                have hb0 : b = false := by simpa using hbt0
                subst hb0
                have hbt : ¬ lawImp l (unitsP l) mm l[i] i = true := by rw [← hbv]; simp
                refine Rg.opp (v := .bool false) rfl rfl rfl rfl rfl ?_
                refine Rg.opp (v := .bool true) rfl rfl rfl rfl rfl ?_
                refine Rg.nil ?_
                refine Runs.cond true rfl (fun _ => ?_) (fun h => by cases h)
                refine Runs.region ?_
                refine Rg.opp (v := wv) rfl rfl rfl rfl rfl ?_
                refine Rg.opp (v := nat i) rfl rfl rfl rfl rfl ?_
                refine Rg.lit (f := encN) (sz := 1) (xs := [i]) hM rfl rfl rfl rfl rfl (by simp) (by simp) (fun u7 Hc (hM : Mem Hr Hc ([.sl 1 u7 (List.map encN ([i])), .sl 1 wv (List.map encN (wantL l (unitsP l) mm i))])) _ => ?_)
                refine Rg.appM (f := encN) (sz := 1) (j := 1) (v := wv) (xs := wantL l (unitsP l) mm i) (ys := [i]) hM rfl rfl rfl rfl rfl rfl rfl (hM.get_sl (j := 0) rfl) ⟨rfl, rfl, rfl, by decide⟩ rfl (by simp [oneCell]) (by show (_ + _) * 8 ≤ 2 ^ 40; simp only [List.length_cons, List.length_nil]; omega) (by simp) (fun wv1 Hc (hM : Mem Hr Hc ([.sl 1 u7 (List.map encN ([i])), .sl 1 wv1 (List.map encN ((wantL l (unitsP l) mm i) ++ ([i])))])) hgr => ?_)
                replace hM : Mem Hr _ ([.sl 1 wv1 (List.map encN ((wantL l (unitsP l) mm i) ++ ([i])))]) := hM.erase 0
                refine Rg.opp (v := wv1) rfl rfl rfl rfl rfl ?_
                refine Rg.nil ?_
                refine Runs.region ?_
                refine Rg.opp (v := nat i) rfl rfl rfl rfl rfl ?_
                refine Rg.opp (v := nat (i + 1)) rfl rfl rfl (ev_addN (b := 1) rfl rfl (by omega)) rfl ?_
                refine Rg.opp (v := nat (i + 1)) rfl rfl rfl rfl rfl ?_
                refine Rg.nil ?_
                refine ⟨l.length - (i + 1), by omega, i + 1, wv1, rfl, by rw [wantL_succ hlt, if_neg hbt]; exact hM, hlt, Is.of ⟨rfl, rfl, rfl, rfl, rfl, rfl, rfl, rfl, rfl, rfl, rfl, rfl, rfl, rfl, trivial⟩⟩
          · skip
            refine Rg.calls (v := .bool true) rfl rfl rfl rfl (rfl) rfl (quiet_pure (fun K => arc_T _ _ K hi4) _) ?_
            refine Rg.opp (v := .bool false) rfl rfl rfl rfl rfl ?_
            refine Rg.opp (v := .bool false) rfl rfl rfl rfl rfl ?_
            refine Rg.guards true rfl rfl rfl (fun _ => ⟨rv, _, evW_op (rfl), rfl, ?_⟩) (fun h => by cases h)
            refine Rg.guards true rfl rfl rfl (fun _ => ⟨uv, _, evW_op (rfl), rfl, ?_⟩) (fun h => by cases h)
            refine Rg.guards true rfl rfl rfl (fun _ => ⟨lv, _, evW_op (rfl), rfl, ?_⟩) (fun h => by cases h)
            refine Rg.guards true rfl rfl rfl (fun _ => ⟨nat i, _, evW_op (rfl), rfl, ?_⟩) (fun h => by cases h)
            refine Rg.guards true rfl rfl rfl (fun _ => ⟨ptrAt (sAddr lv) (i * 3), _, evW_op (ev_idxM (k := i) (hl.sees (hep.trans (heq.trans (heu.trans (her.trans hM.ext)))).sees) rfl rfl (hlt) rfl rfl rfl (by decide)), rfl, ?_⟩) (fun h => by cases h)
            refine Rg.guards true rfl rfl rfl (fun _ => ⟨ptrAt (sAddr lv) (i * 3 + 2), _, evW_op (ev_fldM (k := i) (m := i * 3) (q := (9, 2)) (hl.sees (hep.trans (heq.trans (heu.trans (her.trans hM.ext)))).sees) rfl (hlt) rfl rfl rfl rfl (by decide)), rfl, ?_⟩) (fun h => by cases h)
            refine Rg.guards true rfl rfl rfl (fun _ => ⟨str (l[i].lo), _, evW_op (ev_ldfM (k := i) (hl.sees (hep.trans (heq.trans (heu.trans (her.trans hM.ext)))).sees) rfl (hlt) rfl rfl rfl rfl), rfl, ?_⟩) (fun h => by cases h)
            refine Rg.guards true rfl rfl rfl (fun _ => ⟨nat (idx (unitsP l) l[i].lo), _, evW_call rfl (rfl) (quiet_same (index_mem ((hus.sees (her.trans hM.ext).sees).sees (Sees.freeze _)) (hml) (by omega))), rfl, ?_⟩) (fun h => by cases h)
            refine Rg.guards true rfl rfl rfl (fun _ => ⟨ptrAt (sAddr rv) ((idx (unitsP l) l[i].lo) * 1), _, evW_op (ev_idxM (k := idx (unitsP l) l[i].lo) (hrow.sees hM.ext.sees) rfl rfl (by omega) rfl rfl rfl (by decide)), rfl, ?_⟩) (fun h => by cases h)
            refine Rg.guards true rfl rfl rfl (fun _ => ⟨ov[idx (unitsP l) l[i].lo], _, evW_op (ev_ldM (k := (idx (unitsP l) l[i].lo)) (hrow.sees hM.ext.sees) rfl (by omega) rfl rfl rfl rfl), rfl, ?_⟩) (fun h => by cases h)
            refine Rg.guards true rfl rfl rfl (fun _ => ⟨uv, _, evW_op (rfl), rfl, ?_⟩) (fun h => by cases h)
            refine Rg.guards true rfl rfl rfl (fun _ => ⟨lv, _, evW_op (rfl), rfl, ?_⟩) (fun h => by cases h)
            refine Rg.guards true rfl rfl rfl (fun _ => ⟨nat i, _, evW_op (rfl), rfl, ?_⟩) (fun h => by cases h)
            refine Rg.guards true rfl rfl rfl (fun _ => ⟨ptrAt (sAddr lv) (i * 3), _, evW_op (ev_idxM (k := i) (hl.sees (hep.trans (heq.trans (heu.trans (her.trans hM.ext)))).sees) rfl rfl (hlt) rfl rfl rfl (by decide)), rfl, ?_⟩) (fun h => by cases h)
            refine Rg.guards true rfl rfl rfl (fun _ => ⟨ptrAt (sAddr lv) (i * 3 + 1), _, evW_op (ev_fldM (k := i) (m := i * 3) (q := (9, 1)) (hl.sees (hep.trans (heq.trans (heu.trans (her.trans hM.ext)))).sees) rfl (hlt) rfl rfl rfl rfl (by decide)), rfl, ?_⟩) (fun h => by cases h)
            refine Rg.guards true rfl rfl rfl (fun _ => ⟨str (l[i].up), _, evW_op (ev_ldfM (k := i) (hl.sees (hep.trans (heq.trans (heu.trans (her.trans hM.ext)))).sees) rfl (hlt) rfl rfl rfl rfl), rfl, ?_⟩) (fun h => by cases h)
            refine Rg.guards true rfl rfl rfl (fun _ => ⟨nat (idx (unitsP l) l[i].up), _, evW_call rfl (rfl) (quiet_same (index_mem ((hus.sees (her.trans hM.ext).sees).sees (Sees.freeze _)) (hmu) (by omega))), rfl, ?_⟩) (fun h => by cases h)
            refine Rg.guards true rfl rfl rfl (fun _ => ⟨ptrAt (sAddr (ov[idx (unitsP l) l[i].lo])) ((idx (unitsP l) l[i].up) * 1), _, evW_op (ev_idxM (k := idx (unitsP l) l[i].up) ((hrows _ (by omega)).sees hM.ext.sees) rfl rfl (by simp; omega) rfl rfl rfl (by decide)), rfl, ?_⟩) (fun h => by cases h)
            refine Rg.guards true rfl rfl rfl (fun _ => ⟨nat (mm (idx (unitsP l) l[i].lo) (idx (unitsP l) l[i].up)), _, evW_op (ev_ldM (k := (idx (unitsP l) l[i].up)) ((hrows _ (by omega)).sees hM.ext.sees) rfl (by simp; omega) (by simp) rfl rfl rfl), rfl, ?_⟩) (fun h => by cases h)
            by_cases hbig : 1 < mm (idx (unitsP l) l[i].lo) (idx (unitsP l) l[i].up)
            · skip
              refine Rg.guards true rfl rfl rfl (fun _ => ⟨.bool true, _, evW_op (ev_gtT rfl rfl (hbig)), rfl, ?_⟩) (fun h => by cases h)
              refine Rg.opp (v := .bool true) rfl rfl rfl rfl rfl ?_
              refine Rg.opp (v := .bool true) rfl rfl rfl rfl rfl ?_
              refine Rg.nil ?_
              refine Runs.seq ?_
              refine Runs.seq ?_
              refine Runs.region ?_
              refine Rg.opp (v := nat 0) rfl rfl rfl rfl rfl ?_
              refine Rg.nil ?_
              refine Runs.block ?_
              refine Runs.loop (fun m s Hc => ∃ (k : Nat) (b : Bool), m = i - k ∧ Mem Hr Hc ([.sl 1 wv (List.map encN (wantL l (unitsP l) mm i))]) ∧ (k ≤ i) ∧ (b = lawImp l (unitsP l) mm l[i] k) ∧ Is s 186 [(3, lv), (6, qv), (7, nat 0), (8, uv), (9, rv), (13, wv), (14, nat i), (15, .bool (b)), (16, nat k)]) _
                ⟨0, true, rfl, hM, Nat.zero_le _, by simp [lawImp, hi4, hbig], Is.of ⟨rfl, rfl, rfl, rfl, rfl, rfl, rfl, rfl, rfl, rfl, rfl, rfl, rfl, rfl, rfl, rfl, rfl, rfl, trivial⟩⟩ ?_
              rintro m s Hc ⟨k, b, rfl, hM, hk, hbv, hs⟩
              obtain ⟨a8, rfl⟩ := hs.mk1
              clear hs
              refine Runs.seq ?_
              refine Runs.seq ?_
              refine Runs.region ?_
              refine Rg.opp (v := nat k) rfl rfl rfl rfl rfl ?_
              refine Rg.opp (v := nat i) rfl rfl rfl rfl rfl ?_
              by_cases hltk : k < i
              · skip
                have hkl : k < l.length := by omega
                refine Rg.opp (v := .bool true) rfl rfl rfl (ev_ltT rfl rfl (hltk)) rfl ?_
                refine Rg.nil ?_
                refine Runs.cond true rfl (fun _ => ?_) (fun h => by cases h)
                refine Runs.skip ?_
                refine Runs.seq ?_
                refine Runs.block ?_
                refine Runs.drawn (is := [0, 1, 2, 3, 4, 5, 6, 7, 8, 9, 10, 11, 12, 13, 14, 15, 16, 17, 18, 19, 20, 21, 22, 23, 24, 25, 26, 27, 28, 29, 30, 31, 32, 33, 34]) (by decide +kernel) ?_
                by_cases hb1 : b = true
                · skip
                  subst hb1
                  refine Rg.opp (v := .bool true) rfl rfl rfl rfl rfl ?_
                  refine Rg.opp (v := .bool true) rfl rfl rfl rfl rfl ?_
                  refine Rg.guards false rfl rfl rfl (fun h => by cases h) (fun _ => ?_)
                  refine Rg.guards false rfl rfl rfl (fun h => by cases h) (fun _ => ?_)
                  refine Rg.guards false rfl rfl rfl (fun h => by cases h) (fun _ => ?_)
                  refine Rg.guards false rfl rfl rfl (fun h => by cases h) (fun _ => ?_)
                  refine Rg.guards false rfl rfl rfl (fun h => by cases h) (fun _ => ?_)
                  refine Rg.guards false rfl rfl rfl (fun h => by cases h) (fun _ => ?_)
                  refine Rg.guards false rfl rfl rfl (fun h => by cases h) (fun _ => ?_)
                  refine Rg.guards false rfl rfl rfl (fun h => by cases h) (fun _ => ?_)
                  refine Rg.guards false rfl rfl rfl (fun h => by cases h) (fun _ => ?_)
                  refine Rg.guards false rfl rfl rfl (fun h => by cases h) (fun _ => ?_)
                  refine Rg.guards false rfl rfl rfl (fun h => by cases h) (fun _ => ?_)
                  refine Rg.guards false rfl rfl rfl (fun h => by cases h) (fun _ => ?_)
                  refine Rg.guards false rfl rfl rfl (fun h => by cases h) (fun _ => ?_)
                  refine Rg.guards false rfl rfl rfl (fun h => by cases h) (fun _ => ?_)
                  refine Rg.guards false rfl rfl rfl (fun h => by cases h) (fun _ => ?_)
                  refine Rg.guards false rfl rfl rfl (fun h => by cases h) (fun _ => ?_)
                  refine Rg.guards false rfl rfl rfl (fun h => by cases h) (fun _ => ?_)
                  refine Rg.guards false rfl rfl rfl (fun h => by cases h) (fun _ => ?_)
                  refine Rg.guards false rfl rfl rfl (fun h => by cases h) (fun _ => ?_)
                  refine Rg.guards false rfl rfl rfl (fun h => by cases h) (fun _ => ?_)
                  refine Rg.guards false rfl rfl rfl (fun h => by cases h) (fun _ => ?_)
                  refine Rg.guards false rfl rfl rfl (fun h => by cases h) (fun _ => ?_)
                  refine Rg.guards false rfl rfl rfl (fun h => by cases h) (fun _ => ?_)
                  refine Rg.guards false rfl rfl rfl (fun h => by cases h) (fun _ => ?_)
                  refine Rg.guards false rfl rfl rfl (fun h => by cases h) (fun _ => ?_)
                  refine Rg.guards false rfl rfl rfl (fun h => by cases h) (fun _ => ?_)
                  refine Rg.guards false rfl rfl rfl (fun h => by cases h) (fun _ => ?_)
                  refine Rg.guards false rfl rfl rfl (fun h => by cases h) (fun _ => ?_)
                  refine Rg.guards false rfl rfl rfl (fun h => by cases h) (fun _ => ?_)
                  refine Rg.guards false rfl rfl rfl (fun h => by cases h) (fun _ => ?_)
                  refine Rg.guards false rfl rfl rfl (fun h => by cases h) (fun _ => ?_)
                  refine Rg.opp (v := .bool true) rfl rfl rfl rfl rfl ?_
                  refine Rg.opp (v := .bool true) rfl rfl rfl rfl rfl ?_
                  refine Rg.nil ?_
                  refine Runs.region ?_
                  refine Rg.opp (v := nat k) rfl rfl rfl rfl rfl ?_
                  refine Rg.opp (v := nat (k + 1)) rfl rfl rfl (ev_addN (b := 1) rfl rfl (by omega)) rfl ?_
                  refine Rg.opp (v := nat (k + 1)) rfl rfl rfl rfl rfl ?_
                  refine Rg.nil ?_
                  refine ⟨i - (k + 1), by omega, k + 1, true, rfl, hM, hltk, by rw [lawImp_succ hkl, ← hbv]; rfl, Is.of ⟨rfl, rfl, rfl, rfl, rfl, rfl, rfl, rfl, rfl, rfl, rfl, rfl, rfl, rfl, rfl, rfl, rfl, rfl, trivial⟩⟩
                · skip
                  have hb0 : b = false := by simpa using hb1
                  subst hb0
                  refine Rg.opp (v := .bool false) rfl rfl rfl rfl rfl ?_
                  refine Rg.opp (v := .bool false) rfl rfl rfl rfl rfl ?_
                  refine Rg.guards true rfl rfl rfl (fun _ => ⟨lv, _, evW_op (rfl), rfl, ?_⟩) (fun h => by cases h)
                  refine Rg.guards true rfl rfl rfl (fun _ => ⟨nat k, _, evW_op (rfl), rfl, ?_⟩) (fun h => by cases h)
                  refine Rg.guards true rfl rfl rfl (fun _ => ⟨ptrAt (sAddr lv) (k * 3), _, evW_op (ev_idxM (k := k) (hl.sees (hep.trans (heq.trans (heu.trans (her.trans hM.ext)))).sees) rfl rfl (hkl) rfl rfl rfl (by decide)), rfl, ?_⟩) (fun h => by cases h)
                  refine Rg.guards true rfl rfl rfl (fun _ => ⟨.agg (relC (l[k])).toArray, _, evW_op (ev_ldAM (k := k) (hl.sees (hep.trans (heq.trans (heu.trans (her.trans hM.ext)))).sees) rfl (hkl) rfl rfl rfl), rfl, ?_⟩) (fun h => by cases h)
                  by_cases hk4 : l[k].kind = 4
                  · skip
                    refine Rg.guards true rfl rfl rfl (fun _ => ⟨.bool false, _, evW_call rfl (rfl) (quiet_pure (fun K => arc_F _ _ K hk4) _), rfl, ?_⟩) (fun h => by cases h)
                    refine Rg.guards true rfl rfl rfl (fun _ => ⟨.bool false, _, evW_op (rfl), rfl, ?_⟩) (fun h => by cases h)
                    refine Rg.guards false rfl rfl rfl (fun h => by cases h) (fun _ => ?_)
                    refine Rg.guards false rfl rfl rfl (fun h => by cases h) (fun _ => ?_)
                    refine Rg.guards false rfl rfl rfl (fun h => by cases h) (fun _ => ?_)
                    refine Rg.guards false rfl rfl rfl (fun h => by cases h) (fun _ => ?_)
                    refine Rg.guards false rfl rfl rfl (fun h => by cases h) (fun _ => ?_)
                    refine Rg.guards false rfl rfl rfl (fun h => by cases h) (fun _ => ?_)
                    refine Rg.guards false rfl rfl rfl (fun h => by cases h) (fun _ => ?_)
                    refine Rg.guards false rfl rfl rfl (fun h => by cases h) (fun _ => ?_)
                    refine Rg.guards false rfl rfl rfl (fun h => by cases h) (fun _ => ?_)
                    refine Rg.guards false rfl rfl rfl (fun h => by cases h) (fun _ => ?_)
                    refine Rg.guards false rfl rfl rfl (fun h => by cases h) (fun _ => ?_)
                    refine Rg.guards true rfl rfl rfl (fun _ => ⟨.bool false, _, evW_op (rfl), rfl, ?_⟩) (fun h => by cases h)
                    refine Rg.guards true rfl rfl rfl (fun _ => ⟨.bool false, _, evW_op (rfl), rfl, ?_⟩) (fun h => by cases h)
                    refine Rg.guards false rfl rfl rfl (fun h => by cases h) (fun _ => ?_)
                    refine Rg.guards false rfl rfl rfl (fun h => by cases h) (fun _ => ?_)
                    refine Rg.guards false rfl rfl rfl (fun h => by cases h) (fun _ => ?_)
                    refine Rg.guards false rfl rfl rfl (fun h => by cases h) (fun _ => ?_)
                    refine Rg.guards false rfl rfl rfl (fun h => by cases h) (fun _ => ?_)
                    refine Rg.guards false rfl rfl rfl (fun h => by cases h) (fun _ => ?_)
                    refine Rg.guards false rfl rfl rfl (fun h => by cases h) (fun _ => ?_)
                    refine Rg.guards false rfl rfl rfl (fun h => by cases h) (fun _ => ?_)
                    refine Rg.guards false rfl rfl rfl (fun h => by cases h) (fun _ => ?_)
                    refine Rg.guards false rfl rfl rfl (fun h => by cases h) (fun _ => ?_)
                    refine Rg.guards false rfl rfl rfl (fun h => by cases h) (fun _ => ?_)
                    refine Rg.guards true rfl rfl rfl (fun _ => ⟨.bool false, _, evW_op (rfl), rfl, ?_⟩) (fun h => by cases h)
                    refine Rg.opp (v := .bool false) rfl rfl rfl rfl rfl ?_
                    refine Rg.opp (v := .bool false) rfl rfl rfl rfl rfl ?_
                    refine Rg.nil ?_
                    refine Runs.region ?_
                    refine Rg.opp (v := nat k) rfl rfl rfl rfl rfl ?_
                    refine Rg.opp (v := nat (k + 1)) rfl rfl rfl (ev_addN (b := 1) rfl rfl (by omega)) rfl ?_
                    refine Rg.opp (v := nat (k + 1)) rfl rfl rfl rfl rfl ?_
                    refine Rg.nil ?_
                    refine ⟨i - (k + 1), by omega, k + 1, false, rfl, hM, hltk, by rw [lawImp_succ hkl, ← hbv]; simp [hk4], Is.of ⟨rfl, rfl, rfl, rfl, rfl, rfl, rfl, rfl, rfl, rfl, rfl, rfl, rfl, rfl, rfl, rfl, rfl, rfl, trivial⟩⟩
                  · skip
                    refine Rg.guards true rfl rfl rfl (fun _ => ⟨.bool true, _, evW_call rfl (rfl) (quiet_pure (fun K => arc_T _ _ K hk4) _), rfl, ?_⟩) (fun h => by cases h)
                    refine Rg.guards true rfl rfl rfl (fun _ => ⟨.bool true, _, evW_op (rfl), rfl, ?_⟩) (fun h => by cases h)
                    refine Rg.guards true rfl rfl rfl (fun _ => ⟨lv, _, evW_op (rfl), rfl, ?_⟩) (fun h => by cases h)
                    refine Rg.guards true rfl rfl rfl (fun _ => ⟨nat k, _, evW_op (rfl), rfl, ?_⟩) (fun h => by cases h)
                    refine Rg.guards true rfl rfl rfl (fun _ => ⟨ptrAt (sAddr lv) (k * 3), _, evW_op (ev_idxM (k := k) (hl.sees (hep.trans (heq.trans (heu.trans (her.trans hM.ext)))).sees) rfl rfl (hkl) rfl rfl rfl (by decide)), rfl, ?_⟩) (fun h => by cases h)
                    refine Rg.guards true rfl rfl rfl (fun _ => ⟨ptrAt (sAddr lv) (k * 3 + 1), _, evW_op (ev_fldM (k := k) (m := k * 3) (q := (9, 1)) (hl.sees (hep.trans (heq.trans (heu.trans (her.trans hM.ext)))).sees) rfl (hkl) rfl rfl rfl rfl (by decide)), rfl, ?_⟩) (fun h => by cases h)
                    refine Rg.guards true rfl rfl rfl (fun _ => ⟨str (l[k].up), _, evW_op (ev_ldfM (k := k) (hl.sees (hep.trans (heq.trans (heu.trans (her.trans hM.ext)))).sees) rfl (hkl) rfl rfl rfl rfl), rfl, ?_⟩) (fun h => by cases h)
                    refine Rg.guards true rfl rfl rfl (fun _ => ⟨lv, _, evW_op (rfl), rfl, ?_⟩) (fun h => by cases h)
                    refine Rg.guards true rfl rfl rfl (fun _ => ⟨nat i, _, evW_op (rfl), rfl, ?_⟩) (fun h => by cases h)
                    refine Rg.guards true rfl rfl rfl (fun _ => ⟨ptrAt (sAddr lv) (i * 3), _, evW_op (ev_idxM (k := i) (hl.sees (hep.trans (heq.trans (heu.trans (her.trans hM.ext)))).sees) rfl rfl (hlt) rfl rfl rfl (by decide)), rfl, ?_⟩) (fun h => by cases h)
                    refine Rg.guards true rfl rfl rfl (fun _ => ⟨ptrAt (sAddr lv) (i * 3 + 1), _, evW_op (ev_fldM (k := i) (m := i * 3) (q := (9, 1)) (hl.sees (hep.trans (heq.trans (heu.trans (her.trans hM.ext)))).sees) rfl (hlt) rfl rfl rfl rfl (by decide)), rfl, ?_⟩) (fun h => by cases h)
                    refine Rg.guards true rfl rfl rfl (fun _ => ⟨str (l[i].up), _, evW_op (ev_ldfM (k := i) (hl.sees (hep.trans (heq.trans (heu.trans (her.trans hM.ext)))).sees) rfl (hlt) rfl rfl rfl rfl), rfl, ?_⟩) (fun h => by cases h)
                    by_cases hup2 : l[k].up = l[i].up
                    · skip
                      refine Rg.guards true rfl rfl rfl (fun _ => ⟨.bool true, _, evW_op (ev_seqB (decide_eq_true hup2) rfl rfl), rfl, ?_⟩) (fun h => by cases h)
                      refine Rg.guards true rfl rfl rfl (fun _ => ⟨.bool true, _, evW_op (rfl), rfl, ?_⟩) (fun h => by cases h)
                      refine Rg.guards true rfl rfl rfl (fun _ => ⟨.bool true, _, evW_op (rfl), rfl, ?_⟩) (fun h => by cases h)
                      refine Rg.guards true rfl rfl rfl (fun _ => ⟨lv, _, evW_op (rfl), rfl, ?_⟩) (fun h => by cases h)
                      refine Rg.guards true rfl rfl rfl (fun _ => ⟨nat k, _, evW_op (rfl), rfl, ?_⟩) (fun h => by cases h)
                      refine Rg.guards true rfl rfl rfl (fun _ => ⟨ptrAt (sAddr lv) (k * 3), _, evW_op (ev_idxM (k := k) (hl.sees (hep.trans (heq.trans (heu.trans (her.trans hM.ext)))).sees) rfl rfl (hkl) rfl rfl rfl (by decide)), rfl, ?_⟩) (fun h => by cases h)
                      refine Rg.guards true rfl rfl rfl (fun _ => ⟨ptrAt (sAddr lv) (k * 3 + 2), _, evW_op (ev_fldM (k := k) (m := k * 3) (q := (9, 2)) (hl.sees (hep.trans (heq.trans (heu.trans (her.trans hM.ext)))).sees) rfl (hkl) rfl rfl rfl rfl (by decide)), rfl, ?_⟩) (fun h => by cases h)
                      refine Rg.guards true rfl rfl rfl (fun _ => ⟨str (l[k].lo), _, evW_op (ev_ldfM (k := k) (hl.sees (hep.trans (heq.trans (heu.trans (her.trans hM.ext)))).sees) rfl (hkl) rfl rfl rfl rfl), rfl, ?_⟩) (fun h => by cases h)
                      refine Rg.guards true rfl rfl rfl (fun _ => ⟨lv, _, evW_op (rfl), rfl, ?_⟩) (fun h => by cases h)
                      refine Rg.guards true rfl rfl rfl (fun _ => ⟨nat i, _, evW_op (rfl), rfl, ?_⟩) (fun h => by cases h)
                      refine Rg.guards true rfl rfl rfl (fun _ => ⟨ptrAt (sAddr lv) (i * 3), _, evW_op (ev_idxM (k := i) (hl.sees (hep.trans (heq.trans (heu.trans (her.trans hM.ext)))).sees) rfl rfl (hlt) rfl rfl rfl (by decide)), rfl, ?_⟩) (fun h => by cases h)
                      refine Rg.guards true rfl rfl rfl (fun _ => ⟨ptrAt (sAddr lv) (i * 3 + 2), _, evW_op (ev_fldM (k := i) (m := i * 3) (q := (9, 2)) (hl.sees (hep.trans (heq.trans (heu.trans (her.trans hM.ext)))).sees) rfl (hlt) rfl rfl rfl rfl (by decide)), rfl, ?_⟩) (fun h => by cases h)
                      refine Rg.guards true rfl rfl rfl (fun _ => ⟨str (l[i].lo), _, evW_op (ev_ldfM (k := i) (hl.sees (hep.trans (heq.trans (heu.trans (her.trans hM.ext)))).sees) rfl (hlt) rfl rfl rfl rfl), rfl, ?_⟩) (fun h => by cases h)
                      by_cases hlo2 : l[k].lo = l[i].lo
                      · skip
                        refine Rg.guards true rfl rfl rfl (fun _ => ⟨.bool true, _, evW_op (ev_seqB (decide_eq_true hlo2) rfl rfl), rfl, ?_⟩) (fun h => by cases h)
                        refine Rg.guards true rfl rfl rfl (fun _ => ⟨.bool true, _, evW_op (rfl), rfl, ?_⟩) (fun h => by cases h)
                        refine Rg.opp (v := .bool true) rfl rfl rfl rfl rfl ?_
                        refine Rg.opp (v := .bool true) rfl rfl rfl rfl rfl ?_
                        refine Rg.nil ?_
                        refine Runs.region ?_
                        refine Rg.opp (v := nat k) rfl rfl rfl rfl rfl ?_
                        refine Rg.opp (v := nat (k + 1)) rfl rfl rfl (ev_addN (b := 1) rfl rfl (by omega)) rfl ?_
                        refine Rg.opp (v := nat (k + 1)) rfl rfl rfl rfl rfl ?_
                        refine Rg.nil ?_
                        refine ⟨i - (k + 1), by omega, k + 1, true, rfl, hM, hltk, by rw [lawImp_succ hkl, ← hbv]; simp [hk4, hup2, hlo2], Is.of ⟨rfl, rfl, rfl, rfl, rfl, rfl, rfl, rfl, rfl, rfl, rfl, rfl, rfl, rfl, rfl, rfl, rfl, rfl, trivial⟩⟩
                      · skip
                        refine Rg.guards true rfl rfl rfl (fun _ => ⟨.bool false, _, evW_op (ev_seqB (decide_eq_false hlo2) rfl rfl), rfl, ?_⟩) (fun h => by cases h)
                        refine Rg.guards true rfl rfl rfl (fun _ => ⟨.bool false, _, evW_op (rfl), rfl, ?_⟩) (fun h => by cases h)
                        refine Rg.opp (v := .bool false) rfl rfl rfl rfl rfl ?_
                        refine Rg.opp (v := .bool false) rfl rfl rfl rfl rfl ?_
                        refine Rg.nil ?_
                        refine Runs.region ?_
                        refine Rg.opp (v := nat k) rfl rfl rfl rfl rfl ?_
                        refine Rg.opp (v := nat (k + 1)) rfl rfl rfl (ev_addN (b := 1) rfl rfl (by omega)) rfl ?_
                        refine Rg.opp (v := nat (k + 1)) rfl rfl rfl rfl rfl ?_
                        refine Rg.nil ?_
                        refine ⟨i - (k + 1), by omega, k + 1, false, rfl, hM, hltk, by rw [lawImp_succ hkl, ← hbv]; simp [hk4, hup2, hlo2], Is.of ⟨rfl, rfl, rfl, rfl, rfl, rfl, rfl, rfl, rfl, rfl, rfl, rfl, rfl, rfl, rfl, rfl, rfl, rfl, trivial⟩⟩
                    · skip
                      refine Rg.guards true rfl rfl rfl (fun _ => ⟨.bool false, _, evW_op (ev_seqB (decide_eq_false hup2) rfl rfl), rfl, ?_⟩) (fun h => by cases h)
                      refine Rg.guards true rfl rfl rfl (fun _ => ⟨.bool false, _, evW_op (rfl), rfl, ?_⟩) (fun h => by cases h)
                      refine Rg.guards true rfl rfl rfl (fun _ => ⟨.bool false, _, evW_op (rfl), rfl, ?_⟩) (fun h => by cases h)
                      refine Rg.guards false rfl rfl rfl (fun h => by cases h) (fun _ => ?_)
                      refine Rg.guards false rfl rfl rfl (fun h => by cases h) (fun _ => ?_)
                      refine Rg.guards false rfl rfl rfl (fun h => by cases h) (fun _ => ?_)
                      refine Rg.guards false rfl rfl rfl (fun h => by cases h) (fun _ => ?_)
                      refine Rg.guards false rfl rfl rfl (fun h => by cases h) (fun _ => ?_)
                      refine Rg.guards false rfl rfl rfl (fun h => by cases h) (fun _ => ?_)
                      refine Rg.guards false rfl rfl rfl (fun h => by cases h) (fun _ => ?_)
                      refine Rg.guards false rfl rfl rfl (fun h => by cases h) (fun _ => ?_)
                      refine Rg.guards false rfl rfl rfl (fun h => by cases h) (fun _ => ?_)
                      refine Rg.guards false rfl rfl rfl (fun h => by cases h) (fun _ => ?_)
                      refine Rg.guards false rfl rfl rfl (fun h => by cases h) (fun _ => ?_)
                      refine Rg.guards true rfl rfl rfl (fun _ => ⟨.bool false, _, evW_op (rfl), rfl, ?_⟩) (fun h => by cases h)
                      refine Rg.opp (v := .bool false) rfl rfl rfl rfl rfl ?_
                      refine Rg.opp (v := .bool false) rfl rfl rfl rfl rfl ?_
                      refine Rg.nil ?_
                      refine Runs.region ?_
                      refine Rg.opp (v := nat k) rfl rfl rfl rfl rfl ?_
                      refine Rg.opp (v := nat (k + 1)) rfl rfl rfl (ev_addN (b := 1) rfl rfl (by omega)) rfl ?_
                      refine Rg.opp (v := nat (k + 1)) rfl rfl rfl rfl rfl ?_
                      refine Rg.nil ?_
                      refine ⟨i - (k + 1), by omega, k + 1, false, rfl, hM, hltk, by rw [lawImp_succ hkl, ← hbv]; simp [hk4, hup2], Is.of ⟨rfl, rfl, rfl, rfl, rfl, rfl, rfl, rfl, rfl, rfl, rfl, rfl, rfl, rfl, rfl, rfl, rfl, rfl, trivial⟩⟩
              · skip
                have hke : k = i := by omega
                rw [hke] at hbv
                refine Rg.opp (v := .bool false) rfl rfl rfl (ev_ltF rfl rfl (hltk)) rfl ?_
                refine Rg.nil ?_
                refine Runs.cond false rfl (fun h => by cases h) (fun _ => ?_)
                refine Runs.exit ?_
                refine Runs.seq ?_
                refine Runs.region ?_
                by_cases hbt0 : b = true
                · skip
                  subst hbt0
                  have hbt := hbv.symm
                  refine Rg.opp (v := .bool true) rfl rfl rfl rfl rfl ?_
                  refine Rg.opp (v := .bool false) rfl rfl rfl rfl rfl ?_
                  refine Rg.nil ?_
                  refine Runs.cond false rfl (fun h => by cases h) (fun _ => ?_)
                  refine Runs.skip ?_
                  refine Runs.region ?_
                  refine Rg.opp (v := nat i) rfl rfl rfl rfl rfl ?_
                  refine Rg.opp (v := nat (i + 1)) rfl rfl rfl (ev_addN (b := 1) rfl rfl (by omega)) rfl ?_
                  refine Rg.opp (v := nat (i + 1)) rfl rfl rfl rfl rfl ?_
                  refine Rg.nil ?_
                  refine ⟨l.length - (i + 1), by omega, i + 1, wv, rfl, by rw [wantL_succ hlt, if_pos hbt]; exact hM, hlt, Is.of ⟨rfl, rfl, rfl, rfl, rfl, rfl, rfl, rfl, rfl, rfl, rfl, rfl, rfl, rfl, trivial⟩⟩
                · skip
                  have hb0 : b = false := by simpa using hbt0
                  subst hb0
                  have hbt : ¬ lawImp l (unitsP l) mm l[i] i = true := by rw [← hbv]; simp
                  refine Rg.opp (v := .bool false) rfl rfl rfl rfl rfl ?_
                  refine Rg.opp (v := .bool true) rfl rfl rfl rfl rfl ?_
                  refine Rg.nil ?_
                  refine Runs.cond true rfl (fun _ => ?_) (fun h => by cases h)
                  refine Runs.region ?_
                  refine Rg.opp (v := wv) rfl rfl rfl rfl rfl ?_
                  refine Rg.opp (v := nat i) rfl rfl rfl rfl rfl ?_
                  refine Rg.lit (f := encN) (sz := 1) (xs := [i]) hM rfl rfl rfl rfl rfl (by simp) (by simp) (fun u9 Hc (hM : Mem Hr Hc ([.sl 1 u9 (List.map encN ([i])), .sl 1 wv (List.map encN (wantL l (unitsP l) mm i))])) _ => ?_)
                  refine Rg.appM (f := encN) (sz := 1) (j := 1) (v := wv) (xs := wantL l (unitsP l) mm i) (ys := [i]) hM rfl rfl rfl rfl rfl rfl rfl (hM.get_sl (j := 0) rfl) ⟨rfl, rfl, rfl, by decide⟩ rfl (by simp [oneCell]) (by show (_ + _) * 8 ≤ 2 ^ 40; simp only [List.length_cons, List.length_nil]; omega) (by simp) (fun wv1 Hc (hM : Mem Hr Hc ([.sl 1 u9 (List.map encN ([i])), .sl 1 wv1 (List.map encN ((wantL l (unitsP l) mm i) ++ ([i])))])) hgr => ?_)
                  replace hM : Mem Hr _ ([.sl 1 wv1 (List.map encN ((wantL l (unitsP l) mm i) ++ ([i])))]) := hM.erase 0
                  refine Rg.opp (v := wv1) rfl rfl rfl rfl rfl ?_
                  refine Rg.nil ?_
                  refine Runs.region ?_
                  refine Rg.opp (v := nat i) rfl rfl rfl rfl rfl ?_
                  refine Rg.opp (v := nat (i + 1)) rfl rfl rfl (ev_addN (b := 1) rfl rfl (by omega)) rfl ?_
                  refine Rg.opp (v := nat (i + 1)) rfl rfl rfl rfl rfl ?_
                  refine Rg.nil ?_
                  refine ⟨l.length - (i + 1), by omega, i + 1, wv1, rfl, by rw [wantL_succ hlt, if_neg hbt]; exact hM, hlt, Is.of ⟨rfl, rfl, rfl, rfl, rfl, rfl, rfl, rfl, rfl, rfl, rfl, rfl, rfl, rfl, trivial⟩⟩
            · skip
              refine Rg.guards true rfl rfl rfl (fun _ => ⟨.bool false, _, evW_op (ev_gtF rfl rfl (hbig)), rfl, ?_⟩) (fun h => by cases h)
              refine Rg.opp (v := .bool false) rfl rfl rfl rfl rfl ?_
              refine Rg.opp (v := .bool false) rfl rfl rfl rfl rfl ?_
              refine Rg.nil ?_
              refine Runs.seq ?_
              refine Runs.seq ?_
              refine Runs.region ?_
              refine Rg.opp (v := nat 0) rfl rfl rfl rfl rfl ?_
              refine Rg.nil ?_
              refine Runs.block ?_
              refine Runs.loop (fun m s Hc => ∃ (k : Nat) (b : Bool), m = i - k ∧ Mem Hr Hc ([.sl 1 wv (List.map encN (wantL l (unitsP l) mm i))]) ∧ (k ≤ i) ∧ (b = lawImp l (unitsP l) mm l[i] k) ∧ Is s 186 [(3, lv), (6, qv), (7, nat 0), (8, uv), (9, rv), (13, wv), (14, nat i), (15, .bool (b)), (16, nat k)]) _
                ⟨0, false, rfl, hM, Nat.zero_le _, by simp [lawImp, hi4, hbig], Is.of ⟨rfl, rfl, rfl, rfl, rfl, rfl, rfl, rfl, rfl, rfl, rfl, rfl, rfl, rfl, rfl, rfl, rfl, rfl, trivial⟩⟩ ?_
              rintro m s Hc ⟨k, b, rfl, hM, hk, hbv, hs⟩
              obtain ⟨a10, rfl⟩ := hs.mk1
              clear hs
              refine Runs.seq ?_
              refine Runs.seq ?_
              refine Runs.region ?_
              refine Rg.opp (v := nat k) rfl rfl rfl rfl rfl ?_
              refine Rg.opp (v := nat i) rfl rfl rfl rfl rfl ?_
              by_cases hltk : k < i
              · skip
                have hkl : k < l.length := by omega
                refine Rg.opp (v := .bool true) rfl rfl rfl (ev_ltT rfl rfl (hltk)) rfl ?_
                refine Rg.nil ?_
                refine Runs.cond true rfl (fun _ => ?_) (fun h => by cases h)
                refine Runs.skip ?_
                refine Runs.seq ?_
                refine Runs.block ?_
                refine Runs.drawn (is := [0, 1, 2, 3, 4, 5, 6, 7, 8, 9, 10, 11, 12, 13, 14, 15, 16, 17, 18, 19, 20, 21, 22, 23, 24, 25, 26, 27, 28, 29, 30, 31, 32, 33, 34]) (by decide +kernel) ?_
                by_cases hb1 : b = true
                · skip
                  subst hb1
                  refine Rg.opp (v := .bool true) rfl rfl rfl rfl rfl ?_
                  refine Rg.opp (v := .bool true) rfl rfl rfl rfl rfl ?_
                  refine Rg.guards false rfl rfl rfl (fun h => by cases h) (fun _ => ?_)
                  refine Rg.guards false rfl rfl rfl (fun h => by cases h) (fun _ => ?_)
                  refine Rg.guards false rfl rfl rfl (fun h => by cases h) (fun _ => ?_)
                  refine Rg.guards false rfl rfl rfl (fun h => by cases h) (fun _ => ?_)
                  refine Rg.guards false rfl rfl rfl (fun h => by cases h) (fun _ => ?_)
                  refine Rg.guards false rfl rfl rfl (fun h => by cases h) (fun _ => ?_)
                  refine Rg.guards false rfl rfl rfl (fun h => by cases h) (fun _ => ?_)
                  refine Rg.guards false rfl rfl rfl (fun h => by cases h) (fun _ => ?_)
                  refine Rg.guards false rfl rfl rfl (fun h => by cases h) (fun _ => ?_)
                  refine Rg.guards false rfl rfl rfl (fun h => by cases h) (fun _ => ?_)
                  refine Rg.guards false rfl rfl rfl (fun h => by cases h) (fun _ => ?_)
                  refine Rg.guards false rfl rfl rfl (fun h => by cases h) (fun _ => ?_)
                  refine Rg.guards false rfl rfl rfl (fun h => by cases h) (fun _ => ?_)
                  refine Rg.guards false rfl rfl rfl (fun h => by cases h) (fun _ => ?_)
                  refine Rg.guards false rfl rfl rfl (fun h => by cases h) (fun _ => ?_)
                  refine Rg.guards false rfl rfl rfl (fun h => by cases h) (fun _ => ?_)
                  refine Rg.guards false rfl rfl rfl (fun h => by cases h) (fun _ => ?_)
                  refine Rg.guards false rfl rfl rfl (fun h => by cases h) (fun _ => ?_)
                  refine Rg.guards false rfl rfl rfl (fun h => by cases h) (fun _ => ?_)
                  refine Rg.guards false rfl rfl rfl (fun h => by cases h) (fun _ => ?_)
                  refine Rg.guards false rfl rfl rfl (fun h => by cases h) (fun _ => ?_)
                  refine Rg.guards false rfl rfl rfl (fun h => by cases h) (fun _ => ?_)
                  refine Rg.guards false rfl rfl rfl (fun h => by cases h) (fun _ => ?_)
                  refine Rg.guards false rfl rfl rfl (fun h => by cases h) (fun _ => ?_)
                  refine Rg.guards false rfl rfl rfl (fun h => by cases h) (fun _ => ?_)
                  refine Rg.guards false rfl rfl rfl (fun h => by cases h) (fun _ => ?_)
                  refine Rg.guards false rfl rfl rfl (fun h => by cases h) (fun _ => ?_)
                  refine Rg.guards false rfl rfl rfl (fun h => by cases h) (fun _ => ?_)
                  refine Rg.guards false rfl rfl rfl (fun h => by cases h) (fun _ => ?_)
                  refine Rg.guards false rfl rfl rfl (fun h => by cases h) (fun _ => ?_)
                  refine Rg.guards false rfl rfl rfl (fun h => by cases h) (fun _ => ?_)
                  refine Rg.opp (v := .bool true) rfl rfl rfl rfl rfl ?_
                  refine Rg.opp (v := .bool true) rfl rfl rfl rfl rfl ?_
                  refine Rg.nil ?_
                  refine Runs.region ?_
                  refine Rg.opp (v := nat k) rfl rfl rfl rfl rfl ?_
                  refine Rg.opp (v := nat (k + 1)) rfl rfl rfl (ev_addN (b := 1) rfl rfl (by omega)) rfl ?_
                  refine Rg.opp (v := nat (k + 1)) rfl rfl rfl rfl rfl ?_
                  refine Rg.nil ?_
                  refine ⟨i - (k + 1), by omega, k + 1, true, rfl, hM, hltk, by rw [lawImp_succ hkl, ← hbv]; rfl, Is.of ⟨rfl, rfl, rfl, rfl, rfl, rfl, rfl, rfl, rfl, rfl, rfl, rfl, rfl, rfl, rfl, rfl, rfl, rfl, trivial⟩⟩
                · skip
                  have hb0 : b = false := by simpa using hb1
                  subst hb0
                  refine Rg.opp (v := .bool false) rfl rfl rfl rfl rfl ?_
                  refine Rg.opp (v := .bool false) rfl rfl rfl rfl rfl ?_
                  refine Rg.guards true rfl rfl rfl (fun _ => ⟨lv, _, evW_op (rfl), rfl, ?_⟩) (fun h => by cases h)
                  refine Rg.guards true rfl rfl rfl (fun _ => ⟨nat k, _, evW_op (rfl), rfl, ?_⟩) (fun h => by cases h)
                  refine Rg.guards true rfl rfl rfl (fun _ => ⟨ptrAt (sAddr lv) (k * 3), _, evW_op (ev_idxM (k := k) (hl.sees (hep.trans (heq.trans (heu.trans (her.trans hM.ext)))).sees) rfl rfl (hkl) rfl rfl rfl (by decide)), rfl, ?_⟩) (fun h => by cases h)
                  refine Rg.guards true rfl rfl rfl (fun _ => ⟨.agg (relC (l[k])).toArray, _, evW_op (ev_ldAM (k := k) (hl.sees (hep.trans (heq.trans (heu.trans (her.trans hM.ext)))).sees) rfl (hkl) rfl rfl rfl), rfl, ?_⟩) (fun h => by cases h)
                  by_cases hk4 : l[k].kind = 4
                  · skip
                    refine Rg.guards true rfl rfl rfl (fun _ => ⟨.bool false, _, evW_call rfl (rfl) (quiet_pure (fun K => arc_F _ _ K hk4) _), rfl, ?_⟩) (fun h => by cases h)
                    refine Rg.guards true rfl rfl rfl (fun _ => ⟨.bool false, _, evW_op (rfl), rfl, ?_⟩) (fun h => by cases h)
                    refine Rg.guards false rfl rfl rfl (fun h => by cases h) (fun _ => ?_)
                    refine Rg.guards false rfl rfl rfl (fun h => by cases h) (fun _ => ?_)
                    refine Rg.guards false rfl rfl rfl (fun h => by cases h) (fun _ => ?_)
                    refine Rg.guards false rfl rfl rfl (fun h => by cases h) (fun _ => ?_)
                    refine Rg.guards false rfl rfl rfl (fun h => by cases h) (fun _ => ?_)
                    refine Rg.guards false rfl rfl rfl (fun h => by cases h) (fun _ => ?_)
                    refine Rg.guards false rfl rfl rfl (fun h => by cases h) (fun _ => ?_)
                    refine Rg.guards false rfl rfl rfl (fun h => by cases h) (fun _ => ?_)
                    refine Rg.guards false rfl rfl rfl (fun h => by cases h) (fun _ => ?_)
                    refine Rg.guards false rfl rfl rfl (fun h => by cases h) (fun _ => ?_)
                    refine Rg.guards false rfl rfl rfl (fun h => by cases h) (fun _ => ?_)
                    refine Rg.guards true rfl rfl rfl (fun _ => ⟨.bool false, _, evW_op (rfl), rfl, ?_⟩) (fun h => by cases h)
                    refine Rg.guards true rfl rfl rfl (fun _ => ⟨.bool false, _, evW_op (rfl), rfl, ?_⟩) (fun h => by cases h)
                    refine Rg.guards false rfl rfl rfl (fun h => by cases h) (fun _ => ?_)
                    refine Rg.guards false rfl rfl rfl (fun h => by cases h) (fun _ => ?_)
                    refine Rg.guards false rfl rfl rfl (fun h => by cases h) (fun _ => ?_)
                    refine Rg.guards false rfl rfl rfl (fun h => by cases h) (fun _ => ?_)
                    refine Rg.guards false rfl rfl rfl (fun h => by cases h) (fun _ => ?_)
                    refine Rg.guards false rfl rfl rfl (fun h => by cases h) (fun _ => ?_)
                    refine Rg.guards false rfl rfl rfl (fun h => by cases h) (fun _ => ?_)
                    refine Rg.guards false rfl rfl rfl (fun h => by cases h) (fun _ => ?_)
                    refine Rg.guards false rfl rfl rfl (fun h => by cases h) (fun _ => ?_)
                    refine Rg.guards false rfl rfl rfl (fun h => by cases h) (fun _ => ?_)
                    refine Rg.guards false rfl rfl rfl (fun h => by cases h) (fun _ => ?_)
                    refine Rg.guards true rfl rfl rfl (fun _ => ⟨.bool false, _, evW_op (rfl), rfl, ?_⟩) (fun h => by cases h)
                    refine Rg.opp (v := .bool false) rfl rfl rfl rfl rfl ?_
                    refine Rg.opp (v := .bool false) rfl rfl rfl rfl rfl ?_
                    refine Rg.nil ?_
                    refine Runs.region ?_
                    refine Rg.opp (v := nat k) rfl rfl rfl rfl rfl ?_
                    refine Rg.opp (v := nat (k + 1)) rfl rfl rfl (ev_addN (b := 1) rfl rfl (by omega)) rfl ?_
                    refine Rg.opp (v := nat (k + 1)) rfl rfl rfl rfl rfl ?_
                    refine Rg.nil ?_
                    refine ⟨i - (k + 1), by omega, k + 1, false, rfl, hM, hltk, by rw [lawImp_succ hkl, ← hbv]; simp [hk4], Is.of ⟨rfl, rfl, rfl, rfl, rfl, rfl, rfl, rfl, rfl, rfl, rfl, rfl, rfl, rfl, rfl, rfl, rfl, rfl, trivial⟩⟩
                  · skip
                    refine Rg.guards true rfl rfl rfl (fun _ => ⟨.bool true, _, evW_call rfl (rfl) (quiet_pure (fun K => arc_T _ _ K hk4) _), rfl, ?_⟩) (fun h => by cases h)
                    refine Rg.guards true rfl rfl rfl (fun _ => ⟨.bool true, _, evW_op (rfl), rfl, ?_⟩) (fun h => by cases h)
                    refine Rg.guards true rfl rfl rfl (fun _ => ⟨lv, _, evW_op (rfl), rfl, ?_⟩) (fun h => by cases h)
                    refine Rg.guards true rfl rfl rfl (fun _ => ⟨nat k, _, evW_op (rfl), rfl, ?_⟩) (fun h => by cases h)
                    refine Rg.guards true rfl rfl rfl (fun _ => ⟨ptrAt (sAddr lv) (k * 3), _, evW_op (ev_idxM (k := k) (hl.sees (hep.trans (heq.trans (heu.trans (her.trans hM.ext)))).sees) rfl rfl (hkl) rfl rfl rfl (by decide)), rfl, ?_⟩) (fun h => by cases h)
                    refine Rg.guards true rfl rfl rfl (fun _ => ⟨ptrAt (sAddr lv) (k * 3 + 1), _, evW_op (ev_fldM (k := k) (m := k * 3) (q := (9, 1)) (hl.sees (hep.trans (heq.trans (heu.trans (her.trans hM.ext)))).sees) rfl (hkl) rfl rfl rfl rfl (by decide)), rfl, ?_⟩) (fun h => by cases h)
                    refine Rg.guards true rfl rfl rfl (fun _ => ⟨str (l[k].up), _, evW_op (ev_ldfM (k := k) (hl.sees (hep.trans (heq.trans (heu.trans (her.trans hM.ext)))).sees) rfl (hkl) rfl rfl rfl rfl), rfl, ?_⟩) (fun h => by cases h)
                    refine Rg.guards true rfl rfl rfl (fun _ => ⟨lv, _, evW_op (rfl), rfl, ?_⟩) (fun h => by cases h)
                    refine Rg.guards true rfl rfl rfl (fun _ => ⟨nat i, _, evW_op (rfl), rfl, ?_⟩) (fun h => by cases h)
                    refine Rg.guards true rfl rfl rfl (fun _ => ⟨ptrAt (sAddr lv) (i * 3), _, evW_op (ev_idxM (k := i) (hl.sees (hep.trans (heq.trans (heu.trans (her.trans hM.ext)))).sees) rfl rfl (hlt) rfl rfl rfl (by decide)), rfl, ?_⟩) (fun h => by cases h)
                    refine Rg.guards true rfl rfl rfl (fun _ => ⟨ptrAt (sAddr lv) (i * 3 + 1), _, evW_op (ev_fldM (k := i) (m := i * 3) (q := (9, 1)) (hl.sees (hep.trans (heq.trans (heu.trans (her.trans hM.ext)))).sees) rfl (hlt) rfl rfl rfl rfl (by decide)), rfl, ?_⟩) (fun h => by cases h)
                    refine Rg.guards true rfl rfl rfl (fun _ => ⟨str (l[i].up), _, evW_op (ev_ldfM (k := i) (hl.sees (hep.trans (heq.trans (heu.trans (her.trans hM.ext)))).sees) rfl (hlt) rfl rfl rfl rfl), rfl, ?_⟩) (fun h => by cases h)
                    by_cases hup2 : l[k].up = l[i].up
                    · skip
                      refine Rg.guards true rfl rfl rfl (fun _ => ⟨.bool true, _, evW_op (ev_seqB (decide_eq_true hup2) rfl rfl), rfl, ?_⟩) (fun h => by cases h)
                      refine Rg.guards true rfl rfl rfl (fun _ => ⟨.bool true, _, evW_op (rfl), rfl, ?_⟩) (fun h => by cases h)
                      refine Rg.guards true rfl rfl rfl (fun _ => ⟨.bool true, _, evW_op (rfl), rfl, ?_⟩) (fun h => by cases h)
                      refine Rg.guards true rfl rfl rfl (fun _ => ⟨lv, _, evW_op (rfl), rfl, ?_⟩) (fun h => by cases h)
                      refine Rg.guards true rfl rfl rfl (fun _ => ⟨nat k, _, evW_op (rfl), rfl, ?_⟩) (fun h => by cases h)
                      refine Rg.guards true rfl rfl rfl (fun _ => ⟨ptrAt (sAddr lv) (k * 3), _, evW_op (ev_idxM (k := k) (hl.sees (hep.trans (heq.trans (heu.trans (her.trans hM.ext)))).sees) rfl rfl (hkl) rfl rfl rfl (by decide)), rfl, ?_⟩) (fun h => by cases h)
                      refine Rg.guards true rfl rfl rfl (fun _ => ⟨ptrAt (sAddr lv) (k * 3 + 2), _, evW_op (ev_fldM (k := k) (m := k * 3) (q := (9, 2)) (hl.sees (hep.trans (heq.trans (heu.trans (her.trans hM.ext)))).sees) rfl (hkl) rfl rfl rfl rfl (by decide)), rfl, ?_⟩) (fun h => by cases h)
                      refine Rg.guards true rfl rfl rfl (fun _ => ⟨str (l[k].lo), _, evW_op (ev_ldfM (k := k) (hl.sees (hep.trans (heq.trans (heu.trans (her.trans hM.ext)))).sees) rfl (hkl) rfl rfl rfl rfl), rfl, ?_⟩) (fun h => by cases h)
                      refine Rg.guards true rfl rfl rfl (fun _ => ⟨lv, _, evW_op (rfl), rfl, ?_⟩) (fun h => by cases h)
                      refine Rg.guards true rfl rfl rfl (fun _ => ⟨nat i, _, evW_op (rfl), rfl, ?_⟩) (fun h => by cases h)
                      refine Rg.guards true rfl rfl rfl (fun _ => ⟨ptrAt (sAddr lv) (i * 3), _, evW_op (ev_idxM (k := i) (hl.sees (hep.trans (heq.trans (heu.trans (her.trans hM.ext)))).sees) rfl rfl (hlt) rfl rfl rfl (by decide)), rfl, ?_⟩) (fun h => by cases h)
                      refine Rg.guards true rfl rfl rfl (fun _ => ⟨ptrAt (sAddr lv) (i * 3 + 2), _, evW_op (ev_fldM (k := i) (m := i * 3) (q := (9, 2)) (hl.sees (hep.trans (heq.trans (heu.trans (her.trans hM.ext)))).sees) rfl (hlt) rfl rfl rfl rfl (by decide)), rfl, ?_⟩) (fun h => by cases h)
                      refine Rg.guards true rfl rfl rfl (fun _ => ⟨str (l[i].lo), _, evW_op (ev_ldfM (k := i) (hl.sees (hep.trans (heq.trans (heu.trans (her.trans hM.ext)))).sees) rfl (hlt) rfl rfl rfl rfl), rfl, ?_⟩) (fun h => by cases h)
                      by_cases hlo2 : l[k].lo = l[i].lo
                      · skip
                        refine Rg.guards true rfl rfl rfl (fun _ => ⟨.bool true, _, evW_op (ev_seqB (decide_eq_true hlo2) rfl rfl), rfl, ?_⟩) (fun h => by cases h)
                        refine Rg.guards true rfl rfl rfl (fun _ => ⟨.bool true, _, evW_op (rfl), rfl, ?_⟩) (fun h => by cases h)
                        refine Rg.opp (v := .bool true) rfl rfl rfl rfl rfl ?_
                        refine Rg.opp (v := .bool true) rfl rfl rfl rfl rfl ?_
                        refine Rg.nil ?_
                        refine Runs.region ?_
                        refine Rg.opp (v := nat k) rfl rfl rfl rfl rfl ?_
                        refine Rg.opp (v := nat (k + 1)) rfl rfl rfl (ev_addN (b := 1) rfl rfl (by omega)) rfl ?_
                        refine Rg.opp (v := nat (k + 1)) rfl rfl rfl rfl rfl ?_
                        refine Rg.nil ?_
                        refine ⟨i - (k + 1), by omega, k + 1, true, rfl, hM, hltk, by rw [lawImp_succ hkl, ← hbv]; simp [hk4, hup2, hlo2], Is.of ⟨rfl, rfl, rfl, rfl, rfl, rfl, rfl, rfl, rfl, rfl, rfl, rfl, rfl, rfl, rfl, rfl, rfl, rfl, trivial⟩⟩
                      · skip
                        refine Rg.guards true rfl rfl rfl (fun _ => ⟨.bool false, _, evW_op (ev_seqB (decide_eq_false hlo2) rfl rfl), rfl, ?_⟩) (fun h => by cases h)
                        refine Rg.guards true rfl rfl rfl (fun _ => ⟨.bool false, _, evW_op (rfl), rfl, ?_⟩) (fun h => by cases h)
                        refine Rg.opp (v := .bool false) rfl rfl rfl rfl rfl ?_
                        refine Rg.opp (v := .bool false) rfl rfl rfl rfl rfl ?_
                        refine Rg.nil ?_
                        refine Runs.region ?_
                        refine Rg.opp (v := nat k) rfl rfl rfl rfl rfl ?_
                        refine Rg.opp (v := nat (k + 1)) rfl rfl rfl (ev_addN (b := 1) rfl rfl (by omega)) rfl ?_
                        refine Rg.opp (v := nat (k + 1)) rfl rfl rfl rfl rfl ?_
                        refine Rg.nil ?_
                        refine ⟨i - (k + 1), by omega, k + 1, false, rfl, hM, hltk, by rw [lawImp_succ hkl, ← hbv]; simp [hk4, hup2, hlo2], Is.of ⟨rfl, rfl, rfl, rfl, rfl, rfl, rfl, rfl, rfl, rfl, rfl, rfl, rfl, rfl, rfl, rfl, rfl, rfl, trivial⟩⟩
                    · skip
                      refine Rg.guards true rfl rfl rfl (fun _ => ⟨.bool false, _, evW_op (ev_seqB (decide_eq_false hup2) rfl rfl), rfl, ?_⟩) (fun h => by cases h)
                      refine Rg.guards true rfl rfl rfl (fun _ => ⟨.bool false, _, evW_op (rfl), rfl, ?_⟩) (fun h => by cases h)
                      refine Rg.guards true rfl rfl rfl (fun _ => ⟨.bool false, _, evW_op (rfl), rfl, ?_⟩) (fun h => by cases h)
                      refine Rg.guards false rfl rfl rfl (fun h => by cases h) (fun _ => ?_)
                      refine Rg.guards false rfl rfl rfl (fun h => by cases h) (fun _ => ?_)
                      refine Rg.guards false rfl rfl rfl (fun h => by cases h) (fun _ => ?_)
                      refine Rg.guards false rfl rfl rfl (fun h => by cases h) (fun _ => ?_)
                      refine Rg.guards false rfl rfl rfl (fun h => by cases h) (fun _ => ?_)
                      refine Rg.guards false rfl rfl rfl (fun h => by cases h) (fun _ => ?_)
                      refine Rg.guards false rfl rfl rfl (fun h => by cases h) (fun _ => ?_)
                      refine Rg.guards false rfl rfl rfl (fun h => by cases h) (fun _ => ?_)
                      refine Rg.guards false rfl rfl rfl (fun h => by cases h) (fun _ => ?_)
                      refine Rg.guards false rfl rfl rfl (fun h => by cases h) (fun _ => ?_)
                      refine Rg.guards false rfl rfl rfl (fun h => by cases h) (fun _ => ?_)
                      refine Rg.guards true rfl rfl rfl (fun _ => ⟨.bool false, _, evW_op (rfl), rfl, ?_⟩) (fun h => by cases h)
                      refine Rg.opp (v := .bool false) rfl rfl rfl rfl rfl ?_
                      refine Rg.opp (v := .bool false) rfl rfl rfl rfl rfl ?_
                      refine Rg.nil ?_
                      refine Runs.region ?_
                      refine Rg.opp (v := nat k) rfl rfl rfl rfl rfl ?_
                      refine Rg.opp (v := nat (k + 1)) rfl rfl rfl (ev_addN (b := 1) rfl rfl (by omega)) rfl ?_
                      refine Rg.opp (v := nat (k + 1)) rfl rfl rfl rfl rfl ?_
                      refine Rg.nil ?_
                      refine ⟨i - (k + 1), by omega, k + 1, false, rfl, hM, hltk, by rw [lawImp_succ hkl, ← hbv]; simp [hk4, hup2], Is.of ⟨rfl, rfl, rfl, rfl, rfl, rfl, rfl, rfl, rfl, rfl, rfl, rfl, rfl, rfl, rfl, rfl, rfl, rfl, trivial⟩⟩
              · skip
                have hke : k = i := by omega
                rw [hke] at hbv
                refine Rg.opp (v := .bool false) rfl rfl rfl (ev_ltF rfl rfl (hltk)) rfl ?_
                refine Rg.nil ?_
                refine Runs.cond false rfl (fun h => by cases h) (fun _ => ?_)
                refine Runs.exit ?_
                refine Runs.seq ?_
                refine Runs.region ?_
                by_cases hbt0 : b = true
                · skip
                  subst hbt0
                  have hbt := hbv.symm
                  refine Rg.opp (v := .bool true) rfl rfl rfl rfl rfl ?_
                  refine Rg.opp (v := .bool false) rfl rfl rfl rfl rfl ?_
                  refine Rg.nil ?_
                  refine Runs.cond false rfl (fun h => by cases h) (fun _ => ?_)
                  refine Runs.skip ?_
                  refine Runs.region ?_
                  refine Rg.opp (v := nat i) rfl rfl rfl rfl rfl ?_
                  refine Rg.opp (v := nat (i + 1)) rfl rfl rfl (ev_addN (b := 1) rfl rfl (by omega)) rfl ?_
                  refine Rg.opp (v := nat (i + 1)) rfl rfl rfl rfl rfl ?_
                  refine Rg.nil ?_
                  refine ⟨l.length - (i + 1), by omega, i + 1, wv, rfl, by rw [wantL_succ hlt, if_pos hbt]; exact hM, hlt, Is.of ⟨rfl, rfl, rfl, rfl, rfl, rfl, rfl, rfl, rfl, rfl, rfl, rfl, rfl, rfl, trivial⟩⟩
                · skip
                  have hb0 : b = false := by simpa using hbt0
                  subst hb0
                  have hbt : ¬ lawImp l (unitsP l) mm l[i] i = true := by rw [← hbv]; simp
                  refine Rg.opp (v := .bool false) rfl rfl rfl rfl rfl ?_
                  refine Rg.opp (v := .bool true) rfl rfl rfl rfl rfl ?_
                  refine Rg.nil ?_
                  refine Runs.cond true rfl (fun _ => ?_) (fun h => by cases h)
                  refine Runs.region ?_
                  refine Rg.opp (v := wv) rfl rfl rfl rfl rfl ?_
                  refine Rg.opp (v := nat i) rfl rfl rfl rfl rfl ?_
                  refine Rg.lit (f := encN) (sz := 1) (xs := [i]) hM rfl rfl rfl rfl rfl (by simp) (by simp) (fun u11 Hc (hM : Mem Hr Hc ([.sl 1 u11 (List.map encN ([i])), .sl 1 wv (List.map encN (wantL l (unitsP l) mm i))])) _ => ?_)
                  refine Rg.appM (f := encN) (sz := 1) (j := 1) (v := wv) (xs := wantL l (unitsP l) mm i) (ys := [i]) hM rfl rfl rfl rfl rfl rfl rfl (hM.get_sl (j := 0) rfl) ⟨rfl, rfl, rfl, by decide⟩ rfl (by simp [oneCell]) (by show (_ + _) * 8 ≤ 2 ^ 40; simp only [List.length_cons, List.length_nil]; omega) (by simp) (fun wv1 Hc (hM : Mem Hr Hc ([.sl 1 u11 (List.map encN ([i])), .sl 1 wv1 (List.map encN ((wantL l (unitsP l) mm i) ++ ([i])))])) hgr => ?_)
                  replace hM : Mem Hr _ ([.sl 1 wv1 (List.map encN ((wantL l (unitsP l) mm i) ++ ([i])))]) := hM.erase 0
                  refine Rg.opp (v := wv1) rfl rfl rfl rfl rfl ?_
                  refine Rg.nil ?_
                  refine Runs.region ?_
                  refine Rg.opp (v := nat i) rfl rfl rfl rfl rfl ?_
                  refine Rg.opp (v := nat (i + 1)) rfl rfl rfl (ev_addN (b := 1) rfl rfl (by omega)) rfl ?_
                  refine Rg.opp (v := nat (i + 1)) rfl rfl rfl rfl rfl ?_
                  refine Rg.nil ?_
                  refine ⟨l.length - (i + 1), by omega, i + 1, wv1, rfl, by rw [wantL_succ hlt, if_neg hbt]; exact hM, hlt, Is.of ⟨rfl, rfl, rfl, rfl, rfl, rfl, rfl, rfl, rfl, rfl, rfl, rfl, rfl, rfl, trivial⟩⟩
        · skip
          refine Rg.opp (v := .bool false) rfl rfl rfl (ev_ltF rfl rfl (hlt)) rfl ?_
          refine Rg.nil ?_
          refine Runs.cond false rfl (fun h => by cases h) (fun _ => ?_)
          refine Runs.exit ?_
          refine Runs.seq ?_
          refine Runs.region ?_
          refine Rg.opp (v := nat 0) rfl rfl rfl rfl rfl ?_
          refine Rg.opp (v := .bool true) rfl rfl rfl (ev_eqT rfl rfl (by decide)) rfl ?_
          refine Rg.opp (v := .bool true) rfl rfl rfl rfl rfl ?_
          refine Rg.guards true rfl rfl rfl (fun _ => ⟨qv, _, evW_op (rfl), rfl, ?_⟩) (fun h => by cases h)
          refine Rg.guards true rfl rfl rfl (fun _ => ⟨wv, _, evW_op (rfl), rfl, ?_⟩) (fun h => by cases h)
          have hie : i = l.length := by omega
          have hfin : redL (arcsOf l) (arcsOf l).length = wantL l (unitsP l) mm i := by rw [hie]; exact red_want (by omega) (fun h => hcy (cycB_iff.2 h)) hF
          refine Rg.guards true rfl rfl rfl (fun _ => ⟨.bool true, _, evW_call rfl (rfl) (by have h0 := sameN_runs (hqs.sees (heu.trans (her.trans hM.ext)).sees) (hM.get_sl (j := 0) rfl) (by have := redL_len (arcsOf l) (arcsOf l).length; have := arcsUp_len l l.length; have : (arcsOf l).length = (arcsUp l l.length).length := rfl; omega); rw [decide_eq_true hfin] at h0; exact h0), rfl, ?_⟩) (fun h => by cases h)
          refine Rg.opp (v := .bool true) rfl rfl rfl rfl rfl ?_
          refine Rg.opp (v := .bool true) rfl rfl rfl rfl rfl ?_
          refine Rg.nil ?_
          refine Runs.ret ?_
          refine ⟨.bool true, rfl, ?_⟩
          rfl
  · skip
    refine Rg.guards true rfl rfl rfl (fun _ => ⟨.bool false, _, evW_call rfl (rfl) (fits_F hs hx8), rfl, ?_⟩) (fun h => by cases h)
    refine Rg.guards true rfl rfl rfl (fun _ => ⟨.bool true, _, evW_op (rfl), rfl, ?_⟩) (fun h => by cases h)
    refine Rg.opp (v := .bool true) rfl rfl rfl rfl rfl ?_
    refine Rg.nil ?_
    refine Runs.cond true rfl (fun _ => ?_) (fun h => by cases h)
    refine Runs.seq ?_
    refine Runs.region ?_
    refine Rg.calls (v := .bool true) rfl rfl rfl rfl (rfl) rfl (known_is _) ?_
    refine Rg.opp (v := .bool true) rfl rfl rfl rfl rfl ?_
    refine Rg.nil ?_
    refine Runs.ret ?_
    refine ⟨.bool true, rfl, ?_⟩
    rfl


end Go.Proofs.Ytdhbclplondmjaa.C

end
