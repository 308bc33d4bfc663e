/- Texts of one's own, laid together: X8, X9, X10 -/
import Derived.Test.YtdhbclplondmjaaQo26
section
/- The law's reach, run. -/
set_option linter.unusedVariables false
set_option linter.unusedSimpArgs false
set_option maxRecDepth 100000
set_option maxHeartbeats 4000000
namespace Go.Proofs.Ytdhbclplondmjaa.C
open Go.RowKit Go.Sort

theorem reach_runs {H : Heap} {v : Value} {l : List Rel} (hl : Sl H 3 v (rels l)) (hll : l.length ≤ 2 ^ 16) (hn : (unitsP l).length ≤ 2 ^ 17) :
    ∃ r H1, big tab 14 [v] H = some (r, H1) ∧ Ext H H1 ∧ ∃ (ov : List Value) (mm : Nat → Nat → Nat), Sl H1 1 r (List.map encV ov) ∧ ov.length = (unitsP l).length ∧ (∀ c (h : c < ov.length), Sl H1 1 ov[c] (((List.range (unitsP l).length).map (mm c)).map encN)) ∧ ∀ c b, Far (prs (arcsOf l)) 8 c b (mm c b) := by
  refine big_of_runs rfl rfl rfl ?_
  obtain ⟨z, hz⟩ := startC_mkS Try.f14 [v]
  rw [show startC (14, Try.f14).snd [v] = _ from hz]
  clear hz
  refine Runs.cut (n := 134) (l := [(0, v)]) (Is.of ⟨rfl, rfl, trivial⟩) (fun a0 => ?_)
  refine Runs.seq ?_
  refine Runs.region ?_
  refine Rg.opp (v := .slice none 0 0) rfl rfl rfl rfl rfl ?_
  refine Rg.nil ?_
  refine Runs.seq ?_
  refine Runs.region ?_
  refine Rg.opp (v := v) rfl rfl rfl rfl rfl ?_
  refine Rg.callW rfl rfl rfl rfl (rfl) rfl (lawUnits_runs hl (by omega)) (fun r Hu hP => ?_)
  obtain ⟨heu, p0, hus'⟩ := hP
  rw [← units_eq] at hus'
  have hus : Sl Hu 1 r ((unitsP l).map encS) := hus'.sl (by rw [strs_len]; unfold unk; omega)
  have hM := Mem.start Hu
  refine Rg.opp (v := r) rfl rfl rfl rfl rfl ?_
  refine Rg.nil ?_
  refine Runs.seq ?_
  refine Runs.region ?_
  refine Rg.opp (v := r) rfl rfl rfl rfl rfl ?_
  refine Rg.opp (v := nat ((unitsP l).length)) rfl rfl rfl (ev_lenM (hus.sees hM.ext.sees) rfl rfl) rfl ?_
  refine Rg.make (f := encV) (sz := 1) (m := (unitsP l).length) (.slice none 0 0) hM rfl rfl rfl rfl rfl rfl rfl rfl rfl (by decide) rfl rfl rfl (by show (unitsP l).length * 24 ≤ 2 ^ 40; omega) (by omega) (fun ow0 Hc (hM : Mem Hu Hc ([.sl 1 ow0 (List.map encV (List.replicate ((unitsP l).length) (.slice none 0 0)))])) _ => ?_)
  refine Rg.opp (v := ow0) rfl rfl rfl rfl rfl ?_
  refine Rg.nil ?_
  refine Runs.seq ?_
  refine Runs.seq ?_
  refine Runs.region ?_
  refine Rg.opp (v := nat 0) rfl rfl rfl rfl rfl ?_
  refine Rg.nil ?_
  refine Runs.block ?_
  refine Runs.loop (fun m s Hc => ∃ (i : Nat) (ov : List Value), m = (unitsP l).length - i ∧ Mem Hu Hc ((.sl 1 ow0 (List.map encV ov)) :: (rowsT ov (mat (unitsP l).length (fun _ _ => 0) i))) ∧ (i ≤ (unitsP l).length) ∧ (ov.length = (unitsP l).length) ∧ Is s 134 [(0, v), (3, r), (4, ow0), (5, nat i)]) _
    ⟨0, List.replicate (unitsP l).length (.slice none 0 0), rfl, by have h := hM.addNil 1 (unitsP l).length; rw [rowsT_nil (unitsP l).length (fun _ _ => 0)] at h; exact h, Nat.zero_le _, by simp, Is.of ⟨rfl, rfl, rfl, rfl, rfl, rfl, rfl, rfl, trivial⟩⟩ ?_
  rintro m s Hc ⟨i, ov, rfl, hM, hi, hov, hs⟩
  obtain ⟨a1, rfl⟩ := hs.mk1
  clear hs
  refine Runs.seq ?_
  refine Runs.seq ?_
  refine Runs.region ?_
  refine Rg.opp (v := nat i) rfl rfl rfl rfl rfl ?_
  refine Rg.opp (v := r) rfl rfl rfl rfl rfl ?_
  refine Rg.opp (v := nat ((unitsP l).length)) rfl rfl rfl (ev_lenM (hus.sees hM.ext.sees) rfl rfl) rfl ?_
  by_cases hlt : i < (unitsP l).length
  · skip
    refine Rg.opp (v := .bool true) rfl rfl rfl (ev_ltT rfl rfl (hlt)) rfl ?_
    refine Rg.nil ?_
    refine Runs.cond true rfl (fun _ => ?_) (fun h => by cases h)
    refine Runs.skip ?_
    refine Runs.seq ?_
    refine Runs.block ?_
    refine Runs.region ?_
    refine Rg.opp (v := ow0) rfl rfl rfl rfl rfl ?_
    refine Rg.opp (v := nat i) rfl rfl rfl rfl rfl ?_
    refine Rg.opp (v := r) rfl rfl rfl rfl rfl ?_
    refine Rg.opp (v := nat ((unitsP l).length)) rfl rfl rfl (ev_lenM (hus.sees hM.ext.sees) rfl rfl) rfl ?_
    refine Rg.make (f := encN) (sz := 1) (m := (unitsP l).length) 0 hM rfl rfl rfl rfl rfl rfl rfl rfl rfl (by decide) rfl rfl rfl (by show (unitsP l).length * 8 ≤ 2 ^ 40; omega) (by omega) (fun u Hc (hM : Mem Hu Hc ((.sl 1 u (List.map encN (List.replicate ((unitsP l).length) 0))) :: (.sl 1 ow0 (List.map encV ov)) :: (rowsT ov (mat (unitsP l).length (fun _ _ => 0) i)))) _ => ?_)
    refine Rg.opp (v := ptrAt (sAddr ow0) (i * 1)) rfl rfl rfl (ev_idxM (k := i) (hM.get_sl (j := 1) rfl) rfl rfl (by omega) rfl rfl rfl (by decide)) rfl ?_
    refine Rg.stoM (f := encV) (j := 1) (k := i) u hM rfl rfl rfl rfl rfl rfl rfl (by omega) rfl (hM.get_sl (j := 0) rfl).one.1 rfl rfl (by simp [(hM.get_sl (j := 0) rfl).one.2.1]) (fun Hc (hM : Mem Hu Hc ((.sl 1 u (List.map encN (List.replicate ((unitsP l).length) 0))) :: (.sl 1 ow0 (List.map encV ((ov).set i u))) :: (rowsT ov (mat (unitsP l).length (fun _ _ => 0) i)))) => ?_)
    refine Rg.nil ?_
    refine Runs.region ?_
    refine Rg.opp (v := nat i) rfl rfl rfl rfl rfl ?_
    refine Rg.opp (v := nat (i + 1)) rfl rfl rfl (ev_addN (b := 1) rfl rfl (by omega)) rfl ?_
    refine Rg.opp (v := nat (i + 1)) rfl rfl rfl rfl rfl ?_
    refine Rg.nil ?_
    refine ⟨(unitsP l).length - (i + 1), by omega, i + 1, ov.set i u, rfl, by
      have h := hM.mv (i + 1)
      rw [← rowsT_up hov hlt (xs := List.replicate (unitsP l).length 0) (by rw [List.map_const', List.length_range])]
      exact h, hlt, by simpa using hov, Is.of ⟨rfl, rfl, rfl, rfl, rfl, rfl, rfl, rfl, trivial⟩⟩
  · skip
    replace hM : Mem Hu Hc ((.sl 1 ow0 (List.map encV ov)) :: (rowsT ov (mat (unitsP l).length (fun _ _ => 0) (unitsP l).length))) := by
      have e : i = (unitsP l).length := by omega
      have h := hM
      rw [show rowsT ov (mat (unitsP l).length (fun _ _ => 0) i) = rowsT ov (mat (unitsP l).length (fun _ _ => 0) (unitsP l).length) by rw [e]] at h; exact h
    refine Rg.opp (v := .bool false) rfl rfl rfl (ev_ltF rfl rfl (hlt)) rfl ?_
    refine Rg.nil ?_
    refine Runs.cond false rfl (fun h => by cases h) (fun _ => ?_)
    refine Runs.exit ?_
    refine Runs.seq ?_
    refine Runs.seq ?_
    refine Runs.region ?_
    refine Rg.opp (v := nat 1) rfl rfl rfl rfl rfl ?_
    refine Rg.nil ?_
    refine Runs.block ?_
    refine Runs.loop (fun m s Hc => ∃ (kk : Nat) (ow : Value) (ov : List Value) (mm : Nat → Nat → Nat), m = 8 - kk ∧ Mem Hu Hc ((.sl 1 ow (List.map encV ov)) :: (rowsT ov (mat (unitsP l).length mm (unitsP l).length))) ∧ (kk ≤ 8) ∧ (ov.length = (unitsP l).length) ∧ (∀ c b, Far (prs (arcsOf l)) kk c b (mm c b)) ∧ Is s 134 [(0, v), (3, r), (4, ow), (6, nat (kk + 1))]) _
      ⟨0, ow0, ov, fun _ _ => 0, rfl, hM, by omega, hov, fun c b => .inl ⟨rfl, fun j h1 h2 => by omega⟩, Is.of ⟨rfl, rfl, rfl, rfl, rfl, rfl, rfl, rfl, trivial⟩⟩ ?_
    rintro m s Hc ⟨kk, ow, ov, mm, rfl, hM, hkk, hov, hF, hs⟩
    obtain ⟨a2, rfl⟩ := hs.mk1
    clear hs
    have hm7 : kk < 8 → ∀ c a, mm c a ≤ 7 := fun h c a => by have := (hF c a).le; omega
    have hm0 : ∀ c, (unitsP l).length ≤ c → ∀ b, mm c b = 0 := fun c hc b => (hF c b).zero (fun p hp => by obtain ⟨a, ha, rfl⟩ := List.mem_map.1 hp; exact (arcs_wf l).lo a ha) hc
    refine Runs.seq ?_
    refine Runs.seq ?_
    refine Runs.region ?_
    refine Rg.opp (v := nat (kk + 1)) rfl rfl rfl rfl rfl ?_
    by_cases h8 : kk + 1 ≤ 8
    · skip
      refine Rg.opp (v := .bool true) rfl rfl rfl (ev_leT rfl rfl (h8)) rfl ?_
      refine Rg.nil ?_
      refine Runs.cond true rfl (fun _ => ?_) (fun h => by cases h)
      refine Runs.skip ?_
      refine Runs.seq ?_
      refine Runs.block ?_
      refine Runs.seq ?_
      refine Runs.region ?_
      refine Rg.opp (v := r) rfl rfl rfl rfl rfl ?_
      refine Rg.opp (v := nat ((unitsP l).length)) rfl rfl rfl (ev_lenM (hus.sees hM.ext.sees) rfl rfl) rfl ?_
      refine Rg.make (f := encV) (sz := 1) (m := (unitsP l).length) (.slice none 0 0) hM rfl rfl rfl rfl rfl rfl rfl rfl rfl (by decide) rfl rfl rfl (by show (unitsP l).length * 24 ≤ 2 ^ 40; omega) (by omega) (fun nw0 Hc (hM : Mem Hu Hc ((.sl 1 nw0 (List.map encV (List.replicate ((unitsP l).length) (.slice none 0 0)))) :: (.sl 1 ow (List.map encV ov)) :: (rowsT ov (mat (unitsP l).length mm (unitsP l).length)))) _ => ?_)
      refine Rg.opp (v := nw0) rfl rfl rfl rfl rfl ?_
      refine Rg.nil ?_
      refine Runs.seq ?_
      refine Runs.seq ?_
      refine Runs.region ?_
      refine Rg.opp (v := nat 0) rfl rfl rfl rfl rfl ?_
      refine Rg.nil ?_
      refine Runs.block ?_
      refine Runs.loop (fun m s Hc => ∃ (i : Nat) (nv : List Value), m = (unitsP l).length - i ∧ Mem Hu Hc ((.sl 1 nw0 (List.map encV nv)) :: (.sl 1 ow (List.map encV ov)) :: (rowsT ov (mat (unitsP l).length mm (unitsP l).length) ++ rowsT nv (mat (unitsP l).length mm i))) ∧ (i ≤ (unitsP l).length) ∧ (nv.length = (unitsP l).length) ∧ Is s 134 [(0, v), (3, r), (4, ow), (6, nat (kk + 1)), (7, nw0), (8, nat i)]) _
        ⟨0, List.replicate (unitsP l).length (.slice none 0 0), rfl, by have h := hM.addNil 1 (unitsP l).length; rw [rowsT_nil (unitsP l).length mm] at h; exact h, Nat.zero_le _, by simp, Is.of ⟨rfl, rfl, rfl, rfl, rfl, rfl, rfl, rfl, rfl, rfl, rfl, rfl, trivial⟩⟩ ?_
      rintro m s Hc ⟨i, nv, rfl, hM, hi, hnv, hs⟩
      obtain ⟨a3, rfl⟩ := hs.mk1
      clear hs
      refine Runs.seq ?_
      refine Runs.seq ?_
      refine Runs.region ?_
      refine Rg.opp (v := nat i) rfl rfl rfl rfl rfl ?_
      refine Rg.opp (v := r) rfl rfl rfl rfl rfl ?_
      refine Rg.opp (v := nat ((unitsP l).length)) rfl rfl rfl (ev_lenM (hus.sees hM.ext.sees) rfl rfl) rfl ?_
      by_cases hlt : i < (unitsP l).length
      · skip
        refine Rg.opp (v := .bool true) rfl rfl rfl (ev_ltT rfl rfl (hlt)) rfl ?_
        refine Rg.nil ?_
        refine Runs.cond true rfl (fun _ => ?_) (fun h => by cases h)
        refine Runs.skip ?_
        refine Runs.seq ?_
        refine Runs.block ?_
        refine Runs.region ?_
        refine Rg.opp (v := nw0) rfl rfl rfl rfl rfl ?_
        refine Rg.opp (v := nat i) rfl rfl rfl rfl rfl ?_
        refine Rg.lit (f := encN) (sz := 1) (xs := ([] : List Nat)) hM rfl rfl rfl rfl rfl (by simp) (by simp) (fun u4 Hc (hM : Mem Hu Hc ((.sl 1 u4 (List.map encN (([] : List Nat)))) :: (.sl 1 nw0 (List.map encV nv)) :: (.sl 1 ow (List.map encV ov)) :: (rowsT ov (mat (unitsP l).length mm (unitsP l).length) ++ rowsT nv (mat (unitsP l).length mm i)))) _ => ?_)
        refine Rg.opp (v := ow) rfl rfl rfl rfl rfl ?_
        refine Rg.opp (v := nat i) rfl rfl rfl rfl rfl ?_
        refine Rg.opp (v := ptrAt (sAddr ow) (i * 1)) rfl rfl rfl (ev_idxM (k := i) (hM.get_sl (j := 2) rfl) rfl rfl (by omega) rfl rfl rfl (by decide)) rfl ?_
        refine Rg.opp (v := ov[i]) rfl rfl rfl (ev_ldM (k := i) (hM.get_sl (j := 2) rfl) rfl (by omega) rfl rfl rfl rfl) rfl ?_
        refine Rg.appM (f := encN) (sz := 1) (j := 0) (v := u4) (xs := ([] : List Nat)) (ys := (List.range (unitsP l).length).map (mm i)) hM rfl rfl rfl rfl rfl rfl rfl (hM.get_sl (j := i + 3) (show (rowsT ov (mat (unitsP l).length mm (unitsP l).length) ++ rowsT nv (mat (unitsP l).length mm i))[i]? = _ from (List.getElem?_append_left (by rw [rowsT_len hov]; omega)).trans (rowsT_get hov (by omega) (by omega)))) ⟨rfl, rfl, rfl, by decide⟩ rfl (by simp [oneCell]) (by show (_ + _) * 8 ≤ 2 ^ 40; simp; omega) (by intro e; have := congrArg List.length e; simp only [List.length_map, List.length_range, List.length_nil] at this; omega) (fun u Hc (hM : Mem Hu Hc ((.sl 1 u (List.map encN ((([] : List Nat)) ++ ((List.range (unitsP l).length).map (mm i))))) :: (.sl 1 nw0 (List.map encV nv)) :: (.sl 1 ow (List.map encV ov)) :: (rowsT ov (mat (unitsP l).length mm (unitsP l).length) ++ rowsT nv (mat (unitsP l).length mm i)))) hgr => ?_)
        refine Rg.opp (v := ptrAt (sAddr nw0) (i * 1)) rfl rfl rfl (ev_idxM (k := i) (hM.get_sl (j := 1) rfl) rfl rfl (by omega) rfl rfl rfl (by decide)) rfl ?_
        refine Rg.stoM (f := encV) (j := 1) (k := i) u hM rfl rfl rfl rfl rfl rfl rfl (by omega) rfl hgr.one.1 rfl rfl (by simp [hgr.one.2.1]) (fun Hc (hM : Mem Hu Hc ((.sl 1 u (List.map encN ((([] : List Nat)) ++ ((List.range (unitsP l).length).map (mm i))))) :: (.sl 1 nw0 (List.map encV ((nv).set i u))) :: (.sl 1 ow (List.map encV ov)) :: (rowsT ov (mat (unitsP l).length mm (unitsP l).length) ++ rowsT nv (mat (unitsP l).length mm i)))) => ?_)
        refine Rg.nil ?_
        refine Runs.region ?_
        refine Rg.opp (v := nat i) rfl rfl rfl rfl rfl ?_
        refine Rg.opp (v := nat (i + 1)) rfl rfl rfl (ev_addN (b := 1) rfl rfl (by omega)) rfl ?_
        refine Rg.opp (v := nat (i + 1)) rfl rfl rfl rfl rfl ?_
        refine Rg.nil ?_
        refine ⟨(unitsP l).length - (i + 1), by omega, i + 1, nv.set i u, rfl, by
          have h := hM.mv ((unitsP l).length + i + 2)
          rw [← rowsT_up (c := i) hnv hlt (xs := [] ++ (List.range (unitsP l).length).map (mm i)) (by simp)]
          have e0 : (rowsT ov (mat (unitsP l).length mm (unitsP l).length) ++ rowsT nv (mat (unitsP l).length mm i)).set ((unitsP l).length + i) (.sl 1 u (List.map encN ([] ++ (List.range (unitsP l).length).map (mm i)))) = rowsT ov (mat (unitsP l).length mm (unitsP l).length) ++ (rowsT nv (mat (unitsP l).length mm i)).set i (.sl 1 u (List.map encN ([] ++ (List.range (unitsP l).length).map (mm i)))) := by
            rw [List.set_append_right _ _ (by rw [rowsT_len hov]; omega), rowsT_len hov, Nat.add_sub_cancel_left]
          rw [← e0]
          exact h, hlt, by simpa using hnv, Is.of ⟨rfl, rfl, rfl, rfl, rfl, rfl, rfl, rfl, rfl, rfl, rfl, rfl, trivial⟩⟩
      · skip
        replace hM : Mem Hu Hc ((.sl 1 nw0 (List.map encV nv)) :: (.sl 1 ow (List.map encV ov)) :: (rowsT ov (mat (unitsP l).length mm (unitsP l).length) ++ rowsT nv (mat (unitsP l).length mm (unitsP l).length))) := by
          have e : i = (unitsP l).length := by omega
          have h := hM
          rw [show rowsT nv (mat (unitsP l).length mm i) = rowsT nv (mat (unitsP l).length mm (unitsP l).length) by rw [e]] at h; exact h
        refine Rg.opp (v := .bool false) rfl rfl rfl (ev_ltF rfl rfl (hlt)) rfl ?_
        refine Rg.nil ?_
        refine Runs.cond false rfl (fun h => by cases h) (fun _ => ?_)
        refine Runs.exit ?_
        refine Runs.seq ?_
        refine Runs.seq ?_
        refine Runs.region ?_
        refine Rg.opp (v := nat 0) rfl rfl rfl rfl rfl ?_
        refine Rg.nil ?_
        refine Runs.block ?_
        refine Runs.loop (fun m s Hc => ∃ (i : Nat) (m' : Nat → Nat → Nat), m = l.length - i ∧ Mem Hu Hc ((.sl 1 nw0 (List.map encV nv)) :: (.sl 1 ow (List.map encV ov)) :: (rowsT ov (mat (unitsP l).length mm (unitsP l).length) ++ rowsT nv (mat (unitsP l).length m' (unitsP l).length))) ∧ (i ≤ l.length) ∧ (Part mm (prs (arcsUp l i)) m') ∧ Is s 134 [(0, v), (3, r), (4, ow), (6, nat (kk + 1)), (7, nw0), (9, nat i)]) _
          ⟨0, mm, rfl, hM, Nat.zero_le _, Part.start mm, Is.of ⟨rfl, rfl, rfl, rfl, rfl, rfl, rfl, rfl, rfl, rfl, rfl, rfl, trivial⟩⟩ ?_
        rintro m s Hc ⟨i, m', rfl, hM, hi2, hP, hs⟩
        obtain ⟨a5, rfl⟩ := hs.mk1
        clear hs
        refine Runs.seq ?_
        refine Runs.seq ?_
        refine Runs.region ?_
        refine Rg.opp (v := nat i) rfl rfl rfl rfl rfl ?_
        refine Rg.opp (v := v) rfl rfl rfl rfl rfl ?_
        refine Rg.opp (v := nat l.length) rfl rfl rfl (ev_lenM ((hl.sees heu.sees).sees hM.ext.sees) rfl rfl) rfl ?_
        by_cases hlt : i < l.length
        · skip
          have hlo : idx (unitsP l) l[i].lo < (unitsP l).length := idx_lt (mem_unitsP.2 (mem_names_lo (List.getElem_mem hlt)))
          have hup : idx (unitsP l) l[i].up < (unitsP l).length := idx_lt (mem_unitsP.2 (mem_names_up (List.getElem_mem hlt)))
          refine Rg.opp (v := .bool true) rfl rfl rfl (ev_ltT rfl rfl (hlt)) rfl ?_
          refine Rg.nil ?_
          refine Runs.cond true rfl (fun _ => ?_) (fun h => by cases h)
          refine Runs.skip ?_
          refine Runs.seq ?_
          refine Runs.block ?_
          refine Runs.seq ?_
          refine Runs.seq ?_
          refine Runs.region ?_
          refine Rg.opp (v := v) rfl rfl rfl rfl rfl ?_
          refine Rg.opp (v := nat i) rfl rfl rfl rfl rfl ?_
          refine Rg.opp (v := ptrAt (sAddr v) (i * 3)) rfl rfl rfl (ev_idxM (k := i) ((hl.sees heu.sees).sees hM.ext.sees) rfl rfl (hlt) rfl rfl rfl (by decide)) rfl ?_
          refine Rg.opp (v := .agg (relC (l[i])).toArray) rfl rfl rfl (ev_ldAM (k := i) ((hl.sees heu.sees).sees hM.ext.sees) rfl (hlt) rfl rfl rfl) rfl ?_
          by_cases hkd : l[i].kind = 4
          · skip
            refine Rg.calls (v := .bool false) rfl rfl rfl rfl (rfl) rfl (arc_F _ _ _ hkd) ?_
            refine Rg.opp (v := .bool true) rfl rfl rfl rfl rfl ?_
            refine Rg.nil ?_
            refine Runs.cond true rfl (fun _ => ?_) (fun h => by cases h)
            refine Runs.exit ?_
            refine Runs.region ?_
            refine Rg.opp (v := nat i) rfl rfl rfl rfl rfl ?_
            refine Rg.opp (v := nat (i + 1)) rfl rfl rfl (ev_addN (b := 1) rfl rfl (by omega)) rfl ?_
            refine Rg.opp (v := nat (i + 1)) rfl rfl rfl rfl rfl ?_
            refine Rg.nil ?_
            refine ⟨l.length - (i + 1), by omega, i + 1, m', rfl, hM, hlt, by rw [arcsUp_succ hlt, if_pos hkd]; exact hP, Is.of ⟨rfl, rfl, rfl, rfl, rfl, rfl, rfl, rfl, rfl, rfl, rfl, rfl, trivial⟩⟩
          · skip
            refine Rg.calls (v := .bool true) rfl rfl rfl rfl (rfl) rfl (arc_T _ _ _ hkd) ?_
            refine Rg.opp (v := .bool false) rfl rfl rfl rfl rfl ?_
            refine Rg.nil ?_
            refine Runs.cond false rfl (fun h => by cases h) (fun _ => ?_)
            refine Runs.skip ?_
            refine Runs.seq ?_
            refine Runs.drawn (is := [0, 1, 2, 3, 4, 5, 6, 7, 8, 9, 10, 11, 12, 13, 14, 15]) (by decide +kernel) ?_
            refine Rg.opp (v := r) rfl rfl rfl rfl rfl ?_
            refine Rg.opp (v := v) rfl rfl rfl rfl rfl ?_
            refine Rg.opp (v := nat i) rfl rfl rfl rfl rfl ?_
            refine Rg.opp (v := ptrAt (sAddr v) (i * 3)) rfl rfl rfl (ev_idxM (k := i) ((hl.sees heu.sees).sees hM.ext.sees) rfl rfl (hlt) rfl rfl rfl (by decide)) rfl ?_
            refine Rg.opp (v := ptrAt (sAddr v) (i * 3 + 2)) rfl rfl rfl (ev_fldM (k := i) (m := i * 3) (q := (9, 2)) ((hl.sees heu.sees).sees hM.ext.sees) rfl (hlt) rfl rfl rfl rfl (by decide)) rfl ?_
            refine Rg.opp (v := str (l[i].lo)) rfl rfl rfl (ev_ldfM (k := i) ((hl.sees heu.sees).sees hM.ext.sees) rfl (hlt) rfl rfl rfl rfl) rfl ?_
            refine Rg.calls (v := nat (idx (unitsP l) l[i].lo)) rfl rfl rfl rfl (rfl) rfl (quiet_same (index_mem ((hus.sees hM.ext.sees).sees (Sees.freeze _)) (mem_unitsP.2 (mem_names_lo (List.getElem_mem hlt))) (by omega))) ?_
            refine Rg.opp (v := r) rfl rfl rfl rfl rfl ?_
            refine Rg.opp (v := v) rfl rfl rfl rfl rfl ?_
            refine Rg.opp (v := nat i) rfl rfl rfl rfl rfl ?_
            refine Rg.opp (v := ptrAt (sAddr v) (i * 3)) rfl rfl rfl (ev_idxM (k := i) ((hl.sees heu.sees).sees hM.ext.sees) rfl rfl (hlt) rfl rfl rfl (by decide)) rfl ?_
            refine Rg.opp (v := ptrAt (sAddr v) (i * 3 + 1)) rfl rfl rfl (ev_fldM (k := i) (m := i * 3) (q := (9, 1)) ((hl.sees heu.sees).sees hM.ext.sees) rfl (hlt) rfl rfl rfl rfl (by decide)) rfl ?_
            refine Rg.opp (v := str (l[i].up)) rfl rfl rfl (ev_ldfM (k := i) ((hl.sees heu.sees).sees hM.ext.sees) rfl (hlt) rfl rfl rfl rfl) rfl ?_
            refine Rg.calls (v := nat (idx (unitsP l) l[i].up)) rfl rfl rfl rfl (rfl) rfl (quiet_same (index_mem ((hus.sees hM.ext.sees).sees (Sees.freeze _)) (mem_unitsP.2 (mem_names_up (List.getElem_mem hlt))) (by omega))) ?_
            refine Rg.opp (v := nat (idx (unitsP l) l[i].lo)) rfl rfl rfl rfl rfl ?_
            refine Rg.opp (v := nat (idx (unitsP l) l[i].up)) rfl rfl rfl rfl rfl ?_
            refine Rg.nil ?_
            refine Runs.seq ?_
            refine Runs.region ?_
            refine Rg.opp (v := nat 0) rfl rfl rfl rfl rfl ?_
            refine Rg.nil ?_
            refine Runs.block ?_
            refine Runs.loop (fun m s Hc => ∃ (c : Nat), m = (unitsP l).length - c ∧ Mem Hu Hc ((.sl 1 nw0 (List.map encV nv)) :: (.sl 1 ow (List.map encV ov)) :: (rowsT ov (mat (unitsP l).length mm (unitsP l).length) ++ rowsT nv (mat (unitsP l).length (updC mm m' (idx (unitsP l) l[i].lo) (idx (unitsP l) l[i].up) c) (unitsP l).length))) ∧ (c ≤ (unitsP l).length) ∧ Is s 134 [(0, v), (3, r), (4, ow), (6, nat (kk + 1)), (7, nw0), (9, nat i), (10, nat (idx (unitsP l) l[i].lo)), (11, nat (idx (unitsP l) l[i].up)), (12, nat c)]) _
              ⟨0, rfl, by rw [updC_zero]; exact hM, Nat.zero_le _, Is.of ⟨rfl, rfl, rfl, rfl, rfl, rfl, rfl, rfl, rfl, rfl, rfl, rfl, rfl, rfl, rfl, rfl, rfl, rfl, trivial⟩⟩ ?_
            rintro m s Hc ⟨c, rfl, hM, hc, hs⟩
            obtain ⟨a6, rfl⟩ := hs.mk1
            clear hs
            refine Runs.seq ?_
            refine Runs.seq ?_
            refine Runs.region ?_
            refine Rg.opp (v := nat c) rfl rfl rfl rfl rfl ?_
            refine Rg.opp (v := r) rfl rfl rfl rfl rfl ?_
            refine Rg.opp (v := nat ((unitsP l).length)) rfl rfl rfl (ev_lenM (hus.sees hM.ext.sees) rfl rfl) rfl ?_
            by_cases hc8 : c < (unitsP l).length
            · skip
              refine Rg.opp (v := .bool true) rfl rfl rfl (ev_ltT rfl rfl (hc8)) rfl ?_
              refine Rg.nil ?_
              refine Runs.cond true rfl (fun _ => ?_) (fun h => by cases h)
              refine Runs.skip ?_
              refine Runs.seq ?_
              refine Runs.block ?_
              refine Runs.seq ?_
              refine Runs.seq ?_
              refine Runs.region ?_
              refine Rg.opp (v := nat c) rfl rfl rfl rfl rfl ?_
              refine Rg.opp (v := nat (idx (unitsP l) l[i].lo)) rfl rfl rfl rfl rfl ?_
              by_cases h7 : c = idx (unitsP l) l[i].lo
              · skip
                refine Rg.opp (v := .bool true) rfl rfl rfl (ev_eqT rfl rfl (h7)) rfl ?_
                refine Rg.nil ?_
                refine Runs.cond true rfl (fun _ => ?_) (fun h => by cases h)
                refine Runs.drawn (is := [0, 1, 2, 3, 4, 5, 6, 7, 8, 9, 10, 11, 12, 13, 14]) (by decide +kernel) ?_
                refine Rg.opp (v := nw0) rfl rfl rfl rfl rfl ?_
                refine Rg.opp (v := nat c) rfl rfl rfl rfl rfl ?_
                refine Rg.opp (v := ptrAt (sAddr nw0) (c * 1)) rfl rfl rfl (ev_idxM (k := c) (hM.get_sl (j := 0) rfl) rfl rfl (by omega) rfl rfl rfl (by decide)) rfl ?_
                refine Rg.opp (v := nv[c]) rfl rfl rfl (ev_ldM (k := c) (hM.get_sl (j := 0) rfl) rfl (by omega) rfl rfl rfl rfl) rfl ?_
                refine Rg.opp (v := nat (idx (unitsP l) l[i].up)) rfl rfl rfl rfl rfl ?_
                refine Rg.opp (v := nw0) rfl rfl rfl rfl rfl ?_
                refine Rg.opp (v := nat c) rfl rfl rfl rfl rfl ?_
                refine Rg.opp (v := ptrAt (sAddr nw0) (c * 1)) rfl rfl rfl (ev_idxM (k := c) (hM.get_sl (j := 0) rfl) rfl rfl (by omega) rfl rfl rfl (by decide)) rfl ?_
                refine Rg.opp (v := nv[c]) rfl rfl rfl (ev_ldM (k := c) (hM.get_sl (j := 0) rfl) rfl (by omega) rfl rfl rfl rfl) rfl ?_
                refine Rg.opp (v := nat (idx (unitsP l) l[i].up)) rfl rfl rfl rfl rfl ?_
                refine Rg.opp (v := ptrAt (sAddr (nv[c])) ((idx (unitsP l) l[i].up) * 1)) rfl rfl rfl (ev_idxM (k := idx (unitsP l) l[i].up) (hM.get_sl (j := (unitsP l).length + c + 2) (show (rowsT ov (mat (unitsP l).length mm (unitsP l).length) ++ rowsT nv (mat (unitsP l).length (updC mm m' (idx (unitsP l) l[i].lo) (idx (unitsP l) l[i].up) c) (unitsP l).length))[(unitsP l).length + c]? = _ from (List.getElem?_append_right (by rw [rowsT_len hov]; omega)).trans (by rw [rowsT_len hov, Nat.add_sub_cancel_left]; exact rowsT_get hnv (by omega) (by omega)))) rfl rfl (by simp; omega) rfl rfl rfl (by decide)) rfl ?_
                refine Rg.opp (v := nat ((updC mm m' (idx (unitsP l) l[i].lo) (idx (unitsP l) l[i].up) c) c ((idx (unitsP l) l[i].up)))) rfl rfl rfl (ev_ldM (k := (idx (unitsP l) l[i].up)) (hM.get_sl (j := (unitsP l).length + c + 2) (show (rowsT ov (mat (unitsP l).length mm (unitsP l).length) ++ rowsT nv (mat (unitsP l).length (updC mm m' (idx (unitsP l) l[i].lo) (idx (unitsP l) l[i].up) c) (unitsP l).length))[(unitsP l).length + c]? = _ from (List.getElem?_append_right (by rw [rowsT_len hov]; omega)).trans (by rw [rowsT_len hov, Nat.add_sub_cancel_left]; exact rowsT_get hnv (by omega) (by omega)))) rfl (by simp; omega) (by simp) rfl rfl rfl) rfl ?_
                refine Rg.opp (v := nat (max ((updC mm m' (idx (unitsP l) l[i].lo) (idx (unitsP l) l[i].up) c) c ((idx (unitsP l) l[i].up))) (1))) rfl rfl rfl (ev_maxN (a := (updC mm m' (idx (unitsP l) l[i].lo) (idx (unitsP l) l[i].up) c) c ((idx (unitsP l) l[i].up))) (b := 1) rfl rfl) rfl ?_
                refine Rg.opp (v := ptrAt (sAddr (nv[c])) ((idx (unitsP l) l[i].up) * 1)) rfl rfl rfl (ev_idxM (k := idx (unitsP l) l[i].up) (hM.get_sl (j := (unitsP l).length + c + 2) (show (rowsT ov (mat (unitsP l).length mm (unitsP l).length) ++ rowsT nv (mat (unitsP l).length (updC mm m' (idx (unitsP l) l[i].lo) (idx (unitsP l) l[i].up) c) (unitsP l).length))[(unitsP l).length + c]? = _ from (List.getElem?_append_right (by rw [rowsT_len hov]; omega)).trans (by rw [rowsT_len hov, Nat.add_sub_cancel_left]; exact rowsT_get hnv (by omega) (by omega)))) rfl rfl (by simp; omega) rfl rfl rfl (by decide)) rfl ?_
                refine Rg.stoM (f := encN) (j := (unitsP l).length + c + 2) (k := idx (unitsP l) l[i].up) (max ((updC mm m' (idx (unitsP l) l[i].lo) (idx (unitsP l) l[i].up) c) c ((idx (unitsP l) l[i].up))) (1)) hM rfl rfl rfl rfl (show (rowsT ov (mat (unitsP l).length mm (unitsP l).length) ++ rowsT nv (mat (unitsP l).length (updC mm m' (idx (unitsP l) l[i].lo) (idx (unitsP l) l[i].up) c) (unitsP l).length))[(unitsP l).length + c]? = _ from (List.getElem?_append_right (by rw [rowsT_len hov]; omega)).trans (by rw [rowsT_len hov, Nat.add_sub_cancel_left]; exact rowsT_get hnv (by omega) (by omega))) rfl rfl (by simp; omega) rfl rfl rfl rfl rfl (fun Hc hM => ?_)
                replace hM : Mem Hu Hc ((.sl 1 nw0 (List.map encV nv)) :: (.sl 1 ow (List.map encV ov)) :: (rowsT ov (mat (unitsP l).length mm (unitsP l).length) ++ rowsT nv (mat (unitsP l).length (upd1 (updC mm m' (idx (unitsP l) l[i].lo) (idx (unitsP l) l[i].up) c) c (idx (unitsP l) l[i].up) (max ((updC mm m' (idx (unitsP l) l[i].lo) (idx (unitsP l) l[i].up) c) c ((idx (unitsP l) l[i].up))) (1))) (unitsP l).length))) := by
                  have h0 := hM
                  have e0 : (rowsT ov (mat (unitsP l).length mm (unitsP l).length) ++ rowsT nv (mat (unitsP l).length (updC mm m' (idx (unitsP l) l[i].lo) (idx (unitsP l) l[i].up) c) (unitsP l).length)).set ((unitsP l).length + c) (.sl 1 nv[c] (List.map encN (((List.range (unitsP l).length).map ((updC mm m' (idx (unitsP l) l[i].lo) (idx (unitsP l) l[i].up) c) c)).set (idx (unitsP l) l[i].up) (max ((updC mm m' (idx (unitsP l) l[i].lo) (idx (unitsP l) l[i].up) c) c ((idx (unitsP l) l[i].up))) (1))))) = rowsT ov (mat (unitsP l).length mm (unitsP l).length) ++ rowsT nv (mat (unitsP l).length (upd1 (updC mm m' (idx (unitsP l) l[i].lo) (idx (unitsP l) l[i].up) c) c (idx (unitsP l) l[i].up) (max ((updC mm m' (idx (unitsP l) l[i].lo) (idx (unitsP l) l[i].up) c) c ((idx (unitsP l) l[i].up))) (1))) (unitsP l).length) := by
                    rw [List.set_append_right _ _ (by rw [rowsT_len hov]; omega), rowsT_len hov, Nat.add_sub_cancel_left, rowsT_sto hnv (by omega) (by omega)]
                  rw [← e0]; exact h0
                refine Rg.nil ?_
                refine Runs.seq ?_
                refine Runs.region ?_
                refine Rg.opp (v := ow) rfl rfl rfl rfl rfl ?_
                refine Rg.opp (v := nat c) rfl rfl rfl rfl rfl ?_
                refine Rg.opp (v := ptrAt (sAddr ow) (c * 1)) rfl rfl rfl (ev_idxM (k := c) (hM.get_sl (j := 1) rfl) rfl rfl (by omega) rfl rfl rfl (by decide)) rfl ?_
                refine Rg.opp (v := ov[c]) rfl rfl rfl (ev_ldM (k := c) (hM.get_sl (j := 1) rfl) rfl (by omega) rfl rfl rfl rfl) rfl ?_
                refine Rg.opp (v := nat (idx (unitsP l) l[i].lo)) rfl rfl rfl rfl rfl ?_
                refine Rg.opp (v := ptrAt (sAddr (ov[c])) ((idx (unitsP l) l[i].lo) * 1)) rfl rfl rfl (ev_idxM (k := idx (unitsP l) l[i].lo) (hM.get_sl (j := c + 2) (show (rowsT ov (mat (unitsP l).length mm (unitsP l).length) ++ rowsT nv (mat (unitsP l).length (upd1 (updC mm m' (idx (unitsP l) l[i].lo) (idx (unitsP l) l[i].up) c) c (idx (unitsP l) l[i].up) (max ((updC mm m' (idx (unitsP l) l[i].lo) (idx (unitsP l) l[i].up) c) c ((idx (unitsP l) l[i].up))) (1))) (unitsP l).length))[c]? = _ from (List.getElem?_append_left (by rw [rowsT_len hov]; omega)).trans (rowsT_get hov (by omega) (by omega)))) rfl rfl (by simp; omega) rfl rfl rfl (by decide)) rfl ?_
                refine Rg.opp (v := nat (mm c (idx (unitsP l) l[i].lo))) rfl rfl rfl (ev_ldM (k := (idx (unitsP l) l[i].lo)) (hM.get_sl (j := c + 2) (show (rowsT ov (mat (unitsP l).length mm (unitsP l).length) ++ rowsT nv (mat (unitsP l).length (upd1 (updC mm m' (idx (unitsP l) l[i].lo) (idx (unitsP l) l[i].up) c) c (idx (unitsP l) l[i].up) (max ((updC mm m' (idx (unitsP l) l[i].lo) (idx (unitsP l) l[i].up) c) c ((idx (unitsP l) l[i].up))) (1))) (unitsP l).length))[c]? = _ from (List.getElem?_append_left (by rw [rowsT_len hov]; omega)).trans (rowsT_get hov (by omega) (by omega)))) rfl (by simp; omega) (by simp) rfl rfl rfl) rfl ?_
                by_cases h8 : 0 < mm c (idx (unitsP l) l[i].lo)
                · skip
                  refine Rg.opp (v := .bool true) rfl rfl rfl (ev_gtT rfl rfl (h8)) rfl ?_
                  refine Rg.nil ?_
                  refine Runs.cond true rfl (fun _ => ?_) (fun h => by cases h)
                  refine Runs.drawn (is := [0, 1, 2, 3, 4, 5, 6, 7, 8, 9, 10, 11, 12, 13, 14, 15, 16, 17, 18, 19, 20, 21, 22, 23]) (by decide +kernel) ?_
                  refine Rg.opp (v := nw0) rfl rfl rfl rfl rfl ?_
                  refine Rg.opp (v := nat c) rfl rfl rfl rfl rfl ?_
                  refine Rg.opp (v := ptrAt (sAddr nw0) (c * 1)) rfl rfl rfl (ev_idxM (k := c) (hM.get_sl (j := 0) rfl) rfl rfl (by omega) rfl rfl rfl (by decide)) rfl ?_
                  refine Rg.opp (v := nv[c]) rfl rfl rfl (ev_ldM (k := c) (hM.get_sl (j := 0) rfl) rfl (by omega) rfl rfl rfl rfl) rfl ?_
                  refine Rg.opp (v := nat (idx (unitsP l) l[i].up)) rfl rfl rfl rfl rfl ?_
                  refine Rg.opp (v := nw0) rfl rfl rfl rfl rfl ?_
                  refine Rg.opp (v := nat c) rfl rfl rfl rfl rfl ?_
                  refine Rg.opp (v := ptrAt (sAddr nw0) (c * 1)) rfl rfl rfl (ev_idxM (k := c) (hM.get_sl (j := 0) rfl) rfl rfl (by omega) rfl rfl rfl (by decide)) rfl ?_
                  refine Rg.opp (v := nv[c]) rfl rfl rfl (ev_ldM (k := c) (hM.get_sl (j := 0) rfl) rfl (by omega) rfl rfl rfl rfl) rfl ?_
                  refine Rg.opp (v := nat (idx (unitsP l) l[i].up)) rfl rfl rfl rfl rfl ?_
                  refine Rg.opp (v := ptrAt (sAddr (nv[c])) ((idx (unitsP l) l[i].up) * 1)) rfl rfl rfl (ev_idxM (k := idx (unitsP l) l[i].up) (hM.get_sl (j := (unitsP l).length + c + 2) (show (rowsT ov (mat (unitsP l).length mm (unitsP l).length) ++ rowsT nv (mat (unitsP l).length (upd1 (updC mm m' (idx (unitsP l) l[i].lo) (idx (unitsP l) l[i].up) c) c (idx (unitsP l) l[i].up) (max ((updC mm m' (idx (unitsP l) l[i].lo) (idx (unitsP l) l[i].up) c) c ((idx (unitsP l) l[i].up))) (1))) (unitsP l).length))[(unitsP l).length + c]? = _ from (List.getElem?_append_right (by rw [rowsT_len hov]; omega)).trans (by rw [rowsT_len hov, Nat.add_sub_cancel_left]; exact rowsT_get hnv (by omega) (by omega)))) rfl rfl (by simp; omega) rfl rfl rfl (by decide)) rfl ?_
                  refine Rg.opp (v := nat ((upd1 (updC mm m' (idx (unitsP l) l[i].lo) (idx (unitsP l) l[i].up) c) c (idx (unitsP l) l[i].up) (max ((updC mm m' (idx (unitsP l) l[i].lo) (idx (unitsP l) l[i].up) c) c ((idx (unitsP l) l[i].up))) (1))) c ((idx (unitsP l) l[i].up)))) rfl rfl rfl (ev_ldM (k := (idx (unitsP l) l[i].up)) (hM.get_sl (j := (unitsP l).length + c + 2) (show (rowsT ov (mat (unitsP l).length mm (unitsP l).length) ++ rowsT nv (mat (unitsP l).length (upd1 (updC mm m' (idx (unitsP l) l[i].lo) (idx (unitsP l) l[i].up) c) c (idx (unitsP l) l[i].up) (max ((updC mm m' (idx (unitsP l) l[i].lo) (idx (unitsP l) l[i].up) c) c ((idx (unitsP l) l[i].up))) (1))) (unitsP l).length))[(unitsP l).length + c]? = _ from (List.getElem?_append_right (by rw [rowsT_len hov]; omega)).trans (by rw [rowsT_len hov, Nat.add_sub_cancel_left]; exact rowsT_get hnv (by omega) (by omega)))) rfl (by simp; omega) (by simp) rfl rfl rfl) rfl ?_
                  refine Rg.opp (v := ow) rfl rfl rfl rfl rfl ?_
                  refine Rg.opp (v := nat c) rfl rfl rfl rfl rfl ?_
                  refine Rg.opp (v := ptrAt (sAddr ow) (c * 1)) rfl rfl rfl (ev_idxM (k := c) (hM.get_sl (j := 1) rfl) rfl rfl (by omega) rfl rfl rfl (by decide)) rfl ?_
                  refine Rg.opp (v := ov[c]) rfl rfl rfl (ev_ldM (k := c) (hM.get_sl (j := 1) rfl) rfl (by omega) rfl rfl rfl rfl) rfl ?_
                  refine Rg.opp (v := nat (idx (unitsP l) l[i].lo)) rfl rfl rfl rfl rfl ?_
                  refine Rg.opp (v := ptrAt (sAddr (ov[c])) ((idx (unitsP l) l[i].lo) * 1)) rfl rfl rfl (ev_idxM (k := idx (unitsP l) l[i].lo) (hM.get_sl (j := c + 2) (show (rowsT ov (mat (unitsP l).length mm (unitsP l).length) ++ rowsT nv (mat (unitsP l).length (upd1 (updC mm m' (idx (unitsP l) l[i].lo) (idx (unitsP l) l[i].up) c) c (idx (unitsP l) l[i].up) (max ((updC mm m' (idx (unitsP l) l[i].lo) (idx (unitsP l) l[i].up) c) c ((idx (unitsP l) l[i].up))) (1))) (unitsP l).length))[c]? = _ from (List.getElem?_append_left (by rw [rowsT_len hov]; omega)).trans (rowsT_get hov (by omega) (by omega)))) rfl rfl (by simp; omega) rfl rfl rfl (by decide)) rfl ?_
                  refine Rg.opp (v := nat (mm c (idx (unitsP l) l[i].lo))) rfl rfl rfl (ev_ldM (k := (idx (unitsP l) l[i].lo)) (hM.get_sl (j := c + 2) (show (rowsT ov (mat (unitsP l).length mm (unitsP l).length) ++ rowsT nv (mat (unitsP l).length (upd1 (updC mm m' (idx (unitsP l) l[i].lo) (idx (unitsP l) l[i].up) c) c (idx (unitsP l) l[i].up) (max ((updC mm m' (idx (unitsP l) l[i].lo) (idx (unitsP l) l[i].up) c) c ((idx (unitsP l) l[i].up))) (1))) (unitsP l).length))[c]? = _ from (List.getElem?_append_left (by rw [rowsT_len hov]; omega)).trans (rowsT_get hov (by omega) (by omega)))) rfl (by simp; omega) (by simp) rfl rfl rfl) rfl ?_
                  refine Rg.opp (v := nat (mm c (idx (unitsP l) l[i].lo) + 1)) rfl rfl rfl (ev_addN (b := 1) rfl rfl (by have := hm7 (by omega) c (idx (unitsP l) l[i].lo); omega)) rfl ?_
                  refine Rg.opp (v := nat (min (8) (mm c (idx (unitsP l) l[i].lo) + 1))) rfl rfl rfl (ev_minN (a := 8) (b := mm c (idx (unitsP l) l[i].lo) + 1) rfl rfl) rfl ?_
                  refine Rg.opp (v := nat (max ((upd1 (updC mm m' (idx (unitsP l) l[i].lo) (idx (unitsP l) l[i].up) c) c (idx (unitsP l) l[i].up) (max ((updC mm m' (idx (unitsP l) l[i].lo) (idx (unitsP l) l[i].up) c) c ((idx (unitsP l) l[i].up))) (1))) c ((idx (unitsP l) l[i].up))) (min (8) (mm c (idx (unitsP l) l[i].lo) + 1)))) rfl rfl rfl (ev_maxN (a := (upd1 (updC mm m' (idx (unitsP l) l[i].lo) (idx (unitsP l) l[i].up) c) c (idx (unitsP l) l[i].up) (max ((updC mm m' (idx (unitsP l) l[i].lo) (idx (unitsP l) l[i].up) c) c ((idx (unitsP l) l[i].up))) (1))) c ((idx (unitsP l) l[i].up))) (b := min (8) (mm c (idx (unitsP l) l[i].lo) + 1)) rfl rfl) rfl ?_
                  refine Rg.opp (v := ptrAt (sAddr (nv[c])) ((idx (unitsP l) l[i].up) * 1)) rfl rfl rfl (ev_idxM (k := idx (unitsP l) l[i].up) (hM.get_sl (j := (unitsP l).length + c + 2) (show (rowsT ov (mat (unitsP l).length mm (unitsP l).length) ++ rowsT nv (mat (unitsP l).length (upd1 (updC mm m' (idx (unitsP l) l[i].lo) (idx (unitsP l) l[i].up) c) c (idx (unitsP l) l[i].up) (max ((updC mm m' (idx (unitsP l) l[i].lo) (idx (unitsP l) l[i].up) c) c ((idx (unitsP l) l[i].up))) (1))) (unitsP l).length))[(unitsP l).length + c]? = _ from (List.getElem?_append_right (by rw [rowsT_len hov]; omega)).trans (by rw [rowsT_len hov, Nat.add_sub_cancel_left]; exact rowsT_get hnv (by omega) (by omega)))) rfl rfl (by simp; omega) rfl rfl rfl (by decide)) rfl ?_
                  refine Rg.stoM (f := encN) (j := (unitsP l).length + c + 2) (k := idx (unitsP l) l[i].up) (max ((upd1 (updC mm m' (idx (unitsP l) l[i].lo) (idx (unitsP l) l[i].up) c) c (idx (unitsP l) l[i].up) (max ((updC mm m' (idx (unitsP l) l[i].lo) (idx (unitsP l) l[i].up) c) c ((idx (unitsP l) l[i].up))) (1))) c ((idx (unitsP l) l[i].up))) (min (8) (mm c (idx (unitsP l) l[i].lo) + 1))) hM rfl rfl rfl rfl (show (rowsT ov (mat (unitsP l).length mm (unitsP l).length) ++ rowsT nv (mat (unitsP l).length (upd1 (updC mm m' (idx (unitsP l) l[i].lo) (idx (unitsP l) l[i].up) c) c (idx (unitsP l) l[i].up) (max ((updC mm m' (idx (unitsP l) l[i].lo) (idx (unitsP l) l[i].up) c) c ((idx (unitsP l) l[i].up))) (1))) (unitsP l).length))[(unitsP l).length + c]? = _ from (List.getElem?_append_right (by rw [rowsT_len hov]; omega)).trans (by rw [rowsT_len hov, Nat.add_sub_cancel_left]; exact rowsT_get hnv (by omega) (by omega))) rfl rfl (by simp; omega) rfl rfl rfl rfl rfl (fun Hc hM => ?_)
                  replace hM : Mem Hu Hc ((.sl 1 nw0 (List.map encV nv)) :: (.sl 1 ow (List.map encV ov)) :: (rowsT ov (mat (unitsP l).length mm (unitsP l).length) ++ rowsT nv (mat (unitsP l).length (upd1 (upd1 (updC mm m' (idx (unitsP l) l[i].lo) (idx (unitsP l) l[i].up) c) c (idx (unitsP l) l[i].up) (max ((updC mm m' (idx (unitsP l) l[i].lo) (idx (unitsP l) l[i].up) c) c ((idx (unitsP l) l[i].up))) (1))) c (idx (unitsP l) l[i].up) (max ((upd1 (updC mm m' (idx (unitsP l) l[i].lo) (idx (unitsP l) l[i].up) c) c (idx (unitsP l) l[i].up) (max ((updC mm m' (idx (unitsP l) l[i].lo) (idx (unitsP l) l[i].up) c) c ((idx (unitsP l) l[i].up))) (1))) c ((idx (unitsP l) l[i].up))) (min (8) (mm c (idx (unitsP l) l[i].lo) + 1)))) (unitsP l).length))) := by
                    have h0 := hM
                    have e0 : (rowsT ov (mat (unitsP l).length mm (unitsP l).length) ++ rowsT nv (mat (unitsP l).length (upd1 (updC mm m' (idx (unitsP l) l[i].lo) (idx (unitsP l) l[i].up) c) c (idx (unitsP l) l[i].up) (max ((updC mm m' (idx (unitsP l) l[i].lo) (idx (unitsP l) l[i].up) c) c ((idx (unitsP l) l[i].up))) (1))) (unitsP l).length)).set ((unitsP l).length + c) (.sl 1 nv[c] (List.map encN (((List.range (unitsP l).length).map ((upd1 (updC mm m' (idx (unitsP l) l[i].lo) (idx (unitsP l) l[i].up) c) c (idx (unitsP l) l[i].up) (max ((updC mm m' (idx (unitsP l) l[i].lo) (idx (unitsP l) l[i].up) c) c ((idx (unitsP l) l[i].up))) (1))) c)).set (idx (unitsP l) l[i].up) (max ((upd1 (updC mm m' (idx (unitsP l) l[i].lo) (idx (unitsP l) l[i].up) c) c (idx (unitsP l) l[i].up) (max ((updC mm m' (idx (unitsP l) l[i].lo) (idx (unitsP l) l[i].up) c) c ((idx (unitsP l) l[i].up))) (1))) c ((idx (unitsP l) l[i].up))) (min (8) (mm c (idx (unitsP l) l[i].lo) + 1)))))) = rowsT ov (mat (unitsP l).length mm (unitsP l).length) ++ rowsT nv (mat (unitsP l).length (upd1 (upd1 (updC mm m' (idx (unitsP l) l[i].lo) (idx (unitsP l) l[i].up) c) c (idx (unitsP l) l[i].up) (max ((updC mm m' (idx (unitsP l) l[i].lo) (idx (unitsP l) l[i].up) c) c ((idx (unitsP l) l[i].up))) (1))) c (idx (unitsP l) l[i].up) (max ((upd1 (updC mm m' (idx (unitsP l) l[i].lo) (idx (unitsP l) l[i].up) c) c (idx (unitsP l) l[i].up) (max ((updC mm m' (idx (unitsP l) l[i].lo) (idx (unitsP l) l[i].up) c) c ((idx (unitsP l) l[i].up))) (1))) c ((idx (unitsP l) l[i].up))) (min (8) (mm c (idx (unitsP l) l[i].lo) + 1)))) (unitsP l).length) := by
                      rw [List.set_append_right _ _ (by rw [rowsT_len hov]; omega), rowsT_len hov, Nat.add_sub_cancel_left, rowsT_sto hnv (by omega) (by omega)]
                    rw [← e0]; exact h0
                  refine Rg.nil ?_
                  refine Runs.region ?_
                  refine Rg.opp (v := nat c) rfl rfl rfl rfl rfl ?_
                  refine Rg.opp (v := nat (c + 1)) rfl rfl rfl (ev_addN (b := 1) rfl rfl (by omega)) rfl ?_
                  refine Rg.opp (v := nat (c + 1)) rfl rfl rfl rfl rfl ?_
                  refine Rg.nil ?_
                  refine ⟨(unitsP l).length - (c + 1), by omega, c + 1, rfl, by rw [← updC_tt h7 h8]; exact hM, hc8, Is.of ⟨rfl, rfl, rfl, rfl, rfl, rfl, rfl, rfl, rfl, rfl, rfl, rfl, rfl, rfl, rfl, rfl, rfl, rfl, trivial⟩⟩
                · skip
                  refine Rg.opp (v := .bool false) rfl rfl rfl (ev_gtF rfl rfl (h8)) rfl ?_
                  refine Rg.nil ?_
                  refine Runs.cond false rfl (fun h => by cases h) (fun _ => ?_)
                  refine Runs.skip ?_
                  refine Runs.region ?_
                  refine Rg.opp (v := nat c) rfl rfl rfl rfl rfl ?_
                  refine Rg.opp (v := nat (c + 1)) rfl rfl rfl (ev_addN (b := 1) rfl rfl (by omega)) rfl ?_
                  refine Rg.opp (v := nat (c + 1)) rfl rfl rfl rfl rfl ?_
                  refine Rg.nil ?_
                  refine ⟨(unitsP l).length - (c + 1), by omega, c + 1, rfl, by rw [← updC_tf h7 h8]; exact hM, hc8, Is.of ⟨rfl, rfl, rfl, rfl, rfl, rfl, rfl, rfl, rfl, rfl, rfl, rfl, rfl, rfl, rfl, rfl, rfl, rfl, trivial⟩⟩
              · skip
                refine Rg.opp (v := .bool false) rfl rfl rfl (ev_eqF rfl rfl (h7)) rfl ?_
                refine Rg.nil ?_
                refine Runs.cond false rfl (fun h => by cases h) (fun _ => ?_)
                refine Runs.skip ?_
                refine Runs.seq ?_
                refine Runs.region ?_
                refine Rg.opp (v := ow) rfl rfl rfl rfl rfl ?_
                refine Rg.opp (v := nat c) rfl rfl rfl rfl rfl ?_
                refine Rg.opp (v := ptrAt (sAddr ow) (c * 1)) rfl rfl rfl (ev_idxM (k := c) (hM.get_sl (j := 1) rfl) rfl rfl (by omega) rfl rfl rfl (by decide)) rfl ?_
                refine Rg.opp (v := ov[c]) rfl rfl rfl (ev_ldM (k := c) (hM.get_sl (j := 1) rfl) rfl (by omega) rfl rfl rfl rfl) rfl ?_
                refine Rg.opp (v := nat (idx (unitsP l) l[i].lo)) rfl rfl rfl rfl rfl ?_
                refine Rg.opp (v := ptrAt (sAddr (ov[c])) ((idx (unitsP l) l[i].lo) * 1)) rfl rfl rfl (ev_idxM (k := idx (unitsP l) l[i].lo) (hM.get_sl (j := c + 2) (show (rowsT ov (mat (unitsP l).length mm (unitsP l).length) ++ rowsT nv (mat (unitsP l).length (updC mm m' (idx (unitsP l) l[i].lo) (idx (unitsP l) l[i].up) c) (unitsP l).length))[c]? = _ from (List.getElem?_append_left (by rw [rowsT_len hov]; omega)).trans (rowsT_get hov (by omega) (by omega)))) rfl rfl (by simp; omega) rfl rfl rfl (by decide)) rfl ?_
                refine Rg.opp (v := nat (mm c (idx (unitsP l) l[i].lo))) rfl rfl rfl (ev_ldM (k := (idx (unitsP l) l[i].lo)) (hM.get_sl (j := c + 2) (show (rowsT ov (mat (unitsP l).length mm (unitsP l).length) ++ rowsT nv (mat (unitsP l).length (updC mm m' (idx (unitsP l) l[i].lo) (idx (unitsP l) l[i].up) c) (unitsP l).length))[c]? = _ from (List.getElem?_append_left (by rw [rowsT_len hov]; omega)).trans (rowsT_get hov (by omega) (by omega)))) rfl (by simp; omega) (by simp) rfl rfl rfl) rfl ?_
                by_cases h9 : 0 < mm c (idx (unitsP l) l[i].lo)
                · skip
                  refine Rg.opp (v := .bool true) rfl rfl rfl (ev_gtT rfl rfl (h9)) rfl ?_
                  refine Rg.nil ?_
                  refine Runs.cond true rfl (fun _ => ?_) (fun h => by cases h)
                  refine Runs.drawn (is := [0, 1, 2, 3, 4, 5, 6, 7, 8, 9, 10, 11, 12, 13, 14, 15, 16, 17, 18, 19, 20, 21, 22, 23]) (by decide +kernel) ?_
                  refine Rg.opp (v := nw0) rfl rfl rfl rfl rfl ?_
                  refine Rg.opp (v := nat c) rfl rfl rfl rfl rfl ?_
                  refine Rg.opp (v := ptrAt (sAddr nw0) (c * 1)) rfl rfl rfl (ev_idxM (k := c) (hM.get_sl (j := 0) rfl) rfl rfl (by omega) rfl rfl rfl (by decide)) rfl ?_
                  refine Rg.opp (v := nv[c]) rfl rfl rfl (ev_ldM (k := c) (hM.get_sl (j := 0) rfl) rfl (by omega) rfl rfl rfl rfl) rfl ?_
                  refine Rg.opp (v := nat (idx (unitsP l) l[i].up)) rfl rfl rfl rfl rfl ?_
                  refine Rg.opp (v := nw0) rfl rfl rfl rfl rfl ?_
                  refine Rg.opp (v := nat c) rfl rfl rfl rfl rfl ?_
                  refine Rg.opp (v := ptrAt (sAddr nw0) (c * 1)) rfl rfl rfl (ev_idxM (k := c) (hM.get_sl (j := 0) rfl) rfl rfl (by omega) rfl rfl rfl (by decide)) rfl ?_
                  refine Rg.opp (v := nv[c]) rfl rfl rfl (ev_ldM (k := c) (hM.get_sl (j := 0) rfl) rfl (by omega) rfl rfl rfl rfl) rfl ?_
                  refine Rg.opp (v := nat (idx (unitsP l) l[i].up)) rfl rfl rfl rfl rfl ?_
                  refine Rg.opp (v := ptrAt (sAddr (nv[c])) ((idx (unitsP l) l[i].up) * 1)) rfl rfl rfl (ev_idxM (k := idx (unitsP l) l[i].up) (hM.get_sl (j := (unitsP l).length + c + 2) (show (rowsT ov (mat (unitsP l).length mm (unitsP l).length) ++ rowsT nv (mat (unitsP l).length (updC mm m' (idx (unitsP l) l[i].lo) (idx (unitsP l) l[i].up) c) (unitsP l).length))[(unitsP l).length + c]? = _ from (List.getElem?_append_right (by rw [rowsT_len hov]; omega)).trans (by rw [rowsT_len hov, Nat.add_sub_cancel_left]; exact rowsT_get hnv (by omega) (by omega)))) rfl rfl (by simp; omega) rfl rfl rfl (by decide)) rfl ?_
                  refine Rg.opp (v := nat ((updC mm m' (idx (unitsP l) l[i].lo) (idx (unitsP l) l[i].up) c) c ((idx (unitsP l) l[i].up)))) rfl rfl rfl (ev_ldM (k := (idx (unitsP l) l[i].up)) (hM.get_sl (j := (unitsP l).length + c + 2) (show (rowsT ov (mat (unitsP l).length mm (unitsP l).length) ++ rowsT nv (mat (unitsP l).length (updC mm m' (idx (unitsP l) l[i].lo) (idx (unitsP l) l[i].up) c) (unitsP l).length))[(unitsP l).length + c]? = _ from (List.getElem?_append_right (by rw [rowsT_len hov]; omega)).trans (by rw [rowsT_len hov, Nat.add_sub_cancel_left]; exact rowsT_get hnv (by omega) (by omega)))) rfl (by simp; omega) (by simp) rfl rfl rfl) rfl ?_
                  refine Rg.opp (v := ow) rfl rfl rfl rfl rfl ?_
                  refine Rg.opp (v := nat c) rfl rfl rfl rfl rfl ?_
                  refine Rg.opp (v := ptrAt (sAddr ow) (c * 1)) rfl rfl rfl (ev_idxM (k := c) (hM.get_sl (j := 1) rfl) rfl rfl (by omega) rfl rfl rfl (by decide)) rfl ?_
                  refine Rg.opp (v := ov[c]) rfl rfl rfl (ev_ldM (k := c) (hM.get_sl (j := 1) rfl) rfl (by omega) rfl rfl rfl rfl) rfl ?_
                  refine Rg.opp (v := nat (idx (unitsP l) l[i].lo)) rfl rfl rfl rfl rfl ?_
                  refine Rg.opp (v := ptrAt (sAddr (ov[c])) ((idx (unitsP l) l[i].lo) * 1)) rfl rfl rfl (ev_idxM (k := idx (unitsP l) l[i].lo) (hM.get_sl (j := c + 2) (show (rowsT ov (mat (unitsP l).length mm (unitsP l).length) ++ rowsT nv (mat (unitsP l).length (updC mm m' (idx (unitsP l) l[i].lo) (idx (unitsP l) l[i].up) c) (unitsP l).length))[c]? = _ from (List.getElem?_append_left (by rw [rowsT_len hov]; omega)).trans (rowsT_get hov (by omega) (by omega)))) rfl rfl (by simp; omega) rfl rfl rfl (by decide)) rfl ?_
                  refine Rg.opp (v := nat (mm c (idx (unitsP l) l[i].lo))) rfl rfl rfl (ev_ldM (k := (idx (unitsP l) l[i].lo)) (hM.get_sl (j := c + 2) (show (rowsT ov (mat (unitsP l).length mm (unitsP l).length) ++ rowsT nv (mat (unitsP l).length (updC mm m' (idx (unitsP l) l[i].lo) (idx (unitsP l) l[i].up) c) (unitsP l).length))[c]? = _ from (List.getElem?_append_left (by rw [rowsT_len hov]; omega)).trans (rowsT_get hov (by omega) (by omega)))) rfl (by simp; omega) (by simp) rfl rfl rfl) rfl ?_
                  refine Rg.opp (v := nat (mm c (idx (unitsP l) l[i].lo) + 1)) rfl rfl rfl (ev_addN (b := 1) rfl rfl (by have := hm7 (by omega) c (idx (unitsP l) l[i].lo); omega)) rfl ?_
                  refine Rg.opp (v := nat (min (8) (mm c (idx (unitsP l) l[i].lo) + 1))) rfl rfl rfl (ev_minN (a := 8) (b := mm c (idx (unitsP l) l[i].lo) + 1) rfl rfl) rfl ?_
                  refine Rg.opp (v := nat (max ((updC mm m' (idx (unitsP l) l[i].lo) (idx (unitsP l) l[i].up) c) c ((idx (unitsP l) l[i].up))) (min (8) (mm c (idx (unitsP l) l[i].lo) + 1)))) rfl rfl rfl (ev_maxN (a := (updC mm m' (idx (unitsP l) l[i].lo) (idx (unitsP l) l[i].up) c) c ((idx (unitsP l) l[i].up))) (b := min (8) (mm c (idx (unitsP l) l[i].lo) + 1)) rfl rfl) rfl ?_
                  refine Rg.opp (v := ptrAt (sAddr (nv[c])) ((idx (unitsP l) l[i].up) * 1)) rfl rfl rfl (ev_idxM (k := idx (unitsP l) l[i].up) (hM.get_sl (j := (unitsP l).length + c + 2) (show (rowsT ov (mat (unitsP l).length mm (unitsP l).length) ++ rowsT nv (mat (unitsP l).length (updC mm m' (idx (unitsP l) l[i].lo) (idx (unitsP l) l[i].up) c) (unitsP l).length))[(unitsP l).length + c]? = _ from (List.getElem?_append_right (by rw [rowsT_len hov]; omega)).trans (by rw [rowsT_len hov, Nat.add_sub_cancel_left]; exact rowsT_get hnv (by omega) (by omega)))) rfl rfl (by simp; omega) rfl rfl rfl (by decide)) rfl ?_
                  refine Rg.stoM (f := encN) (j := (unitsP l).length + c + 2) (k := idx (unitsP l) l[i].up) (max ((updC mm m' (idx (unitsP l) l[i].lo) (idx (unitsP l) l[i].up) c) c ((idx (unitsP l) l[i].up))) (min (8) (mm c (idx (unitsP l) l[i].lo) + 1))) hM rfl rfl rfl rfl (show (rowsT ov (mat (unitsP l).length mm (unitsP l).length) ++ rowsT nv (mat (unitsP l).length (updC mm m' (idx (unitsP l) l[i].lo) (idx (unitsP l) l[i].up) c) (unitsP l).length))[(unitsP l).length + c]? = _ from (List.getElem?_append_right (by rw [rowsT_len hov]; omega)).trans (by rw [rowsT_len hov, Nat.add_sub_cancel_left]; exact rowsT_get hnv (by omega) (by omega))) rfl rfl (by simp; omega) rfl rfl rfl rfl rfl (fun Hc hM => ?_)
                  replace hM : Mem Hu Hc ((.sl 1 nw0 (List.map encV nv)) :: (.sl 1 ow (List.map encV ov)) :: (rowsT ov (mat (unitsP l).length mm (unitsP l).length) ++ rowsT nv (mat (unitsP l).length (upd1 (updC mm m' (idx (unitsP l) l[i].lo) (idx (unitsP l) l[i].up) c) c (idx (unitsP l) l[i].up) (max ((updC mm m' (idx (unitsP l) l[i].lo) (idx (unitsP l) l[i].up) c) c ((idx (unitsP l) l[i].up))) (min (8) (mm c (idx (unitsP l) l[i].lo) + 1)))) (unitsP l).length))) := by
                    have h0 := hM
                    have e0 : (rowsT ov (mat (unitsP l).length mm (unitsP l).length) ++ rowsT nv (mat (unitsP l).length (updC mm m' (idx (unitsP l) l[i].lo) (idx (unitsP l) l[i].up) c) (unitsP l).length)).set ((unitsP l).length + c) (.sl 1 nv[c] (List.map encN (((List.range (unitsP l).length).map ((updC mm m' (idx (unitsP l) l[i].lo) (idx (unitsP l) l[i].up) c) c)).set (idx (unitsP l) l[i].up) (max ((updC mm m' (idx (unitsP l) l[i].lo) (idx (unitsP l) l[i].up) c) c ((idx (unitsP l) l[i].up))) (min (8) (mm c (idx (unitsP l) l[i].lo) + 1)))))) = rowsT ov (mat (unitsP l).length mm (unitsP l).length) ++ rowsT nv (mat (unitsP l).length (upd1 (updC mm m' (idx (unitsP l) l[i].lo) (idx (unitsP l) l[i].up) c) c (idx (unitsP l) l[i].up) (max ((updC mm m' (idx (unitsP l) l[i].lo) (idx (unitsP l) l[i].up) c) c ((idx (unitsP l) l[i].up))) (min (8) (mm c (idx (unitsP l) l[i].lo) + 1)))) (unitsP l).length) := by
                      rw [List.set_append_right _ _ (by rw [rowsT_len hov]; omega), rowsT_len hov, Nat.add_sub_cancel_left, rowsT_sto hnv (by omega) (by omega)]
                    rw [← e0]; exact h0
                  refine Rg.nil ?_
                  refine Runs.region ?_
                  refine Rg.opp (v := nat c) rfl rfl rfl rfl rfl ?_
                  refine Rg.opp (v := nat (c + 1)) rfl rfl rfl (ev_addN (b := 1) rfl rfl (by omega)) rfl ?_
                  refine Rg.opp (v := nat (c + 1)) rfl rfl rfl rfl rfl ?_
                  refine Rg.nil ?_
                  refine ⟨(unitsP l).length - (c + 1), by omega, c + 1, rfl, by rw [← updC_ft h7 h9]; exact hM, hc8, Is.of ⟨rfl, rfl, rfl, rfl, rfl, rfl, rfl, rfl, rfl, rfl, rfl, rfl, rfl, rfl, rfl, rfl, rfl, rfl, trivial⟩⟩
                · skip
                  refine Rg.opp (v := .bool false) rfl rfl rfl (ev_gtF rfl rfl (h9)) rfl ?_
                  refine Rg.nil ?_
                  refine Runs.cond false rfl (fun h => by cases h) (fun _ => ?_)
                  refine Runs.skip ?_
                  refine Runs.region ?_
                  refine Rg.opp (v := nat c) rfl rfl rfl rfl rfl ?_
                  refine Rg.opp (v := nat (c + 1)) rfl rfl rfl (ev_addN (b := 1) rfl rfl (by omega)) rfl ?_
                  refine Rg.opp (v := nat (c + 1)) rfl rfl rfl rfl rfl ?_
                  refine Rg.nil ?_
                  refine ⟨(unitsP l).length - (c + 1), by omega, c + 1, rfl, by rw [← updC_ff h7 h9]; exact hM, hc8, Is.of ⟨rfl, rfl, rfl, rfl, rfl, rfl, rfl, rfl, rfl, rfl, rfl, rfl, rfl, rfl, rfl, rfl, rfl, rfl, trivial⟩⟩
            · skip
              have hc : c = (unitsP l).length := by omega
              subst hc
              refine Rg.opp (v := .bool false) rfl rfl rfl (ev_ltF rfl rfl (hc8)) rfl ?_
              refine Rg.nil ?_
              refine Runs.cond false rfl (fun h => by cases h) (fun _ => ?_)
              refine Runs.exit ?_
              refine Runs.region ?_
              refine Rg.opp (v := nat i) rfl rfl rfl rfl rfl ?_
              refine Rg.opp (v := nat (i + 1)) rfl rfl rfl (ev_addN (b := 1) rfl rfl (by omega)) rfl ?_
              refine Rg.opp (v := nat (i + 1)) rfl rfl rfl rfl rfl ?_
              refine Rg.nil ?_
              refine ⟨l.length - (i + 1), by omega, i + 1, updC mm m' (idx (unitsP l) l[i].lo) (idx (unitsP l) l[i].up) ((unitsP l).length), rfl, hM, hlt, by rw [arcsUp_succ hlt, if_neg hkd]; simp only [prs, List.map_append, List.map_cons, List.map_nil]; exact hP.arc (hm7 (by omega)) hm0 (by omega), Is.of ⟨rfl, rfl, rfl, rfl, rfl, rfl, rfl, rfl, rfl, rfl, rfl, rfl, trivial⟩⟩
        · skip
          have hi2 : i = l.length := by omega
          subst hi2
          refine Rg.opp (v := .bool false) rfl rfl rfl (ev_ltF rfl rfl (hlt)) rfl ?_
          refine Rg.nil ?_
          refine Runs.cond false rfl (fun h => by cases h) (fun _ => ?_)
          refine Runs.exit ?_
          refine Runs.region ?_
          refine Rg.opp (v := nw0) rfl rfl rfl rfl rfl ?_
          refine Rg.opp (v := nw0) rfl rfl rfl rfl rfl ?_
          refine Rg.nil ?_
          refine Runs.region ?_
          refine Rg.opp (v := nat (kk + 1)) rfl rfl rfl rfl rfl ?_
          refine Rg.opp (v := nat (kk + 1 + 1)) rfl rfl rfl (ev_addN (b := 1) rfl rfl (by omega)) rfl ?_
          refine Rg.opp (v := nat (kk + 1 + 1)) rfl rfl rfl rfl rfl ?_
          refine Rg.nil ?_
          refine ⟨8 - (kk + 1), by omega, kk + 1, nw0, nv, m', rfl, by have h := Mem.mid (A := [.sl 1 nw0 (nv.map encV)]) (L := .sl 1 ow (ov.map encV) :: rowsT ov (mat (unitsP l).length mm (unitsP l).length)) (B := rowsT nv (mat (unitsP l).length m' (unitsP l).length)) hM; exact h, by omega, hnv, hP.far hF, Is.of ⟨rfl, rfl, rfl, rfl, rfl, rfl, rfl, rfl, trivial⟩⟩
    · skip
      refine Rg.opp (v := .bool false) rfl rfl rfl (ev_leF rfl rfl (h8)) rfl ?_
      refine Rg.nil ?_
      refine Runs.cond false rfl (fun h => by cases h) (fun _ => ?_)
      refine Runs.exit ?_
      refine Runs.seq ?_
      refine Runs.region ?_
      refine Rg.opp (v := ow) rfl rfl rfl rfl rfl ?_
      refine Rg.opp (v := ow) rfl rfl rfl rfl rfl ?_
      refine Rg.nil ?_
      refine Runs.ret ?_
      refine ⟨ow, rfl, ?_⟩
      have hkk : kk = 8 := by omega
      subst hkk
      refine ⟨heu.trans hM.ext, ov, mm, hM.get_sl (j := 0) rfl, hov, fun c hc => hM.get_sl (j := c + 1) (show (rowsT ov (mat (unitsP l).length mm (unitsP l).length))[c]? = _ from rowsT_get hov (by omega) (by omega)), hF⟩

end Go.Proofs.Ytdhbclplondmjaa.C

end

section
/- Described relations: what holds of them; the law on Older, plain. -/
set_option linter.unusedVariables false
set_option linter.unusedSimpArgs false
namespace Go.Proofs.Ytdhbclplondmjaa.C
open Go.RowKit Go.Sort

theorem nodup_sub {α : Type} [DecidableEq α] : ∀ (ys zs : List α), ys.Nodup → (∀ y ∈ ys, y ∈ zs) → ys.length ≤ zs.length
  | [], _, _, _ => Nat.zero_le _
  | y :: ys, zs, hd, hs => by
    rw [List.nodup_cons] at hd
    have hy := hs y List.mem_cons_self
    have := nodup_sub ys (zs.erase y) hd.2 fun z hz => by
      have hne : z ≠ y := fun e => hd.1 (e ▸ hz)
      exact (List.mem_erase_of_ne hne).2 (hs z (List.mem_cons_of_mem _ hz))
    rw [List.length_erase_of_mem hy] at this
    have := List.length_pos_of_mem hy
    simp only [List.length_cons]; omega

/-- Relations as they are described. -/
structure Seenly (l : List Rel) : Prop where
  len : l.length ≤ 8
  good : ∀ r ∈ l, Good r
  six : ∀ r ∈ l, ∃ i j, i < 6 ∧ j < 6 ∧ r.up = nm i ∧ r.lo = nm j
  ne : ∀ r ∈ l, r.up ≠ r.lo

theorem seenly (xs : List Seen) (h : xs.length ≤ 8) : Seenly (xs.map mk) := by
  refine ⟨by simpa using h, fun r hr => ?_, fun r hr => ?_, fun r hr => ?_⟩
  · obtain ⟨s, _, rfl⟩ := List.mem_map.1 hr
    exact fun K => check_good s K
  · obtain ⟨s, _, rfl⟩ := List.mem_map.1 hr
    exact ⟨mkA s, mkB s, (mk_le s).1, (mk_le s).2, rfl, rfl⟩
  · obtain ⟨s, _, rfl⟩ := List.mem_map.1 hr
    exact mk_ne s

theorem Seenly.units {l : List Rel} (h : Seenly l) : (unitsP l).length ≤ 6 := by
  have := nodup_sub (unitsP l) ((List.range 6).map nm) (strict_nodup (unitsP_strict l)) fun y hy => by
    obtain ⟨r, hr, hy⟩ := List.mem_flatMap.1 (mem_unitsP.1 hy)
    obtain ⟨i, j, hi, hj, e1, e2⟩ := h.six r hr
    rcases List.mem_cons.1 hy with e | e
    · exact List.mem_map.2 ⟨i, List.mem_range.2 hi, by rw [e, e1]⟩
    · exact List.mem_map.2 ⟨j, List.mem_range.2 hj, by rw [List.mem_singleton.1 e, e2]⟩
  simpa using this

theorem fits_T {H : Heap} {v : Value} {xs : List Seen} (h : Sl H 3 v (seens xs)) (hx : xs.length ≤ 8) : big tab 10 [v] H = some (.bool true, H) := by
  obtain ⟨a, c, rfl, _⟩ := h
  have := fits_runs (H := H) a (seens xs).length c
  rwa [decide_eq_true (by rw [seens_len]; omega)] at this
theorem fits_F {H : Heap} {v : Value} {xs : List Seen} (h : Sl H 3 v (seens xs)) (hx : ¬ xs.length ≤ 8) : big tab 10 [v] H = some (.bool false, H) := by
  obtain ⟨a, c, rfl, _⟩ := h
  have := fits_runs (H := H) a (seens xs).length c
  rwa [decide_eq_false (by rw [seens_len]; omega)] at this
theorem index_not {H : Heap} {v : Value} {xs : List Nm} {x : Nm} (h : Sl H 1 v (xs.map encS)) (hx : x ∉ xs) (hl : xs.length < 2 ^ 40) : big tab 22 [v, str x] H = some (.int .i64 (-1), H) := by
  have h1 := index_runs x (xs := xs) h hl
  have h2 : indexOf xs x = -1 := indexOf_none fun i hi e => hx (by rw [← e]; exact List.getElem_mem hi)
  rw [h2] at h1
  exact h1

/-- The law's relations. -/
theorem makeS_runs {H : Heap} {v : Value} {xs : List Seen} (h : Sl H 3 v (seens xs)) (hsm : ∀ s ∈ xs, s.k < 256 ∧ s.u < 256 ∧ s.l < 256) (hx : xs.length ≤ 8) :
    ∃ r H1, big tab 11 [v] H = some (r, H1) ∧ Ext H H1 ∧ Sl H1 3 r (List.map relC (xs.map mk)) := by
  obtain ⟨r, H1, h1, he, p, ha⟩ := make_runs h hsm (by omega)
  rw [List.take_of_length_le (by omega)] at ha
  exact ⟨r, H1, h1, he, ha.sl (by rw [rels_len, List.length_map]; unfold unk; omega)⟩
theorem unitsS_runs {H : Heap} {v : Value} {l : List Rel} (h : Sl H 3 v (rels l)) (hl : l.length < 2 ^ 16) :
    ∃ r H1, big tab 20 [v] H = some (r, H1) ∧ Ext H H1 ∧ Sl H1 1 r (List.map encS (unitsP l)) := by
  obtain ⟨r, H1, h1, he, p, ha⟩ := lawUnits_runs h (by omega)
  rw [← units_eq] at ha
  refine ⟨r, H1, h1, he, ha.sl ?_⟩
  have : (unitsL l).length ≤ 0 + (allNames l).length := foldl_len _ _
  rw [allNames_len] at this
  rw [strs_len, units_eq]
  unfold unk; omega

theorem rch_far {arcs : List Arc} {n a b x : Nat} (wf : WF n arcs) (hn : n ≤ 8) (h : Far (prs arcs) 8 a b x) : 0 < x ↔ Rch arcs a b := by
  rw [h.pos]
  constructor
  · rintro ⟨k, h1, h2, h3⟩; exact ⟨k, h1, h3⟩
  · rintro ⟨k, h1, h2⟩
    obtain ⟨m, g1, g2, g3⟩ := W.short (N := n) (fun p hp => by obtain ⟨c, hc, rfl⟩ := List.mem_map.1 hp; exact wf.up c hc) k h1 h2
    exact ⟨m, g1, by omega, g3⟩

end Go.Proofs.Ytdhbclplondmjaa.C

end

section
/- The law on succession.Older, run: it answers true. -/
set_option linter.unusedVariables false
set_option linter.unusedSimpArgs false
set_option maxRecDepth 100000
set_option maxHeartbeats 4000000
namespace Go.Proofs.Ytdhbclplondmjaa.C
open Go.RowKit Go.Sort

theorem lawOlder_runs {H : Heap} {v : Value} {xs : List Seen} {a b : Nm} (hs : Sl H 3 v (seens xs)) (hsm : ∀ s ∈ xs, s.k < 256 ∧ s.u < 256 ∧ s.l < 256) :
    ∃ r H1, big tab 6 [v, str a, str b] H = some (r, H1) ∧ r = .bool true := by
  refine big_of_runs rfl rfl rfl ?_
  obtain ⟨z, hz⟩ := startC_mkS Try.f6 [v, str a, str b]
  rw [show startC (6, Try.f6).snd [v, str a, str b] = _ from hz]
  clear hz
  refine Runs.cut (n := 75) (l := [(0, v), (1, str a), (2, str b)]) (Is.of ⟨rfl, rfl, rfl, rfl, rfl, rfl, trivial⟩) (fun a0 => ?_)
  refine Runs.seq ?_
  refine Runs.region ?_
  refine Rg.opp (v := .bool false) rfl rfl rfl rfl rfl ?_
  refine Rg.nil ?_
  refine Runs.seq ?_
  refine Runs.seq ?_
  refine Runs.region ?_
  refine Rg.calls (v := .bool true) rfl rfl rfl rfl (rfl) rfl (known_is _) ?_
  refine Rg.opp (v := .bool false) rfl rfl rfl rfl rfl ?_
  refine Rg.opp (v := .bool false) rfl rfl rfl rfl rfl ?_
  refine Rg.guards true rfl rfl rfl (fun _ => ⟨v, _, evW_op (rfl), rfl, ?_⟩) (fun h => by cases h)
  by_cases hx8 : xs.length ≤ 8
  · skip
    refine Rg.guards true rfl rfl rfl (fun _ => ⟨.bool true, _, evW_call rfl (rfl) (fits_T hs hx8), rfl, ?_⟩) (fun h => by cases h)
    refine Rg.guards true rfl rfl rfl (fun _ => ⟨.bool false, _, evW_op (rfl), rfl, ?_⟩) (fun h => by cases h)
    refine Rg.opp (v := .bool false) rfl rfl rfl rfl rfl ?_
    refine Rg.opp (v := .bool false) rfl rfl rfl rfl rfl ?_
    refine Rg.guards true rfl rfl rfl (fun _ => ⟨str a, _, evW_op (rfl), rfl, ?_⟩) (fun h => by cases h)
    refine Rg.guards true rfl rfl rfl (fun _ => ⟨nat a.length, _, evW_op (rfl), rfl, ?_⟩) (fun h => by cases h)
    by_cases h1 : 36 < a.length
    · skip
      refine Rg.guards true rfl rfl rfl (fun _ => ⟨.bool true, _, evW_op (ev_gtT rfl rfl (h1)), rfl, ?_⟩) (fun h => by cases h)
      refine Rg.opp (v := .bool true) rfl rfl rfl rfl rfl ?_
      refine Rg.opp (v := .bool true) rfl rfl rfl rfl rfl ?_
      refine Rg.guards false rfl rfl rfl (fun h => by cases h) (fun _ => ?_)
      refine Rg.guards false rfl rfl rfl (fun h => by cases h) (fun _ => ?_)
      refine Rg.guards false rfl rfl rfl (fun h => by cases h) (fun _ => ?_)
      refine Rg.opp (v := .bool true) rfl rfl rfl rfl rfl ?_
      refine Rg.nil ?_
      refine Runs.cond true rfl (fun _ => ?_) (fun h => by cases h)
      refine Runs.seq ?_
      refine Runs.region ?_
      refine Rg.calls (v := .bool true) rfl rfl rfl rfl (rfl) rfl (known_is _) ?_
      refine Rg.opp (v := .bool true) rfl rfl rfl rfl rfl ?_
      refine Rg.nil ?_
      refine Runs.ret ?_
      refine ⟨.bool true, rfl, ?_⟩
      rfl
    · skip
      refine Rg.guards true rfl rfl rfl (fun _ => ⟨.bool false, _, evW_op (ev_gtF rfl rfl (h1)), rfl, ?_⟩) (fun h => by cases h)
      refine Rg.opp (v := .bool false) rfl rfl rfl rfl rfl ?_
      refine Rg.opp (v := .bool false) rfl rfl rfl rfl rfl ?_
      refine Rg.guards true rfl rfl rfl (fun _ => ⟨str b, _, evW_op (rfl), rfl, ?_⟩) (fun h => by cases h)
      refine Rg.guards true rfl rfl rfl (fun _ => ⟨nat b.length, _, evW_op (rfl), rfl, ?_⟩) (fun h => by cases h)
      by_cases h2 : 36 < b.length
      · skip
        refine Rg.guards true rfl rfl rfl (fun _ => ⟨.bool true, _, evW_op (ev_gtT rfl rfl (h2)), rfl, ?_⟩) (fun h => by cases h)
        refine Rg.opp (v := .bool true) rfl rfl rfl rfl rfl ?_
        refine Rg.nil ?_
        refine Runs.cond true rfl (fun _ => ?_) (fun h => by cases h)
        refine Runs.seq ?_
        refine Runs.region ?_
        refine Rg.calls (v := .bool true) rfl rfl rfl rfl (rfl) rfl (known_is _) ?_
        refine Rg.opp (v := .bool true) rfl rfl rfl rfl rfl ?_
        refine Rg.nil ?_
        refine Runs.ret ?_
        refine ⟨.bool true, rfl, ?_⟩
        rfl
      · skip
        refine Rg.guards true rfl rfl rfl (fun _ => ⟨.bool false, _, evW_op (ev_gtF rfl rfl (h2)), rfl, ?_⟩) (fun h => by cases h)
        refine Rg.opp (v := .bool false) rfl rfl rfl rfl rfl ?_
        refine Rg.nil ?_
        refine Runs.cond false rfl (fun h => by cases h) (fun _ => ?_)
        refine Runs.skip ?_
        refine Runs.seq ?_
        refine Runs.region ?_
        refine Rg.opp (v := v) rfl rfl rfl rfl rfl ?_
        refine Rg.callW rfl rfl rfl rfl (rfl) rfl (makeS_runs hs hsm hx8) (fun lv Hm hP => ?_)
        obtain ⟨hem, hl⟩ := hP
        have sly := seenly xs hx8
        generalize List.map mk xs = l at hl sly
        have hll := sly.len
        have hu6 := sly.units
        have hM := Mem.start Hm
        refine Rg.opp (v := lv) rfl rfl rfl rfl rfl ?_
        refine Rg.nil ?_
        refine Runs.seq ?_
        refine Runs.region ?_
        refine Rg.opp (v := lv) rfl rfl rfl rfl rfl ?_
        refine Rg.callW rfl rfl rfl rfl (rfl) rfl (unitsS_runs (hl.sees hM.ext.sees) (by omega)) (fun uv Hu hP => ?_)
        obtain ⟨heu, hus⟩ := hP
        have hM := Mem.start Hu
        refine Rg.opp (v := uv) rfl rfl rfl rfl rfl ?_
        refine Rg.nil ?_
        refine Runs.seq ?_
        refine Runs.region ?_
        refine Rg.opp (v := lv) rfl rfl rfl rfl rfl ?_
        by_cases hina : a ∈ unitsP l
        · skip
          refine Rg.opp (v := str a) rfl rfl rfl rfl rfl ?_
          by_cases hinb : b ∈ unitsP l
          · skip
            refine Rg.opp (v := str b) rfl rfl rfl rfl rfl ?_
            refine Rg.callW rfl rfl rfl rfl (rfl) rfl (older_runs (hl.sees (heu.trans hM.ext).sees) (by omega) sly.good (by omega)) (fun ro Ho hP => ?_)
            obtain ⟨hro, heo⟩ := hP
            rw [show olderP l a b = (rchB (arcsOf l) (idx (unitsP l) a) (idx (unitsP l) b), 0) by simp [olderP, hina, hinb]] at hro
            subst hro
            have hM := Mem.start Ho
            refine Rg.opp (v := .tuple #[.bool (rchB (arcsOf l) (idx (unitsP l) a) (idx (unitsP l) b)), nat 0]) rfl rfl rfl rfl rfl ?_
            refine Rg.opp (v := .bool (rchB (arcsOf l) (idx (unitsP l) a) (idx (unitsP l) b))) rfl rfl rfl rfl rfl ?_
            refine Rg.opp (v := nat 0) rfl rfl rfl rfl rfl ?_
            refine Rg.opp (v := .bool (rchB (arcsOf l) (idx (unitsP l) a) (idx (unitsP l) b))) rfl rfl rfl rfl rfl ?_
            refine Rg.opp (v := nat 0) rfl rfl rfl rfl rfl ?_
            refine Rg.nil ?_
            refine Runs.seq ?_
            refine Runs.region ?_
            refine Rg.opp (v := uv) rfl rfl rfl rfl rfl ?_
            refine Rg.opp (v := str a) rfl rfl rfl rfl rfl ?_
            refine Rg.calls (v := nat (idx (unitsP l) a)) rfl rfl rfl rfl (rfl) rfl (index_mem (hus.sees (heo.trans hM.ext).sees) hina (by omega)) ?_
            refine Rg.opp (v := uv) rfl rfl rfl rfl rfl ?_
            refine Rg.opp (v := str b) rfl rfl rfl rfl rfl ?_
            refine Rg.calls (v := nat (idx (unitsP l) b)) rfl rfl rfl rfl (rfl) rfl (index_mem (hus.sees (heo.trans hM.ext).sees) hinb (by omega)) ?_
            refine Rg.opp (v := nat (idx (unitsP l) a)) rfl rfl rfl rfl rfl ?_
            refine Rg.opp (v := nat (idx (unitsP l) b)) rfl rfl rfl rfl rfl ?_
            refine Rg.nil ?_
            refine Runs.seq ?_
            refine Runs.seq ?_
            refine Runs.region ?_
            refine Rg.opp (v := nat (idx (unitsP l) a)) rfl rfl rfl rfl rfl ?_
            refine Rg.opp (v := .bool false) rfl rfl rfl (ev_ltF (a := idx (unitsP l) a) (b := 0) rfl rfl (by omega)) rfl ?_
            refine Rg.opp (v := .bool false) rfl rfl rfl rfl rfl ?_
            refine Rg.guards true rfl rfl rfl (fun _ => ⟨nat (idx (unitsP l) b), _, evW_op (rfl), rfl, ?_⟩) (fun h => by cases h)
            refine Rg.guards true rfl rfl rfl (fun _ => ⟨.bool false, _, evW_op (ev_ltF (a := idx (unitsP l) b) (b := 0) rfl rfl (by omega)), rfl, ?_⟩) (fun h => by cases h)
            refine Rg.opp (v := .bool false) rfl rfl rfl rfl rfl ?_
            refine Rg.nil ?_
            refine Runs.cond false rfl (fun h => by cases h) (fun _ => ?_)
            refine Runs.skip ?_
            refine Runs.seq ?_
            refine Runs.region ?_
            refine Rg.opp (v := nat 0) rfl rfl rfl rfl rfl ?_
            refine Rg.opp (v := .bool true) rfl rfl rfl (ev_eqT rfl rfl (by decide)) rfl ?_
            refine Rg.opp (v := .bool true) rfl rfl rfl rfl rfl ?_
            refine Rg.guards true rfl rfl rfl (fun _ => ⟨.bool (rchB (arcsOf l) (idx (unitsP l) a) (idx (unitsP l) b)), _, evW_op (rfl), rfl, ?_⟩) (fun h => by cases h)
            refine Rg.guards true rfl rfl rfl (fun _ => ⟨lv, _, evW_op (rfl), rfl, ?_⟩) (fun h => by cases h)
            obtain ⟨rr, Hc', hcall, hP⟩ := reach_runs (hl.sees (heu.trans (heo.trans hM.ext)).sees) (by omega) (by omega)
            refine Rg.guards true rfl rfl rfl (fun _ => ⟨_, _, evW_call rfl (rfl) hcall, rfl, ?_⟩) (fun h => by cases h)
            obtain ⟨her, ov, mm, hrow, hov, hrows, hF⟩ := hP
            have hM := Mem.start Hc'
            refine Rg.guards true rfl rfl rfl (fun _ => ⟨nat (idx (unitsP l) a), _, evW_op (rfl), rfl, ?_⟩) (fun h => by cases h)
            refine Rg.guards true rfl rfl rfl (fun _ => ⟨ptrAt (sAddr rr) ((idx (unitsP l) a) * 1), _, evW_op (ev_idxM (k := idx (unitsP l) a) (hrow.sees hM.ext.sees) rfl rfl (by rw [hov]; exact idx_lt hina) rfl rfl rfl (by decide)), rfl, ?_⟩) (fun h => by cases h)
            refine Rg.guards true rfl rfl rfl (fun _ => ⟨(ov[idx (unitsP l) a]'(by rw [hov]; exact idx_lt hina)), _, evW_op (ev_ldM (k := (idx (unitsP l) a)) (hrow.sees hM.ext.sees) rfl (by rw [hov]; exact idx_lt hina) rfl rfl rfl rfl), rfl, ?_⟩) (fun h => by cases h)
            refine Rg.guards true rfl rfl rfl (fun _ => ⟨nat (idx (unitsP l) b), _, evW_op (rfl), rfl, ?_⟩) (fun h => by cases h)
            refine Rg.guards true rfl rfl rfl (fun _ => ⟨ptrAt (sAddr ((ov[idx (unitsP l) a]'(by rw [hov]; exact idx_lt hina)))) ((idx (unitsP l) b) * 1), _, evW_op (ev_idxM (k := idx (unitsP l) b) ((hrows _ (by rw [hov]; exact idx_lt hina)).sees hM.ext.sees) rfl rfl (by simpa using idx_lt hinb) rfl rfl rfl (by decide)), rfl, ?_⟩) (fun h => by cases h)
            refine Rg.guards true rfl rfl rfl (fun _ => ⟨nat (mm (idx (unitsP l) a) (idx (unitsP l) b)), _, evW_op (ev_ldM (k := (idx (unitsP l) b)) ((hrows _ (by rw [hov]; exact idx_lt hina)).sees hM.ext.sees) rfl (by simpa using idx_lt hinb) (by simp) rfl rfl rfl), rfl, ?_⟩) (fun h => by cases h)
            by_cases hpos : 0 < mm (idx (unitsP l) a) (idx (unitsP l) b)
            · skip
              refine Rg.guards true rfl rfl rfl (fun _ => ⟨.bool true, _, evW_op (ev_gtT rfl rfl (hpos)), rfl, ?_⟩) (fun h => by cases h)
              refine Rg.guards true rfl rfl rfl (fun _ => ⟨.bool ((rchB (arcsOf l) (idx (unitsP l) a) (idx (unitsP l) b)) == true), _, evW_op (rfl), rfl, ?_⟩) (fun h => by cases h)
              refine Rg.opp (v := .bool ((rchB (arcsOf l) (idx (unitsP l) a) (idx (unitsP l) b)) == true)) rfl rfl rfl rfl rfl ?_
              refine Rg.opp (v := .bool ((rchB (arcsOf l) (idx (unitsP l) a) (idx (unitsP l) b)) == true)) rfl rfl rfl rfl rfl ?_
              refine Rg.nil ?_
              refine Runs.ret ?_
              refine ⟨.bool ((rchB (arcsOf l) (idx (unitsP l) a) (idx (unitsP l) b)) == true), rfl, ?_⟩
              rw [rchB_iff.2 ((rch_far (arcs_wf l) (by omega) (hF _ _)).1 hpos)]; rfl
            · skip
              refine Rg.guards true rfl rfl rfl (fun _ => ⟨.bool false, _, evW_op (ev_gtF rfl rfl (hpos)), rfl, ?_⟩) (fun h => by cases h)
              refine Rg.guards true rfl rfl rfl (fun _ => ⟨.bool ((rchB (arcsOf l) (idx (unitsP l) a) (idx (unitsP l) b)) == false), _, evW_op (rfl), rfl, ?_⟩) (fun h => by cases h)
              refine Rg.opp (v := .bool ((rchB (arcsOf l) (idx (unitsP l) a) (idx (unitsP l) b)) == false)) rfl rfl rfl rfl rfl ?_
              refine Rg.opp (v := .bool ((rchB (arcsOf l) (idx (unitsP l) a) (idx (unitsP l) b)) == false)) rfl rfl rfl rfl rfl ?_
              refine Rg.nil ?_
              refine Runs.ret ?_
              refine ⟨.bool ((rchB (arcsOf l) (idx (unitsP l) a) (idx (unitsP l) b)) == false), rfl, ?_⟩
              have : rchB (arcsOf l) (idx (unitsP l) a) (idx (unitsP l) b) = false := by
                cases z : rchB (arcsOf l) (idx (unitsP l) a) (idx (unitsP l) b) with
                | false => rfl
                | true => exact absurd ((rch_far (arcs_wf l) (by omega) (hF _ _)).2 (rchB_iff.1 z)) hpos
              rw [this]; rfl
          · skip
            refine Rg.opp (v := str b) rfl rfl rfl rfl rfl ?_
            refine Rg.callW rfl rfl rfl rfl (rfl) rfl (older_runs (hl.sees (heu.trans hM.ext).sees) (by omega) sly.good (by omega)) (fun ro Ho hP => ?_)
            obtain ⟨hro, heo⟩ := hP
            rw [show olderP l a b = (false, 10) by simp [olderP, hina, hinb]] at hro
            subst hro
            have hM := Mem.start Ho
            refine Rg.opp (v := .tuple #[.bool false, nat 10]) rfl rfl rfl rfl rfl ?_
            refine Rg.opp (v := .bool false) rfl rfl rfl rfl rfl ?_
            refine Rg.opp (v := nat 10) rfl rfl rfl rfl rfl ?_
            refine Rg.opp (v := .bool false) rfl rfl rfl rfl rfl ?_
            refine Rg.opp (v := nat 10) rfl rfl rfl rfl rfl ?_
            refine Rg.nil ?_
            refine Runs.seq ?_
            refine Runs.region ?_
            refine Rg.opp (v := uv) rfl rfl rfl rfl rfl ?_
            refine Rg.opp (v := str a) rfl rfl rfl rfl rfl ?_
            refine Rg.calls (v := nat (idx (unitsP l) a)) rfl rfl rfl rfl (rfl) rfl (index_mem (hus.sees (heo.trans hM.ext).sees) hina (by omega)) ?_
            refine Rg.opp (v := uv) rfl rfl rfl rfl rfl ?_
            refine Rg.opp (v := str b) rfl rfl rfl rfl rfl ?_
            refine Rg.calls (v := .int .i64 (-1)) rfl rfl rfl rfl (rfl) rfl (index_not (hus.sees (heo.trans hM.ext).sees) hinb (by omega)) ?_
            refine Rg.opp (v := nat (idx (unitsP l) a)) rfl rfl rfl rfl rfl ?_
            refine Rg.opp (v := .int .i64 (-1)) rfl rfl rfl rfl rfl ?_
            refine Rg.nil ?_
            refine Runs.seq ?_
            refine Runs.seq ?_
            refine Runs.region ?_
            refine Rg.opp (v := nat (idx (unitsP l) a)) rfl rfl rfl rfl rfl ?_
            refine Rg.opp (v := .bool false) rfl rfl rfl (ev_ltF (a := idx (unitsP l) a) (b := 0) rfl rfl (by omega)) rfl ?_
            refine Rg.opp (v := .bool false) rfl rfl rfl rfl rfl ?_
            refine Rg.guards true rfl rfl rfl (fun _ => ⟨.int .i64 (-1), _, evW_op (rfl), rfl, ?_⟩) (fun h => by cases h)
            refine Rg.guards true rfl rfl rfl (fun _ => ⟨.bool true, _, evW_op (ev_iltT (a := -1) (b := (0 : Int)) rfl rfl (by decide)), rfl, ?_⟩) (fun h => by cases h)
            refine Rg.opp (v := .bool true) rfl rfl rfl rfl rfl ?_
            refine Rg.nil ?_
            refine Runs.cond true rfl (fun _ => ?_) (fun h => by cases h)
            refine Runs.seq ?_
            refine Runs.region ?_
            refine Rg.opp (v := .bool false) rfl rfl rfl rfl rfl ?_
            refine Rg.opp (v := .bool true) rfl rfl rfl rfl rfl ?_
            refine Rg.opp (v := .bool true) rfl rfl rfl rfl rfl ?_
            refine Rg.guards true rfl rfl rfl (fun _ => ⟨nat 10, _, evW_op (rfl), rfl, ?_⟩) (fun h => by cases h)
            refine Rg.guards true rfl rfl rfl (fun _ => ⟨.bool true, _, evW_op (ev_eqT rfl rfl (by decide)), rfl, ?_⟩) (fun h => by cases h)
            refine Rg.opp (v := .bool true) rfl rfl rfl rfl rfl ?_
            refine Rg.opp (v := .bool true) rfl rfl rfl rfl rfl ?_
            refine Rg.nil ?_
            refine Runs.ret ?_
            refine ⟨.bool true, rfl, ?_⟩
            rfl
        · skip
          refine Rg.opp (v := str a) rfl rfl rfl rfl rfl ?_
          by_cases hinb : b ∈ unitsP l
          · skip
            refine Rg.opp (v := str b) rfl rfl rfl rfl rfl ?_
            refine Rg.callW rfl rfl rfl rfl (rfl) rfl (older_runs (hl.sees (heu.trans hM.ext).sees) (by omega) sly.good (by omega)) (fun ro Ho hP => ?_)
            obtain ⟨hro, heo⟩ := hP
            rw [show olderP l a b = (false, 10) by simp [olderP, hina, hinb]] at hro
            subst hro
            have hM := Mem.start Ho
            refine Rg.opp (v := .tuple #[.bool false, nat 10]) rfl rfl rfl rfl rfl ?_
            refine Rg.opp (v := .bool false) rfl rfl rfl rfl rfl ?_
            refine Rg.opp (v := nat 10) rfl rfl rfl rfl rfl ?_
            refine Rg.opp (v := .bool false) rfl rfl rfl rfl rfl ?_
            refine Rg.opp (v := nat 10) rfl rfl rfl rfl rfl ?_
            refine Rg.nil ?_
            refine Runs.seq ?_
            refine Runs.region ?_
            refine Rg.opp (v := uv) rfl rfl rfl rfl rfl ?_
            refine Rg.opp (v := str a) rfl rfl rfl rfl rfl ?_
            refine Rg.calls (v := .int .i64 (-1)) rfl rfl rfl rfl (rfl) rfl (index_not (hus.sees (heo.trans hM.ext).sees) hina (by omega)) ?_
            refine Rg.opp (v := uv) rfl rfl rfl rfl rfl ?_
            refine Rg.opp (v := str b) rfl rfl rfl rfl rfl ?_
            refine Rg.calls (v := nat (idx (unitsP l) b)) rfl rfl rfl rfl (rfl) rfl (index_mem (hus.sees (heo.trans hM.ext).sees) hinb (by omega)) ?_
            refine Rg.opp (v := .int .i64 (-1)) rfl rfl rfl rfl rfl ?_
            refine Rg.opp (v := nat (idx (unitsP l) b)) rfl rfl rfl rfl rfl ?_
            refine Rg.nil ?_
            refine Runs.seq ?_
            refine Runs.seq ?_
            refine Runs.region ?_
            refine Rg.opp (v := .int .i64 (-1)) rfl rfl rfl rfl rfl ?_
            refine Rg.opp (v := .bool true) rfl rfl rfl (ev_iltT (a := -1) (b := (0 : Int)) rfl rfl (by decide)) rfl ?_
            refine Rg.opp (v := .bool true) rfl rfl rfl rfl rfl ?_
            refine Rg.guards false rfl rfl rfl (fun h => by cases h) (fun _ => ?_)
            refine Rg.guards false rfl rfl rfl (fun h => by cases h) (fun _ => ?_)
            refine Rg.opp (v := .bool true) rfl rfl rfl rfl rfl ?_
            refine Rg.nil ?_
            refine Runs.cond true rfl (fun _ => ?_) (fun h => by cases h)
            refine Runs.seq ?_
            refine Runs.region ?_
            refine Rg.opp (v := .bool false) rfl rfl rfl rfl rfl ?_
            refine Rg.opp (v := .bool true) rfl rfl rfl rfl rfl ?_
            refine Rg.opp (v := .bool true) rfl rfl rfl rfl rfl ?_
            refine Rg.guards true rfl rfl rfl (fun _ => ⟨nat 10, _, evW_op (rfl), rfl, ?_⟩) (fun h => by cases h)
            refine Rg.guards true rfl rfl rfl (fun _ => ⟨.bool true, _, evW_op (ev_eqT rfl rfl (by decide)), rfl, ?_⟩) (fun h => by cases h)
            refine Rg.opp (v := .bool true) rfl rfl rfl rfl rfl ?_
            refine Rg.opp (v := .bool true) rfl rfl rfl rfl rfl ?_
            refine Rg.nil ?_
            refine Runs.ret ?_
            refine ⟨.bool true, rfl, ?_⟩
            rfl
          · skip
            refine Rg.opp (v := str b) rfl rfl rfl rfl rfl ?_
            refine Rg.callW rfl rfl rfl rfl (rfl) rfl (older_runs (hl.sees (heu.trans hM.ext).sees) (by omega) sly.good (by omega)) (fun ro Ho hP => ?_)
            obtain ⟨hro, heo⟩ := hP
            rw [show olderP l a b = (false, 10) by simp [olderP, hina, hinb]] at hro
            subst hro
            have hM := Mem.start Ho
            refine Rg.opp (v := .tuple #[.bool false, nat 10]) rfl rfl rfl rfl rfl ?_
            refine Rg.opp (v := .bool false) rfl rfl rfl rfl rfl ?_
            refine Rg.opp (v := nat 10) rfl rfl rfl rfl rfl ?_
            refine Rg.opp (v := .bool false) rfl rfl rfl rfl rfl ?_
            refine Rg.opp (v := nat 10) rfl rfl rfl rfl rfl ?_
            refine Rg.nil ?_
            refine Runs.seq ?_
            refine Runs.region ?_
            refine Rg.opp (v := uv) rfl rfl rfl rfl rfl ?_
            refine Rg.opp (v := str a) rfl rfl rfl rfl rfl ?_
            refine Rg.calls (v := .int .i64 (-1)) rfl rfl rfl rfl (rfl) rfl (index_not (hus.sees (heo.trans hM.ext).sees) hina (by omega)) ?_
            refine Rg.opp (v := uv) rfl rfl rfl rfl rfl ?_
            refine Rg.opp (v := str b) rfl rfl rfl rfl rfl ?_
            refine Rg.calls (v := .int .i64 (-1)) rfl rfl rfl rfl (rfl) rfl (index_not (hus.sees (heo.trans hM.ext).sees) hinb (by omega)) ?_
            refine Rg.opp (v := .int .i64 (-1)) rfl rfl rfl rfl rfl ?_
            refine Rg.opp (v := .int .i64 (-1)) rfl rfl rfl rfl rfl ?_
            refine Rg.nil ?_
            refine Runs.seq ?_
            refine Runs.seq ?_
            refine Runs.region ?_
            refine Rg.opp (v := .int .i64 (-1)) rfl rfl rfl rfl rfl ?_
            refine Rg.opp (v := .bool true) rfl rfl rfl (ev_iltT (a := -1) (b := (0 : Int)) rfl rfl (by decide)) rfl ?_
            refine Rg.opp (v := .bool true) rfl rfl rfl rfl rfl ?_
            refine Rg.guards false rfl rfl rfl (fun h => by cases h) (fun _ => ?_)
            refine Rg.guards false rfl rfl rfl (fun h => by cases h) (fun _ => ?_)
            refine Rg.opp (v := .bool true) rfl rfl rfl rfl rfl ?_
            refine Rg.nil ?_
            refine Runs.cond true rfl (fun _ => ?_) (fun h => by cases h)
            refine Runs.seq ?_
            refine Runs.region ?_
            refine Rg.opp (v := .bool false) rfl rfl rfl rfl rfl ?_
            refine Rg.opp (v := .bool true) rfl rfl rfl rfl rfl ?_
            refine Rg.opp (v := .bool true) rfl rfl rfl rfl rfl ?_
            refine Rg.guards true rfl rfl rfl (fun _ => ⟨nat 10, _, evW_op (rfl), rfl, ?_⟩) (fun h => by cases h)
            refine Rg.guards true rfl rfl rfl (fun _ => ⟨.bool true, _, evW_op (ev_eqT rfl rfl (by decide)), rfl, ?_⟩) (fun h => by cases h)
            refine Rg.opp (v := .bool true) rfl rfl rfl rfl rfl ?_
            refine Rg.opp (v := .bool true) rfl rfl rfl rfl rfl ?_
            refine Rg.nil ?_
            refine Runs.ret ?_
            refine ⟨.bool true, rfl, ?_⟩
            rfl
  · skip
    refine Rg.guards true rfl rfl rfl (fun _ => ⟨.bool false, _, evW_call rfl (rfl) (fits_F hs hx8), rfl, ?_⟩) (fun h => by cases h)
    refine Rg.guards true rfl rfl rfl (fun _ => ⟨.bool true, _, evW_op (rfl), rfl, ?_⟩) (fun h => by cases h)
    refine Rg.opp (v := .bool true) rfl rfl rfl rfl rfl ?_
    refine Rg.opp (v := .bool true) rfl rfl rfl rfl rfl ?_
    refine Rg.guards false rfl rfl rfl (fun h => by cases h) (fun _ => ?_)
    refine Rg.guards false rfl rfl rfl (fun h => by cases h) (fun _ => ?_)
    refine Rg.guards false rfl rfl rfl (fun h => by cases h) (fun _ => ?_)
    refine Rg.opp (v := .bool true) rfl rfl rfl rfl rfl ?_
    refine Rg.opp (v := .bool true) rfl rfl rfl rfl rfl ?_
    refine Rg.guards false rfl rfl rfl (fun h => by cases h) (fun _ => ?_)
    refine Rg.guards false rfl rfl rfl (fun h => by cases h) (fun _ => ?_)
    refine Rg.guards false rfl rfl rfl (fun h => by cases h) (fun _ => ?_)
    refine Rg.opp (v := .bool true) rfl rfl rfl rfl rfl ?_
    refine Rg.nil ?_
    refine Runs.cond true rfl (fun _ => ?_) (fun h => by cases h)
    refine Runs.seq ?_
    refine Runs.region ?_
    refine Rg.calls (v := .bool true) rfl rfl rfl rfl (rfl) rfl (known_is _) ?_
    refine Rg.opp (v := .bool true) rfl rfl rfl rfl rfl ?_
    refine Rg.nil ?_
    refine Runs.ret ?_
    refine ⟨.bool true, rfl, ?_⟩
    rfl

end Go.Proofs.Ytdhbclplondmjaa.C

end
