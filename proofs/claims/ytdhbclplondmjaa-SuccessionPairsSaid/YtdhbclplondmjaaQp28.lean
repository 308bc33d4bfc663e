/- Texts of one's own, laid together: X8, X9, Xp, X13, Xq -/
import Derived.Test.YtdhbclplondmjaaQp26
import Derived.Test.YtdhbclplondmjaaQp27
section
/- The law's reach, run. -/
set_option linter.unusedVariables false
set_option linter.unusedSimpArgs false
set_option maxRecDepth 100000
set_option maxHeartbeats 4000000
namespace Go.Proofs.Ytdhbclplondmjaa.C
open Go.RowKit Go.Sort

theorem reach_runs {H : Heap} {v : Value} {l : List Rel} (hl : Sl H 3 v (rels l)) (hll : l.length ≤ 2 ^ 16) (hn : (unitsP l).length ≤ 2 ^ 17) :
    ∃ r H1, big tab 14 [v] H = some (r, H1) ∧ Ext H H1 ∧ ∃ (ov : List Value) (mm : Nat → Nat → Nat), Sl H1 1 r (List.map encV ov) ∧ ov.length = (unitsP l).length ∧ (∀ c (h : c < ov.length), Sl H1 1 ov[c] (((List.range (unitsP l).length).map (mm c)).map encN)) ∧ ∀ c b, Far (prs (arcsOf l)) 8 c b (mm c b) := by
  refine big_of_runs rfl rfl rfl ?_
  obtain ⟨z, hz⟩ := startC_mkS Try.f14 [v]
  rw [show startC (14, Try.f14).snd [v] = _ from hz]
  clear hz
  refine Runs.cut (n := 134) (l := [(0, v)]) (Is.of ⟨rfl, rfl, trivial⟩) (fun a0 => ?_)
  refine Runs.seq ?_
  refine Runs.region ?_
  refine Rg.opp (v := .slice none 0 0) rfl rfl rfl rfl rfl ?_
  refine Rg.nil ?_
  refine Runs.seq ?_
  refine Runs.region ?_
  refine Rg.opp (v := v) rfl rfl rfl rfl rfl ?_
  refine Rg.callW rfl rfl rfl rfl (rfl) rfl (lawUnits_runs hl (by omega)) (fun r Hu hP => ?_)
  obtain ⟨heu, p0, hus'⟩ := hP
  rw [← units_eq] at hus'
  have hus : Sl Hu 1 r ((unitsP l).map encS) := hus'.sl (by rw [strs_len]; unfold unk; omega)
  have hM := Mem.start Hu
  refine Rg.opp (v := r) rfl rfl rfl rfl rfl ?_
  refine Rg.nil ?_
  refine Runs.seq ?_
  refine Runs.region ?_
  refine Rg.opp (v := r) rfl rfl rfl rfl rfl ?_
  refine Rg.opp (v := nat ((unitsP l).length)) rfl rfl rfl (ev_lenM (hus.sees hM.ext.sees) rfl rfl) rfl ?_
  refine Rg.make (f := encV) (sz := 1) (m := (unitsP l).length) (.slice none 0 0) hM rfl rfl rfl rfl rfl rfl rfl rfl rfl (by decide) rfl rfl rfl (by show (unitsP l).length * 24 ≤ 2 ^ 40; omega) (by omega) (fun ow0 Hc (hM : Mem Hu Hc ([.sl 1 ow0 (List.map encV (List.replicate ((unitsP l).length) (.slice none 0 0)))])) _ => ?_)
  refine Rg.opp (v := ow0) rfl rfl rfl rfl rfl ?_
  refine Rg.nil ?_
  refine Runs.seq ?_
  refine Runs.seq ?_
  refine Runs.region ?_
  refine Rg.opp (v := nat 0) rfl rfl rfl rfl rfl ?_
  refine Rg.nil ?_
  refine Runs.block ?_
  refine Runs.loop (fun m s Hc => ∃ (i : Nat) (ov : List Value), m = (unitsP l).length - i ∧ Mem Hu Hc ((.sl 1 ow0 (List.map encV ov)) :: (rowsT ov (mat (unitsP l).length (fun _ _ => 0) i))) ∧ (i ≤ (unitsP l).length) ∧ (ov.length = (unitsP l).length) ∧ Is s 134 [(0, v), (3, r), (4, ow0), (5, nat i)]) _
    ⟨0, List.replicate (unitsP l).length (.slice none 0 0), rfl, by have h := hM.addNil 1 (unitsP l).length; rw [rowsT_nil (unitsP l).length (fun _ _ => 0)] at h; exact h, Nat.zero_le _, by simp, Is.of ⟨rfl, rfl, rfl, rfl, rfl, rfl, rfl, rfl, trivial⟩⟩ ?_
  rintro m s Hc ⟨i, ov, rfl, hM, hi, hov, hs⟩
  obtain ⟨a1, rfl⟩ := hs.mk1
  clear hs
  refine Runs.seq ?_
  refine Runs.seq ?_
  refine Runs.region ?_
  refine Rg.opp (v := nat i) rfl rfl rfl rfl rfl ?_
  refine Rg.opp (v := r) rfl rfl rfl rfl rfl ?_
  refine Rg.opp (v := nat ((unitsP l).length)) rfl rfl rfl (ev_lenM (hus.sees hM.ext.sees) rfl rfl) rfl ?_
  by_cases hlt : i < (unitsP l).length
  · skip
    refine Rg.opp (v := .bool true) rfl rfl rfl (ev_ltT rfl rfl (hlt)) rfl ?_
    refine Rg.nil ?_
    refine Runs.cond true rfl (fun _ => ?_) (fun h => by cases h)
    refine Runs.skip ?_
    refine Runs.seq ?_
    refine Runs.block ?_
    refine Runs.region ?_
    refine Rg.opp (v := ow0) rfl rfl rfl rfl rfl ?_
    refine Rg.opp (v := nat i) rfl rfl rfl rfl rfl ?_
    refine Rg.opp (v := r) rfl rfl rfl rfl rfl ?_
    refine Rg.opp (v := nat ((unitsP l).length)) rfl rfl rfl (ev_lenM (hus.sees hM.ext.sees) rfl rfl) rfl ?_
    refine Rg.make (f := encN) (sz := 1) (m := (unitsP l).length) 0 hM rfl rfl rfl rfl rfl rfl rfl rfl rfl (by decide) rfl rfl rfl (by show (unitsP l).length * 8 ≤ 2 ^ 40; omega) (by omega) (fun u Hc (hM : Mem Hu Hc ((.sl 1 u (List.map encN (List.replicate ((unitsP l).length) 0))) :: (.sl 1 ow0 (List.map encV ov)) :: (rowsT ov (mat (unitsP l).length (fun _ _ => 0) i)))) _ => ?_)
    refine Rg.opp (v := ptrAt (sAddr ow0) (i * 1)) rfl rfl rfl (ev_idxM (k := i) (hM.get_sl (j := 1) rfl) rfl rfl (by omega) rfl rfl rfl (by decide)) rfl ?_
    refine Rg.stoM (f := encV) (j := 1) (k := i) u hM rfl rfl rfl rfl rfl rfl rfl (by omega) rfl (hM.get_sl (j := 0) rfl).one.1 rfl rfl (by simp [(hM.get_sl (j := 0) rfl).one.2.1]) (fun Hc (hM : Mem Hu Hc ((.sl 1 u (List.map encN (List.replicate ((unitsP l).length) 0))) :: (.sl 1 ow0 (List.map encV ((ov).set i u))) :: (rowsT ov (mat (unitsP l).length (fun _ _ => 0) i)))) => ?_)
    refine Rg.nil ?_
    refine Runs.region ?_
    refine Rg.opp (v := nat i) rfl rfl rfl rfl rfl ?_
    refine Rg.opp (v := nat (i + 1)) rfl rfl rfl (ev_addN (b := 1) rfl rfl (by omega)) rfl ?_
    refine Rg.opp (v := nat (i + 1)) rfl rfl rfl rfl rfl ?_
    refine Rg.nil ?_
    refine ⟨(unitsP l).length - (i + 1), by omega, i + 1, ov.set i u, rfl, by
      have h := hM.mv (i + 1)
      rw [← rowsT_up hov hlt (xs := List.replicate (unitsP l).length 0) (by rw [List.map_const', List.length_range])]
      exact h, hlt, by simpa using hov, Is.of ⟨rfl, rfl, rfl, rfl, rfl, rfl, rfl, rfl, trivial⟩⟩
  · skip
    replace hM : Mem Hu Hc ((.sl 1 ow0 (List.map encV ov)) :: (rowsT ov (mat (unitsP l).length (fun _ _ => 0) (unitsP l).length))) := by
      have e : i = (unitsP l).length := by omega
      have h := hM
      rw [show rowsT ov (mat (unitsP l).length (fun _ _ => 0) i) = rowsT ov (mat (unitsP l).length (fun _ _ => 0) (unitsP l).length) by rw [e]] at h; exact h
    refine Rg.opp (v := .bool false) rfl rfl rfl (ev_ltF rfl rfl (hlt)) rfl ?_
    refine Rg.nil ?_
    refine Runs.cond false rfl (fun h => by cases h) (fun _ => ?_)
    refine Runs.exit ?_
    refine Runs.seq ?_
    refine Runs.seq ?_
    refine Runs.region ?_
    refine Rg.opp (v := nat 1) rfl rfl rfl rfl rfl ?_
    refine Rg.nil ?_
    refine Runs.block ?_
    refine Runs.loop (fun m s Hc => ∃ (kk : Nat) (ow : Value) (ov : List Value) (mm : Nat → Nat → Nat), m = 8 - kk ∧ Mem Hu Hc ((.sl 1 ow (List.map encV ov)) :: (rowsT ov (mat (unitsP l).length mm (unitsP l).length))) ∧ (kk ≤ 8) ∧ (ov.length = (unitsP l).length) ∧ (∀ c b, Far (prs (arcsOf l)) kk c b (mm c b)) ∧ Is s 134 [(0, v), (3, r), (4, ow), (6, nat (kk + 1))]) _
      ⟨0, ow0, ov, fun _ _ => 0, rfl, hM, by omega, hov, fun c b => .inl ⟨rfl, fun j h1 h2 => by omega⟩, Is.of ⟨rfl, rfl, rfl, rfl, rfl, rfl, rfl, rfl, trivial⟩⟩ ?_
    rintro m s Hc ⟨kk, ow, ov, mm, rfl, hM, hkk, hov, hF, hs⟩
    obtain ⟨a2, rfl⟩ := hs.mk1
    clear hs
    have hm7 : kk < 8 → ∀ c a, mm c a ≤ 7 := fun h c a => by have := (hF c a).le; omega
    have hm0 : ∀ c, (unitsP l).length ≤ c → ∀ b, mm c b = 0 := fun c hc b => (hF c b).zero (fun p hp => by obtain ⟨a, ha, rfl⟩ := List.mem_map.1 hp; exact (arcs_wf l).lo a ha) hc
    refine Runs.seq ?_
    refine Runs.seq ?_
    refine Runs.region ?_
    refine Rg.opp (v := nat (kk + 1)) rfl rfl rfl rfl rfl ?_
    by_cases h8 : kk + 1 ≤ 8
    · skip
      refine Rg.opp (v := .bool true) rfl rfl rfl (ev_leT rfl rfl (h8)) rfl ?_
      refine Rg.nil ?_
      refine Runs.cond true rfl (fun _ => ?_) (fun h => by cases h)
      refine Runs.skip ?_
      refine Runs.seq ?_
      refine Runs.block ?_
      refine Runs.seq ?_
      refine Runs.region ?_
      refine Rg.opp (v := r) rfl rfl rfl rfl rfl ?_
      refine Rg.opp (v := nat ((unitsP l).length)) rfl rfl rfl (ev_lenM (hus.sees hM.ext.sees) rfl rfl) rfl ?_
      refine Rg.make (f := encV) (sz := 1) (m := (unitsP l).length) (.slice none 0 0) hM rfl rfl rfl rfl rfl rfl rfl rfl rfl (by decide) rfl rfl rfl (by show (unitsP l).length * 24 ≤ 2 ^ 40; omega) (by omega) (fun nw0 Hc (hM : Mem Hu Hc ((.sl 1 nw0 (List.map encV (List.replicate ((unitsP l).length) (.slice none 0 0)))) :: (.sl 1 ow (List.map encV ov)) :: (rowsT ov (mat (unitsP l).length mm (unitsP l).length)))) _ => ?_)
      refine Rg.opp (v := nw0) rfl rfl rfl rfl rfl ?_
      refine Rg.nil ?_
      refine Runs.seq ?_
      refine Runs.seq ?_
      refine Runs.region ?_
      refine Rg.opp (v := nat 0) rfl rfl rfl rfl rfl ?_
      refine Rg.nil ?_
      refine Runs.block ?_
      refine Runs.loop (fun m s Hc => ∃ (i : Nat) (nv : List Value), m = (unitsP l).length - i ∧ Mem Hu Hc ((.sl 1 nw0 (List.map encV nv)) :: (.sl 1 ow (List.map encV ov)) :: (rowsT ov (mat (unitsP l).length mm (unitsP l).length) ++ rowsT nv (mat (unitsP l).length mm i))) ∧ (i ≤ (unitsP l).length) ∧ (nv.length = (unitsP l).length) ∧ Is s 134 [(0, v), (3, r), (4, ow), (6, nat (kk + 1)), (7, nw0), (8, nat i)]) _
        ⟨0, List.replicate (unitsP l).length (.slice none 0 0), rfl, by have h := hM.addNil 1 (unitsP l).length; rw [rowsT_nil (unitsP l).length mm] at h; exact h, Nat.zero_le _, by simp, Is.of ⟨rfl, rfl, rfl, rfl, rfl, rfl, rfl, rfl, rfl, rfl, rfl, rfl, trivial⟩⟩ ?_
      rintro m s Hc ⟨i, nv, rfl, hM, hi, hnv, hs⟩
      obtain ⟨a3, rfl⟩ := hs.mk1
      clear hs
      refine Runs.seq ?_
      refine Runs.seq ?_
      refine Runs.region ?_
      refine Rg.opp (v := nat i) rfl rfl rfl rfl rfl ?_
      refine Rg.opp (v := r) rfl rfl rfl rfl rfl ?_
      refine Rg.opp (v := nat ((unitsP l).length)) rfl rfl rfl (ev_lenM (hus.sees hM.ext.sees) rfl rfl) rfl ?_
      by_cases hlt : i < (unitsP l).length
      · skip
        refine Rg.opp (v := .bool true) rfl rfl rfl (ev_ltT rfl rfl (hlt)) rfl ?_
        refine Rg.nil ?_
        refine Runs.cond true rfl (fun _ => ?_) (fun h => by cases h)
        refine Runs.skip ?_
        refine Runs.seq ?_
        refine Runs.block ?_
        refine Runs.region ?_
        refine Rg.opp (v := nw0) rfl rfl rfl rfl rfl ?_
        refine Rg.opp (v := nat i) rfl rfl rfl rfl rfl ?_
        refine Rg.lit (f := encN) (sz := 1) (xs := ([] : List Nat)) hM rfl rfl rfl rfl rfl (by simp) (by simp) (fun u4 Hc (hM : Mem Hu Hc ((.sl 1 u4 (List.map encN (([] : List Nat)))) :: (.sl 1 nw0 (List.map encV nv)) :: (.sl 1 ow (List.map encV ov)) :: (rowsT ov (mat (unitsP l).length mm (unitsP l).length) ++ rowsT nv (mat (unitsP l).length mm i)))) _ => ?_)
        refine Rg.opp (v := ow) rfl rfl rfl rfl rfl ?_
        refine Rg.opp (v := nat i) rfl rfl rfl rfl rfl ?_
        refine Rg.opp (v := ptrAt (sAddr ow) (i * 1)) rfl rfl rfl (ev_idxM (k := i) (hM.get_sl (j := 2) rfl) rfl rfl (by omega) rfl rfl rfl (by decide)) rfl ?_
        refine Rg.opp (v := ov[i]) rfl rfl rfl (ev_ldM (k := i) (hM.get_sl (j := 2) rfl) rfl (by omega) rfl rfl rfl rfl) rfl ?_
        refine Rg.appM (f := encN) (sz := 1) (j := 0) (v := u4) (xs := ([] : List Nat)) (ys := (List.range (unitsP l).length).map (mm i)) hM rfl rfl rfl rfl rfl rfl rfl (hM.get_sl (j := i + 3) (show (rowsT ov (mat (unitsP l).length mm (unitsP l).length) ++ rowsT nv (mat (unitsP l).length mm i))[i]? = _ from (List.getElem?_append_left (by rw [rowsT_len hov]; omega)).trans (rowsT_get hov (by omega) (by omega)))) ⟨rfl, rfl, rfl, by decide⟩ rfl (by simp [oneCell]) (by show (_ + _) * 8 ≤ 2 ^ 40; simp; omega) (by intro e; have := congrArg List.length e; simp only [List.length_map, List.length_range, List.length_nil] at this; omega) (fun u Hc (hM : Mem Hu Hc ((.sl 1 u (List.map encN ((([] : List Nat)) ++ ((List.range (unitsP l).length).map (mm i))))) :: (.sl 1 nw0 (List.map encV nv)) :: (.sl 1 ow (List.map encV ov)) :: (rowsT ov (mat (unitsP l).length mm (unitsP l).length) ++ rowsT nv (mat (unitsP l).length mm i)))) hgr => ?_)
        refine Rg.opp (v := ptrAt (sAddr nw0) (i * 1)) rfl rfl rfl (ev_idxM (k := i) (hM.get_sl (j := 1) rfl) rfl rfl (by omega) rfl rfl rfl (by decide)) rfl ?_
        refine Rg.stoM (f := encV) (j := 1) (k := i) u hM rfl rfl rfl rfl rfl rfl rfl (by omega) rfl hgr.one.1 rfl rfl (by simp [hgr.one.2.1]) (fun Hc (hM : Mem Hu Hc ((.sl 1 u (List.map encN ((([] : List Nat)) ++ ((List.range (unitsP l).length).map (mm i))))) :: (.sl 1 nw0 (List.map encV ((nv).set i u))) :: (.sl 1 ow (List.map encV ov)) :: (rowsT ov (mat (unitsP l).length mm (unitsP l).length) ++ rowsT nv (mat (unitsP l).length mm i)))) => ?_)
        refine Rg.nil ?_
        refine Runs.region ?_
        refine Rg.opp (v := nat i) rfl rfl rfl rfl rfl ?_
        refine Rg.opp (v := nat (i + 1)) rfl rfl rfl (ev_addN (b := 1) rfl rfl (by omega)) rfl ?_
        refine Rg.opp (v := nat (i + 1)) rfl rfl rfl rfl rfl ?_
        refine Rg.nil ?_
        refine ⟨(unitsP l).length - (i + 1), by omega, i + 1, nv.set i u, rfl, by
          have h := hM.mv ((unitsP l).length + i + 2)
          rw [← rowsT_up (c := i) hnv hlt (xs := [] ++ (List.range (unitsP l).length).map (mm i)) (by simp)]
          have e0 : (rowsT ov (mat (unitsP l).length mm (unitsP l).length) ++ rowsT nv (mat (unitsP l).length mm i)).set ((unitsP l).length + i) (.sl 1 u (List.map encN ([] ++ (List.range (unitsP l).length).map (mm i)))) = rowsT ov (mat (unitsP l).length mm (unitsP l).length) ++ (rowsT nv (mat (unitsP l).length mm i)).set i (.sl 1 u (List.map encN ([] ++ (List.range (unitsP l).length).map (mm i)))) := by
            rw [List.set_append_right _ _ (by rw [rowsT_len hov]; omega), rowsT_len hov, Nat.add_sub_cancel_left]
          rw [← e0]
          exact h, hlt, by simpa using hnv, Is.of ⟨rfl, rfl, rfl, rfl, rfl, rfl, rfl, rfl, rfl, rfl, rfl, rfl, trivial⟩⟩
      · skip
        replace hM : Mem Hu Hc ((.sl 1 nw0 (List.map encV nv)) :: (.sl 1 ow (List.map encV ov)) :: (rowsT ov (mat (unitsP l).length mm (unitsP l).length) ++ rowsT nv (mat (unitsP l).length mm (unitsP l).length))) := by
          have e : i = (unitsP l).length := by omega
          have h := hM
          rw [show rowsT nv (mat (unitsP l).length mm i) = rowsT nv (mat (unitsP l).length mm (unitsP l).length) by rw [e]] at h; exact h
        refine Rg.opp (v := .bool false) rfl rfl rfl (ev_ltF rfl rfl (hlt)) rfl ?_
        refine Rg.nil ?_
        refine Runs.cond false rfl (fun h => by cases h) (fun _ => ?_)
        refine Runs.exit ?_
        refine Runs.seq ?_
        refine Runs.seq ?_
        refine Runs.region ?_
        refine Rg.opp (v := nat 0) rfl rfl rfl rfl rfl ?_
        refine Rg.nil ?_
        refine Runs.block ?_
        refine Runs.loop (fun m s Hc => ∃ (i : Nat) (m' : Nat → Nat → Nat), m = l.length - i ∧ Mem Hu Hc ((.sl 1 nw0 (List.map encV nv)) :: (.sl 1 ow (List.map encV ov)) :: (rowsT ov (mat (unitsP l).length mm (unitsP l).length) ++ rowsT nv (mat (unitsP l).length m' (unitsP l).length))) ∧ (i ≤ l.length) ∧ (Part mm (prs (arcsUp l i)) m') ∧ Is s 134 [(0, v), (3, r), (4, ow), (6, nat (kk + 1)), (7, nw0), (9, nat i)]) _
          ⟨0, mm, rfl, hM, Nat.zero_le _, Part.start mm, Is.of ⟨rfl, rfl, rfl, rfl, rfl, rfl, rfl, rfl, rfl, rfl, rfl, rfl, trivial⟩⟩ ?_
        rintro m s Hc ⟨i, m', rfl, hM, hi2, hP, hs⟩
        obtain ⟨a5, rfl⟩ := hs.mk1
        clear hs
        refine Runs.seq ?_
        refine Runs.seq ?_
        refine Runs.region ?_
        refine Rg.opp (v := nat i) rfl rfl rfl rfl rfl ?_
        refine Rg.opp (v := v) rfl rfl rfl rfl rfl ?_
        refine Rg.opp (v := nat l.length) rfl rfl rfl (ev_lenM ((hl.sees heu.sees).sees hM.ext.sees) rfl rfl) rfl ?_
        by_cases hlt : i < l.length
        · skip
          have hlo : idx (unitsP l) l[i].lo < (unitsP l).length := idx_lt (mem_unitsP.2 (mem_names_lo (List.getElem_mem hlt)))
          have hup : idx (unitsP l) l[i].up < (unitsP l).length := idx_lt (mem_unitsP.2 (mem_names_up (List.getElem_mem hlt)))
          refine Rg.opp (v := .bool true) rfl rfl rfl (ev_ltT rfl rfl (hlt)) rfl ?_
          refine Rg.nil ?_
          refine Runs.cond true rfl (fun _ => ?_) (fun h => by cases h)
          refine Runs.skip ?_
          refine Runs.seq ?_
          refine Runs.block ?_
          refine Runs.seq ?_
          refine Runs.seq ?_
          refine Runs.region ?_
          refine Rg.opp (v := v) rfl rfl rfl rfl rfl ?_
          refine Rg.opp (v := nat i) rfl rfl rfl rfl rfl ?_
          refine Rg.opp (v := ptrAt (sAddr v) (i * 3)) rfl rfl rfl (ev_idxM (k := i) ((hl.sees heu.sees).sees hM.ext.sees) rfl rfl (hlt) rfl rfl rfl (by decide)) rfl ?_
          refine Rg.opp (v := .agg (relC (l[i])).toArray) rfl rfl rfl (ev_ldAM (k := i) ((hl.sees heu.sees).sees hM.ext.sees) rfl (hlt) rfl rfl rfl) rfl ?_
          by_cases hkd : l[i].kind = 4
          · skip
            refine Rg.calls (v := .bool false) rfl rfl rfl rfl (rfl) rfl (arc_F _ _ _ hkd) ?_
            refine Rg.opp (v := .bool true) rfl rfl rfl rfl rfl ?_
            refine Rg.nil ?_
            refine Runs.cond true rfl (fun _ => ?_) (fun h => by cases h)
            refine Runs.exit ?_
            refine Runs.region ?_
            refine Rg.opp (v := nat i) rfl rfl rfl rfl rfl ?_
            refine Rg.opp (v := nat (i + 1)) rfl rfl rfl (ev_addN (b := 1) rfl rfl (by omega)) rfl ?_
            refine Rg.opp (v := nat (i + 1)) rfl rfl rfl rfl rfl ?_
            refine Rg.nil ?_
            refine ⟨l.length - (i + 1), by omega, i + 1, m', rfl, hM, hlt, by rw [arcsUp_succ hlt, if_pos hkd]; exact hP, Is.of ⟨rfl, rfl, rfl, rfl, rfl, rfl, rfl, rfl, rfl, rfl, rfl, rfl, trivial⟩⟩
          · skip
            refine Rg.calls (v := .bool true) rfl rfl rfl rfl (rfl) rfl (arc_T _ _ _ hkd) ?_
            refine Rg.opp (v := .bool false) rfl rfl rfl rfl rfl ?_
            refine Rg.nil ?_
            refine Runs.cond false rfl (fun h => by cases h) (fun _ => ?_)
            refine Runs.skip ?_
            refine Runs.seq ?_
            refine Runs.drawn (is := [0, 1, 2, 3, 4, 5, 6, 7, 8, 9, 10, 11, 12, 13, 14, 15]) (by decide +kernel) ?_
            refine Rg.opp (v := r) rfl rfl rfl rfl rfl ?_
            refine Rg.opp (v := v) rfl rfl rfl rfl rfl ?_
            refine Rg.opp (v := nat i) rfl rfl rfl rfl rfl ?_
            refine Rg.opp (v := ptrAt (sAddr v) (i * 3)) rfl rfl rfl (ev_idxM (k := i) ((hl.sees heu.sees).sees hM.ext.sees) rfl rfl (hlt) rfl rfl rfl (by decide)) rfl ?_
            refine Rg.opp (v := ptrAt (sAddr v) (i * 3 + 2)) rfl rfl rfl (ev_fldM (k := i) (m := i * 3) (q := (9, 2)) ((hl.sees heu.sees).sees hM.ext.sees) rfl (hlt) rfl rfl rfl rfl (by decide)) rfl ?_
            refine Rg.opp (v := str (l[i].lo)) rfl rfl rfl (ev_ldfM (k := i) ((hl.sees heu.sees).sees hM.ext.sees) rfl (hlt) rfl rfl rfl rfl) rfl ?_
            refine Rg.calls (v := nat (idx (unitsP l) l[i].lo)) rfl rfl rfl rfl (rfl) rfl (quiet_same (index_mem ((hus.sees hM.ext.sees).sees (Sees.freeze _)) (mem_unitsP.2 (mem_names_lo (List.getElem_mem hlt))) (by omega))) ?_
            refine Rg.opp (v := r) rfl rfl rfl rfl rfl ?_
            refine Rg.opp (v := v) rfl rfl rfl rfl rfl ?_
            refine Rg.opp (v := nat i) rfl rfl rfl rfl rfl ?_
            refine Rg.opp (v := ptrAt (sAddr v) (i * 3)) rfl rfl rfl (ev_idxM (k := i) ((hl.sees heu.sees).sees hM.ext.sees) rfl rfl (hlt) rfl rfl rfl (by decide)) rfl ?_
            refine Rg.opp (v := ptrAt (sAddr v) (i * 3 + 1)) rfl rfl rfl (ev_fldM (k := i) (m := i * 3) (q := (9, 1)) ((hl.sees heu.sees).sees hM.ext.sees) rfl (hlt) rfl rfl rfl rfl (by decide)) rfl ?_
            refine Rg.opp (v := str (l[i].up)) rfl rfl rfl (ev_ldfM (k := i) ((hl.sees heu.sees).sees hM.ext.sees) rfl (hlt) rfl rfl rfl rfl) rfl ?_
            refine Rg.calls (v := nat (idx (unitsP l) l[i].up)) rfl rfl rfl rfl (rfl) rfl (quiet_same (index_mem ((hus.sees hM.ext.sees).sees (Sees.freeze _)) (mem_unitsP.2 (mem_names_up (List.getElem_mem hlt))) (by omega))) ?_
            refine Rg.opp (v := nat (idx (unitsP l) l[i].lo)) rfl rfl rfl rfl rfl ?_
            refine Rg.opp (v := nat (idx (unitsP l) l[i].up)) rfl rfl rfl rfl rfl ?_
            refine Rg.nil ?_
            refine Runs.seq ?_
            refine Runs.region ?_
            refine Rg.opp (v := nat 0) rfl rfl rfl rfl rfl ?_
            refine Rg.nil ?_
            refine Runs.block ?_
            refine Runs.loop (fun m s Hc => ∃ (c : Nat), m = (unitsP l).length - c ∧ Mem Hu Hc ((.sl 1 nw0 (List.map encV nv)) :: (.sl 1 ow (List.map encV ov)) :: (rowsT ov (mat (unitsP l).length mm (unitsP l).length) ++ rowsT nv (mat (unitsP l).length (updC mm m' (idx (unitsP l) l[i].lo) (idx (unitsP l) l[i].up) c) (unitsP l).length))) ∧ (c ≤ (unitsP l).length) ∧ Is s 134 [(0, v), (3, r), (4, ow), (6, nat (kk + 1)), (7, nw0), (9, nat i), (10, nat (idx (unitsP l) l[i].lo)), (11, nat (idx (unitsP l) l[i].up)), (12, nat c)]) _
              ⟨0, rfl, by rw [updC_zero]; exact hM, Nat.zero_le _, Is.of ⟨rfl, rfl, rfl, rfl, rfl, rfl, rfl, rfl, rfl, rfl, rfl, rfl, rfl, rfl, rfl, rfl, rfl, rfl, trivial⟩⟩ ?_
            rintro m s Hc ⟨c, rfl, hM, hc, hs⟩
            obtain ⟨a6, rfl⟩ := hs.mk1
            clear hs
            refine Runs.seq ?_
            refine Runs.seq ?_
            refine Runs.region ?_
            refine Rg.opp (v := nat c) rfl rfl rfl rfl rfl ?_
            refine Rg.opp (v := r) rfl rfl rfl rfl rfl ?_
            refine Rg.opp (v := nat ((unitsP l).length)) rfl rfl rfl (ev_lenM (hus.sees hM.ext.sees) rfl rfl) rfl ?_
            by_cases hc8 : c < (unitsP l).length
            · skip
              refine Rg.opp (v := .bool true) rfl rfl rfl (ev_ltT rfl rfl (hc8)) rfl ?_
              refine Rg.nil ?_
              refine Runs.cond true rfl (fun _ => ?_) (fun h => by cases h)
              refine Runs.skip ?_
              refine Runs.seq ?_
              refine Runs.block ?_
              refine Runs.seq ?_
              refine Runs.seq ?_
              refine Runs.region ?_
              refine Rg.opp (v := nat c) rfl rfl rfl rfl rfl ?_
              refine Rg.opp (v := nat (idx (unitsP l) l[i].lo)) rfl rfl rfl rfl rfl ?_
              by_cases h7 : c = idx (unitsP l) l[i].lo
              · skip
                refine Rg.opp (v := .bool true) rfl rfl rfl (ev_eqT rfl rfl (h7)) rfl ?_
                refine Rg.nil ?_
                refine Runs.cond true rfl (fun _ => ?_) (fun h => by cases h)
                refine Runs.drawn (is := [0, 1, 2, 3, 4, 5, 6, 7, 8, 9, 10, 11, 12, 13, 14]) (by decide +kernel) ?_
                refine Rg.opp (v := nw0) rfl rfl rfl rfl rfl ?_
                refine Rg.opp (v := nat c) rfl rfl rfl rfl rfl ?_
                refine Rg.opp (v := ptrAt (sAddr nw0) (c * 1)) rfl rfl rfl (ev_idxM (k := c) (hM.get_sl (j := 0) rfl) rfl rfl (by omega) rfl rfl rfl (by decide)) rfl ?_
                refine Rg.opp (v := nv[c]) rfl rfl rfl (ev_ldM (k := c) (hM.get_sl (j := 0) rfl) rfl (by omega) rfl rfl rfl rfl) rfl ?_
                refine Rg.opp (v := nat (idx (unitsP l) l[i].up)) rfl rfl rfl rfl rfl ?_
                refine Rg.opp (v := nw0) rfl rfl rfl rfl rfl ?_
                refine Rg.opp (v := nat c) rfl rfl rfl rfl rfl ?_
                refine Rg.opp (v := ptrAt (sAddr nw0) (c * 1)) rfl rfl rfl (ev_idxM (k := c) (hM.get_sl (j := 0) rfl) rfl rfl (by omega) rfl rfl rfl (by decide)) rfl ?_
                refine Rg.opp (v := nv[c]) rfl rfl rfl (ev_ldM (k := c) (hM.get_sl (j := 0) rfl) rfl (by omega) rfl rfl rfl rfl) rfl ?_
                refine Rg.opp (v := nat (idx (unitsP l) l[i].up)) rfl rfl rfl rfl rfl ?_
                refine Rg.opp (v := ptrAt (sAddr (nv[c])) ((idx (unitsP l) l[i].up) * 1)) rfl rfl rfl (ev_idxM (k := idx (unitsP l) l[i].up) (hM.get_sl (j := (unitsP l).length + c + 2) (show (rowsT ov (mat (unitsP l).length mm (unitsP l).length) ++ rowsT nv (mat (unitsP l).length (updC mm m' (idx (unitsP l) l[i].lo) (idx (unitsP l) l[i].up) c) (unitsP l).length))[(unitsP l).length + c]? = _ from (List.getElem?_append_right (by rw [rowsT_len hov]; omega)).trans (by rw [rowsT_len hov, Nat.add_sub_cancel_left]; exact rowsT_get hnv (by omega) (by omega)))) rfl rfl (by simp; omega) rfl rfl rfl (by decide)) rfl ?_
                refine Rg.opp (v := nat ((updC mm m' (idx (unitsP l) l[i].lo) (idx (unitsP l) l[i].up) c) c ((idx (unitsP l) l[i].up)))) rfl rfl rfl (ev_ldM (k := (idx (unitsP l) l[i].up)) (hM.get_sl (j := (unitsP l).length + c + 2) (show (rowsT ov (mat (unitsP l).length mm (unitsP l).length) ++ rowsT nv (mat (unitsP l).length (updC mm m' (idx (unitsP l) l[i].lo) (idx (unitsP l) l[i].up) c) (unitsP l).length))[(unitsP l).length + c]? = _ from (List.getElem?_append_right (by rw [rowsT_len hov]; omega)).trans (by rw [rowsT_len hov, Nat.add_sub_cancel_left]; exact rowsT_get hnv (by omega) (by omega)))) rfl (by simp; omega) (by simp) rfl rfl rfl) rfl ?_
                refine Rg.opp (v := nat (max ((updC mm m' (idx (unitsP l) l[i].lo) (idx (unitsP l) l[i].up) c) c ((idx (unitsP l) l[i].up))) (1))) rfl rfl rfl (ev_maxN (a := (updC mm m' (idx (unitsP l) l[i].lo) (idx (unitsP l) l[i].up) c) c ((idx (unitsP l) l[i].up))) (b := 1) rfl rfl) rfl ?_
                refine Rg.opp (v := ptrAt (sAddr (nv[c])) ((idx (unitsP l) l[i].up) * 1)) rfl rfl rfl (ev_idxM (k := idx (unitsP l) l[i].up) (hM.get_sl (j := (unitsP l).length + c + 2) (show (rowsT ov (mat (unitsP l).length mm (unitsP l).length) ++ rowsT nv (mat (unitsP l).length (updC mm m' (idx (unitsP l) l[i].lo) (idx (unitsP l) l[i].up) c) (unitsP l).length))[(unitsP l).length + c]? = _ from (List.getElem?_append_right (by rw [rowsT_len hov]; omega)).trans (by rw [rowsT_len hov, Nat.add_sub_cancel_left]; exact rowsT_get hnv (by omega) (by omega)))) rfl rfl (by simp; omega) rfl rfl rfl (by decide)) rfl ?_
                refine Rg.stoM (f := encN) (j := (unitsP l).length + c + 2) (k := idx (unitsP l) l[i].up) (max ((updC mm m' (idx (unitsP l) l[i].lo) (idx (unitsP l) l[i].up) c) c ((idx (unitsP l) l[i].up))) (1)) hM rfl rfl rfl rfl (show (rowsT ov (mat (unitsP l).length mm (unitsP l).length) ++ rowsT nv (mat (unitsP l).length (updC mm m' (idx (unitsP l) l[i].lo) (idx (unitsP l) l[i].up) c) (unitsP l).length))[(unitsP l).length + c]? = _ from (List.getElem?_append_right (by rw [rowsT_len hov]; omega)).trans (by rw [rowsT_len hov, Nat.add_sub_cancel_left]; exact rowsT_get hnv (by omega) (by omega))) rfl rfl (by simp; omega) rfl rfl rfl rfl rfl (fun Hc hM => ?_)
                replace hM : Mem Hu Hc ((.sl 1 nw0 (List.map encV nv)) :: (.sl 1 ow (List.map encV ov)) :: (rowsT ov (mat (unitsP l).length mm (unitsP l).length) ++ rowsT nv (mat (unitsP l).length (upd1 (updC mm m' (idx (unitsP l) l[i].lo) (idx (unitsP l) l[i].up) c) c (idx (unitsP l) l[i].up) (max ((updC mm m' (idx (unitsP l) l[i].lo) (idx (unitsP l) l[i].up) c) c ((idx (unitsP l) l[i].up))) (1))) (unitsP l).length))) := by
                  have h0 := hM
                  have e0 : (rowsT ov (mat (unitsP l).length mm (unitsP l).length) ++ rowsT nv (mat (unitsP l).length (updC mm m' (idx (unitsP l) l[i].lo) (idx (unitsP l) l[i].up) c) (unitsP l).length)).set ((unitsP l).length + c) (.sl 1 nv[c] (List.map encN (((List.range (unitsP l).length).map ((updC mm m' (idx (unitsP l) l[i].lo) (idx (unitsP l) l[i].up) c) c)).set (idx (unitsP l) l[i].up) (max ((updC mm m' (idx (unitsP l) l[i].lo) (idx (unitsP l) l[i].up) c) c ((idx (unitsP l) l[i].up))) (1))))) = rowsT ov (mat (unitsP l).length mm (unitsP l).length) ++ rowsT nv (mat (unitsP l).length (upd1 (updC mm m' (idx (unitsP l) l[i].lo) (idx (unitsP l) l[i].up) c) c (idx (unitsP l) l[i].up) (max ((updC mm m' (idx (unitsP l) l[i].lo) (idx (unitsP l) l[i].up) c) c ((idx (unitsP l) l[i].up))) (1))) (unitsP l).length) := by
                    rw [List.set_append_right _ _ (by rw [rowsT_len hov]; omega), rowsT_len hov, Nat.add_sub_cancel_left, rowsT_sto hnv (by omega) (by omega)]
                  rw [← e0]; exact h0
                refine Rg.nil ?_
                refine Runs.seq ?_
                refine Runs.region ?_
                refine Rg.opp (v := ow) rfl rfl rfl rfl rfl ?_
                refine Rg.opp (v := nat c) rfl rfl rfl rfl rfl ?_
                refine Rg.opp (v := ptrAt (sAddr ow) (c * 1)) rfl rfl rfl (ev_idxM (k := c) (hM.get_sl (j := 1) rfl) rfl rfl (by omega) rfl rfl rfl (by decide)) rfl ?_
                refine Rg.opp (v := ov[c]) rfl rfl rfl (ev_ldM (k := c) (hM.get_sl (j := 1) rfl) rfl (by omega) rfl rfl rfl rfl) rfl ?_
                refine Rg.opp (v := nat (idx (unitsP l) l[i].lo)) rfl rfl rfl rfl rfl ?_
                refine Rg.opp (v := ptrAt (sAddr (ov[c])) ((idx (unitsP l) l[i].lo) * 1)) rfl rfl rfl (ev_idxM (k := idx (unitsP l) l[i].lo) (hM.get_sl (j := c + 2) (show (rowsT ov (mat (unitsP l).length mm (unitsP l).length) ++ rowsT nv (mat (unitsP l).length (upd1 (updC mm m' (idx (unitsP l) l[i].lo) (idx (unitsP l) l[i].up) c) c (idx (unitsP l) l[i].up) (max ((updC mm m' (idx (unitsP l) l[i].lo) (idx (unitsP l) l[i].up) c) c ((idx (unitsP l) l[i].up))) (1))) (unitsP l).length))[c]? = _ from (List.getElem?_append_left (by rw [rowsT_len hov]; omega)).trans (rowsT_get hov (by omega) (by omega)))) rfl rfl (by simp; omega) rfl rfl rfl (by decide)) rfl ?_
                refine Rg.opp (v := nat (mm c (idx (unitsP l) l[i].lo))) rfl rfl rfl (ev_ldM (k := (idx (unitsP l) l[i].lo)) (hM.get_sl (j := c + 2) (show (rowsT ov (mat (unitsP l).length mm (unitsP l).length) ++ rowsT nv (mat (unitsP l).length (upd1 (updC mm m' (idx (unitsP l) l[i].lo) (idx (unitsP l) l[i].up) c) c (idx (unitsP l) l[i].up) (max ((updC mm m' (idx (unitsP l) l[i].lo) (idx (unitsP l) l[i].up) c) c ((idx (unitsP l) l[i].up))) (1))) (unitsP l).length))[c]? = _ from (List.getElem?_append_left (by rw [rowsT_len hov]; omega)).trans (rowsT_get hov (by omega) (by omega)))) rfl (by simp; omega) (by simp) rfl rfl rfl) rfl ?_
                by_cases h8 : 0 < mm c (idx (unitsP l) l[i].lo)
                · skip
                  refine Rg.opp (v := .bool true) rfl rfl rfl (ev_gtT rfl rfl (h8)) rfl ?_
                  refine Rg.nil ?_
                  refine Runs.cond true rfl (fun _ => ?_) (fun h => by cases h)
                  refine Runs.drawn (is := [0, 1, 2, 3, 4, 5, 6, 7, 8, 9, 10, 11, 12, 13, 14, 15, 16, 17, 18, 19, 20, 21, 22, 23]) (by decide +kernel) ?_
                  refine Rg.opp (v := nw0) rfl rfl rfl rfl rfl ?_
                  refine Rg.opp (v := nat c) rfl rfl rfl rfl rfl ?_
                  refine Rg.opp (v := ptrAt (sAddr nw0) (c * 1)) rfl rfl rfl (ev_idxM (k := c) (hM.get_sl (j := 0) rfl) rfl rfl (by omega) rfl rfl rfl (by decide)) rfl ?_
                  refine Rg.opp (v := nv[c]) rfl rfl rfl (ev_ldM (k := c) (hM.get_sl (j := 0) rfl) rfl (by omega) rfl rfl rfl rfl) rfl ?_
                  refine Rg.opp (v := nat (idx (unitsP l) l[i].up)) rfl rfl rfl rfl rfl ?_
                  refine Rg.opp (v := nw0) rfl rfl rfl rfl rfl ?_
                  refine Rg.opp (v := nat c) rfl rfl rfl rfl rfl ?_
                  refine Rg.opp (v := ptrAt (sAddr nw0) (c * 1)) rfl rfl rfl (ev_idxM (k := c) (hM.get_sl (j := 0) rfl) rfl rfl (by omega) rfl rfl rfl (by decide)) rfl ?_
                  refine Rg.opp (v := nv[c]) rfl rfl rfl (ev_ldM (k := c) (hM.get_sl (j := 0) rfl) rfl (by omega) rfl rfl rfl rfl) rfl ?_
                  refine Rg.opp (v := nat (idx (unitsP l) l[i].up)) rfl rfl rfl rfl rfl ?_
                  refine Rg.opp (v := ptrAt (sAddr (nv[c])) ((idx (unitsP l) l[i].up) * 1)) rfl rfl rfl (ev_idxM (k := idx (unitsP l) l[i].up) (hM.get_sl (j := (unitsP l).length + c + 2) (show (rowsT ov (mat (unitsP l).length mm (unitsP l).length) ++ rowsT nv (mat (unitsP l).length (upd1 (updC mm m' (idx (unitsP l) l[i].lo) (idx (unitsP l) l[i].up) c) c (idx (unitsP l) l[i].up) (max ((updC mm m' (idx (unitsP l) l[i].lo) (idx (unitsP l) l[i].up) c) c ((idx (unitsP l) l[i].up))) (1))) (unitsP l).length))[(unitsP l).length + c]? = _ from (List.getElem?_append_right (by rw [rowsT_len hov]; omega)).trans (by rw [rowsT_len hov, Nat.add_sub_cancel_left]; exact rowsT_get hnv (by omega) (by omega)))) rfl rfl (by simp; omega) rfl rfl rfl (by decide)) rfl ?_
                  refine Rg.opp (v := nat ((upd1 (updC mm m' (idx (unitsP l) l[i].lo) (idx (unitsP l) l[i].up) c) c (idx (unitsP l) l[i].up) (max ((updC mm m' (idx (unitsP l) l[i].lo) (idx (unitsP l) l[i].up) c) c ((idx (unitsP l) l[i].up))) (1))) c ((idx (unitsP l) l[i].up)))) rfl rfl rfl (ev_ldM (k := (idx (unitsP l) l[i].up)) (hM.get_sl (j := (unitsP l).length + c + 2) (show (rowsT ov (mat (unitsP l).length mm (unitsP l).length) ++ rowsT nv (mat (unitsP l).length (upd1 (updC mm m' (idx (unitsP l) l[i].lo) (idx (unitsP l) l[i].up) c) c (idx (unitsP l) l[i].up) (max ((updC mm m' (idx (unitsP l) l[i].lo) (idx (unitsP l) l[i].up) c) c ((idx (unitsP l) l[i].up))) (1))) (unitsP l).length))[(unitsP l).length + c]? = _ from (List.getElem?_append_right (by rw [rowsT_len hov]; omega)).trans (by rw [rowsT_len hov, Nat.add_sub_cancel_left]; exact rowsT_get hnv (by omega) (by omega)))) rfl (by simp; omega) (by simp) rfl rfl rfl) rfl ?_
                  refine Rg.opp (v := ow) rfl rfl rfl rfl rfl ?_
                  refine Rg.opp (v := nat c) rfl rfl rfl rfl rfl ?_
                  refine Rg.opp (v := ptrAt (sAddr ow) (c * 1)) rfl rfl rfl (ev_idxM (k := c) (hM.get_sl (j := 1) rfl) rfl rfl (by omega) rfl rfl rfl (by decide)) rfl ?_
                  refine Rg.opp (v := ov[c]) rfl rfl rfl (ev_ldM (k := c) (hM.get_sl (j := 1) rfl) rfl (by omega) rfl rfl rfl rfl) rfl ?_
                  refine Rg.opp (v := nat (idx (unitsP l) l[i].lo)) rfl rfl rfl rfl rfl ?_
                  refine Rg.opp (v := ptrAt (sAddr (ov[c])) ((idx (unitsP l) l[i].lo) * 1)) rfl rfl rfl (ev_idxM (k := idx (unitsP l) l[i].lo) (hM.get_sl (j := c + 2) (show (rowsT ov (mat (unitsP l).length mm (unitsP l).length) ++ rowsT nv (mat (unitsP l).length (upd1 (updC mm m' (idx (unitsP l) l[i].lo) (idx (unitsP l) l[i].up) c) c (idx (unitsP l) l[i].up) (max ((updC mm m' (idx (unitsP l) l[i].lo) (idx (unitsP l) l[i].up) c) c ((idx (unitsP l) l[i].up))) (1))) (unitsP l).length))[c]? = _ from (List.getElem?_append_left (by rw [rowsT_len hov]; omega)).trans (rowsT_get hov (by omega) (by omega)))) rfl rfl (by simp; omega) rfl rfl rfl (by decide)) rfl ?_
                  refine Rg.opp (v := nat (mm c (idx (unitsP l) l[i].lo))) rfl rfl rfl (ev_ldM (k := (idx (unitsP l) l[i].lo)) (hM.get_sl (j := c + 2) (show (rowsT ov (mat (unitsP l).length mm (unitsP l).length) ++ rowsT nv (mat (unitsP l).length (upd1 (updC mm m' (idx (unitsP l) l[i].lo) (idx (unitsP l) l[i].up) c) c (idx (unitsP l) l[i].up) (max ((updC mm m' (idx (unitsP l) l[i].lo) (idx (unitsP l) l[i].up) c) c ((idx (unitsP l) l[i].up))) (1))) (unitsP l).length))[c]? = _ from (List.getElem?_append_left (by rw [rowsT_len hov]; omega)).trans (rowsT_get hov (by omega) (by omega)))) rfl (by simp; omega) (by simp) rfl rfl rfl) rfl ?_
                  refine Rg.opp (v := nat (mm c (idx (unitsP l) l[i].lo) + 1)) rfl rfl rfl (ev_addN (b := 1) rfl rfl (by have := hm7 (by omega) c (idx (unitsP l) l[i].lo); omega)) rfl ?_
                  refine Rg.opp (v := nat (min (8) (mm c (idx (unitsP l) l[i].lo) + 1))) rfl rfl rfl (ev_minN (a := 8) (b := mm c (idx (unitsP l) l[i].lo) + 1) rfl rfl) rfl ?_
                  refine Rg.opp (v := nat (max ((upd1 (updC mm m' (idx (unitsP l) l[i].lo) (idx (unitsP l) l[i].up) c) c (idx (unitsP l) l[i].up) (max ((updC mm m' (idx (unitsP l) l[i].lo) (idx (unitsP l) l[i].up) c) c ((idx (unitsP l) l[i].up))) (1))) c ((idx (unitsP l) l[i].up))) (min (8) (mm c (idx (unitsP l) l[i].lo) + 1)))) rfl rfl rfl (ev_maxN (a := (upd1 (updC mm m' (idx (unitsP l) l[i].lo) (idx (unitsP l) l[i].up) c) c (idx (unitsP l) l[i].up) (max ((updC mm m' (idx (unitsP l) l[i].lo) (idx (unitsP l) l[i].up) c) c ((idx (unitsP l) l[i].up))) (1))) c ((idx (unitsP l) l[i].up))) (b := min (8) (mm c (idx (unitsP l) l[i].lo) + 1)) rfl rfl) rfl ?_
                  refine Rg.opp (v := ptrAt (sAddr (nv[c])) ((idx (unitsP l) l[i].up) * 1)) rfl rfl rfl (ev_idxM (k := idx (unitsP l) l[i].up) (hM.get_sl (j := (unitsP l).length + c + 2) (show (rowsT ov (mat (unitsP l).length mm (unitsP l).length) ++ rowsT nv (mat (unitsP l).length (upd1 (updC mm m' (idx (unitsP l) l[i].lo) (idx (unitsP l) l[i].up) c) c (idx (unitsP l) l[i].up) (max ((updC mm m' (idx (unitsP l) l[i].lo) (idx (unitsP l) l[i].up) c) c ((idx (unitsP l) l[i].up))) (1))) (unitsP l).length))[(unitsP l).length + c]? = _ from (List.getElem?_append_right (by rw [rowsT_len hov]; omega)).trans (by rw [rowsT_len hov, Nat.add_sub_cancel_left]; exact rowsT_get hnv (by omega) (by omega)))) rfl rfl (by simp; omega) rfl rfl rfl (by decide)) rfl ?_
                  refine Rg.stoM (f := encN) (j := (unitsP l).length + c + 2) (k := idx (unitsP l) l[i].up) (max ((upd1 (updC mm m' (idx (unitsP l) l[i].lo) (idx (unitsP l) l[i].up) c) c (idx (unitsP l) l[i].up) (max ((updC mm m' (idx (unitsP l) l[i].lo) (idx (unitsP l) l[i].up) c) c ((idx (unitsP l) l[i].up))) (1))) c ((idx (unitsP l) l[i].up))) (min (8) (mm c (idx (unitsP l) l[i].lo) + 1))) hM rfl rfl rfl rfl (show (rowsT ov (mat (unitsP l).length mm (unitsP l).length) ++ rowsT nv (mat (unitsP l).length (upd1 (updC mm m' (idx (unitsP l) l[i].lo) (idx (unitsP l) l[i].up) c) c (idx (unitsP l) l[i].up) (max ((updC mm m' (idx (unitsP l) l[i].lo) (idx (unitsP l) l[i].up) c) c ((idx (unitsP l) l[i].up))) (1))) (unitsP l).length))[(unitsP l).length + c]? = _ from (List.getElem?_append_right (by rw [rowsT_len hov]; omega)).trans (by rw [rowsT_len hov, Nat.add_sub_cancel_left]; exact rowsT_get hnv (by omega) (by omega))) rfl rfl (by simp; omega) rfl rfl rfl rfl rfl (fun Hc hM => ?_)
                  replace hM : Mem Hu Hc ((.sl 1 nw0 (List.map encV nv)) :: (.sl 1 ow (List.map encV ov)) :: (rowsT ov (mat (unitsP l).length mm (unitsP l).length) ++ rowsT nv (mat (unitsP l).length (upd1 (upd1 (updC mm m' (idx (unitsP l) l[i].lo) (idx (unitsP l) l[i].up) c) c (idx (unitsP l) l[i].up) (max ((updC mm m' (idx (unitsP l) l[i].lo) (idx (unitsP l) l[i].up) c) c ((idx (unitsP l) l[i].up))) (1))) c (idx (unitsP l) l[i].up) (max ((upd1 (updC mm m' (idx (unitsP l) l[i].lo) (idx (unitsP l) l[i].up) c) c (idx (unitsP l) l[i].up) (max ((updC mm m' (idx (unitsP l) l[i].lo) (idx (unitsP l) l[i].up) c) c ((idx (unitsP l) l[i].up))) (1))) c ((idx (unitsP l) l[i].up))) (min (8) (mm c (idx (unitsP l) l[i].lo) + 1)))) (unitsP l).length))) := by
                    have h0 := hM
                    have e0 : (rowsT ov (mat (unitsP l).length mm (unitsP l).length) ++ rowsT nv (mat (unitsP l).length (upd1 (updC mm m' (idx (unitsP l) l[i].lo) (idx (unitsP l) l[i].up) c) c (idx (unitsP l) l[i].up) (max ((updC mm m' (idx (unitsP l) l[i].lo) (idx (unitsP l) l[i].up) c) c ((idx (unitsP l) l[i].up))) (1))) (unitsP l).length)).set ((unitsP l).length + c) (.sl 1 nv[c] (List.map encN (((List.range (unitsP l).length).map ((upd1 (updC mm m' (idx (unitsP l) l[i].lo) (idx (unitsP l) l[i].up) c) c (idx (unitsP l) l[i].up) (max ((updC mm m' (idx (unitsP l) l[i].lo) (idx (unitsP l) l[i].up) c) c ((idx (unitsP l) l[i].up))) (1))) c)).set (idx (unitsP l) l[i].up) (max ((upd1 (updC mm m' (idx (unitsP l) l[i].lo) (idx (unitsP l) l[i].up) c) c (idx (unitsP l) l[i].up) (max ((updC mm m' (idx (unitsP l) l[i].lo) (idx (unitsP l) l[i].up) c) c ((idx (unitsP l) l[i].up))) (1))) c ((idx (unitsP l) l[i].up))) (min (8) (mm c (idx (unitsP l) l[i].lo) + 1)))))) = rowsT ov (mat (unitsP l).length mm (unitsP l).length) ++ rowsT nv (mat (unitsP l).length (upd1 (upd1 (updC mm m' (idx (unitsP l) l[i].lo) (idx (unitsP l) l[i].up) c) c (idx (unitsP l) l[i].up) (max ((updC mm m' (idx (unitsP l) l[i].lo) (idx (unitsP l) l[i].up) c) c ((idx (unitsP l) l[i].up))) (1))) c (idx (unitsP l) l[i].up) (max ((upd1 (updC mm m' (idx (unitsP l) l[i].lo) (idx (unitsP l) l[i].up) c) c (idx (unitsP l) l[i].up) (max ((updC mm m' (idx (unitsP l) l[i].lo) (idx (unitsP l) l[i].up) c) c ((idx (unitsP l) l[i].up))) (1))) c ((idx (unitsP l) l[i].up))) (min (8) (mm c (idx (unitsP l) l[i].lo) + 1)))) (unitsP l).length) := by
                      rw [List.set_append_right _ _ (by rw [rowsT_len hov]; omega), rowsT_len hov, Nat.add_sub_cancel_left, rowsT_sto hnv (by omega) (by omega)]
                    rw [← e0]; exact h0
                  refine Rg.nil ?_
                  refine Runs.region ?_
                  refine Rg.opp (v := nat c) rfl rfl rfl rfl rfl ?_
                  refine Rg.opp (v := nat (c + 1)) rfl rfl rfl (ev_addN (b := 1) rfl rfl (by omega)) rfl ?_
                  refine Rg.opp (v := nat (c + 1)) rfl rfl rfl rfl rfl ?_
                  refine Rg.nil ?_
                  refine ⟨(unitsP l).length - (c + 1), by omega, c + 1, rfl, by rw [← updC_tt h7 h8]; exact hM, hc8, Is.of ⟨rfl, rfl, rfl, rfl, rfl, rfl, rfl, rfl, rfl, rfl, rfl, rfl, rfl, rfl, rfl, rfl, rfl, rfl, trivial⟩⟩
                · skip
                  refine Rg.opp (v := .bool false) rfl rfl rfl (ev_gtF rfl rfl (h8)) rfl ?_
                  refine Rg.nil ?_
                  refine Runs.cond false rfl (fun h => by cases h) (fun _ => ?_)
                  refine Runs.skip ?_
                  refine Runs.region ?_
                  refine Rg.opp (v := nat c) rfl rfl rfl rfl rfl ?_
                  refine Rg.opp (v := nat (c + 1)) rfl rfl rfl (ev_addN (b := 1) rfl rfl (by omega)) rfl ?_
                  refine Rg.opp (v := nat (c + 1)) rfl rfl rfl rfl rfl ?_
                  refine Rg.nil ?_
                  refine ⟨(unitsP l).length - (c + 1), by omega, c + 1, rfl, by rw [← updC_tf h7 h8]; exact hM, hc8, Is.of ⟨rfl, rfl, rfl, rfl, rfl, rfl, rfl, rfl, rfl, rfl, rfl, rfl, rfl, rfl, rfl, rfl, rfl, rfl, trivial⟩⟩
              · skip
                refine Rg.opp (v := .bool false) rfl rfl rfl (ev_eqF rfl rfl (h7)) rfl ?_
                refine Rg.nil ?_
                refine Runs.cond false rfl (fun h => by cases h) (fun _ => ?_)
                refine Runs.skip ?_
                refine Runs.seq ?_
                refine Runs.region ?_
                refine Rg.opp (v := ow) rfl rfl rfl rfl rfl ?_
                refine Rg.opp (v := nat c) rfl rfl rfl rfl rfl ?_
                refine Rg.opp (v := ptrAt (sAddr ow) (c * 1)) rfl rfl rfl (ev_idxM (k := c) (hM.get_sl (j := 1) rfl) rfl rfl (by omega) rfl rfl rfl (by decide)) rfl ?_
                refine Rg.opp (v := ov[c]) rfl rfl rfl (ev_ldM (k := c) (hM.get_sl (j := 1) rfl) rfl (by omega) rfl rfl rfl rfl) rfl ?_
                refine Rg.opp (v := nat (idx (unitsP l) l[i].lo)) rfl rfl rfl rfl rfl ?_
                refine Rg.opp (v := ptrAt (sAddr (ov[c])) ((idx (unitsP l) l[i].lo) * 1)) rfl rfl rfl (ev_idxM (k := idx (unitsP l) l[i].lo) (hM.get_sl (j := c + 2) (show (rowsT ov (mat (unitsP l).length mm (unitsP l).length) ++ rowsT nv (mat (unitsP l).length (updC mm m' (idx (unitsP l) l[i].lo) (idx (unitsP l) l[i].up) c) (unitsP l).length))[c]? = _ from (List.getElem?_append_left (by rw [rowsT_len hov]; omega)).trans (rowsT_get hov (by omega) (by omega)))) rfl rfl (by simp; omega) rfl rfl rfl (by decide)) rfl ?_
                refine Rg.opp (v := nat (mm c (idx (unitsP l) l[i].lo))) rfl rfl rfl (ev_ldM (k := (idx (unitsP l) l[i].lo)) (hM.get_sl (j := c + 2) (show (rowsT ov (mat (unitsP l).length mm (unitsP l).length) ++ rowsT nv (mat (unitsP l).length (updC mm m' (idx (unitsP l) l[i].lo) (idx (unitsP l) l[i].up) c) (unitsP l).length))[c]? = _ from (List.getElem?_append_left (by rw [rowsT_len hov]; omega)).trans (rowsT_get hov (by omega) (by omega)))) rfl (by simp; omega) (by simp) rfl rfl rfl) rfl ?_
                by_cases h9 : 0 < mm c (idx (unitsP l) l[i].lo)
                · skip
                  refine Rg.opp (v := .bool true) rfl rfl rfl (ev_gtT rfl rfl (h9)) rfl ?_
                  refine Rg.nil ?_
                  refine Runs.cond true rfl (fun _ => ?_) (fun h => by cases h)
                  refine Runs.drawn (is := [0, 1, 2, 3, 4, 5, 6, 7, 8, 9, 10, 11, 12, 13, 14, 15, 16, 17, 18, 19, 20, 21, 22, 23]) (by decide +kernel) ?_
                  refine Rg.opp (v := nw0) rfl rfl rfl rfl rfl ?_
                  refine Rg.opp (v := nat c) rfl rfl rfl rfl rfl ?_
                  refine Rg.opp (v := ptrAt (sAddr nw0) (c * 1)) rfl rfl rfl (ev_idxM (k := c) (hM.get_sl (j := 0) rfl) rfl rfl (by omega) rfl rfl rfl (by decide)) rfl ?_
                  refine Rg.opp (v := nv[c]) rfl rfl rfl (ev_ldM (k := c) (hM.get_sl (j := 0) rfl) rfl (by omega) rfl rfl rfl rfl) rfl ?_
                  refine Rg.opp (v := nat (idx (unitsP l) l[i].up)) rfl rfl rfl rfl rfl ?_
                  refine Rg.opp (v := nw0) rfl rfl rfl rfl rfl ?_
                  refine Rg.opp (v := nat c) rfl rfl rfl rfl rfl ?_
                  refine Rg.opp (v := ptrAt (sAddr nw0) (c * 1)) rfl rfl rfl (ev_idxM (k := c) (hM.get_sl (j := 0) rfl) rfl rfl (by omega) rfl rfl rfl (by decide)) rfl ?_
                  refine Rg.opp (v := nv[c]) rfl rfl rfl (ev_ldM (k := c) (hM.get_sl (j := 0) rfl) rfl (by omega) rfl rfl rfl rfl) rfl ?_
                  refine Rg.opp (v := nat (idx (unitsP l) l[i].up)) rfl rfl rfl rfl rfl ?_
                  refine Rg.opp (v := ptrAt (sAddr (nv[c])) ((idx (unitsP l) l[i].up) * 1)) rfl rfl rfl (ev_idxM (k := idx (unitsP l) l[i].up) (hM.get_sl (j := (unitsP l).length + c + 2) (show (rowsT ov (mat (unitsP l).length mm (unitsP l).length) ++ rowsT nv (mat (unitsP l).length (updC mm m' (idx (unitsP l) l[i].lo) (idx (unitsP l) l[i].up) c) (unitsP l).length))[(unitsP l).length + c]? = _ from (List.getElem?_append_right (by rw [rowsT_len hov]; omega)).trans (by rw [rowsT_len hov, Nat.add_sub_cancel_left]; exact rowsT_get hnv (by omega) (by omega)))) rfl rfl (by simp; omega) rfl rfl rfl (by decide)) rfl ?_
                  refine Rg.opp (v := nat ((updC mm m' (idx (unitsP l) l[i].lo) (idx (unitsP l) l[i].up) c) c ((idx (unitsP l) l[i].up)))) rfl rfl rfl (ev_ldM (k := (idx (unitsP l) l[i].up)) (hM.get_sl (j := (unitsP l).length + c + 2) (show (rowsT ov (mat (unitsP l).length mm (unitsP l).length) ++ rowsT nv (mat (unitsP l).length (updC mm m' (idx (unitsP l) l[i].lo) (idx (unitsP l) l[i].up) c) (unitsP l).length))[(unitsP l).length + c]? = _ from (List.getElem?_append_right (by rw [rowsT_len hov]; omega)).trans (by rw [rowsT_len hov, Nat.add_sub_cancel_left]; exact rowsT_get hnv (by omega) (by omega)))) rfl (by simp; omega) (by simp) rfl rfl rfl) rfl ?_
                  refine Rg.opp (v := ow) rfl rfl rfl rfl rfl ?_
                  refine Rg.opp (v := nat c) rfl rfl rfl rfl rfl ?_
                  refine Rg.opp (v := ptrAt (sAddr ow) (c * 1)) rfl rfl rfl (ev_idxM (k := c) (hM.get_sl (j := 1) rfl) rfl rfl (by omega) rfl rfl rfl (by decide)) rfl ?_
                  refine Rg.opp (v := ov[c]) rfl rfl rfl (ev_ldM (k := c) (hM.get_sl (j := 1) rfl) rfl (by omega) rfl rfl rfl rfl) rfl ?_
                  refine Rg.opp (v := nat (idx (unitsP l) l[i].lo)) rfl rfl rfl rfl rfl ?_
                  refine Rg.opp (v := ptrAt (sAddr (ov[c])) ((idx (unitsP l) l[i].lo) * 1)) rfl rfl rfl (ev_idxM (k := idx (unitsP l) l[i].lo) (hM.get_sl (j := c + 2) (show (rowsT ov (mat (unitsP l).length mm (unitsP l).length) ++ rowsT nv (mat (unitsP l).length (updC mm m' (idx (unitsP l) l[i].lo) (idx (unitsP l) l[i].up) c) (unitsP l).length))[c]? = _ from (List.getElem?_append_left (by rw [rowsT_len hov]; omega)).trans (rowsT_get hov (by omega) (by omega)))) rfl rfl (by simp; omega) rfl rfl rfl (by decide)) rfl ?_
                  refine Rg.opp (v := nat (mm c (idx (unitsP l) l[i].lo))) rfl rfl rfl (ev_ldM (k := (idx (unitsP l) l[i].lo)) (hM.get_sl (j := c + 2) (show (rowsT ov (mat (unitsP l).length mm (unitsP l).length) ++ rowsT nv (mat (unitsP l).length (updC mm m' (idx (unitsP l) l[i].lo) (idx (unitsP l) l[i].up) c) (unitsP l).length))[c]? = _ from (List.getElem?_append_left (by rw [rowsT_len hov]; omega)).trans (rowsT_get hov (by omega) (by omega)))) rfl (by simp; omega) (by simp) rfl rfl rfl) rfl ?_
                  refine Rg.opp (v := nat (mm c (idx (unitsP l) l[i].lo) + 1)) rfl rfl rfl (ev_addN (b := 1) rfl rfl (by have := hm7 (by omega) c (idx (unitsP l) l[i].lo); omega)) rfl ?_
                  refine Rg.opp (v := nat (min (8) (mm c (idx (unitsP l) l[i].lo) + 1))) rfl rfl rfl (ev_minN (a := 8) (b := mm c (idx (unitsP l) l[i].lo) + 1) rfl rfl) rfl ?_
                  refine Rg.opp (v := nat (max ((updC mm m' (idx (unitsP l) l[i].lo) (idx (unitsP l) l[i].up) c) c ((idx (unitsP l) l[i].up))) (min (8) (mm c (idx (unitsP l) l[i].lo) + 1)))) rfl rfl rfl (ev_maxN (a := (updC mm m' (idx (unitsP l) l[i].lo) (idx (unitsP l) l[i].up) c) c ((idx (unitsP l) l[i].up))) (b := min (8) (mm c (idx (unitsP l) l[i].lo) + 1)) rfl rfl) rfl ?_
                  refine Rg.opp (v := ptrAt (sAddr (nv[c])) ((idx (unitsP l) l[i].up) * 1)) rfl rfl rfl (ev_idxM (k := idx (unitsP l) l[i].up) (hM.get_sl (j := (unitsP l).length + c + 2) (show (rowsT ov (mat (unitsP l).length mm (unitsP l).length) ++ rowsT nv (mat (unitsP l).length (updC mm m' (idx (unitsP l) l[i].lo) (idx (unitsP l) l[i].up) c) (unitsP l).length))[(unitsP l).length + c]? = _ from (List.getElem?_append_right (by rw [rowsT_len hov]; omega)).trans (by rw [rowsT_len hov, Nat.add_sub_cancel_left]; exact rowsT_get hnv (by omega) (by omega)))) rfl rfl (by simp; omega) rfl rfl rfl (by decide)) rfl ?_
                  refine Rg.stoM (f := encN) (j := (unitsP l).length + c + 2) (k := idx (unitsP l) l[i].up) (max ((updC mm m' (idx (unitsP l) l[i].lo) (idx (unitsP l) l[i].up) c) c ((idx (unitsP l) l[i].up))) (min (8) (mm c (idx (unitsP l) l[i].lo) + 1))) hM rfl rfl rfl rfl (show (rowsT ov (mat (unitsP l).length mm (unitsP l).length) ++ rowsT nv (mat (unitsP l).length (updC mm m' (idx (unitsP l) l[i].lo) (idx (unitsP l) l[i].up) c) (unitsP l).length))[(unitsP l).length + c]? = _ from (List.getElem?_append_right (by rw [rowsT_len hov]; omega)).trans (by rw [rowsT_len hov, Nat.add_sub_cancel_left]; exact rowsT_get hnv (by omega) (by omega))) rfl rfl (by simp; omega) rfl rfl rfl rfl rfl (fun Hc hM => ?_)
                  replace hM : Mem Hu Hc ((.sl 1 nw0 (List.map encV nv)) :: (.sl 1 ow (List.map encV ov)) :: (rowsT ov (mat (unitsP l).length mm (unitsP l).length) ++ rowsT nv (mat (unitsP l).length (upd1 (updC mm m' (idx (unitsP l) l[i].lo) (idx (unitsP l) l[i].up) c) c (idx (unitsP l) l[i].up) (max ((updC mm m' (idx (unitsP l) l[i].lo) (idx (unitsP l) l[i].up) c) c ((idx (unitsP l) l[i].up))) (min (8) (mm c (idx (unitsP l) l[i].lo) + 1)))) (unitsP l).length))) := by
                    have h0 := hM
                    have e0 : (rowsT ov (mat (unitsP l).length mm (unitsP l).length) ++ rowsT nv (mat (unitsP l).length (updC mm m' (idx (unitsP l) l[i].lo) (idx (unitsP l) l[i].up) c) (unitsP l).length)).set ((unitsP l).length + c) (.sl 1 nv[c] (List.map encN (((List.range (unitsP l).length).map ((updC mm m' (idx (unitsP l) l[i].lo) (idx (unitsP l) l[i].up) c) c)).set (idx (unitsP l) l[i].up) (max ((updC mm m' (idx (unitsP l) l[i].lo) (idx (unitsP l) l[i].up) c) c ((idx (unitsP l) l[i].up))) (min (8) (mm c (idx (unitsP l) l[i].lo) + 1)))))) = rowsT ov (mat (unitsP l).length mm (unitsP l).length) ++ rowsT nv (mat (unitsP l).length (upd1 (updC mm m' (idx (unitsP l) l[i].lo) (idx (unitsP l) l[i].up) c) c (idx (unitsP l) l[i].up) (max ((updC mm m' (idx (unitsP l) l[i].lo) (idx (unitsP l) l[i].up) c) c ((idx (unitsP l) l[i].up))) (min (8) (mm c (idx (unitsP l) l[i].lo) + 1)))) (unitsP l).length) := by
                      rw [List.set_append_right _ _ (by rw [rowsT_len hov]; omega), rowsT_len hov, Nat.add_sub_cancel_left, rowsT_sto hnv (by omega) (by omega)]
                    rw [← e0]; exact h0
                  refine Rg.nil ?_
                  refine Runs.region ?_
                  refine Rg.opp (v := nat c) rfl rfl rfl rfl rfl ?_
                  refine Rg.opp (v := nat (c + 1)) rfl rfl rfl (ev_addN (b := 1) rfl rfl (by omega)) rfl ?_
                  refine Rg.opp (v := nat (c + 1)) rfl rfl rfl rfl rfl ?_
                  refine Rg.nil ?_
                  refine ⟨(unitsP l).length - (c + 1), by omega, c + 1, rfl, by rw [← updC_ft h7 h9]; exact hM, hc8, Is.of ⟨rfl, rfl, rfl, rfl, rfl, rfl, rfl, rfl, rfl, rfl, rfl, rfl, rfl, rfl, rfl, rfl, rfl, rfl, trivial⟩⟩
                · skip
                  refine Rg.opp (v := .bool false) rfl rfl rfl (ev_gtF rfl rfl (h9)) rfl ?_
                  refine Rg.nil ?_
                  refine Runs.cond false rfl (fun h => by cases h) (fun _ => ?_)
                  refine Runs.skip ?_
                  refine Runs.region ?_
                  refine Rg.opp (v := nat c) rfl rfl rfl rfl rfl ?_
                  refine Rg.opp (v := nat (c + 1)) rfl rfl rfl (ev_addN (b := 1) rfl rfl (by omega)) rfl ?_
                  refine Rg.opp (v := nat (c + 1)) rfl rfl rfl rfl rfl ?_
                  refine Rg.nil ?_
                  refine ⟨(unitsP l).length - (c + 1), by omega, c + 1, rfl, by rw [← updC_ff h7 h9]; exact hM, hc8, Is.of ⟨rfl, rfl, rfl, rfl, rfl, rfl, rfl, rfl, rfl, rfl, rfl, rfl, rfl, rfl, rfl, rfl, rfl, rfl, trivial⟩⟩
            · skip
              have hc : c = (unitsP l).length := by omega
              subst hc
              refine Rg.opp (v := .bool false) rfl rfl rfl (ev_ltF rfl rfl (hc8)) rfl ?_
              refine Rg.nil ?_
              refine Runs.cond false rfl (fun h => by cases h) (fun _ => ?_)
              refine Runs.exit ?_
              refine Runs.region ?_
              refine Rg.opp (v := nat i) rfl rfl rfl rfl rfl ?_
              refine Rg.opp (v := nat (i + 1)) rfl rfl rfl (ev_addN (b := 1) rfl rfl (by omega)) rfl ?_
              refine Rg.opp (v := nat (i + 1)) rfl rfl rfl rfl rfl ?_
              refine Rg.nil ?_
              refine ⟨l.length - (i + 1), by omega, i + 1, updC mm m' (idx (unitsP l) l[i].lo) (idx (unitsP l) l[i].up) ((unitsP l).length), rfl, hM, hlt, by rw [arcsUp_succ hlt, if_neg hkd]; simp only [prs, List.map_append, List.map_cons, List.map_nil]; exact hP.arc (hm7 (by omega)) hm0 (by omega), Is.of ⟨rfl, rfl, rfl, rfl, rfl, rfl, rfl, rfl, rfl, rfl, rfl, rfl, trivial⟩⟩
        · skip
          have hi2 : i = l.length := by omega
          subst hi2
          refine Rg.opp (v := .bool false) rfl rfl rfl (ev_ltF rfl rfl (hlt)) rfl ?_
          refine Rg.nil ?_
          refine Runs.cond false rfl (fun h => by cases h) (fun _ => ?_)
          refine Runs.exit ?_
          refine Runs.region ?_
          refine Rg.opp (v := nw0) rfl rfl rfl rfl rfl ?_
          refine Rg.opp (v := nw0) rfl rfl rfl rfl rfl ?_
          refine Rg.nil ?_
          refine Runs.region ?_
          refine Rg.opp (v := nat (kk + 1)) rfl rfl rfl rfl rfl ?_
          refine Rg.opp (v := nat (kk + 1 + 1)) rfl rfl rfl (ev_addN (b := 1) rfl rfl (by omega)) rfl ?_
          refine Rg.opp (v := nat (kk + 1 + 1)) rfl rfl rfl rfl rfl ?_
          refine Rg.nil ?_
          refine ⟨8 - (kk + 1), by omega, kk + 1, nw0, nv, m', rfl, by have h := Mem.mid (A := [.sl 1 nw0 (nv.map encV)]) (L := .sl 1 ow (ov.map encV) :: rowsT ov (mat (unitsP l).length mm (unitsP l).length)) (B := rowsT nv (mat (unitsP l).length m' (unitsP l).length)) hM; exact h, by omega, hnv, hP.far hF, Is.of ⟨rfl, rfl, rfl, rfl, rfl, rfl, rfl, rfl, trivial⟩⟩
    · skip
      refine Rg.opp (v := .bool false) rfl rfl rfl (ev_leF rfl rfl (h8)) rfl ?_
      refine Rg.nil ?_
      refine Runs.cond false rfl (fun h => by cases h) (fun _ => ?_)
      refine Runs.exit ?_
      refine Runs.seq ?_
      refine Runs.region ?_
      refine Rg.opp (v := ow) rfl rfl rfl rfl rfl ?_
      refine Rg.opp (v := ow) rfl rfl rfl rfl rfl ?_
      refine Rg.nil ?_
      refine Runs.ret ?_
      refine ⟨ow, rfl, ?_⟩
      have hkk : kk = 8 := by omega
      subst hkk
      refine ⟨heu.trans hM.ext, ov, mm, hM.get_sl (j := 0) rfl, hov, fun c hc => hM.get_sl (j := c + 1) (show (rowsT ov (mat (unitsP l).length mm (unitsP l).length))[c]? = _ from rowsT_get hov (by omega) (by omega)), hF⟩

end Go.Proofs.Ytdhbclplondmjaa.C

end

section
/- Described relations: what holds of them; the law on Older, plain. -/
set_option linter.unusedVariables false
set_option linter.unusedSimpArgs false
namespace Go.Proofs.Ytdhbclplondmjaa.C
open Go.RowKit Go.Sort

theorem nodup_sub {α : Type} [DecidableEq α] : ∀ (ys zs : List α), ys.Nodup → (∀ y ∈ ys, y ∈ zs) → ys.length ≤ zs.length
  | [], _, _, _ => Nat.zero_le _
  | y :: ys, zs, hd, hs => by
    rw [List.nodup_cons] at hd
    have hy := hs y List.mem_cons_self
    have := nodup_sub ys (zs.erase y) hd.2 fun z hz => by
      have hne : z ≠ y := fun e => hd.1 (e ▸ hz)
      exact (List.mem_erase_of_ne hne).2 (hs z (List.mem_cons_of_mem _ hz))
    rw [List.length_erase_of_mem hy] at this
    have := List.length_pos_of_mem hy
    simp only [List.length_cons]; omega

/-- Relations as they are described. -/
structure Seenly (l : List Rel) : Prop where
  len : l.length ≤ 8
  good : ∀ r ∈ l, Good r
  six : ∀ r ∈ l, ∃ i j, i < 6 ∧ j < 6 ∧ r.up = nm i ∧ r.lo = nm j
  ne : ∀ r ∈ l, r.up ≠ r.lo

theorem seenly (xs : List Seen) (h : xs.length ≤ 8) : Seenly (xs.map mk) := by
  refine ⟨by simpa using h, fun r hr => ?_, fun r hr => ?_, fun r hr => ?_⟩
  · obtain ⟨s, _, rfl⟩ := List.mem_map.1 hr
    exact fun K => check_good s K
  · obtain ⟨s, _, rfl⟩ := List.mem_map.1 hr
    exact ⟨mkA s, mkB s, (mk_le s).1, (mk_le s).2, rfl, rfl⟩
  · obtain ⟨s, _, rfl⟩ := List.mem_map.1 hr
    exact mk_ne s

theorem Seenly.units {l : List Rel} (h : Seenly l) : (unitsP l).length ≤ 6 := by
  have := nodup_sub (unitsP l) ((List.range 6).map nm) (strict_nodup (unitsP_strict l)) fun y hy => by
    obtain ⟨r, hr, hy⟩ := List.mem_flatMap.1 (mem_unitsP.1 hy)
    obtain ⟨i, j, hi, hj, e1, e2⟩ := h.six r hr
    rcases List.mem_cons.1 hy with e | e
    · exact List.mem_map.2 ⟨i, List.mem_range.2 hi, by rw [e, e1]⟩
    · exact List.mem_map.2 ⟨j, List.mem_range.2 hj, by rw [List.mem_singleton.1 e, e2]⟩
  simpa using this

theorem fits_T {H : Heap} {v : Value} {xs : List Seen} (h : Sl H 3 v (seens xs)) (hx : xs.length ≤ 8) : big tab 10 [v] H = some (.bool true, H) := by
  obtain ⟨a, c, rfl, _⟩ := h
  have := fits_runs (H := H) a (seens xs).length c
  rwa [decide_eq_true (by rw [seens_len]; omega)] at this
theorem fits_F {H : Heap} {v : Value} {xs : List Seen} (h : Sl H 3 v (seens xs)) (hx : ¬ xs.length ≤ 8) : big tab 10 [v] H = some (.bool false, H) := by
  obtain ⟨a, c, rfl, _⟩ := h
  have := fits_runs (H := H) a (seens xs).length c
  rwa [decide_eq_false (by rw [seens_len]; omega)] at this
theorem index_not {H : Heap} {v : Value} {xs : List Nm} {x : Nm} (h : Sl H 1 v (xs.map encS)) (hx : x ∉ xs) (hl : xs.length < 2 ^ 40) : big tab 22 [v, str x] H = some (.int .i64 (-1), H) := by
  have h1 := index_runs x (xs := xs) h hl
  have h2 : indexOf xs x = -1 := indexOf_none fun i hi e => hx (by rw [← e]; exact List.getElem_mem hi)
  rw [h2] at h1
  exact h1

/-- The law's relations. -/
theorem makeS_runs {H : Heap} {v : Value} {xs : List Seen} (h : Sl H 3 v (seens xs)) (hsm : ∀ s ∈ xs, s.k < 256 ∧ s.u < 256 ∧ s.l < 256) (hx : xs.length ≤ 8) :
    ∃ r H1, big tab 11 [v] H = some (r, H1) ∧ Ext H H1 ∧ Sl H1 3 r (List.map relC (xs.map mk)) := by
  obtain ⟨r, H1, h1, he, p, ha⟩ := make_runs h hsm (by omega)
  rw [List.take_of_length_le (by omega)] at ha
  exact ⟨r, H1, h1, he, ha.sl (by rw [rels_len, List.length_map]; unfold unk; omega)⟩
theorem unitsS_runs {H : Heap} {v : Value} {l : List Rel} (h : Sl H 3 v (rels l)) (hl : l.length < 2 ^ 16) :
    ∃ r H1, big tab 20 [v] H = some (r, H1) ∧ Ext H H1 ∧ Sl H1 1 r (List.map encS (unitsP l)) := by
  obtain ⟨r, H1, h1, he, p, ha⟩ := lawUnits_runs h (by omega)
  rw [← units_eq] at ha
  refine ⟨r, H1, h1, he, ha.sl ?_⟩
  have : (unitsL l).length ≤ 0 + (allNames l).length := foldl_len _ _
  rw [allNames_len] at this
  rw [strs_len, units_eq]
  unfold unk; omega

theorem rch_far {arcs : List Arc} {n a b x : Nat} (wf : WF n arcs) (hn : n ≤ 8) (h : Far (prs arcs) 8 a b x) : 0 < x ↔ Rch arcs a b := by
  rw [h.pos]
  constructor
  · rintro ⟨k, h1, h2, h3⟩; exact ⟨k, h1, h3⟩
  · rintro ⟨k, h1, h2⟩
    obtain ⟨m, g1, g2, g3⟩ := W.short (N := n) (fun p hp => by obtain ⟨c, hc, rfl⟩ := List.mem_map.1 hp; exact wf.up c hc) k h1 h2
    exact ⟨m, g1, by omega, g3⟩

end Go.Proofs.Ytdhbclplondmjaa.C

end

section
/- Cycles and what is implied, plain. -/
set_option linter.unusedVariables false
set_option linter.unusedSimpArgs false
namespace Go.Proofs.Ytdhbclplondmjaa.C
open Go.RowKit Go.Sort

def Cyc (arcs : List Arc) : Prop := ∃ x, Rch arcs x x
open Classical in
noncomputable def cycB (arcs : List Arc) : Bool := decide (Cyc arcs)
theorem cycB_iff {arcs : List Arc} : cycB arcs = true ↔ Cyc arcs := by unfold cycB; simp
theorem cycB_not {arcs : List Arc} : cycB arcs = false ↔ ¬ Cyc arcs := by unfold cycB; simp

theorem Rch.trans {arcs : List Arc} {a b c : Nat} (h : Rch arcs a b) (k : Rch arcs b c) : Rch arcs a c := by
  obtain ⟨m, hm, h⟩ := h
  obtain ⟨n, hn, k⟩ := k
  exact ⟨m + n, by omega, h.trans k⟩
theorem Rch.arc {arcs : List Arc} {a : Arc} (h : a ∈ arcs) : Rch arcs a.lo a.up := ⟨1, Nat.le_refl _, a.lo, rfl, List.mem_map.2 ⟨a, h, rfl⟩⟩

/-- Along arcs that keep a numbering, it grows. -/
theorem W.grows {arcs : List (Nat × Nat)} {f : Nat → Nat} (hf : ∀ p ∈ arcs, f p.1 < f p.2) : ∀ {n a b : Nat}, W arcs n a b → f a + n ≤ f b
  | 0, a, b, h => by cases h; omega
  | n + 1, a, b, ⟨c, h, hm⟩ => by
    have h1 := W.grows hf h
    have h2 := hf _ hm
    simp only at h2
    omega

/-- A walk longer than there are places comes back. -/
theorem W.back {arcs : List (Nat × Nat)} {N n a b : Nat} (hN : ∀ p ∈ arcs, p.2 < N) (h : W arcs n a b) (hn : N < n) : ∃ c m, 1 ≤ m ∧ W arcs m c c := by
  obtain ⟨v, h1, h2, h3⟩ := h.places
  have hex : ∃ i j, i < j ∧ j < n ∧ v (i + 1) = v (j + 1) := by
    refine Classical.byContradiction fun hno => ?_
    have hd : ((List.range n).map fun i => v (i + 1)).Nodup := map_nodup fun i j hi hj e => hno ⟨i, j, hi, hj, e⟩
    have := nodup_le N _ hd fun x hx => by
      obtain ⟨i, hi, rfl⟩ := List.mem_map.1 hx
      exact hN _ (h3 i (List.mem_range.1 hi))
    simp at this
    omega
  obtain ⟨i, j, hij, hj, e⟩ := hex
  have w : W arcs (j - i) (v (i + 1)) (v (i + 1 + (j - i))) := W.of_places fun k _ hk => h3 k (by omega)
  rw [show i + 1 + (j - i) = j + 1 by omega, ← e] at w
  exact ⟨_, _, by omega, w⟩

theorem kahn_acyc {arcs : List Arc} {n : Nat} {o : List Nat} (wf : WF n arcs) (h : Kahn arcs n o []) (hl : o.length = n) : ¬ Cyc arcs := by
  rintro ⟨x, m, hm, hw⟩
  have hnd : o.Nodup := by simpa using h.nd
  have hall : ∀ y, y < n → y ∈ o := by
    intro y hy
    refine Classical.byContradiction fun hno => ?_
    have := nodup_le n (y :: o) (List.nodup_cons.2 ⟨hno, hnd⟩) fun z hz => by
      rcases List.mem_cons.1 hz with e | e
      · rw [e]; exact hy
      · exact h.lt z (by simpa using e)
    simp only [List.length_cons] at this; omega
  have := W.grows (f := fun x => o.idxOf x) (arcs := prs arcs) (fun p hp => by
    obtain ⟨a, ha, rfl⟩ := List.mem_map.1 hp
    have hu := hall _ (wf.up a ha)
    have hk : o.idxOf a.up < o.length := List.idxOf_lt_length_iff.2 hu
    have ht := h.topo _ hk a ha (by rw [List.getElem_idxOf])
    obtain ⟨i, hi, e⟩ := List.mem_iff_getElem.1 ht
    rw [List.length_take] at hi
    rw [List.getElem_take] at e
    have hi2 : i < o.length := by omega
    show o.idxOf a.lo < o.idxOf a.up
    have : o.idxOf a.lo = i := by rw [← e]; exact hnd.idxOf_getElem i hi2
    omega) hw
  omega

theorem kahn_cyc {arcs : List Arc} {n : Nat} {o : List Nat} (wf : WF n arcs) (h : Kahn arcs n o []) (hl : ¬ o.length = n) : Cyc arcs := by
  have hnd : o.Nodup := by simpa using h.nd
  have hlt : o.length < n := by
    have := nodup_le n o hnd fun z hz => h.lt z (by simpa using hz)
    omega
  have hex : ∃ x, x < n ∧ x ∉ o := by
    refine Classical.byContradiction fun hno => ?_
    have := nodup_sub (List.range n) o List.nodup_range fun y hy => by
      refine Classical.byContradiction fun hy2 => hno ⟨y, List.mem_range.1 hy, hy2⟩
    simp at this; omega
  have step : ∀ x, x < n → x ∉ o → ∃ a ∈ arcs, a.up = x ∧ a.lo ∉ o ∧ a.lo < n := by
    intro x hx hno
    have h1 : ¬ cnt (remO arcs o) x = 0 := fun h0 => hno (by simpa using (h.mem x hx).2 h0)
    rw [cnt_zero] at h1
    refine Classical.byContradiction fun hne => h1 fun a ha e => hne ⟨a, (List.mem_filter.1 ha).1, e, by simpa using (List.mem_filter.1 ha).2, wf.lo a (List.mem_filter.1 ha).1⟩
  obtain ⟨x, hx, hxo⟩ := hex
  have walk : ∀ m, ∃ y, y < n ∧ y ∉ o ∧ W (prs arcs) m y x := by
    intro m
    induction m with
    | zero => exact ⟨x, hx, hxo, rfl⟩
    | succ m ih =>
      obtain ⟨y, hy, hyo, hw⟩ := ih
      obtain ⟨a, ha, e, hlo, hln⟩ := step y hy hyo
      refine ⟨a.lo, hln, hlo, ?_⟩
      have h1 : W (prs arcs) 1 a.lo y := ⟨a.lo, rfl, List.mem_map.2 ⟨a, ha, by rw [e]⟩⟩
      have := h1.trans hw
      rwa [Nat.add_comm] at this
  obtain ⟨y, _, _, hw⟩ := walk (n + 1)
  obtain ⟨c, m, hm, hw⟩ := W.back (N := n) (fun p hp => by obtain ⟨a, ha, rfl⟩ := List.mem_map.1 hp; exact wf.up a ha) hw (by omega)
  exact ⟨c, m, hm, hw⟩

theorem kahn_ok {arcs : List Arc} {n : Nat} {o : List Nat} (wf : WF n arcs) (h : Kahn arcs n o []) : (decide (o.length = n)) = !cycB arcs := by
  by_cases q : o.length = n
  · rw [decide_eq_true q, cycB_not.2 (kahn_acyc wf h q)]; rfl
  · rw [decide_eq_false q, cycB_iff.2 (kahn_cyc wf h q)]; rfl

/-- Is an arc implied by the others? -/
noncomputable def impB (arcs : List Arc) (a : Arc) (b : Arc) : Bool := if b.up = a.up then decide (b.i < a.i) else rchB arcs b.up a.up
noncomputable def impliedB (arcs : List Arc) (a : Arc) : Bool := (nextOf arcs a.lo).any (impB arcs a)

theorem any_at {α : Type} {p : α → Bool} {xs : List α} {k : Nat} (h : k < xs.length) (hp : p xs[k] = true) : xs.any p = true := List.any_eq_true.2 ⟨_, List.getElem_mem h, hp⟩
theorem any_no {α : Type} {p : α → Bool} {xs : List α} (h : ∀ k (hk : k < xs.length), p xs[k] = false) : xs.any p = false := by
  rw [List.any_eq_false]
  intro x hx
  obtain ⟨k, hk, rfl⟩ := List.mem_iff_getElem.1 hx
  rw [h k hk]; decide
theorem below_succ {α : Type} {p : α → Bool} {xs : List α} {j : Nat} (h : ∀ k (hk : k < xs.length), k < j → p xs[k] = false) (hj : ∀ hk : j < xs.length, p xs[j] = false) : ∀ k (hk : k < xs.length), k < j + 1 → p xs[k] = false := by
  intro k hk hkj
  rcases Nat.lt_or_ge k j with q | q
  · exact h k hk q
  · have : k = j := by omega
    subst this; exact hj hk

noncomputable def redL (arcs : List Arc) (j : Nat) : List Nat := ((arcs.take j).filter fun a => !impliedB arcs a).map (·.i)
theorem redL_succ {arcs : List Arc} {j : Nat} (h : j < arcs.length) : redL arcs (j + 1) = if impliedB arcs arcs[j] = true then redL arcs j else redL arcs j ++ [arcs[j].i] := by
  unfold redL
  rw [← List.take_append_getElem h, List.filter_append, List.map_append]
  by_cases e : impliedB arcs arcs[j] = true
  · simp [e]
  · simp [e]
theorem redL_len (arcs : List Arc) (j : Nat) : (redL arcs j).length ≤ arcs.length := by
  unfold redL
  rw [List.length_map]
  refine Nat.le_trans (List.length_filter_le _ _) ?_
  rw [List.length_take]; omega

/-- The pairs of the closure, up to some place. -/
noncomputable def closeIn (arcs : List Arc) (i k : Nat) : List (Nat × Nat) := ((List.range k).filter (rchB arcs i)).map fun k => (i, k)
noncomputable def closeL (arcs : List Arc) (n i : Nat) : List (Nat × Nat) := (List.range i).flatMap fun i => closeIn arcs i n
theorem closeIn_succ (arcs : List Arc) (i k : Nat) : closeIn arcs i (k + 1) = if rchB arcs i k = true then closeIn arcs i k ++ [(i, k)] else closeIn arcs i k := by
  unfold closeIn
  rw [List.range_succ, List.filter_append, List.map_append]
  by_cases e : rchB arcs i k = true <;> simp [e]
theorem closeL_succ (arcs : List Arc) (n i : Nat) : closeL arcs n (i + 1) = closeL arcs n i ++ closeIn arcs i n := by
  unfold closeL
  rw [List.range_succ, List.flatMap_append]
  simp
theorem closeIn_len (arcs : List Arc) (i k : Nat) : (closeIn arcs i k).length ≤ k := by
  unfold closeIn
  rw [List.length_map]
  exact Nat.le_trans (List.length_filter_le _ _) (by simp)
theorem closeL_len (arcs : List Arc) (n : Nat) : ∀ i, (closeL arcs n i).length ≤ i * n
  | 0 => by simp [closeL]
  | i + 1 => by
    rw [closeL_succ, List.length_append, Nat.succ_mul]
    have := closeL_len arcs n i
    have := closeIn_len arcs i n
    omega

abbrev pairC (names : List Nm) (p : Nat × Nat) : List Value := [str (names.getD p.1 []), str (names.getD p.2 [])]
theorem encS_getD {names : List Nm} {k : Nat} (h : k < names.length) : encS names[k] = [str (names.getD k [])] := by
  simp [List.getD_eq_getElem?_getD, h]

/-- A call in a drawn region that makes one slice. -/
theorem quiet_sl {f : FuncId} {args : List Value} {H : Heap} {T : Tab} {sz : Nat} {es : Value → List (List Value)} (h : ∃ r H1, big T f args (H.map Blk.freeze) = some (r, H1) ∧ Mem (H.map Blk.freeze) H1 [.sl sz r (es r)]) :
    ∃ r K, quiet (big T) f args H = some (r, K) ∧ Ext H K ∧ Sl K sz r (es r) := by
  obtain ⟨r, H1, h1, hm⟩ := h
  obtain ⟨K, h2, h3, h4, h5⟩ := quiet_some h1 hm.ext
  exact ⟨r, K, h2, h3, (hm.get_sl (j := 0) rfl).sees h5⟩

end Go.Proofs.Ytdhbclplondmjaa.C

end

section
/- implied, Closure, Reduction, run. -/
set_option linter.unusedVariables false
set_option linter.unusedSimpArgs false
set_option maxRecDepth 100000
set_option maxHeartbeats 4000000
namespace Go.Proofs.Ytdhbclplondmjaa.C
open Go.RowKit Go.Sort

theorem implied_runs {H : Heap} {gp : Nat} {names : List Nm} {arcs : List Arc} {a : Arc} (hG : GraphAt H gp names arcs) (wf : WF names.length arcs) (hal : a.lo < names.length) (hau : a.up < names.length) (hn : names.length ≤ 2 ^ 20) (ha : arcs.length ≤ 2 ^ 20) :
    ∃ r H1, big tab 39 [.pointer (some ⟨gp, 0, none⟩), .agg (arcC a).toArray] H = some (r, H1) ∧ r = .bool (impliedB arcs a) ∧ Ext H H1 := by
  obtain ⟨an, aa, ax, M, nx, own, hG⟩ := hG
  have hnl := hG.len
  have hyl := next_len arcs a.lo
  have hM := Mem.start H
  refine big_of_runs rfl rfl rfl ?_
  obtain ⟨z, hz⟩ := startC_mkS Try.f39 [.pointer (some ⟨gp, 0, none⟩), .agg (arcC a).toArray]
  rw [show startC (39, Try.f39).snd [.pointer (some ⟨gp, 0, none⟩), .agg (arcC a).toArray] = _ from hz]
  clear hz
  refine Runs.cut (n := 39) (l := [(0, .pointer (some ⟨gp, 0, none⟩)), (1, .agg (arcC a).toArray)]) (Is.of ⟨rfl, rfl, rfl, rfl, trivial⟩) (fun a0 => ?_)
  refine Runs.seq ?_
  refine Runs.region ?_
  refine Rg.new (v := fun p => .pointer (some ⟨p, 0, none⟩)) (X := .row 3 (arcC a) true true) (th := fun p => .box p 3 (arcC a)) hM rfl rfl rfl rfl rfl rfl (fun _ => rfl) (fun pa Hc hM _ => ?_)
  refine Rg.opp (v := .bool false) rfl rfl rfl rfl rfl ?_
  refine Rg.nil ?_
  refine Runs.seq ?_
  refine Runs.seq ?_
  refine Runs.drawn (is := [0, 1, 2, 3, 4, 5, 6, 7, 8, 9]) (by decide +kernel) ?_
  refine Rg.opp (v := .pointer (some ⟨gp, 0, none⟩)) rfl rfl rfl rfl rfl ?_
  refine Rg.opp (v := .pointer (some ⟨gp, 0, none⟩)) rfl rfl rfl rfl rfl ?_
  refine Rg.opp (v := .pointer (some ⟨gp, 3, none⟩)) rfl rfl rfl (ev_fld (o := 0) (p := (75, 3)) rfl rfl rfl rfl rfl (by decide)) rfl ?_
  refine Rg.opp (v := ax) rfl rfl rfl (ev_ldb (hM.ext.get hG.box) rfl rfl rfl rfl rfl) rfl ?_
  refine Rg.opp (v := .pointer (some ⟨pa, 1, none⟩)) rfl rfl rfl (ev_fld (o := 0) (p := (3, 1)) rfl rfl rfl rfl rfl (by decide)) rfl ?_
  refine Rg.opp (v := nat a.lo) rfl rfl rfl (ev_ldb (hM.get_box (j := 0) rfl) rfl rfl rfl rfl rfl) rfl ?_
  refine Rg.opp (v := ptrAt (sAddr ax) (a.lo * 1)) rfl rfl rfl (ev_idxM (k := a.lo) (hG.hnext.sees hM.ext.sees) rfl rfl (by omega) rfl rfl rfl (by decide)) rfl ?_
  refine Rg.opp (v := nx[a.lo]) rfl rfl rfl (ev_ldM (k := a.lo) (hG.hnext.sees hM.ext.sees) rfl (by omega) rfl rfl rfl rfl) rfl ?_
  refine Rg.opp (v := nat ((nextOf arcs a.lo).length)) rfl rfl rfl (ev_lenM ((hG.each a.lo (by have := hG.len; omega)).sees hM.ext.sees) rfl rfl) rfl ?_
  refine Rg.opp (v := nat 0) rfl rfl rfl rfl rfl ?_
  refine Rg.nil ?_
  refine Runs.block ?_
  refine Runs.loop (fun m s Hc => ∃ (j : Nat), m = (nextOf arcs a.lo).length - j ∧ Mem H Hc ([.box pa 3 (arcC a)]) ∧ (j ≤ (nextOf arcs a.lo).length) ∧ (∀ k (hk : k < (nextOf arcs a.lo).length), k < j → impB arcs a (nextOf arcs a.lo)[k] = false) ∧ Is s 39 [(0, .pointer (some ⟨gp, 0, none⟩)), (3, .pointer (some ⟨pa, 0, none⟩)), (14, nx[a.lo]), (15, nat ((nextOf arcs a.lo).length)), (16, nat j)]) _
    ⟨0, rfl, hM, Nat.zero_le _, fun k hk h => by omega, Is.of ⟨rfl, rfl, rfl, rfl, rfl, rfl, rfl, rfl, rfl, rfl, trivial⟩⟩ ?_
  rintro m s Hc ⟨j, rfl, hM, hj, hno, hs⟩
  obtain ⟨a1, rfl⟩ := hs.mk1
  clear hs
  refine Runs.seq ?_
  refine Runs.region ?_
  by_cases hlt : j < (nextOf arcs a.lo).length
  · skip
    have hbu : (nextOf arcs a.lo)[j].up < names.length := wf.up _ (next_mem.1 (List.getElem_mem hlt)).1
    have h2i : a.lo < nx.length := by omega
    refine Rg.opp (v := .bool true) rfl rfl rfl (ev_ltT rfl rfl (hlt)) rfl ?_
    refine Rg.nil ?_
    refine Runs.seq ?_
    refine Runs.cond true rfl (fun _ => ?_) (fun h => by cases h)
    refine Runs.skip ?_
    refine Runs.seq ?_
    refine Runs.block ?_
    refine Runs.seq ?_
    refine Runs.region ?_
    refine Rg.opp (v := ptrAt (sAddr (nx[a.lo])) (j * 3)) rfl rfl rfl (ev_idxM (k := j) ((hG.each a.lo (by have := hG.len; omega)).sees hM.ext.sees) rfl rfl (hlt) rfl rfl rfl (by decide)) rfl ?_
    refine Rg.opp (v := .agg (arcC ((nextOf arcs a.lo)[j])).toArray) rfl rfl rfl (ev_ldAM (k := j) ((hG.each a.lo (by have := hG.len; omega)).sees hM.ext.sees) rfl (hlt) rfl rfl rfl) rfl ?_
    refine Rg.new (v := fun p => .pointer (some ⟨p, 0, none⟩)) (X := .row 3 [.int .i64 0, .int .i64 0, .int .i64 0] true true) (th := fun p => .box p 3 [.int .i64 0, .int .i64 0, .int .i64 0]) hM rfl rfl rfl rfl rfl rfl (fun _ => rfl) (fun p2 Hc hM _ => ?_)
    refine Rg.stob (j := 0) (cs' := arcC ((nextOf arcs a.lo)[j])) hM rfl rfl rfl rfl rfl rfl rfl rfl rfl rfl (Nat.le_of_ble_eq_true rfl) rfl (fun Hc (hM : Mem H Hc ([.box p2 3 (arcC ((nextOf arcs a.lo)[j])), .box pa 3 (arcC a)])) => ?_)
    refine Rg.nil ?_
    refine Runs.seq ?_
    refine Runs.region ?_
    refine Rg.opp (v := .pointer (some ⟨p2, 2, none⟩)) rfl rfl rfl (ev_fld (o := 0) (p := (3, 2)) rfl rfl rfl rfl rfl (by decide)) rfl ?_
    refine Rg.opp (v := nat ((nextOf arcs a.lo)[j].up)) rfl rfl rfl (ev_ldb (hM.get_box (j := 0) rfl) rfl rfl rfl rfl rfl) rfl ?_
    refine Rg.opp (v := .pointer (some ⟨pa, 2, none⟩)) rfl rfl rfl (ev_fld (o := 0) (p := (3, 2)) rfl rfl rfl rfl rfl (by decide)) rfl ?_
    refine Rg.opp (v := nat a.up) rfl rfl rfl (ev_ldb (hM.get_box (j := 1) rfl) rfl rfl rfl rfl rfl) rfl ?_
    by_cases heq : (nextOf arcs a.lo)[j].up = a.up
    · skip
      refine Rg.opp (v := .bool true) rfl rfl rfl (ev_eqT rfl rfl (heq)) rfl ?_
      refine Rg.nil ?_
      refine Runs.cond true rfl (fun _ => ?_) (fun h => by cases h)
      refine Runs.seq ?_
      refine Runs.region ?_
      refine Rg.opp (v := .pointer (some ⟨p2, 0, none⟩)) rfl rfl rfl (ev_fld (o := 0) (p := (3, 0)) rfl rfl rfl rfl rfl (by decide)) rfl ?_
      refine Rg.opp (v := nat ((nextOf arcs a.lo)[j].i)) rfl rfl rfl (ev_ldb (hM.get_box (j := 0) rfl) rfl rfl rfl rfl rfl) rfl ?_
      refine Rg.opp (v := .pointer (some ⟨pa, 0, none⟩)) rfl rfl rfl (ev_fld (o := 0) (p := (3, 0)) rfl rfl rfl rfl rfl (by decide)) rfl ?_
      refine Rg.opp (v := nat a.i) rfl rfl rfl (ev_ldb (hM.get_box (j := 1) rfl) rfl rfl rfl rfl rfl) rfl ?_
      by_cases hlt2 : (nextOf arcs a.lo)[j].i < a.i
      · skip
        refine Rg.opp (v := .bool true) rfl rfl rfl (ev_ltT rfl rfl (hlt2)) rfl ?_
        refine Rg.nil ?_
        refine Runs.cond true rfl (fun _ => ?_) (fun h => by cases h)
        refine Runs.seq ?_
        refine Runs.region ?_
        refine Rg.opp (v := .bool true) rfl rfl rfl rfl rfl ?_
        refine Rg.nil ?_
        refine Runs.ret ?_
        refine ⟨.bool true, rfl, ?_⟩
        refine ⟨?_, hM.ext⟩
        rw [impliedB, any_at hlt (by simp only [impB]; rw [if_pos heq, decide_eq_true hlt2])]
      · skip
        refine Rg.opp (v := .bool false) rfl rfl rfl (ev_ltF rfl rfl (hlt2)) rfl ?_
        refine Rg.nil ?_
        refine Runs.cond false rfl (fun h => by cases h) (fun _ => ?_)
        refine Runs.skip ?_
        refine Runs.region ?_
        refine Rg.opp (v := nat (j + 1)) rfl rfl rfl (ev_addN (b := 1) rfl rfl (by omega)) rfl ?_
        refine Rg.opp (v := nat (j + 1)) rfl rfl rfl rfl rfl ?_
        refine Rg.nil ?_
        refine ⟨(nextOf arcs a.lo).length - (j + 1), by omega, j + 1, rfl, hM.tail, hlt, below_succ hno (fun _ => by simp only [impB]; rw [if_pos heq, decide_eq_false hlt2]), Is.of ⟨rfl, rfl, rfl, rfl, rfl, rfl, rfl, rfl, rfl, rfl, trivial⟩⟩
    · skip
      refine Rg.opp (v := .bool false) rfl rfl rfl (ev_eqF rfl rfl (heq)) rfl ?_
      refine Rg.nil ?_
      refine Runs.cond false rfl (fun h => by cases h) (fun _ => ?_)
      refine Runs.seq ?_
      refine Runs.drawn (is := [0, 1, 2, 3, 4, 5, 6, 7]) (by decide +kernel) ?_
      refine Rg.opp (v := .pointer (some ⟨gp, 0, none⟩)) rfl rfl rfl rfl rfl ?_
      refine Rg.opp (v := .pointer (some ⟨p2, 2, none⟩)) rfl rfl rfl (ev_fld (o := 0) (p := (3, 2)) rfl rfl rfl rfl rfl (by decide)) rfl ?_
      refine Rg.opp (v := nat ((nextOf arcs a.lo)[j].up)) rfl rfl rfl (ev_ldb (hM.get_box (j := 0) rfl) rfl rfl rfl rfl rfl) rfl ?_
      refine Rg.callW rfl rfl rfl rfl (rfl) rfl (quiet_sl (es := fun _ => (reachB arcs names.length (nextOf arcs a.lo)[j].up).map encB) (reached_runs (GraphAt.sees (hM.ext.sees.trans (Sees.freeze _)) ⟨_, _, _, _, _, _, hG⟩) wf hbu hn ha)) (fun rr Hk hP => ?_)
      obtain ⟨hek, hrr⟩ := hP
      replace hM := hM.more hek
      refine Rg.opp (v := .pointer (some ⟨pa, 2, none⟩)) rfl rfl rfl (ev_fld (o := 0) (p := (3, 2)) rfl rfl rfl rfl rfl (by decide)) rfl ?_
      refine Rg.opp (v := nat a.up) rfl rfl rfl (ev_ldb (hM.get_box (j := 1) rfl) rfl rfl rfl rfl rfl) rfl ?_
      refine Rg.opp (v := ptrAt (sAddr rr) (a.up * 1)) rfl rfl rfl (ev_idxM (k := a.up) (hrr) rfl rfl (by rw [reachB_len]; exact hau) rfl rfl rfl (by decide)) rfl ?_
      by_cases hrc : rchB arcs (nextOf arcs a.lo)[j].up a.up = true
      · skip
        refine Rg.opp (v := .bool true) rfl rfl rfl (ev_ldM (k := a.up) (hrr) rfl (by rw [reachB_len]; exact hau) (by show [Value.bool _] = _; rw [reachB_get, hrc]) rfl rfl rfl) rfl ?_
        refine Rg.nil ?_
        refine Runs.cond true rfl (fun _ => ?_) (fun h => by cases h)
        refine Runs.seq ?_
        refine Runs.region ?_
        refine Rg.opp (v := .bool true) rfl rfl rfl rfl rfl ?_
        refine Rg.nil ?_
        refine Runs.ret ?_
        refine ⟨.bool true, rfl, ?_⟩
        refine ⟨?_, hM.ext⟩
        rw [impliedB, any_at hlt (by simp only [impB]; rw [if_neg heq]; exact hrc)]
      · skip
        refine Rg.opp (v := .bool false) rfl rfl rfl (ev_ldM (k := a.up) (hrr) rfl (by rw [reachB_len]; exact hau) (by show [Value.bool _] = _; rw [reachB_get]; simp [hrc]) rfl rfl rfl) rfl ?_
        refine Rg.nil ?_
        refine Runs.cond false rfl (fun h => by cases h) (fun _ => ?_)
        refine Runs.skip ?_
        refine Runs.region ?_
        refine Rg.opp (v := nat (j + 1)) rfl rfl rfl (ev_addN (b := 1) rfl rfl (by omega)) rfl ?_
        refine Rg.opp (v := nat (j + 1)) rfl rfl rfl rfl rfl ?_
        refine Rg.nil ?_
        refine ⟨(nextOf arcs a.lo).length - (j + 1), by omega, j + 1, rfl, hM.tail, hlt, below_succ hno (fun _ => by simp only [impB]; rw [if_neg heq]; simpa using hrc), Is.of ⟨rfl, rfl, rfl, rfl, rfl, rfl, rfl, rfl, rfl, rfl, trivial⟩⟩
  · skip
    refine Rg.opp (v := .bool false) rfl rfl rfl (ev_ltF rfl rfl (hlt)) rfl ?_
    refine Rg.nil ?_
    refine Runs.seq ?_
    refine Runs.cond false rfl (fun h => by cases h) (fun _ => ?_)
    refine Runs.exit ?_
    refine Runs.seq ?_
    refine Runs.region ?_
    refine Rg.opp (v := .bool false) rfl rfl rfl rfl rfl ?_
    refine Rg.nil ?_
    refine Runs.ret ?_
    refine ⟨.bool false, rfl, ?_⟩
    refine ⟨?_, hM.ext⟩
    have hje : j = (nextOf arcs a.lo).length := by omega
    rw [impliedB, any_no fun k hk => hno k hk (by omega)]

theorem closure_runs {H : Heap} {v : Value} {l : List Rel} (hl : Sl H 3 v (rels l)) (hll : l.length ≤ 200) (hg : ∀ r ∈ l, Good r) (hu : (unitsP l).length ≤ 60) :
    ∃ r H1, big tab 23 [v] H = some (r, H1) ∧ ∃ ov, r = .tuple #[ov, nat 0] ∧ Mem H H1 [.sl 2 ov ((closeL (arcsOf l) (unitsP l).length (unitsP l).length).map (pairC (unitsP l)))] := by
  refine big_of_runs rfl rfl rfl ?_
  obtain ⟨z, hz⟩ := startC_mkS Try.f23 [v]
  rw [show startC (23, Try.f23).snd [v] = _ from hz]
  clear hz
  refine Runs.cut (n := 53) (l := [(0, v)]) (Is.of ⟨rfl, rfl, trivial⟩) (fun a0 => ?_)
  refine Runs.seq ?_
  refine Runs.region ?_
  refine Rg.opp (v := .slice none 0 0) rfl rfl rfl rfl rfl ?_
  refine Rg.opp (v := nat 0) rfl rfl rfl rfl rfl ?_
  refine Rg.nil ?_
  refine Runs.seq ?_
  refine Runs.seq ?_
  refine Runs.region ?_
  refine Rg.opp (v := v) rfl rfl rfl rfl rfl ?_
  refine Rg.callW rfl rfl rfl rfl (rfl) rfl (checkP_runs hl hll hg hu) (fun rc Hk hP => ?_)
  obtain ⟨rfl, hec⟩ := hP
  have hM := Mem.start Hk
  refine Rg.opp (v := nat 0) rfl rfl rfl rfl rfl ?_
  refine Rg.nil ?_
  refine Runs.seq ?_
  refine Runs.region ?_
  refine Rg.opp (v := nat 0) rfl rfl rfl rfl rfl ?_
  refine Rg.opp (v := .bool false) rfl rfl rfl (ev_neF rfl rfl (by decide)) rfl ?_
  refine Rg.nil ?_
  refine Runs.cond false rfl (fun h => by cases h) (fun _ => ?_)
  refine Runs.skip ?_
  refine Runs.seq ?_
  refine Runs.region ?_
  refine Rg.opp (v := v) rfl rfl rfl rfl rfl ?_
  refine Rg.callW rfl rfl rfl rfl (rfl) rfl (build_runs (hl.sees hec.sees) (by omega) (by omega)) (fun rb Hb hP => ?_)
  obtain ⟨heb, gp, an, aa, ax, M, nx, own, rfl, hG, hmap⟩ := hP
  have wf := arcs_wf l
  have hal : (arcsOf l).length ≤ l.length := arcsUp_len l l.length
  generalize arcsOf l = arcs at hG wf hal ⊢
  generalize unitsP l = names at hG wf hu hmap ⊢
  have hnl := hG.len
  have hM := Mem.start Hb
  refine Rg.opp (v := .pointer (some ⟨gp, 0, none⟩)) rfl rfl rfl rfl rfl ?_
  refine Rg.nil ?_
  refine Runs.seq ?_
  refine Runs.region ?_
  refine Rg.opp (v := .slice none 0 0) rfl rfl rfl rfl rfl ?_
  refine Rg.nil ?_
  refine Runs.seq ?_
  refine Runs.seq ?_
  refine Runs.region ?_
  refine Rg.opp (v := .pointer (some ⟨gp, 0, none⟩)) rfl rfl rfl rfl rfl ?_
  refine Rg.opp (v := .pointer (some ⟨gp, 0, none⟩)) rfl rfl rfl rfl rfl ?_
  refine Rg.opp (v := .pointer (some ⟨gp, 0, none⟩)) rfl rfl rfl (ev_fld (o := 0) (p := (37, 0)) rfl rfl rfl rfl rfl (by decide)) rfl ?_
  refine Rg.opp (v := an) rfl rfl rfl (ev_ldb (hM.ext.get hG.box) rfl rfl rfl rfl rfl) rfl ?_
  refine Rg.opp (v := nat names.length) rfl rfl rfl (ev_lenM (hG.hnames.sees hM.ext.sees) rfl rfl) rfl ?_
  refine Rg.opp (v := nat 0) rfl rfl rfl rfl rfl ?_
  refine Rg.nil ?_
  refine Runs.block ?_
  refine Runs.loop (fun m s Hc => ∃ (i : Nat) (ov : Value), m = names.length - i ∧ Mem Hb Hc ([.sl 2 ov (List.map (pairC names) (closeL arcs names.length i))]) ∧ (i ≤ names.length) ∧ Is s 53 [(5, .pointer (some ⟨gp, 0, none⟩)), (6, ov), (21, an), (22, nat names.length), (23, nat i)]) _
    ⟨0, .slice none 0 0, rfl, hM.nilSl 2, Nat.zero_le _, Is.of ⟨rfl, rfl, rfl, rfl, rfl, rfl, rfl, rfl, rfl, rfl, trivial⟩⟩ ?_
  rintro m s Hc ⟨i, ov, rfl, hM, hi, hs⟩
  obtain ⟨a1, rfl⟩ := hs.mk1
  clear hs
  refine Runs.seq ?_
  refine Runs.region ?_
  by_cases hlt : i < names.length
  · skip
    refine Rg.opp (v := .bool true) rfl rfl rfl (ev_ltT rfl rfl (hlt)) rfl ?_
    refine Rg.nil ?_
    refine Runs.seq ?_
    refine Runs.cond true rfl (fun _ => ?_) (fun h => by cases h)
    refine Runs.skip ?_
    refine Runs.seq ?_
    refine Runs.block ?_
    refine Runs.seq ?_
    refine Runs.region ?_
    refine Rg.opp (v := nat i) rfl rfl rfl rfl rfl ?_
    refine Rg.opp (v := ptrAt (sAddr an) (i * 1)) rfl rfl rfl (ev_idxM (k := i) (hG.hnames.sees hM.ext.sees) rfl rfl (hlt) rfl rfl rfl (by decide)) rfl ?_
    refine Rg.opp (v := str (names.getD i [])) rfl rfl rfl (ev_ldM (k := i) (hG.hnames.sees hM.ext.sees) rfl (hlt) (encS_getD hlt) rfl rfl rfl) rfl ?_
    refine Rg.opp (v := nat i) rfl rfl rfl rfl rfl ?_
    refine Rg.opp (v := str (names.getD i [])) rfl rfl rfl rfl rfl ?_
    refine Rg.nil ?_
    refine Runs.seq ?_
    refine Runs.region ?_
    refine Rg.opp (v := .pointer (some ⟨gp, 0, none⟩)) rfl rfl rfl rfl rfl ?_
    refine Rg.opp (v := nat i) rfl rfl rfl rfl rfl ?_
    refine Rg.callW rfl rfl rfl rfl (rfl) rfl (reached_runs (arcs := arcs) (GraphAt.sees hM.ext.sees ⟨_, _, _, _, _, _, hG⟩) wf hlt (by omega) (by omega)) (fun rr Hr hP => ?_)
    replace hM := hM.under hP
    refine Rg.opp (v := nat ((reachB arcs names.length i).length)) rfl rfl rfl (ev_lenM (hM.get_sl (j := 0) rfl) rfl rfl) rfl ?_
    refine Rg.opp (v := nat 0) rfl rfl rfl rfl rfl ?_
    refine Rg.nil ?_
    refine Runs.block ?_
    refine Runs.loop (fun m s Hc => ∃ (k : Nat) (ov2 : Value), m = names.length - k ∧ Mem Hb Hc ([.sl 1 rr (List.map encB (reachB arcs names.length i)), .sl 2 ov2 (List.map (pairC names) (closeL arcs names.length i ++ closeIn arcs i k))]) ∧ (k ≤ names.length) ∧ Is s 53 [(5, .pointer (some ⟨gp, 0, none⟩)), (6, ov2), (8, str (names.getD i [])), (21, an), (22, nat names.length), (23, nat i), (30, rr), (31, nat ((reachB arcs names.length i).length)), (32, nat k)]) _
      ⟨0, ov, rfl, by rw [show closeIn arcs i 0 = [] from rfl, List.append_nil]; exact hM, Nat.zero_le _, Is.of ⟨rfl, rfl, rfl, rfl, rfl, rfl, rfl, rfl, rfl, rfl, rfl, rfl, rfl, rfl, rfl, rfl, rfl, rfl, trivial⟩⟩ ?_
    rintro m s Hc ⟨k, ov2, rfl, hM, hk, hs⟩
    obtain ⟨a2, rfl⟩ := hs.mk1
    clear hs
    have hcl := closeL_len arcs names.length i
    have hci := closeIn_len arcs i k
    have hmul : i * names.length ≤ 60 * 60 := Nat.mul_le_mul (by omega) (by omega)
    refine Runs.seq ?_
    refine Runs.region ?_
    by_cases hlt2 : k < (reachB arcs names.length i).length
    · skip
      have hltk : k < names.length := by simpa [reachB_len] using hlt2
      refine Rg.opp (v := .bool true) rfl rfl rfl (ev_ltT rfl rfl (hlt2)) rfl ?_
      refine Rg.nil ?_
      refine Runs.seq ?_
      refine Runs.cond true rfl (fun _ => ?_) (fun h => by cases h)
      refine Runs.skip ?_
      refine Runs.seq ?_
      refine Runs.block ?_
      refine Runs.seq ?_
      refine Runs.region ?_
      refine Rg.opp (v := nat k) rfl rfl rfl rfl rfl ?_
      refine Rg.opp (v := ptrAt (sAddr rr) (k * 1)) rfl rfl rfl (ev_idxM (k := k) (hM.get_sl (j := 0) rfl) rfl rfl (hlt2) rfl rfl rfl (by decide)) rfl ?_
      by_cases hrc : rchB arcs i k = true
      · skip
        refine Rg.opp (v := .bool true) rfl rfl rfl (ev_ldM (k := k) (hM.get_sl (j := 0) rfl) rfl (hlt2) (by show [Value.bool _] = _; rw [reachB_get, hrc]) rfl rfl rfl) rfl ?_
        refine Rg.opp (v := nat k) rfl rfl rfl rfl rfl ?_
        refine Rg.opp (v := .bool true) rfl rfl rfl rfl rfl ?_
        refine Rg.nil ?_
        refine Runs.seq ?_
        refine Runs.region ?_
        refine Rg.opp (v := .bool true) rfl rfl rfl rfl rfl ?_
        refine Rg.nil ?_
        refine Runs.cond true rfl (fun _ => ?_) (fun h => by cases h)
        refine Runs.region ?_
        refine Rg.opp (v := ov2) rfl rfl rfl rfl rfl ?_
        refine Rg.opp (v := str (names.getD i [])) rfl rfl rfl rfl rfl ?_
        refine Rg.opp (v := .pointer (some ⟨gp, 0, none⟩)) rfl rfl rfl rfl rfl ?_
        refine Rg.opp (v := .pointer (some ⟨gp, 0, none⟩)) rfl rfl rfl rfl rfl ?_
        refine Rg.opp (v := .pointer (some ⟨gp, 0, none⟩)) rfl rfl rfl (ev_fld (o := 0) (p := (37, 0)) rfl rfl rfl rfl rfl (by decide)) rfl ?_
        refine Rg.opp (v := an) rfl rfl rfl (ev_ldb (hM.ext.get hG.box) rfl rfl rfl rfl rfl) rfl ?_
        refine Rg.opp (v := nat k) rfl rfl rfl rfl rfl ?_
        refine Rg.opp (v := ptrAt (sAddr an) (k * 1)) rfl rfl rfl (ev_idxM (k := k) (hG.hnames.sees hM.ext.sees) rfl rfl (hltk) rfl rfl rfl (by decide)) rfl ?_
        refine Rg.opp (v := str (names.getD k [])) rfl rfl rfl (ev_ldM (k := k) (hG.hnames.sees hM.ext.sees) rfl (hltk) (encS_getD hltk) rfl rfl rfl) rfl ?_
        refine Rg.opp (v := .agg (pairC names (i, k)).toArray) rfl rfl rfl rfl rfl ?_
        refine Rg.lit (f := pairC names) (sz := 2) (xs := [((i, k) : Nat × Nat)]) hM rfl rfl rfl rfl rfl (by simp) (by simp) (fun u3 Hc (hM : Mem Hb Hc ([.sl 2 u3 (List.map (pairC names) ([((i, k) : Nat × Nat)])), .sl 1 rr (List.map encB (reachB arcs names.length i)), .sl 2 ov2 (List.map (pairC names) (closeL arcs names.length i ++ closeIn arcs i k))])) _ => ?_)
        refine Rg.appM (f := pairC names) (sz := 2) (j := 2) (v := ov2) (xs := closeL arcs names.length i ++ closeIn arcs i k) (ys := [((i, k) : Nat × Nat)]) hM rfl rfl rfl rfl rfl rfl rfl (hM.get_sl (j := 0) rfl) ⟨rfl, rfl, rfl, by decide⟩ rfl (by simp [oneCell]) (by show (_ + _) * 32 ≤ 2 ^ 40; simp only [List.length_append, List.length_cons, List.length_nil]; omega) (by simp) (fun ov3 Hc (hM : Mem Hb Hc ([.sl 2 u3 (List.map (pairC names) ([((i, k) : Nat × Nat)])), .sl 1 rr (List.map encB (reachB arcs names.length i)), .sl 2 ov3 (List.map (pairC names) ((closeL arcs names.length i ++ closeIn arcs i k) ++ ([((i, k) : Nat × Nat)])))])) hgr => ?_)
        replace hM : Mem Hb _ ([.sl 1 rr (List.map encB (reachB arcs names.length i)), .sl 2 ov3 (List.map (pairC names) ((closeL arcs names.length i ++ closeIn arcs i k) ++ ([((i, k) : Nat × Nat)])))]) := hM.erase 0
        refine Rg.opp (v := ov3) rfl rfl rfl rfl rfl ?_
        refine Rg.nil ?_
        refine Runs.region ?_
        refine Rg.opp (v := nat (k + 1)) rfl rfl rfl (ev_addN (b := 1) rfl rfl (by omega)) rfl ?_
        refine Rg.opp (v := nat (k + 1)) rfl rfl rfl rfl rfl ?_
        refine Rg.nil ?_
        refine ⟨names.length - (k + 1), by omega, k + 1, ov3, rfl, by rw [closeIn_succ, if_pos hrc, ← List.append_assoc]; exact hM, hltk, Is.of ⟨rfl, rfl, rfl, rfl, rfl, rfl, rfl, rfl, rfl, rfl, rfl, rfl, rfl, rfl, rfl, rfl, rfl, rfl, trivial⟩⟩
      · skip
        refine Rg.opp (v := .bool false) rfl rfl rfl (ev_ldM (k := k) (hM.get_sl (j := 0) rfl) rfl (hlt2) (by show [Value.bool _] = _; rw [reachB_get]; simp [hrc]) rfl rfl rfl) rfl ?_
        refine Rg.opp (v := nat k) rfl rfl rfl rfl rfl ?_
        refine Rg.opp (v := .bool false) rfl rfl rfl rfl rfl ?_
        refine Rg.nil ?_
        refine Runs.seq ?_
        refine Runs.region ?_
        refine Rg.opp (v := .bool false) rfl rfl rfl rfl rfl ?_
        refine Rg.nil ?_
        refine Runs.cond false rfl (fun h => by cases h) (fun _ => ?_)
        refine Runs.skip ?_
        refine Runs.region ?_
        refine Rg.opp (v := nat (k + 1)) rfl rfl rfl (ev_addN (b := 1) rfl rfl (by omega)) rfl ?_
        refine Rg.opp (v := nat (k + 1)) rfl rfl rfl rfl rfl ?_
        refine Rg.nil ?_
        refine ⟨names.length - (k + 1), by omega, k + 1, ov2, rfl, by rw [closeIn_succ, if_neg hrc]; exact hM, hltk, Is.of ⟨rfl, rfl, rfl, rfl, rfl, rfl, rfl, rfl, rfl, rfl, rfl, rfl, rfl, rfl, rfl, rfl, rfl, rfl, trivial⟩⟩
    · skip
      refine Rg.opp (v := .bool false) rfl rfl rfl (ev_ltF rfl rfl (hlt2)) rfl ?_
      refine Rg.nil ?_
      refine Runs.seq ?_
      refine Runs.cond false rfl (fun h => by cases h) (fun _ => ?_)
      refine Runs.exit ?_
      refine Runs.region ?_
      refine Rg.opp (v := nat (i + 1)) rfl rfl rfl (ev_addN (b := 1) rfl rfl (by omega)) rfl ?_
      refine Rg.opp (v := nat (i + 1)) rfl rfl rfl rfl rfl ?_
      refine Rg.nil ?_
      refine ⟨names.length - (i + 1), by omega, i + 1, ov2, rfl, by
        have e : k = names.length := by have := hlt2; rw [reachB_len] at this; omega
        rw [closeL_succ]; rw [e] at hM; exact hM.tail, hlt, Is.of ⟨rfl, rfl, rfl, rfl, rfl, rfl, rfl, rfl, rfl, rfl, trivial⟩⟩
  · skip
    refine Rg.opp (v := .bool false) rfl rfl rfl (ev_ltF rfl rfl (hlt)) rfl ?_
    refine Rg.nil ?_
    refine Runs.seq ?_
    refine Runs.cond false rfl (fun h => by cases h) (fun _ => ?_)
    refine Runs.exit ?_
    refine Runs.seq ?_
    refine Runs.region ?_
    refine Rg.opp (v := ov) rfl rfl rfl rfl rfl ?_
    refine Rg.opp (v := ov) rfl rfl rfl rfl rfl ?_
    refine Rg.opp (v := nat 0) rfl rfl rfl rfl rfl ?_
    refine Rg.nil ?_
    refine Runs.ret ?_
    refine ⟨.tuple #[ov, nat 0], rfl, ?_⟩
    have hie : i = names.length := by omega
    rw [hie] at hM
    exact ⟨_, rfl, (Mem.start H).more (hec.trans heb) |>.under hM⟩

theorem reduction_runs {H : Heap} {v : Value} {l : List Rel} (hl : Sl H 3 v (rels l)) (hll : l.length ≤ 200) (hg : ∀ r ∈ l, Good r) (hu : (unitsP l).length ≤ 60) :
    ∃ r H1, big tab 24 [v] H = some (r, H1) ∧ ∃ ov, r = .tuple #[ov, nat (if cycB (arcsOf l) = true then 27 else 0)] ∧ Mem H H1 [.sl 1 ov ((if cycB (arcsOf l) = true then [] else redL (arcsOf l) (arcsOf l).length).map encN)] := by
  refine big_of_runs rfl rfl rfl ?_
  obtain ⟨z, hz⟩ := startC_mkS Try.f24 [v]
  rw [show startC (24, Try.f24).snd [v] = _ from hz]
  clear hz
  refine Runs.cut (n := 45) (l := [(0, v)]) (Is.of ⟨rfl, rfl, trivial⟩) (fun a0 => ?_)
  refine Runs.seq ?_
  refine Runs.region ?_
  refine Rg.opp (v := .slice none 0 0) rfl rfl rfl rfl rfl ?_
  refine Rg.opp (v := nat 0) rfl rfl rfl rfl rfl ?_
  refine Rg.nil ?_
  refine Runs.seq ?_
  refine Runs.seq ?_
  refine Runs.region ?_
  refine Rg.opp (v := v) rfl rfl rfl rfl rfl ?_
  refine Rg.callW rfl rfl rfl rfl (rfl) rfl (checkP_runs hl hll hg hu) (fun rc Hk hP => ?_)
  obtain ⟨rfl, hec⟩ := hP
  have hM := Mem.start Hk
  refine Rg.opp (v := nat 0) rfl rfl rfl rfl rfl ?_
  refine Rg.nil ?_
  refine Runs.seq ?_
  refine Runs.region ?_
  refine Rg.opp (v := nat 0) rfl rfl rfl rfl rfl ?_
  refine Rg.opp (v := .bool false) rfl rfl rfl (ev_neF rfl rfl (by decide)) rfl ?_
  refine Rg.nil ?_
  refine Runs.cond false rfl (fun h => by cases h) (fun _ => ?_)
  refine Runs.skip ?_
  refine Runs.seq ?_
  refine Runs.region ?_
  refine Rg.opp (v := v) rfl rfl rfl rfl rfl ?_
  refine Rg.callW rfl rfl rfl rfl (rfl) rfl (build_runs (hl.sees hec.sees) (by omega) (by omega)) (fun rb Hb hP => ?_)
  obtain ⟨heb, gp, an, aa, ax, M, nx, own, rfl, hG, hmap⟩ := hP
  have wf := arcs_wf l
  have hal : (arcsOf l).length ≤ l.length := arcsUp_len l l.length
  generalize arcsOf l = arcs at hG wf hal ⊢
  generalize unitsP l = names at hG wf hu hmap ⊢
  have hnl := hG.len
  have hM := Mem.start Hb
  refine Rg.opp (v := .pointer (some ⟨gp, 0, none⟩)) rfl rfl rfl rfl rfl ?_
  refine Rg.nil ?_
  refine Runs.seq ?_
  refine Runs.seq ?_
  refine Runs.region ?_
  refine Rg.opp (v := .pointer (some ⟨gp, 0, none⟩)) rfl rfl rfl rfl rfl ?_
  by_cases hcy : cycB arcs = true
  · skip
    refine Rg.callW rfl rfl rfl rfl (rfl) rfl (sorted_runs ⟨_, _, _, _, _, _, hG⟩ wf (by omega) (by omega)) (fun rs Hs hP => ?_)
    obtain ⟨so, o, hr, hMs, hK⟩ := hP
    rw [kahn_ok wf hK, hcy] at hr
    subst hr
    replace hM := hM.more hMs.ext
    refine Rg.opp (v := .tuple #[so, .bool false]) rfl rfl rfl rfl rfl ?_
    refine Rg.opp (v := so) rfl rfl rfl rfl rfl ?_
    refine Rg.opp (v := .bool false) rfl rfl rfl rfl rfl ?_
    refine Rg.opp (v := so) rfl rfl rfl rfl rfl ?_
    refine Rg.opp (v := .bool false) rfl rfl rfl rfl rfl ?_
    refine Rg.nil ?_
    refine Runs.seq ?_
    refine Runs.region ?_
    refine Rg.opp (v := .bool false) rfl rfl rfl rfl rfl ?_
    refine Rg.opp (v := .bool true) rfl rfl rfl rfl rfl ?_
    refine Rg.nil ?_
    refine Runs.cond true rfl (fun _ => ?_) (fun h => by cases h)
    refine Runs.seq ?_
    refine Runs.region ?_
    refine Rg.opp (v := .slice none 0 0) rfl rfl rfl rfl rfl ?_
    refine Rg.opp (v := nat 27) rfl rfl rfl rfl rfl ?_
    refine Rg.nil ?_
    refine Runs.ret ?_
    refine ⟨.tuple #[.slice none 0 0, nat 27], rfl, ?_⟩
    rw [if_pos hcy, if_pos hcy]
    exact ⟨_, rfl, ((Mem.start H).more (hec.trans heb) |>.under hM).nilSl 1⟩
  · skip
    refine Rg.callW rfl rfl rfl rfl (rfl) rfl (sorted_runs ⟨_, _, _, _, _, _, hG⟩ wf (by omega) (by omega)) (fun rs Hs hP => ?_)
    obtain ⟨so, o, hr, hMs, hK⟩ := hP
    rw [kahn_ok wf hK, show cycB arcs = false by simpa using hcy] at hr
    subst hr
    replace hM := hM.more hMs.ext
    refine Rg.opp (v := .tuple #[so, .bool true]) rfl rfl rfl rfl rfl ?_
    refine Rg.opp (v := so) rfl rfl rfl rfl rfl ?_
    refine Rg.opp (v := .bool true) rfl rfl rfl rfl rfl ?_
    refine Rg.opp (v := so) rfl rfl rfl rfl rfl ?_
    refine Rg.opp (v := .bool true) rfl rfl rfl rfl rfl ?_
    refine Rg.nil ?_
    refine Runs.seq ?_
    refine Runs.region ?_
    refine Rg.opp (v := .bool true) rfl rfl rfl rfl rfl ?_
    refine Rg.opp (v := .bool false) rfl rfl rfl rfl rfl ?_
    refine Rg.nil ?_
    refine Runs.cond false rfl (fun h => by cases h) (fun _ => ?_)
    refine Runs.skip ?_
    refine Runs.seq ?_
    refine Runs.region ?_
    refine Rg.opp (v := .slice none 0 0) rfl rfl rfl rfl rfl ?_
    refine Rg.nil ?_
    refine Runs.seq ?_
    refine Runs.seq ?_
    refine Runs.region ?_
    refine Rg.opp (v := .pointer (some ⟨gp, 0, none⟩)) rfl rfl rfl rfl rfl ?_
    refine Rg.opp (v := .pointer (some ⟨gp, 0, none⟩)) rfl rfl rfl rfl rfl ?_
    refine Rg.opp (v := .pointer (some ⟨gp, 2, none⟩)) rfl rfl rfl (ev_fld (o := 0) (p := (73, 2)) rfl rfl rfl rfl rfl (by decide)) rfl ?_
    refine Rg.opp (v := aa) rfl rfl rfl (ev_ldb (hM.ext.get hG.box) rfl rfl rfl rfl rfl) rfl ?_
    refine Rg.opp (v := nat arcs.length) rfl rfl rfl (ev_lenM (hG.harcs.sees hM.ext.sees) rfl rfl) rfl ?_
    refine Rg.opp (v := nat 0) rfl rfl rfl rfl rfl ?_
    refine Rg.nil ?_
    refine Runs.block ?_
    refine Runs.loop (fun m s Hc => ∃ (j : Nat) (ov : Value), m = arcs.length - j ∧ Mem Hb Hc ([.sl 1 ov (List.map encN (redL arcs j))]) ∧ (j ≤ arcs.length) ∧ Is s 45 [(5, .pointer (some ⟨gp, 0, none⟩)), (8, ov), (28, aa), (29, nat arcs.length), (30, nat j)]) _
      ⟨0, .slice none 0 0, rfl, hM.nilSl 1, Nat.zero_le _, Is.of ⟨rfl, rfl, rfl, rfl, rfl, rfl, rfl, rfl, rfl, rfl, trivial⟩⟩ ?_
    rintro m s Hc ⟨j, ov, rfl, hM, hj, hs⟩
    obtain ⟨a1, rfl⟩ := hs.mk1
    clear hs
    refine Runs.seq ?_
    refine Runs.region ?_
    by_cases hlt : j < arcs.length
    · skip
      have hra := redL_len arcs j
      refine Rg.opp (v := .bool true) rfl rfl rfl (ev_ltT rfl rfl (hlt)) rfl ?_
      refine Rg.nil ?_
      refine Runs.seq ?_
      refine Runs.cond true rfl (fun _ => ?_) (fun h => by cases h)
      refine Runs.skip ?_
      refine Runs.seq ?_
      refine Runs.block ?_
      refine Runs.seq ?_
      refine Runs.region ?_
      refine Rg.opp (v := ptrAt (sAddr aa) (j * 3)) rfl rfl rfl (ev_idxM (k := j) (hG.harcs.sees hM.ext.sees) rfl rfl (hlt) rfl rfl rfl (by decide)) rfl ?_
      refine Rg.opp (v := .agg (arcC (arcs[j])).toArray) rfl rfl rfl (ev_ldAM (k := j) (hG.harcs.sees hM.ext.sees) rfl (hlt) rfl rfl rfl) rfl ?_
      refine Rg.new (v := fun p => .pointer (some ⟨p, 0, none⟩)) (X := .row 3 [.int .i64 0, .int .i64 0, .int .i64 0] true true) (th := fun p => .box p 3 [.int .i64 0, .int .i64 0, .int .i64 0]) hM rfl rfl rfl rfl rfl rfl (fun _ => rfl) (fun p2 Hc hM _ => ?_)
      refine Rg.stob (j := 0) (cs' := arcC (arcs[j])) hM rfl rfl rfl rfl rfl rfl rfl rfl rfl rfl (Nat.le_of_ble_eq_true rfl) rfl (fun Hc (hM : Mem Hb Hc ([.box p2 3 (arcC (arcs[j])), .sl 1 ov (List.map encN (redL arcs j))])) => ?_)
      refine Rg.nil ?_
      refine Runs.seq ?_
      refine Runs.region ?_
      refine Rg.opp (v := .pointer (some ⟨gp, 0, none⟩)) rfl rfl rfl rfl rfl ?_
      refine Rg.opp (v := .agg (arcC (arcs[j])).toArray) rfl rfl rfl (ev_ldbA (hM.get_box (j := 0) rfl) rfl rfl rfl rfl) rfl ?_
      by_cases him : impliedB arcs arcs[j] = true
      · skip
        refine Rg.callW rfl rfl rfl rfl (rfl) rfl (implied_runs (a := arcs[j]) (GraphAt.sees hM.ext.sees ⟨_, _, _, _, _, _, hG⟩) wf (wf.lo _ (List.getElem_mem hlt)) (wf.up _ (List.getElem_mem hlt)) (by omega) (by omega)) (fun ri Hc hP => ?_)
        obtain ⟨hri, hei⟩ := hP
        rw [him] at hri
        subst hri
        replace hM := hM.more hei
        refine Rg.opp (v := .bool false) rfl rfl rfl rfl rfl ?_
        refine Rg.nil ?_
        refine Runs.cond false rfl (fun h => by cases h) (fun _ => ?_)
        refine Runs.skip ?_
        refine Runs.region ?_
        refine Rg.opp (v := nat (j + 1)) rfl rfl rfl (ev_addN (b := 1) rfl rfl (by omega)) rfl ?_
        refine Rg.opp (v := nat (j + 1)) rfl rfl rfl rfl rfl ?_
        refine Rg.nil ?_
        refine ⟨arcs.length - (j + 1), by omega, j + 1, ov, rfl, by rw [redL_succ hlt, if_pos him]; exact hM.tail, hlt, Is.of ⟨rfl, rfl, rfl, rfl, rfl, rfl, rfl, rfl, rfl, rfl, trivial⟩⟩
      · skip
        refine Rg.callW rfl rfl rfl rfl (rfl) rfl (implied_runs (a := arcs[j]) (GraphAt.sees hM.ext.sees ⟨_, _, _, _, _, _, hG⟩) wf (wf.lo _ (List.getElem_mem hlt)) (wf.up _ (List.getElem_mem hlt)) (by omega) (by omega)) (fun ri Hc hP => ?_)
        obtain ⟨hri, hei⟩ := hP
        rw [show impliedB arcs arcs[j] = false by simpa using him] at hri
        subst hri
        replace hM := hM.more hei
        refine Rg.opp (v := .bool true) rfl rfl rfl rfl rfl ?_
        refine Rg.nil ?_
        refine Runs.cond true rfl (fun _ => ?_) (fun h => by cases h)
        refine Runs.region ?_
        refine Rg.opp (v := ov) rfl rfl rfl rfl rfl ?_
        refine Rg.opp (v := .pointer (some ⟨p2, 0, none⟩)) rfl rfl rfl (ev_fld (o := 0) (p := (3, 0)) rfl rfl rfl rfl rfl (by decide)) rfl ?_
        refine Rg.opp (v := nat (arcs[j].i)) rfl rfl rfl (ev_ldb (hM.get_box (j := 0) rfl) rfl rfl rfl rfl rfl) rfl ?_
        refine Rg.lit (f := encN) (sz := 1) (xs := [arcs[j].i]) hM rfl rfl rfl rfl rfl (by simp) (by simp) (fun u3 Hc (hM : Mem Hb Hc ([.sl 1 u3 (List.map encN ([arcs[j].i])), .box p2 3 (arcC (arcs[j])), .sl 1 ov (List.map encN (redL arcs j))])) _ => ?_)
        refine Rg.appM (f := encN) (sz := 1) (j := 2) (v := ov) (xs := redL arcs j) (ys := [arcs[j].i]) hM rfl rfl rfl rfl rfl rfl rfl (hM.get_sl (j := 0) rfl) ⟨rfl, rfl, rfl, by decide⟩ rfl (by simp [oneCell]) (by show (_ + _) * 8 ≤ 2 ^ 40; simp only [List.length_cons, List.length_nil]; omega) (by simp) (fun ov1 Hc (hM : Mem Hb Hc ([.sl 1 u3 (List.map encN ([arcs[j].i])), .box p2 3 (arcC (arcs[j])), .sl 1 ov1 (List.map encN ((redL arcs j) ++ ([arcs[j].i])))])) hgr => ?_)
        replace hM : Mem Hb _ ([.box p2 3 (arcC (arcs[j])), .sl 1 ov1 (List.map encN ((redL arcs j) ++ ([arcs[j].i])))]) := hM.erase 0
        refine Rg.opp (v := ov1) rfl rfl rfl rfl rfl ?_
        refine Rg.nil ?_
        refine Runs.region ?_
        refine Rg.opp (v := nat (j + 1)) rfl rfl rfl (ev_addN (b := 1) rfl rfl (by omega)) rfl ?_
        refine Rg.opp (v := nat (j + 1)) rfl rfl rfl rfl rfl ?_
        refine Rg.nil ?_
        refine ⟨arcs.length - (j + 1), by omega, j + 1, ov1, rfl, by rw [redL_succ hlt, if_neg him]; exact hM.tail, hlt, Is.of ⟨rfl, rfl, rfl, rfl, rfl, rfl, rfl, rfl, rfl, rfl, trivial⟩⟩
    · skip
      refine Rg.opp (v := .bool false) rfl rfl rfl (ev_ltF rfl rfl (hlt)) rfl ?_
      refine Rg.nil ?_
      refine Runs.seq ?_
      refine Runs.cond false rfl (fun h => by cases h) (fun _ => ?_)
      refine Runs.exit ?_
      refine Runs.seq ?_
      refine Runs.region ?_
      refine Rg.opp (v := ov) rfl rfl rfl rfl rfl ?_
      refine Rg.opp (v := ov) rfl rfl rfl rfl rfl ?_
      refine Rg.opp (v := nat 0) rfl rfl rfl rfl rfl ?_
      refine Rg.nil ?_
      refine Runs.ret ?_
      refine ⟨.tuple #[ov, nat 0], rfl, ?_⟩
      rw [if_neg hcy, if_neg hcy]
      have hje : j = arcs.length := by omega
      rw [hje] at hM
      exact ⟨_, rfl, (Mem.start H).more (hec.trans heb) |>.under hM⟩


end Go.Proofs.Ytdhbclplondmjaa.C

end

section
/- The law on Closure and Reduction, plain. -/
set_option linter.unusedVariables false
set_option linter.unusedSimpArgs false
namespace Go.Proofs.Ytdhbclplondmjaa.C
open Go.RowKit Go.Sort

theorem W.head {arcs : List (Nat × Nat)} {n c b : Nat} (h : W arcs (n + 1) c b) : ∃ a, (c, a) ∈ arcs ∧ W arcs n a b := by
  obtain ⟨v, h1, h2, h3⟩ := h.places
  refine ⟨v 1, by have := h3 0 (by omega); rwa [h1] at this, ?_⟩
  have w : W arcs n (v 1) (v (1 + n)) := W.of_places fun k _ hk => h3 k (by omega)
  rwa [Nat.add_comm 1 n, h2] at w

/-! ### The closure -/

theorem closeIn_pre (arcs : List Arc) (i : Nat) {k : Nat} : ∀ {n : Nat}, k ≤ n → ∃ r, closeIn arcs i n = closeIn arcs i k ++ r
  | 0, h => ⟨[], by have : k = 0 := by omega
                    subst this; simp⟩
  | n + 1, h => by
    rcases Nat.eq_or_lt_of_le h with e | e
    · exact ⟨[], by rw [e]; simp⟩
    · obtain ⟨r, hr⟩ := closeIn_pre arcs i (k := k) (n := n) (by omega)
      rw [closeIn_succ]
      split
      · exact ⟨r ++ [(i, n)], by rw [hr, List.append_assoc]⟩
      · exact ⟨r, hr⟩
theorem closeL_pre (arcs : List Arc) (n : Nat) {i : Nat} : ∀ {m : Nat}, i ≤ m → ∃ r, closeL arcs n m = closeL arcs n i ++ r
  | 0, h => ⟨[], by have : i = 0 := by omega
                    subst this; simp⟩
  | m + 1, h => by
    rcases Nat.eq_or_lt_of_le h with e | e
    · exact ⟨[], by rw [e]; simp⟩
    · obtain ⟨r, hr⟩ := closeL_pre arcs n (i := i) (m := m) (by omega)
      exact ⟨r ++ closeIn arcs m n, by rw [closeL_succ, hr, List.append_assoc]⟩

theorem close_at {arcs : List Arc} {n i k : Nat} (hi : i < n) (hk : k < n) (hr : rchB arcs i k = true) :
    ∃ h : (closeL arcs n i).length + (closeIn arcs i k).length < (closeL arcs n n).length, (closeL arcs n n)[(closeL arcs n i).length + (closeIn arcs i k).length] = (i, k) := by
  obtain ⟨r1, h1⟩ := closeL_pre arcs n (i := i + 1) (m := n) (by omega)
  obtain ⟨r2, h2⟩ := closeIn_pre arcs i (k := k + 1) (n := n) (by omega)
  rw [closeL_succ, h2, closeIn_succ, if_pos hr] at h1
  have e : closeL arcs n n = (closeL arcs n i ++ closeIn arcs i k) ++ ((i, k) :: (r2 ++ r1)) := by rw [h1]; simp
  refine ⟨by rw [e]; simp, ?_⟩
  have : (closeL arcs n n)[(closeL arcs n i).length + (closeIn arcs i k).length]? = some (i, k) := by
    rw [e, List.getElem?_append_right (by simp)]
    simp
  exact (List.getElem?_eq_some_iff.1 this).2

/-! ### The reduction -/

/-- The law's word on a relation: by the first k ones. -/
def lawImp (l : List Rel) (u : List Nm) (mm : Nat → Nat → Nat) (r : Rel) (k : Nat) : Bool :=
  (decide (r.kind = 4) || decide (1 < mm (idx u r.lo) (idx u r.up))) || (l.take k).any fun q => decide (q.kind ≠ 4) && (decide (q.up = r.up) && decide (q.lo = r.lo))

theorem lawImp_succ {l : List Rel} {u : List Nm} {mm : Nat → Nat → Nat} {r : Rel} {k : Nat} (h : k < l.length) : lawImp l u mm r (k + 1) = (lawImp l u mm r k || (decide (l[k].kind ≠ 4) && (decide (l[k].up = r.up) && decide (l[k].lo = r.lo)))) := by
  unfold lawImp
  rw [← List.take_append_getElem h, List.any_append]
  simp [Bool.or_assoc]

def wantL (l : List Rel) (u : List Nm) (mm : Nat → Nat → Nat) : Nat → List Nat
  | 0 => []
  | i + 1 => wantL l u mm i ++ (match l[i]? with | some r => if lawImp l u mm r i = true then [] else [i] | none => [])

theorem wantL_succ {l : List Rel} {u : List Nm} {mm : Nat → Nat → Nat} {i : Nat} (h : i < l.length) : wantL l u mm (i + 1) = if lawImp l u mm l[i] i = true then wantL l u mm i else wantL l u mm i ++ [i] := by
  show wantL l u mm i ++ (match l[i]? with | some r => if lawImp l u mm r i = true then [] else [i] | none => []) = _
  rw [List.getElem?_eq_getElem h]
  by_cases e : lawImp l u mm l[i] i = true <;> simp [e]
theorem wantL_len (l : List Rel) (u : List Nm) (mm : Nat → Nat → Nat) : ∀ i, (wantL l u mm i).length ≤ i
  | 0 => Nat.le_refl _
  | i + 1 => by
    have := wantL_len l u mm i
    show (wantL l u mm i ++ (match l[i]? with | some r => if lawImp l u mm r i = true then [] else [i] | none => [])).length ≤ i + 1
    rw [List.length_append]
    cases l[i]? with
    | none => simp; omega
    | some r =>
      simp only
      split <;> simp <;> omega

theorem arcs_mem {l : List Rel} {k : Nat} {b : Arc} : b ∈ arcsUp l k ↔ ∃ j, ∃ h : j < l.length, j < k ∧ l[j].kind ≠ 4 ∧ b = ⟨j, idx (unitsP l) l[j].lo, idx (unitsP l) l[j].up⟩ := by
  unfold arcsUp
  rw [List.mem_map]
  constructor
  · rintro ⟨p, hp, rfl⟩
    obtain ⟨h1, h2⟩ := List.mem_filter.1 hp
    obtain ⟨x, j⟩ := p
    have h3 := List.mem_zipIdx_iff_getElem?.1 h1
    simp only at h3
    rw [List.getElem?_take] at h3
    split at h3
    · obtain ⟨h4, h5⟩ := List.getElem?_eq_some_iff.1 h3
      subst h5
      exact ⟨j, h4, by assumption, by simpa using h2, rfl⟩
    · simp at h3
  · rintro ⟨j, h, hj, hk, rfl⟩
    refine ⟨(l[j], j), List.mem_filter.2 ⟨List.mem_zipIdx_iff_getElem?.2 ?_, by simpa using hk⟩, rfl⟩
    simp only
    rw [List.getElem?_take, if_pos hj, List.getElem?_eq_getElem h]

theorem far_ge {arcs : List Arc} {n a b x m : Nat} (wf : WF n arcs) (hn : n ≤ 8) (hc : ¬ Cyc arcs) (h : Far (prs arcs) 8 a b x) (hw : W (prs arcs) m a b) : m ≤ x := by
  have hm : m ≤ n := by
    rcases Nat.lt_or_ge n m with q | q
    · obtain ⟨c, k, hk, hw⟩ := W.back (N := n) (fun p hp => by obtain ⟨a, ha, rfl⟩ := List.mem_map.1 hp; exact wf.up a ha) hw q
      exact absurd ⟨c, k, hk, hw⟩ hc
    · exact q
  rcases h with ⟨h1, h2⟩ | ⟨_, _, _, h4⟩
  · rcases Nat.eq_zero_or_pos m with q | q
    · omega
    · exact absurd hw (h2 m q (by omega))
  · exact h4 m (by omega) hw

theorem implied_law {l : List Rel} {mm : Nat → Nat → Nat} (hn : (unitsP l).length ≤ 8) (hc : ¬ Cyc (arcsOf l)) (hF : ∀ c b, Far (prs (arcsOf l)) 8 c b (mm c b)) {i : Nat} (hi : i < l.length) (hk : l[i].kind ≠ 4) :
    impliedB (arcsOf l) ⟨i, idx (unitsP l) l[i].lo, idx (unitsP l) l[i].up⟩ = lawImp l (unitsP l) mm l[i] i := by
  have hu : ∀ j (h : j < l.length), l[j].up ∈ unitsP l := fun j h => mem_unitsP.2 (mem_names_up (List.getElem_mem h))
  have hl : ∀ j (h : j < l.length), l[j].lo ∈ unitsP l := fun j h => mem_unitsP.2 (mem_names_lo (List.getElem_mem h))
  rw [Bool.eq_iff_iff]
  constructor
  · intro h
    obtain ⟨b, hb, hi2⟩ := List.any_eq_true.1 h
    obtain ⟨hb1, hb2⟩ := next_mem.1 hb
    simp only at hb2
    unfold impB at hi2
    unfold lawImp
    rw [Bool.or_eq_true]
    split at hi2
    · rename_i e
      simp only at e
      right
      obtain ⟨j, hj, hjl, hjk, rfl⟩ := arcs_mem.1 hb1
      simp only [decide_eq_true_eq] at hi2
      simp only at e hb2
      refine List.any_eq_true.2 ⟨l[j], ?_, ?_⟩
      · exact List.mem_iff_getElem.2 ⟨j, by rw [List.length_take]; omega, by rw [List.getElem_take]⟩
      · simp [hjk, idx_inj (hu j hj) (hu i hi) e, idx_inj (hl j hj) (hl i hi) hb2]
    · left
      rw [Bool.or_eq_true]
      right
      have hi3 : rchB (arcsOf l) b.up (idx (unitsP l) l[i].up) = true := hi2
      obtain ⟨m, hm, hw⟩ := rchB_iff.1 hi3
      have h1 : W (prs (arcsOf l)) 1 (idx (unitsP l) l[i].lo) b.up := ⟨_, rfl, List.mem_map.2 ⟨b, hb1, by rw [hb2]⟩⟩
      have := far_ge (arcs_wf l) hn hc (hF _ _) (h1.trans hw)
      simp only [decide_eq_true_eq]; omega
  · intro h
    unfold lawImp at h
    rw [Bool.or_eq_true, Bool.or_eq_true] at h
    rcases h with (h | h) | h
    · exact absurd (of_decide_eq_true h) hk
    · have h := of_decide_eq_true h
      rcases hF (idx (unitsP l) l[i].lo) (idx (unitsP l) l[i].up) with ⟨h0, _⟩ | ⟨_, _, hw, _⟩
      · omega
      · obtain ⟨x, hx⟩ : ∃ x, mm (idx (unitsP l) l[i].lo) (idx (unitsP l) l[i].up) = x + 2 := ⟨mm (idx (unitsP l) l[i].lo) (idx (unitsP l) l[i].up) - 2, by omega⟩
        rw [hx] at hw
        obtain ⟨a, ha, hw⟩ := hw.head
        obtain ⟨b, hb, e⟩ := List.mem_map.1 ha
        have e1 : b.lo = idx (unitsP l) l[i].lo := (Prod.mk.inj e).1
        have e2 : b.up = a := (Prod.mk.inj e).2
        refine List.any_eq_true.2 ⟨b, next_mem.2 ⟨hb, e1⟩, ?_⟩
        unfold impB
        have hr : Rch (arcsOf l) b.up (idx (unitsP l) l[i].up) := ⟨x + 1, by omega, by rw [e2]; exact hw⟩
        split
        · rename_i e3
          simp only at e3
          exact absurd ⟨b.up, by rw [← e3] at hr; exact hr⟩ hc
        · exact rchB_iff.2 hr
    · obtain ⟨q, hq, h⟩ := List.any_eq_true.1 h
      obtain ⟨j, hj, e⟩ := List.mem_iff_getElem.1 hq
      rw [List.length_take] at hj
      rw [List.getElem_take] at e
      subst e
      simp only [Bool.and_eq_true, decide_eq_true_eq] at h
      refine List.any_eq_true.2 ⟨⟨j, idx (unitsP l) l[j].lo, idx (unitsP l) l[j].up⟩, next_mem.2 ⟨arcs_mem.2 ⟨j, by omega, by omega, h.1, rfl⟩, by simp only; rw [h.2.2]⟩, ?_⟩
      unfold impB
      simp only
      rw [if_pos (by rw [h.2.1])]
      exact decide_eq_true (by omega)

theorem red_want {l : List Rel} {mm : Nat → Nat → Nat} (hn : (unitsP l).length ≤ 8) (hc : ¬ Cyc (arcsOf l)) (hF : ∀ c b, Far (prs (arcsOf l)) 8 c b (mm c b)) :
    redL (arcsOf l) (arcsOf l).length = wantL l (unitsP l) mm l.length := by
  unfold redL
  rw [List.take_length]
  have key : ∀ k, k ≤ l.length → ((arcsUp l k).filter fun a => !impliedB (arcsOf l) a).map (·.i) = wantL l (unitsP l) mm k := by
    intro k
    induction k with
    | zero => intro _; simp [arcsUp, wantL]
    | succ k ih =>
      intro hk
      have ih := ih (by omega)
      rw [arcsUp_succ (by omega : k < l.length), wantL_succ (by omega : k < l.length), ← ih]
      by_cases e : l[k].kind = 4
      · rw [if_pos e, if_pos (by simp [lawImp, e])]
      · rw [if_neg e, List.filter_append, List.map_append, ← implied_law hn hc hF (by omega) e]
        by_cases q : impliedB (arcsOf l) ⟨k, idx (unitsP l) l[k].lo, idx (unitsP l) l[k].up⟩ = true
        · simp [q]
        · simp [q]
  exact key l.length (Nat.le_refl _)

theorem rch_lt {arcs : List Arc} {n a b : Nat} (wf : WF n arcs) (h : Rch arcs a b) : a < n ∧ b < n := by
  obtain ⟨m, hm, hw⟩ := h
  obtain ⟨m, rfl⟩ : ∃ k, m = k + 1 := ⟨m - 1, by omega⟩
  obtain ⟨c, h1, h2⟩ := id hw
  obtain ⟨d, h3, h4⟩ := hw.head
  obtain ⟨x, hx, e⟩ := List.mem_map.1 h2
  obtain ⟨y, hy, e'⟩ := List.mem_map.1 h3
  exact ⟨(Prod.mk.inj e').1 ▸ wf.lo y hy, (Prod.mk.inj e).2 ▸ wf.up x hx⟩

/-! ### Small calls -/
theorem sameN_runs {H : Heap} {v1 v2 : Value} {xs ys : List Nat} (h1 : Sl H 1 v1 (xs.map encN)) (h2 : Sl H 1 v2 (ys.map encN)) (hx : xs.length < 2 ^ 40) :
    big tab 15 [v1, v2] H = some (.bool (decide (xs = ys)), H) := by
  have e : ∀ zs : List Nat, zs.map encN = ints (zs.map fun z : Nat => (z : Int)) := fun zs => by simp [ints]
  rw [e] at h1 h2
  have h := sameInts_runs (ext := extB) rfl h1 h2 (by simpa using hx)
  have e2 : decide ((xs.map fun z : Nat => (z : Int)) = ys.map fun z : Nat => (z : Int)) = decide (xs = ys) := by
    by_cases q : xs = ys
    · subst q; simp
    · rw [decide_eq_false q, decide_eq_false]
      intro h
      refine q ?_
      have : ∀ {a b : List Nat}, (a.map fun z : Nat => (z : Int)) = b.map (fun z : Nat => (z : Int)) → a = b := by
        intro a
        induction a with
        | nil => intro b h; cases b with
          | nil => rfl
          | cons y b => simp at h
        | cons x a ih => intro b h; cases b with
          | nil => simp at h
          | cons y b =>
            simp only [List.map_cons, List.cons.injEq] at h
            rw [ih h.2, show x = y by omega]
      exact this h
  rw [e2] at h
  exact h

theorem ev_ldAMx {T : Tab} {s : List Value} {H : Heap} {α : Type} {f : α → List Value} {xs : List α} {sz k : Nat} {v : Value} {cs : List Value} {t : TypeId} {a : Operand} {i : TI} (h : Sl H sz v (xs.map f)) (ha : ev s a = ptrAt (sAddr v) (k * sz)) (hk : k < xs.length) (hx : f xs[k] = cs) (hT : T.T t = some i) (hs : i.size = sz) (hg : i.agg = true) : opEval T s H (.load t a) = some (.agg cs.toArray, H) := by
  rw [← hx]; exact ev_ldAM h ha hk hT hs hg
theorem ev_seqB {s : List Value} {H : Heap} {t t2 : TypeId} {x y : Operand} {a b : Nm} {p : Bool} (hp : decide (a = b) = p) (hx : ev s x = str a) (hy : ev s y = str b) : opEval tab s H (.binOp .eql t x y t2) = some (.bool p, H) := by
  rw [← hp]; exact ev_seq hx hy
theorem ev_nePair {s : List Value} {H : Heap} {x y : Operand} {t2 : TypeId} {a b : Nm} (hx : ev s x = .agg #[str a, str b]) (hy : ev s y = .agg #[str a, str b]) : opEval tab s H (.binOp .neq 56 x y t2) = some (.bool false, H) := by
  have h : tab.eqs 56 = some [.string, .string] := rfl
  simp only [opEval, hx, hy, binOp, h, Option.bind_some, aggEq, Option.map_some, BEq.rfl, Bool.and_self, Bool.not_true]

end Go.Proofs.Ytdhbclplondmjaa.C

end
