/- Texts of one's own, laid together: X5, X9, Xh, X11, Xk -/
import Derived.Test.YtdhbclplondmjaaQc26
section
/- The program's graph, run. -/
set_option linter.unusedVariables false
set_option linter.unusedSimpArgs false
set_option maxRecDepth 100000
set_option maxHeartbeats 4000000
namespace Go.Proofs.Ytdhbclplondmjaa.C
open Go.RowKit Go.Sort

theorem build_runs {H : Heap} {v : Value} {l : List Rel} (hl : Sl H 3 v (rels l)) (hll : l.length ≤ 2 ^ 20) (hn : (unitsP l).length ≤ 2 ^ 20) :
    ∃ r H1, big tab 32 [v] H = some (r, H1) ∧ Ext H H1 ∧ ∃ gp an aa ax M nx own, r = .pointer (some ⟨gp, 0, none⟩) ∧ GraphIs H1 gp (unitsP l) (arcsOf l) an aa ax M nx own ∧ H1[M]? = some (.map (mapE 0 (unitsP l))) := by
  refine big_of_runs rfl rfl rfl ?_
  obtain ⟨z, hz⟩ := startC_mkS Try.f32 [v]
  rw [show startC (32, Try.f32).snd [v] = _ from hz]
  clear hz
  refine Runs.cut (n := 96) (l := [(0, v)]) (Is.of ⟨rfl, rfl, trivial⟩) (fun a0 => ?_)
  refine Runs.seq ?_
  refine Runs.region ?_
  refine Rg.opp (v := .pointer none) rfl rfl rfl rfl rfl ?_
  refine Rg.nil ?_
  refine Runs.seq ?_
  refine Runs.region ?_
  refine Rg.opp (v := v) rfl rfl rfl rfl rfl ?_
  refine Rg.callW rfl rfl rfl rfl (rfl) rfl (unitsP_runs hl (by omega)) (fun r Hu hP => ?_)
  obtain ⟨heu, hus'⟩ := hP
  have hus : Sl Hu 1 r ((unitsP l).map encS) := hus'
  obtain ⟨ua, uc, rfl, huc⟩ := id hus
  have hM := Mem.start Hu
  refine Rg.new (v := fun p => .map (some p)) (X := .map []) (th := fun p => .map p []) hM rfl rfl rfl rfl rfl rfl (fun _ => rfl) (fun M Hc (hM : Mem Hu Hc ([.map M ([])])) _ => ?_)
  refine Rg.opp (v := .agg ([.slice ua (List.map encS (unitsP l)).length uc, .map (some M), .slice none 0 0, .slice none 0 0]).toArray) rfl rfl rfl rfl rfl ?_
  refine Rg.new (v := fun p => .pointer (some ⟨p, 0, none⟩)) (X := .row 4 ([.slice ua (List.map encS (unitsP l)).length uc, .map (some M), .slice none 0 0, .slice none 0 0]) true true) (th := fun p => .box p 4 ([.slice ua (List.map encS (unitsP l)).length uc, .map (some M), .slice none 0 0, .slice none 0 0])) hM rfl rfl rfl rfl rfl rfl (fun _ => rfl) (fun gp Hc hM _ => ?_)
  refine Rg.opp (v := .pointer (some ⟨gp, 0, none⟩)) rfl rfl rfl rfl rfl ?_
  refine Rg.nil ?_
  refine Runs.seq ?_
  refine Runs.seq ?_
  refine Runs.region ?_
  refine Rg.opp (v := .pointer (some ⟨gp, 0, none⟩)) rfl rfl rfl rfl rfl ?_
  refine Rg.opp (v := .pointer (some ⟨gp, 0, none⟩)) rfl rfl rfl rfl rfl ?_
  refine Rg.opp (v := .pointer (some ⟨gp, 0, none⟩)) rfl rfl rfl (ev_fld (o := 0) (p := (37, 0)) rfl rfl rfl rfl rfl (by decide)) rfl ?_
  refine Rg.opp (v := .slice ua (List.map encS (unitsP l)).length uc) rfl rfl rfl (ev_ldb (hM.get_box (j := 0) rfl) rfl rfl rfl rfl rfl) rfl ?_
  refine Rg.opp (v := nat ((unitsP l).length)) rfl rfl rfl (ev_lenM (hus.sees hM.ext.sees) rfl rfl) rfl ?_
  refine Rg.opp (v := nat 0) rfl rfl rfl rfl rfl ?_
  refine Rg.nil ?_
  refine Runs.block ?_
  refine Runs.loop (fun m s Hc => ∃ (k : Nat), m = (unitsP l).length - k ∧ Mem Hu Hc ([.box gp 4 ([.slice ua (List.map encS (unitsP l)).length uc, .map (some M), .slice none 0 0, .slice none 0 0]), .map M (mapE 0 ((unitsP l).take k))]) ∧ (k ≤ (unitsP l).length) ∧ Is s 96 [(0, v), (3, .pointer (some ⟨gp, 0, none⟩)), (17, .slice ua (List.map encS (unitsP l)).length uc), (18, nat ((unitsP l).length)), (19, nat k)]) _
    ⟨0, rfl, hM, Nat.zero_le _, Is.of ⟨rfl, rfl, rfl, rfl, rfl, rfl, rfl, rfl, rfl, rfl, trivial⟩⟩ ?_
  rintro m s Hc ⟨k, rfl, hM, hk, hs⟩
  obtain ⟨a1, rfl⟩ := hs.mk1
  clear hs
  refine Runs.seq ?_
  refine Runs.region ?_
  by_cases hlt : k < (unitsP l).length
  · skip
    refine Rg.opp (v := .bool true) rfl rfl rfl (ev_ltT rfl rfl (hlt)) rfl ?_
    refine Rg.nil ?_
    refine Runs.seq ?_
    refine Runs.cond true rfl (fun _ => ?_) (fun h => by cases h)
    refine Runs.skip ?_
    refine Runs.seq ?_
    refine Runs.block ?_
    refine Runs.seq ?_
    refine Runs.region ?_
    refine Rg.opp (v := nat k) rfl rfl rfl rfl rfl ?_
    refine Rg.opp (v := ptrAt (sAddr (.slice ua (List.map encS (unitsP l)).length uc)) (k * 1)) rfl rfl rfl (ev_idxM (k := k) (hus.sees hM.ext.sees) rfl rfl (hlt) rfl rfl rfl (by decide)) rfl ?_
    refine Rg.opp (v := str ((unitsP l)[k])) rfl rfl rfl (ev_ldM (k := k) (hus.sees hM.ext.sees) rfl (hlt) rfl rfl rfl rfl) rfl ?_
    refine Rg.opp (v := nat k) rfl rfl rfl rfl rfl ?_
    refine Rg.opp (v := str ((unitsP l)[k])) rfl rfl rfl rfl rfl ?_
    refine Rg.nil ?_
    refine Runs.region ?_
    refine Rg.opp (v := .pointer (some ⟨gp, 0, none⟩)) rfl rfl rfl rfl rfl ?_
    refine Rg.opp (v := .pointer (some ⟨gp, 0, none⟩)) rfl rfl rfl rfl rfl ?_
    refine Rg.opp (v := .pointer (some ⟨gp, 1, none⟩)) rfl rfl rfl (ev_fld (o := 0) (p := (74, 1)) rfl rfl rfl rfl rfl (by decide)) rfl ?_
    refine Rg.opp (v := .map (some M)) rfl rfl rfl (ev_ldb (hM.get_box (j := 0) rfl) rfl rfl rfl rfl rfl) rfl ?_
    refine Rg.opp (v := str ((unitsP l)[k])) rfl rfl rfl rfl rfl ?_
    refine Rg.opp (v := nat k) rfl rfl rfl rfl rfl ?_
    refine Rg.mapset (j := 1) (xs := (unitsP l).take k) (s := (unitsP l)[k]) hM rfl rfl rfl rfl rfl rfl rfl rfl (nodup_take (strict_nodup (unitsP_strict l)) hlt) (by rw [List.length_take]; omega) (fun Hc hM => ?_)
    rw [List.take_append_getElem hlt] at hM
    refine Rg.nil ?_
    refine Runs.region ?_
    refine Rg.opp (v := nat (k + 1)) rfl rfl rfl (ev_addN (b := 1) rfl rfl (by omega)) rfl ?_
    refine Rg.opp (v := nat (k + 1)) rfl rfl rfl rfl rfl ?_
    refine Rg.nil ?_
    refine ⟨(unitsP l).length - (k + 1), by omega, k + 1, rfl, hM, hlt, Is.of ⟨rfl, rfl, rfl, rfl, rfl, rfl, rfl, rfl, rfl, rfl, trivial⟩⟩
  · skip
    replace hM : Mem Hu Hc ([.box gp 4 ([.slice ua (List.map encS (unitsP l)).length uc, .map (some M), .slice none 0 0, .slice none 0 0]), .map M (mapE 0 (unitsP l))]) := by rw [show k = (unitsP l).length by omega, List.take_length] at hM; exact hM
    refine Rg.opp (v := .bool false) rfl rfl rfl (ev_ltF rfl rfl (hlt)) rfl ?_
    refine Rg.nil ?_
    refine Runs.seq ?_
    refine Runs.cond false rfl (fun h => by cases h) (fun _ => ?_)
    refine Runs.exit ?_
    refine Runs.seq ?_
    refine Runs.region ?_
    refine Rg.opp (v := .pointer (some ⟨gp, 0, none⟩)) rfl rfl rfl rfl rfl ?_
    refine Rg.opp (v := .pointer (some ⟨gp, 0, none⟩)) rfl rfl rfl rfl rfl ?_
    refine Rg.opp (v := .pointer (some ⟨gp, 0, none⟩)) rfl rfl rfl rfl rfl ?_
    refine Rg.opp (v := .pointer (some ⟨gp, 0, none⟩)) rfl rfl rfl (ev_fld (o := 0) (p := (37, 0)) rfl rfl rfl rfl rfl (by decide)) rfl ?_
    refine Rg.opp (v := .slice ua (List.map encS (unitsP l)).length uc) rfl rfl rfl (ev_ldb (hM.get_box (j := 0) rfl) rfl rfl rfl rfl rfl) rfl ?_
    refine Rg.opp (v := nat ((unitsP l).length)) rfl rfl rfl (ev_lenM (hus.sees hM.ext.sees) rfl rfl) rfl ?_
    refine Rg.make (f := encV) (sz := 1) (m := (unitsP l).length) (.slice none 0 0) hM rfl rfl rfl rfl rfl rfl rfl rfl rfl (by decide) rfl rfl rfl (by show (unitsP l).length * 24 ≤ 2 ^ 40; omega) (by omega) (fun ax0 Hc (hM : Mem Hu Hc ([.sl 1 ax0 (List.map encV (List.replicate ((unitsP l).length) (.slice none 0 0))), .box gp 4 ([.slice ua (List.map encS (unitsP l)).length uc, .map (some M), .slice none 0 0, .slice none 0 0]), .map M (mapE 0 (unitsP l))])) _ => ?_)
    refine Rg.opp (v := .pointer (some ⟨gp, 0, none⟩)) rfl rfl rfl rfl rfl ?_
    refine Rg.opp (v := .pointer (some ⟨gp, 3, none⟩)) rfl rfl rfl (ev_fld (o := 0) (p := (75, 3)) rfl rfl rfl rfl rfl (by decide)) rfl ?_
    refine Rg.stob1 (j := 1) (cs' := [.slice ua (List.map encS (unitsP l)).length uc, .map (some M), .slice none 0 0, ax0]) hM rfl rfl rfl rfl rfl rfl rfl rfl rfl ((hM.get_sl (j := 0) rfl).one) (Nat.le_of_ble_eq_true rfl) rfl (fun Hc (hM : Mem Hu Hc ([.sl 1 ax0 (List.map encV (List.replicate ((unitsP l).length) (.slice none 0 0))), .box gp 4 ([.slice ua (List.map encS (unitsP l)).length uc, .map (some M), .slice none 0 0, ax0]), .map M (mapE 0 (unitsP l))])) => ?_)
    refine Rg.nil ?_
    refine Runs.seq ?_
    refine Runs.seq ?_
    refine Runs.region ?_
    refine Rg.opp (v := v) rfl rfl rfl rfl rfl ?_
    refine Rg.opp (v := nat l.length) rfl rfl rfl (ev_lenM ((hl.sees heu.sees).sees hM.ext.sees) rfl rfl) rfl ?_
    refine Rg.opp (v := nat 0) rfl rfl rfl rfl rfl ?_
    refine Rg.nil ?_
    refine Runs.block ?_
    refine Runs.loop (fun m s Hc => ∃ (k : Nat) (av : Value) (nx : List Value), m = l.length - k ∧ Mem Hu Hc ((.sl 3 av (List.map arcC (arcsUp l k))) :: (.sl 1 ax0 (List.map encV nx)) :: (.box gp 4 [.slice ua (List.map encS (unitsP l)).length uc, .map (some M), av, ax0]) :: (.map M (mapE 0 (unitsP l))) :: (inner nx (unitsP l).length (arcsUp l k))) ∧ (k ≤ l.length) ∧ (nx.length = (unitsP l).length) ∧ Is s 96 [(3, .pointer (some ⟨gp, 0, none⟩)), (40, v), (41, nat l.length), (42, nat k)]) _
      ⟨0, .slice none 0 0, List.replicate (unitsP l).length (.slice none 0 0), rfl, by have h := (hM.nilSl 3).addNil 3 (unitsP l).length; rw [inner_start] at h; exact h, Nat.zero_le _, by simp, Is.of ⟨rfl, rfl, rfl, rfl, rfl, rfl, rfl, rfl, trivial⟩⟩ ?_
    rintro m s Hc ⟨k, av, nx, rfl, hM, hk2, hnl, hs⟩
    obtain ⟨a2, rfl⟩ := hs.mk1
    clear hs
    refine Runs.seq ?_
    refine Runs.region ?_
    by_cases hlt : k < l.length
    · skip
      have hlo : idx (unitsP l) l[k].lo < (unitsP l).length := idx_lt (mem_unitsP.2 (mem_names_lo (List.getElem_mem hlt)))
      have hup : idx (unitsP l) l[k].up < (unitsP l).length := idx_lt (mem_unitsP.2 (mem_names_up (List.getElem_mem hlt)))
      refine Rg.opp (v := .bool true) rfl rfl rfl (ev_ltT rfl rfl (hlt)) rfl ?_
      refine Rg.nil ?_
      refine Runs.seq ?_
      refine Runs.cond true rfl (fun _ => ?_) (fun h => by cases h)
      refine Runs.skip ?_
      refine Runs.seq ?_
      refine Runs.block ?_
      refine Runs.seq ?_
      refine Runs.region ?_
      refine Rg.opp (v := nat k) rfl rfl rfl rfl rfl ?_
      refine Rg.opp (v := ptrAt (sAddr v) (k * 3)) rfl rfl rfl (ev_idxM (k := k) ((hl.sees heu.sees).sees hM.ext.sees) rfl rfl (hlt) rfl rfl rfl (by decide)) rfl ?_
      refine Rg.opp (v := .agg (relC (l[k])).toArray) rfl rfl rfl (ev_ldAM (k := k) ((hl.sees heu.sees).sees hM.ext.sees) rfl (hlt) rfl rfl rfl) rfl ?_
      refine Rg.new (v := fun p => .pointer (some ⟨p, 0, none⟩)) (X := .row 3 [.int .i64 0, .string ⟨#[]⟩, .string ⟨#[]⟩] true true) (th := fun p => .box p 3 [.int .i64 0, .string ⟨#[]⟩, .string ⟨#[]⟩]) hM rfl rfl rfl rfl rfl rfl (fun _ => rfl) (fun p3 Hc hM _ => ?_)
      refine Rg.opp (v := nat k) rfl rfl rfl rfl rfl ?_
      refine Rg.stob (j := 0) (cs' := relC (l[k])) hM rfl rfl rfl rfl rfl rfl rfl rfl rfl rfl (Nat.le_of_ble_eq_true rfl) rfl (fun Hc (hM : Mem Hu Hc ((.box p3 3 (relC (l[k]))) :: (.sl 3 av (List.map arcC (arcsUp l k))) :: (.sl 1 ax0 (List.map encV nx)) :: (.box gp 4 [.slice ua (List.map encS (unitsP l)).length uc, .map (some M), av, ax0]) :: (.map M (mapE 0 (unitsP l))) :: (inner nx (unitsP l).length (arcsUp l k)))) => ?_)
      refine Rg.nil ?_
      refine Runs.seq ?_
      refine Runs.seq ?_
      refine Runs.region ?_
      refine Rg.opp (v := .pointer (some ⟨p3, 0, none⟩)) rfl rfl rfl (ev_fld (o := 0) (p := (3, 0)) rfl rfl rfl rfl rfl (by decide)) rfl ?_
      refine Rg.opp (v := nat (l[k].kind)) rfl rfl rfl (ev_ldb (hM.get_box (j := 0) rfl) rfl rfl rfl rfl rfl) rfl ?_
      by_cases hkd : l[k].kind = 4
      · skip
        refine Rg.opp (v := .bool true) rfl rfl rfl (ev_eqT rfl rfl (hkd)) rfl ?_
        refine Rg.nil ?_
        refine Runs.cond true rfl (fun _ => ?_) (fun h => by cases h)
        refine Runs.exit ?_
        refine Runs.region ?_
        refine Rg.opp (v := nat (k + 1)) rfl rfl rfl (ev_addN (b := 1) rfl rfl (by omega)) rfl ?_
        refine Rg.opp (v := nat (k + 1)) rfl rfl rfl rfl rfl ?_
        refine Rg.nil ?_
        refine ⟨l.length - (k + 1), by omega, k + 1, av, nx, rfl, by rw [arcsUp_succ hlt, if_pos hkd]; exact hM.tail, hlt, hnl, Is.of ⟨rfl, rfl, rfl, rfl, rfl, rfl, rfl, rfl, trivial⟩⟩
      · skip
        refine Rg.opp (v := .bool false) rfl rfl rfl (ev_eqF rfl rfl (hkd)) rfl ?_
        refine Rg.nil ?_
        refine Runs.cond false rfl (fun h => by cases h) (fun _ => ?_)
        refine Runs.skip ?_
        refine Runs.seq ?_
        refine Runs.drawn (is := [0, 1, 2, 3, 4, 5, 6, 7, 8, 9, 10, 11, 12, 13, 14, 15, 16, 17]) (by decide +kernel) ?_
        refine Rg.opp (v := nat k) rfl rfl rfl rfl rfl ?_
        refine Rg.opp (v := .pointer (some ⟨gp, 0, none⟩)) rfl rfl rfl rfl rfl ?_
        refine Rg.opp (v := .pointer (some ⟨gp, 0, none⟩)) rfl rfl rfl rfl rfl ?_
        refine Rg.opp (v := .pointer (some ⟨gp, 1, none⟩)) rfl rfl rfl (ev_fld (o := 0) (p := (74, 1)) rfl rfl rfl rfl rfl (by decide)) rfl ?_
        refine Rg.opp (v := .map (some M)) rfl rfl rfl (ev_ldb (hM.get_box (j := 3) rfl) rfl rfl rfl rfl rfl) rfl ?_
        refine Rg.opp (v := .pointer (some ⟨p3, 2, none⟩)) rfl rfl rfl (ev_fld (o := 0) (p := (9, 2)) rfl rfl rfl rfl rfl (by decide)) rfl ?_
        refine Rg.opp (v := str (l[k].lo)) rfl rfl rfl (ev_ldb (hM.get_box (j := 0) rfl) rfl rfl rfl rfl rfl) rfl ?_
        refine Rg.opp (v := nat (idx (unitsP l) l[k].lo)) rfl rfl rfl (ev_lookN rfl rfl (hM.get_map (j := 4) rfl)) rfl ?_
        refine Rg.opp (v := .pointer (some ⟨gp, 0, none⟩)) rfl rfl rfl rfl rfl ?_
        refine Rg.opp (v := .pointer (some ⟨gp, 0, none⟩)) rfl rfl rfl rfl rfl ?_
        refine Rg.opp (v := .pointer (some ⟨gp, 1, none⟩)) rfl rfl rfl (ev_fld (o := 0) (p := (74, 1)) rfl rfl rfl rfl rfl (by decide)) rfl ?_
        refine Rg.opp (v := .map (some M)) rfl rfl rfl (ev_ldb (hM.get_box (j := 3) rfl) rfl rfl rfl rfl rfl) rfl ?_
        refine Rg.opp (v := .pointer (some ⟨p3, 1, none⟩)) rfl rfl rfl (ev_fld (o := 0) (p := (9, 1)) rfl rfl rfl rfl rfl (by decide)) rfl ?_
        refine Rg.opp (v := str (l[k].up)) rfl rfl rfl (ev_ldb (hM.get_box (j := 0) rfl) rfl rfl rfl rfl rfl) rfl ?_
        refine Rg.opp (v := nat (idx (unitsP l) l[k].up)) rfl rfl rfl (ev_lookN rfl rfl (hM.get_map (j := 4) rfl)) rfl ?_
        refine Rg.opp (v := .agg (arcC (⟨k, idx (unitsP l) l[k].lo, idx (unitsP l) l[k].up⟩ : Arc)).toArray) rfl rfl rfl rfl rfl ?_
        refine Rg.new (v := fun p => .pointer (some ⟨p, 0, none⟩)) (X := .row 3 [.int .i64 0, .int .i64 0, .int .i64 0] true true) (th := fun p => .box p 3 [.int .i64 0, .int .i64 0, .int .i64 0]) hM rfl rfl rfl rfl rfl rfl (fun _ => rfl) (fun p4 Hc hM _ => ?_)
        refine Rg.stob (j := 0) (cs' := arcC (⟨k, idx (unitsP l) l[k].lo, idx (unitsP l) l[k].up⟩ : Arc)) hM rfl rfl rfl rfl rfl rfl rfl rfl rfl rfl (Nat.le_of_ble_eq_true rfl) rfl (fun Hc (hM : Mem Hu Hc ((.box p4 3 (arcC (⟨k, idx (unitsP l) l[k].lo, idx (unitsP l) l[k].up⟩ : Arc))) :: (.box p3 3 (relC (l[k]))) :: (.sl 3 av (List.map arcC (arcsUp l k))) :: (.sl 1 ax0 (List.map encV nx)) :: (.box gp 4 [.slice ua (List.map encS (unitsP l)).length uc, .map (some M), av, ax0]) :: (.map M (mapE 0 (unitsP l))) :: (inner nx (unitsP l).length (arcsUp l k)))) => ?_)
        refine Rg.nil ?_
        refine Runs.seq ?_
        refine Runs.drawn (is := [1, 2, 3, 4, 5, 6, 7, 0, 8, 9, 10]) (by decide +kernel) ?_
        refine Rg.opp (v := .pointer (some ⟨gp, 0, none⟩)) rfl rfl rfl rfl rfl ?_
        refine Rg.opp (v := .pointer (some ⟨gp, 0, none⟩)) rfl rfl rfl rfl rfl ?_
        refine Rg.opp (v := .pointer (some ⟨gp, 2, none⟩)) rfl rfl rfl (ev_fld (o := 0) (p := (73, 2)) rfl rfl rfl rfl rfl (by decide)) rfl ?_
        refine Rg.opp (v := av) rfl rfl rfl (ev_ldb (hM.get_box (j := 4) rfl) rfl rfl rfl rfl rfl) rfl ?_
        refine Rg.opp (v := .agg (arcC (⟨k, idx (unitsP l) l[k].lo, idx (unitsP l) l[k].up⟩ : Arc)).toArray) rfl rfl rfl (ev_ldbA (hM.get_box (j := 0) rfl) rfl rfl rfl rfl) rfl ?_
        refine Rg.lit (f := arcC) (sz := 3) (xs := [(⟨k, idx (unitsP l) l[k].lo, idx (unitsP l) l[k].up⟩ : Arc)]) hM rfl rfl rfl rfl rfl (by simp) (by simp) (fun u5 Hc (hM : Mem Hu Hc ((.sl 3 u5 (List.map arcC ([(⟨k, idx (unitsP l) l[k].lo, idx (unitsP l) l[k].up⟩ : Arc)]))) :: (.box p4 3 (arcC (⟨k, idx (unitsP l) l[k].lo, idx (unitsP l) l[k].up⟩ : Arc))) :: (.box p3 3 (relC (l[k]))) :: (.sl 3 av (List.map arcC (arcsUp l k))) :: (.sl 1 ax0 (List.map encV nx)) :: (.box gp 4 [.slice ua (List.map encS (unitsP l)).length uc, .map (some M), av, ax0]) :: (.map M (mapE 0 (unitsP l))) :: (inner nx (unitsP l).length (arcsUp l k)))) _ => ?_)
        refine Rg.appM (f := arcC) (sz := 3) (j := 3) (v := av) (xs := arcsUp l k) (ys := [(⟨k, idx (unitsP l) l[k].lo, idx (unitsP l) l[k].up⟩ : Arc)]) hM rfl rfl rfl rfl rfl rfl rfl (hM.get_sl (j := 0) rfl) ⟨rfl, rfl, rfl, by decide⟩ rfl (by simp [oneCell]) (by show (_ + _) * 24 ≤ 2 ^ 40; have := arcsUp_len l k; simp only [List.length_cons, List.length_nil]; omega) (by simp) (fun av1 Hc (hM : Mem Hu Hc ((.sl 3 u5 (List.map arcC ([(⟨k, idx (unitsP l) l[k].lo, idx (unitsP l) l[k].up⟩ : Arc)]))) :: (.box p4 3 (arcC (⟨k, idx (unitsP l) l[k].lo, idx (unitsP l) l[k].up⟩ : Arc))) :: (.box p3 3 (relC (l[k]))) :: (.sl 3 av1 (List.map arcC ((arcsUp l k) ++ ([(⟨k, idx (unitsP l) l[k].lo, idx (unitsP l) l[k].up⟩ : Arc)])))) :: (.sl 1 ax0 (List.map encV nx)) :: (.box gp 4 [.slice ua (List.map encS (unitsP l)).length uc, .map (some M), av, ax0]) :: (.map M (mapE 0 (unitsP l))) :: (inner nx (unitsP l).length (arcsUp l k)))) hga => ?_)
        replace hM : Mem Hu Hc ((.box p4 3 (arcC (⟨k, idx (unitsP l) l[k].lo, idx (unitsP l) l[k].up⟩ : Arc))) :: (.box p3 3 (relC (l[k]))) :: (.sl 3 av1 (List.map arcC ((arcsUp l k) ++ ([(⟨k, idx (unitsP l) l[k].lo, idx (unitsP l) l[k].up⟩ : Arc)])))) :: (.sl 1 ax0 (List.map encV nx)) :: (.box gp 4 [.slice ua (List.map encS (unitsP l)).length uc, .map (some M), av, ax0]) :: (.map M (mapE 0 (unitsP l))) :: (inner nx (unitsP l).length (arcsUp l k))) := hM.erase 0
        refine Rg.opp (v := .pointer (some ⟨gp, 0, none⟩)) rfl rfl rfl rfl rfl ?_
        refine Rg.opp (v := .pointer (some ⟨gp, 0, none⟩)) rfl rfl rfl rfl rfl ?_
        refine Rg.opp (v := .pointer (some ⟨gp, 2, none⟩)) rfl rfl rfl (ev_fld (o := 0) (p := (73, 2)) rfl rfl rfl rfl rfl (by decide)) rfl ?_
        refine Rg.stob1 (j := 4) (cs' := [.slice ua (List.map encS (unitsP l)).length uc, .map (some M), av1, ax0]) hM rfl rfl rfl rfl rfl rfl rfl rfl rfl (hga.one) (Nat.le_of_ble_eq_true rfl) rfl (fun Hc (hM : Mem Hu Hc ((.box p4 3 (arcC (⟨k, idx (unitsP l) l[k].lo, idx (unitsP l) l[k].up⟩ : Arc))) :: (.box p3 3 (relC (l[k]))) :: (.sl 3 av1 (List.map arcC ((arcsUp l k) ++ ([(⟨k, idx (unitsP l) l[k].lo, idx (unitsP l) l[k].up⟩ : Arc)])))) :: (.sl 1 ax0 (List.map encV nx)) :: (.box gp 4 ([.slice ua (List.map encS (unitsP l)).length uc, .map (some M), av1, ax0])) :: (.map M (mapE 0 (unitsP l))) :: (inner nx (unitsP l).length (arcsUp l k)))) => ?_)
        refine Rg.nil ?_
        refine Runs.drawn (is := [6, 7, 8, 9, 10, 11, 12, 13, 14, 15, 16, 0, 1, 2, 3, 4, 5, 17, 18]) (by decide +kernel) ?_
        refine Rg.opp (v := .pointer (some ⟨gp, 0, none⟩)) rfl rfl rfl rfl rfl ?_
        refine Rg.opp (v := .pointer (some ⟨gp, 0, none⟩)) rfl rfl rfl rfl rfl ?_
        refine Rg.opp (v := .pointer (some ⟨gp, 3, none⟩)) rfl rfl rfl (ev_fld (o := 0) (p := (75, 3)) rfl rfl rfl rfl rfl (by decide)) rfl ?_
        refine Rg.opp (v := ax0) rfl rfl rfl (ev_ldb (hM.get_box (j := 4) rfl) rfl rfl rfl rfl rfl) rfl ?_
        refine Rg.opp (v := .pointer (some ⟨p4, 1, none⟩)) rfl rfl rfl (ev_fld (o := 0) (p := (3, 1)) rfl rfl rfl rfl rfl (by decide)) rfl ?_
        refine Rg.opp (v := nat (idx (unitsP l) l[k].lo)) rfl rfl rfl (ev_ldb (hM.get_box (j := 0) rfl) rfl rfl rfl rfl rfl) rfl ?_
        refine Rg.opp (v := ptrAt (sAddr ax0) ((idx (unitsP l) l[k].lo) * 1)) rfl rfl rfl (ev_idxM (k := idx (unitsP l) l[k].lo) (hM.get_sl (j := 3) rfl) rfl rfl (by omega) rfl rfl rfl (by decide)) rfl ?_
        refine Rg.opp (v := nx[idx (unitsP l) l[k].lo]) rfl rfl rfl (ev_ldM (k := (idx (unitsP l) l[k].lo)) (hM.get_sl (j := 3) rfl) rfl (by omega) rfl rfl rfl rfl) rfl ?_
        refine Rg.opp (v := .agg (arcC (⟨k, idx (unitsP l) l[k].lo, idx (unitsP l) l[k].up⟩ : Arc)).toArray) rfl rfl rfl (ev_ldbA (hM.get_box (j := 0) rfl) rfl rfl rfl rfl) rfl ?_
        refine Rg.lit (f := arcC) (sz := 3) (xs := [(⟨k, idx (unitsP l) l[k].lo, idx (unitsP l) l[k].up⟩ : Arc)]) hM rfl rfl rfl rfl rfl (by simp) (by simp) (fun u6 Hc (hM : Mem Hu Hc ((.sl 3 u6 (List.map arcC ([(⟨k, idx (unitsP l) l[k].lo, idx (unitsP l) l[k].up⟩ : Arc)]))) :: (.box p4 3 (arcC (⟨k, idx (unitsP l) l[k].lo, idx (unitsP l) l[k].up⟩ : Arc))) :: (.box p3 3 (relC (l[k]))) :: (.sl 3 av1 (List.map arcC ((arcsUp l k) ++ ([(⟨k, idx (unitsP l) l[k].lo, idx (unitsP l) l[k].up⟩ : Arc)])))) :: (.sl 1 ax0 (List.map encV nx)) :: (.box gp 4 ([.slice ua (List.map encS (unitsP l)).length uc, .map (some M), av1, ax0])) :: (.map M (mapE 0 (unitsP l))) :: (inner nx (unitsP l).length (arcsUp l k)))) _ => ?_)
        have hj : ((.sl 3 u6 (List.map arcC ([(⟨k, idx (unitsP l) l[k].lo, idx (unitsP l) l[k].up⟩ : Arc)]))) :: (.box p4 3 (arcC (⟨k, idx (unitsP l) l[k].lo, idx (unitsP l) l[k].up⟩ : Arc))) :: (.box p3 3 (relC (l[k]))) :: (.sl 3 av1 (List.map arcC ((arcsUp l k) ++ ([(⟨k, idx (unitsP l) l[k].lo, idx (unitsP l) l[k].up⟩ : Arc)])))) :: (.sl 1 ax0 (List.map encV nx)) :: (.box gp 4 ([.slice ua (List.map encS (unitsP l)).length uc, .map (some M), av1, ax0])) :: (.map M (mapE 0 (unitsP l))) :: (inner nx (unitsP l).length (arcsUp l k)))[idx (unitsP l) l[k].lo + 7]? = some (.sl 3 nx[idx (unitsP l) l[k].lo] ((nextOf (arcsUp l k) (idx (unitsP l) l[k].lo)).map arcC)) := inner_get hlo hnl
        refine Rg.appM (f := arcC) (sz := 3) (j := idx (unitsP l) l[k].lo + 7) (v := nx[idx (unitsP l) l[k].lo]) (xs := nextOf (arcsUp l k) (idx (unitsP l) l[k].lo)) (ys := [(⟨k, idx (unitsP l) l[k].lo, idx (unitsP l) l[k].up⟩ : Arc)]) hM rfl rfl rfl rfl hj rfl rfl (hM.get_sl (j := 0) rfl) ⟨rfl, rfl, rfl, by decide⟩ rfl (by simp [oneCell]) (by show (_ + _) * 24 ≤ 2 ^ 40; have := next_len (arcsUp l k) (idx (unitsP l) l[k].lo); have := arcsUp_len l k; simp only [List.length_cons, List.length_nil]; omega) (by simp) (fun u Hc hM hgu => ?_)
        replace hM : Mem Hu Hc ((.sl 3 u6 (List.map arcC ([(⟨k, idx (unitsP l) l[k].lo, idx (unitsP l) l[k].up⟩ : Arc)]))) :: (.box p4 3 (arcC (⟨k, idx (unitsP l) l[k].lo, idx (unitsP l) l[k].up⟩ : Arc))) :: (.box p3 3 (relC (l[k]))) :: (.sl 3 av1 (List.map arcC ((arcsUp l k) ++ ([(⟨k, idx (unitsP l) l[k].lo, idx (unitsP l) l[k].up⟩ : Arc)])))) :: (.sl 1 ax0 (List.map encV nx)) :: (.box gp 4 ([.slice ua (List.map encS (unitsP l)).length uc, .map (some M), av1, ax0])) :: (.map M (mapE 0 (unitsP l))) :: (inner (nx.set (idx (unitsP l) l[k].lo) u) (unitsP l).length (arcsUp l k ++ [(⟨k, idx (unitsP l) l[k].lo, idx (unitsP l) l[k].up⟩ : Arc)]))) := by rw [← inner_set (a := (⟨k, idx (unitsP l) l[k].lo, idx (unitsP l) l[k].up⟩ : Arc)) hlo hnl]; exact hM
        replace hM : Mem Hu Hc ((.box p4 3 (arcC (⟨k, idx (unitsP l) l[k].lo, idx (unitsP l) l[k].up⟩ : Arc))) :: (.box p3 3 (relC (l[k]))) :: (.sl 3 av1 (List.map arcC ((arcsUp l k) ++ ([(⟨k, idx (unitsP l) l[k].lo, idx (unitsP l) l[k].up⟩ : Arc)])))) :: (.sl 1 ax0 (List.map encV nx)) :: (.box gp 4 ([.slice ua (List.map encS (unitsP l)).length uc, .map (some M), av1, ax0])) :: (.map M (mapE 0 (unitsP l))) :: (inner (nx.set (idx (unitsP l) l[k].lo) u) (unitsP l).length (arcsUp l k ++ [(⟨k, idx (unitsP l) l[k].lo, idx (unitsP l) l[k].up⟩ : Arc)]))) := hM.erase 0
        refine Rg.opp (v := .pointer (some ⟨gp, 0, none⟩)) rfl rfl rfl rfl rfl ?_
        refine Rg.opp (v := .pointer (some ⟨gp, 0, none⟩)) rfl rfl rfl rfl rfl ?_
        refine Rg.opp (v := .pointer (some ⟨gp, 3, none⟩)) rfl rfl rfl (ev_fld (o := 0) (p := (75, 3)) rfl rfl rfl rfl rfl (by decide)) rfl ?_
        refine Rg.opp (v := ax0) rfl rfl rfl (ev_ldb (hM.get_box (j := 4) rfl) rfl rfl rfl rfl rfl) rfl ?_
        refine Rg.opp (v := .pointer (some ⟨p4, 1, none⟩)) rfl rfl rfl (ev_fld (o := 0) (p := (3, 1)) rfl rfl rfl rfl rfl (by decide)) rfl ?_
        refine Rg.opp (v := nat (idx (unitsP l) l[k].lo)) rfl rfl rfl (ev_ldb (hM.get_box (j := 0) rfl) rfl rfl rfl rfl rfl) rfl ?_
        refine Rg.opp (v := ptrAt (sAddr ax0) ((idx (unitsP l) l[k].lo) * 1)) rfl rfl rfl (ev_idxM (k := idx (unitsP l) l[k].lo) (hM.get_sl (j := 3) rfl) rfl rfl (by omega) rfl rfl rfl (by decide)) rfl ?_
        refine Rg.stoM (f := encV) (j := 3) (k := (idx (unitsP l) l[k].lo)) u hM rfl rfl rfl rfl rfl rfl rfl (by omega) rfl hgu.one.1 rfl rfl (by simp [hgu.one.2.1]) (fun Hc (hM : Mem Hu Hc ((.box p4 3 (arcC (⟨k, idx (unitsP l) l[k].lo, idx (unitsP l) l[k].up⟩ : Arc))) :: (.box p3 3 (relC (l[k]))) :: (.sl 3 av1 (List.map arcC ((arcsUp l k) ++ ([(⟨k, idx (unitsP l) l[k].lo, idx (unitsP l) l[k].up⟩ : Arc)])))) :: (.sl 1 ax0 (List.map encV ((nx).set ((idx (unitsP l) l[k].lo)) u))) :: (.box gp 4 ([.slice ua (List.map encS (unitsP l)).length uc, .map (some M), av1, ax0])) :: (.map M (mapE 0 (unitsP l))) :: (inner (nx.set (idx (unitsP l) l[k].lo) u) (unitsP l).length (arcsUp l k ++ [(⟨k, idx (unitsP l) l[k].lo, idx (unitsP l) l[k].up⟩ : Arc)])))) => ?_)
        refine Rg.nil ?_
        refine Runs.region ?_
        refine Rg.opp (v := nat (k + 1)) rfl rfl rfl (ev_addN (b := 1) rfl rfl (by omega)) rfl ?_
        refine Rg.opp (v := nat (k + 1)) rfl rfl rfl rfl rfl ?_
        refine Rg.nil ?_
        refine ⟨l.length - (k + 1), by omega, k + 1, av1, nx.set (idx (unitsP l) l[k].lo) u, rfl, by rw [arcsUp_succ hlt, if_neg hkd]; exact hM.drop 2, hlt, by simpa using hnl, Is.of ⟨rfl, rfl, rfl, rfl, rfl, rfl, rfl, rfl, trivial⟩⟩
    · skip
      refine Rg.opp (v := .bool false) rfl rfl rfl (ev_ltF rfl rfl (hlt)) rfl ?_
      refine Rg.nil ?_
      refine Runs.seq ?_
      refine Runs.cond false rfl (fun h => by cases h) (fun _ => ?_)
      refine Runs.exit ?_
      refine Runs.seq ?_
      refine Runs.region ?_
      refine Rg.opp (v := .pointer (some ⟨gp, 0, none⟩)) rfl rfl rfl rfl rfl ?_
      refine Rg.opp (v := .pointer (some ⟨gp, 0, none⟩)) rfl rfl rfl rfl rfl ?_
      refine Rg.nil ?_
      refine Runs.ret ?_
      refine ⟨.pointer (some ⟨gp, 0, none⟩), rfl, ?_⟩
      have hkl : k = l.length := by omega
      subst hkl
      refine ⟨heu.trans hM.ext, gp, _, _, _, M, nx, true, rfl, ⟨hM.get_box (j := 2) rfl, hus.sees hM.ext.sees, hM.get_sl (j := 0) rfl, hM.get_sl (j := 1) rfl, hnl, fun i hi => ?_⟩, hM.get_map (j := 3) rfl⟩
      have hi' : i < (unitsP l).length := by omega
      exact hM.get_sl (j := i + 4) (show (inner nx (unitsP l).length (arcsUp l l.length))[i]? = _ from inner_get hi' hnl)

end Go.Proofs.Ytdhbclplondmjaa.C

end

section
/- Described relations: what holds of them; the law on Older, plain. -/
set_option linter.unusedVariables false
set_option linter.unusedSimpArgs false
namespace Go.Proofs.Ytdhbclplondmjaa.C
open Go.RowKit Go.Sort

theorem nodup_sub {α : Type} [DecidableEq α] : ∀ (ys zs : List α), ys.Nodup → (∀ y ∈ ys, y ∈ zs) → ys.length ≤ zs.length
  | [], _, _, _ => Nat.zero_le _
  | y :: ys, zs, hd, hs => by
    rw [List.nodup_cons] at hd
    have hy := hs y List.mem_cons_self
    have := nodup_sub ys (zs.erase y) hd.2 fun z hz => by
      have hne : z ≠ y := fun e => hd.1 (e ▸ hz)
      exact (List.mem_erase_of_ne hne).2 (hs z (List.mem_cons_of_mem _ hz))
    rw [List.length_erase_of_mem hy] at this
    have := List.length_pos_of_mem hy
    simp only [List.length_cons]; omega

/-- Relations as they are described. -/
structure Seenly (l : List Rel) : Prop where
  len : l.length ≤ 8
  good : ∀ r ∈ l, Good r
  six : ∀ r ∈ l, ∃ i j, i < 6 ∧ j < 6 ∧ r.up = nm i ∧ r.lo = nm j
  ne : ∀ r ∈ l, r.up ≠ r.lo

theorem seenly (xs : List Seen) (h : xs.length ≤ 8) : Seenly (xs.map mk) := by
  refine ⟨by simpa using h, fun r hr => ?_, fun r hr => ?_, fun r hr => ?_⟩
  · obtain ⟨s, _, rfl⟩ := List.mem_map.1 hr
    exact fun K => check_good s K
  · obtain ⟨s, _, rfl⟩ := List.mem_map.1 hr
    exact ⟨mkA s, mkB s, (mk_le s).1, (mk_le s).2, rfl, rfl⟩
  · obtain ⟨s, _, rfl⟩ := List.mem_map.1 hr
    exact mk_ne s

theorem Seenly.units {l : List Rel} (h : Seenly l) : (unitsP l).length ≤ 6 := by
  have := nodup_sub (unitsP l) ((List.range 6).map nm) (strict_nodup (unitsP_strict l)) fun y hy => by
    obtain ⟨r, hr, hy⟩ := List.mem_flatMap.1 (mem_unitsP.1 hy)
    obtain ⟨i, j, hi, hj, e1, e2⟩ := h.six r hr
    rcases List.mem_cons.1 hy with e | e
    · exact List.mem_map.2 ⟨i, List.mem_range.2 hi, by rw [e, e1]⟩
    · exact List.mem_map.2 ⟨j, List.mem_range.2 hj, by rw [List.mem_singleton.1 e, e2]⟩
  simpa using this

theorem fits_T {H : Heap} {v : Value} {xs : List Seen} (h : Sl H 3 v (seens xs)) (hx : xs.length ≤ 8) : big tab 10 [v] H = some (.bool true, H) := by
  obtain ⟨a, c, rfl, _⟩ := h
  have := fits_runs (H := H) a (seens xs).length c
  rwa [decide_eq_true (by rw [seens_len]; omega)] at this
theorem fits_F {H : Heap} {v : Value} {xs : List Seen} (h : Sl H 3 v (seens xs)) (hx : ¬ xs.length ≤ 8) : big tab 10 [v] H = some (.bool false, H) := by
  obtain ⟨a, c, rfl, _⟩ := h
  have := fits_runs (H := H) a (seens xs).length c
  rwa [decide_eq_false (by rw [seens_len]; omega)] at this
theorem index_not {H : Heap} {v : Value} {xs : List Nm} {x : Nm} (h : Sl H 1 v (xs.map encS)) (hx : x ∉ xs) (hl : xs.length < 2 ^ 40) : big tab 22 [v, str x] H = some (.int .i64 (-1), H) := by
  have h1 := index_runs x (xs := xs) h hl
  have h2 : indexOf xs x = -1 := indexOf_none fun i hi e => hx (by rw [← e]; exact List.getElem_mem hi)
  rw [h2] at h1
  exact h1

/-- The law's relations. -/
theorem makeS_runs {H : Heap} {v : Value} {xs : List Seen} (h : Sl H 3 v (seens xs)) (hsm : ∀ s ∈ xs, s.k < 256 ∧ s.u < 256 ∧ s.l < 256) (hx : xs.length ≤ 8) :
    ∃ r H1, big tab 11 [v] H = some (r, H1) ∧ Ext H H1 ∧ Sl H1 3 r (List.map relC (xs.map mk)) := by
  obtain ⟨r, H1, h1, he, p, ha⟩ := make_runs h hsm (by omega)
  rw [List.take_of_length_le (by omega)] at ha
  exact ⟨r, H1, h1, he, ha.sl (by rw [rels_len, List.length_map]; unfold unk; omega)⟩
theorem unitsS_runs {H : Heap} {v : Value} {l : List Rel} (h : Sl H 3 v (rels l)) (hl : l.length < 2 ^ 16) :
    ∃ r H1, big tab 20 [v] H = some (r, H1) ∧ Ext H H1 ∧ Sl H1 1 r (List.map encS (unitsP l)) := by
  obtain ⟨r, H1, h1, he, p, ha⟩ := lawUnits_runs h (by omega)
  rw [← units_eq] at ha
  refine ⟨r, H1, h1, he, ha.sl ?_⟩
  have : (unitsL l).length ≤ 0 + (allNames l).length := foldl_len _ _
  rw [allNames_len] at this
  rw [strs_len, units_eq]
  unfold unk; omega

theorem rch_far {arcs : List Arc} {n a b x : Nat} (wf : WF n arcs) (hn : n ≤ 8) (h : Far (prs arcs) 8 a b x) : 0 < x ↔ Rch arcs a b := by
  rw [h.pos]
  constructor
  · rintro ⟨k, h1, h2, h3⟩; exact ⟨k, h1, h3⟩
  · rintro ⟨k, h1, h2⟩
    obtain ⟨m, g1, g2, g3⟩ := W.short (N := n) (fun p hp => by obtain ⟨c, hc, rfl⟩ := List.mem_map.1 hp; exact wf.up c hc) k h1 h2
    exact ⟨m, g1, by omega, g3⟩

end Go.Proofs.Ytdhbclplondmjaa.C

end

section
/- A heap in a list, plain; calls by a pointer's interface. -/
set_option linter.unusedVariables false
set_option linter.unusedSimpArgs false
namespace Go.Proofs.Ytdhbclplondmjaa.C
open Go.RowKit Go.Sort

def swapL (es : List Nat) (i j : Nat) : List Nat := (es.set i (es.getD j 0)).set j (es.getD i 0)
theorem swapL_len (es : List Nat) (i j : Nat) : (swapL es i j).length = es.length := by simp [swapL]

def upF : Nat → List Nat → Nat → List Nat
  | 0, es, _ => es
  | f + 1, es, j => if (j - 1) / 2 = j ∨ ¬ es.getD j 0 < es.getD ((j - 1) / 2) 0 then es else upF f (swapL es ((j - 1) / 2) j) ((j - 1) / 2)
/-- The lesser child. -/
def dj (es : List Nat) (i n : Nat) : Nat := if 2 * i + 1 + 1 < n ∧ es.getD (2 * i + 1 + 1) 0 < es.getD (2 * i + 1) 0 then 2 * i + 1 + 1 else 2 * i + 1
def downF : Nat → List Nat → Nat → Nat → List Nat
  | 0, es, _, _ => es
  | f + 1, es, i, n =>
    if n ≤ 2 * i + 1 then es else
      if ¬ es.getD (dj es i n) 0 < es.getD i 0 then es else downF f (swapL es i (dj es i n)) (dj es i n) n

def pushF (es : List Nat) (x : Nat) : List Nat := upF es.length (es ++ [x]) es.length
def popL (es : List Nat) : List Nat := downF es.length (swapL es 0 (es.length - 1)) 0 (es.length - 1)
def popM (es : List Nat) : Nat := (popL es).getD (es.length - 1) 0
def popR (es : List Nat) : List Nat := (popL es).take (es.length - 1)

theorem upF_len : ∀ (f : Nat) (es : List Nat) (j : Nat), (upF f es j).length = es.length
  | 0, _, _ => rfl
  | f + 1, es, j => by
    unfold upF
    split
    · rfl
    · rw [upF_len, swapL_len]
theorem downF_len : ∀ (f : Nat) (es : List Nat) (i n : Nat), (downF f es i n).length = es.length
  | 0, _, _, _ => rfl
  | f + 1, es, i, n => by
    unfold downF
    split
    · rfl
    · split
      · rfl
      · rw [downF_len, swapL_len]

theorem swapL_perm {es : List Nat} {i j : Nat} (hi : i < es.length) (hj : j < es.length) : (swapL es i j).Perm es := by
  have h1 : es.getD i 0 = es[i] := by simp [List.getD_eq_getElem?_getD, hi]
  have h2 : es.getD j 0 = es[j] := by simp [List.getD_eq_getElem?_getD, hj]
  unfold swapL
  rw [h1, h2]
  refine List.perm_iff_count.2 fun a => ?_
  rw [List.count_set (by simpa using hj), List.count_set hi]
  by_cases e : i = j
  · subst e
    by_cases p : es[i] = a
    · have := List.count_pos_iff.2 (p ▸ List.getElem_mem hi : a ∈ es)
      simp [p]; omega
    · simp [p]
  · rw [List.getElem_set_ne e]
    have c1 : es[i] = a → 0 < es.count a := fun h => List.count_pos_iff.2 (h ▸ List.getElem_mem hi)
    have c2 : es[j] = a → 0 < es.count a := fun h => List.count_pos_iff.2 (h ▸ List.getElem_mem hj)
    have c3 : es[i] = a → es[j] = a → 1 < es.count a := by
      intro h3 h4
      have hd : ∀ (l : List Nat) (i j : Nat) (hi : i < l.length) (hj : j < l.length), i < j → l[i] = a → l[j] = a → 1 < l.count a := by
        intro l i j hi hj hij h5 h6
        have hs : [l[i], l[j]].Sublist l := by
          have h8 : l[i] ∈ l.take (i + 1) := List.mem_iff_getElem.2 ⟨i, by simp; omega, by simp⟩
          have h9 : l[j] ∈ l.drop (i + 1) := List.mem_iff_getElem.2 ⟨j - (i + 1), by simp; omega, by simp [show i + 1 + (j - (i + 1)) = j by omega]⟩
          have := List.Sublist.append (List.singleton_sublist.2 h8) (List.singleton_sublist.2 h9)
          rw [List.take_append_drop] at this
          exact this
        have := hs.count_le a
        simp [h5, h6] at this
        omega
      rcases Nat.lt_trichotomy i j with q | q | q
      · exact hd es i j hi hj q h3 h4
      · exact absurd q e
      · exact hd es j i hj hi q h4 h3
    by_cases p : es[i] = a <;> by_cases q : es[j] = a <;> simp only [p, q, beq_self_eq_true, beq_iff_eq, if_true, if_false] <;> (try have := c1 p) <;> (try have := c2 q) <;> (try have := c3 p q) <;> omega

theorem upF_perm : ∀ (f : Nat) (es : List Nat) (j : Nat), j < es.length → (upF f es j).Perm es
  | 0, _, _, _ => List.Perm.refl _
  | f + 1, es, j, h => by
    unfold upF
    split
    · exact List.Perm.refl _
    · have : (j - 1) / 2 < es.length := by omega
      exact (upF_perm f _ _ (by rw [swapL_len]; exact this)).trans (swapL_perm this h)
theorem downF_perm : ∀ (f : Nat) (es : List Nat) (i n : Nat), i < es.length → n ≤ es.length → (downF f es i n).Perm es
  | 0, _, _, _, _, _ => List.Perm.refl _
  | f + 1, es, i, n, h, hn => by
    unfold downF
    split
    · exact List.Perm.refl _
    · rename_i q
      split
      · exact List.Perm.refl _
      · have hj : dj es i n < es.length := by unfold dj; split <;> omega
        exact (downF_perm f _ _ _ (by rw [swapL_len]; exact hj) (by rw [swapL_len]; exact hn)).trans (swapL_perm h hj)

theorem pushF_perm (es : List Nat) (x : Nat) : (pushF es x).Perm (x :: es) := by
  refine (upF_perm _ _ _ (by simp)).trans ?_
  exact List.perm_append_comm
theorem popF_perm {es : List Nat} (h : es ≠ []) : (popM es :: popR es).Perm es := by
  have hl : 0 < es.length := List.length_pos_iff.2 h
  have hp : (popL es).Perm es := (downF_perm _ _ _ _ (by rw [swapL_len]; exact hl) (by rw [swapL_len]; omega)).trans (swapL_perm hl (by omega))
  have hlen : (popL es).length = es.length := hp.length_eq
  refine List.Perm.trans ?_ hp
  have h1 : popL es = (popL es).take (es.length - 1) ++ [popM es] := by
    have h2 : es.length - 1 < (popL es).length := by omega
    have h3 : popM es = (popL es)[es.length - 1] := by simp [popM, List.getD_eq_getElem?_getD, h2]
    rw [h3, List.take_append_getElem h2, List.take_of_length_le (by omega)]
  unfold popR
  conv => rhs; rw [h1]
  exact (List.perm_append_comm (l₁ := [popM es])).trans (List.Perm.refl _)
theorem pushF_len (es : List Nat) (x : Nat) : (pushF es x).length = es.length + 1 := by rw [(pushF_perm es x).length_eq]; rfl
theorem popR_len (es : List Nat) : (popR es).length = es.length - 1 := by
  unfold popR popL
  rw [List.length_take, downF_len, swapL_len]; omega

theorem getD_get {es : List Nat} {i : Nat} (h : i < es.length) : es.getD i 0 = es[i] := by simp [List.getD_eq_getElem?_getD, h]
theorem swapL_is {es : List Nat} {i j : Nat} (hi : i < es.length) (hj : j < es.length) : (es.set i es[j]).set j es[i] = swapL es i j := by
  unfold swapL; rw [getD_get hi, getD_get hj]

theorem callee_val {T : Tab} {s : List Value} {H : Heap} {ro : Operand} {name : String} {args : Array Operand} {ats : Array TypeId} {t e : TypeId} {g : FuncId} {v u : Value} (hr : ev s ro = .iface t v) (hm : T.meth t name = some (g, some e)) (hl : vLoad T H e v = some u) :
    calleeOf T s H (.call { callee := .invoke ro name, args := args, argTypes := ats }) = some (g, u :: args.toList.map (ev s)) := by
  simp only [calleeOf, hr, hm, hl, Option.map_some]
theorem vload_box {T : Tab} {H : Heap} {p sz : Nat} {u : Value} {own : Bool} {e : TypeId} {i : TI} (h : H[p]? = some (.row sz [u] own true)) (hT : T.T e = some i) (hs : i.size = 1) (hg : i.agg = false) : vLoad T H e (.pointer (some ⟨p, 0, none⟩)) = some u := by
  simp only [vLoad, hT, hg, Option.bind_eq_bind, Option.bind_some, readCells, h, hs]
  rfl

end Go.Proofs.Ytdhbclplondmjaa.C

end

section
/- The program's heap, run. -/
set_option linter.unusedVariables false
set_option linter.unusedSimpArgs false
set_option maxRecDepth 100000
set_option maxHeartbeats 4000000
namespace Go.Proofs.Ytdhbclplondmjaa.C
open Go.RowKit Go.Sort

theorem qlen_runs {H : Heap} {v : Value} {es : List Nat} (h : Sl H 1 v (es.map encN)) : big tab 45 [v] H = some (nat es.length, H) := by
  have goal : ∃ r H1, big tab 45 [v] H = some (r, H1) ∧ r = nat es.length ∧ H1 = H := by
    refine big_of_runs rfl rfl rfl ?_
    obtain ⟨z, hz⟩ := startC_mkS Try.f45 [v]
    rw [show startC (45, Try.f45).snd [v] = _ from hz]
    clear hz
    refine Runs.cut (n := 5) (l := [(0, v)]) (Is.of ⟨rfl, rfl, trivial⟩) (fun a0 => ?_)
    refine Runs.seq ?_
    refine Runs.region ?_
    refine Rg.opp (v := nat 0) rfl rfl rfl rfl rfl ?_
    refine Rg.nil ?_
    refine Runs.seq ?_
    refine Runs.region ?_
    refine Rg.opp (v := v) rfl rfl rfl rfl rfl ?_
    refine Rg.opp (v := nat es.length) rfl rfl rfl (ev_lenM (h) rfl rfl) rfl ?_
    refine Rg.opp (v := nat es.length) rfl rfl rfl rfl rfl ?_
    refine Rg.nil ?_
    refine Runs.ret ?_
    refine ⟨nat es.length, rfl, ?_⟩
    exact ⟨rfl, rfl⟩
  obtain ⟨r, H1, h1, rfl, rfl⟩ := goal
  exact h1

theorem qless_runs {H : Heap} {v : Value} {es : List Nat} {i j : Nat} (h : Sl H 1 v (es.map encN)) (hi : i < es.length) (hj : j < es.length) : big tab 98 [v, nat i, nat j] H = some (.bool (decide (es[i] < es[j])), H) := by
  have goal : ∃ r H1, big tab 98 [v, nat i, nat j] H = some (r, H1) ∧ r = .bool (decide (es[i] < es[j])) ∧ H1 = H := by
    refine big_of_runs rfl rfl rfl ?_
    obtain ⟨z, hz⟩ := startC_mkS Try.f98 [v, nat i, nat j]
    rw [show startC (98, Try.f98).snd [v, nat i, nat j] = _ from hz]
    clear hz
    refine Runs.cut (n := 16) (l := [(0, v), (1, nat i), (2, nat j)]) (Is.of ⟨rfl, rfl, rfl, rfl, rfl, rfl, trivial⟩) (fun a0 => ?_)
    refine Runs.seq ?_
    refine Runs.region ?_
    refine Rg.opp (v := .bool false) rfl rfl rfl rfl rfl ?_
    refine Rg.nil ?_
    refine Runs.seq ?_
    refine Runs.drawn (is := [0, 1, 2, 3, 4, 5, 6, 7, 8, 9]) (by decide +kernel) ?_
    refine Rg.opp (v := v) rfl rfl rfl rfl rfl ?_
    refine Rg.opp (v := nat i) rfl rfl rfl rfl rfl ?_
    refine Rg.opp (v := ptrAt (sAddr v) (i * 1)) rfl rfl rfl (ev_idxM (k := i) (h) rfl rfl (hi) rfl rfl rfl (by decide)) rfl ?_
    refine Rg.opp (v := nat (es[i])) rfl rfl rfl (ev_ldM (k := i) (h) rfl (hi) rfl rfl rfl rfl) rfl ?_
    refine Rg.opp (v := v) rfl rfl rfl rfl rfl ?_
    refine Rg.opp (v := nat j) rfl rfl rfl rfl rfl ?_
    refine Rg.opp (v := ptrAt (sAddr v) (j * 1)) rfl rfl rfl (ev_idxM (k := j) (h) rfl rfl (hj) rfl rfl rfl (by decide)) rfl ?_
    refine Rg.opp (v := nat (es[j])) rfl rfl rfl (ev_ldM (k := j) (h) rfl (hj) rfl rfl rfl rfl) rfl ?_
    by_cases hlt : es[i] < es[j]
    · skip
      refine Rg.opp (v := .bool true) rfl rfl rfl (ev_ltT rfl rfl (hlt)) rfl ?_
      refine Rg.opp (v := .bool true) rfl rfl rfl rfl rfl ?_
      refine Rg.nil ?_
      refine Runs.ret ?_
      refine ⟨.bool true, rfl, ?_⟩
      exact ⟨by rw [decide_eq_true hlt], rfl⟩
    · skip
      refine Rg.opp (v := .bool false) rfl rfl rfl (ev_ltF rfl rfl (hlt)) rfl ?_
      refine Rg.opp (v := .bool false) rfl rfl rfl rfl rfl ?_
      refine Rg.nil ?_
      refine Runs.ret ?_
      refine ⟨.bool false, rfl, ?_⟩
      exact ⟨by rw [decide_eq_false hlt], rfl⟩
  obtain ⟨r, H1, h1, rfl, rfl⟩ := goal
  exact h1
theorem qless_T {H : Heap} {v : Value} {es : List Nat} {i j : Nat} (h : Sl H 1 v (es.map encN)) (hi : i < es.length) (hj : j < es.length) (hl : es.getD i 0 < es.getD j 0) : big tab 98 [v, nat i, nat j] H = some (.bool true, H) := by
  rw [qless_runs h hi hj, decide_eq_true (by rwa [getD_get hi, getD_get hj] at hl)]
theorem qless_F {H : Heap} {v : Value} {es : List Nat} {i j : Nat} (h : Sl H 1 v (es.map encN)) (hi : i < es.length) (hj : j < es.length) (hl : ¬ es.getD i 0 < es.getD j 0) : big tab 98 [v, nat i, nat j] H = some (.bool false, H) := by
  rw [qless_runs h hi hj, decide_eq_false (by rwa [getD_get hi, getD_get hj] at hl)]

theorem qswap_runs {H0 H : Heap} {L : List Th} {v : Value} {es : List Nat} {i j : Nat} (hM : Mem H0 H (.sl 1 v (es.map encN) :: L)) (hi : i < es.length) (hj : j < es.length) :
    ∃ r H1, big tab 101 [v, nat i, nat j] H = some (r, H1) ∧ Mem H0 H1 (.sl 1 v ((swapL es i j).map encN) :: L) := by
  refine big_of_runs rfl rfl rfl ?_
  obtain ⟨z, hz⟩ := startC_mkS Try.f101 [v, nat i, nat j]
  rw [show startC (101, Try.f101).snd [v, nat i, nat j] = _ from hz]
  clear hz
  refine Runs.cut (n := 20) (l := [(0, v), (1, nat i), (2, nat j)]) (Is.of ⟨rfl, rfl, rfl, rfl, rfl, rfl, trivial⟩) (fun a0 => ?_)
  refine Runs.drawn (is := [0, 1, 2, 3, 4, 5, 6, 7, 8, 9, 10, 11, 12, 13, 14, 15]) (by decide +kernel) ?_
  refine Rg.opp (v := v) rfl rfl rfl rfl rfl ?_
  refine Rg.opp (v := nat i) rfl rfl rfl rfl rfl ?_
  refine Rg.opp (v := v) rfl rfl rfl rfl rfl ?_
  refine Rg.opp (v := nat j) rfl rfl rfl rfl rfl ?_
  refine Rg.opp (v := v) rfl rfl rfl rfl rfl ?_
  refine Rg.opp (v := nat j) rfl rfl rfl rfl rfl ?_
  refine Rg.opp (v := ptrAt (sAddr v) (j * 1)) rfl rfl rfl (ev_idxM (k := j) (hM.get_sl (j := 0) rfl) rfl rfl (hj) rfl rfl rfl (by decide)) rfl ?_
  refine Rg.opp (v := nat (es[j])) rfl rfl rfl (ev_ldM (k := j) (hM.get_sl (j := 0) rfl) rfl (hj) rfl rfl rfl rfl) rfl ?_
  refine Rg.opp (v := v) rfl rfl rfl rfl rfl ?_
  refine Rg.opp (v := nat i) rfl rfl rfl rfl rfl ?_
  refine Rg.opp (v := ptrAt (sAddr v) (i * 1)) rfl rfl rfl (ev_idxM (k := i) (hM.get_sl (j := 0) rfl) rfl rfl (hi) rfl rfl rfl (by decide)) rfl ?_
  refine Rg.opp (v := nat (es[i])) rfl rfl rfl (ev_ldM (k := i) (hM.get_sl (j := 0) rfl) rfl (hi) rfl rfl rfl rfl) rfl ?_
  refine Rg.opp (v := ptrAt (sAddr v) (i * 1)) rfl rfl rfl (ev_idxM (k := i) (hM.get_sl (j := 0) rfl) rfl rfl (hi) rfl rfl rfl (by decide)) rfl ?_
  refine Rg.stoM (f := encN) (j := 0) (k := i) (es[j]) hM rfl rfl rfl rfl rfl rfl rfl (hi) rfl rfl rfl rfl rfl (fun Hc (hM : Mem H0 Hc ((.sl 1 v (List.map encN ((es).set i (es[j])))) :: L)) => ?_)
  refine Rg.opp (v := ptrAt (sAddr v) (j * 1)) rfl rfl rfl (ev_idxM (k := j) (hM.get_sl (j := 0) rfl) rfl rfl (by simpa using hj) rfl rfl rfl (by decide)) rfl ?_
  refine Rg.stoM (f := encN) (j := 0) (k := j) (es[i]) hM rfl rfl rfl rfl rfl rfl rfl (by simpa using hj) rfl rfl rfl rfl rfl (fun Hc (hM : Mem H0 Hc ((.sl 1 v (List.map encN (((es).set i (es[j])).set j (es[i])))) :: L)) => ?_)
  refine Rg.nil ?_
  refine ⟨.tuple #[], rfl, ?_⟩
  rw [swapL_is hi hj] at hM
  exact hM

theorem qpush_runs {H0 H : Heap} {L : List Th} {q : Nat} {v : Value} {es : List Nat} {x : Nat} (hM : Mem H0 H (.box q 1 [v] :: .sl 1 v (es.map encN) :: L)) (hl : es.length ≤ 2 ^ 30) :
    ∃ r H1, big tab 100 [.pointer (some ⟨q, 0, none⟩), .iface 3 (nat x)] H = some (r, H1) ∧ ∃ v1, Mem H0 H1 (.box q 1 [v1] :: .sl 1 v1 ((es ++ [x]).map encN) :: L) ∧ Grown v1 := by
  refine big_of_runs rfl rfl rfl ?_
  obtain ⟨z, hz⟩ := startC_mkS Try.f100 [.pointer (some ⟨q, 0, none⟩), .iface 3 (nat x)]
  rw [show startC (100, Try.f100).snd [.pointer (some ⟨q, 0, none⟩), .iface 3 (nat x)] = _ from hz]
  clear hz
  refine Runs.cut (n := 13) (l := [(0, .pointer (some ⟨q, 0, none⟩)), (1, .iface 3 (nat x))]) (Is.of ⟨rfl, rfl, rfl, rfl, trivial⟩) (fun a0 => ?_)
  refine Runs.drawn (is := [1, 2, 3, 4, 5, 6, 7, 0, 8, 9]) (by decide +kernel) ?_
  refine Rg.opp (v := .pointer (some ⟨q, 0, none⟩)) rfl rfl rfl rfl rfl ?_
  refine Rg.opp (v := .pointer (some ⟨q, 0, none⟩)) rfl rfl rfl rfl rfl ?_
  refine Rg.opp (v := v) rfl rfl rfl (ev_ldb (hM.get_box (j := 0) rfl) rfl rfl rfl rfl rfl) rfl ?_
  refine Rg.opp (v := .iface 3 (nat x)) rfl rfl rfl rfl rfl ?_
  refine Rg.opp (v := nat x) rfl rfl rfl rfl rfl ?_
  refine Rg.lit (f := encN) (sz := 1) (xs := [x]) hM rfl rfl rfl rfl rfl (by simp) (by simp) (fun u1 Hc (hM : Mem H0 Hc ((.sl 1 u1 (List.map encN ([x]))) :: (.box q 1 [v]) :: (.sl 1 v (List.map encN es)) :: L)) _ => ?_)
  refine Rg.appM (f := encN) (sz := 1) (j := 2) (v := v) (xs := es) (ys := [x]) hM rfl rfl rfl rfl rfl rfl rfl (hM.get_sl (j := 0) rfl) ⟨rfl, rfl, rfl, by decide⟩ rfl (by simp [oneCell]) (by show (_ + _) * 8 ≤ 2 ^ 40; simp only [List.length_cons, List.length_nil]; omega) (by simp) (fun v1 Hc (hM : Mem H0 Hc ((.sl 1 u1 (List.map encN ([x]))) :: (.box q 1 [v]) :: (.sl 1 v1 (List.map encN (es ++ ([x])))) :: L)) hgv => ?_)
  replace hM : Mem H0 _ ((.box q 1 [v]) :: (.sl 1 v1 (List.map encN (es ++ ([x])))) :: L) := hM.erase 0
  refine Rg.opp (v := .pointer (some ⟨q, 0, none⟩)) rfl rfl rfl rfl rfl ?_
  refine Rg.opp (v := .pointer (some ⟨q, 0, none⟩)) rfl rfl rfl rfl rfl ?_
  refine Rg.stob1 (j := 0) (cs' := [v1]) hM rfl rfl rfl rfl rfl rfl rfl rfl rfl (hgv.one) (Nat.le_of_ble_eq_true rfl) rfl (fun Hc (hM : Mem H0 Hc ((.box q 1 ([v1])) :: (.sl 1 v1 (List.map encN (es ++ ([x])))) :: L)) => ?_)
  refine Rg.nil ?_
  refine ⟨.tuple #[], rfl, ?_⟩
  exact ⟨v1, hM, hgv⟩

theorem qpop_runs {H0 H : Heap} {L : List Th} {q : Nat} {v : Value} {es : List Nat} (hM : Mem H0 H (.box q 1 [v] :: .sl 1 v (es.map encN) :: L)) (hgr : Grown v) (hl : es.length ≤ 2 ^ 30) (hp : 1 ≤ es.length) :
    ∃ r H1, big tab 99 [.pointer (some ⟨q, 0, none⟩)] H = some (r, H1) ∧ r = .iface 3 (nat es[es.length - 1]) ∧ ∃ v1, Mem H0 H1 (.box q 1 [v1] :: .sl 1 v1 ((es.take (es.length - 1)).map encN) :: L) ∧ Grown v1 := by
  refine big_of_runs rfl rfl rfl ?_
  obtain ⟨z, hz⟩ := startC_mkS Try.f99 [.pointer (some ⟨q, 0, none⟩)]
  rw [show startC (99, Try.f99).snd [.pointer (some ⟨q, 0, none⟩)] = _ from hz]
  clear hz
  refine Runs.cut (n := 23) (l := [(0, .pointer (some ⟨q, 0, none⟩))]) (Is.of ⟨rfl, rfl, trivial⟩) (fun a0 => ?_)
  refine Runs.seq ?_
  refine Runs.region ?_
  refine Rg.opp (v := .nilIface) rfl rfl rfl rfl rfl ?_
  refine Rg.nil ?_
  refine Runs.seq ?_
  refine Runs.region ?_
  refine Rg.opp (v := .pointer (some ⟨q, 0, none⟩)) rfl rfl rfl rfl rfl ?_
  refine Rg.opp (v := .pointer (some ⟨q, 0, none⟩)) rfl rfl rfl rfl rfl ?_
  refine Rg.opp (v := v) rfl rfl rfl (ev_ldb (hM.get_box (j := 0) rfl) rfl rfl rfl rfl rfl) rfl ?_
  refine Rg.opp (v := v) rfl rfl rfl rfl rfl ?_
  refine Rg.nil ?_
  refine Runs.seq ?_
  refine Runs.region ?_
  refine Rg.opp (v := v) rfl rfl rfl rfl rfl ?_
  refine Rg.opp (v := v) rfl rfl rfl rfl rfl ?_
  refine Rg.opp (v := nat es.length) rfl rfl rfl (ev_lenM (hM.get_sl (j := 1) rfl) rfl rfl) rfl ?_
  refine Rg.opp (v := nat (es.length - 1)) rfl rfl rfl (ev_subN (a := es.length) (b := 1) rfl rfl (hp) (by omega)) rfl ?_
  refine Rg.opp (v := ptrAt (sAddr v) ((es.length - 1) * 1)) rfl rfl rfl (ev_idxM (k := es.length - 1) (hM.get_sl (j := 1) rfl) rfl rfl (by omega) rfl rfl rfl (by decide)) rfl ?_
  refine Rg.opp (v := nat (es[es.length - 1])) rfl rfl rfl (ev_ldM (k := (es.length - 1)) (hM.get_sl (j := 1) rfl) rfl (by omega) rfl rfl rfl rfl) rfl ?_
  refine Rg.opp (v := nat (es[es.length - 1])) rfl rfl rfl rfl rfl ?_
  refine Rg.nil ?_
  refine Runs.seq ?_
  refine Runs.region ?_
  refine Rg.opp (v := .pointer (some ⟨q, 0, none⟩)) rfl rfl rfl rfl rfl ?_
  refine Rg.opp (v := v) rfl rfl rfl rfl rfl ?_
  refine Rg.opp (v := v) rfl rfl rfl rfl rfl ?_
  refine Rg.opp (v := nat es.length) rfl rfl rfl (ev_lenM (hM.get_sl (j := 1) rfl) rfl rfl) rfl ?_
  refine Rg.opp (v := nat (es.length - 1)) rfl rfl rfl (ev_subN (a := es.length) (b := 1) rfl rfl (hp) (by omega)) rfl ?_
  refine Rg.hiM (f := encN) (j := 1) (m := es.length - 1) hM hgr rfl rfl rfl rfl rfl rfl rfl rfl rfl rfl (by omega) (fun v1 (hM : Mem H0 _ ((.box q 1 [v]) :: (.sl 1 v1 (List.map encN ((es).take (es.length - 1)))) :: L)) hgr => ?_)
  refine Rg.opp (v := .pointer (some ⟨q, 0, none⟩)) rfl rfl rfl rfl rfl ?_
  refine Rg.stob1 (j := 0) (cs' := [v1]) hM rfl rfl rfl rfl rfl rfl rfl rfl rfl (hgr.one) (Nat.le_of_ble_eq_true rfl) rfl (fun Hc (hM : Mem H0 Hc ((.box q 1 ([v1])) :: (.sl 1 v1 (List.map encN ((es).take (es.length - 1)))) :: L)) => ?_)
  refine Rg.nil ?_
  refine Runs.seq ?_
  refine Runs.region ?_
  refine Rg.opp (v := nat (es[es.length - 1])) rfl rfl rfl rfl rfl ?_
  refine Rg.opp (v := .iface 3 (nat (es[es.length - 1]))) rfl rfl rfl rfl rfl ?_
  refine Rg.opp (v := .iface 3 (nat (es[es.length - 1]))) rfl rfl rfl rfl rfl ?_
  refine Rg.nil ?_
  refine Runs.ret ?_
  refine ⟨.iface 3 (nat (es[es.length - 1])), rfl, ?_⟩
  exact ⟨rfl, v1, hM, hgr⟩

theorem up_runs {H0 H : Heap} {L : List Th} {q : Nat} {v : Value} {f0 j0 : Nat} {es0 : List Nat} (hM : Mem H0 H (.box q 1 [v] :: .sl 1 v (es0.map encN) :: L)) (hf0 : j0 ≤ f0) (hj0 : j0 < es0.length) (hl0 : es0.length ≤ 2 ^ 30) :
    ∃ r H1, big tab 55 [.iface 94 (.pointer (some ⟨q, 0, none⟩)), nat j0] H = some (r, H1) ∧ Mem H0 H1 (.box q 1 [v] :: .sl 1 v ((upF f0 es0 j0).map encN) :: L) := by
  refine big_of_runs rfl rfl rfl ?_
  obtain ⟨z, hz⟩ := startC_mkS Try.f55 [.iface 94 (.pointer (some ⟨q, 0, none⟩)), nat j0]
  rw [show startC (55, Try.f55).snd [.iface 94 (.pointer (some ⟨q, 0, none⟩)), nat j0] = _ from hz]
  clear hz
  refine Runs.cut (n := 23) (l := [(0, .iface 94 (.pointer (some ⟨q, 0, none⟩))), (1, nat j0)]) (Is.of ⟨rfl, rfl, rfl, rfl, trivial⟩) (fun a0 => ?_)
  refine Runs.block ?_
  refine Runs.loop (fun m s Hc => ∃ (f : Nat) (j : Nat) (es : List Nat), m = 2 * (j) ∧ Mem H0 Hc ((.box q 1 [v]) :: (.sl 1 v (List.map encN es)) :: L) ∧ (j ≤ f) ∧ (j < es.length) ∧ (es.length ≤ 2 ^ 30) ∧ (upF f es j = upF f0 es0 j0) ∧ Is s 23 [(0, .iface 94 (.pointer (some ⟨q, 0, none⟩))), (1, nat j)]) _
    ⟨f0, j0, es0, rfl, hM, hf0, hj0, hl0, rfl, Is.of ⟨rfl, rfl, rfl, rfl, trivial⟩⟩ ?_
  rintro m s Hc ⟨f, j, es, rfl, hM, hf, hj, hl, hR, hs⟩
  obtain ⟨a1, rfl⟩ := hs.mk1
  clear hs
  refine Runs.block ?_
  refine Runs.seq ?_
  refine Runs.region ?_
  refine Rg.opp (v := nat j) rfl rfl rfl rfl rfl ?_
  by_cases hz : j = 0
  · skip
    refine Rg.opp (v := .int .i64 (-1)) rfl rfl rfl (by subst hz; exact ev_subI (a := 0) (b := 1) rfl rfl (by decide)) rfl ?_
    refine Rg.opp (v := nat 0) rfl rfl rfl rfl rfl ?_
    refine Rg.opp (v := nat 0) rfl rfl rfl rfl rfl ?_
    refine Rg.nil ?_
    refine Runs.seq ?_
    refine Runs.seq ?_
    refine Runs.region ?_
    refine Rg.opp (v := nat 0) rfl rfl rfl rfl rfl ?_
    refine Rg.opp (v := nat j) rfl rfl rfl rfl rfl ?_
    refine Rg.opp (v := .bool true) rfl rfl rfl (ev_eqT (a := 0) (b := j) rfl rfl (hz.symm)) rfl ?_
    refine Rg.opp (v := .bool true) rfl rfl rfl rfl rfl ?_
    refine Rg.guards false rfl rfl rfl (fun h => by cases h) (fun _ => ?_)
    refine Rg.guards false rfl rfl rfl (fun h => by cases h) (fun _ => ?_)
    refine Rg.guards false rfl rfl rfl (fun h => by cases h) (fun _ => ?_)
    refine Rg.guards false rfl rfl rfl (fun h => by cases h) (fun _ => ?_)
    refine Rg.guards false rfl rfl rfl (fun h => by cases h) (fun _ => ?_)
    refine Rg.opp (v := .bool true) rfl rfl rfl rfl rfl ?_
    refine Rg.nil ?_
    refine Runs.cond true rfl (fun _ => ?_) (fun h => by cases h)
    refine Runs.exit ?_
    refine ⟨.tuple #[], rfl, ?_⟩
    have he : es = upF f0 es0 j0 := by
      rw [← hR]
      cases f with
      | zero => rfl
      | succ f => rw [upF, if_pos (.inl (by omega))]
    rw [← he]; exact hM
  · skip
    refine Rg.opp (v := nat (j - 1)) rfl rfl rfl (ev_subN (a := j) (b := 1) rfl rfl (by omega) (by omega)) rfl ?_
    refine Rg.opp (v := nat ((j - 1) / 2)) rfl rfl rfl (ev_divN (a := j - 1) (b := 2) rfl rfl (by omega) (by omega)) rfl ?_
    refine Rg.opp (v := nat ((j - 1) / 2)) rfl rfl rfl rfl rfl ?_
    refine Rg.nil ?_
    refine Runs.seq ?_
    refine Runs.seq ?_
    refine Runs.region ?_
    refine Rg.opp (v := nat ((j - 1) / 2)) rfl rfl rfl rfl rfl ?_
    refine Rg.opp (v := nat j) rfl rfl rfl rfl rfl ?_
    refine Rg.opp (v := .bool false) rfl rfl rfl (ev_eqF (a := (j - 1) / 2) (b := j) rfl rfl (by omega)) rfl ?_
    refine Rg.opp (v := .bool false) rfl rfl rfl rfl rfl ?_
    refine Rg.guards true rfl rfl rfl (fun _ => ⟨.iface 94 (.pointer (some ⟨q, 0, none⟩)), _, evW_op (rfl), rfl, ?_⟩) (fun h => by cases h)
    refine Rg.guards true rfl rfl rfl (fun _ => ⟨nat j, _, evW_op (rfl), rfl, ?_⟩) (fun h => by cases h)
    refine Rg.guards true rfl rfl rfl (fun _ => ⟨nat ((j - 1) / 2), _, evW_op (rfl), rfl, ?_⟩) (fun h => by cases h)
    by_cases hls : es.getD j 0 < es.getD ((j - 1) / 2) 0
    · skip
      obtain ⟨f', rfl⟩ : ∃ f', f = f' + 1 := ⟨f - 1, by omega⟩
      refine Rg.guards true rfl rfl rfl (fun _ => ⟨.bool true, _, evW_call rfl (callee_val rfl rfl (vload_box (hM.get_box (j := 0) rfl) rfl rfl rfl)) (qless_T (hM.get_sl (j := 1) rfl) (hj) (by omega) hls), rfl, ?_⟩) (fun h => by cases h)
      refine Rg.guards true rfl rfl rfl (fun _ => ⟨.bool false, _, evW_op (rfl), rfl, ?_⟩) (fun h => by cases h)
      refine Rg.opp (v := .bool false) rfl rfl rfl rfl rfl ?_
      refine Rg.nil ?_
      refine Runs.cond false rfl (fun h => by cases h) (fun _ => ?_)
      refine Runs.skip ?_
      refine Runs.seq ?_
      refine Runs.region ?_
      refine Rg.opp (v := .iface 94 (.pointer (some ⟨q, 0, none⟩))) rfl rfl rfl rfl rfl ?_
      refine Rg.opp (v := nat ((j - 1) / 2)) rfl rfl rfl rfl rfl ?_
      refine Rg.opp (v := nat j) rfl rfl rfl rfl rfl ?_
      refine Rg.callW rfl rfl rfl rfl (callee_val rfl rfl (vload_box (hM.get_box (j := 0) rfl) rfl rfl rfl)) rfl (qswap_runs (i := (j - 1) / 2) (j := j) hM.swap (by omega) (hj)) (fun r Hc hP => ?_)
      replace hM := hP.swap
      refine Rg.nil ?_
      refine Runs.region ?_
      refine Rg.opp (v := nat ((j - 1) / 2)) rfl rfl rfl rfl rfl ?_
      refine Rg.opp (v := nat ((j - 1) / 2)) rfl rfl rfl rfl rfl ?_
      refine Rg.nil ?_
      refine ⟨2 * ((j - 1) / 2), by omega, f', (j - 1) / 2, swapL es ((j - 1) / 2) j, rfl, hM, by omega, by rw [swapL_len]; omega, by rw [swapL_len]; omega, by rw [← hR, upF, if_neg (fun h => h.elim (fun h => by omega) (fun h => h hls))], Is.of ⟨rfl, rfl, rfl, rfl, trivial⟩⟩
    · skip
      refine Rg.guards true rfl rfl rfl (fun _ => ⟨.bool false, _, evW_call rfl (callee_val rfl rfl (vload_box (hM.get_box (j := 0) rfl) rfl rfl rfl)) (qless_F (hM.get_sl (j := 1) rfl) (hj) (by omega) hls), rfl, ?_⟩) (fun h => by cases h)
      refine Rg.guards true rfl rfl rfl (fun _ => ⟨.bool true, _, evW_op (rfl), rfl, ?_⟩) (fun h => by cases h)
      refine Rg.opp (v := .bool true) rfl rfl rfl rfl rfl ?_
      refine Rg.nil ?_
      refine Runs.cond true rfl (fun _ => ?_) (fun h => by cases h)
      refine Runs.exit ?_
      refine ⟨.tuple #[], rfl, ?_⟩
      have he : es = upF f0 es0 j0 := by
        rw [← hR]
        cases f with
        | zero => rfl
        | succ f => rw [upF, if_pos (.inr hls)]
      rw [← he]; exact hM

theorem down_runs {H0 H : Heap} {L : List Th} {q : Nat} {v : Value} {f0 i0 n : Nat} {es0 : List Nat} (hM : Mem H0 H (.box q 1 [v] :: .sl 1 v (es0.map encN) :: L)) (hf0 : n ≤ f0 + i0) (hi0 : i0 < es0.length) (hn0 : n ≤ es0.length) (hl0 : es0.length ≤ 2 ^ 30) :
    ∃ r H1, big tab 56 [.iface 94 (.pointer (some ⟨q, 0, none⟩)), nat i0, nat n] H = some (r, H1) ∧ Mem H0 H1 (.box q 1 [v] :: .sl 1 v ((downF f0 es0 i0 n).map encN) :: L) := by
  refine big_of_runs rfl rfl rfl ?_
  obtain ⟨z, hz⟩ := startC_mkS Try.f56 [.iface 94 (.pointer (some ⟨q, 0, none⟩)), nat i0, nat n]
  rw [show startC (56, Try.f56).snd [.iface 94 (.pointer (some ⟨q, 0, none⟩)), nat i0, nat n] = _ from hz]
  clear hz
  refine Runs.cut (n := 48) (l := [(0, .iface 94 (.pointer (some ⟨q, 0, none⟩))), (1, nat i0), (2, nat n)]) (Is.of ⟨rfl, rfl, rfl, rfl, rfl, rfl, trivial⟩) (fun a0 => ?_)
  refine Runs.seq ?_
  refine Runs.region ?_
  refine Rg.opp (v := .bool false) rfl rfl rfl rfl rfl ?_
  refine Rg.nil ?_
  refine Runs.seq ?_
  refine Runs.region ?_
  refine Rg.opp (v := nat i0) rfl rfl rfl rfl rfl ?_
  refine Rg.opp (v := nat i0) rfl rfl rfl rfl rfl ?_
  refine Rg.nil ?_
  refine Runs.seq ?_
  refine Runs.block ?_
  refine Runs.loop (fun m s Hc => ∃ (f : Nat) (i : Nat) (es : List Nat), m = n - i ∧ Mem H0 Hc ((.box q 1 [v]) :: (.sl 1 v (List.map encN es)) :: L) ∧ (n ≤ f + i) ∧ (i < es.length) ∧ (n ≤ es.length) ∧ (es.length ≤ 2 ^ 30) ∧ (downF f es i n = downF f0 es0 i0 n) ∧ Is s 48 [(0, .iface 94 (.pointer (some ⟨q, 0, none⟩))), (1, nat i0), (2, nat n), (7, nat i)]) _
    ⟨f0, i0, es0, rfl, hM, hf0, hi0, hn0, hl0, rfl, Is.of ⟨rfl, rfl, rfl, rfl, rfl, rfl, rfl, rfl, trivial⟩⟩ ?_
  rintro m s Hc ⟨f, i, es, rfl, hM, hf, hi, hn, hl, hR, hs⟩
  obtain ⟨a1, rfl⟩ := hs.mk1
  clear hs
  refine Runs.block ?_
  refine Runs.seq ?_
  refine Runs.region ?_
  refine Rg.opp (v := nat i) rfl rfl rfl rfl rfl ?_
  refine Rg.opp (v := nat (2 * i)) rfl rfl rfl (ev_mulN (a := 2) (b := i) rfl rfl (by omega)) rfl ?_
  refine Rg.opp (v := nat (2 * i + 1)) rfl rfl rfl (ev_addN (b := 1) rfl rfl (by omega)) rfl ?_
  refine Rg.opp (v := nat (2 * i + 1)) rfl rfl rfl rfl rfl ?_
  refine Rg.nil ?_
  refine Runs.seq ?_
  refine Runs.seq ?_
  refine Runs.region ?_
  refine Rg.opp (v := nat (2 * i + 1)) rfl rfl rfl rfl rfl ?_
  refine Rg.opp (v := nat n) rfl rfl rfl rfl rfl ?_
  by_cases hbig : n ≤ 2 * i + 1
  · skip
    refine Rg.opp (v := .bool true) rfl rfl rfl (ev_geT rfl rfl (hbig)) rfl ?_
    refine Rg.opp (v := .bool true) rfl rfl rfl rfl rfl ?_
    refine Rg.guards false rfl rfl rfl (fun h => by cases h) (fun _ => ?_)
    refine Rg.guards false rfl rfl rfl (fun h => by cases h) (fun _ => ?_)
    refine Rg.opp (v := .bool true) rfl rfl rfl rfl rfl ?_
    refine Rg.nil ?_
    refine Runs.cond true rfl (fun _ => ?_) (fun h => by cases h)
    refine Runs.exit ?_
    refine Runs.seq ?_
    refine Runs.region ?_
    refine Rg.opp (v := nat i) rfl rfl rfl rfl rfl ?_
    refine Rg.opp (v := nat i0) rfl rfl rfl rfl rfl ?_
    by_cases h2 : i0 < i
    · skip
      refine Rg.opp (v := .bool true) rfl rfl rfl (ev_gtT rfl rfl (h2)) rfl ?_
      refine Rg.opp (v := .bool true) rfl rfl rfl rfl rfl ?_
      refine Rg.nil ?_
      refine Runs.ret ?_
      refine ⟨.bool true, rfl, ?_⟩
      have he : es = downF f0 es0 i0 n := by
        rw [← hR]
        cases f with
        | zero => rfl
        | succ f => rw [downF, if_pos (by omega)]
      rw [← he]; exact hM
    · skip
      refine Rg.opp (v := .bool false) rfl rfl rfl (ev_gtF rfl rfl (h2)) rfl ?_
      refine Rg.opp (v := .bool false) rfl rfl rfl rfl rfl ?_
      refine Rg.nil ?_
      refine Runs.ret ?_
      refine ⟨.bool false, rfl, ?_⟩
      have he : es = downF f0 es0 i0 n := by
        rw [← hR]
        cases f with
        | zero => rfl
        | succ f => rw [downF, if_pos (by omega)]
      rw [← he]; exact hM
  · skip
    obtain ⟨f', rfl⟩ : ∃ f', f = f' + 1 := ⟨f - 1, by omega⟩
    refine Rg.opp (v := .bool false) rfl rfl rfl (ev_geF rfl rfl (hbig)) rfl ?_
    refine Rg.opp (v := .bool false) rfl rfl rfl rfl rfl ?_
    refine Rg.guards true rfl rfl rfl (fun _ => ⟨nat (2 * i + 1), _, evW_op (rfl), rfl, ?_⟩) (fun h => by cases h)
    refine Rg.guards true rfl rfl rfl (fun _ => ⟨.bool false, _, evW_op (ev_ltF (a := 2 * i + 1) (b := 0) rfl rfl (by omega)), rfl, ?_⟩) (fun h => by cases h)
    refine Rg.opp (v := .bool false) rfl rfl rfl rfl rfl ?_
    refine Rg.nil ?_
    refine Runs.cond false rfl (fun h => by cases h) (fun _ => ?_)
    refine Runs.skip ?_
    refine Runs.seq ?_
    refine Runs.region ?_
    refine Rg.opp (v := nat (2 * i + 1)) rfl rfl rfl rfl rfl ?_
    refine Rg.opp (v := nat (2 * i + 1)) rfl rfl rfl rfl rfl ?_
    refine Rg.nil ?_
    refine Runs.seq ?_
    refine Runs.seq ?_
    refine Runs.region ?_
    refine Rg.opp (v := nat (2 * i + 1)) rfl rfl rfl rfl rfl ?_
    refine Rg.opp (v := nat (2 * i + 1 + 1)) rfl rfl rfl (ev_addN (b := 1) rfl rfl (by omega)) rfl ?_
    refine Rg.opp (v := nat (2 * i + 1 + 1)) rfl rfl rfl rfl rfl ?_
    refine Rg.nil ?_
    refine Runs.seq ?_
    refine Runs.region ?_
    refine Rg.opp (v := nat (2 * i + 1 + 1)) rfl rfl rfl rfl rfl ?_
    refine Rg.opp (v := nat n) rfl rfl rfl rfl rfl ?_
    by_cases h2n : 2 * i + 1 + 1 < n
    · skip
      refine Rg.opp (v := .bool true) rfl rfl rfl (ev_ltT rfl rfl (h2n)) rfl ?_
      refine Rg.opp (v := .bool true) rfl rfl rfl rfl rfl ?_
      refine Rg.guards true rfl rfl rfl (fun _ => ⟨.iface 94 (.pointer (some ⟨q, 0, none⟩)), _, evW_op (rfl), rfl, ?_⟩) (fun h => by cases h)
      refine Rg.guards true rfl rfl rfl (fun _ => ⟨nat (2 * i + 1 + 1), _, evW_op (rfl), rfl, ?_⟩) (fun h => by cases h)
      refine Rg.guards true rfl rfl rfl (fun _ => ⟨nat (2 * i + 1), _, evW_op (rfl), rfl, ?_⟩) (fun h => by cases h)
      by_cases hls1 : es.getD (2 * i + 1 + 1) 0 < es.getD (2 * i + 1) 0
      · skip
        refine Rg.guards true rfl rfl rfl (fun _ => ⟨.bool true, _, evW_call rfl (callee_val rfl rfl (vload_box (hM.get_box (j := 0) rfl) rfl rfl rfl)) (qless_T (hM.get_sl (j := 1) rfl) (by omega) (by omega) hls1), rfl, ?_⟩) (fun h => by cases h)
        refine Rg.opp (v := .bool true) rfl rfl rfl rfl rfl ?_
        refine Rg.nil ?_
        refine Runs.cond true rfl (fun _ => ?_) (fun h => by cases h)
        refine Runs.region ?_
        refine Rg.opp (v := nat (2 * i + 1 + 1)) rfl rfl rfl rfl rfl ?_
        refine Rg.opp (v := nat (2 * i + 1 + 1)) rfl rfl rfl rfl rfl ?_
        refine Rg.nil ?_
        refine Runs.seq ?_
        refine Runs.seq ?_
        refine Runs.region ?_
        refine Rg.opp (v := .iface 94 (.pointer (some ⟨q, 0, none⟩))) rfl rfl rfl rfl rfl ?_
        refine Rg.opp (v := nat (2 * i + 1 + 1)) rfl rfl rfl rfl rfl ?_
        refine Rg.opp (v := nat i) rfl rfl rfl rfl rfl ?_
        by_cases hls2 : es.getD (2 * i + 1 + 1) 0 < es.getD i 0
        · skip
          refine Rg.calls (v := .bool true) rfl rfl rfl rfl (callee_val rfl rfl (vload_box (hM.get_box (j := 0) rfl) rfl rfl rfl)) rfl (qless_T (hM.get_sl (j := 1) rfl) (by omega) (by omega) hls2) ?_
          refine Rg.opp (v := .bool false) rfl rfl rfl rfl rfl ?_
          refine Rg.nil ?_
          refine Runs.cond false rfl (fun h => by cases h) (fun _ => ?_)
          refine Runs.skip ?_
          refine Runs.seq ?_
          refine Runs.region ?_
          refine Rg.opp (v := .iface 94 (.pointer (some ⟨q, 0, none⟩))) rfl rfl rfl rfl rfl ?_
          refine Rg.opp (v := nat i) rfl rfl rfl rfl rfl ?_
          refine Rg.opp (v := nat (2 * i + 1 + 1)) rfl rfl rfl rfl rfl ?_
          refine Rg.callW rfl rfl rfl rfl (callee_val rfl rfl (vload_box (hM.get_box (j := 0) rfl) rfl rfl rfl)) rfl (qswap_runs (i := i) (j := 2 * i + 1 + 1) hM.swap (by omega) (by omega)) (fun r Hc hP => ?_)
          replace hM := hP.swap
          refine Rg.nil ?_
          refine Runs.region ?_
          refine Rg.opp (v := nat (2 * i + 1 + 1)) rfl rfl rfl rfl rfl ?_
          refine Rg.opp (v := nat (2 * i + 1 + 1)) rfl rfl rfl rfl rfl ?_
          refine Rg.nil ?_
          refine ⟨n - (2 * i + 1 + 1), by omega, f', 2 * i + 1 + 1, swapL es i (2 * i + 1 + 1), rfl, hM, by omega, by rw [swapL_len]; omega, by rw [swapL_len]; omega, by rw [swapL_len]; omega, by rw [← hR, downF, if_neg (by omega)]; have hdj : dj es i n = 2 * i + 1 + 1 := if_pos ⟨h2n, hls1⟩; rw [hdj, if_neg (fun h => h hls2)], Is.of ⟨rfl, rfl, rfl, rfl, rfl, rfl, rfl, rfl, trivial⟩⟩
        · skip
          refine Rg.calls (v := .bool false) rfl rfl rfl rfl (callee_val rfl rfl (vload_box (hM.get_box (j := 0) rfl) rfl rfl rfl)) rfl (qless_F (hM.get_sl (j := 1) rfl) (by omega) (by omega) hls2) ?_
          refine Rg.opp (v := .bool true) rfl rfl rfl rfl rfl ?_
          refine Rg.nil ?_
          refine Runs.cond true rfl (fun _ => ?_) (fun h => by cases h)
          refine Runs.exit ?_
          refine Runs.seq ?_
          refine Runs.region ?_
          refine Rg.opp (v := nat i) rfl rfl rfl rfl rfl ?_
          refine Rg.opp (v := nat i0) rfl rfl rfl rfl rfl ?_
          by_cases h3 : i0 < i
          · skip
            refine Rg.opp (v := .bool true) rfl rfl rfl (ev_gtT rfl rfl (h3)) rfl ?_
            refine Rg.opp (v := .bool true) rfl rfl rfl rfl rfl ?_
            refine Rg.nil ?_
            refine Runs.ret ?_
            refine ⟨.bool true, rfl, ?_⟩
            have he : es = downF f0 es0 i0 n := by
              rw [← hR, downF, if_neg (by omega)]
              have hdj : dj es i n = 2 * i + 1 + 1 := if_pos ⟨h2n, hls1⟩
              rw [hdj, if_pos hls2]
            rw [← he]; exact hM
          · skip
            refine Rg.opp (v := .bool false) rfl rfl rfl (ev_gtF rfl rfl (h3)) rfl ?_
            refine Rg.opp (v := .bool false) rfl rfl rfl rfl rfl ?_
            refine Rg.nil ?_
            refine Runs.ret ?_
            refine ⟨.bool false, rfl, ?_⟩
            have he : es = downF f0 es0 i0 n := by
              rw [← hR, downF, if_neg (by omega)]
              have hdj : dj es i n = 2 * i + 1 + 1 := if_pos ⟨h2n, hls1⟩
              rw [hdj, if_pos hls2]
            rw [← he]; exact hM
      · skip
        refine Rg.guards true rfl rfl rfl (fun _ => ⟨.bool false, _, evW_call rfl (callee_val rfl rfl (vload_box (hM.get_box (j := 0) rfl) rfl rfl rfl)) (qless_F (hM.get_sl (j := 1) rfl) (by omega) (by omega) hls1), rfl, ?_⟩) (fun h => by cases h)
        refine Rg.opp (v := .bool false) rfl rfl rfl rfl rfl ?_
        refine Rg.nil ?_
        refine Runs.cond false rfl (fun h => by cases h) (fun _ => ?_)
        refine Runs.skip ?_
        refine Runs.seq ?_
        refine Runs.seq ?_
        refine Runs.region ?_
        refine Rg.opp (v := .iface 94 (.pointer (some ⟨q, 0, none⟩))) rfl rfl rfl rfl rfl ?_
        refine Rg.opp (v := nat (2 * i + 1)) rfl rfl rfl rfl rfl ?_
        refine Rg.opp (v := nat i) rfl rfl rfl rfl rfl ?_
        by_cases hls2 : es.getD (2 * i + 1) 0 < es.getD i 0
        · skip
          refine Rg.calls (v := .bool true) rfl rfl rfl rfl (callee_val rfl rfl (vload_box (hM.get_box (j := 0) rfl) rfl rfl rfl)) rfl (qless_T (hM.get_sl (j := 1) rfl) (by omega) (by omega) hls2) ?_
          refine Rg.opp (v := .bool false) rfl rfl rfl rfl rfl ?_
          refine Rg.nil ?_
          refine Runs.cond false rfl (fun h => by cases h) (fun _ => ?_)
          refine Runs.skip ?_
          refine Runs.seq ?_
          refine Runs.region ?_
          refine Rg.opp (v := .iface 94 (.pointer (some ⟨q, 0, none⟩))) rfl rfl rfl rfl rfl ?_
          refine Rg.opp (v := nat i) rfl rfl rfl rfl rfl ?_
          refine Rg.opp (v := nat (2 * i + 1)) rfl rfl rfl rfl rfl ?_
          refine Rg.callW rfl rfl rfl rfl (callee_val rfl rfl (vload_box (hM.get_box (j := 0) rfl) rfl rfl rfl)) rfl (qswap_runs (i := i) (j := 2 * i + 1) hM.swap (by omega) (by omega)) (fun r Hc hP => ?_)
          replace hM := hP.swap
          refine Rg.nil ?_
          refine Runs.region ?_
          refine Rg.opp (v := nat (2 * i + 1)) rfl rfl rfl rfl rfl ?_
          refine Rg.opp (v := nat (2 * i + 1)) rfl rfl rfl rfl rfl ?_
          refine Rg.nil ?_
          refine ⟨n - (2 * i + 1), by omega, f', 2 * i + 1, swapL es i (2 * i + 1), rfl, hM, by omega, by rw [swapL_len]; omega, by rw [swapL_len]; omega, by rw [swapL_len]; omega, by rw [← hR, downF, if_neg (by omega)]; have hdj : dj es i n = 2 * i + 1 := if_neg (fun h => hls1 h.2); rw [hdj, if_neg (fun h => h hls2)], Is.of ⟨rfl, rfl, rfl, rfl, rfl, rfl, rfl, rfl, trivial⟩⟩
        · skip
          refine Rg.calls (v := .bool false) rfl rfl rfl rfl (callee_val rfl rfl (vload_box (hM.get_box (j := 0) rfl) rfl rfl rfl)) rfl (qless_F (hM.get_sl (j := 1) rfl) (by omega) (by omega) hls2) ?_
          refine Rg.opp (v := .bool true) rfl rfl rfl rfl rfl ?_
          refine Rg.nil ?_
          refine Runs.cond true rfl (fun _ => ?_) (fun h => by cases h)
          refine Runs.exit ?_
          refine Runs.seq ?_
          refine Runs.region ?_
          refine Rg.opp (v := nat i) rfl rfl rfl rfl rfl ?_
          refine Rg.opp (v := nat i0) rfl rfl rfl rfl rfl ?_
          by_cases h4 : i0 < i
          · skip
            refine Rg.opp (v := .bool true) rfl rfl rfl (ev_gtT rfl rfl (h4)) rfl ?_
            refine Rg.opp (v := .bool true) rfl rfl rfl rfl rfl ?_
            refine Rg.nil ?_
            refine Runs.ret ?_
            refine ⟨.bool true, rfl, ?_⟩
            have he : es = downF f0 es0 i0 n := by
              rw [← hR, downF, if_neg (by omega)]
              have hdj : dj es i n = 2 * i + 1 := if_neg (fun h => hls1 h.2)
              rw [hdj, if_pos hls2]
            rw [← he]; exact hM
          · skip
            refine Rg.opp (v := .bool false) rfl rfl rfl (ev_gtF rfl rfl (h4)) rfl ?_
            refine Rg.opp (v := .bool false) rfl rfl rfl rfl rfl ?_
            refine Rg.nil ?_
            refine Runs.ret ?_
            refine ⟨.bool false, rfl, ?_⟩
            have he : es = downF f0 es0 i0 n := by
              rw [← hR, downF, if_neg (by omega)]
              have hdj : dj es i n = 2 * i + 1 := if_neg (fun h => hls1 h.2)
              rw [hdj, if_pos hls2]
            rw [← he]; exact hM
    · skip
      refine Rg.opp (v := .bool false) rfl rfl rfl (ev_ltF rfl rfl (h2n)) rfl ?_
      refine Rg.opp (v := .bool false) rfl rfl rfl rfl rfl ?_
      refine Rg.guards false rfl rfl rfl (fun h => by cases h) (fun _ => ?_)
      refine Rg.guards false rfl rfl rfl (fun h => by cases h) (fun _ => ?_)
      refine Rg.guards false rfl rfl rfl (fun h => by cases h) (fun _ => ?_)
      refine Rg.guards false rfl rfl rfl (fun h => by cases h) (fun _ => ?_)
      refine Rg.opp (v := .bool false) rfl rfl rfl rfl rfl ?_
      refine Rg.nil ?_
      refine Runs.cond false rfl (fun h => by cases h) (fun _ => ?_)
      refine Runs.skip ?_
      refine Runs.seq ?_
      refine Runs.seq ?_
      refine Runs.region ?_
      refine Rg.opp (v := .iface 94 (.pointer (some ⟨q, 0, none⟩))) rfl rfl rfl rfl rfl ?_
      refine Rg.opp (v := nat (2 * i + 1)) rfl rfl rfl rfl rfl ?_
      refine Rg.opp (v := nat i) rfl rfl rfl rfl rfl ?_
      by_cases hls2 : es.getD (2 * i + 1) 0 < es.getD i 0
      · skip
        refine Rg.calls (v := .bool true) rfl rfl rfl rfl (callee_val rfl rfl (vload_box (hM.get_box (j := 0) rfl) rfl rfl rfl)) rfl (qless_T (hM.get_sl (j := 1) rfl) (by omega) (by omega) hls2) ?_
        refine Rg.opp (v := .bool false) rfl rfl rfl rfl rfl ?_
        refine Rg.nil ?_
        refine Runs.cond false rfl (fun h => by cases h) (fun _ => ?_)
        refine Runs.skip ?_
        refine Runs.seq ?_
        refine Runs.region ?_
        refine Rg.opp (v := .iface 94 (.pointer (some ⟨q, 0, none⟩))) rfl rfl rfl rfl rfl ?_
        refine Rg.opp (v := nat i) rfl rfl rfl rfl rfl ?_
        refine Rg.opp (v := nat (2 * i + 1)) rfl rfl rfl rfl rfl ?_
        refine Rg.callW rfl rfl rfl rfl (callee_val rfl rfl (vload_box (hM.get_box (j := 0) rfl) rfl rfl rfl)) rfl (qswap_runs (i := i) (j := 2 * i + 1) hM.swap (by omega) (by omega)) (fun r Hc hP => ?_)
        replace hM := hP.swap
        refine Rg.nil ?_
        refine Runs.region ?_
        refine Rg.opp (v := nat (2 * i + 1)) rfl rfl rfl rfl rfl ?_
        refine Rg.opp (v := nat (2 * i + 1)) rfl rfl rfl rfl rfl ?_
        refine Rg.nil ?_
        refine ⟨n - (2 * i + 1), by omega, f', 2 * i + 1, swapL es i (2 * i + 1), rfl, hM, by omega, by rw [swapL_len]; omega, by rw [swapL_len]; omega, by rw [swapL_len]; omega, by rw [← hR, downF, if_neg (by omega)]; have hdj : dj es i n = 2 * i + 1 := if_neg (fun h => h2n h.1); rw [hdj, if_neg (fun h => h hls2)], Is.of ⟨rfl, rfl, rfl, rfl, rfl, rfl, rfl, rfl, trivial⟩⟩
      · skip
        refine Rg.calls (v := .bool false) rfl rfl rfl rfl (callee_val rfl rfl (vload_box (hM.get_box (j := 0) rfl) rfl rfl rfl)) rfl (qless_F (hM.get_sl (j := 1) rfl) (by omega) (by omega) hls2) ?_
        refine Rg.opp (v := .bool true) rfl rfl rfl rfl rfl ?_
        refine Rg.nil ?_
        refine Runs.cond true rfl (fun _ => ?_) (fun h => by cases h)
        refine Runs.exit ?_
        refine Runs.seq ?_
        refine Runs.region ?_
        refine Rg.opp (v := nat i) rfl rfl rfl rfl rfl ?_
        refine Rg.opp (v := nat i0) rfl rfl rfl rfl rfl ?_
        by_cases h5 : i0 < i
        · skip
          refine Rg.opp (v := .bool true) rfl rfl rfl (ev_gtT rfl rfl (h5)) rfl ?_
          refine Rg.opp (v := .bool true) rfl rfl rfl rfl rfl ?_
          refine Rg.nil ?_
          refine Runs.ret ?_
          refine ⟨.bool true, rfl, ?_⟩
          have he : es = downF f0 es0 i0 n := by
            rw [← hR, downF, if_neg (by omega)]
            have hdj : dj es i n = 2 * i + 1 := if_neg (fun h => h2n h.1)
            rw [hdj, if_pos hls2]
          rw [← he]; exact hM
        · skip
          refine Rg.opp (v := .bool false) rfl rfl rfl (ev_gtF rfl rfl (h5)) rfl ?_
          refine Rg.opp (v := .bool false) rfl rfl rfl rfl rfl ?_
          refine Rg.nil ?_
          refine Runs.ret ?_
          refine ⟨.bool false, rfl, ?_⟩
          have he : es = downF f0 es0 i0 n := by
            rw [← hR, downF, if_neg (by omega)]
            have hdj : dj es i n = 2 * i + 1 := if_neg (fun h => h2n h.1)
            rw [hdj, if_pos hls2]
          rw [← he]; exact hM

theorem push_runs {H0 H : Heap} {L : List Th} {q : Nat} {v : Value} {es : List Nat} {x : Nat} (hM : Mem H0 H (.box q 1 [v] :: .sl 1 v (es.map encN) :: L)) (hl : es.length ≤ 2 ^ 20) :
    ∃ r H1, big tab 44 [.iface 94 (.pointer (some ⟨q, 0, none⟩)), .iface 3 (nat x)] H = some (r, H1) ∧ ∃ v1, Mem H0 H1 (.box q 1 [v1] :: .sl 1 v1 ((pushF es x).map encN) :: L) ∧ Grown v1 := by
  refine big_of_runs rfl rfl rfl ?_
  obtain ⟨z, hz⟩ := startC_mkS Try.f44 [.iface 94 (.pointer (some ⟨q, 0, none⟩)), .iface 3 (nat x)]
  rw [show startC (44, Try.f44).snd [.iface 94 (.pointer (some ⟨q, 0, none⟩)), .iface 3 (nat x)] = _ from hz]
  clear hz
  refine Runs.cut (n := 12) (l := [(0, .iface 94 (.pointer (some ⟨q, 0, none⟩))), (1, .iface 3 (nat x))]) (Is.of ⟨rfl, rfl, rfl, rfl, trivial⟩) (fun a0 => ?_)
  refine Runs.seq ?_
  refine Runs.region ?_
  refine Rg.opp (v := .iface 94 (.pointer (some ⟨q, 0, none⟩))) rfl rfl rfl rfl rfl ?_
  refine Rg.opp (v := .iface 3 (nat x)) rfl rfl rfl rfl rfl ?_
  refine Rg.callW rfl rfl rfl rfl (rfl) rfl (qpush_runs (x := x) hM (by omega)) (fun r1 Hc hP => ?_)
  obtain ⟨v1, hM, hgv⟩ := hP
  refine Rg.nil ?_
  refine Runs.region ?_
  refine Rg.opp (v := .iface 94 (.pointer (some ⟨q, 0, none⟩))) rfl rfl rfl rfl rfl ?_
  refine Rg.opp (v := .iface 94 (.pointer (some ⟨q, 0, none⟩))) rfl rfl rfl rfl rfl ?_
  refine Rg.calls (v := nat (es.length + 1)) rfl rfl rfl rfl (callee_val rfl rfl (vload_box (hM.get_box (j := 0) rfl) rfl rfl rfl)) rfl (by have h0 := qlen_runs (hM.get_sl (j := 1) rfl); rw [List.length_append] at h0; exact h0) ?_
  refine Rg.opp (v := nat (es.length + 1 - 1)) rfl rfl rfl (ev_subN (a := es.length + 1) (b := 1) rfl rfl (by omega) (by omega)) rfl ?_
  refine Rg.callW rfl rfl rfl rfl (rfl) rfl (up_runs (f0 := es.length) (j0 := es.length) hM (Nat.le_refl _) (by simp) (by rw [List.length_append]; show es.length + 1 ≤ _; omega)) (fun r2 Hc hP => ?_)
  replace hM := hP
  refine Rg.nil ?_
  refine ⟨.tuple #[], rfl, ?_⟩
  exact ⟨v1, hM, hgv⟩

theorem popL_len (es : List Nat) : (popL es).length = es.length := by unfold popL; rw [downF_len, swapL_len]
theorem popM_is {es : List Nat} (h : 1 ≤ es.length) : (popL es)[(popL es).length - 1]'(by rw [popL_len]; omega) = popM es := by
  have h1 : es.length - 1 < (popL es).length := by rw [popL_len]; omega
  unfold popM
  rw [getD_get h1]
  congr 1
  rw [popL_len]
theorem popR_is (es : List Nat) : (popL es).take ((popL es).length - 1) = popR es := by unfold popR; rw [popL_len]
theorem pop_runs {H0 H : Heap} {L : List Th} {q : Nat} {v : Value} {es : List Nat} (hM : Mem H0 H (.box q 1 [v] :: .sl 1 v (es.map encN) :: L)) (hgr : Grown v) (hl : es.length ≤ 2 ^ 20) (hp : 1 ≤ es.length) :
    ∃ r H1, big tab 46 [.iface 94 (.pointer (some ⟨q, 0, none⟩))] H = some (r, H1) ∧ r = .iface 3 (nat (popM es)) ∧ ∃ v1, Mem H0 H1 (.box q 1 [v1] :: .sl 1 v1 ((popR es).map encN) :: L) ∧ Grown v1 := by
  refine big_of_runs rfl rfl rfl ?_
  obtain ⟨z, hz⟩ := startC_mkS Try.f46 [.iface 94 (.pointer (some ⟨q, 0, none⟩))]
  rw [show startC (46, Try.f46).snd [.iface 94 (.pointer (some ⟨q, 0, none⟩))] = _ from hz]
  clear hz
  refine Runs.cut (n := 15) (l := [(0, .iface 94 (.pointer (some ⟨q, 0, none⟩)))]) (Is.of ⟨rfl, rfl, trivial⟩) (fun a0 => ?_)
  refine Runs.seq ?_
  refine Runs.region ?_
  refine Rg.opp (v := .nilIface) rfl rfl rfl rfl rfl ?_
  refine Rg.nil ?_
  refine Runs.seq ?_
  refine Runs.region ?_
  refine Rg.opp (v := .iface 94 (.pointer (some ⟨q, 0, none⟩))) rfl rfl rfl rfl rfl ?_
  refine Rg.calls (v := nat es.length) rfl rfl rfl rfl (callee_val rfl rfl (vload_box (hM.get_box (j := 0) rfl) rfl rfl rfl)) rfl (qlen_runs (hM.get_sl (j := 1) rfl)) ?_
  refine Rg.opp (v := nat (es.length - 1)) rfl rfl rfl (ev_subN (a := es.length) (b := 1) rfl rfl (hp) (by omega)) rfl ?_
  refine Rg.opp (v := nat (es.length - 1)) rfl rfl rfl rfl rfl ?_
  refine Rg.nil ?_
  refine Runs.seq ?_
  refine Runs.region ?_
  refine Rg.opp (v := .iface 94 (.pointer (some ⟨q, 0, none⟩))) rfl rfl rfl rfl rfl ?_
  refine Rg.opp (v := nat (es.length - 1)) rfl rfl rfl rfl rfl ?_
  refine Rg.callW rfl rfl rfl rfl (callee_val rfl rfl (vload_box (hM.get_box (j := 0) rfl) rfl rfl rfl)) rfl (qswap_runs (i := 0) (j := es.length - 1) hM.swap (by omega) (by omega)) (fun r1 Hc hP => ?_)
  replace hM := hP.swap
  refine Rg.nil ?_
  refine Runs.seq ?_
  refine Runs.region ?_
  refine Rg.opp (v := .iface 94 (.pointer (some ⟨q, 0, none⟩))) rfl rfl rfl rfl rfl ?_
  refine Rg.opp (v := nat (es.length - 1)) rfl rfl rfl rfl rfl ?_
  refine Rg.callW rfl rfl rfl rfl (rfl) rfl (down_runs (f0 := es.length) (i0 := 0) (n := es.length - 1) hM (by omega) (by rw [swapL_len]; omega) (by rw [swapL_len]; omega) (by rw [swapL_len]; omega)) (fun r2 Hc hP => ?_)
  replace hM : Mem H0 Hc (.box q 1 [v] :: .sl 1 v ((popL es).map encN) :: L) := hP
  refine Rg.nil ?_
  refine Runs.seq ?_
  refine Runs.region ?_
  refine Rg.opp (v := .iface 94 (.pointer (some ⟨q, 0, none⟩))) rfl rfl rfl rfl rfl ?_
  refine Rg.callW rfl rfl rfl rfl (rfl) rfl (qpop_runs hM hgr (by rw [popL_len]; omega) (by rw [popL_len]; exact hp)) (fun r3 Hc hP => ?_)
  obtain ⟨hr, v1, hM, hg1⟩ := hP
  rw [show (popL es)[(popL es).length - 1]'(by rw [popL_len]; omega) = popM es from popM_is hp] at hr
  subst hr
  rw [popR_is] at hM
  refine Rg.opp (v := .iface 3 (nat (popM es))) rfl rfl rfl rfl rfl ?_
  refine Rg.nil ?_
  refine Runs.ret ?_
  refine ⟨.iface 3 (nat (popM es)), rfl, ?_⟩
  exact ⟨rfl, v1, hM, hg1⟩


end Go.Proofs.Ytdhbclplondmjaa.C

end

section
/- The least order, step by step, plain. -/
set_option linter.unusedVariables false
set_option linter.unusedSimpArgs false
namespace Go.Proofs.Ytdhbclplondmjaa.C
open Go.RowKit Go.Sort

/-- How many arcs lead to a unit. -/
def cnt (arcs : List Arc) (x : Nat) : Nat := arcs.countP fun a => decide (a.up = x)
def remO (arcs : List Arc) (o : List Nat) : List Arc := arcs.filter fun a => decide (a.lo ∉ o)

theorem cnt_nil (x : Nat) : cnt [] x = 0 := rfl
theorem cnt_cons (a : Arc) (l : List Arc) (x : Nat) : cnt (a :: l) x = cnt l x + if a.up = x then 1 else 0 := by
  simp [cnt, List.countP_cons]
theorem cnt_append (a b : List Arc) (x : Nat) : cnt (a ++ b) x = cnt a x + cnt b x := by simp [cnt]
theorem cnt_zero {arcs : List Arc} {x : Nat} : cnt arcs x = 0 ↔ ∀ a ∈ arcs, a.up ≠ x := by
  simp [cnt, List.countP_eq_zero]
theorem cnt_le (arcs : List Arc) (x : Nat) : cnt arcs x ≤ arcs.length := List.countP_le_length
theorem cnt_take {arcs : List Arc} {j : Nat} (h : j < arcs.length) (x : Nat) : cnt (arcs.take (j + 1)) x = cnt (arcs.take j) x + if arcs[j].up = x then 1 else 0 := by
  rw [← List.take_append_getElem h, cnt_append, cnt_cons, cnt_nil, Nat.zero_add]
theorem cnt_drop {arcs : List Arc} {j : Nat} (h : j < arcs.length) (x : Nat) : cnt (arcs.drop j) x = cnt (arcs.drop (j + 1)) x + if arcs[j].up = x then 1 else 0 := by
  rw [List.drop_eq_getElem_cons h, cnt_cons]

theorem next_cons (a : Arc) (l : List Arc) (i : Nat) : nextOf (a :: l) i = (if a.lo = i then [a] else []) ++ nextOf l i := by
  by_cases h : a.lo = i <;> simp [nextOf, h]
theorem remO_cons (a : Arc) (l : List Arc) (o : List Nat) : remO (a :: l) o = (if a.lo ∉ o then [a] else []) ++ remO l o := by
  by_cases h : a.lo ∈ o <;> simp [remO, h]
theorem cnt_split (arcs : List Arc) (o : List Nat) (i x : Nat) (hi : i ∉ o) : cnt (nextOf arcs i) x + cnt (remO arcs (o ++ [i])) x = cnt (remO arcs o) x := by
  induction arcs with
  | nil => rfl
  | cons a l ih =>
    rw [next_cons, remO_cons, remO_cons, cnt_append, cnt_append, cnt_append]
    by_cases h1 : a.lo = i
    · have h2 : a.lo ∉ o := by rw [h1]; exact hi
      have h3 : ¬ a.lo ∉ o ++ [i] := by simp [h1]
      rw [if_pos h1, if_pos h2, if_neg h3, cnt_nil]; omega
    · by_cases h2 : a.lo ∈ o
      · have h3 : ¬ a.lo ∉ o ++ [i] := by simp [h2]
        have h4 : ¬ a.lo ∉ o := fun h => h h2
        rw [if_neg h1, if_neg h3, if_neg h4, cnt_nil]; omega
      · have h3 : a.lo ∉ o ++ [i] := by simp [h1, h2]
        rw [if_neg h1, if_pos h2, if_pos h3, cnt_nil]; omega

/-- The units that have been put in order, and those that may come next. -/
structure Kahn (arcs : List Arc) (n : Nat) (o es : List Nat) : Prop where
  nd : (o ++ es).Nodup
  lt : ∀ x ∈ o ++ es, x < n
  mem : ∀ x, x < n → (x ∈ o ++ es ↔ cnt (remO arcs o) x = 0)
  topo : ∀ k (h : k < o.length), ∀ a ∈ arcs, a.up = o[k] → a.lo ∈ o.take k

/-- Within one unit's arcs. -/
structure KahnIn (arcs : List Arc) (n : Nat) (o : List Nat) (ys : List Arc) (j : Nat) (es : List Nat) : Prop where
  nd : (o ++ es).Nodup
  lt : ∀ x ∈ o ++ es, x < n
  mem : ∀ x, x < n → (x ∈ o ++ es ↔ cnt (ys.drop j) x + cnt (remO arcs o) x = 0)
  topo : ∀ k (h : k < o.length), ∀ a ∈ arcs, a.up = o[k] → a.lo ∈ o.take k

/-- While the first units are collected. -/
structure KahnUp (arcs : List Arc) (i : Nat) (es : List Nat) : Prop where
  nd : es.Nodup
  mem : ∀ x, x ∈ es ↔ x < i ∧ cnt arcs x = 0

theorem KahnUp.start (arcs : List Arc) : KahnUp arcs 0 [] := ⟨by simp, by simp⟩
theorem KahnUp.push {arcs : List Arc} {i : Nat} {es : List Nat} (h : KahnUp arcs i es) (hz : cnt arcs i = 0) : KahnUp arcs (i + 1) (pushF es i) := by
  have hp := pushF_perm es i
  refine ⟨hp.nodup_iff.2 (List.nodup_cons.2 ⟨fun hm => by have := ((h.mem i).1 hm).1; omega, h.nd⟩), fun x => ?_⟩
  rw [hp.mem_iff, List.mem_cons, h.mem]
  constructor
  · rintro (rfl | ⟨h1, h2⟩)
    · exact ⟨by omega, hz⟩
    · exact ⟨by omega, h2⟩
  · rintro ⟨h1, h2⟩
    by_cases e : x = i
    · exact .inl e
    · exact .inr ⟨by omega, h2⟩
theorem KahnUp.skip {arcs : List Arc} {i : Nat} {es : List Nat} (h : KahnUp arcs i es) (hz : ¬ cnt arcs i = 0) : KahnUp arcs (i + 1) es := by
  refine ⟨h.nd, fun x => ?_⟩
  rw [h.mem]
  constructor
  · rintro ⟨h1, h2⟩; exact ⟨by omega, h2⟩
  · rintro ⟨h1, h2⟩
    have : x ≠ i := fun e => hz (e ▸ h2)
    exact ⟨by omega, h2⟩
theorem KahnUp.done {arcs : List Arc} {n : Nat} {es : List Nat} (h : KahnUp arcs n es) : Kahn arcs n [] es := by
  have hr : remO arcs [] = arcs := by simp [remO]
  refine ⟨by simpa using h.nd, fun x hx => ((h.mem x).1 (by simpa using hx)).1, fun x hx => ?_, fun k hk => by simp at hk⟩
  rw [List.nil_append, h.mem, hr]
  exact ⟨fun h => h.2, fun h => ⟨hx, h⟩⟩
theorem KahnUp.len {arcs : List Arc} {i : Nat} {es : List Nat} (h : KahnUp arcs i es) : es.length ≤ i := by
  exact nodup_le i es h.nd fun x hx => ((h.mem x).1 hx).1

theorem Kahn.len {arcs : List Arc} {n : Nat} {o es : List Nat} (h : Kahn arcs n o es) : o.length + es.length ≤ n := by
  have := nodup_le n _ h.nd h.lt
  simpa using this
theorem KahnIn.len {arcs : List Arc} {n : Nat} {o es : List Nat} {ys : List Arc} {j : Nat} (h : KahnIn arcs n o ys j es) : o.length + es.length ≤ n := by
  have := nodup_le n _ h.nd h.lt
  simpa using this

theorem Kahn.pop {arcs : List Arc} {n : Nat} {o es : List Nat} (h : Kahn arcs n o es) (hne : es ≠ []) : KahnIn arcs n (o ++ [popM es]) (nextOf arcs (popM es)) 0 (popR es) := by
  have hp : (o ++ [popM es] ++ popR es).Perm (o ++ es) := by
    rw [List.append_assoc]
    exact (popF_perm hne).append_left o
  have hi : popM es ∈ es := (popF_perm hne).mem_iff.1 List.mem_cons_self
  have hno : popM es ∉ o := fun hm => (List.nodup_append.1 h.nd).2.2 _ hm _ hi rfl
  have hin : popM es < n := h.lt _ (List.mem_append_right _ hi)
  refine ⟨hp.nodup_iff.2 h.nd, fun x hx => h.lt x (hp.mem_iff.1 hx), fun x hx => ?_, fun k hk a ha e => ?_⟩
  · rw [hp.mem_iff, h.mem x hx, List.drop_zero, cnt_split arcs o _ x hno]
  · rcases Nat.lt_or_ge k o.length with q | q
    · rw [List.getElem_append_left q] at e
      rw [List.take_append_of_le_length (by omega)]
      exact h.topo k q a ha e
    · have hk' : k = o.length := by simp at hk; omega
      subst hk'
      rw [List.getElem_append_right (Nat.le_refl _)] at e
      simp at e
      have h0 := (h.mem _ hin).1 (List.mem_append_right _ hi)
      have := cnt_zero.1 h0
      rw [List.take_append_of_le_length (Nat.le_refl _), List.take_length]
      refine Classical.byContradiction fun hlo => this a (List.mem_filter.2 ⟨ha, by simpa using hlo⟩) e

theorem KahnIn.pos {arcs : List Arc} {n : Nat} {o es : List Nat} {ys : List Arc} {j : Nat} (_ : KahnIn arcs n o ys j es) (hj : j < ys.length) : 1 ≤ cnt (ys.drop j) ys[j].up + cnt (remO arcs o) ys[j].up := by
  rw [cnt_drop hj, if_pos rfl]; omega

theorem KahnIn.same {arcs : List Arc} {n : Nat} {o es : List Nat} {ys : List Arc} {j : Nat} (h : KahnIn arcs n o ys j es) (hj : j < ys.length) (hz : ¬ cnt (ys.drop j) ys[j].up + cnt (remO arcs o) ys[j].up - 1 = 0) : KahnIn arcs n o ys (j + 1) es := by
  refine ⟨h.nd, h.lt, fun x hx => ?_, h.topo⟩
  rw [h.mem x hx]
  have := cnt_drop hj x
  have h1 := cnt_drop hj ys[j].up
  by_cases e : ys[j].up = x
  · subst e; rw [if_pos rfl] at h1; omega
  · rw [if_neg e] at this; omega
theorem KahnIn.push {arcs : List Arc} {n : Nat} {o es : List Nat} {ys : List Arc} {j : Nat} (h : KahnIn arcs n o ys j es) (hj : j < ys.length) (hup : ys[j].up < n) (hz : cnt (ys.drop j) ys[j].up + cnt (remO arcs o) ys[j].up - 1 = 0) : KahnIn arcs n o ys (j + 1) (pushF es ys[j].up) := by
  have hp : (o ++ pushF es ys[j].up).Perm (ys[j].up :: (o ++ es)) := by
    refine ((pushF_perm es _).append_left o).trans ?_
    exact List.perm_middle
  have h1 := cnt_drop hj ys[j].up
  rw [if_pos rfl] at h1
  have hn : ys[j].up ∉ o ++ es := fun hm => by have := (h.mem _ hup).1 hm; omega
  refine ⟨hp.nodup_iff.2 (List.nodup_cons.2 ⟨hn, h.nd⟩), fun x hx => ?_, fun x hx => ?_, h.topo⟩
  · rcases List.mem_cons.1 (hp.mem_iff.1 hx) with e | e
    · rw [e]; exact hup
    · exact h.lt x e
  · rw [hp.mem_iff, List.mem_cons, h.mem x hx]
    have := cnt_drop hj x
    by_cases e : ys[j].up = x
    · subst e; constructor
      · intro _; omega
      · intro _; exact .inl rfl
    · rw [if_neg e] at this
      constructor
      · rintro (q | q)
        · exact absurd q.symm e
        · omega
      · intro q; right; omega
theorem KahnIn.done {arcs : List Arc} {n : Nat} {o es : List Nat} {ys : List Arc} (h : KahnIn arcs n o ys ys.length es) : Kahn arcs n o es := by
  refine ⟨h.nd, h.lt, fun x hx => ?_, h.topo⟩
  rw [h.mem x hx, List.drop_length, cnt_nil, Nat.zero_add]

/-- What a count is after one arc. -/
theorem cnt_next {arcs : List Arc} {o : List Nat} {ys : List Arc} {j n : Nat} (hj : j < ys.length) (hup : ys[j].up < n) :
    ((List.range n).map fun x => cnt (ys.drop j) x + cnt (remO arcs o) x).set ys[j].up (cnt (ys.drop j) ys[j].up + cnt (remO arcs o) ys[j].up - 1) = (List.range n).map fun x => cnt (ys.drop (j + 1)) x + cnt (remO arcs o) x := by
  rw [row_set hup]
  refine List.map_congr_left fun x _ => ?_
  have := cnt_drop hj x
  by_cases e : x = ys[j].up
  · subst e; rw [if_pos rfl] at this ⊢; omega
  · rw [if_neg e]; rw [if_neg (fun h => e h.symm)] at this; omega
theorem cnt_more {arcs : List Arc} {j n : Nat} (hj : j < arcs.length) (hup : arcs[j].up < n) :
    ((List.range n).map (cnt (arcs.take j))).set arcs[j].up (cnt (arcs.take j) arcs[j].up + 1) = (List.range n).map (cnt (arcs.take (j + 1))) := by
  rw [row_set hup]
  refine List.map_congr_left fun x _ => ?_
  have := cnt_take hj x
  by_cases e : x = arcs[j].up
  · subst e; rw [if_pos rfl] at this ⊢; omega
  · rw [if_neg e]; rw [if_neg (fun h => e h.symm)] at this; omega

/-- A variable with a value that fills one cell. -/
theorem Rg.box1 {T : Tab} {H0 H : Heap} {L : List Th} {Q : St} {cal : CallF} {d : Bool} {ops : Array Oper} {i n t : Nat} {is : List Nat} {a : Nat → Value} {l : List (Nat × Value)} {o : Oper} {ty : TypeId} {x : Operand} {ti : TI} {u : Value} {sz : Nat} (hM : Mem H0 H L) (ho : ops[i]? = some o) (hg : o.guard = none) (ht : o.dst = some t) (hop : o.op = .box ty x) (hx : ev (mkS n a l) x = u) (h1 : One u) (hT : T.T ty = some ti) (hs : ti.size = sz)
    (k : ∀ p H1, Mem H0 H1 (.box p sz [u] :: L) → Ext H H1 → Rg T cal d ops is (mkS n a ((t, .pointer (some ⟨p, 0, none⟩)) :: l)) H1 Q) : Rg T cal d ops (i :: is) (mkS n a l) H Q := by
  refine Rg.new (v := fun p => .pointer (some ⟨p, 0, none⟩)) (X := .row sz [u] true true) (th := fun p => .box p sz [u]) hM ho hg ht ?_ (by rw [hop]; simp [inPlace]) rfl (fun _ => rfl) k
  rw [hop]
  simp only [opEval, hx, vBox, h1.2.2, Bool.false_eq_true, if_false, hT, Option.map_some, newRow, h1.1, hs]

/-- A literal without elements. -/
theorem Rg.lit0 {T : Tab} {H0 H : Heap} {L : List Th} {Q : St} {cal : CallF} {d : Bool} {ops : Array Oper} {i n t : Nat} {is : List Nat} {a : Nat → Value} {l : List (Nat × Value)} {o : Oper} {ty : TypeId} {parts : Array (Nat × Operand)} {sz : Nat} (hM : Mem H0 H L) (ho : ops[i]? = some o) (hg : o.guard = none) (ht : o.dst = some t) (hop : o.op = .buildSlice ty 0 parts) (he : opEval T (mkS n a l) H (.buildSlice ty 0 parts) = some (.slice (some ⟨H.length, 0, none⟩) 0 0, H ++ [.row sz [] true true]))
    (k : ∀ u H1, Mem H0 H1 (.sl sz u [] :: L) → Grown u → Rg T cal d ops is (mkS n a ((t, u) :: l)) H1 Q) : Rg T cal d ops (i :: is) (mkS n a l) H Q :=
  Rg.opp ho hg ht (v := .slice (some ⟨H.length, 0, none⟩) 0 0) (H1 := H ++ [.row sz [] true true]) (by rw [hop]; exact he) (by rw [hop]; simp [inPlace])
    (k _ _ (hM.new (X := .row sz [] true true) (t := .sl sz (.slice (some ⟨H.length, 0, none⟩) 0 0) []) rfl ⟨by simp, by simp, .inl ⟨rfl, _, .inr ⟨_, _, rfl⟩, rfl⟩⟩) ⟨_, _, _, rfl, .inr ⟨rfl, rfl⟩⟩)

end Go.Proofs.Ytdhbclplondmjaa.C

end
