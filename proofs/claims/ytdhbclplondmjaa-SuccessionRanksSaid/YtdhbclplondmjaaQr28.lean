/- Texts of one's own, laid together: X5, X9, Xp, Xq, Xs, X16, X14c -/
import Derived.Test.YtdhbclplondmjaaQr26
import Derived.Test.YtdhbclplondmjaaQr27
import Derived.Test.YtdhbclplondmjaaQr23
import Derived.Test.YtdhbclplondmjaaQr16
section
/- The program's graph, run. -/
set_option linter.unusedVariables false
set_option linter.unusedSimpArgs false
set_option maxRecDepth 100000
set_option maxHeartbeats 4000000
namespace Go.Proofs.Ytdhbclplondmjaa.C
open Go.RowKit Go.Sort

theorem build_runs {H : Heap} {v : Value} {l : List Rel} (hl : Sl H 3 v (rels l)) (hll : l.length ≤ 2 ^ 20) (hn : (unitsP l).length ≤ 2 ^ 20) :
    ∃ r H1, big tab 32 [v] H = some (r, H1) ∧ Ext H H1 ∧ ∃ gp an aa ax M nx own, r = .pointer (some ⟨gp, 0, none⟩) ∧ GraphIs H1 gp (unitsP l) (arcsOf l) an aa ax M nx own ∧ H1[M]? = some (.map (mapE 0 (unitsP l))) := by
  refine big_of_runs rfl rfl rfl ?_
  obtain ⟨z, hz⟩ := startC_mkS Try.f32 [v]
  rw [show startC (32, Try.f32).snd [v] = _ from hz]
  clear hz
  refine Runs.cut (n := 96) (l := [(0, v)]) (Is.of ⟨rfl, rfl, trivial⟩) (fun a0 => ?_)
  refine Runs.seq ?_
  refine Runs.region ?_
  refine Rg.opp (v := .pointer none) rfl rfl rfl rfl rfl ?_
  refine Rg.nil ?_
  refine Runs.seq ?_
  refine Runs.region ?_
  refine Rg.opp (v := v) rfl rfl rfl rfl rfl ?_
  refine Rg.callW rfl rfl rfl rfl (rfl) rfl (unitsP_runs hl (by omega)) (fun r Hu hP => ?_)
  obtain ⟨heu, hus'⟩ := hP
  have hus : Sl Hu 1 r ((unitsP l).map encS) := hus'
  obtain ⟨ua, uc, rfl, huc⟩ := id hus
  have hM := Mem.start Hu
  refine Rg.new (v := fun p => .map (some p)) (X := .map []) (th := fun p => .map p []) hM rfl rfl rfl rfl rfl rfl (fun _ => rfl) (fun M Hc (hM : Mem Hu Hc ([.map M ([])])) _ => ?_)
  refine Rg.opp (v := .agg ([.slice ua (List.map encS (unitsP l)).length uc, .map (some M), .slice none 0 0, .slice none 0 0]).toArray) rfl rfl rfl rfl rfl ?_
  refine Rg.new (v := fun p => .pointer (some ⟨p, 0, none⟩)) (X := .row 4 ([.slice ua (List.map encS (unitsP l)).length uc, .map (some M), .slice none 0 0, .slice none 0 0]) true true) (th := fun p => .box p 4 ([.slice ua (List.map encS (unitsP l)).length uc, .map (some M), .slice none 0 0, .slice none 0 0])) hM rfl rfl rfl rfl rfl rfl (fun _ => rfl) (fun gp Hc hM _ => ?_)
  refine Rg.opp (v := .pointer (some ⟨gp, 0, none⟩)) rfl rfl rfl rfl rfl ?_
  refine Rg.nil ?_
  refine Runs.seq ?_
  refine Runs.seq ?_
  refine Runs.region ?_
  refine Rg.opp (v := .pointer (some ⟨gp, 0, none⟩)) rfl rfl rfl rfl rfl ?_
  refine Rg.opp (v := .pointer (some ⟨gp, 0, none⟩)) rfl rfl rfl rfl rfl ?_
  refine Rg.opp (v := .pointer (some ⟨gp, 0, none⟩)) rfl rfl rfl (ev_fld (o := 0) (p := (37, 0)) rfl rfl rfl rfl rfl (by decide)) rfl ?_
  refine Rg.opp (v := .slice ua (List.map encS (unitsP l)).length uc) rfl rfl rfl (ev_ldb (hM.get_box (j := 0) rfl) rfl rfl rfl rfl rfl) rfl ?_
  refine Rg.opp (v := nat ((unitsP l).length)) rfl rfl rfl (ev_lenM (hus.sees hM.ext.sees) rfl rfl) rfl ?_
  refine Rg.opp (v := nat 0) rfl rfl rfl rfl rfl ?_
  refine Rg.nil ?_
  refine Runs.block ?_
  refine Runs.loop (fun m s Hc => ∃ (k : Nat), m = (unitsP l).length - k ∧ Mem Hu Hc ([.box gp 4 ([.slice ua (List.map encS (unitsP l)).length uc, .map (some M), .slice none 0 0, .slice none 0 0]), .map M (mapE 0 ((unitsP l).take k))]) ∧ (k ≤ (unitsP l).length) ∧ Is s 96 [(0, v), (3, .pointer (some ⟨gp, 0, none⟩)), (17, .slice ua (List.map encS (unitsP l)).length uc), (18, nat ((unitsP l).length)), (19, nat k)]) _
    ⟨0, rfl, hM, Nat.zero_le _, Is.of ⟨rfl, rfl, rfl, rfl, rfl, rfl, rfl, rfl, rfl, rfl, trivial⟩⟩ ?_
  rintro m s Hc ⟨k, rfl, hM, hk, hs⟩
  obtain ⟨a1, rfl⟩ := hs.mk1
  clear hs
  refine Runs.seq ?_
  refine Runs.region ?_
  by_cases hlt : k < (unitsP l).length
  · skip
    refine Rg.opp (v := .bool true) rfl rfl rfl (ev_ltT rfl rfl (hlt)) rfl ?_
    refine Rg.nil ?_
    refine Runs.seq ?_
    refine Runs.cond true rfl (fun _ => ?_) (fun h => by cases h)
    refine Runs.skip ?_
    refine Runs.seq ?_
    refine Runs.block ?_
    refine Runs.seq ?_
    refine Runs.region ?_
    refine Rg.opp (v := nat k) rfl rfl rfl rfl rfl ?_
    refine Rg.opp (v := ptrAt (sAddr (.slice ua (List.map encS (unitsP l)).length uc)) (k * 1)) rfl rfl rfl (ev_idxM (k := k) (hus.sees hM.ext.sees) rfl rfl (hlt) rfl rfl rfl (by decide)) rfl ?_
    refine Rg.opp (v := str ((unitsP l)[k])) rfl rfl rfl (ev_ldM (k := k) (hus.sees hM.ext.sees) rfl (hlt) rfl rfl rfl rfl) rfl ?_
    refine Rg.opp (v := nat k) rfl rfl rfl rfl rfl ?_
    refine Rg.opp (v := str ((unitsP l)[k])) rfl rfl rfl rfl rfl ?_
    refine Rg.nil ?_
    refine Runs.region ?_
    refine Rg.opp (v := .pointer (some ⟨gp, 0, none⟩)) rfl rfl rfl rfl rfl ?_
    refine Rg.opp (v := .pointer (some ⟨gp, 0, none⟩)) rfl rfl rfl rfl rfl ?_
    refine Rg.opp (v := .pointer (some ⟨gp, 1, none⟩)) rfl rfl rfl (ev_fld (o := 0) (p := (74, 1)) rfl rfl rfl rfl rfl (by decide)) rfl ?_
    refine Rg.opp (v := .map (some M)) rfl rfl rfl (ev_ldb (hM.get_box (j := 0) rfl) rfl rfl rfl rfl rfl) rfl ?_
    refine Rg.opp (v := str ((unitsP l)[k])) rfl rfl rfl rfl rfl ?_
    refine Rg.opp (v := nat k) rfl rfl rfl rfl rfl ?_
    refine Rg.mapset (j := 1) (xs := (unitsP l).take k) (s := (unitsP l)[k]) hM rfl rfl rfl rfl rfl rfl rfl rfl (nodup_take (strict_nodup (unitsP_strict l)) hlt) (by rw [List.length_take]; omega) (fun Hc hM => ?_)
    rw [List.take_append_getElem hlt] at hM
    refine Rg.nil ?_
    refine Runs.region ?_
    refine Rg.opp (v := nat (k + 1)) rfl rfl rfl (ev_addN (b := 1) rfl rfl (by omega)) rfl ?_
    refine Rg.opp (v := nat (k + 1)) rfl rfl rfl rfl rfl ?_
    refine Rg.nil ?_
    refine ⟨(unitsP l).length - (k + 1), by omega, k + 1, rfl, hM, hlt, Is.of ⟨rfl, rfl, rfl, rfl, rfl, rfl, rfl, rfl, rfl, rfl, trivial⟩⟩
  · skip
    replace hM : Mem Hu Hc ([.box gp 4 ([.slice ua (List.map encS (unitsP l)).length uc, .map (some M), .slice none 0 0, .slice none 0 0]), .map M (mapE 0 (unitsP l))]) := by rw [show k = (unitsP l).length by omega, List.take_length] at hM; exact hM
    refine Rg.opp (v := .bool false) rfl rfl rfl (ev_ltF rfl rfl (hlt)) rfl ?_
    refine Rg.nil ?_
    refine Runs.seq ?_
    refine Runs.cond false rfl (fun h => by cases h) (fun _ => ?_)
    refine Runs.exit ?_
    refine Runs.seq ?_
    refine Runs.region ?_
    refine Rg.opp (v := .pointer (some ⟨gp, 0, none⟩)) rfl rfl rfl rfl rfl ?_
    refine Rg.opp (v := .pointer (some ⟨gp, 0, none⟩)) rfl rfl rfl rfl rfl ?_
    refine Rg.opp (v := .pointer (some ⟨gp, 0, none⟩)) rfl rfl rfl rfl rfl ?_
    refine Rg.opp (v := .pointer (some ⟨gp, 0, none⟩)) rfl rfl rfl (ev_fld (o := 0) (p := (37, 0)) rfl rfl rfl rfl rfl (by decide)) rfl ?_
    refine Rg.opp (v := .slice ua (List.map encS (unitsP l)).length uc) rfl rfl rfl (ev_ldb (hM.get_box (j := 0) rfl) rfl rfl rfl rfl rfl) rfl ?_
    refine Rg.opp (v := nat ((unitsP l).length)) rfl rfl rfl (ev_lenM (hus.sees hM.ext.sees) rfl rfl) rfl ?_
    refine Rg.make (f := encV) (sz := 1) (m := (unitsP l).length) (.slice none 0 0) hM rfl rfl rfl rfl rfl rfl rfl rfl rfl (by decide) rfl rfl rfl (by show (unitsP l).length * 24 ≤ 2 ^ 40; omega) (by omega) (fun ax0 Hc (hM : Mem Hu Hc ([.sl 1 ax0 (List.map encV (List.replicate ((unitsP l).length) (.slice none 0 0))), .box gp 4 ([.slice ua (List.map encS (unitsP l)).length uc, .map (some M), .slice none 0 0, .slice none 0 0]), .map M (mapE 0 (unitsP l))])) _ => ?_)
    refine Rg.opp (v := .pointer (some ⟨gp, 0, none⟩)) rfl rfl rfl rfl rfl ?_
    refine Rg.opp (v := .pointer (some ⟨gp, 3, none⟩)) rfl rfl rfl (ev_fld (o := 0) (p := (75, 3)) rfl rfl rfl rfl rfl (by decide)) rfl ?_
    refine Rg.stob1 (j := 1) (cs' := [.slice ua (List.map encS (unitsP l)).length uc, .map (some M), .slice none 0 0, ax0]) hM rfl rfl rfl rfl rfl rfl rfl rfl rfl ((hM.get_sl (j := 0) rfl).one) (Nat.le_of_ble_eq_true rfl) rfl (fun Hc (hM : Mem Hu Hc ([.sl 1 ax0 (List.map encV (List.replicate ((unitsP l).length) (.slice none 0 0))), .box gp 4 ([.slice ua (List.map encS (unitsP l)).length uc, .map (some M), .slice none 0 0, ax0]), .map M (mapE 0 (unitsP l))])) => ?_)
    refine Rg.nil ?_
    refine Runs.seq ?_
    refine Runs.seq ?_
    refine Runs.region ?_
    refine Rg.opp (v := v) rfl rfl rfl rfl rfl ?_
    refine Rg.opp (v := nat l.length) rfl rfl rfl (ev_lenM ((hl.sees heu.sees).sees hM.ext.sees) rfl rfl) rfl ?_
    refine Rg.opp (v := nat 0) rfl rfl rfl rfl rfl ?_
    refine Rg.nil ?_
    refine Runs.block ?_
    refine Runs.loop (fun m s Hc => ∃ (k : Nat) (av : Value) (nx : List Value), m = l.length - k ∧ Mem Hu Hc ((.sl 3 av (List.map arcC (arcsUp l k))) :: (.sl 1 ax0 (List.map encV nx)) :: (.box gp 4 [.slice ua (List.map encS (unitsP l)).length uc, .map (some M), av, ax0]) :: (.map M (mapE 0 (unitsP l))) :: (inner nx (unitsP l).length (arcsUp l k))) ∧ (k ≤ l.length) ∧ (nx.length = (unitsP l).length) ∧ Is s 96 [(3, .pointer (some ⟨gp, 0, none⟩)), (40, v), (41, nat l.length), (42, nat k)]) _
      ⟨0, .slice none 0 0, List.replicate (unitsP l).length (.slice none 0 0), rfl, by have h := (hM.nilSl 3).addNil 3 (unitsP l).length; rw [inner_start] at h; exact h, Nat.zero_le _, by simp, Is.of ⟨rfl, rfl, rfl, rfl, rfl, rfl, rfl, rfl, trivial⟩⟩ ?_
    rintro m s Hc ⟨k, av, nx, rfl, hM, hk2, hnl, hs⟩
    obtain ⟨a2, rfl⟩ := hs.mk1
    clear hs
    refine Runs.seq ?_
    refine Runs.region ?_
    by_cases hlt : k < l.length
    · skip
      have hlo : idx (unitsP l) l[k].lo < (unitsP l).length := idx_lt (mem_unitsP.2 (mem_names_lo (List.getElem_mem hlt)))
      have hup : idx (unitsP l) l[k].up < (unitsP l).length := idx_lt (mem_unitsP.2 (mem_names_up (List.getElem_mem hlt)))
      refine Rg.opp (v := .bool true) rfl rfl rfl (ev_ltT rfl rfl (hlt)) rfl ?_
      refine Rg.nil ?_
      refine Runs.seq ?_
      refine Runs.cond true rfl (fun _ => ?_) (fun h => by cases h)
      refine Runs.skip ?_
      refine Runs.seq ?_
      refine Runs.block ?_
      refine Runs.seq ?_
      refine Runs.region ?_
      refine Rg.opp (v := nat k) rfl rfl rfl rfl rfl ?_
      refine Rg.opp (v := ptrAt (sAddr v) (k * 3)) rfl rfl rfl (ev_idxM (k := k) ((hl.sees heu.sees).sees hM.ext.sees) rfl rfl (hlt) rfl rfl rfl (by decide)) rfl ?_
      refine Rg.opp (v := .agg (relC (l[k])).toArray) rfl rfl rfl (ev_ldAM (k := k) ((hl.sees heu.sees).sees hM.ext.sees) rfl (hlt) rfl rfl rfl) rfl ?_
      refine Rg.new (v := fun p => .pointer (some ⟨p, 0, none⟩)) (X := .row 3 [.int .i64 0, .string ⟨#[]⟩, .string ⟨#[]⟩] true true) (th := fun p => .box p 3 [.int .i64 0, .string ⟨#[]⟩, .string ⟨#[]⟩]) hM rfl rfl rfl rfl rfl rfl (fun _ => rfl) (fun p3 Hc hM _ => ?_)
      refine Rg.opp (v := nat k) rfl rfl rfl rfl rfl ?_
      refine Rg.stob (j := 0) (cs' := relC (l[k])) hM rfl rfl rfl rfl rfl rfl rfl rfl rfl rfl (Nat.le_of_ble_eq_true rfl) rfl (fun Hc (hM : Mem Hu Hc ((.box p3 3 (relC (l[k]))) :: (.sl 3 av (List.map arcC (arcsUp l k))) :: (.sl 1 ax0 (List.map encV nx)) :: (.box gp 4 [.slice ua (List.map encS (unitsP l)).length uc, .map (some M), av, ax0]) :: (.map M (mapE 0 (unitsP l))) :: (inner nx (unitsP l).length (arcsUp l k)))) => ?_)
      refine Rg.nil ?_
      refine Runs.seq ?_
      refine Runs.seq ?_
      refine Runs.region ?_
      refine Rg.opp (v := .pointer (some ⟨p3, 0, none⟩)) rfl rfl rfl (ev_fld (o := 0) (p := (3, 0)) rfl rfl rfl rfl rfl (by decide)) rfl ?_
      refine Rg.opp (v := nat (l[k].kind)) rfl rfl rfl (ev_ldb (hM.get_box (j := 0) rfl) rfl rfl rfl rfl rfl) rfl ?_
      by_cases hkd : l[k].kind = 4
      · skip
        refine Rg.opp (v := .bool true) rfl rfl rfl (ev_eqT rfl rfl (hkd)) rfl ?_
        refine Rg.nil ?_
        refine Runs.cond true rfl (fun _ => ?_) (fun h => by cases h)
        refine Runs.exit ?_
        refine Runs.region ?_
        refine Rg.opp (v := nat (k + 1)) rfl rfl rfl (ev_addN (b := 1) rfl rfl (by omega)) rfl ?_
        refine Rg.opp (v := nat (k + 1)) rfl rfl rfl rfl rfl ?_
        refine Rg.nil ?_
        refine ⟨l.length - (k + 1), by omega, k + 1, av, nx, rfl, by rw [arcsUp_succ hlt, if_pos hkd]; exact hM.tail, hlt, hnl, Is.of ⟨rfl, rfl, rfl, rfl, rfl, rfl, rfl, rfl, trivial⟩⟩
      · skip
        refine Rg.opp (v := .bool false) rfl rfl rfl (ev_eqF rfl rfl (hkd)) rfl ?_
        refine Rg.nil ?_
        refine Runs.cond false rfl (fun h => by cases h) (fun _ => ?_)
        refine Runs.skip ?_
        refine Runs.seq ?_
        refine Runs.drawn (is := [0, 1, 2, 3, 4, 5, 6, 7, 8, 9, 10, 11, 12, 13, 14, 15, 16, 17]) (by decide +kernel) ?_
        refine Rg.opp (v := nat k) rfl rfl rfl rfl rfl ?_
        refine Rg.opp (v := .pointer (some ⟨gp, 0, none⟩)) rfl rfl rfl rfl rfl ?_
        refine Rg.opp (v := .pointer (some ⟨gp, 0, none⟩)) rfl rfl rfl rfl rfl ?_
        refine Rg.opp (v := .pointer (some ⟨gp, 1, none⟩)) rfl rfl rfl (ev_fld (o := 0) (p := (74, 1)) rfl rfl rfl rfl rfl (by decide)) rfl ?_
        refine Rg.opp (v := .map (some M)) rfl rfl rfl (ev_ldb (hM.get_box (j := 3) rfl) rfl rfl rfl rfl rfl) rfl ?_
        refine Rg.opp (v := .pointer (some ⟨p3, 2, none⟩)) rfl rfl rfl (ev_fld (o := 0) (p := (9, 2)) rfl rfl rfl rfl rfl (by decide)) rfl ?_
        refine Rg.opp (v := str (l[k].lo)) rfl rfl rfl (ev_ldb (hM.get_box (j := 0) rfl) rfl rfl rfl rfl rfl) rfl ?_
        refine Rg.opp (v := nat (idx (unitsP l) l[k].lo)) rfl rfl rfl (ev_lookN rfl rfl (hM.get_map (j := 4) rfl)) rfl ?_
        refine Rg.opp (v := .pointer (some ⟨gp, 0, none⟩)) rfl rfl rfl rfl rfl ?_
        refine Rg.opp (v := .pointer (some ⟨gp, 0, none⟩)) rfl rfl rfl rfl rfl ?_
        refine Rg.opp (v := .pointer (some ⟨gp, 1, none⟩)) rfl rfl rfl (ev_fld (o := 0) (p := (74, 1)) rfl rfl rfl rfl rfl (by decide)) rfl ?_
        refine Rg.opp (v := .map (some M)) rfl rfl rfl (ev_ldb (hM.get_box (j := 3) rfl) rfl rfl rfl rfl rfl) rfl ?_
        refine Rg.opp (v := .pointer (some ⟨p3, 1, none⟩)) rfl rfl rfl (ev_fld (o := 0) (p := (9, 1)) rfl rfl rfl rfl rfl (by decide)) rfl ?_
        refine Rg.opp (v := str (l[k].up)) rfl rfl rfl (ev_ldb (hM.get_box (j := 0) rfl) rfl rfl rfl rfl rfl) rfl ?_
        refine Rg.opp (v := nat (idx (unitsP l) l[k].up)) rfl rfl rfl (ev_lookN rfl rfl (hM.get_map (j := 4) rfl)) rfl ?_
        refine Rg.opp (v := .agg (arcC (⟨k, idx (unitsP l) l[k].lo, idx (unitsP l) l[k].up⟩ : Arc)).toArray) rfl rfl rfl rfl rfl ?_
        refine Rg.new (v := fun p => .pointer (some ⟨p, 0, none⟩)) (X := .row 3 [.int .i64 0, .int .i64 0, .int .i64 0] true true) (th := fun p => .box p 3 [.int .i64 0, .int .i64 0, .int .i64 0]) hM rfl rfl rfl rfl rfl rfl (fun _ => rfl) (fun p4 Hc hM _ => ?_)
        refine Rg.stob (j := 0) (cs' := arcC (⟨k, idx (unitsP l) l[k].lo, idx (unitsP l) l[k].up⟩ : Arc)) hM rfl rfl rfl rfl rfl rfl rfl rfl rfl rfl (Nat.le_of_ble_eq_true rfl) rfl (fun Hc (hM : Mem Hu Hc ((.box p4 3 (arcC (⟨k, idx (unitsP l) l[k].lo, idx (unitsP l) l[k].up⟩ : Arc))) :: (.box p3 3 (relC (l[k]))) :: (.sl 3 av (List.map arcC (arcsUp l k))) :: (.sl 1 ax0 (List.map encV nx)) :: (.box gp 4 [.slice ua (List.map encS (unitsP l)).length uc, .map (some M), av, ax0]) :: (.map M (mapE 0 (unitsP l))) :: (inner nx (unitsP l).length (arcsUp l k)))) => ?_)
        refine Rg.nil ?_
        refine Runs.seq ?_
        refine Runs.drawn (is := [1, 2, 3, 4, 5, 6, 7, 0, 8, 9, 10]) (by decide +kernel) ?_
        refine Rg.opp (v := .pointer (some ⟨gp, 0, none⟩)) rfl rfl rfl rfl rfl ?_
        refine Rg.opp (v := .pointer (some ⟨gp, 0, none⟩)) rfl rfl rfl rfl rfl ?_
        refine Rg.opp (v := .pointer (some ⟨gp, 2, none⟩)) rfl rfl rfl (ev_fld (o := 0) (p := (73, 2)) rfl rfl rfl rfl rfl (by decide)) rfl ?_
        refine Rg.opp (v := av) rfl rfl rfl (ev_ldb (hM.get_box (j := 4) rfl) rfl rfl rfl rfl rfl) rfl ?_
        refine Rg.opp (v := .agg (arcC (⟨k, idx (unitsP l) l[k].lo, idx (unitsP l) l[k].up⟩ : Arc)).toArray) rfl rfl rfl (ev_ldbA (hM.get_box (j := 0) rfl) rfl rfl rfl rfl) rfl ?_
        refine Rg.lit (f := arcC) (sz := 3) (xs := [(⟨k, idx (unitsP l) l[k].lo, idx (unitsP l) l[k].up⟩ : Arc)]) hM rfl rfl rfl rfl rfl (by simp) (by simp) (fun u5 Hc (hM : Mem Hu Hc ((.sl 3 u5 (List.map arcC ([(⟨k, idx (unitsP l) l[k].lo, idx (unitsP l) l[k].up⟩ : Arc)]))) :: (.box p4 3 (arcC (⟨k, idx (unitsP l) l[k].lo, idx (unitsP l) l[k].up⟩ : Arc))) :: (.box p3 3 (relC (l[k]))) :: (.sl 3 av (List.map arcC (arcsUp l k))) :: (.sl 1 ax0 (List.map encV nx)) :: (.box gp 4 [.slice ua (List.map encS (unitsP l)).length uc, .map (some M), av, ax0]) :: (.map M (mapE 0 (unitsP l))) :: (inner nx (unitsP l).length (arcsUp l k)))) _ => ?_)
        refine Rg.appM (f := arcC) (sz := 3) (j := 3) (v := av) (xs := arcsUp l k) (ys := [(⟨k, idx (unitsP l) l[k].lo, idx (unitsP l) l[k].up⟩ : Arc)]) hM rfl rfl rfl rfl rfl rfl rfl (hM.get_sl (j := 0) rfl) ⟨rfl, rfl, rfl, by decide⟩ rfl (by simp [oneCell]) (by show (_ + _) * 24 ≤ 2 ^ 40; have := arcsUp_len l k; simp only [List.length_cons, List.length_nil]; omega) (by simp) (fun av1 Hc (hM : Mem Hu Hc ((.sl 3 u5 (List.map arcC ([(⟨k, idx (unitsP l) l[k].lo, idx (unitsP l) l[k].up⟩ : Arc)]))) :: (.box p4 3 (arcC (⟨k, idx (unitsP l) l[k].lo, idx (unitsP l) l[k].up⟩ : Arc))) :: (.box p3 3 (relC (l[k]))) :: (.sl 3 av1 (List.map arcC ((arcsUp l k) ++ ([(⟨k, idx (unitsP l) l[k].lo, idx (unitsP l) l[k].up⟩ : Arc)])))) :: (.sl 1 ax0 (List.map encV nx)) :: (.box gp 4 [.slice ua (List.map encS (unitsP l)).length uc, .map (some M), av, ax0]) :: (.map M (mapE 0 (unitsP l))) :: (inner nx (unitsP l).length (arcsUp l k)))) hga => ?_)
        replace hM : Mem Hu Hc ((.box p4 3 (arcC (⟨k, idx (unitsP l) l[k].lo, idx (unitsP l) l[k].up⟩ : Arc))) :: (.box p3 3 (relC (l[k]))) :: (.sl 3 av1 (List.map arcC ((arcsUp l k) ++ ([(⟨k, idx (unitsP l) l[k].lo, idx (unitsP l) l[k].up⟩ : Arc)])))) :: (.sl 1 ax0 (List.map encV nx)) :: (.box gp 4 [.slice ua (List.map encS (unitsP l)).length uc, .map (some M), av, ax0]) :: (.map M (mapE 0 (unitsP l))) :: (inner nx (unitsP l).length (arcsUp l k))) := hM.erase 0
        refine Rg.opp (v := .pointer (some ⟨gp, 0, none⟩)) rfl rfl rfl rfl rfl ?_
        refine Rg.opp (v := .pointer (some ⟨gp, 0, none⟩)) rfl rfl rfl rfl rfl ?_
        refine Rg.opp (v := .pointer (some ⟨gp, 2, none⟩)) rfl rfl rfl (ev_fld (o := 0) (p := (73, 2)) rfl rfl rfl rfl rfl (by decide)) rfl ?_
        refine Rg.stob1 (j := 4) (cs' := [.slice ua (List.map encS (unitsP l)).length uc, .map (some M), av1, ax0]) hM rfl rfl rfl rfl rfl rfl rfl rfl rfl (hga.one) (Nat.le_of_ble_eq_true rfl) rfl (fun Hc (hM : Mem Hu Hc ((.box p4 3 (arcC (⟨k, idx (unitsP l) l[k].lo, idx (unitsP l) l[k].up⟩ : Arc))) :: (.box p3 3 (relC (l[k]))) :: (.sl 3 av1 (List.map arcC ((arcsUp l k) ++ ([(⟨k, idx (unitsP l) l[k].lo, idx (unitsP l) l[k].up⟩ : Arc)])))) :: (.sl 1 ax0 (List.map encV nx)) :: (.box gp 4 ([.slice ua (List.map encS (unitsP l)).length uc, .map (some M), av1, ax0])) :: (.map M (mapE 0 (unitsP l))) :: (inner nx (unitsP l).length (arcsUp l k)))) => ?_)
        refine Rg.nil ?_
        refine Runs.drawn (is := [6, 7, 8, 9, 10, 11, 12, 13, 14, 15, 16, 0, 1, 2, 3, 4, 5, 17, 18]) (by decide +kernel) ?_
        refine Rg.opp (v := .pointer (some ⟨gp, 0, none⟩)) rfl rfl rfl rfl rfl ?_
        refine Rg.opp (v := .pointer (some ⟨gp, 0, none⟩)) rfl rfl rfl rfl rfl ?_
        refine Rg.opp (v := .pointer (some ⟨gp, 3, none⟩)) rfl rfl rfl (ev_fld (o := 0) (p := (75, 3)) rfl rfl rfl rfl rfl (by decide)) rfl ?_
        refine Rg.opp (v := ax0) rfl rfl rfl (ev_ldb (hM.get_box (j := 4) rfl) rfl rfl rfl rfl rfl) rfl ?_
        refine Rg.opp (v := .pointer (some ⟨p4, 1, none⟩)) rfl rfl rfl (ev_fld (o := 0) (p := (3, 1)) rfl rfl rfl rfl rfl (by decide)) rfl ?_
        refine Rg.opp (v := nat (idx (unitsP l) l[k].lo)) rfl rfl rfl (ev_ldb (hM.get_box (j := 0) rfl) rfl rfl rfl rfl rfl) rfl ?_
        refine Rg.opp (v := ptrAt (sAddr ax0) ((idx (unitsP l) l[k].lo) * 1)) rfl rfl rfl (ev_idxM (k := idx (unitsP l) l[k].lo) (hM.get_sl (j := 3) rfl) rfl rfl (by omega) rfl rfl rfl (by decide)) rfl ?_
        refine Rg.opp (v := nx[idx (unitsP l) l[k].lo]) rfl rfl rfl (ev_ldM (k := (idx (unitsP l) l[k].lo)) (hM.get_sl (j := 3) rfl) rfl (by omega) rfl rfl rfl rfl) rfl ?_
        refine Rg.opp (v := .agg (arcC (⟨k, idx (unitsP l) l[k].lo, idx (unitsP l) l[k].up⟩ : Arc)).toArray) rfl rfl rfl (ev_ldbA (hM.get_box (j := 0) rfl) rfl rfl rfl rfl) rfl ?_
        refine Rg.lit (f := arcC) (sz := 3) (xs := [(⟨k, idx (unitsP l) l[k].lo, idx (unitsP l) l[k].up⟩ : Arc)]) hM rfl rfl rfl rfl rfl (by simp) (by simp) (fun u6 Hc (hM : Mem Hu Hc ((.sl 3 u6 (List.map arcC ([(⟨k, idx (unitsP l) l[k].lo, idx (unitsP l) l[k].up⟩ : Arc)]))) :: (.box p4 3 (arcC (⟨k, idx (unitsP l) l[k].lo, idx (unitsP l) l[k].up⟩ : Arc))) :: (.box p3 3 (relC (l[k]))) :: (.sl 3 av1 (List.map arcC ((arcsUp l k) ++ ([(⟨k, idx (unitsP l) l[k].lo, idx (unitsP l) l[k].up⟩ : Arc)])))) :: (.sl 1 ax0 (List.map encV nx)) :: (.box gp 4 ([.slice ua (List.map encS (unitsP l)).length uc, .map (some M), av1, ax0])) :: (.map M (mapE 0 (unitsP l))) :: (inner nx (unitsP l).length (arcsUp l k)))) _ => ?_)
        have hj : ((.sl 3 u6 (List.map arcC ([(⟨k, idx (unitsP l) l[k].lo, idx (unitsP l) l[k].up⟩ : Arc)]))) :: (.box p4 3 (arcC (⟨k, idx (unitsP l) l[k].lo, idx (unitsP l) l[k].up⟩ : Arc))) :: (.box p3 3 (relC (l[k]))) :: (.sl 3 av1 (List.map arcC ((arcsUp l k) ++ ([(⟨k, idx (unitsP l) l[k].lo, idx (unitsP l) l[k].up⟩ : Arc)])))) :: (.sl 1 ax0 (List.map encV nx)) :: (.box gp 4 ([.slice ua (List.map encS (unitsP l)).length uc, .map (some M), av1, ax0])) :: (.map M (mapE 0 (unitsP l))) :: (inner nx (unitsP l).length (arcsUp l k)))[idx (unitsP l) l[k].lo + 7]? = some (.sl 3 nx[idx (unitsP l) l[k].lo] ((nextOf (arcsUp l k) (idx (unitsP l) l[k].lo)).map arcC)) := inner_get hlo hnl
        refine Rg.appM (f := arcC) (sz := 3) (j := idx (unitsP l) l[k].lo + 7) (v := nx[idx (unitsP l) l[k].lo]) (xs := nextOf (arcsUp l k) (idx (unitsP l) l[k].lo)) (ys := [(⟨k, idx (unitsP l) l[k].lo, idx (unitsP l) l[k].up⟩ : Arc)]) hM rfl rfl rfl rfl hj rfl rfl (hM.get_sl (j := 0) rfl) ⟨rfl, rfl, rfl, by decide⟩ rfl (by simp [oneCell]) (by show (_ + _) * 24 ≤ 2 ^ 40; have := next_len (arcsUp l k) (idx (unitsP l) l[k].lo); have := arcsUp_len l k; simp only [List.length_cons, List.length_nil]; omega) (by simp) (fun u Hc hM hgu => ?_)
        replace hM : Mem Hu Hc ((.sl 3 u6 (List.map arcC ([(⟨k, idx (unitsP l) l[k].lo, idx (unitsP l) l[k].up⟩ : Arc)]))) :: (.box p4 3 (arcC (⟨k, idx (unitsP l) l[k].lo, idx (unitsP l) l[k].up⟩ : Arc))) :: (.box p3 3 (relC (l[k]))) :: (.sl 3 av1 (List.map arcC ((arcsUp l k) ++ ([(⟨k, idx (unitsP l) l[k].lo, idx (unitsP l) l[k].up⟩ : Arc)])))) :: (.sl 1 ax0 (List.map encV nx)) :: (.box gp 4 ([.slice ua (List.map encS (unitsP l)).length uc, .map (some M), av1, ax0])) :: (.map M (mapE 0 (unitsP l))) :: (inner (nx.set (idx (unitsP l) l[k].lo) u) (unitsP l).length (arcsUp l k ++ [(⟨k, idx (unitsP l) l[k].lo, idx (unitsP l) l[k].up⟩ : Arc)]))) := by rw [← inner_set (a := (⟨k, idx (unitsP l) l[k].lo, idx (unitsP l) l[k].up⟩ : Arc)) hlo hnl]; exact hM
        replace hM : Mem Hu Hc ((.box p4 3 (arcC (⟨k, idx (unitsP l) l[k].lo, idx (unitsP l) l[k].up⟩ : Arc))) :: (.box p3 3 (relC (l[k]))) :: (.sl 3 av1 (List.map arcC ((arcsUp l k) ++ ([(⟨k, idx (unitsP l) l[k].lo, idx (unitsP l) l[k].up⟩ : Arc)])))) :: (.sl 1 ax0 (List.map encV nx)) :: (.box gp 4 ([.slice ua (List.map encS (unitsP l)).length uc, .map (some M), av1, ax0])) :: (.map M (mapE 0 (unitsP l))) :: (inner (nx.set (idx (unitsP l) l[k].lo) u) (unitsP l).length (arcsUp l k ++ [(⟨k, idx (unitsP l) l[k].lo, idx (unitsP l) l[k].up⟩ : Arc)]))) := hM.erase 0
        refine Rg.opp (v := .pointer (some ⟨gp, 0, none⟩)) rfl rfl rfl rfl rfl ?_
        refine Rg.opp (v := .pointer (some ⟨gp, 0, none⟩)) rfl rfl rfl rfl rfl ?_
        refine Rg.opp (v := .pointer (some ⟨gp, 3, none⟩)) rfl rfl rfl (ev_fld (o := 0) (p := (75, 3)) rfl rfl rfl rfl rfl (by decide)) rfl ?_
        refine Rg.opp (v := ax0) rfl rfl rfl (ev_ldb (hM.get_box (j := 4) rfl) rfl rfl rfl rfl rfl) rfl ?_
        refine Rg.opp (v := .pointer (some ⟨p4, 1, none⟩)) rfl rfl rfl (ev_fld (o := 0) (p := (3, 1)) rfl rfl rfl rfl rfl (by decide)) rfl ?_
        refine Rg.opp (v := nat (idx (unitsP l) l[k].lo)) rfl rfl rfl (ev_ldb (hM.get_box (j := 0) rfl) rfl rfl rfl rfl rfl) rfl ?_
        refine Rg.opp (v := ptrAt (sAddr ax0) ((idx (unitsP l) l[k].lo) * 1)) rfl rfl rfl (ev_idxM (k := idx (unitsP l) l[k].lo) (hM.get_sl (j := 3) rfl) rfl rfl (by omega) rfl rfl rfl (by decide)) rfl ?_
        refine Rg.stoM (f := encV) (j := 3) (k := (idx (unitsP l) l[k].lo)) u hM rfl rfl rfl rfl rfl rfl rfl (by omega) rfl hgu.one.1 rfl rfl (by simp [hgu.one.2.1]) (fun Hc (hM : Mem Hu Hc ((.box p4 3 (arcC (⟨k, idx (unitsP l) l[k].lo, idx (unitsP l) l[k].up⟩ : Arc))) :: (.box p3 3 (relC (l[k]))) :: (.sl 3 av1 (List.map arcC ((arcsUp l k) ++ ([(⟨k, idx (unitsP l) l[k].lo, idx (unitsP l) l[k].up⟩ : Arc)])))) :: (.sl 1 ax0 (List.map encV ((nx).set ((idx (unitsP l) l[k].lo)) u))) :: (.box gp 4 ([.slice ua (List.map encS (unitsP l)).length uc, .map (some M), av1, ax0])) :: (.map M (mapE 0 (unitsP l))) :: (inner (nx.set (idx (unitsP l) l[k].lo) u) (unitsP l).length (arcsUp l k ++ [(⟨k, idx (unitsP l) l[k].lo, idx (unitsP l) l[k].up⟩ : Arc)])))) => ?_)
        refine Rg.nil ?_
        refine Runs.region ?_
        refine Rg.opp (v := nat (k + 1)) rfl rfl rfl (ev_addN (b := 1) rfl rfl (by omega)) rfl ?_
        refine Rg.opp (v := nat (k + 1)) rfl rfl rfl rfl rfl ?_
        refine Rg.nil ?_
        refine ⟨l.length - (k + 1), by omega, k + 1, av1, nx.set (idx (unitsP l) l[k].lo) u, rfl, by rw [arcsUp_succ hlt, if_neg hkd]; exact hM.drop 2, hlt, by simpa using hnl, Is.of ⟨rfl, rfl, rfl, rfl, rfl, rfl, rfl, rfl, trivial⟩⟩
    · skip
      refine Rg.opp (v := .bool false) rfl rfl rfl (ev_ltF rfl rfl (hlt)) rfl ?_
      refine Rg.nil ?_
      refine Runs.seq ?_
      refine Runs.cond false rfl (fun h => by cases h) (fun _ => ?_)
      refine Runs.exit ?_
      refine Runs.seq ?_
      refine Runs.region ?_
      refine Rg.opp (v := .pointer (some ⟨gp, 0, none⟩)) rfl rfl rfl rfl rfl ?_
      refine Rg.opp (v := .pointer (some ⟨gp, 0, none⟩)) rfl rfl rfl rfl rfl ?_
      refine Rg.nil ?_
      refine Runs.ret ?_
      refine ⟨.pointer (some ⟨gp, 0, none⟩), rfl, ?_⟩
      have hkl : k = l.length := by omega
      subst hkl
      refine ⟨heu.trans hM.ext, gp, _, _, _, M, nx, true, rfl, ⟨hM.get_box (j := 2) rfl, hus.sees hM.ext.sees, hM.get_sl (j := 0) rfl, hM.get_sl (j := 1) rfl, hnl, fun i hi => ?_⟩, hM.get_map (j := 3) rfl⟩
      have hi' : i < (unitsP l).length := by omega
      exact hM.get_sl (j := i + 4) (show (inner nx (unitsP l).length (arcsUp l l.length))[i]? = _ from inner_get hi' hnl)

end Go.Proofs.Ytdhbclplondmjaa.C

end

section
/- Described relations: what holds of them; the law on Older, plain. -/
set_option linter.unusedVariables false
set_option linter.unusedSimpArgs false
namespace Go.Proofs.Ytdhbclplondmjaa.C
open Go.RowKit Go.Sort

theorem nodup_sub {α : Type} [DecidableEq α] : ∀ (ys zs : List α), ys.Nodup → (∀ y ∈ ys, y ∈ zs) → ys.length ≤ zs.length
  | [], _, _, _ => Nat.zero_le _
  | y :: ys, zs, hd, hs => by
    rw [List.nodup_cons] at hd
    have hy := hs y List.mem_cons_self
    have := nodup_sub ys (zs.erase y) hd.2 fun z hz => by
      have hne : z ≠ y := fun e => hd.1 (e ▸ hz)
      exact (List.mem_erase_of_ne hne).2 (hs z (List.mem_cons_of_mem _ hz))
    rw [List.length_erase_of_mem hy] at this
    have := List.length_pos_of_mem hy
    simp only [List.length_cons]; omega

/-- Relations as they are described. -/
structure Seenly (l : List Rel) : Prop where
  len : l.length ≤ 8
  good : ∀ r ∈ l, Good r
  six : ∀ r ∈ l, ∃ i j, i < 6 ∧ j < 6 ∧ r.up = nm i ∧ r.lo = nm j
  ne : ∀ r ∈ l, r.up ≠ r.lo

theorem seenly (xs : List Seen) (h : xs.length ≤ 8) : Seenly (xs.map mk) := by
  refine ⟨by simpa using h, fun r hr => ?_, fun r hr => ?_, fun r hr => ?_⟩
  · obtain ⟨s, _, rfl⟩ := List.mem_map.1 hr
    exact fun K => check_good s K
  · obtain ⟨s, _, rfl⟩ := List.mem_map.1 hr
    exact ⟨mkA s, mkB s, (mk_le s).1, (mk_le s).2, rfl, rfl⟩
  · obtain ⟨s, _, rfl⟩ := List.mem_map.1 hr
    exact mk_ne s

theorem Seenly.units {l : List Rel} (h : Seenly l) : (unitsP l).length ≤ 6 := by
  have := nodup_sub (unitsP l) ((List.range 6).map nm) (strict_nodup (unitsP_strict l)) fun y hy => by
    obtain ⟨r, hr, hy⟩ := List.mem_flatMap.1 (mem_unitsP.1 hy)
    obtain ⟨i, j, hi, hj, e1, e2⟩ := h.six r hr
    rcases List.mem_cons.1 hy with e | e
    · exact List.mem_map.2 ⟨i, List.mem_range.2 hi, by rw [e, e1]⟩
    · exact List.mem_map.2 ⟨j, List.mem_range.2 hj, by rw [List.mem_singleton.1 e, e2]⟩
  simpa using this

theorem fits_T {H : Heap} {v : Value} {xs : List Seen} (h : Sl H 3 v (seens xs)) (hx : xs.length ≤ 8) : big tab 10 [v] H = some (.bool true, H) := by
  obtain ⟨a, c, rfl, _⟩ := h
  have := fits_runs (H := H) a (seens xs).length c
  rwa [decide_eq_true (by rw [seens_len]; omega)] at this
theorem fits_F {H : Heap} {v : Value} {xs : List Seen} (h : Sl H 3 v (seens xs)) (hx : ¬ xs.length ≤ 8) : big tab 10 [v] H = some (.bool false, H) := by
  obtain ⟨a, c, rfl, _⟩ := h
  have := fits_runs (H := H) a (seens xs).length c
  rwa [decide_eq_false (by rw [seens_len]; omega)] at this
theorem index_not {H : Heap} {v : Value} {xs : List Nm} {x : Nm} (h : Sl H 1 v (xs.map encS)) (hx : x ∉ xs) (hl : xs.length < 2 ^ 40) : big tab 22 [v, str x] H = some (.int .i64 (-1), H) := by
  have h1 := index_runs x (xs := xs) h hl
  have h2 : indexOf xs x = -1 := indexOf_none fun i hi e => hx (by rw [← e]; exact List.getElem_mem hi)
  rw [h2] at h1
  exact h1

/-- The law's relations. -/
theorem makeS_runs {H : Heap} {v : Value} {xs : List Seen} (h : Sl H 3 v (seens xs)) (hsm : ∀ s ∈ xs, s.k < 256 ∧ s.u < 256 ∧ s.l < 256) (hx : xs.length ≤ 8) :
    ∃ r H1, big tab 11 [v] H = some (r, H1) ∧ Ext H H1 ∧ Sl H1 3 r (List.map relC (xs.map mk)) := by
  obtain ⟨r, H1, h1, he, p, ha⟩ := make_runs h hsm (by omega)
  rw [List.take_of_length_le (by omega)] at ha
  exact ⟨r, H1, h1, he, ha.sl (by rw [rels_len, List.length_map]; unfold unk; omega)⟩
theorem unitsS_runs {H : Heap} {v : Value} {l : List Rel} (h : Sl H 3 v (rels l)) (hl : l.length < 2 ^ 16) :
    ∃ r H1, big tab 20 [v] H = some (r, H1) ∧ Ext H H1 ∧ Sl H1 1 r (List.map encS (unitsP l)) := by
  obtain ⟨r, H1, h1, he, p, ha⟩ := lawUnits_runs h (by omega)
  rw [← units_eq] at ha
  refine ⟨r, H1, h1, he, ha.sl ?_⟩
  have : (unitsL l).length ≤ 0 + (allNames l).length := foldl_len _ _
  rw [allNames_len] at this
  rw [strs_len, units_eq]
  unfold unk; omega

theorem rch_far {arcs : List Arc} {n a b x : Nat} (wf : WF n arcs) (hn : n ≤ 8) (h : Far (prs arcs) 8 a b x) : 0 < x ↔ Rch arcs a b := by
  rw [h.pos]
  constructor
  · rintro ⟨k, h1, h2, h3⟩; exact ⟨k, h1, h3⟩
  · rintro ⟨k, h1, h2⟩
    obtain ⟨m, g1, g2, g3⟩ := W.short (N := n) (fun p hp => by obtain ⟨c, hc, rfl⟩ := List.mem_map.1 hp; exact wf.up c hc) k h1 h2
    exact ⟨m, g1, by omega, g3⟩

end Go.Proofs.Ytdhbclplondmjaa.C

end

section
/- Cycles and what is implied, plain. -/
set_option linter.unusedVariables false
set_option linter.unusedSimpArgs false
namespace Go.Proofs.Ytdhbclplondmjaa.C
open Go.RowKit Go.Sort

def Cyc (arcs : List Arc) : Prop := ∃ x, Rch arcs x x
open Classical in
noncomputable def cycB (arcs : List Arc) : Bool := decide (Cyc arcs)
theorem cycB_iff {arcs : List Arc} : cycB arcs = true ↔ Cyc arcs := by unfold cycB; simp
theorem cycB_not {arcs : List Arc} : cycB arcs = false ↔ ¬ Cyc arcs := by unfold cycB; simp

theorem Rch.trans {arcs : List Arc} {a b c : Nat} (h : Rch arcs a b) (k : Rch arcs b c) : Rch arcs a c := by
  obtain ⟨m, hm, h⟩ := h
  obtain ⟨n, hn, k⟩ := k
  exact ⟨m + n, by omega, h.trans k⟩
theorem Rch.arc {arcs : List Arc} {a : Arc} (h : a ∈ arcs) : Rch arcs a.lo a.up := ⟨1, Nat.le_refl _, a.lo, rfl, List.mem_map.2 ⟨a, h, rfl⟩⟩

/-- Along arcs that keep a numbering, it grows. -/
theorem W.grows {arcs : List (Nat × Nat)} {f : Nat → Nat} (hf : ∀ p ∈ arcs, f p.1 < f p.2) : ∀ {n a b : Nat}, W arcs n a b → f a + n ≤ f b
  | 0, a, b, h => by cases h; omega
  | n + 1, a, b, ⟨c, h, hm⟩ => by
    have h1 := W.grows hf h
    have h2 := hf _ hm
    simp only at h2
    omega

/-- A walk longer than there are places comes back. -/
theorem W.back {arcs : List (Nat × Nat)} {N n a b : Nat} (hN : ∀ p ∈ arcs, p.2 < N) (h : W arcs n a b) (hn : N < n) : ∃ c m, 1 ≤ m ∧ W arcs m c c := by
  obtain ⟨v, h1, h2, h3⟩ := h.places
  have hex : ∃ i j, i < j ∧ j < n ∧ v (i + 1) = v (j + 1) := by
    refine Classical.byContradiction fun hno => ?_
    have hd : ((List.range n).map fun i => v (i + 1)).Nodup := map_nodup fun i j hi hj e => hno ⟨i, j, hi, hj, e⟩
    have := nodup_le N _ hd fun x hx => by
      obtain ⟨i, hi, rfl⟩ := List.mem_map.1 hx
      exact hN _ (h3 i (List.mem_range.1 hi))
    simp at this
    omega
  obtain ⟨i, j, hij, hj, e⟩ := hex
  have w : W arcs (j - i) (v (i + 1)) (v (i + 1 + (j - i))) := W.of_places fun k _ hk => h3 k (by omega)
  rw [show i + 1 + (j - i) = j + 1 by omega, ← e] at w
  exact ⟨_, _, by omega, w⟩

theorem kahn_acyc {arcs : List Arc} {n : Nat} {o : List Nat} (wf : WF n arcs) (h : Kahn arcs n o []) (hl : o.length = n) : ¬ Cyc arcs := by
  rintro ⟨x, m, hm, hw⟩
  have hnd : o.Nodup := by simpa using h.nd
  have hall : ∀ y, y < n → y ∈ o := by
    intro y hy
    refine Classical.byContradiction fun hno => ?_
    have := nodup_le n (y :: o) (List.nodup_cons.2 ⟨hno, hnd⟩) fun z hz => by
      rcases List.mem_cons.1 hz with e | e
      · rw [e]; exact hy
      · exact h.lt z (by simpa using e)
    simp only [List.length_cons] at this; omega
  have := W.grows (f := fun x => o.idxOf x) (arcs := prs arcs) (fun p hp => by
    obtain ⟨a, ha, rfl⟩ := List.mem_map.1 hp
    have hu := hall _ (wf.up a ha)
    have hk : o.idxOf a.up < o.length := List.idxOf_lt_length_iff.2 hu
    have ht := h.topo _ hk a ha (by rw [List.getElem_idxOf])
    obtain ⟨i, hi, e⟩ := List.mem_iff_getElem.1 ht
    rw [List.length_take] at hi
    rw [List.getElem_take] at e
    have hi2 : i < o.length := by omega
    show o.idxOf a.lo < o.idxOf a.up
    have : o.idxOf a.lo = i := by rw [← e]; exact hnd.idxOf_getElem i hi2
    omega) hw
  omega

theorem kahn_cyc {arcs : List Arc} {n : Nat} {o : List Nat} (wf : WF n arcs) (h : Kahn arcs n o []) (hl : ¬ o.length = n) : Cyc arcs := by
  have hnd : o.Nodup := by simpa using h.nd
  have hlt : o.length < n := by
    have := nodup_le n o hnd fun z hz => h.lt z (by simpa using hz)
    omega
  have hex : ∃ x, x < n ∧ x ∉ o := by
    refine Classical.byContradiction fun hno => ?_
    have := nodup_sub (List.range n) o List.nodup_range fun y hy => by
      refine Classical.byContradiction fun hy2 => hno ⟨y, List.mem_range.1 hy, hy2⟩
    simp at this; omega
  have step : ∀ x, x < n → x ∉ o → ∃ a ∈ arcs, a.up = x ∧ a.lo ∉ o ∧ a.lo < n := by
    intro x hx hno
    have h1 : ¬ cnt (remO arcs o) x = 0 := fun h0 => hno (by simpa using (h.mem x hx).2 h0)
    rw [cnt_zero] at h1
    refine Classical.byContradiction fun hne => h1 fun a ha e => hne ⟨a, (List.mem_filter.1 ha).1, e, by simpa using (List.mem_filter.1 ha).2, wf.lo a (List.mem_filter.1 ha).1⟩
  obtain ⟨x, hx, hxo⟩ := hex
  have walk : ∀ m, ∃ y, y < n ∧ y ∉ o ∧ W (prs arcs) m y x := by
    intro m
    induction m with
    | zero => exact ⟨x, hx, hxo, rfl⟩
    | succ m ih =>
      obtain ⟨y, hy, hyo, hw⟩ := ih
      obtain ⟨a, ha, e, hlo, hln⟩ := step y hy hyo
      refine ⟨a.lo, hln, hlo, ?_⟩
      have h1 : W (prs arcs) 1 a.lo y := ⟨a.lo, rfl, List.mem_map.2 ⟨a, ha, by rw [e]⟩⟩
      have := h1.trans hw
      rwa [Nat.add_comm] at this
  obtain ⟨y, _, _, hw⟩ := walk (n + 1)
  obtain ⟨c, m, hm, hw⟩ := W.back (N := n) (fun p hp => by obtain ⟨a, ha, rfl⟩ := List.mem_map.1 hp; exact wf.up a ha) hw (by omega)
  exact ⟨c, m, hm, hw⟩

theorem kahn_ok {arcs : List Arc} {n : Nat} {o : List Nat} (wf : WF n arcs) (h : Kahn arcs n o []) : (decide (o.length = n)) = !cycB arcs := by
  by_cases q : o.length = n
  · rw [decide_eq_true q, cycB_not.2 (kahn_acyc wf h q)]; rfl
  · rw [decide_eq_false q, cycB_iff.2 (kahn_cyc wf h q)]; rfl

/-- Is an arc implied by the others? -/
noncomputable def impB (arcs : List Arc) (a : Arc) (b : Arc) : Bool := if b.up = a.up then decide (b.i < a.i) else rchB arcs b.up a.up
noncomputable def impliedB (arcs : List Arc) (a : Arc) : Bool := (nextOf arcs a.lo).any (impB arcs a)

theorem any_at {α : Type} {p : α → Bool} {xs : List α} {k : Nat} (h : k < xs.length) (hp : p xs[k] = true) : xs.any p = true := List.any_eq_true.2 ⟨_, List.getElem_mem h, hp⟩
theorem any_no {α : Type} {p : α → Bool} {xs : List α} (h : ∀ k (hk : k < xs.length), p xs[k] = false) : xs.any p = false := by
  rw [List.any_eq_false]
  intro x hx
  obtain ⟨k, hk, rfl⟩ := List.mem_iff_getElem.1 hx
  rw [h k hk]; decide
theorem below_succ {α : Type} {p : α → Bool} {xs : List α} {j : Nat} (h : ∀ k (hk : k < xs.length), k < j → p xs[k] = false) (hj : ∀ hk : j < xs.length, p xs[j] = false) : ∀ k (hk : k < xs.length), k < j + 1 → p xs[k] = false := by
  intro k hk hkj
  rcases Nat.lt_or_ge k j with q | q
  · exact h k hk q
  · have : k = j := by omega
    subst this; exact hj hk

noncomputable def redL (arcs : List Arc) (j : Nat) : List Nat := ((arcs.take j).filter fun a => !impliedB arcs a).map (·.i)
theorem redL_succ {arcs : List Arc} {j : Nat} (h : j < arcs.length) : redL arcs (j + 1) = if impliedB arcs arcs[j] = true then redL arcs j else redL arcs j ++ [arcs[j].i] := by
  unfold redL
  rw [← List.take_append_getElem h, List.filter_append, List.map_append]
  by_cases e : impliedB arcs arcs[j] = true
  · simp [e]
  · simp [e]
theorem redL_len (arcs : List Arc) (j : Nat) : (redL arcs j).length ≤ arcs.length := by
  unfold redL
  rw [List.length_map]
  refine Nat.le_trans (List.length_filter_le _ _) ?_
  rw [List.length_take]; omega

/-- The pairs of the closure, up to some place. -/
noncomputable def closeIn (arcs : List Arc) (i k : Nat) : List (Nat × Nat) := ((List.range k).filter (rchB arcs i)).map fun k => (i, k)
noncomputable def closeL (arcs : List Arc) (n i : Nat) : List (Nat × Nat) := (List.range i).flatMap fun i => closeIn arcs i n
theorem closeIn_succ (arcs : List Arc) (i k : Nat) : closeIn arcs i (k + 1) = if rchB arcs i k = true then closeIn arcs i k ++ [(i, k)] else closeIn arcs i k := by
  unfold closeIn
  rw [List.range_succ, List.filter_append, List.map_append]
  by_cases e : rchB arcs i k = true <;> simp [e]
theorem closeL_succ (arcs : List Arc) (n i : Nat) : closeL arcs n (i + 1) = closeL arcs n i ++ closeIn arcs i n := by
  unfold closeL
  rw [List.range_succ, List.flatMap_append]
  simp
theorem closeIn_len (arcs : List Arc) (i k : Nat) : (closeIn arcs i k).length ≤ k := by
  unfold closeIn
  rw [List.length_map]
  exact Nat.le_trans (List.length_filter_le _ _) (by simp)
theorem closeL_len (arcs : List Arc) (n : Nat) : ∀ i, (closeL arcs n i).length ≤ i * n
  | 0 => by simp [closeL]
  | i + 1 => by
    rw [closeL_succ, List.length_append, Nat.succ_mul]
    have := closeL_len arcs n i
    have := closeIn_len arcs i n
    omega

abbrev pairC (names : List Nm) (p : Nat × Nat) : List Value := [str (names.getD p.1 []), str (names.getD p.2 [])]
theorem encS_getD {names : List Nm} {k : Nat} (h : k < names.length) : encS names[k] = [str (names.getD k [])] := by
  simp [List.getD_eq_getElem?_getD, h]

/-- A call in a drawn region that makes one slice. -/
theorem quiet_sl {f : FuncId} {args : List Value} {H : Heap} {T : Tab} {sz : Nat} {es : Value → List (List Value)} (h : ∃ r H1, big T f args (H.map Blk.freeze) = some (r, H1) ∧ Mem (H.map Blk.freeze) H1 [.sl sz r (es r)]) :
    ∃ r K, quiet (big T) f args H = some (r, K) ∧ Ext H K ∧ Sl K sz r (es r) := by
  obtain ⟨r, H1, h1, hm⟩ := h
  obtain ⟨K, h2, h3, h4, h5⟩ := quiet_some h1 hm.ext
  exact ⟨r, K, h2, h3, (hm.get_sl (j := 0) rfl).sees h5⟩

end Go.Proofs.Ytdhbclplondmjaa.C

end

section
/- The law on Closure and Reduction, plain. -/
set_option linter.unusedVariables false
set_option linter.unusedSimpArgs false
namespace Go.Proofs.Ytdhbclplondmjaa.C
open Go.RowKit Go.Sort

theorem W.head {arcs : List (Nat × Nat)} {n c b : Nat} (h : W arcs (n + 1) c b) : ∃ a, (c, a) ∈ arcs ∧ W arcs n a b := by
  obtain ⟨v, h1, h2, h3⟩ := h.places
  refine ⟨v 1, by have := h3 0 (by omega); rwa [h1] at this, ?_⟩
  have w : W arcs n (v 1) (v (1 + n)) := W.of_places fun k _ hk => h3 k (by omega)
  rwa [Nat.add_comm 1 n, h2] at w

/-! ### The closure -/

theorem closeIn_pre (arcs : List Arc) (i : Nat) {k : Nat} : ∀ {n : Nat}, k ≤ n → ∃ r, closeIn arcs i n = closeIn arcs i k ++ r
  | 0, h => ⟨[], by have : k = 0 := by omega
                    subst this; simp⟩
  | n + 1, h => by
    rcases Nat.eq_or_lt_of_le h with e | e
    · exact ⟨[], by rw [e]; simp⟩
    · obtain ⟨r, hr⟩ := closeIn_pre arcs i (k := k) (n := n) (by omega)
      rw [closeIn_succ]
      split
      · exact ⟨r ++ [(i, n)], by rw [hr, List.append_assoc]⟩
      · exact ⟨r, hr⟩
theorem closeL_pre (arcs : List Arc) (n : Nat) {i : Nat} : ∀ {m : Nat}, i ≤ m → ∃ r, closeL arcs n m = closeL arcs n i ++ r
  | 0, h => ⟨[], by have : i = 0 := by omega
                    subst this; simp⟩
  | m + 1, h => by
    rcases Nat.eq_or_lt_of_le h with e | e
    · exact ⟨[], by rw [e]; simp⟩
    · obtain ⟨r, hr⟩ := closeL_pre arcs n (i := i) (m := m) (by omega)
      exact ⟨r ++ closeIn arcs m n, by rw [closeL_succ, hr, List.append_assoc]⟩

theorem close_at {arcs : List Arc} {n i k : Nat} (hi : i < n) (hk : k < n) (hr : rchB arcs i k = true) :
    ∃ h : (closeL arcs n i).length + (closeIn arcs i k).length < (closeL arcs n n).length, (closeL arcs n n)[(closeL arcs n i).length + (closeIn arcs i k).length] = (i, k) := by
  obtain ⟨r1, h1⟩ := closeL_pre arcs n (i := i + 1) (m := n) (by omega)
  obtain ⟨r2, h2⟩ := closeIn_pre arcs i (k := k + 1) (n := n) (by omega)
  rw [closeL_succ, h2, closeIn_succ, if_pos hr] at h1
  have e : closeL arcs n n = (closeL arcs n i ++ closeIn arcs i k) ++ ((i, k) :: (r2 ++ r1)) := by rw [h1]; simp
  refine ⟨by rw [e]; simp, ?_⟩
  have : (closeL arcs n n)[(closeL arcs n i).length + (closeIn arcs i k).length]? = some (i, k) := by
    rw [e, List.getElem?_append_right (by simp)]
    simp
  exact (List.getElem?_eq_some_iff.1 this).2

/-! ### The reduction -/

/-- The law's word on a relation: by the first k ones. -/
def lawImp (l : List Rel) (u : List Nm) (mm : Nat → Nat → Nat) (r : Rel) (k : Nat) : Bool :=
  (decide (r.kind = 4) || decide (1 < mm (idx u r.lo) (idx u r.up))) || (l.take k).any fun q => decide (q.kind ≠ 4) && (decide (q.up = r.up) && decide (q.lo = r.lo))

theorem lawImp_succ {l : List Rel} {u : List Nm} {mm : Nat → Nat → Nat} {r : Rel} {k : Nat} (h : k < l.length) : lawImp l u mm r (k + 1) = (lawImp l u mm r k || (decide (l[k].kind ≠ 4) && (decide (l[k].up = r.up) && decide (l[k].lo = r.lo)))) := by
  unfold lawImp
  rw [← List.take_append_getElem h, List.any_append]
  simp [Bool.or_assoc]

def wantL (l : List Rel) (u : List Nm) (mm : Nat → Nat → Nat) : Nat → List Nat
  | 0 => []
  | i + 1 => wantL l u mm i ++ (match l[i]? with | some r => if lawImp l u mm r i = true then [] else [i] | none => [])

theorem wantL_succ {l : List Rel} {u : List Nm} {mm : Nat → Nat → Nat} {i : Nat} (h : i < l.length) : wantL l u mm (i + 1) = if lawImp l u mm l[i] i = true then wantL l u mm i else wantL l u mm i ++ [i] := by
  show wantL l u mm i ++ (match l[i]? with | some r => if lawImp l u mm r i = true then [] else [i] | none => []) = _
  rw [List.getElem?_eq_getElem h]
  by_cases e : lawImp l u mm l[i] i = true <;> simp [e]
theorem wantL_len (l : List Rel) (u : List Nm) (mm : Nat → Nat → Nat) : ∀ i, (wantL l u mm i).length ≤ i
  | 0 => Nat.le_refl _
  | i + 1 => by
    have := wantL_len l u mm i
    show (wantL l u mm i ++ (match l[i]? with | some r => if lawImp l u mm r i = true then [] else [i] | none => [])).length ≤ i + 1
    rw [List.length_append]
    cases l[i]? with
    | none => simp; omega
    | some r =>
      simp only
      split <;> simp <;> omega

theorem arcs_mem {l : List Rel} {k : Nat} {b : Arc} : b ∈ arcsUp l k ↔ ∃ j, ∃ h : j < l.length, j < k ∧ l[j].kind ≠ 4 ∧ b = ⟨j, idx (unitsP l) l[j].lo, idx (unitsP l) l[j].up⟩ := by
  unfold arcsUp
  rw [List.mem_map]
  constructor
  · rintro ⟨p, hp, rfl⟩
    obtain ⟨h1, h2⟩ := List.mem_filter.1 hp
    obtain ⟨x, j⟩ := p
    have h3 := List.mem_zipIdx_iff_getElem?.1 h1
    simp only at h3
    rw [List.getElem?_take] at h3
    split at h3
    · obtain ⟨h4, h5⟩ := List.getElem?_eq_some_iff.1 h3
      subst h5
      exact ⟨j, h4, by assumption, by simpa using h2, rfl⟩
    · simp at h3
  · rintro ⟨j, h, hj, hk, rfl⟩
    refine ⟨(l[j], j), List.mem_filter.2 ⟨List.mem_zipIdx_iff_getElem?.2 ?_, by simpa using hk⟩, rfl⟩
    simp only
    rw [List.getElem?_take, if_pos hj, List.getElem?_eq_getElem h]

theorem far_ge {arcs : List Arc} {n a b x m : Nat} (wf : WF n arcs) (hn : n ≤ 8) (hc : ¬ Cyc arcs) (h : Far (prs arcs) 8 a b x) (hw : W (prs arcs) m a b) : m ≤ x := by
  have hm : m ≤ n := by
    rcases Nat.lt_or_ge n m with q | q
    · obtain ⟨c, k, hk, hw⟩ := W.back (N := n) (fun p hp => by obtain ⟨a, ha, rfl⟩ := List.mem_map.1 hp; exact wf.up a ha) hw q
      exact absurd ⟨c, k, hk, hw⟩ hc
    · exact q
  rcases h with ⟨h1, h2⟩ | ⟨_, _, _, h4⟩
  · rcases Nat.eq_zero_or_pos m with q | q
    · omega
    · exact absurd hw (h2 m q (by omega))
  · exact h4 m (by omega) hw

theorem implied_law {l : List Rel} {mm : Nat → Nat → Nat} (hn : (unitsP l).length ≤ 8) (hc : ¬ Cyc (arcsOf l)) (hF : ∀ c b, Far (prs (arcsOf l)) 8 c b (mm c b)) {i : Nat} (hi : i < l.length) (hk : l[i].kind ≠ 4) :
    impliedB (arcsOf l) ⟨i, idx (unitsP l) l[i].lo, idx (unitsP l) l[i].up⟩ = lawImp l (unitsP l) mm l[i] i := by
  have hu : ∀ j (h : j < l.length), l[j].up ∈ unitsP l := fun j h => mem_unitsP.2 (mem_names_up (List.getElem_mem h))
  have hl : ∀ j (h : j < l.length), l[j].lo ∈ unitsP l := fun j h => mem_unitsP.2 (mem_names_lo (List.getElem_mem h))
  rw [Bool.eq_iff_iff]
  constructor
  · intro h
    obtain ⟨b, hb, hi2⟩ := List.any_eq_true.1 h
    obtain ⟨hb1, hb2⟩ := next_mem.1 hb
    simp only at hb2
    unfold impB at hi2
    unfold lawImp
    rw [Bool.or_eq_true]
    split at hi2
    · rename_i e
      simp only at e
      right
      obtain ⟨j, hj, hjl, hjk, rfl⟩ := arcs_mem.1 hb1
      simp only [decide_eq_true_eq] at hi2
      simp only at e hb2
      refine List.any_eq_true.2 ⟨l[j], ?_, ?_⟩
      · exact List.mem_iff_getElem.2 ⟨j, by rw [List.length_take]; omega, by rw [List.getElem_take]⟩
      · simp [hjk, idx_inj (hu j hj) (hu i hi) e, idx_inj (hl j hj) (hl i hi) hb2]
    · left
      rw [Bool.or_eq_true]
      right
      have hi3 : rchB (arcsOf l) b.up (idx (unitsP l) l[i].up) = true := hi2
      obtain ⟨m, hm, hw⟩ := rchB_iff.1 hi3
      have h1 : W (prs (arcsOf l)) 1 (idx (unitsP l) l[i].lo) b.up := ⟨_, rfl, List.mem_map.2 ⟨b, hb1, by rw [hb2]⟩⟩
      have := far_ge (arcs_wf l) hn hc (hF _ _) (h1.trans hw)
      simp only [decide_eq_true_eq]; omega
  · intro h
    unfold lawImp at h
    rw [Bool.or_eq_true, Bool.or_eq_true] at h
    rcases h with (h | h) | h
    · exact absurd (of_decide_eq_true h) hk
    · have h := of_decide_eq_true h
      rcases hF (idx (unitsP l) l[i].lo) (idx (unitsP l) l[i].up) with ⟨h0, _⟩ | ⟨_, _, hw, _⟩
      · omega
      · obtain ⟨x, hx⟩ : ∃ x, mm (idx (unitsP l) l[i].lo) (idx (unitsP l) l[i].up) = x + 2 := ⟨mm (idx (unitsP l) l[i].lo) (idx (unitsP l) l[i].up) - 2, by omega⟩
        rw [hx] at hw
        obtain ⟨a, ha, hw⟩ := hw.head
        obtain ⟨b, hb, e⟩ := List.mem_map.1 ha
        have e1 : b.lo = idx (unitsP l) l[i].lo := (Prod.mk.inj e).1
        have e2 : b.up = a := (Prod.mk.inj e).2
        refine List.any_eq_true.2 ⟨b, next_mem.2 ⟨hb, e1⟩, ?_⟩
        unfold impB
        have hr : Rch (arcsOf l) b.up (idx (unitsP l) l[i].up) := ⟨x + 1, by omega, by rw [e2]; exact hw⟩
        split
        · rename_i e3
          simp only at e3
          exact absurd ⟨b.up, by rw [← e3] at hr; exact hr⟩ hc
        · exact rchB_iff.2 hr
    · obtain ⟨q, hq, h⟩ := List.any_eq_true.1 h
      obtain ⟨j, hj, e⟩ := List.mem_iff_getElem.1 hq
      rw [List.length_take] at hj
      rw [List.getElem_take] at e
      subst e
      simp only [Bool.and_eq_true, decide_eq_true_eq] at h
      refine List.any_eq_true.2 ⟨⟨j, idx (unitsP l) l[j].lo, idx (unitsP l) l[j].up⟩, next_mem.2 ⟨arcs_mem.2 ⟨j, by omega, by omega, h.1, rfl⟩, by simp only; rw [h.2.2]⟩, ?_⟩
      unfold impB
      simp only
      rw [if_pos (by rw [h.2.1])]
      exact decide_eq_true (by omega)

theorem red_want {l : List Rel} {mm : Nat → Nat → Nat} (hn : (unitsP l).length ≤ 8) (hc : ¬ Cyc (arcsOf l)) (hF : ∀ c b, Far (prs (arcsOf l)) 8 c b (mm c b)) :
    redL (arcsOf l) (arcsOf l).length = wantL l (unitsP l) mm l.length := by
  unfold redL
  rw [List.take_length]
  have key : ∀ k, k ≤ l.length → ((arcsUp l k).filter fun a => !impliedB (arcsOf l) a).map (·.i) = wantL l (unitsP l) mm k := by
    intro k
    induction k with
    | zero => intro _; simp [arcsUp, wantL]
    | succ k ih =>
      intro hk
      have ih := ih (by omega)
      rw [arcsUp_succ (by omega : k < l.length), wantL_succ (by omega : k < l.length), ← ih]
      by_cases e : l[k].kind = 4
      · rw [if_pos e, if_pos (by simp [lawImp, e])]
      · rw [if_neg e, List.filter_append, List.map_append, ← implied_law hn hc hF (by omega) e]
        by_cases q : impliedB (arcsOf l) ⟨k, idx (unitsP l) l[k].lo, idx (unitsP l) l[k].up⟩ = true
        · simp [q]
        · simp [q]
  exact key l.length (Nat.le_refl _)

theorem rch_lt {arcs : List Arc} {n a b : Nat} (wf : WF n arcs) (h : Rch arcs a b) : a < n ∧ b < n := by
  obtain ⟨m, hm, hw⟩ := h
  obtain ⟨m, rfl⟩ : ∃ k, m = k + 1 := ⟨m - 1, by omega⟩
  obtain ⟨c, h1, h2⟩ := id hw
  obtain ⟨d, h3, h4⟩ := hw.head
  obtain ⟨x, hx, e⟩ := List.mem_map.1 h2
  obtain ⟨y, hy, e'⟩ := List.mem_map.1 h3
  exact ⟨(Prod.mk.inj e').1 ▸ wf.lo y hy, (Prod.mk.inj e).2 ▸ wf.up x hx⟩

/-! ### Small calls -/
theorem sameN_runs {H : Heap} {v1 v2 : Value} {xs ys : List Nat} (h1 : Sl H 1 v1 (xs.map encN)) (h2 : Sl H 1 v2 (ys.map encN)) (hx : xs.length < 2 ^ 40) :
    big tab 15 [v1, v2] H = some (.bool (decide (xs = ys)), H) := by
  have e : ∀ zs : List Nat, zs.map encN = ints (zs.map fun z : Nat => (z : Int)) := fun zs => by simp [ints]
  rw [e] at h1 h2
  have h := sameInts_runs (ext := extB) rfl h1 h2 (by simpa using hx)
  have e2 : decide ((xs.map fun z : Nat => (z : Int)) = ys.map fun z : Nat => (z : Int)) = decide (xs = ys) := by
    by_cases q : xs = ys
    · subst q; simp
    · rw [decide_eq_false q, decide_eq_false]
      intro h
      refine q ?_
      have : ∀ {a b : List Nat}, (a.map fun z : Nat => (z : Int)) = b.map (fun z : Nat => (z : Int)) → a = b := by
        intro a
        induction a with
        | nil => intro b h; cases b with
          | nil => rfl
          | cons y b => simp at h
        | cons x a ih => intro b h; cases b with
          | nil => simp at h
          | cons y b =>
            simp only [List.map_cons, List.cons.injEq] at h
            rw [ih h.2, show x = y by omega]
      exact this h
  rw [e2] at h
  exact h

theorem ev_ldAMx {T : Tab} {s : List Value} {H : Heap} {α : Type} {f : α → List Value} {xs : List α} {sz k : Nat} {v : Value} {cs : List Value} {t : TypeId} {a : Operand} {i : TI} (h : Sl H sz v (xs.map f)) (ha : ev s a = ptrAt (sAddr v) (k * sz)) (hk : k < xs.length) (hx : f xs[k] = cs) (hT : T.T t = some i) (hs : i.size = sz) (hg : i.agg = true) : opEval T s H (.load t a) = some (.agg cs.toArray, H) := by
  rw [← hx]; exact ev_ldAM h ha hk hT hs hg
theorem ev_seqB {s : List Value} {H : Heap} {t t2 : TypeId} {x y : Operand} {a b : Nm} {p : Bool} (hp : decide (a = b) = p) (hx : ev s x = str a) (hy : ev s y = str b) : opEval tab s H (.binOp .eql t x y t2) = some (.bool p, H) := by
  rw [← hp]; exact ev_seq hx hy
theorem ev_nePair {s : List Value} {H : Heap} {x y : Operand} {t2 : TypeId} {a b : Nm} (hx : ev s x = .agg #[str a, str b]) (hy : ev s y = .agg #[str a, str b]) : opEval tab s H (.binOp .neq 56 x y t2) = some (.bool false, H) := by
  have h : tab.eqs 56 = some [.string, .string] := rfl
  simp only [opEval, hx, hy, binOp, h, Option.bind_some, aggEq, Option.map_some, BEq.rfl, Bool.and_self, Bool.not_true]

end Go.Proofs.Ytdhbclplondmjaa.C

end

section
/- Ranks: the iterator that goes backward; levels, plain. -/
set_option linter.unusedVariables false
set_option linter.unusedSimpArgs false
set_option maxRecDepth 100000
set_option maxHeartbeats 4000000
namespace Go.Proofs.Ytdhbclplondmjaa.C
open Go.RowKit Go.Sort

theorem res_cell {T : Tab} {fn : Func} {s : List Value} {H : Heap} {p sz : Nat} {own : Bool} {a b v : Value} {t : TypeId} {ti : TI} (hr : fn.results = #[.tmp 2, .cell 3 t, .tmp 4]) (h2 : s.getD 2 undef = a) (h4 : s.getD 4 undef = b) (h3 : s.getD 3 undef = .pointer (some ⟨p, 0, none⟩)) (hp : H[p]? = some (.row sz [v] own true)) (hT : T.T t = some ti) (hs : ti.size = 1) (hg : ti.agg = false) :
    resultsC T fn s H = some (.tuple #[a, v, b]) := by
  have h5 := vload_box (T := T) hp hT hs hg
  simp only [resultsC, hr, List.mapM_cons, List.mapM_nil, resOne, h2, h3, h4, h5]
  rfl

theorem Mem.base {H0 H1 H : Heap} {L : List Th} (h : Mem H1 H L) (e : Ext H0 H1) : Mem H0 H L := by
  have := ((Mem.start H0).more e).under h
  simpa using this
theorem Mem.rot {H0 H : Heap} {A B : List Th} (h : Mem H0 H (A ++ B)) : Mem H0 H (B ++ A) := by
  refine h.sub (fun j => if j < B.length then A.length + j else if j < B.length + A.length then j - B.length else j) (fun i j e => ?_) (fun j t e => ?_)
  · by_cases p : i < B.length <;> by_cases q : j < B.length <;> by_cases r : i < B.length + A.length <;> by_cases u : j < B.length + A.length <;> simp only [p, q, r, u, if_true, if_false] at e <;> omega
  · by_cases p : j < B.length
    · simp only [p, if_true]
      rw [List.getElem?_append_right (by omega), Nat.add_sub_cancel_left]
      rwa [List.getElem?_append_left p] at e
    · simp only [p, if_false]
      rw [List.getElem?_append_right (by omega)] at e
      have hlt := (List.getElem?_eq_some_iff.1 e).1
      rw [if_pos (by omega), List.getElem?_append_left (by omega)]
      exact e

theorem body47 : Try.f47.body = some (bodyOf Try.f47) := rfl

theorem back_iter {I : Nat → Heap → Prop} {pb : Nat} {so : Value} {o : List Nat} {rd : Nat → RoundF} {H : Heap} (hI : ∀ k H, I k H → (∃ own, H[pb]? = some (Blk.row 1 [so] own true)) ∧ Sl H 1 so (o.map encN)) (ho : o.length < 2 ^ 40)
    (hr : ∀ k (hk : k < o.length) H, I (k + 1) H → ∃ H2, I k H2 ∧ Ev fun n => rd n [nat k, nat o[k]] H = some H2) (h0 : I o.length H) (b : Nat) :
    ∃ e s1 H1, (e = .normal ∨ e = .ret) ∧ (Ev fun n => evalCY tab (big tab) b (rd n) n (bodyOf Try.f47) (startC Try.f47 ([] ++ [.chan (some b)] ++ [.pointer (some ⟨pb, 0, none⟩)])) H = some (e, s1, H1)) ∧ I 0 H1 := by
  have goal : RunsY tab b rd (bodyOf Try.f47) (startC Try.f47 ([] ++ [.chan (some b)] ++ [.pointer (some ⟨pb, 0, none⟩)])) H (fun _ H1 => I 0 H1) (fun _ _ _ => False) (fun _ H1 => I 0 H1) := by
    obtain ⟨z, hz⟩ := startC_mkS Try.f47 ([] ++ [.chan (some b)] ++ [.pointer (some ⟨pb, 0, none⟩)])
    rw [hz]
    obtain ⟨⟨own, hb⟩, hs⟩ := hI _ _ h0
    refine RunsY.seq (RunsY.region ?_)
    refine RgY.opp (v := so) rfl rfl rfl rfl (ev_ldb hb rfl rfl rfl rfl rfl) ?_
    refine RgY.opp (v := nat o.length) rfl rfl rfl rfl (ev_lenM hs rfl rfl) ?_
    refine RgY.opp (v := .int .i64 ((o.length : Int) - 1)) rfl rfl rfl rfl (ev_subI (a := o.length) (b := 1) rfl rfl (by omega)) ?_
    refine RgY.opp (v := .int .i64 ((o.length : Int) - 1)) rfl rfl rfl rfl rfl ?_
    refine RgY.nil ?_
    refine RunsY.block ?_
    refine RunsY.loop (fun m s H1 => m ≤ o.length ∧ I m H1 ∧ Is s 19 [(0, .chan (some b)), (1, .pointer (some ⟨pb, 0, none⟩)), (3, .int .i64 ((m : Int) - 1))]) o.length ⟨Nat.le_refl _, h0, Is.of ⟨rfl, rfl, rfl, rfl, rfl, rfl, trivial⟩⟩ ?_
    rintro m s H1 ⟨hm, hi, hs1⟩
    obtain ⟨⟨own, hb⟩, hs⟩ := hI _ _ hi
    cases m with
    | zero =>
      obtain ⟨a1, rfl⟩ := hs1.mk1
      refine RunsY.seq (RunsY.seq (RunsY.region ?_))
      refine RgY.opp (v := .int .i64 (((0 : Nat) : Int) - 1)) rfl rfl rfl rfl rfl ?_
      refine RgY.opp (v := .bool false) rfl rfl rfl rfl (ev_igeF (a := ((0 : Nat) : Int) - 1) (b := 0) rfl rfl (by omega)) ?_
      refine RgY.nil ?_
      refine RunsY.cond false rfl (fun h => by cases h) (fun _ => ?_)
      refine RunsY.exit ?_
      exact hi
    | succ k =>
      have e1 : (((k + 1 : Nat) : Int) - 1) = ((k : Nat) : Int) := by omega
      rw [e1] at hs1
      obtain ⟨a1, rfl⟩ := hs1.mk1
      have hk : k < o.length := by omega
      obtain ⟨H2, hi2, hr2⟩ := hr k hk H1 hi
      refine RunsY.seq (RunsY.seq (RunsY.region ?_))
      refine RgY.opp (v := nat k) rfl rfl rfl rfl rfl ?_
      refine RgY.opp (v := .bool true) rfl rfl rfl rfl (ev_geT (a := k) (b := 0) rfl rfl (Nat.zero_le _)) ?_
      refine RgY.nil ?_
      refine RunsY.cond true rfl (fun _ => ?_) (fun h => by cases h)
      refine RunsY.skip ?_
      refine RunsY.seq (RunsY.block ?_)
      refine RunsY.seq (RunsY.region ?_)
      refine RgY.opp (v := .chan (some b)) rfl rfl rfl rfl rfl ?_
      refine RgY.opp (v := nat k) rfl rfl rfl rfl rfl ?_
      refine RgY.opp (v := so) rfl rfl rfl rfl (ev_ldb hb rfl rfl rfl rfl rfl) ?_
      refine RgY.opp (v := nat k) rfl rfl rfl rfl rfl ?_
      refine RgY.opp (v := ptrAt (sAddr so) (k * 1)) rfl rfl rfl rfl (ev_idxM (k := k) hs rfl rfl hk rfl rfl rfl (by decide)) ?_
      refine RgY.opp (v := nat o[k]) rfl rfl rfl rfl (ev_ldM (k := k) hs rfl hk rfl rfl rfl rfl) ?_
      refine RgY.yield (args := [nat k, nat o[k]]) (H2 := H2) rfl rfl rfl ?_ hr2 ?_
      · exact if_pos rfl
      refine RgY.opp (v := .bool false) rfl rfl rfl rfl rfl ?_
      refine RgY.nil ?_
      refine RunsY.cond false rfl (fun h => by cases h) (fun _ => ?_)
      refine RunsY.skip ?_
      refine RunsY.region ?_
      refine RgY.opp (v := nat k) rfl rfl rfl rfl rfl ?_
      refine RgY.opp (v := .int .i64 ((k : Int) - 1)) rfl rfl rfl rfl (ev_subI (a := k) (b := 1) rfl rfl (by omega)) ?_
      refine RgY.opp (v := .int .i64 ((k : Int) - 1)) rfl rfl rfl rfl rfl ?_
      refine RgY.nil ?_
      exact ⟨k, Nat.lt_succ_self _, by omega, hi2, Is.of ⟨rfl, rfl, rfl, rfl, rfl, rfl, trivial⟩⟩
  exact goal.out

/-! ### Levels -/

/-- A numbering that grows along pairs, and no more than it must. -/
structure Lev (P : Nat → Nat → Prop) (e : Nat → Nat) : Prop where
  ge : ∀ x y, P x y → e x + 1 ≤ e y
  from_ : ∀ y, e y = 0 ∨ ∃ x, P x y ∧ e y = e x + 1

theorem Lev.zero : Lev (fun _ _ => False) (fun _ => 0) := ⟨fun _ _ h => h.elim, fun _ => .inl rfl⟩
theorem Lev.congr {P Q : Nat → Nat → Prop} {e : Nat → Nat} (h : Lev P e) (k : ∀ x y, P x y ↔ Q x y) : Lev Q e := by
  have : P = Q := by funext x y; exact propext (k x y)
  exact this ▸ h

def raise (e : Nat → Nat) (x y : Nat) : Nat → Nat := fun z => if z = y then max (e y) (e x + 1) else e z

theorem Lev.step {P : Nat → Nat → Prop} {e : Nat → Nat} {x y : Nat} (h : Lev P e) (hne : x ≠ y) (hno : ∀ z, ¬ P y z) : Lev (fun a b => P a b ∨ (a = x ∧ b = y)) (raise e x y) := by
  have hx : raise e x y x = e x := by simp [raise, hne]
  have hy : raise e x y y = max (e y) (e x + 1) := by simp [raise]
  have up : ∀ z, e z ≤ raise e x y z := by
    intro z; unfold raise; split
    · rename_i q; subst q; omega
    · exact Nat.le_refl _
  have same : ∀ z, z ≠ y → raise e x y z = e z := fun z hz => by simp [raise, hz]
  have low : ∀ a b, P a b → raise e x y a = e a := fun a b hab => same a fun q => hno b (q ▸ hab)
  refine ⟨?_, ?_⟩
  · rintro a b (hab | ⟨rfl, rfl⟩)
    · rw [low a b hab]; exact Nat.le_trans (h.ge a b hab) (up b)
    · rw [hx, hy]; omega
  · intro b
    by_cases q : b = y
    · subst q
      rw [hy]
      rcases Nat.le_total (e b) (e x + 1) with w | w
      · right; exact ⟨x, .inr ⟨rfl, rfl⟩, by rw [hx]; omega⟩
      · rcases h.from_ b with z | ⟨a, z1, z2⟩
        · omega
        · right; exact ⟨a, .inl z1, by rw [low a b z1]; omega⟩
    · rw [same b q]
      rcases h.from_ b with z | ⟨a, z1, z2⟩
      · exact .inl z
      · right; exact ⟨a, .inl z1, by rw [low a b z1]; exact z2⟩

/-- Arcs onward, arcs back. -/
def Fwd (arcs : List Arc) (S : List Nat) (x y : Nat) : Prop := ∃ a ∈ arcs, a.lo ∈ S ∧ a.lo = x ∧ a.up = y
def Bwd (arcs : List Arc) (S : List Nat) (x y : Nat) : Prop := ∃ a ∈ arcs, a.lo ∈ S ∧ a.up = x ∧ a.lo = y
def FwdIn (arcs : List Arc) (S : List Nat) (ys : List Arc) (j : Nat) (x y : Nat) : Prop := Fwd arcs S x y ∨ ∃ k, ∃ h : k < ys.length, k < j ∧ ys[k].lo = x ∧ ys[k].up = y
def BwdIn (arcs : List Arc) (S : List Nat) (ys : List Arc) (j : Nat) (x y : Nat) : Prop := Bwd arcs S x y ∨ ∃ k, ∃ h : k < ys.length, k < j ∧ ys[k].up = x ∧ ys[k].lo = y

theorem FwdIn.succ {arcs : List Arc} {S : List Nat} {ys : List Arc} {j : Nat} (h : j < ys.length) (x y : Nat) : (FwdIn arcs S ys j x y ∨ (x = ys[j].lo ∧ y = ys[j].up)) ↔ FwdIn arcs S ys (j + 1) x y := by
  constructor
  · rintro ((q | ⟨k, h1, h2, h3⟩) | ⟨rfl, rfl⟩)
    · exact .inl q
    · exact .inr ⟨k, h1, by omega, h3⟩
    · exact .inr ⟨j, h, by omega, rfl, rfl⟩
  · rintro (q | ⟨k, h1, h2, h3⟩)
    · exact .inl (.inl q)
    · rcases Nat.lt_or_ge k j with q | q
      · exact .inl (.inr ⟨k, h1, q, h3⟩)
      · have : k = j := by omega
        subst this; exact .inr ⟨h3.1.symm, h3.2.symm⟩
theorem BwdIn.succ {arcs : List Arc} {S : List Nat} {ys : List Arc} {j : Nat} (h : j < ys.length) (x y : Nat) : (BwdIn arcs S ys j x y ∨ (x = ys[j].up ∧ y = ys[j].lo)) ↔ BwdIn arcs S ys (j + 1) x y := by
  constructor
  · rintro ((q | ⟨k, h1, h2, h3⟩) | ⟨rfl, rfl⟩)
    · exact .inl q
    · exact .inr ⟨k, h1, by omega, h3⟩
    · exact .inr ⟨j, h, by omega, rfl, rfl⟩
  · rintro (q | ⟨k, h1, h2, h3⟩)
    · exact .inl (.inl q)
    · rcases Nat.lt_or_ge k j with q | q
      · exact .inl (.inr ⟨k, h1, q, h3⟩)
      · have : k = j := by omega
        subst this; exact .inr ⟨h3.1.symm, h3.2.symm⟩
theorem FwdIn.done {arcs : List Arc} {S : List Nat} {i : Nat} (x y : Nat) : FwdIn arcs S (nextOf arcs i) (nextOf arcs i).length x y ↔ Fwd arcs (S ++ [i]) x y := by
  constructor
  · rintro (⟨a, h1, h2, h3⟩ | ⟨k, h1, h2, h3, h4⟩)
    · exact ⟨a, h1, List.mem_append_left _ h2, h3⟩
    · have := next_mem.1 (List.getElem_mem h1)
      exact ⟨_, this.1, by rw [this.2]; simp, h3, h4⟩
  · rintro ⟨a, h1, h2, h3, h4⟩
    rcases List.mem_append.1 h2 with q | q
    · exact .inl ⟨a, h1, q, h3, h4⟩
    · obtain ⟨k, hk, e⟩ := List.mem_iff_getElem.1 (next_mem.2 ⟨h1, by simpa using q⟩)
      exact .inr ⟨k, hk, hk, by rw [e]; exact h3, by rw [e]; exact h4⟩
theorem BwdIn.done {arcs : List Arc} {S : List Nat} {i : Nat} (x y : Nat) : BwdIn arcs S (nextOf arcs i) (nextOf arcs i).length x y ↔ Bwd arcs (i :: S) x y := by
  constructor
  · rintro (⟨a, h1, h2, h3⟩ | ⟨k, h1, h2, h3, h4⟩)
    · exact ⟨a, h1, List.mem_cons_of_mem _ h2, h3⟩
    · have := next_mem.1 (List.getElem_mem h1)
      exact ⟨_, this.1, by rw [this.2]; simp, h3, h4⟩
  · rintro ⟨a, h1, h2, h3, h4⟩
    rcases List.mem_cons.1 h2 with q | q
    · obtain ⟨k, hk, e⟩ := List.mem_iff_getElem.1 (next_mem.2 ⟨h1, q⟩)
      exact .inr ⟨k, hk, hk, by rw [e]; exact h3, by rw [e]; exact h4⟩
    · exact .inl ⟨a, h1, q, h3, h4⟩
theorem In_zero {arcs : List Arc} {S : List Nat} {ys : List Arc} (x y : Nat) : (Fwd arcs S x y ↔ FwdIn arcs S ys 0 x y) ∧ (Bwd arcs S x y ↔ BwdIn arcs S ys 0 x y) :=
  ⟨⟨.inl, fun h => h.resolve_right fun ⟨k, _, h, _⟩ => by omega⟩, ⟨.inl, fun h => h.resolve_right fun ⟨k, _, h, _⟩ => by omega⟩⟩

/-- An order in which each unit comes behind those that arcs lead from. -/
structure Topo (arcs : List Arc) (n : Nat) (o : List Nat) : Prop where
  nd : o.Nodup
  lt : ∀ x ∈ o, x < n
  all : ∀ x, x < n → x ∈ o
  len : o.length = n
  topo : ∀ k (h : k < o.length), ∀ a ∈ arcs, a.up = o[k] → a.lo ∈ o.take k

theorem kahn_topo {arcs : List Arc} {n : Nat} {o : List Nat} (h : Kahn arcs n o []) (hl : o.length = n) : Topo arcs n o := by
  have hnd : o.Nodup := by simpa using h.nd
  refine ⟨hnd, fun x hx => h.lt x (by simpa using hx), fun y hy => ?_, hl, h.topo⟩
  refine Classical.byContradiction fun hno => ?_
  have := nodup_le n (y :: o) (List.nodup_cons.2 ⟨hno, hnd⟩) fun z hz => by
    rcases List.mem_cons.1 hz with e | e
    · rw [e]; exact hy
    · exact h.lt z (by simpa using e)
  simp only [List.length_cons] at this; omega

/-- Arcs from a unit lead behind it. -/
theorem Topo.after {arcs : List Arc} {n : Nat} {o : List Nat} (h : Topo arcs n o) {k : Nat} (hk : k < o.length) {a : Arc} (ha : a ∈ arcs) (hlo : a.lo = o[k]) : a.up ∉ o.take (k + 1) := by
  intro hm
  obtain ⟨i, hi, e⟩ := List.mem_iff_getElem.1 hm
  rw [List.length_take] at hi
  rw [List.getElem_take] at e
  have h1 := h.topo i (by omega) a ha e.symm
  obtain ⟨j, hj, e2⟩ := List.mem_iff_getElem.1 h1
  rw [List.length_take] at hj
  rw [List.getElem_take, hlo] at e2
  have := (List.getElem_inj h.nd).1 e2
  omega

theorem Topo.fwd_no {arcs : List Arc} {n : Nat} {o : List Nat} (h : Topo arcs n o) {k : Nat} (hk : k < o.length) {j : Nat} (hj : j < (nextOf arcs o[k]).length) : (nextOf arcs o[k])[j].lo ≠ (nextOf arcs o[k])[j].up ∧ ∀ z, ¬ FwdIn arcs (o.take k) (nextOf arcs o[k]) j (nextOf arcs o[k])[j].up z := by
  have hm := next_mem.1 (List.getElem_mem hj)
  have ha := h.after hk hm.1 hm.2
  rw [List.take_succ_eq_append_getElem hk] at ha
  refine ⟨fun e => ha (by rw [← e, hm.2]; exact List.mem_append_right _ (List.mem_singleton.2 rfl)), ?_⟩
  rintro z (⟨b, h1, h2, h3, h4⟩ | ⟨i, h1, h2, h3, h4⟩)
  · exact ha (by rw [← h3]; exact List.mem_append_left _ h2)
  · have := (next_mem.1 (List.getElem_mem h1)).2
    exact ha (by rw [← h3, this]; exact List.mem_append_right _ (List.mem_singleton.2 rfl))
theorem Topo.bwd_no {arcs : List Arc} {n : Nat} {o : List Nat} (h : Topo arcs n o) {k : Nat} (hk : k < o.length) {j : Nat} (hj : j < (nextOf arcs o[k]).length) : (nextOf arcs o[k])[j].up ≠ (nextOf arcs o[k])[j].lo ∧ ∀ z, ¬ BwdIn arcs (o.drop (k + 1)) (nextOf arcs o[k]) j (nextOf arcs o[k])[j].lo z := by
  have hm := next_mem.1 (List.getElem_mem hj)
  refine ⟨fun e => (h.fwd_no hk hj).1 e.symm, ?_⟩
  rw [hm.2]
  rintro z (⟨b, h1, h2, h3, h4⟩ | ⟨i, h1, h2, h3, h4⟩)
  · have h5 := h.topo k hk b h1 h3
    have h6 : b.lo ∈ o.take (k + 1) := by rw [List.take_succ_eq_append_getElem hk]; exact List.mem_append_left _ h5
    have hd := h.nd
    rw [← List.take_append_drop (k + 1) o] at hd
    exact (List.nodup_append.1 hd).2.2 _ h6 _ h2 rfl
  · have h5 := next_mem.1 (List.getElem_mem h1)
    exact (h.fwd_no hk h1).1 (by rw [h5.2, h3])

theorem row_setA {α : Type} {n b : Nat} {v : α} {f : Nat → α} (hb : b < n) : ((List.range n).map f).set b v = (List.range n).map fun b' => if b' = b then v else f b' := by
  refine List.ext_getElem (by simp) fun i h1 h2 => ?_
  rw [List.getElem_set]
  by_cases e : b = i
  · subst e; simp
  · rw [if_neg e]; simp [show ¬ i = b from fun h => e h.symm]

/-- What Ranks finds. -/
structure RankOk (arcs : List Arc) (n : Nat) (e d : Nat → Nat) (mo : Nat) : Prop where
  fwd : Lev (fun x y => ∃ a ∈ arcs, a.lo = x ∧ a.up = y) e
  bwd : Lev (fun x y => ∃ a ∈ arcs, a.up = x ∧ a.lo = y) d
  le : ∀ x, x < n → e x ≤ mo
  most : mo = 0 ∨ ∃ x, x < n ∧ e x = mo

end Go.Proofs.Ytdhbclplondmjaa.C

end

section
/- The program's graph, run: what it owns. -/
set_option linter.unusedVariables false
set_option linter.unusedSimpArgs false
set_option maxRecDepth 100000
set_option maxHeartbeats 4000000
namespace Go.Proofs.Ytdhbclplondmjaa.C
open Go.RowKit Go.Sort

theorem build_mem {H : Heap} {v : Value} {l : List Rel} (hl : Sl H 3 v (rels l)) (hll : l.length ≤ 2 ^ 20) (hn : (unitsP l).length ≤ 2 ^ 20) :
    ∃ r H1, big tab 32 [v] H = some (r, H1) ∧ ∃ gp an aa ax M nx, r = .pointer (some ⟨gp, 0, none⟩) ∧ GraphIs H1 gp (unitsP l) (arcsOf l) an aa ax M nx true ∧ Mem H H1 (.sl 3 aa (List.map arcC (arcsOf l)) :: .sl 1 ax (List.map encV nx) :: .box gp 4 [an, .map (some M), aa, ax] :: .map M (mapE 0 (unitsP l)) :: inner nx (unitsP l).length (arcsOf l)) := by
  refine big_of_runs rfl rfl rfl ?_
  obtain ⟨z, hz⟩ := startC_mkS Try.f32 [v]
  rw [show startC (32, Try.f32).snd [v] = _ from hz]
  clear hz
  refine Runs.cut (n := 96) (l := [(0, v)]) (Is.of ⟨rfl, rfl, trivial⟩) (fun a0 => ?_)
  refine Runs.seq ?_
  refine Runs.region ?_
  refine Rg.opp (v := .pointer none) rfl rfl rfl rfl rfl ?_
  refine Rg.nil ?_
  refine Runs.seq ?_
  refine Runs.region ?_
  refine Rg.opp (v := v) rfl rfl rfl rfl rfl ?_
  refine Rg.callW rfl rfl rfl rfl (rfl) rfl (unitsP_runs hl (by omega)) (fun r Hu hP => ?_)
  obtain ⟨heu, hus'⟩ := hP
  have hus : Sl Hu 1 r ((unitsP l).map encS) := hus'
  obtain ⟨ua, uc, rfl, huc⟩ := id hus
  have hM := Mem.start Hu
  refine Rg.new (v := fun p => .map (some p)) (X := .map []) (th := fun p => .map p []) hM rfl rfl rfl rfl rfl rfl (fun _ => rfl) (fun M Hc (hM : Mem Hu Hc ([.map M ([])])) _ => ?_)
  refine Rg.opp (v := .agg ([.slice ua (List.map encS (unitsP l)).length uc, .map (some M), .slice none 0 0, .slice none 0 0]).toArray) rfl rfl rfl rfl rfl ?_
  refine Rg.new (v := fun p => .pointer (some ⟨p, 0, none⟩)) (X := .row 4 ([.slice ua (List.map encS (unitsP l)).length uc, .map (some M), .slice none 0 0, .slice none 0 0]) true true) (th := fun p => .box p 4 ([.slice ua (List.map encS (unitsP l)).length uc, .map (some M), .slice none 0 0, .slice none 0 0])) hM rfl rfl rfl rfl rfl rfl (fun _ => rfl) (fun gp Hc hM _ => ?_)
  refine Rg.opp (v := .pointer (some ⟨gp, 0, none⟩)) rfl rfl rfl rfl rfl ?_
  refine Rg.nil ?_
  refine Runs.seq ?_
  refine Runs.seq ?_
  refine Runs.region ?_
  refine Rg.opp (v := .pointer (some ⟨gp, 0, none⟩)) rfl rfl rfl rfl rfl ?_
  refine Rg.opp (v := .pointer (some ⟨gp, 0, none⟩)) rfl rfl rfl rfl rfl ?_
  refine Rg.opp (v := .pointer (some ⟨gp, 0, none⟩)) rfl rfl rfl (ev_fld (o := 0) (p := (37, 0)) rfl rfl rfl rfl rfl (by decide)) rfl ?_
  refine Rg.opp (v := .slice ua (List.map encS (unitsP l)).length uc) rfl rfl rfl (ev_ldb (hM.get_box (j := 0) rfl) rfl rfl rfl rfl rfl) rfl ?_
  refine Rg.opp (v := nat ((unitsP l).length)) rfl rfl rfl (ev_lenM (hus.sees hM.ext.sees) rfl rfl) rfl ?_
  refine Rg.opp (v := nat 0) rfl rfl rfl rfl rfl ?_
  refine Rg.nil ?_
  refine Runs.block ?_
  refine Runs.loop (fun m s Hc => ∃ (k : Nat), m = (unitsP l).length - k ∧ Mem Hu Hc ([.box gp 4 ([.slice ua (List.map encS (unitsP l)).length uc, .map (some M), .slice none 0 0, .slice none 0 0]), .map M (mapE 0 ((unitsP l).take k))]) ∧ (k ≤ (unitsP l).length) ∧ Is s 96 [(0, v), (3, .pointer (some ⟨gp, 0, none⟩)), (17, .slice ua (List.map encS (unitsP l)).length uc), (18, nat ((unitsP l).length)), (19, nat k)]) _
    ⟨0, rfl, hM, Nat.zero_le _, Is.of ⟨rfl, rfl, rfl, rfl, rfl, rfl, rfl, rfl, rfl, rfl, trivial⟩⟩ ?_
  rintro m s Hc ⟨k, rfl, hM, hk, hs⟩
  obtain ⟨a1, rfl⟩ := hs.mk1
  clear hs
  refine Runs.seq ?_
  refine Runs.region ?_
  by_cases hlt : k < (unitsP l).length
  · skip
    refine Rg.opp (v := .bool true) rfl rfl rfl (ev_ltT rfl rfl (hlt)) rfl ?_
    refine Rg.nil ?_
    refine Runs.seq ?_
    refine Runs.cond true rfl (fun _ => ?_) (fun h => by cases h)
    refine Runs.skip ?_
    refine Runs.seq ?_
    refine Runs.block ?_
    refine Runs.seq ?_
    refine Runs.region ?_
    refine Rg.opp (v := nat k) rfl rfl rfl rfl rfl ?_
    refine Rg.opp (v := ptrAt (sAddr (.slice ua (List.map encS (unitsP l)).length uc)) (k * 1)) rfl rfl rfl (ev_idxM (k := k) (hus.sees hM.ext.sees) rfl rfl (hlt) rfl rfl rfl (by decide)) rfl ?_
    refine Rg.opp (v := str ((unitsP l)[k])) rfl rfl rfl (ev_ldM (k := k) (hus.sees hM.ext.sees) rfl (hlt) rfl rfl rfl rfl) rfl ?_
    refine Rg.opp (v := nat k) rfl rfl rfl rfl rfl ?_
    refine Rg.opp (v := str ((unitsP l)[k])) rfl rfl rfl rfl rfl ?_
    refine Rg.nil ?_
    refine Runs.region ?_
    refine Rg.opp (v := .pointer (some ⟨gp, 0, none⟩)) rfl rfl rfl rfl rfl ?_
    refine Rg.opp (v := .pointer (some ⟨gp, 0, none⟩)) rfl rfl rfl rfl rfl ?_
    refine Rg.opp (v := .pointer (some ⟨gp, 1, none⟩)) rfl rfl rfl (ev_fld (o := 0) (p := (74, 1)) rfl rfl rfl rfl rfl (by decide)) rfl ?_
    refine Rg.opp (v := .map (some M)) rfl rfl rfl (ev_ldb (hM.get_box (j := 0) rfl) rfl rfl rfl rfl rfl) rfl ?_
    refine Rg.opp (v := str ((unitsP l)[k])) rfl rfl rfl rfl rfl ?_
    refine Rg.opp (v := nat k) rfl rfl rfl rfl rfl ?_
    refine Rg.mapset (j := 1) (xs := (unitsP l).take k) (s := (unitsP l)[k]) hM rfl rfl rfl rfl rfl rfl rfl rfl (nodup_take (strict_nodup (unitsP_strict l)) hlt) (by rw [List.length_take]; omega) (fun Hc hM => ?_)
    rw [List.take_append_getElem hlt] at hM
    refine Rg.nil ?_
    refine Runs.region ?_
    refine Rg.opp (v := nat (k + 1)) rfl rfl rfl (ev_addN (b := 1) rfl rfl (by omega)) rfl ?_
    refine Rg.opp (v := nat (k + 1)) rfl rfl rfl rfl rfl ?_
    refine Rg.nil ?_
    refine ⟨(unitsP l).length - (k + 1), by omega, k + 1, rfl, hM, hlt, Is.of ⟨rfl, rfl, rfl, rfl, rfl, rfl, rfl, rfl, rfl, rfl, trivial⟩⟩
  · skip
    replace hM : Mem Hu Hc ([.box gp 4 ([.slice ua (List.map encS (unitsP l)).length uc, .map (some M), .slice none 0 0, .slice none 0 0]), .map M (mapE 0 (unitsP l))]) := by rw [show k = (unitsP l).length by omega, List.take_length] at hM; exact hM
    refine Rg.opp (v := .bool false) rfl rfl rfl (ev_ltF rfl rfl (hlt)) rfl ?_
    refine Rg.nil ?_
    refine Runs.seq ?_
    refine Runs.cond false rfl (fun h => by cases h) (fun _ => ?_)
    refine Runs.exit ?_
    refine Runs.seq ?_
    refine Runs.region ?_
    refine Rg.opp (v := .pointer (some ⟨gp, 0, none⟩)) rfl rfl rfl rfl rfl ?_
    refine Rg.opp (v := .pointer (some ⟨gp, 0, none⟩)) rfl rfl rfl rfl rfl ?_
    refine Rg.opp (v := .pointer (some ⟨gp, 0, none⟩)) rfl rfl rfl rfl rfl ?_
    refine Rg.opp (v := .pointer (some ⟨gp, 0, none⟩)) rfl rfl rfl (ev_fld (o := 0) (p := (37, 0)) rfl rfl rfl rfl rfl (by decide)) rfl ?_
    refine Rg.opp (v := .slice ua (List.map encS (unitsP l)).length uc) rfl rfl rfl (ev_ldb (hM.get_box (j := 0) rfl) rfl rfl rfl rfl rfl) rfl ?_
    refine Rg.opp (v := nat ((unitsP l).length)) rfl rfl rfl (ev_lenM (hus.sees hM.ext.sees) rfl rfl) rfl ?_
    refine Rg.make (f := encV) (sz := 1) (m := (unitsP l).length) (.slice none 0 0) hM rfl rfl rfl rfl rfl rfl rfl rfl rfl (by decide) rfl rfl rfl (by show (unitsP l).length * 24 ≤ 2 ^ 40; omega) (by omega) (fun ax0 Hc (hM : Mem Hu Hc ([.sl 1 ax0 (List.map encV (List.replicate ((unitsP l).length) (.slice none 0 0))), .box gp 4 ([.slice ua (List.map encS (unitsP l)).length uc, .map (some M), .slice none 0 0, .slice none 0 0]), .map M (mapE 0 (unitsP l))])) _ => ?_)
    refine Rg.opp (v := .pointer (some ⟨gp, 0, none⟩)) rfl rfl rfl rfl rfl ?_
    refine Rg.opp (v := .pointer (some ⟨gp, 3, none⟩)) rfl rfl rfl (ev_fld (o := 0) (p := (75, 3)) rfl rfl rfl rfl rfl (by decide)) rfl ?_
    refine Rg.stob1 (j := 1) (cs' := [.slice ua (List.map encS (unitsP l)).length uc, .map (some M), .slice none 0 0, ax0]) hM rfl rfl rfl rfl rfl rfl rfl rfl rfl ((hM.get_sl (j := 0) rfl).one) (Nat.le_of_ble_eq_true rfl) rfl (fun Hc (hM : Mem Hu Hc ([.sl 1 ax0 (List.map encV (List.replicate ((unitsP l).length) (.slice none 0 0))), .box gp 4 ([.slice ua (List.map encS (unitsP l)).length uc, .map (some M), .slice none 0 0, ax0]), .map M (mapE 0 (unitsP l))])) => ?_)
    refine Rg.nil ?_
    refine Runs.seq ?_
    refine Runs.seq ?_
    refine Runs.region ?_
    refine Rg.opp (v := v) rfl rfl rfl rfl rfl ?_
    refine Rg.opp (v := nat l.length) rfl rfl rfl (ev_lenM ((hl.sees heu.sees).sees hM.ext.sees) rfl rfl) rfl ?_
    refine Rg.opp (v := nat 0) rfl rfl rfl rfl rfl ?_
    refine Rg.nil ?_
    refine Runs.block ?_
    refine Runs.loop (fun m s Hc => ∃ (k : Nat) (av : Value) (nx : List Value), m = l.length - k ∧ Mem Hu Hc ((.sl 3 av (List.map arcC (arcsUp l k))) :: (.sl 1 ax0 (List.map encV nx)) :: (.box gp 4 [.slice ua (List.map encS (unitsP l)).length uc, .map (some M), av, ax0]) :: (.map M (mapE 0 (unitsP l))) :: (inner nx (unitsP l).length (arcsUp l k))) ∧ (k ≤ l.length) ∧ (nx.length = (unitsP l).length) ∧ Is s 96 [(3, .pointer (some ⟨gp, 0, none⟩)), (40, v), (41, nat l.length), (42, nat k)]) _
      ⟨0, .slice none 0 0, List.replicate (unitsP l).length (.slice none 0 0), rfl, by have h := (hM.nilSl 3).addNil 3 (unitsP l).length; rw [inner_start] at h; exact h, Nat.zero_le _, by simp, Is.of ⟨rfl, rfl, rfl, rfl, rfl, rfl, rfl, rfl, trivial⟩⟩ ?_
    rintro m s Hc ⟨k, av, nx, rfl, hM, hk2, hnl, hs⟩
    obtain ⟨a2, rfl⟩ := hs.mk1
    clear hs
    refine Runs.seq ?_
    refine Runs.region ?_
    by_cases hlt : k < l.length
    · skip
      have hlo : idx (unitsP l) l[k].lo < (unitsP l).length := idx_lt (mem_unitsP.2 (mem_names_lo (List.getElem_mem hlt)))
      have hup : idx (unitsP l) l[k].up < (unitsP l).length := idx_lt (mem_unitsP.2 (mem_names_up (List.getElem_mem hlt)))
      refine Rg.opp (v := .bool true) rfl rfl rfl (ev_ltT rfl rfl (hlt)) rfl ?_
      refine Rg.nil ?_
      refine Runs.seq ?_
      refine Runs.cond true rfl (fun _ => ?_) (fun h => by cases h)
      refine Runs.skip ?_
      refine Runs.seq ?_
      refine Runs.block ?_
      refine Runs.seq ?_
      refine Runs.region ?_
      refine Rg.opp (v := nat k) rfl rfl rfl rfl rfl ?_
      refine Rg.opp (v := ptrAt (sAddr v) (k * 3)) rfl rfl rfl (ev_idxM (k := k) ((hl.sees heu.sees).sees hM.ext.sees) rfl rfl (hlt) rfl rfl rfl (by decide)) rfl ?_
      refine Rg.opp (v := .agg (relC (l[k])).toArray) rfl rfl rfl (ev_ldAM (k := k) ((hl.sees heu.sees).sees hM.ext.sees) rfl (hlt) rfl rfl rfl) rfl ?_
      refine Rg.new (v := fun p => .pointer (some ⟨p, 0, none⟩)) (X := .row 3 [.int .i64 0, .string ⟨#[]⟩, .string ⟨#[]⟩] true true) (th := fun p => .box p 3 [.int .i64 0, .string ⟨#[]⟩, .string ⟨#[]⟩]) hM rfl rfl rfl rfl rfl rfl (fun _ => rfl) (fun p3 Hc hM _ => ?_)
      refine Rg.opp (v := nat k) rfl rfl rfl rfl rfl ?_
      refine Rg.stob (j := 0) (cs' := relC (l[k])) hM rfl rfl rfl rfl rfl rfl rfl rfl rfl rfl (Nat.le_of_ble_eq_true rfl) rfl (fun Hc (hM : Mem Hu Hc ((.box p3 3 (relC (l[k]))) :: (.sl 3 av (List.map arcC (arcsUp l k))) :: (.sl 1 ax0 (List.map encV nx)) :: (.box gp 4 [.slice ua (List.map encS (unitsP l)).length uc, .map (some M), av, ax0]) :: (.map M (mapE 0 (unitsP l))) :: (inner nx (unitsP l).length (arcsUp l k)))) => ?_)
      refine Rg.nil ?_
      refine Runs.seq ?_
      refine Runs.seq ?_
      refine Runs.region ?_
      refine Rg.opp (v := .pointer (some ⟨p3, 0, none⟩)) rfl rfl rfl (ev_fld (o := 0) (p := (3, 0)) rfl rfl rfl rfl rfl (by decide)) rfl ?_
      refine Rg.opp (v := nat (l[k].kind)) rfl rfl rfl (ev_ldb (hM.get_box (j := 0) rfl) rfl rfl rfl rfl rfl) rfl ?_
      by_cases hkd : l[k].kind = 4
      · skip
        refine Rg.opp (v := .bool true) rfl rfl rfl (ev_eqT rfl rfl (hkd)) rfl ?_
        refine Rg.nil ?_
        refine Runs.cond true rfl (fun _ => ?_) (fun h => by cases h)
        refine Runs.exit ?_
        refine Runs.region ?_
        refine Rg.opp (v := nat (k + 1)) rfl rfl rfl (ev_addN (b := 1) rfl rfl (by omega)) rfl ?_
        refine Rg.opp (v := nat (k + 1)) rfl rfl rfl rfl rfl ?_
        refine Rg.nil ?_
        refine ⟨l.length - (k + 1), by omega, k + 1, av, nx, rfl, by rw [arcsUp_succ hlt, if_pos hkd]; exact hM.tail, hlt, hnl, Is.of ⟨rfl, rfl, rfl, rfl, rfl, rfl, rfl, rfl, trivial⟩⟩
      · skip
        refine Rg.opp (v := .bool false) rfl rfl rfl (ev_eqF rfl rfl (hkd)) rfl ?_
        refine Rg.nil ?_
        refine Runs.cond false rfl (fun h => by cases h) (fun _ => ?_)
        refine Runs.skip ?_
        refine Runs.seq ?_
        refine Runs.drawn (is := [0, 1, 2, 3, 4, 5, 6, 7, 8, 9, 10, 11, 12, 13, 14, 15, 16, 17]) (by decide +kernel) ?_
        refine Rg.opp (v := nat k) rfl rfl rfl rfl rfl ?_
        refine Rg.opp (v := .pointer (some ⟨gp, 0, none⟩)) rfl rfl rfl rfl rfl ?_
        refine Rg.opp (v := .pointer (some ⟨gp, 0, none⟩)) rfl rfl rfl rfl rfl ?_
        refine Rg.opp (v := .pointer (some ⟨gp, 1, none⟩)) rfl rfl rfl (ev_fld (o := 0) (p := (74, 1)) rfl rfl rfl rfl rfl (by decide)) rfl ?_
        refine Rg.opp (v := .map (some M)) rfl rfl rfl (ev_ldb (hM.get_box (j := 3) rfl) rfl rfl rfl rfl rfl) rfl ?_
        refine Rg.opp (v := .pointer (some ⟨p3, 2, none⟩)) rfl rfl rfl (ev_fld (o := 0) (p := (9, 2)) rfl rfl rfl rfl rfl (by decide)) rfl ?_
        refine Rg.opp (v := str (l[k].lo)) rfl rfl rfl (ev_ldb (hM.get_box (j := 0) rfl) rfl rfl rfl rfl rfl) rfl ?_
        refine Rg.opp (v := nat (idx (unitsP l) l[k].lo)) rfl rfl rfl (ev_lookN rfl rfl (hM.get_map (j := 4) rfl)) rfl ?_
        refine Rg.opp (v := .pointer (some ⟨gp, 0, none⟩)) rfl rfl rfl rfl rfl ?_
        refine Rg.opp (v := .pointer (some ⟨gp, 0, none⟩)) rfl rfl rfl rfl rfl ?_
        refine Rg.opp (v := .pointer (some ⟨gp, 1, none⟩)) rfl rfl rfl (ev_fld (o := 0) (p := (74, 1)) rfl rfl rfl rfl rfl (by decide)) rfl ?_
        refine Rg.opp (v := .map (some M)) rfl rfl rfl (ev_ldb (hM.get_box (j := 3) rfl) rfl rfl rfl rfl rfl) rfl ?_
        refine Rg.opp (v := .pointer (some ⟨p3, 1, none⟩)) rfl rfl rfl (ev_fld (o := 0) (p := (9, 1)) rfl rfl rfl rfl rfl (by decide)) rfl ?_
        refine Rg.opp (v := str (l[k].up)) rfl rfl rfl (ev_ldb (hM.get_box (j := 0) rfl) rfl rfl rfl rfl rfl) rfl ?_
        refine Rg.opp (v := nat (idx (unitsP l) l[k].up)) rfl rfl rfl (ev_lookN rfl rfl (hM.get_map (j := 4) rfl)) rfl ?_
        refine Rg.opp (v := .agg (arcC (⟨k, idx (unitsP l) l[k].lo, idx (unitsP l) l[k].up⟩ : Arc)).toArray) rfl rfl rfl rfl rfl ?_
        refine Rg.new (v := fun p => .pointer (some ⟨p, 0, none⟩)) (X := .row 3 [.int .i64 0, .int .i64 0, .int .i64 0] true true) (th := fun p => .box p 3 [.int .i64 0, .int .i64 0, .int .i64 0]) hM rfl rfl rfl rfl rfl rfl (fun _ => rfl) (fun p4 Hc hM _ => ?_)
        refine Rg.stob (j := 0) (cs' := arcC (⟨k, idx (unitsP l) l[k].lo, idx (unitsP l) l[k].up⟩ : Arc)) hM rfl rfl rfl rfl rfl rfl rfl rfl rfl rfl (Nat.le_of_ble_eq_true rfl) rfl (fun Hc (hM : Mem Hu Hc ((.box p4 3 (arcC (⟨k, idx (unitsP l) l[k].lo, idx (unitsP l) l[k].up⟩ : Arc))) :: (.box p3 3 (relC (l[k]))) :: (.sl 3 av (List.map arcC (arcsUp l k))) :: (.sl 1 ax0 (List.map encV nx)) :: (.box gp 4 [.slice ua (List.map encS (unitsP l)).length uc, .map (some M), av, ax0]) :: (.map M (mapE 0 (unitsP l))) :: (inner nx (unitsP l).length (arcsUp l k)))) => ?_)
        refine Rg.nil ?_
        refine Runs.seq ?_
        refine Runs.drawn (is := [1, 2, 3, 4, 5, 6, 7, 0, 8, 9, 10]) (by decide +kernel) ?_
        refine Rg.opp (v := .pointer (some ⟨gp, 0, none⟩)) rfl rfl rfl rfl rfl ?_
        refine Rg.opp (v := .pointer (some ⟨gp, 0, none⟩)) rfl rfl rfl rfl rfl ?_
        refine Rg.opp (v := .pointer (some ⟨gp, 2, none⟩)) rfl rfl rfl (ev_fld (o := 0) (p := (73, 2)) rfl rfl rfl rfl rfl (by decide)) rfl ?_
        refine Rg.opp (v := av) rfl rfl rfl (ev_ldb (hM.get_box (j := 4) rfl) rfl rfl rfl rfl rfl) rfl ?_
        refine Rg.opp (v := .agg (arcC (⟨k, idx (unitsP l) l[k].lo, idx (unitsP l) l[k].up⟩ : Arc)).toArray) rfl rfl rfl (ev_ldbA (hM.get_box (j := 0) rfl) rfl rfl rfl rfl) rfl ?_
        refine Rg.lit (f := arcC) (sz := 3) (xs := [(⟨k, idx (unitsP l) l[k].lo, idx (unitsP l) l[k].up⟩ : Arc)]) hM rfl rfl rfl rfl rfl (by simp) (by simp) (fun u5 Hc (hM : Mem Hu Hc ((.sl 3 u5 (List.map arcC ([(⟨k, idx (unitsP l) l[k].lo, idx (unitsP l) l[k].up⟩ : Arc)]))) :: (.box p4 3 (arcC (⟨k, idx (unitsP l) l[k].lo, idx (unitsP l) l[k].up⟩ : Arc))) :: (.box p3 3 (relC (l[k]))) :: (.sl 3 av (List.map arcC (arcsUp l k))) :: (.sl 1 ax0 (List.map encV nx)) :: (.box gp 4 [.slice ua (List.map encS (unitsP l)).length uc, .map (some M), av, ax0]) :: (.map M (mapE 0 (unitsP l))) :: (inner nx (unitsP l).length (arcsUp l k)))) _ => ?_)
        refine Rg.appM (f := arcC) (sz := 3) (j := 3) (v := av) (xs := arcsUp l k) (ys := [(⟨k, idx (unitsP l) l[k].lo, idx (unitsP l) l[k].up⟩ : Arc)]) hM rfl rfl rfl rfl rfl rfl rfl (hM.get_sl (j := 0) rfl) ⟨rfl, rfl, rfl, by decide⟩ rfl (by simp [oneCell]) (by show (_ + _) * 24 ≤ 2 ^ 40; have := arcsUp_len l k; simp only [List.length_cons, List.length_nil]; omega) (by simp) (fun av1 Hc (hM : Mem Hu Hc ((.sl 3 u5 (List.map arcC ([(⟨k, idx (unitsP l) l[k].lo, idx (unitsP l) l[k].up⟩ : Arc)]))) :: (.box p4 3 (arcC (⟨k, idx (unitsP l) l[k].lo, idx (unitsP l) l[k].up⟩ : Arc))) :: (.box p3 3 (relC (l[k]))) :: (.sl 3 av1 (List.map arcC ((arcsUp l k) ++ ([(⟨k, idx (unitsP l) l[k].lo, idx (unitsP l) l[k].up⟩ : Arc)])))) :: (.sl 1 ax0 (List.map encV nx)) :: (.box gp 4 [.slice ua (List.map encS (unitsP l)).length uc, .map (some M), av, ax0]) :: (.map M (mapE 0 (unitsP l))) :: (inner nx (unitsP l).length (arcsUp l k)))) hga => ?_)
        replace hM : Mem Hu _ ((.box p4 3 (arcC (⟨k, idx (unitsP l) l[k].lo, idx (unitsP l) l[k].up⟩ : Arc))) :: (.box p3 3 (relC (l[k]))) :: (.sl 3 av1 (List.map arcC ((arcsUp l k) ++ ([(⟨k, idx (unitsP l) l[k].lo, idx (unitsP l) l[k].up⟩ : Arc)])))) :: (.sl 1 ax0 (List.map encV nx)) :: (.box gp 4 [.slice ua (List.map encS (unitsP l)).length uc, .map (some M), av, ax0]) :: (.map M (mapE 0 (unitsP l))) :: (inner nx (unitsP l).length (arcsUp l k))) := hM.erase 0
        refine Rg.opp (v := .pointer (some ⟨gp, 0, none⟩)) rfl rfl rfl rfl rfl ?_
        refine Rg.opp (v := .pointer (some ⟨gp, 0, none⟩)) rfl rfl rfl rfl rfl ?_
        refine Rg.opp (v := .pointer (some ⟨gp, 2, none⟩)) rfl rfl rfl (ev_fld (o := 0) (p := (73, 2)) rfl rfl rfl rfl rfl (by decide)) rfl ?_
        refine Rg.stob1 (j := 4) (cs' := [.slice ua (List.map encS (unitsP l)).length uc, .map (some M), av1, ax0]) hM rfl rfl rfl rfl rfl rfl rfl rfl rfl (hga.one) (Nat.le_of_ble_eq_true rfl) rfl (fun Hc (hM : Mem Hu Hc ((.box p4 3 (arcC (⟨k, idx (unitsP l) l[k].lo, idx (unitsP l) l[k].up⟩ : Arc))) :: (.box p3 3 (relC (l[k]))) :: (.sl 3 av1 (List.map arcC ((arcsUp l k) ++ ([(⟨k, idx (unitsP l) l[k].lo, idx (unitsP l) l[k].up⟩ : Arc)])))) :: (.sl 1 ax0 (List.map encV nx)) :: (.box gp 4 ([.slice ua (List.map encS (unitsP l)).length uc, .map (some M), av1, ax0])) :: (.map M (mapE 0 (unitsP l))) :: (inner nx (unitsP l).length (arcsUp l k)))) => ?_)
        refine Rg.nil ?_
        refine Runs.drawn (is := [6, 7, 8, 9, 10, 11, 12, 13, 14, 15, 16, 0, 1, 2, 3, 4, 5, 17, 18]) (by decide +kernel) ?_
        refine Rg.opp (v := .pointer (some ⟨gp, 0, none⟩)) rfl rfl rfl rfl rfl ?_
        refine Rg.opp (v := .pointer (some ⟨gp, 0, none⟩)) rfl rfl rfl rfl rfl ?_
        refine Rg.opp (v := .pointer (some ⟨gp, 3, none⟩)) rfl rfl rfl (ev_fld (o := 0) (p := (75, 3)) rfl rfl rfl rfl rfl (by decide)) rfl ?_
        refine Rg.opp (v := ax0) rfl rfl rfl (ev_ldb (hM.get_box (j := 4) rfl) rfl rfl rfl rfl rfl) rfl ?_
        refine Rg.opp (v := .pointer (some ⟨p4, 1, none⟩)) rfl rfl rfl (ev_fld (o := 0) (p := (3, 1)) rfl rfl rfl rfl rfl (by decide)) rfl ?_
        refine Rg.opp (v := nat (idx (unitsP l) l[k].lo)) rfl rfl rfl (ev_ldb (hM.get_box (j := 0) rfl) rfl rfl rfl rfl rfl) rfl ?_
        refine Rg.opp (v := ptrAt (sAddr ax0) ((idx (unitsP l) l[k].lo) * 1)) rfl rfl rfl (ev_idxM (k := idx (unitsP l) l[k].lo) (hM.get_sl (j := 3) rfl) rfl rfl (by omega) rfl rfl rfl (by decide)) rfl ?_
        refine Rg.opp (v := nx[idx (unitsP l) l[k].lo]) rfl rfl rfl (ev_ldM (k := (idx (unitsP l) l[k].lo)) (hM.get_sl (j := 3) rfl) rfl (by omega) rfl rfl rfl rfl) rfl ?_
        refine Rg.opp (v := .agg (arcC (⟨k, idx (unitsP l) l[k].lo, idx (unitsP l) l[k].up⟩ : Arc)).toArray) rfl rfl rfl (ev_ldbA (hM.get_box (j := 0) rfl) rfl rfl rfl rfl) rfl ?_
        refine Rg.lit (f := arcC) (sz := 3) (xs := [(⟨k, idx (unitsP l) l[k].lo, idx (unitsP l) l[k].up⟩ : Arc)]) hM rfl rfl rfl rfl rfl (by simp) (by simp) (fun u6 Hc (hM : Mem Hu Hc ((.sl 3 u6 (List.map arcC ([(⟨k, idx (unitsP l) l[k].lo, idx (unitsP l) l[k].up⟩ : Arc)]))) :: (.box p4 3 (arcC (⟨k, idx (unitsP l) l[k].lo, idx (unitsP l) l[k].up⟩ : Arc))) :: (.box p3 3 (relC (l[k]))) :: (.sl 3 av1 (List.map arcC ((arcsUp l k) ++ ([(⟨k, idx (unitsP l) l[k].lo, idx (unitsP l) l[k].up⟩ : Arc)])))) :: (.sl 1 ax0 (List.map encV nx)) :: (.box gp 4 ([.slice ua (List.map encS (unitsP l)).length uc, .map (some M), av1, ax0])) :: (.map M (mapE 0 (unitsP l))) :: (inner nx (unitsP l).length (arcsUp l k)))) _ => ?_)
        have hj : ((.sl 3 u6 (List.map arcC ([(⟨k, idx (unitsP l) l[k].lo, idx (unitsP l) l[k].up⟩ : Arc)]))) :: (.box p4 3 (arcC (⟨k, idx (unitsP l) l[k].lo, idx (unitsP l) l[k].up⟩ : Arc))) :: (.box p3 3 (relC (l[k]))) :: (.sl 3 av1 (List.map arcC ((arcsUp l k) ++ ([(⟨k, idx (unitsP l) l[k].lo, idx (unitsP l) l[k].up⟩ : Arc)])))) :: (.sl 1 ax0 (List.map encV nx)) :: (.box gp 4 ([.slice ua (List.map encS (unitsP l)).length uc, .map (some M), av1, ax0])) :: (.map M (mapE 0 (unitsP l))) :: (inner nx (unitsP l).length (arcsUp l k)))[idx (unitsP l) l[k].lo + 7]? = some (.sl 3 nx[idx (unitsP l) l[k].lo] ((nextOf (arcsUp l k) (idx (unitsP l) l[k].lo)).map arcC)) := inner_get hlo hnl
        refine Rg.appM (f := arcC) (sz := 3) (j := idx (unitsP l) l[k].lo + 7) (v := nx[idx (unitsP l) l[k].lo]) (xs := nextOf (arcsUp l k) (idx (unitsP l) l[k].lo)) (ys := [(⟨k, idx (unitsP l) l[k].lo, idx (unitsP l) l[k].up⟩ : Arc)]) hM rfl rfl rfl rfl hj rfl rfl (hM.get_sl (j := 0) rfl) ⟨rfl, rfl, rfl, by decide⟩ rfl (by simp [oneCell]) (by show (_ + _) * 24 ≤ 2 ^ 40; have := next_len (arcsUp l k) (idx (unitsP l) l[k].lo); have := arcsUp_len l k; simp only [List.length_cons, List.length_nil]; omega) (by simp) (fun u Hc hM hgu => ?_)
        replace hM : Mem Hu Hc ((.sl 3 u6 (List.map arcC ([(⟨k, idx (unitsP l) l[k].lo, idx (unitsP l) l[k].up⟩ : Arc)]))) :: (.box p4 3 (arcC (⟨k, idx (unitsP l) l[k].lo, idx (unitsP l) l[k].up⟩ : Arc))) :: (.box p3 3 (relC (l[k]))) :: (.sl 3 av1 (List.map arcC ((arcsUp l k) ++ ([(⟨k, idx (unitsP l) l[k].lo, idx (unitsP l) l[k].up⟩ : Arc)])))) :: (.sl 1 ax0 (List.map encV nx)) :: (.box gp 4 ([.slice ua (List.map encS (unitsP l)).length uc, .map (some M), av1, ax0])) :: (.map M (mapE 0 (unitsP l))) :: (inner (nx.set (idx (unitsP l) l[k].lo) u) (unitsP l).length (arcsUp l k ++ [(⟨k, idx (unitsP l) l[k].lo, idx (unitsP l) l[k].up⟩ : Arc)]))) := by rw [← inner_set (a := (⟨k, idx (unitsP l) l[k].lo, idx (unitsP l) l[k].up⟩ : Arc)) hlo hnl]; exact hM
        replace hM : Mem Hu _ ((.box p4 3 (arcC (⟨k, idx (unitsP l) l[k].lo, idx (unitsP l) l[k].up⟩ : Arc))) :: (.box p3 3 (relC (l[k]))) :: (.sl 3 av1 (List.map arcC ((arcsUp l k) ++ ([(⟨k, idx (unitsP l) l[k].lo, idx (unitsP l) l[k].up⟩ : Arc)])))) :: (.sl 1 ax0 (List.map encV nx)) :: (.box gp 4 ([.slice ua (List.map encS (unitsP l)).length uc, .map (some M), av1, ax0])) :: (.map M (mapE 0 (unitsP l))) :: (inner (nx.set (idx (unitsP l) l[k].lo) u) (unitsP l).length (arcsUp l k ++ [(⟨k, idx (unitsP l) l[k].lo, idx (unitsP l) l[k].up⟩ : Arc)]))) := hM.erase 0
        refine Rg.opp (v := .pointer (some ⟨gp, 0, none⟩)) rfl rfl rfl rfl rfl ?_
        refine Rg.opp (v := .pointer (some ⟨gp, 0, none⟩)) rfl rfl rfl rfl rfl ?_
        refine Rg.opp (v := .pointer (some ⟨gp, 3, none⟩)) rfl rfl rfl (ev_fld (o := 0) (p := (75, 3)) rfl rfl rfl rfl rfl (by decide)) rfl ?_
        refine Rg.opp (v := ax0) rfl rfl rfl (ev_ldb (hM.get_box (j := 4) rfl) rfl rfl rfl rfl rfl) rfl ?_
        refine Rg.opp (v := .pointer (some ⟨p4, 1, none⟩)) rfl rfl rfl (ev_fld (o := 0) (p := (3, 1)) rfl rfl rfl rfl rfl (by decide)) rfl ?_
        refine Rg.opp (v := nat (idx (unitsP l) l[k].lo)) rfl rfl rfl (ev_ldb (hM.get_box (j := 0) rfl) rfl rfl rfl rfl rfl) rfl ?_
        refine Rg.opp (v := ptrAt (sAddr ax0) ((idx (unitsP l) l[k].lo) * 1)) rfl rfl rfl (ev_idxM (k := idx (unitsP l) l[k].lo) (hM.get_sl (j := 3) rfl) rfl rfl (by omega) rfl rfl rfl (by decide)) rfl ?_
        refine Rg.stoM (f := encV) (j := 3) (k := (idx (unitsP l) l[k].lo)) u hM rfl rfl rfl rfl rfl rfl rfl (by omega) rfl hgu.one.1 rfl rfl (by simp [hgu.one.2.1]) (fun Hc (hM : Mem Hu Hc ((.box p4 3 (arcC (⟨k, idx (unitsP l) l[k].lo, idx (unitsP l) l[k].up⟩ : Arc))) :: (.box p3 3 (relC (l[k]))) :: (.sl 3 av1 (List.map arcC ((arcsUp l k) ++ ([(⟨k, idx (unitsP l) l[k].lo, idx (unitsP l) l[k].up⟩ : Arc)])))) :: (.sl 1 ax0 (List.map encV ((nx).set ((idx (unitsP l) l[k].lo)) u))) :: (.box gp 4 ([.slice ua (List.map encS (unitsP l)).length uc, .map (some M), av1, ax0])) :: (.map M (mapE 0 (unitsP l))) :: (inner (nx.set (idx (unitsP l) l[k].lo) u) (unitsP l).length (arcsUp l k ++ [(⟨k, idx (unitsP l) l[k].lo, idx (unitsP l) l[k].up⟩ : Arc)])))) => ?_)
        refine Rg.nil ?_
        refine Runs.region ?_
        refine Rg.opp (v := nat (k + 1)) rfl rfl rfl (ev_addN (b := 1) rfl rfl (by omega)) rfl ?_
        refine Rg.opp (v := nat (k + 1)) rfl rfl rfl rfl rfl ?_
        refine Rg.nil ?_
        refine ⟨l.length - (k + 1), by omega, k + 1, av1, nx.set (idx (unitsP l) l[k].lo) u, rfl, by rw [arcsUp_succ hlt, if_neg hkd]; exact hM.drop 2, hlt, by simpa using hnl, Is.of ⟨rfl, rfl, rfl, rfl, rfl, rfl, rfl, rfl, trivial⟩⟩
    · skip
      refine Rg.opp (v := .bool false) rfl rfl rfl (ev_ltF rfl rfl (hlt)) rfl ?_
      refine Rg.nil ?_
      refine Runs.seq ?_
      refine Runs.cond false rfl (fun h => by cases h) (fun _ => ?_)
      refine Runs.exit ?_
      refine Runs.seq ?_
      refine Runs.region ?_
      refine Rg.opp (v := .pointer (some ⟨gp, 0, none⟩)) rfl rfl rfl rfl rfl ?_
      refine Rg.opp (v := .pointer (some ⟨gp, 0, none⟩)) rfl rfl rfl rfl rfl ?_
      refine Rg.nil ?_
      refine Runs.ret ?_
      refine ⟨.pointer (some ⟨gp, 0, none⟩), rfl, ?_⟩
      have hkl : k = l.length := by omega
      subst hkl
      refine ⟨gp, _, _, _, M, nx, rfl, ⟨hM.get_box (j := 2) rfl, hus.sees hM.ext.sees, hM.get_sl (j := 0) rfl, hM.get_sl (j := 1) rfl, hnl, fun i hi => ?_⟩, hM.base heu⟩
      have hi' : i < (unitsP l).length := by omega
      exact hM.get_sl (j := i + 4) (show (inner nx (unitsP l).length (arcsUp l l.length))[i]? = _ from inner_get hi' hnl)

end Go.Proofs.Ytdhbclplondmjaa.C

end

section
/- cyclic, run. -/
set_option linter.unusedVariables false
set_option linter.unusedSimpArgs false
set_option maxRecDepth 100000
set_option maxHeartbeats 4000000
namespace Go.Proofs.Ytdhbclplondmjaa.C
open Go.RowKit Go.Sort

theorem cyclic_runs {H : Heap} {v : Value} {l : List Rel} (hl : Sl H 3 v (rels l)) (hll : l.length ≤ 2 ^ 16) (hn : (unitsP l).length ≤ 8) :
    ∃ r H1, big tab 13 [v] H = some (r, H1) ∧ r = .bool (cycB (arcsOf l)) ∧ Ext H H1 := by
  refine big_of_runs rfl rfl rfl ?_
  obtain ⟨z, hz⟩ := startC_mkS Try.f13 [v]
  rw [show startC (13, Try.f13).snd [v] = _ from hz]
  clear hz
  refine Runs.cut (n := 21) (l := [(0, v)]) (Is.of ⟨rfl, rfl, trivial⟩) (fun a0 => ?_)
  refine Runs.seq ?_
  refine Runs.region ?_
  refine Rg.opp (v := .bool false) rfl rfl rfl rfl rfl ?_
  refine Rg.nil ?_
  refine Runs.seq ?_
  refine Runs.region ?_
  refine Rg.opp (v := v) rfl rfl rfl rfl rfl ?_
  refine Rg.callW rfl rfl rfl rfl (rfl) rfl (reach_runs hl (by omega) (by omega)) (fun rv Hr hP => ?_)
  obtain ⟨her, ov, mm, hrow, hov, hrows, hF⟩ := hP
  have hM := Mem.start Hr
  refine Rg.opp (v := rv) rfl rfl rfl rfl rfl ?_
  refine Rg.nil ?_
  refine Runs.seq ?_
  refine Runs.seq ?_
  refine Runs.region ?_
  refine Rg.opp (v := nat 0) rfl rfl rfl rfl rfl ?_
  refine Rg.nil ?_
  refine Runs.block ?_
  refine Runs.loop (fun m s Hc => ∃ (i : Nat), m = ov.length - i ∧ Mem Hr Hc ([]) ∧ (i ≤ ov.length) ∧ (∀ k, k < i → mm k k = 0) ∧ Is s 21 [(3, rv), (4, nat i)]) _
    ⟨0, rfl, hM, Nat.zero_le _, fun k h => by omega, Is.of ⟨rfl, rfl, rfl, rfl, trivial⟩⟩ ?_
  rintro m s Hc ⟨i, rfl, hM, hi, hno, hs⟩
  obtain ⟨a1, rfl⟩ := hs.mk1
  clear hs
  refine Runs.seq ?_
  refine Runs.seq ?_
  refine Runs.region ?_
  refine Rg.opp (v := nat i) rfl rfl rfl rfl rfl ?_
  refine Rg.opp (v := rv) rfl rfl rfl rfl rfl ?_
  refine Rg.opp (v := nat ov.length) rfl rfl rfl (ev_lenM (hrow.sees hM.ext.sees) rfl rfl) rfl ?_
  by_cases hlt : i < ov.length
  · skip
    refine Rg.opp (v := .bool true) rfl rfl rfl (ev_ltT rfl rfl (hlt)) rfl ?_
    refine Rg.nil ?_
    refine Runs.cond true rfl (fun _ => ?_) (fun h => by cases h)
    refine Runs.skip ?_
    refine Runs.seq ?_
    refine Runs.block ?_
    refine Runs.seq ?_
    refine Runs.region ?_
    refine Rg.opp (v := rv) rfl rfl rfl rfl rfl ?_
    refine Rg.opp (v := nat i) rfl rfl rfl rfl rfl ?_
    refine Rg.opp (v := ptrAt (sAddr rv) (i * 1)) rfl rfl rfl (ev_idxM (k := i) (hrow.sees hM.ext.sees) rfl rfl (hlt) rfl rfl rfl (by decide)) rfl ?_
    refine Rg.opp (v := ov[i]) rfl rfl rfl (ev_ldM (k := i) (hrow.sees hM.ext.sees) rfl (hlt) rfl rfl rfl rfl) rfl ?_
    refine Rg.opp (v := nat i) rfl rfl rfl rfl rfl ?_
    refine Rg.opp (v := ptrAt (sAddr (ov[i])) (i * 1)) rfl rfl rfl (ev_idxM (k := i) ((hrows i hlt).sees hM.ext.sees) rfl rfl (by simp; omega) rfl rfl rfl (by decide)) rfl ?_
    refine Rg.opp (v := nat (mm i i)) rfl rfl rfl (ev_ldM (k := i) ((hrows i hlt).sees hM.ext.sees) rfl (by simp; omega) (by simp) rfl rfl rfl) rfl ?_
    by_cases hpos : 0 < mm i i
    · skip
      refine Rg.opp (v := .bool true) rfl rfl rfl (ev_gtT rfl rfl (hpos)) rfl ?_
      refine Rg.nil ?_
      refine Runs.cond true rfl (fun _ => ?_) (fun h => by cases h)
      refine Runs.seq ?_
      refine Runs.region ?_
      refine Rg.opp (v := .bool true) rfl rfl rfl rfl rfl ?_
      refine Rg.nil ?_
      refine Runs.ret ?_
      refine ⟨.bool true, rfl, ?_⟩
      refine ⟨?_, her.trans hM.ext⟩
      rw [cycB_iff.2 ⟨i, (rch_far (arcs_wf l) hn (hF i i)).1 hpos⟩]
    · skip
      refine Rg.opp (v := .bool false) rfl rfl rfl (ev_gtF rfl rfl (hpos)) rfl ?_
      refine Rg.nil ?_
      refine Runs.cond false rfl (fun h => by cases h) (fun _ => ?_)
      refine Runs.skip ?_
      refine Runs.region ?_
      refine Rg.opp (v := nat i) rfl rfl rfl rfl rfl ?_
      refine Rg.opp (v := nat (i + 1)) rfl rfl rfl (ev_addN (b := 1) rfl rfl (by omega)) rfl ?_
      refine Rg.opp (v := nat (i + 1)) rfl rfl rfl rfl rfl ?_
      refine Rg.nil ?_
      refine ⟨ov.length - (i + 1), by omega, i + 1, rfl, hM, hlt, fun k hk => by
        rcases Nat.lt_or_ge k i with q | q
        · exact hno k q
        · have : k = i := by omega
          subst this; omega, Is.of ⟨rfl, rfl, rfl, rfl, trivial⟩⟩
  · skip
    refine Rg.opp (v := .bool false) rfl rfl rfl (ev_ltF rfl rfl (hlt)) rfl ?_
    refine Rg.nil ?_
    refine Runs.cond false rfl (fun h => by cases h) (fun _ => ?_)
    refine Runs.exit ?_
    refine Runs.seq ?_
    refine Runs.region ?_
    refine Rg.opp (v := .bool false) rfl rfl rfl rfl rfl ?_
    refine Rg.nil ?_
    refine Runs.ret ?_
    refine ⟨.bool false, rfl, ?_⟩
    refine ⟨?_, her.trans hM.ext⟩
    rw [cycB_not.2]
    rintro ⟨x, hx⟩
    have h1 := (rch_lt (arcs_wf l) hx).1
    have h2 := (rch_far (arcs_wf l) hn (hF x x)).2 hx
    have := hno x (by omega)
    omega


end Go.Proofs.Ytdhbclplondmjaa.C

end
