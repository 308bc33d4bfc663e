/- Texts of one's own, laid together: X17, X18, X19 -/
import Derived.Test.YtdhbclplondmjaaQr28
section
/- The program's Ranks, run. -/
set_option linter.unusedVariables false
set_option linter.unusedSimpArgs false
set_option maxRecDepth 100000
set_option maxHeartbeats 4000000
namespace Go.Proofs.Ytdhbclplondmjaa.C
open Go.RowKit Go.Sort

theorem backward_runs {H : Heap} {so : Value} {o : List Nat} (hso : Sl H 1 so (o.map encN)) :
    ∃ r H1, big tab 34 [so] H = some (r, H1) ∧ ∃ pb, r = .func (.func 47) #[] #[.pointer (some ⟨pb, 0, none⟩)] ∧ Mem H H1 [.box pb 1 [so]] := by
  have hM := Mem.start H
  refine big_of_runs rfl rfl rfl ?_
  obtain ⟨z, hz⟩ := startC_mkS Try.f34 [so]
  rw [show startC (34, Try.f34).snd [so] = _ from hz]
  clear hz
  refine Runs.cut (n := 4) (l := [(0, so)]) (Is.of ⟨rfl, rfl, trivial⟩) (fun a0 => ?_)
  refine Runs.seq ?_
  refine Runs.region ?_
  refine Rg.box1 (sz := 1) hM rfl rfl rfl rfl rfl ((hso).one) rfl rfl (fun pb Hc hM _ => ?_)
  refine Rg.opp (v := .nilFunc) rfl rfl rfl rfl rfl ?_
  refine Rg.nil ?_
  refine Runs.seq ?_
  refine Runs.region ?_
  refine Rg.opp (v := .func (.func 47) #[] #[.pointer (some ⟨pb, 0, none⟩)]) rfl rfl rfl rfl rfl ?_
  refine Rg.opp (v := .func (.func 47) #[] #[.pointer (some ⟨pb, 0, none⟩)]) rfl rfl rfl rfl rfl ?_
  refine Rg.nil ?_
  refine Runs.ret ?_
  refine ⟨.func (.func 47) #[] #[.pointer (some ⟨pb, 0, none⟩)], rfl, ?_⟩
  exact ⟨pb, rfl, hM⟩

theorem RunsX.cut {T : Tab} {s : List Value} {H : Heap} {N : St} {X : Nat → St} {R : St} {c : Code} {n : Nat} {l : List (Nat × Value)} (h : Is s n l) (k : ∀ a, RunsX T c (mkS n a l) H N X R) : RunsX T c s H N X R := by
  obtain ⟨a, rfl⟩ := h.mk1; exact k a

theorem RunsX.back {I : Nat → Heap → Prop} {pb : Nat} {so : Value} {o : List Nat} {H : Heap} {N : St} {X : Nat → St} {R : St} {g : Operand} {d1 d2 : Tmp} {assign body : Code} {n : Nat} {a : Nat → Value} {l : List (Nat × Value)} (hg : ev (mkS n a l) g = .func (.func 47) #[] #[.pointer (some ⟨pb, 0, none⟩)])
    (hI : ∀ k H, I k H → (∃ own, H[pb]? = some (Blk.row 1 [so] own true)) ∧ Sl H 1 so (o.map encN)) (ho : o.length < 2 ^ 40)
    (hr : ∀ k (hk : k < o.length) H, I (k + 1) H → Runs tab assign (mkS n a ((d2, nat o[k]) :: (d1, nat k) :: l)) H (fun s1 H1 => Runs tab body s1 H1 (fun _ H2 => I k H2) (fun _ _ _ => False) (fun _ _ => False)) (fun _ _ _ => False) (fun _ _ => False))
    (h0 : I o.length (H ++ [.row 0 [] false false])) (k : ∀ H1, I 0 H1 → N (mkS n a l) H1) (hk : (calm (bodyOf Try.f47) && codeChk assign && calm assign && codeChk body && calm body) = true := by decide +kernel) : RunsX tab (.rangeFunc g #[d1, d2] assign body) (mkS n a l) H N X R := by
  obtain ⟨e, s1, H1, h1, h2, h3⟩ := back_iter (rd := fun m => rangeRound tab (big tab) m (mkS n a l) #[d1, d2] assign body) hI ho (fun k hk H hi => by
    have e : putAll (mkS n a l) (#[d1, d2] : Array Tmp).toList [nat k, nat o[k]] = mkS n a ((d2, nat o[k]) :: (d1, nat k) :: l) := by
      show put (put (mkS n a l) (some d1) (nat k)) (some d2) (nat o[k]) = _
      rw [put_mkS, put_mkS]
    exact round_of rfl (by rw [e]; exact hr k hk H hi)) h0 H.length
  exact RunsX.range (first := []) (cap := [.pointer (some ⟨pb, 0, none⟩)]) hg rfl body47 hk ⟨e, s1, .tuple #[], h1, h2, rfl⟩ (k H1 h3)

theorem ranks_ev {H : Heap} {v : Value} {l : List Rel} (hl : Sl H 3 v (rels l)) (hll : l.length ≤ 200) (hg : ∀ r ∈ l, Good r) (hu : (unitsP l).length ≤ 60) :
    ∃ r H1, (Ev fun n => callX tab (big tab) n Try.f12 [v] H = some (r, H1)) ∧ Ext H H1 ∧ if cycB (arcsOf l) = true then r = .tuple #[.slice none 0 0, .slice none 0 0, nat 27] else
      ∃ (e1 l1 : Value) (e d : Nat → Nat) (mo : Nat), r = .tuple #[e1, l1, nat 0] ∧ Sl H1 1 e1 (List.map encN ((List.range (unitsP l).length).map e)) ∧ Sl H1 1 l1 (List.map encI ((List.range (unitsP l).length).map fun x => ((mo : Nat) : Int) - ((d x : Nat) : Int))) ∧ RankOk (arcsOf l) (unitsP l).length e d mo := by
  have hM := Mem.start H
  refine runsX_call rfl ?_
  obtain ⟨z, hz⟩ := startC_mkS Try.f12 [v]
  rw [hz]
  clear hz
  refine RunsX.cut (n := 123) (l := [(0, v)]) (Is.of ⟨rfl, rfl, trivial⟩) (fun a0 => ?_)
  refine RunsX.seqR rfl (by decide +kernel) ?_
  refine Runs.region ?_
  refine Rg.opp (v := .slice none 0 0) rfl rfl rfl rfl rfl ?_
  refine Rg.new (v := fun p => .pointer (some ⟨p, 0, none⟩)) (X := .row 1 [.slice none 0 0] true true) (th := fun p => .box p 1 [.slice none 0 0]) hM rfl rfl rfl rfl rfl rfl (fun _ => rfl) (fun plat Hc hM _ => ?_)
  refine Rg.opp (v := nat 0) rfl rfl rfl rfl rfl ?_
  refine Rg.nil ?_
  refine RunsX.seqR rfl (by decide +kernel) ?_
  refine Runs.seq ?_
  refine Runs.region ?_
  refine Rg.opp (v := v) rfl rfl rfl rfl rfl ?_
  refine Rg.callW rfl rfl rfl rfl (rfl) rfl (checkP_runs (hl.sees hM.ext.sees) hll hg hu) (fun rc Hk hP => ?_)
  obtain ⟨rfl, hec⟩ := hP
  have hM0 := hM.more hec
  replace hM := Mem.start Hk
  refine Rg.opp (v := nat 0) rfl rfl rfl rfl rfl ?_
  refine Rg.nil ?_
  refine Runs.seq ?_
  refine Runs.region ?_
  refine Rg.opp (v := nat 0) rfl rfl rfl rfl rfl ?_
  refine Rg.opp (v := .bool false) rfl rfl rfl (ev_neF rfl rfl (by decide)) rfl ?_
  refine Rg.nil ?_
  refine Runs.cond false rfl (fun h => by cases h) (fun _ => ?_)
  refine Runs.skip ?_
  refine RunsX.seqR rfl (by decide +kernel) ?_
  refine Runs.region ?_
  refine Rg.opp (v := v) rfl rfl rfl rfl rfl ?_
  refine Rg.callW rfl rfl rfl rfl (rfl) rfl (build_mem (hl.sees hM0.ext.sees) (by omega) (by omega)) (fun rb Hb hP => ?_)
  obtain ⟨gp, an, aa, ax, M, nx, rfl, hG, hGM⟩ := hP
  have hM1 := (hM0.under hGM).rot
  clear hGM hM0
  have wf := arcs_wf l
  have hal : (arcsOf l).length ≤ l.length := arcsUp_len l l.length
  generalize arcsOf l = arcs at hG wf hal hM1 ⊢
  generalize unitsP l = names at hG wf hu hM1 ⊢
  have hnl := hG.len
  replace hM := Mem.start Hb
  refine Rg.new (v := fun p => .pointer (some ⟨p, 0, none⟩)) (X := .row 1 [.pointer none] true true) (th := fun p => .box p 1 [.pointer none]) hM rfl rfl rfl rfl rfl rfl (fun _ => rfl) (fun pg6 Hc hM _ => ?_)
  refine Rg.stob (j := 0) (cs' := [.pointer (some ⟨gp, 0, none⟩)]) hM rfl rfl rfl rfl rfl rfl rfl rfl rfl rfl (Nat.le_of_ble_eq_true rfl) rfl (fun Hc (hM : Mem Hb Hc ([.box pg6 1 ([.pointer (some ⟨gp, 0, none⟩)])])) => ?_)
  refine Rg.nil ?_
  refine RunsX.seqR rfl (by decide +kernel) ?_
  refine Runs.region ?_
  refine Rg.opp (v := .pointer (some ⟨gp, 0, none⟩)) rfl rfl rfl (ev_ldb (hM.get_box (j := 0) rfl) rfl rfl rfl rfl rfl) rfl ?_
  by_cases hcy : cycB arcs = true
  · skip
    refine Rg.callW rfl rfl rfl rfl (rfl) rfl (sorted_runs (GraphAt.sees hM.ext.sees ⟨_, _, _, _, _, _, hG⟩) wf (by omega) (by omega)) (fun rs Hs hP => ?_)
    obtain ⟨so, o, hr, hMs, hK⟩ := hP
    have hdec := kahn_ok wf hK
    rw [kahn_ok wf hK, hcy] at hr
    subst hr
    replace hM := hM1.under (hM.under hMs)
    replace hM : Mem H Hs ((.sl 1 so (List.map encN o)) :: (.box pg6 1 [.pointer (some ⟨gp, 0, none⟩)]) :: (.box plat 1 [.slice none 0 0]) :: (.sl 3 aa (List.map arcC arcs)) :: (.sl 1 ax (List.map encV nx)) :: (.box gp 4 [an, .map (some M), aa, ax]) :: (.map M (mapE 0 names)) :: (inner nx names.length arcs)) := hM
    clear hMs hM1
    refine Rg.opp (v := .tuple #[so, .bool false]) rfl rfl rfl rfl rfl ?_
    refine Rg.opp (v := so) rfl rfl rfl rfl rfl ?_
    refine Rg.opp (v := .bool false) rfl rfl rfl rfl rfl ?_
    refine Rg.opp (v := so) rfl rfl rfl rfl rfl ?_
    refine Rg.opp (v := .bool false) rfl rfl rfl rfl rfl ?_
    refine Rg.nil ?_
    refine RunsX.seqR rfl (by decide +kernel) ?_
    refine Runs.seq ?_
    refine Runs.region ?_
    refine Rg.opp (v := .bool false) rfl rfl rfl rfl rfl ?_
    refine Rg.opp (v := .bool true) rfl rfl rfl rfl rfl ?_
    refine Rg.nil ?_
    refine Runs.cond true rfl (fun _ => ?_) (fun h => by cases h)
    refine Runs.seq ?_
    refine Runs.region ?_
    refine Rg.opp (v := .slice none 0 0) rfl rfl rfl rfl rfl ?_
    refine Rg.stob (j := 2) (cs' := [.slice none 0 0]) hM rfl rfl rfl rfl rfl rfl rfl rfl rfl rfl (Nat.le_of_ble_eq_true rfl) rfl (fun Hc (hM : Mem H Hc ((.sl 1 so (List.map encN o)) :: (.box pg6 1 [.pointer (some ⟨gp, 0, none⟩)]) :: (.box plat 1 ([.slice none 0 0])) :: (.sl 3 aa (List.map arcC arcs)) :: (.sl 1 ax (List.map encV nx)) :: (.box gp 4 [an, .map (some M), aa, ax]) :: (.map M (mapE 0 names)) :: (inner nx names.length arcs))) => ?_)
    refine Rg.opp (v := nat 27) rfl rfl rfl rfl rfl ?_
    refine Rg.nil ?_
    refine Runs.ret ?_
    refine ⟨.tuple #[.slice none 0 0, .slice none 0 0, nat 27], res_cell rfl rfl rfl rfl (hM.get_box (j := 2) rfl) rfl rfl rfl, hM.ext, ?_⟩
    rw [if_pos hcy]
  · skip
    refine Rg.callW rfl rfl rfl rfl (rfl) rfl (sorted_runs (GraphAt.sees hM.ext.sees ⟨_, _, _, _, _, _, hG⟩) wf (by omega) (by omega)) (fun rs Hs hP => ?_)
    obtain ⟨so, o, hr, hMs, hK⟩ := hP
    have hdec := kahn_ok wf hK
    rw [kahn_ok wf hK, show cycB arcs = false by simpa using hcy] at hr
    subst hr
    replace hM := hM1.under (hM.under hMs)
    replace hM : Mem H Hs ((.sl 1 so (List.map encN o)) :: (.box pg6 1 [.pointer (some ⟨gp, 0, none⟩)]) :: (.box plat 1 [.slice none 0 0]) :: (.sl 3 aa (List.map arcC arcs)) :: (.sl 1 ax (List.map encV nx)) :: (.box gp 4 [an, .map (some M), aa, ax]) :: (.map M (mapE 0 names)) :: (inner nx names.length arcs)) := hM
    clear hMs hM1
    have htp : Topo arcs names.length o := kahn_topo hK (by rw [show cycB arcs = false by simpa using hcy] at hdec; simpa using hdec)
    have hol := htp.len
    refine Rg.opp (v := .tuple #[so, .bool true]) rfl rfl rfl rfl rfl ?_
    refine Rg.opp (v := so) rfl rfl rfl rfl rfl ?_
    refine Rg.opp (v := .bool true) rfl rfl rfl rfl rfl ?_
    refine Rg.opp (v := so) rfl rfl rfl rfl rfl ?_
    refine Rg.opp (v := .bool true) rfl rfl rfl rfl rfl ?_
    refine Rg.nil ?_
    refine RunsX.seqR rfl (by decide +kernel) ?_
    refine Runs.seq ?_
    refine Runs.region ?_
    refine Rg.opp (v := .bool true) rfl rfl rfl rfl rfl ?_
    refine Rg.opp (v := .bool false) rfl rfl rfl rfl rfl ?_
    refine Rg.nil ?_
    refine Runs.cond false rfl (fun h => by cases h) (fun _ => ?_)
    refine Runs.skip ?_
    refine RunsX.seqR rfl (by decide +kernel) ?_
    refine Runs.drawn (is := [0, 1, 2, 3, 4, 5, 6, 7]) (by decide +kernel) ?_
    refine Rg.opp (v := so) rfl rfl rfl rfl rfl ?_
    refine Rg.opp (v := nat o.length) rfl rfl rfl (ev_lenM (hM.get_sl (j := 0) rfl) rfl rfl) rfl ?_
    refine Rg.make (f := encN) (sz := 1) (m := o.length) 0 hM rfl rfl rfl rfl rfl rfl rfl rfl rfl (by decide) rfl rfl rfl (by show o.length * 8 ≤ 2 ^ 40; omega) (by omega) (fun ev0 Hc (hM : Mem H Hc ((.sl 1 ev0 (List.map encN (List.replicate o.length 0))) :: (.sl 1 so (List.map encN o)) :: (.box pg6 1 [.pointer (some ⟨gp, 0, none⟩)]) :: (.box plat 1 [.slice none 0 0]) :: (.sl 3 aa (List.map arcC arcs)) :: (.sl 1 ax (List.map encV nx)) :: (.box gp 4 [an, .map (some M), aa, ax]) :: (.map M (mapE 0 names)) :: (inner nx names.length arcs))) _ => ?_)
    refine Rg.opp (v := so) rfl rfl rfl rfl rfl ?_
    refine Rg.opp (v := nat o.length) rfl rfl rfl (ev_lenM (hM.get_sl (j := 1) rfl) rfl rfl) rfl ?_
    refine Rg.make (f := encI) (sz := 1) (m := o.length) ((0 : Int)) hM rfl rfl rfl rfl rfl rfl rfl rfl rfl (by decide) rfl rfl rfl (by show o.length * 8 ≤ 2 ^ 40; omega) (by omega) (fun lv0 Hc (hM : Mem H Hc ((.sl 1 lv0 (List.map encI (List.replicate o.length ((0 : Int))))) :: (.sl 1 ev0 (List.map encN (List.replicate o.length 0))) :: (.sl 1 so (List.map encN o)) :: (.box pg6 1 [.pointer (some ⟨gp, 0, none⟩)]) :: (.box plat 1 [.slice none 0 0]) :: (.sl 3 aa (List.map arcC arcs)) :: (.sl 1 ax (List.map encV nx)) :: (.box gp 4 [an, .map (some M), aa, ax]) :: (.map M (mapE 0 names)) :: (inner nx names.length arcs))) _ => ?_)
    refine Rg.opp (v := ev0) rfl rfl rfl rfl rfl ?_
    refine Rg.stob1 (j := 4) (cs' := [lv0]) hM rfl rfl rfl rfl rfl rfl rfl rfl rfl ((hM.get_sl (j := 0) rfl).one) (Nat.le_of_ble_eq_true rfl) rfl (fun Hc (hM : Mem H Hc ((.sl 1 lv0 (List.map encI (List.replicate o.length ((0 : Int))))) :: (.sl 1 ev0 (List.map encN (List.replicate o.length 0))) :: (.sl 1 so (List.map encN o)) :: (.box pg6 1 [.pointer (some ⟨gp, 0, none⟩)]) :: (.box plat 1 ([lv0])) :: (.sl 3 aa (List.map arcC arcs)) :: (.sl 1 ax (List.map encV nx)) :: (.box gp 4 [an, .map (some M), aa, ax]) :: (.map M (mapE 0 names)) :: (inner nx names.length arcs))) => ?_)
    refine Rg.nil ?_
    refine RunsX.seqR rfl (by decide +kernel) ?_
    refine Runs.region ?_
    refine Rg.opp (v := nat 0) rfl rfl rfl rfl rfl ?_
    refine Rg.nil ?_
    refine RunsX.seqR rfl (by decide +kernel) ?_
    refine Runs.seq ?_
    refine Runs.region ?_
    refine Rg.opp (v := so) rfl rfl rfl rfl rfl ?_
    refine Rg.opp (v := nat o.length) rfl rfl rfl (ev_lenM (hM.get_sl (j := 2) rfl) rfl rfl) rfl ?_
    refine Rg.opp (v := nat 0) rfl rfl rfl rfl rfl ?_
    refine Rg.nil ?_
    refine Runs.block ?_
    refine Runs.loop (fun m s Hc => ∃ (tt : Nat) (e : Nat → Nat) (mo : Nat), m = o.length - tt ∧ Mem H Hc ((.sl 1 lv0 (List.map encI (List.replicate o.length ((0 : Int))))) :: (.sl 1 ev0 (List.map encN ((List.range names.length).map e))) :: (.sl 1 so (List.map encN o)) :: (.box pg6 1 [.pointer (some ⟨gp, 0, none⟩)]) :: (.box plat 1 ([lv0])) :: (.sl 3 aa (List.map arcC arcs)) :: (.sl 1 ax (List.map encV nx)) :: (.box gp 4 [an, .map (some M), aa, ax]) :: (.map M (mapE 0 names)) :: (inner nx names.length arcs)) ∧ (tt ≤ o.length) ∧ (Lev (Fwd arcs (o.take tt)) e) ∧ (∀ x, e x ≤ tt) ∧ (∀ x ∈ o.take tt, e x ≤ mo) ∧ (mo = 0 ∨ ∃ x ∈ o.take tt, e x = mo) ∧ (mo ≤ tt) ∧ Is s 123 [(2, ev0), (3, .pointer (some ⟨plat, 0, none⟩)), (6, .pointer (some ⟨pg6, 0, none⟩)), (7, so), (9, nat mo), (27, .pointer (some ⟨gp, 0, none⟩)), (39, so), (40, nat o.length), (41, nat tt)]) _
      ⟨0, fun _ => 0, 0, rfl, by
      have e : (List.range names.length).map (fun _ => 0) = List.replicate o.length 0 := by rw [List.map_const', List.length_range, hol]
      rw [e]; exact hM, Nat.zero_le _, Lev.zero.congr (fun x y => ⟨fun h => h.elim, fun ⟨a, _, h, _⟩ => by simp at h⟩), fun _ => Nat.le_refl _, fun x hx => Nat.le_refl _, .inl rfl, Nat.le_refl _, Is.of ⟨rfl, rfl, rfl, rfl, rfl, rfl, rfl, rfl, rfl, rfl, rfl, rfl, rfl, rfl, rfl, rfl, rfl, rfl, trivial⟩⟩ ?_
    rintro m s Hc ⟨tt, e, mo, rfl, hM, htt, hL, heb, hmo, hme, hmb, hs⟩
    obtain ⟨a1, rfl⟩ := hs.mk1
    clear hs
    refine Runs.seq ?_
    refine Runs.region ?_
    by_cases hltt : tt < o.length
    · skip
      have hin : o[tt] < names.length := htp.lt _ (List.getElem_mem hltt)
      have hyl := next_len arcs o[tt]
      refine Rg.opp (v := .bool true) rfl rfl rfl (ev_ltT rfl rfl (hltt)) rfl ?_
      refine Rg.nil ?_
      refine Runs.seq ?_
      refine Runs.cond true rfl (fun _ => ?_) (fun h => by cases h)
      refine Runs.skip ?_
      refine Runs.seq ?_
      refine Runs.block ?_
      refine Runs.seq ?_
      refine Runs.region ?_
      refine Rg.opp (v := ptrAt (sAddr so) (tt * 1)) rfl rfl rfl (ev_idxM (k := tt) (hM.get_sl (j := 2) rfl) rfl rfl (hltt) rfl rfl rfl (by decide)) rfl ?_
      refine Rg.opp (v := nat (o[tt])) rfl rfl rfl (ev_ldM (k := tt) (hM.get_sl (j := 2) rfl) rfl (hltt) rfl rfl rfl rfl) rfl ?_
      refine Rg.opp (v := nat (o[tt])) rfl rfl rfl rfl rfl ?_
      refine Rg.nil ?_
      refine Runs.seq ?_
      refine Runs.seq ?_
      refine Runs.region ?_
      refine Rg.opp (v := .pointer (some ⟨gp, 0, none⟩)) rfl rfl rfl (ev_ldb (hM.get_box (j := 3) rfl) rfl rfl rfl rfl rfl) rfl ?_
      refine Rg.opp (v := .pointer (some ⟨gp, 0, none⟩)) rfl rfl rfl rfl rfl ?_
      refine Rg.opp (v := .pointer (some ⟨gp, 3, none⟩)) rfl rfl rfl (ev_fld (o := 0) (p := (75, 3)) rfl rfl rfl rfl rfl (by decide)) rfl ?_
      refine Rg.opp (v := ax) rfl rfl rfl (ev_ldb (hM.get_box (j := 7) rfl) rfl rfl rfl rfl rfl) rfl ?_
      refine Rg.opp (v := nat (o[tt])) rfl rfl rfl rfl rfl ?_
      refine Rg.opp (v := ptrAt (sAddr ax) ((o[tt]) * 1)) rfl rfl rfl (ev_idxM (k := o[tt]) (hM.get_sl (j := 6) rfl) rfl rfl (by omega) rfl rfl rfl (by decide)) rfl ?_
      refine Rg.opp (v := nx[o[tt]]) rfl rfl rfl (ev_ldM (k := (o[tt])) (hM.get_sl (j := 6) rfl) rfl (by omega) rfl rfl rfl rfl) rfl ?_
      refine Rg.opp (v := nat ((nextOf arcs o[tt]).length)) rfl rfl rfl (ev_lenM (hM.get_sl (j := o[tt] + 9) (show (inner nx names.length arcs)[o[tt]]? = _ from inner_get (hin) hnl)) rfl rfl) rfl ?_
      refine Rg.opp (v := nat 0) rfl rfl rfl rfl rfl ?_
      refine Rg.nil ?_
      refine Runs.block ?_
      refine Runs.loop (fun m s Hc => ∃ (j : Nat) (e1 : Nat → Nat), m = (nextOf arcs o[tt]).length - j ∧ Mem H Hc ((.sl 1 lv0 (List.map encI (List.replicate o.length ((0 : Int))))) :: (.sl 1 ev0 (List.map encN ((List.range names.length).map e1))) :: (.sl 1 so (List.map encN o)) :: (.box pg6 1 [.pointer (some ⟨gp, 0, none⟩)]) :: (.box plat 1 ([lv0])) :: (.sl 3 aa (List.map arcC arcs)) :: (.sl 1 ax (List.map encV nx)) :: (.box gp 4 [an, .map (some M), aa, ax]) :: (.map M (mapE 0 names)) :: (inner nx names.length arcs)) ∧ (j ≤ (nextOf arcs o[tt]).length) ∧ (Lev (FwdIn arcs (o.take tt) (nextOf arcs o[tt]) j) e1) ∧ (∀ x ∈ o.take (tt + 1), e1 x = e x) ∧ (∀ x, e1 x ≤ tt + 1) ∧ Is s 123 [(2, ev0), (3, .pointer (some ⟨plat, 0, none⟩)), (6, .pointer (some ⟨pg6, 0, none⟩)), (7, so), (9, nat mo), (11, nat (o[tt])), (27, .pointer (some ⟨gp, 0, none⟩)), (39, so), (40, nat o.length), (41, nat tt), (51, nx[o[tt]]), (52, nat ((nextOf arcs o[tt]).length)), (53, nat j)]) _
        ⟨0, e, rfl, hM, Nat.zero_le _, hL.congr (fun x y => (In_zero x y).1), fun x hx => rfl, fun x => by have := heb x; omega, Is.of ⟨rfl, rfl, rfl, rfl, rfl, rfl, rfl, rfl, rfl, rfl, rfl, rfl, rfl, rfl, rfl, rfl, rfl, rfl, rfl, rfl, rfl, rfl, rfl, rfl, rfl, rfl, trivial⟩⟩ ?_
      rintro m s Hc ⟨j, e1, rfl, hM, hj, hL1, hsame, hb1, hs⟩
      obtain ⟨a2, rfl⟩ := hs.mk1
      clear hs
      refine Runs.seq ?_
      refine Runs.region ?_
      by_cases hltj : j < (nextOf arcs o[tt]).length
      · skip
        have hjm := next_mem.1 (List.getElem_mem hltj)
        have hup : (nextOf arcs o[tt])[j].up < names.length := wf.up _ hjm.1
        have hjlo := hjm.2
        have hafter := htp.after hltt hjm.1 hjlo
        have hbi := hb1 o[tt]
        refine Rg.opp (v := .bool true) rfl rfl rfl (ev_ltT rfl rfl (hltj)) rfl ?_
        refine Rg.nil ?_
        refine Runs.seq ?_
        refine Runs.cond true rfl (fun _ => ?_) (fun h => by cases h)
        refine Runs.skip ?_
        refine Runs.seq ?_
        refine Runs.block ?_
        refine Runs.seq ?_
        refine Runs.region ?_
        refine Rg.opp (v := ptrAt (sAddr (nx[o[tt]])) (j * 3)) rfl rfl rfl (ev_idxM (k := j) (hM.get_sl (j := o[tt] + 9) (show (inner nx names.length arcs)[o[tt]]? = _ from inner_get (hin) hnl)) rfl rfl (hltj) rfl rfl rfl (by decide)) rfl ?_
        refine Rg.opp (v := .agg (arcC ((nextOf arcs o[tt])[j])).toArray) rfl rfl rfl (ev_ldAM (k := j) (hM.get_sl (j := o[tt] + 9) (show (inner nx names.length arcs)[o[tt]]? = _ from inner_get (hin) hnl)) rfl (hltj) rfl rfl rfl) rfl ?_
        refine Rg.new (v := fun p => .pointer (some ⟨p, 0, none⟩)) (X := .row 3 [.int .i64 0, .int .i64 0, .int .i64 0] true true) (th := fun p => .box p 3 [.int .i64 0, .int .i64 0, .int .i64 0]) hM rfl rfl rfl rfl rfl rfl (fun _ => rfl) (fun p3 Hc hM _ => ?_)
        refine Rg.stob (j := 0) (cs' := arcC ((nextOf arcs o[tt])[j])) hM rfl rfl rfl rfl rfl rfl rfl rfl rfl rfl (Nat.le_of_ble_eq_true rfl) rfl (fun Hc (hM : Mem H Hc ((.box p3 3 (arcC ((nextOf arcs o[tt])[j]))) :: (.sl 1 lv0 (List.map encI (List.replicate o.length ((0 : Int))))) :: (.sl 1 ev0 (List.map encN ((List.range names.length).map e1))) :: (.sl 1 so (List.map encN o)) :: (.box pg6 1 [.pointer (some ⟨gp, 0, none⟩)]) :: (.box plat 1 ([lv0])) :: (.sl 3 aa (List.map arcC arcs)) :: (.sl 1 ax (List.map encV nx)) :: (.box gp 4 [an, .map (some M), aa, ax]) :: (.map M (mapE 0 names)) :: (inner nx names.length arcs))) => ?_)
        refine Rg.nil ?_
        refine Runs.drawn (is := [0, 1, 2, 3, 4, 5, 6, 7, 8, 9, 10, 11, 12, 13, 14, 15]) (by decide +kernel) ?_
        refine Rg.opp (v := ev0) rfl rfl rfl rfl rfl ?_
        refine Rg.opp (v := .pointer (some ⟨p3, 2, none⟩)) rfl rfl rfl (ev_fld (o := 0) (p := (3, 2)) rfl rfl rfl rfl rfl (by decide)) rfl ?_
        refine Rg.opp (v := nat ((nextOf arcs o[tt])[j].up)) rfl rfl rfl (ev_ldb (hM.get_box (j := 0) rfl) rfl rfl rfl rfl rfl) rfl ?_
        refine Rg.opp (v := ev0) rfl rfl rfl rfl rfl ?_
        refine Rg.opp (v := .pointer (some ⟨p3, 2, none⟩)) rfl rfl rfl (ev_fld (o := 0) (p := (3, 2)) rfl rfl rfl rfl rfl (by decide)) rfl ?_
        refine Rg.opp (v := nat ((nextOf arcs o[tt])[j].up)) rfl rfl rfl (ev_ldb (hM.get_box (j := 0) rfl) rfl rfl rfl rfl rfl) rfl ?_
        refine Rg.opp (v := ptrAt (sAddr ev0) (((nextOf arcs o[tt])[j].up) * 1)) rfl rfl rfl (ev_idxM (k := (nextOf arcs o[tt])[j].up) (hM.get_sl (j := 2) rfl) rfl rfl (by simpa using hup) rfl rfl rfl (by decide)) rfl ?_
        refine Rg.opp (v := nat (e1 (nextOf arcs o[tt])[j].up)) rfl rfl rfl (ev_ldM (k := ((nextOf arcs o[tt])[j].up)) (hM.get_sl (j := 2) rfl) rfl (by simpa using hup) (by simp) rfl rfl rfl) rfl ?_
        refine Rg.opp (v := ev0) rfl rfl rfl rfl rfl ?_
        refine Rg.opp (v := nat (o[tt])) rfl rfl rfl rfl rfl ?_
        refine Rg.opp (v := ptrAt (sAddr ev0) ((o[tt]) * 1)) rfl rfl rfl (ev_idxM (k := o[tt]) (hM.get_sl (j := 2) rfl) rfl rfl (by simpa using hin) rfl rfl rfl (by decide)) rfl ?_
        refine Rg.opp (v := nat (e1 o[tt])) rfl rfl rfl (ev_ldM (k := (o[tt])) (hM.get_sl (j := 2) rfl) rfl (by simpa using hin) (by simp) rfl rfl rfl) rfl ?_
        refine Rg.opp (v := nat (e1 o[tt] + 1)) rfl rfl rfl (ev_addN (b := 1) rfl rfl (by omega)) rfl ?_
        refine Rg.opp (v := nat (max (e1 (nextOf arcs o[tt])[j].up) (e1 o[tt] + 1))) rfl rfl rfl (ev_maxN (a := e1 (nextOf arcs o[tt])[j].up) (b := e1 o[tt] + 1) rfl rfl) rfl ?_
        refine Rg.opp (v := ptrAt (sAddr ev0) (((nextOf arcs o[tt])[j].up) * 1)) rfl rfl rfl (ev_idxM (k := (nextOf arcs o[tt])[j].up) (hM.get_sl (j := 2) rfl) rfl rfl (by simpa using hup) rfl rfl rfl (by decide)) rfl ?_
        refine Rg.stoM (f := encN) (j := 2) (k := ((nextOf arcs o[tt])[j].up)) (max (e1 (nextOf arcs o[tt])[j].up) (e1 o[tt] + 1)) hM rfl rfl rfl rfl rfl rfl rfl (by simpa using hup) rfl rfl rfl rfl rfl (fun Hc (hM : Mem H Hc ((.box p3 3 (arcC ((nextOf arcs o[tt])[j]))) :: (.sl 1 lv0 (List.map encI (List.replicate o.length ((0 : Int))))) :: (.sl 1 ev0 (List.map encN (((List.range names.length).map e1).set (((nextOf arcs o[tt])[j].up)) (max (e1 (nextOf arcs o[tt])[j].up) (e1 o[tt] + 1))))) :: (.sl 1 so (List.map encN o)) :: (.box pg6 1 [.pointer (some ⟨gp, 0, none⟩)]) :: (.box plat 1 ([lv0])) :: (.sl 3 aa (List.map arcC arcs)) :: (.sl 1 ax (List.map encV nx)) :: (.box gp 4 [an, .map (some M), aa, ax]) :: (.map M (mapE 0 names)) :: (inner nx names.length arcs))) => ?_)
        refine Rg.nil ?_
        refine Runs.region ?_
        refine Rg.opp (v := nat (j + 1)) rfl rfl rfl (ev_addN (b := 1) rfl rfl (by omega)) rfl ?_
        refine Rg.opp (v := nat (j + 1)) rfl rfl rfl rfl rfl ?_
        refine Rg.nil ?_
        refine ⟨(nextOf arcs o[tt]).length - (j + 1), by omega, j + 1, raise e1 (nextOf arcs o[tt])[j].lo (nextOf arcs o[tt])[j].up, rfl, by
          have h := hM.tail
          rw [row_setA hup] at h
          have e2 : (fun b' => if b' = (nextOf arcs o[tt])[j].up then max (e1 (nextOf arcs o[tt])[j].up) (e1 o[tt] + 1) else e1 b') = raise e1 (nextOf arcs o[tt])[j].lo (nextOf arcs o[tt])[j].up := by
            funext z; unfold raise; rw [hjlo]
          rw [e2] at h; exact h, hltj, (hL1.step (htp.fwd_no hltt hltj).1 (htp.fwd_no hltt hltj).2).congr (FwdIn.succ hltj), fun x hx => by
          unfold raise
          rw [if_neg (fun q : x = (nextOf arcs o[tt])[j].up => hafter (by rw [← q]; exact hx))]
          exact hsame x hx, fun x => by
          unfold raise
          have h1 := hb1 x
          have h2 := hb1 (nextOf arcs o[tt])[j].lo
          have h3 := hb1 (nextOf arcs o[tt])[j].up
          have h4 := heb (nextOf arcs o[tt])[j].lo
          have h5 := hsame (nextOf arcs o[tt])[j].lo (by rw [hjlo, List.take_succ_eq_append_getElem hltt]; exact List.mem_append_right _ (List.mem_singleton.2 rfl))
          split <;> omega, Is.of ⟨rfl, rfl, rfl, rfl, rfl, rfl, rfl, rfl, rfl, rfl, rfl, rfl, rfl, rfl, rfl, rfl, rfl, rfl, rfl, rfl, rfl, rfl, rfl, rfl, rfl, rfl, trivial⟩⟩
      · skip
        have hje : j = (nextOf arcs o[tt]).length := by omega
        subst hje
        have hbi := hb1 o[tt]
        refine Rg.opp (v := .bool false) rfl rfl rfl (ev_ltF rfl rfl (hltj)) rfl ?_
        refine Rg.nil ?_
        refine Runs.seq ?_
        refine Runs.cond false rfl (fun h => by cases h) (fun _ => ?_)
        refine Runs.exit ?_
        refine Runs.region ?_
        refine Rg.opp (v := nat mo) rfl rfl rfl rfl rfl ?_
        refine Rg.opp (v := ev0) rfl rfl rfl rfl rfl ?_
        refine Rg.opp (v := nat (o[tt])) rfl rfl rfl rfl rfl ?_
        refine Rg.opp (v := ptrAt (sAddr ev0) ((o[tt]) * 1)) rfl rfl rfl (ev_idxM (k := o[tt]) (hM.get_sl (j := 1) rfl) rfl rfl (by simpa using hin) rfl rfl rfl (by decide)) rfl ?_
        refine Rg.opp (v := nat (e1 o[tt])) rfl rfl rfl (ev_ldM (k := (o[tt])) (hM.get_sl (j := 1) rfl) rfl (by simpa using hin) (by simp) rfl rfl rfl) rfl ?_
        refine Rg.opp (v := nat (max (mo) (e1 o[tt]))) rfl rfl rfl (ev_maxN (a := mo) (b := e1 o[tt]) rfl rfl) rfl ?_
        refine Rg.opp (v := nat (max (mo) (e1 o[tt]))) rfl rfl rfl rfl rfl ?_
        refine Rg.nil ?_
        refine Runs.region ?_
        refine Rg.opp (v := nat (tt + 1)) rfl rfl rfl (ev_addN (b := 1) rfl rfl (by omega)) rfl ?_
        refine Rg.opp (v := nat (tt + 1)) rfl rfl rfl rfl rfl ?_
        refine Rg.nil ?_
        refine ⟨o.length - (tt + 1), by omega, tt + 1, e1, max (mo) (e1 o[tt]), rfl, hM, hltt, by rw [List.take_succ_eq_append_getElem hltt]; exact hL1.congr FwdIn.done, hb1, fun x hx => by
          rw [List.take_succ_eq_append_getElem hltt] at hx
          rcases List.mem_append.1 hx with q | q
          · have h1 := hmo x q
            have h2 := hsame x (by rw [List.take_succ_eq_append_getElem hltt]; exact List.mem_append_left _ q)
            omega
          · rw [List.mem_singleton.1 q]; omega, by
          rcases Nat.le_total (e1 o[tt]) mo with q | q
          · rcases hme with z | ⟨x, hx, z⟩
            · left; omega
            · right
              refine ⟨x, by rw [List.take_succ_eq_append_getElem hltt]; exact List.mem_append_left _ hx, ?_⟩
              have h2 := hsame x (by rw [List.take_succ_eq_append_getElem hltt]; exact List.mem_append_left _ hx)
              omega
          · right
            exact ⟨o[tt], by rw [List.take_succ_eq_append_getElem hltt]; exact List.mem_append_right _ (List.mem_singleton.2 rfl), by omega⟩, by have := hb1 o[tt]; omega, Is.of ⟨rfl, rfl, rfl, rfl, rfl, rfl, rfl, rfl, rfl, rfl, rfl, rfl, rfl, rfl, rfl, rfl, rfl, rfl, trivial⟩⟩
    · skip
      have hte : tt = o.length := by omega
      rw [hte, List.take_length] at hL hmo hme
      clear htt
      refine Rg.opp (v := .bool false) rfl rfl rfl (ev_ltF rfl rfl (hltt)) rfl ?_
      refine Rg.nil ?_
      refine Runs.seq ?_
      refine Runs.cond false rfl (fun h => by cases h) (fun _ => ?_)
      refine Runs.exit ?_
      refine RunsX.seqR rfl (by decide +kernel) ?_
      refine Runs.seq ?_
      refine Runs.region ?_
      refine Rg.opp (v := lv0) rfl rfl rfl (ev_ldb (hM.get_box (j := 4) rfl) rfl rfl rfl rfl rfl) rfl ?_
      refine Rg.opp (v := nat ((List.replicate o.length ((0 : Int))).length)) rfl rfl rfl (ev_lenM (hM.get_sl (j := 0) rfl) rfl rfl) rfl ?_
      refine Rg.opp (v := nat 0) rfl rfl rfl rfl rfl ?_
      refine Rg.nil ?_
      refine Runs.block ?_
      refine Runs.loop (fun m s Hc => ∃ (t2 : Nat), m = o.length - t2 ∧ Mem H Hc ((.sl 1 lv0 (List.map encI ((List.range names.length).map (fun x => if x < t2 then ((mo : Nat) : Int) else 0)))) :: (.sl 1 ev0 (List.map encN ((List.range names.length).map e))) :: (.sl 1 so (List.map encN o)) :: (.box pg6 1 [.pointer (some ⟨gp, 0, none⟩)]) :: (.box plat 1 ([lv0])) :: (.sl 3 aa (List.map arcC arcs)) :: (.sl 1 ax (List.map encV nx)) :: (.box gp 4 [an, .map (some M), aa, ax]) :: (.map M (mapE 0 names)) :: (inner nx names.length arcs)) ∧ (t2 ≤ o.length) ∧ Is s 123 [(2, ev0), (3, .pointer (some ⟨plat, 0, none⟩)), (6, .pointer (some ⟨pg6, 0, none⟩)), (7, so), (9, nat mo), (27, .pointer (some ⟨gp, 0, none⟩)), (81, nat ((List.replicate o.length ((0 : Int))).length)), (82, nat t2)]) _
        ⟨0, rfl, by
        have e : (List.range names.length).map (fun x => if x < 0 then ((mo : Nat) : Int) else 0) = List.replicate o.length (0 : Int) := by
          rw [show (fun x : Nat => if x < 0 then ((mo : Nat) : Int) else 0) = fun _ => 0 by funext x; rw [if_neg (by omega)], List.map_const', List.length_range, hol]
        rw [e]; exact hM, Nat.zero_le _, Is.of ⟨rfl, rfl, rfl, rfl, rfl, rfl, rfl, rfl, rfl, rfl, rfl, rfl, rfl, rfl, rfl, rfl, trivial⟩⟩ ?_
      rintro m s Hc ⟨t2, rfl, hM, ht2, hs⟩
      obtain ⟨a4, rfl⟩ := hs.mk1
      clear hs
      refine Runs.seq ?_
      refine Runs.region ?_
      by_cases hlt2a : t2 < (List.replicate o.length ((0 : Int))).length
      · skip
        have hlt2 : t2 < o.length := by simpa using hlt2a
        refine Rg.opp (v := .bool true) rfl rfl rfl (ev_ltT rfl rfl (hlt2a)) rfl ?_
        refine Rg.nil ?_
        refine Runs.seq ?_
        refine Runs.cond true rfl (fun _ => ?_) (fun h => by cases h)
        refine Runs.skip ?_
        refine Runs.seq ?_
        refine Runs.block ?_
        refine Runs.seq ?_
        refine Runs.region ?_
        refine Rg.opp (v := nat t2) rfl rfl rfl rfl rfl ?_
        refine Rg.opp (v := nat t2) rfl rfl rfl rfl rfl ?_
        refine Rg.nil ?_
        refine Runs.region ?_
        refine Rg.opp (v := lv0) rfl rfl rfl (ev_ldb (hM.get_box (j := 4) rfl) rfl rfl rfl rfl rfl) rfl ?_
        refine Rg.opp (v := nat t2) rfl rfl rfl rfl rfl ?_
        refine Rg.opp (v := nat mo) rfl rfl rfl rfl rfl ?_
        refine Rg.opp (v := ptrAt (sAddr lv0) (t2 * 1)) rfl rfl rfl (ev_idxM (k := t2) (hM.get_sl (j := 0) rfl) rfl rfl (by rw [List.length_map, List.length_range]; omega) rfl rfl rfl (by decide)) rfl ?_
        refine Rg.stoM (f := encI) (j := 0) (k := t2) (((mo : Nat) : Int)) hM rfl rfl rfl rfl rfl rfl rfl (by rw [List.length_map, List.length_range]; omega) rfl rfl rfl rfl rfl (fun Hc (hM : Mem H Hc ((.sl 1 lv0 (List.map encI (((List.range names.length).map (fun x => if x < t2 then ((mo : Nat) : Int) else 0)).set t2 (((mo : Nat) : Int))))) :: (.sl 1 ev0 (List.map encN ((List.range names.length).map e))) :: (.sl 1 so (List.map encN o)) :: (.box pg6 1 [.pointer (some ⟨gp, 0, none⟩)]) :: (.box plat 1 ([lv0])) :: (.sl 3 aa (List.map arcC arcs)) :: (.sl 1 ax (List.map encV nx)) :: (.box gp 4 [an, .map (some M), aa, ax]) :: (.map M (mapE 0 names)) :: (inner nx names.length arcs))) => ?_)
        refine Rg.nil ?_
        refine Runs.region ?_
        refine Rg.opp (v := nat (t2 + 1)) rfl rfl rfl (ev_addN (b := 1) rfl rfl (by omega)) rfl ?_
        refine Rg.opp (v := nat (t2 + 1)) rfl rfl rfl rfl rfl ?_
        refine Rg.nil ?_
        refine ⟨o.length - (t2 + 1), by omega, t2 + 1, rfl, by
          have h := hM
          rw [row_setA (by omega)] at h
          have e2 : (fun b' => if b' = t2 then ((mo : Nat) : Int) else if b' < t2 then ((mo : Nat) : Int) else 0) = fun x => if x < t2 + 1 then ((mo : Nat) : Int) else 0 := by
            funext z
            by_cases q : z = t2
            · rw [if_pos q, if_pos (by omega)]
            · rw [if_neg q]
              by_cases q2 : z < t2
              · rw [if_pos q2, if_pos (by omega)]
              · rw [if_neg q2, if_neg (by omega)]
          rw [e2] at h; exact h, hlt2, Is.of ⟨rfl, rfl, rfl, rfl, rfl, rfl, rfl, rfl, rfl, rfl, rfl, rfl, rfl, rfl, rfl, rfl, trivial⟩⟩
      · skip
        have ht2e : t2 = o.length := by simp at hlt2a; omega
        replace hM : Mem H Hc ((.sl 1 lv0 (List.map encI ((List.range names.length).map (fun x => ((mo : Nat) : Int) - ((0 : Nat) : Int))))) :: (.sl 1 ev0 (List.map encN ((List.range names.length).map e))) :: (.sl 1 so (List.map encN o)) :: (.box pg6 1 [.pointer (some ⟨gp, 0, none⟩)]) :: (.box plat 1 ([lv0])) :: (.sl 3 aa (List.map arcC arcs)) :: (.sl 1 ax (List.map encV nx)) :: (.box gp 4 [an, .map (some M), aa, ax]) :: (.map M (mapE 0 names)) :: (inner nx names.length arcs)) := by
          have h := hM
          have e2 : (List.range names.length).map (fun x => if x < t2 then ((mo : Nat) : Int) else 0) = (List.range names.length).map (fun x => ((mo : Nat) : Int) - ((0 : Nat) : Int)) := by
            refine List.map_congr_left fun x hx => ?_
            rw [if_pos (by have := List.mem_range.1 hx; omega)]; simp
          rw [e2] at h; exact h
        refine Rg.opp (v := .bool false) rfl rfl rfl (ev_ltF rfl rfl (hlt2a)) rfl ?_
        refine Rg.nil ?_
        refine Runs.seq ?_
        refine Runs.cond false rfl (fun h => by cases h) (fun _ => ?_)
        refine Runs.exit ?_
        refine RunsX.seqL rfl (by decide +kernel) ?_
        refine RunsX.seqR rfl (by decide +kernel) ?_
        refine Runs.region ?_
        refine Rg.opp (v := so) rfl rfl rfl rfl rfl ?_
        refine Rg.callW rfl rfl rfl rfl (rfl) rfl (backward_runs (hM.get_sl (j := 2) rfl)) (fun rk Hx hP => ?_)
        obtain ⟨pb, rfl, hMb⟩ := hP
        replace hM := hM.under hMb
        refine Rg.nil ?_
        refine RunsX.block ?_
        refine RunsX.back (pb := pb) (so := so) (o := o) (I := fun t Hc => ∃ d : Nat → Nat, Mem H Hc ((.box pb 1 [so]) :: (.sl 1 lv0 (List.map encI ((List.range names.length).map (fun x => ((mo : Nat) : Int) - ((d x : Nat) : Int))))) :: (.sl 1 ev0 (List.map encN ((List.range names.length).map e))) :: (.sl 1 so (List.map encN o)) :: (.box pg6 1 [.pointer (some ⟨gp, 0, none⟩)]) :: (.box plat 1 ([lv0])) :: (.sl 3 aa (List.map arcC arcs)) :: (.sl 1 ax (List.map encV nx)) :: (.box gp 4 [an, .map (some M), aa, ax]) :: (.map M (mapE 0 names)) :: (inner nx names.length arcs)) ∧ Lev (Bwd arcs (o.drop t)) d ∧ ∀ x, d x ≤ o.length - t) rfl ?_ (by omega) ?_ ?_ ?_
        · rintro t Hc ⟨d, hM, _⟩
          exact ⟨⟨true, hM.get_box (j := 0) rfl⟩, hM.get_sl (j := 3) rfl⟩
        · skip
          rintro k hk Hc ⟨d, hM, hLd, hdb⟩
          have hkn : o[k] < names.length := htp.lt _ (List.getElem_mem hk)
          have hyk := next_len arcs o[k]
          refine Runs.region ?_
          refine Rg.opp (v := nat (o[k])) rfl rfl rfl rfl rfl ?_
          refine Rg.nil ?_
          refine Runs.block ?_
          refine Runs.seq ?_
          refine Runs.region ?_
          refine Rg.opp (v := .pointer (some ⟨gp, 0, none⟩)) rfl rfl rfl (ev_ldb (hM.get_box (j := 4) rfl) rfl rfl rfl rfl rfl) rfl ?_
          refine Rg.opp (v := .pointer (some ⟨gp, 0, none⟩)) rfl rfl rfl rfl rfl ?_
          refine Rg.opp (v := .pointer (some ⟨gp, 3, none⟩)) rfl rfl rfl (ev_fld (o := 0) (p := (75, 3)) rfl rfl rfl rfl rfl (by decide)) rfl ?_
          refine Rg.opp (v := ax) rfl rfl rfl (ev_ldb (hM.get_box (j := 8) rfl) rfl rfl rfl rfl rfl) rfl ?_
          refine Rg.opp (v := nat (o[k])) rfl rfl rfl rfl rfl ?_
          refine Rg.opp (v := ptrAt (sAddr ax) ((o[k]) * 1)) rfl rfl rfl (ev_idxM (k := o[k]) (hM.get_sl (j := 7) rfl) rfl rfl (by omega) rfl rfl rfl (by decide)) rfl ?_
          refine Rg.opp (v := nx[o[k]]) rfl rfl rfl (ev_ldM (k := (o[k])) (hM.get_sl (j := 7) rfl) rfl (by omega) rfl rfl rfl rfl) rfl ?_
          refine Rg.opp (v := nat ((nextOf arcs o[k]).length)) rfl rfl rfl (ev_lenM (hM.get_sl (j := o[k] + 10) (show (inner nx names.length arcs)[o[k]]? = _ from inner_get (hkn) hnl)) rfl rfl) rfl ?_
          refine Rg.opp (v := nat 0) rfl rfl rfl rfl rfl ?_
          refine Rg.nil ?_
          refine Runs.block ?_
          refine Runs.loop (fun m s Hc => ∃ (j : Nat) (d1 : Nat → Nat), m = (nextOf arcs o[k]).length - j ∧ Mem H Hc ((.box pb 1 [so]) :: (.sl 1 lv0 (List.map encI ((List.range names.length).map (fun x => ((mo : Nat) : Int) - ((d1 x : Nat) : Int))))) :: (.sl 1 ev0 (List.map encN ((List.range names.length).map e))) :: (.sl 1 so (List.map encN o)) :: (.box pg6 1 [.pointer (some ⟨gp, 0, none⟩)]) :: (.box plat 1 ([lv0])) :: (.sl 3 aa (List.map arcC arcs)) :: (.sl 1 ax (List.map encV nx)) :: (.box gp 4 [an, .map (some M), aa, ax]) :: (.map M (mapE 0 names)) :: (inner nx names.length arcs)) ∧ (j ≤ (nextOf arcs o[k]).length) ∧ (Lev (BwdIn arcs (o.drop (k + 1)) (nextOf arcs o[k]) j) d1) ∧ (∀ x, d1 x ≤ o.length - k) ∧ (∀ x, x ≠ o[k] → d1 x = d x) ∧ Is s 123 [(2, ev0), (3, .pointer (some ⟨plat, 0, none⟩)), (16, nat (o[k])), (27, .pointer (some ⟨gp, 0, none⟩)), (100, nx[o[k]]), (101, nat ((nextOf arcs o[k]).length)), (102, nat j)]) _
            ⟨0, d, rfl, hM, Nat.zero_le _, hLd.congr (fun x y => (In_zero x y).2), fun x => by have := hdb x; omega, fun x hx => rfl, Is.of ⟨rfl, rfl, rfl, rfl, rfl, rfl, rfl, rfl, rfl, rfl, rfl, rfl, rfl, rfl, trivial⟩⟩ ?_
          rintro m s Hc ⟨j, d1, rfl, hM, hj, hLd1, hdb1, hsm1, hs⟩
          obtain ⟨a5, rfl⟩ := hs.mk1
          clear hs
          refine Runs.seq ?_
          refine Runs.region ?_
          by_cases hltj : j < (nextOf arcs o[k]).length
          · skip
            have hjm := next_mem.1 (List.getElem_mem hltj)
            have hup : (nextOf arcs o[k])[j].up < names.length := wf.up _ hjm.1
            have hjlo := hjm.2
            have hq1 := hdb1 o[k]
            have hq2 := hdb1 (nextOf arcs o[k])[j].up
            refine Rg.opp (v := .bool true) rfl rfl rfl (ev_ltT rfl rfl (hltj)) rfl ?_
            refine Rg.nil ?_
            refine Runs.seq ?_
            refine Runs.cond true rfl (fun _ => ?_) (fun h => by cases h)
            refine Runs.skip ?_
            refine Runs.seq ?_
            refine Runs.block ?_
            refine Runs.seq ?_
            refine Runs.region ?_
            refine Rg.opp (v := ptrAt (sAddr (nx[o[k]])) (j * 3)) rfl rfl rfl (ev_idxM (k := j) (hM.get_sl (j := o[k] + 10) (show (inner nx names.length arcs)[o[k]]? = _ from inner_get (hkn) hnl)) rfl rfl (hltj) rfl rfl rfl (by decide)) rfl ?_
            refine Rg.opp (v := .agg (arcC ((nextOf arcs o[k])[j])).toArray) rfl rfl rfl (ev_ldAM (k := j) (hM.get_sl (j := o[k] + 10) (show (inner nx names.length arcs)[o[k]]? = _ from inner_get (hkn) hnl)) rfl (hltj) rfl rfl rfl) rfl ?_
            refine Rg.new (v := fun p => .pointer (some ⟨p, 0, none⟩)) (X := .row 3 [.int .i64 0, .int .i64 0, .int .i64 0] true true) (th := fun p => .box p 3 [.int .i64 0, .int .i64 0, .int .i64 0]) hM rfl rfl rfl rfl rfl rfl (fun _ => rfl) (fun p6 Hc hM _ => ?_)
            refine Rg.stob (j := 0) (cs' := arcC ((nextOf arcs o[k])[j])) hM rfl rfl rfl rfl rfl rfl rfl rfl rfl rfl (Nat.le_of_ble_eq_true rfl) rfl (fun Hc (hM : Mem H Hc ((.box p6 3 (arcC ((nextOf arcs o[k])[j]))) :: (.box pb 1 [so]) :: (.sl 1 lv0 (List.map encI ((List.range names.length).map (fun x => ((mo : Nat) : Int) - ((d1 x : Nat) : Int))))) :: (.sl 1 ev0 (List.map encN ((List.range names.length).map e))) :: (.sl 1 so (List.map encN o)) :: (.box pg6 1 [.pointer (some ⟨gp, 0, none⟩)]) :: (.box plat 1 ([lv0])) :: (.sl 3 aa (List.map arcC arcs)) :: (.sl 1 ax (List.map encV nx)) :: (.box gp 4 [an, .map (some M), aa, ax]) :: (.map M (mapE 0 names)) :: (inner nx names.length arcs))) => ?_)
            refine Rg.nil ?_
            refine Runs.drawn (is := [0, 1, 2, 3, 4, 5, 6, 7, 8, 9, 10, 11, 12, 13, 14]) (by decide +kernel) ?_
            refine Rg.opp (v := lv0) rfl rfl rfl (ev_ldb (hM.get_box (j := 6) rfl) rfl rfl rfl rfl rfl) rfl ?_
            refine Rg.opp (v := nat (o[k])) rfl rfl rfl rfl rfl ?_
            refine Rg.opp (v := lv0) rfl rfl rfl (ev_ldb (hM.get_box (j := 6) rfl) rfl rfl rfl rfl rfl) rfl ?_
            refine Rg.opp (v := nat (o[k])) rfl rfl rfl rfl rfl ?_
            refine Rg.opp (v := ptrAt (sAddr lv0) ((o[k]) * 1)) rfl rfl rfl (ev_idxM (k := o[k]) (hM.get_sl (j := 2) rfl) rfl rfl (by simpa using hkn) rfl rfl rfl (by decide)) rfl ?_
            refine Rg.opp (v := .int .i64 (((mo : Nat) : Int) - ((d1 o[k] : Nat) : Int))) rfl rfl rfl (ev_ldM (k := (o[k])) (hM.get_sl (j := 2) rfl) rfl (by simpa using hkn) (by simp) rfl rfl rfl) rfl ?_
            refine Rg.opp (v := lv0) rfl rfl rfl (ev_ldb (hM.get_box (j := 6) rfl) rfl rfl rfl rfl rfl) rfl ?_
            refine Rg.opp (v := .pointer (some ⟨p6, 2, none⟩)) rfl rfl rfl (ev_fld (o := 0) (p := (3, 2)) rfl rfl rfl rfl rfl (by decide)) rfl ?_
            refine Rg.opp (v := nat ((nextOf arcs o[k])[j].up)) rfl rfl rfl (ev_ldb (hM.get_box (j := 0) rfl) rfl rfl rfl rfl rfl) rfl ?_
            refine Rg.opp (v := ptrAt (sAddr lv0) (((nextOf arcs o[k])[j].up) * 1)) rfl rfl rfl (ev_idxM (k := (nextOf arcs o[k])[j].up) (hM.get_sl (j := 2) rfl) rfl rfl (by simpa using hup) rfl rfl rfl (by decide)) rfl ?_
            refine Rg.opp (v := .int .i64 (((mo : Nat) : Int) - ((d1 (nextOf arcs o[k])[j].up : Nat) : Int))) rfl rfl rfl (ev_ldM (k := ((nextOf arcs o[k])[j].up)) (hM.get_sl (j := 2) rfl) rfl (by simpa using hup) (by simp) rfl rfl rfl) rfl ?_
            refine Rg.opp (v := .int .i64 (((mo : Nat) : Int) - ((d1 (nextOf arcs o[k])[j].up : Nat) : Int) - 1)) rfl rfl rfl (ev_subI (a := ((mo : Nat) : Int) - ((d1 (nextOf arcs o[k])[j].up : Nat) : Int)) (b := 1) rfl rfl (by omega)) rfl ?_
            refine Rg.opp (v := .int .i64 (min (((mo : Nat) : Int) - ((d1 o[k] : Nat) : Int)) (((mo : Nat) : Int) - ((d1 (nextOf arcs o[k])[j].up : Nat) : Int) - 1))) rfl rfl rfl (ev_minI (a := ((mo : Nat) : Int) - ((d1 o[k] : Nat) : Int)) (b := ((mo : Nat) : Int) - ((d1 (nextOf arcs o[k])[j].up : Nat) : Int) - 1) rfl rfl) rfl ?_
            refine Rg.opp (v := ptrAt (sAddr lv0) ((o[k]) * 1)) rfl rfl rfl (ev_idxM (k := o[k]) (hM.get_sl (j := 2) rfl) rfl rfl (by simpa using hkn) rfl rfl rfl (by decide)) rfl ?_
            refine Rg.stoM (f := encI) (j := 2) (k := (o[k])) (min (((mo : Nat) : Int) - ((d1 o[k] : Nat) : Int)) (((mo : Nat) : Int) - ((d1 (nextOf arcs o[k])[j].up : Nat) : Int) - 1)) hM rfl rfl rfl rfl rfl rfl rfl (by simpa using hkn) rfl rfl rfl rfl rfl (fun Hc (hM : Mem H Hc ((.box p6 3 (arcC ((nextOf arcs o[k])[j]))) :: (.box pb 1 [so]) :: (.sl 1 lv0 (List.map encI (((List.range names.length).map (fun x => ((mo : Nat) : Int) - ((d1 x : Nat) : Int))).set ((o[k])) (min (((mo : Nat) : Int) - ((d1 o[k] : Nat) : Int)) (((mo : Nat) : Int) - ((d1 (nextOf arcs o[k])[j].up : Nat) : Int) - 1))))) :: (.sl 1 ev0 (List.map encN ((List.range names.length).map e))) :: (.sl 1 so (List.map encN o)) :: (.box pg6 1 [.pointer (some ⟨gp, 0, none⟩)]) :: (.box plat 1 ([lv0])) :: (.sl 3 aa (List.map arcC arcs)) :: (.sl 1 ax (List.map encV nx)) :: (.box gp 4 [an, .map (some M), aa, ax]) :: (.map M (mapE 0 names)) :: (inner nx names.length arcs))) => ?_)
            refine Rg.nil ?_
            refine Runs.region ?_
            refine Rg.opp (v := nat (j + 1)) rfl rfl rfl (ev_addN (b := 1) rfl rfl (by omega)) rfl ?_
            refine Rg.opp (v := nat (j + 1)) rfl rfl rfl rfl rfl ?_
            refine Rg.nil ?_
            refine ⟨(nextOf arcs o[k]).length - (j + 1), by omega, j + 1, raise d1 (nextOf arcs o[k])[j].up (nextOf arcs o[k])[j].lo, rfl, by
              have h := hM.tail
              rw [row_setA hkn] at h
              have e2 : (fun b' => if b' = o[k] then min (((mo : Nat) : Int) - ((d1 o[k] : Nat) : Int)) (((mo : Nat) : Int) - ((d1 (nextOf arcs o[k])[j].up : Nat) : Int) - 1) else ((mo : Nat) : Int) - ((d1 b' : Nat) : Int)) = fun x => ((mo : Nat) : Int) - ((raise d1 (nextOf arcs o[k])[j].up (nextOf arcs o[k])[j].lo x : Nat) : Int) := by
                funext z; unfold raise; rw [hjlo]
                split <;> omega
              rw [e2] at h; exact h, hltj, (hLd1.step (htp.bwd_no hk hltj).1 (htp.bwd_no hk hltj).2).congr (BwdIn.succ hltj), fun x => by
              unfold raise
              have h1 := hdb1 x
              have h2 := hdb (nextOf arcs o[k])[j].up
              have h3 := hdb1 (nextOf arcs o[k])[j].lo
              have h4 := hsm1 (nextOf arcs o[k])[j].up (fun q => (htp.fwd_no hk hltj).1 (by rw [q, hjlo]))
              split <;> omega, fun x hx => by
              unfold raise
              rw [if_neg (by rw [hjlo]; exact hx)]
              exact hsm1 x hx, Is.of ⟨rfl, rfl, rfl, rfl, rfl, rfl, rfl, rfl, rfl, rfl, rfl, rfl, rfl, rfl, trivial⟩⟩
          · skip
            have hje : j = (nextOf arcs o[k]).length := by omega
            subst hje
            refine Rg.opp (v := .bool false) rfl rfl rfl (ev_ltF rfl rfl (hltj)) rfl ?_
            refine Rg.nil ?_
            refine Runs.seq ?_
            refine Runs.cond false rfl (fun h => by cases h) (fun _ => ?_)
            refine Runs.exit ?_
            refine ⟨d1, hM, ?_, fun x => by have := hdb1 x; omega⟩
            rw [List.drop_eq_getElem_cons hk]
            exact hLd1.congr BwdIn.done
        · exact ⟨fun _ => 0, hM.more ((Ext.refl _).snoc rfl), Lev.zero.congr (fun x y => ⟨fun h => h.elim, fun ⟨a, _, h, _⟩ => by rw [List.drop_length] at h; simp at h⟩), fun x => Nat.zero_le _⟩
        · skip
          rintro Hc ⟨d, hM, hLd, hdb⟩
          refine Runs.seq ?_
          refine Runs.drawn (is := [0, 1, 2, 3, 4]) (by decide +kernel) ?_
          refine Rg.opp (v := ev0) rfl rfl rfl rfl rfl ?_
          refine Rg.opp (v := lv0) rfl rfl rfl (ev_ldb (hM.get_box (j := 5) rfl) rfl rfl rfl rfl rfl) rfl ?_
          refine Rg.opp (v := ev0) rfl rfl rfl rfl rfl ?_
          refine Rg.stob1 (j := 5) (cs' := [lv0]) hM rfl rfl rfl rfl rfl rfl rfl rfl rfl ((hM.get_sl (j := 1) rfl).one) (Nat.le_of_ble_eq_true rfl) rfl (fun Hc (hM : Mem H Hc ((.box pb 1 [so]) :: (.sl 1 lv0 (List.map encI ((List.range names.length).map (fun x => ((mo : Nat) : Int) - ((d x : Nat) : Int))))) :: (.sl 1 ev0 (List.map encN ((List.range names.length).map e))) :: (.sl 1 so (List.map encN o)) :: (.box pg6 1 [.pointer (some ⟨gp, 0, none⟩)]) :: (.box plat 1 ([lv0])) :: (.sl 3 aa (List.map arcC arcs)) :: (.sl 1 ax (List.map encV nx)) :: (.box gp 4 [an, .map (some M), aa, ax]) :: (.map M (mapE 0 names)) :: (inner nx names.length arcs))) => ?_)
          refine Rg.opp (v := nat 0) rfl rfl rfl rfl rfl ?_
          refine Rg.nil ?_
          refine Runs.ret ?_
          refine ⟨.tuple #[ev0, lv0, nat 0], res_cell rfl rfl rfl rfl (hM.get_box (j := 5) rfl) rfl rfl rfl, hM.ext, ?_⟩
          rw [if_neg hcy]
          refine ⟨ev0, lv0, e, d, mo, rfl, hM.get_sl (j := 2) rfl, hM.get_sl (j := 1) rfl, ⟨hL.congr fun x y => ⟨fun ⟨a, h1, _, h3⟩ => ⟨a, h1, h3⟩, fun ⟨a, h1, h3⟩ => ⟨a, h1, htp.all _ (wf.lo a h1), h3⟩⟩, hLd.congr fun x y => ⟨fun ⟨a, h1, _, h3⟩ => ⟨a, h1, h3⟩, fun ⟨a, h1, h3⟩ => ⟨a, h1, by rw [List.drop_zero]; exact htp.all _ (wf.lo a h1), h3⟩⟩, fun x hx => hmo x (htp.all x hx), ?_⟩⟩
          rcases hme with z | ⟨x, hx, z⟩
          · exact .inl z
          · exact .inr ⟨x, htp.lt x hx, z⟩


end Go.Proofs.Ytdhbclplondmjaa.C

end

section
/- The table with Ranks in it; the law on Ranks, plain. -/
set_option linter.unusedVariables false
set_option linter.unusedSimpArgs false
set_option maxRecDepth 100000
namespace Go.Proofs.Ytdhbclplondmjaa.C
open Go.RowKit Go.Sort

noncomputable def extX : FuncId → Option ExtF := fun f => bif Nat.beq f 12 then some (rangeB tab Try.f12) else extB f
noncomputable def tabX : Tab := { tab with ext := extX }

theorem fitsX : Fits Try.prog tabX := fitsE (ext := extX) fun f e h => by
  unfold extX at h
  rcases bif_key h with ⟨rfl, h⟩ | h
  · have h := Option.some.inj h; subst h; exact ⟨rangeB_ok fitsB rfl Try.func12, rfl⟩
  · exact extB_ok f e h

theorem upX {f : FuncId} {args : List Value} {H : Heap} {r : Value × Heap} (h : big tab f args H = some r) : big tabX f args H = some r := by
  obtain ⟨n, hn⟩ := big_some.1 h
  refine big_some.2 ⟨n, callC_more (T := tab) (e := extX) (g := 12) (eg := rangeB tab Try.f12) (fun f hf => ?_) rfl rfl (fun n args H r _ h => rangeB_of_callC (c := bodyOf Try.f12) rfl rfl rfl (by decide +kernel) h) n _ _ _ _ hn⟩
  unfold extX
  cases q : Nat.beq f 12 with
  | true => exact absurd (Nat.eq_of_beq_eq_true q) hf
  | false => rfl
theorem upS {f : FuncId} {args : List Value} {H : Heap} {P : Value → Heap → Prop} (h : ∃ v H1, big tab f args H = some (v, H1) ∧ P v H1) : ∃ v H1, big tabX f args H = some (v, H1) ∧ P v H1 := by
  obtain ⟨v, H1, h1, h2⟩ := h
  exact ⟨v, H1, upX h1, h2⟩

theorem ranks_runs {H : Heap} {v : Value} {l : List Rel} (hl : Sl H 3 v (rels l)) (hll : l.length ≤ 200) (hg : ∀ r ∈ l, Good r) (hu : (unitsP l).length ≤ 60) :
    ∃ r H1, big tabX 12 [v] H = some (r, H1) ∧ Ext H H1 ∧ if cycB (arcsOf l) = true then r = .tuple #[.slice none 0 0, .slice none 0 0, nat 27] else
      ∃ (e1 l1 : Value) (e d : Nat → Nat) (mo : Nat), r = .tuple #[e1, l1, nat 0] ∧ Sl H1 1 e1 (List.map encN ((List.range (unitsP l).length).map e)) ∧ Sl H1 1 l1 (List.map encI ((List.range (unitsP l).length).map fun x => ((mo : Nat) : Int) - ((d x : Nat) : Int))) ∧ RankOk (arcsOf l) (unitsP l).length e d mo := by
  obtain ⟨r, H1, ⟨n0, h1⟩, h2⟩ := ranks_ev hl hll hg hu
  exact ⟨r, H1, big_ext (T := tabX) (f := 12) rfl (rangeB_some (h1 n0 (Nat.le_refl _))), h2⟩

/-! ### Plain -/

def colM (mm : Nat → Nat → Nat) (i : Nat) : Nat → Nat
  | 0 => 0
  | k + 1 => max (colM mm i k) (mm k i)
def rowM (mm : Nat → Nat → Nat) (i : Nat) : Nat → Nat
  | 0 => 0
  | k + 1 => max (rowM mm i k) (mm i k)
def mxM (e : Nat → Nat) : Nat → Nat
  | 0 => 0
  | k + 1 => max (mxM e k) (e k)

theorem Lev.walk {arcs : List Arc} {e : Nat → Nat} (h : Lev (fun x y => ∃ a ∈ arcs, a.lo = x ∧ a.up = y) e) : ∀ (k x : Nat), e x = k → ∃ c, W (prs arcs) k c x
  | 0, x, _ => ⟨x, rfl⟩
  | k + 1, x, hk => by
    rcases h.from_ x with z | ⟨y, ⟨a, ha, h1, h2⟩, z⟩
    · omega
    · obtain ⟨c, hc⟩ := Lev.walk h k y (by omega)
      exact ⟨c, y, hc, List.mem_map.2 ⟨a, ha, by rw [h1, h2]⟩⟩
theorem Lev.walkB {arcs : List Arc} {d : Nat → Nat} (h : Lev (fun x y => ∃ a ∈ arcs, a.up = x ∧ a.lo = y) d) : ∀ (k x : Nat), d x = k → ∃ c, W (prs arcs) k x c
  | 0, x, _ => ⟨x, rfl⟩
  | k + 1, x, hk => by
    rcases h.from_ x with z | ⟨y, ⟨a, ha, h1, h2⟩, z⟩
    · omega
    · obtain ⟨c, hc⟩ := Lev.walkB h k y (by omega)
      have h3 : W (prs arcs) 1 x y := ⟨x, rfl, List.mem_map.2 ⟨a, ha, by rw [h1, h2]⟩⟩
      have := h3.trans hc
      rw [Nat.add_comm] at this
      exact ⟨c, this⟩
theorem Lev.up {arcs : List Arc} {e : Nat → Nat} (h : Lev (fun x y => ∃ a ∈ arcs, a.lo = x ∧ a.up = y) e) {k x y : Nat} (hw : W (prs arcs) k x y) : e x + k ≤ e y :=
  W.grows (fun p hp => by obtain ⟨a, ha, rfl⟩ := List.mem_map.1 hp; exact h.ge _ _ ⟨a, ha, rfl, rfl⟩) hw
theorem Lev.down {arcs : List Arc} {d : Nat → Nat} (h : Lev (fun x y => ∃ a ∈ arcs, a.up = x ∧ a.lo = y) d) : ∀ {k x y : Nat}, W (prs arcs) k x y → d y + k ≤ d x
  | 0, x, y, hw => by cases hw; omega
  | k + 1, x, y, ⟨c, hw, hm⟩ => by
    obtain ⟨a, ha, e⟩ := List.mem_map.1 hm
    have h1 := h.ge _ _ ⟨a, ha, (Prod.mk.inj e).2, (Prod.mk.inj e).1⟩
    have := Lev.down h hw
    omega

theorem le_colM (mm : Nat → Nat → Nat) (i : Nat) : ∀ {n k : Nat}, k < n → mm k i ≤ colM mm i n
  | n + 1, k, h => by
    show mm k i ≤ max (colM mm i n) (mm n i)
    rcases Nat.lt_or_ge k n with q | q
    · have := le_colM mm i q; omega
    · have : k = n := by omega
      subst this; omega
theorem le_rowM (mm : Nat → Nat → Nat) (i : Nat) : ∀ {n k : Nat}, k < n → mm i k ≤ rowM mm i n
  | n + 1, k, h => by
    show mm i k ≤ max (rowM mm i n) (mm i n)
    rcases Nat.lt_or_ge k n with q | q
    · have := le_rowM mm i q; omega
    · have : k = n := by omega
      subst this; omega
theorem colM_le (mm : Nat → Nat → Nat) (i x : Nat) : ∀ {n : Nat}, (∀ k, k < n → mm k i ≤ x) → colM mm i n ≤ x
  | 0, _ => Nat.zero_le _
  | n + 1, h => by
    show max (colM mm i n) (mm n i) ≤ x
    have := colM_le mm i x (n := n) fun k hk => h k (by omega)
    have := h n (by omega)
    omega
theorem rowM_le (mm : Nat → Nat → Nat) (i x : Nat) : ∀ {n : Nat}, (∀ k, k < n → mm i k ≤ x) → rowM mm i n ≤ x
  | 0, _ => Nat.zero_le _
  | n + 1, h => by
    show max (rowM mm i n) (mm i n) ≤ x
    have := rowM_le mm i x (n := n) fun k hk => h k (by omega)
    have := h n (by omega)
    omega
theorem mxM_le (e : Nat → Nat) (x : Nat) : ∀ {n : Nat}, (∀ k, k < n → e k ≤ x) → mxM e n ≤ x
  | 0, _ => Nat.zero_le _
  | n + 1, h => by
    show max (mxM e n) (e n) ≤ x
    have := mxM_le e x (n := n) fun k hk => h k (by omega)
    have := h n (by omega)
    omega
theorem le_mxM (e : Nat → Nat) : ∀ {n k : Nat}, k < n → e k ≤ mxM e n
  | n + 1, k, h => by
    show e k ≤ max (mxM e n) (e n)
    rcases Nat.lt_or_ge k n with q | q
    · have := le_mxM e q; omega
    · have : k = n := by omega
      subst this; omega

section
variable {arcs : List Arc} {n : Nat} {e d : Nat → Nat} {mo : Nat} {mm : Nat → Nat → Nat}
theorem far_walk {k a b x : Nat} (h : Far (prs arcs) k a b x) : W (prs arcs) x a b ∨ x = 0 := by
  rcases h with ⟨h, _⟩ | ⟨_, _, h, _⟩
  · exact .inr h
  · exact .inl h

theorem RankOk.col (h : RankOk arcs n e d mo) (wf : WF n arcs) (hn : n ≤ 8) (hc : ¬ Cyc arcs) (hF : ∀ c b, Far (prs arcs) 8 c b (mm c b)) {i : Nat} (hi : i < n) : colM mm i n = e i := by
  refine Nat.le_antisymm (colM_le mm i _ fun k hk => ?_) ?_
  · rcases far_walk (hF k i) with q | q
    · have := h.fwd.up q; omega
    · omega
  · obtain ⟨c, hw⟩ := h.fwd.walk (e i) i rfl
    rcases Nat.eq_zero_or_pos (e i) with q | q
    · omega
    · have hcn := (rch_lt wf ⟨e i, q, hw⟩).1
      have h1 := far_ge wf hn hc (hF c i) hw
      have h2 := le_colM mm i hcn
      omega
theorem RankOk.row (h : RankOk arcs n e d mo) (wf : WF n arcs) (hn : n ≤ 8) (hc : ¬ Cyc arcs) (hF : ∀ c b, Far (prs arcs) 8 c b (mm c b)) {i : Nat} (hi : i < n) : rowM mm i n = d i := by
  refine Nat.le_antisymm (rowM_le mm i _ fun k hk => ?_) ?_
  · rcases far_walk (hF i k) with q | q
    · have := h.bwd.down q; omega
    · omega
  · obtain ⟨c, hw⟩ := h.bwd.walkB (d i) i rfl
    rcases Nat.eq_zero_or_pos (d i) with q | q
    · omega
    · have hcn := (rch_lt wf ⟨d i, q, hw⟩).2
      have h1 := far_ge wf hn hc (hF i c) hw
      have h2 := le_rowM mm i hcn
      omega
theorem RankOk.sum (h : RankOk arcs n e d mo) (wf : WF n arcs) {i : Nat} (hi : i < n) : e i + d i ≤ mo := by
  obtain ⟨c, hw⟩ := h.bwd.walkB (d i) i rfl
  have h1 := h.fwd.up hw
  rcases Nat.eq_zero_or_pos (d i) with q | q
  · have := h.le i hi; omega
  · have := h.le c (rch_lt wf ⟨d i, q, hw⟩).2; omega
theorem RankOk.mx (h : RankOk arcs n e d mo) : mxM e n = mo := by
  refine Nat.le_antisymm (mxM_le e mo h.le) ?_
  rcases h.most with q | ⟨x, hx, q⟩
  · omega
  · have := le_mxM e hx; omega
end

theorem sameIN_runs {H : Heap} {v1 v2 : Value} {xs : List Int} {ys : List Nat} (h1 : Sl H 1 v1 (xs.map encI)) (h2 : Sl H 1 v2 (ys.map encN)) (hx : xs.length < 2 ^ 40) (he : xs = ys.map fun y : Nat => (y : Int)) :
    big tab 15 [v1, v2] H = some (.bool true, H) := by
  have e : ys.map encN = ints (ys.map fun z : Nat => (z : Int)) := by simp [ints]
  rw [e] at h2
  have h := sameInts_runs (ext := extB) rfl (xs := xs) h1 h2 hx
  rw [decide_eq_true he] at h
  exact h
theorem range_map_succ {f : Nat → Nat} (i : Nat) : (List.range (i + 1)).map f = (List.range i).map f ++ [f i] := by rw [List.range_succ, List.map_append]; rfl

end Go.Proofs.Ytdhbclplondmjaa.C

end

section
/- The law on succession.Ranks, run: it answers true. -/
set_option linter.unusedVariables false
set_option linter.unusedSimpArgs false
set_option maxRecDepth 100000
set_option maxHeartbeats 4000000
namespace Go.Proofs.Ytdhbclplondmjaa.C
open Go.RowKit Go.Sort

theorem lawRanks_runs {H : Heap} {v : Value} {xs : List Seen} (hs : Sl H 3 v (seens xs)) (hsm : ∀ s ∈ xs, s.k < 256 ∧ s.u < 256 ∧ s.l < 256) :
    ∃ r H1, big tabX 3 [v] H = some (r, H1) ∧ r = .bool true := by
  refine big_of_runs rfl rfl rfl ?_
  obtain ⟨z, hz⟩ := startC_mkS Try.f3 [v]
  rw [show startC (3, Try.f3).snd [v] = _ from hz]
  clear hz
  refine Runs.cut (n := 123) (l := [(0, v)]) (Is.of ⟨rfl, rfl, trivial⟩) (fun a0 => ?_)
  refine Runs.seq ?_
  refine Runs.region ?_
  refine Rg.opp (v := .bool false) rfl rfl rfl rfl rfl ?_
  refine Rg.nil ?_
  refine Runs.seq ?_
  refine Runs.seq ?_
  refine Runs.region ?_
  refine Rg.calls (v := .bool true) rfl rfl rfl rfl (rfl) rfl (upX (known_is _)) ?_
  refine Rg.opp (v := .bool false) rfl rfl rfl rfl rfl ?_
  refine Rg.opp (v := .bool false) rfl rfl rfl rfl rfl ?_
  refine Rg.guards true rfl rfl rfl (fun _ => ⟨v, _, evW_op (rfl), rfl, ?_⟩) (fun h => by cases h)
  by_cases hx8 : xs.length ≤ 8
  · skip
    refine Rg.guards true rfl rfl rfl (fun _ => ⟨.bool true, _, evW_call rfl (rfl) (upX (fits_T hs hx8)), rfl, ?_⟩) (fun h => by cases h)
    refine Rg.guards true rfl rfl rfl (fun _ => ⟨.bool false, _, evW_op (rfl), rfl, ?_⟩) (fun h => by cases h)
    refine Rg.opp (v := .bool false) rfl rfl rfl rfl rfl ?_
    refine Rg.nil ?_
    refine Runs.cond false rfl (fun h => by cases h) (fun _ => ?_)
    refine Runs.skip ?_
    refine Runs.seq ?_
    refine Runs.region ?_
    refine Rg.opp (v := v) rfl rfl rfl rfl rfl ?_
    refine Rg.callW rfl rfl rfl rfl (rfl) rfl (upS (makeS_runs hs hsm hx8)) (fun lv Hm hP => ?_)
    obtain ⟨hem, hl⟩ := hP
    have sly := seenly xs hx8
    generalize List.map mk xs = l at hl sly
    have hll := sly.len
    have hu6 := sly.units
    have hM := Mem.start Hm
    refine Rg.opp (v := lv) rfl rfl rfl rfl rfl ?_
    refine Rg.nil ?_
    refine Runs.seq ?_
    refine Runs.region ?_
    refine Rg.opp (v := lv) rfl rfl rfl rfl rfl ?_
    by_cases hcy : cycB (arcsOf l) = true
    · skip
      refine Rg.callW rfl rfl rfl rfl (rfl) rfl (ranks_runs (hl.sees hM.ext.sees) (by omega) sly.good (by omega)) (fun rk Hq hP => ?_)
      obtain ⟨heq, hrk⟩ := hP
      rw [if_pos hcy] at hrk
      subst hrk
      have hM := Mem.start Hq
      refine Rg.opp (v := .tuple #[.slice none 0 0, .slice none 0 0, nat 27]) rfl rfl rfl rfl rfl ?_
      refine Rg.opp (v := .slice none 0 0) rfl rfl rfl rfl rfl ?_
      refine Rg.opp (v := .slice none 0 0) rfl rfl rfl rfl rfl ?_
      refine Rg.opp (v := nat 27) rfl rfl rfl rfl rfl ?_
      refine Rg.opp (v := .slice none 0 0) rfl rfl rfl rfl rfl ?_
      refine Rg.opp (v := .slice none 0 0) rfl rfl rfl rfl rfl ?_
      refine Rg.opp (v := nat 27) rfl rfl rfl rfl rfl ?_
      refine Rg.nil ?_
      refine Runs.seq ?_
      refine Runs.seq ?_
      refine Runs.region ?_
      refine Rg.opp (v := lv) rfl rfl rfl rfl rfl ?_
      refine Rg.callW rfl rfl rfl rfl (rfl) rfl (upS (cyclic_runs (hl.sees (heq.trans hM.ext).sees) (by omega) (by omega))) (fun rc Hc hP => ?_)
      obtain ⟨hrc, hec⟩ := hP
      rw [hcy] at hrc
      subst hrc
      replace hM := hM.more hec
      refine Rg.nil ?_
      refine Runs.cond true rfl (fun _ => ?_) (fun h => by cases h)
      refine Runs.seq ?_
      refine Runs.region ?_
      refine Rg.opp (v := .slice none 0 0) rfl rfl rfl rfl rfl ?_
      refine Rg.opp (v := nat 0) rfl rfl rfl rfl rfl ?_
      refine Rg.opp (v := .slice none 0 0) rfl rfl rfl rfl rfl ?_
      refine Rg.opp (v := nat 0) rfl rfl rfl rfl rfl ?_
      refine Rg.opp (v := nat 0) rfl rfl rfl (ev_addN (b := 0) rfl rfl (by omega)) rfl ?_
      refine Rg.opp (v := .bool true) rfl rfl rfl (ev_eqT (a := 0) (b := 0) rfl rfl (rfl)) rfl ?_
      refine Rg.opp (v := .bool true) rfl rfl rfl rfl rfl ?_
      refine Rg.guards true rfl rfl rfl (fun _ => ⟨nat 27, _, evW_op (rfl), rfl, ?_⟩) (fun h => by cases h)
      refine Rg.guards true rfl rfl rfl (fun _ => ⟨.bool true, _, evW_op (ev_eqT rfl rfl (by decide)), rfl, ?_⟩) (fun h => by cases h)
      refine Rg.opp (v := .bool true) rfl rfl rfl rfl rfl ?_
      refine Rg.opp (v := .bool true) rfl rfl rfl rfl rfl ?_
      refine Rg.nil ?_
      refine Runs.ret ?_
      refine ⟨.bool true, rfl, ?_⟩
      rfl
    · skip
      refine Rg.callW rfl rfl rfl rfl (rfl) rfl (ranks_runs (hl.sees hM.ext.sees) (by omega) sly.good (by omega)) (fun rk Hq hP => ?_)
      obtain ⟨heq, hrk⟩ := hP
      rw [if_neg hcy] at hrk
      obtain ⟨e1, l1, e, d, mo, rfl, hes, hls, hrk⟩ := hrk
      have hnc : ¬ Cyc (arcsOf l) := fun h => hcy (cycB_iff.2 h)
      have wf := arcs_wf l
      have hM := Mem.start Hq
      refine Rg.opp (v := .tuple #[e1, l1, nat 0]) rfl rfl rfl rfl rfl ?_
      refine Rg.opp (v := e1) rfl rfl rfl rfl rfl ?_
      refine Rg.opp (v := l1) rfl rfl rfl rfl rfl ?_
      refine Rg.opp (v := nat 0) rfl rfl rfl rfl rfl ?_
      refine Rg.opp (v := e1) rfl rfl rfl rfl rfl ?_
      refine Rg.opp (v := l1) rfl rfl rfl rfl rfl ?_
      refine Rg.opp (v := nat 0) rfl rfl rfl rfl rfl ?_
      refine Rg.nil ?_
      refine Runs.seq ?_
      refine Runs.seq ?_
      refine Runs.region ?_
      refine Rg.opp (v := lv) rfl rfl rfl rfl rfl ?_
      refine Rg.callW rfl rfl rfl rfl (rfl) rfl (upS (cyclic_runs (hl.sees (heq.trans hM.ext).sees) (by omega) (by omega))) (fun rc Hc hP => ?_)
      obtain ⟨hrc, hec⟩ := hP
      rw [show cycB (arcsOf l) = false by simpa using hcy] at hrc
      subst hrc
      replace hM := hM.more hec
      refine Rg.nil ?_
      refine Runs.cond false rfl (fun h => by cases h) (fun _ => ?_)
      refine Runs.skip ?_
      refine Runs.seq ?_
      refine Runs.region ?_
      refine Rg.opp (v := lv) rfl rfl rfl rfl rfl ?_
      refine Rg.callW rfl rfl rfl rfl (rfl) rfl (upS (reach_runs (hl.sees (heq.trans hM.ext).sees) (by omega) (by omega))) (fun rv Hr hP => ?_)
      obtain ⟨her, ov, mm, hrow, hov, hrows, hF⟩ := hP
      replace her := hM.ext.trans her
      replace hM := Mem.start Hr
      refine Rg.opp (v := rv) rfl rfl rfl rfl rfl ?_
      refine Rg.nil ?_
      refine Runs.seq ?_
      refine Runs.region ?_
      refine Rg.opp (v := .slice none 0 0) rfl rfl rfl rfl rfl ?_
      refine Rg.opp (v := .slice none 0 0) rfl rfl rfl rfl rfl ?_
      refine Rg.nil ?_
      refine Runs.seq ?_
      refine Runs.region ?_
      refine Rg.opp (v := nat 0) rfl rfl rfl rfl rfl ?_
      refine Rg.nil ?_
      refine Runs.seq ?_
      refine Runs.seq ?_
      refine Runs.region ?_
      refine Rg.opp (v := nat 0) rfl rfl rfl rfl rfl ?_
      refine Rg.nil ?_
      refine Runs.block ?_
      refine Runs.loop (fun m s Hc => ∃ (i : Nat) (w1 : Value), m = ov.length - i ∧ Mem Hr Hc ([.sl 1 w1 (List.map encN ((List.range i).map e))]) ∧ (i ≤ ov.length) ∧ Is s 123 [(4, e1), (5, l1), (6, nat 0), (7, rv), (8, w1), (9, .slice none 0 0), (10, nat (mxM e i)), (11, nat i)]) _
        ⟨0, .slice none 0 0, rfl, hM.nilSl 1, Nat.zero_le _, Is.of ⟨rfl, rfl, rfl, rfl, rfl, rfl, rfl, rfl, rfl, rfl, rfl, rfl, rfl, rfl, rfl, rfl, trivial⟩⟩ ?_
      rintro m s Hc ⟨i, w1, rfl, hM, hi, hs⟩
      obtain ⟨a1, rfl⟩ := hs.mk1
      clear hs
      refine Runs.seq ?_
      refine Runs.seq ?_
      refine Runs.region ?_
      refine Rg.opp (v := nat i) rfl rfl rfl rfl rfl ?_
      refine Rg.opp (v := rv) rfl rfl rfl rfl rfl ?_
      refine Rg.opp (v := nat ov.length) rfl rfl rfl (ev_lenM (hrow.sees hM.ext.sees) rfl rfl) rfl ?_
      by_cases hlt : i < ov.length
      · skip
        refine Rg.opp (v := .bool true) rfl rfl rfl (ev_ltT rfl rfl (hlt)) rfl ?_
        refine Rg.nil ?_
        refine Runs.cond true rfl (fun _ => ?_) (fun h => by cases h)
        refine Runs.skip ?_
        refine Runs.seq ?_
        refine Runs.block ?_
        refine Runs.seq ?_
        refine Runs.region ?_
        refine Rg.opp (v := nat 0) rfl rfl rfl rfl rfl ?_
        refine Rg.nil ?_
        refine Runs.seq ?_
        refine Runs.seq ?_
        refine Runs.region ?_
        refine Rg.opp (v := nat 0) rfl rfl rfl rfl rfl ?_
        refine Rg.nil ?_
        refine Runs.block ?_
        refine Runs.loop (fun m s Hc => ∃ (k : Nat), m = ov.length - k ∧ Mem Hr Hc ([.sl 1 w1 (List.map encN ((List.range i).map e))]) ∧ (k ≤ ov.length) ∧ Is s 123 [(4, e1), (5, l1), (6, nat 0), (7, rv), (8, w1), (9, .slice none 0 0), (10, nat (mxM e i)), (11, nat i), (12, nat (colM mm i k)), (13, nat k)]) _
          ⟨0, rfl, hM, Nat.zero_le _, Is.of ⟨rfl, rfl, rfl, rfl, rfl, rfl, rfl, rfl, rfl, rfl, rfl, rfl, rfl, rfl, rfl, rfl, rfl, rfl, rfl, rfl, trivial⟩⟩ ?_
        rintro m s Hc ⟨k, rfl, hM, hk, hs⟩
        obtain ⟨a2, rfl⟩ := hs.mk1
        clear hs
        refine Runs.seq ?_
        refine Runs.seq ?_
        refine Runs.region ?_
        refine Rg.opp (v := nat k) rfl rfl rfl rfl rfl ?_
        refine Rg.opp (v := rv) rfl rfl rfl rfl rfl ?_
        refine Rg.opp (v := nat ov.length) rfl rfl rfl (ev_lenM (hrow.sees hM.ext.sees) rfl rfl) rfl ?_
        by_cases hltk : k < ov.length
        · skip
          refine Rg.opp (v := .bool true) rfl rfl rfl (ev_ltT rfl rfl (hltk)) rfl ?_
          refine Rg.nil ?_
          refine Runs.cond true rfl (fun _ => ?_) (fun h => by cases h)
          refine Runs.skip ?_
          refine Runs.seq ?_
          refine Runs.block ?_
          refine Runs.region ?_
          refine Rg.opp (v := nat (colM mm i k)) rfl rfl rfl rfl rfl ?_
          refine Rg.opp (v := rv) rfl rfl rfl rfl rfl ?_
          refine Rg.opp (v := nat k) rfl rfl rfl rfl rfl ?_
          refine Rg.opp (v := ptrAt (sAddr rv) (k * 1)) rfl rfl rfl (ev_idxM (k := k) (hrow.sees hM.ext.sees) rfl rfl (hltk) rfl rfl rfl (by decide)) rfl ?_
          refine Rg.opp (v := ov[k]) rfl rfl rfl (ev_ldM (k := k) (hrow.sees hM.ext.sees) rfl (hltk) rfl rfl rfl rfl) rfl ?_
          refine Rg.opp (v := nat i) rfl rfl rfl rfl rfl ?_
          refine Rg.opp (v := ptrAt (sAddr (ov[k])) (i * 1)) rfl rfl rfl (ev_idxM (k := i) ((hrows k hltk).sees hM.ext.sees) rfl rfl (by simp; omega) rfl rfl rfl (by decide)) rfl ?_
          refine Rg.opp (v := nat (mm k i)) rfl rfl rfl (ev_ldM (k := i) ((hrows k hltk).sees hM.ext.sees) rfl (by simp; omega) (by simp) rfl rfl rfl) rfl ?_
          refine Rg.opp (v := nat (max (colM mm i k) (mm k i))) rfl rfl rfl (ev_maxN (a := colM mm i k) (b := mm k i) rfl rfl) rfl ?_
          refine Rg.opp (v := nat (max (colM mm i k) (mm k i))) rfl rfl rfl rfl rfl ?_
          refine Rg.nil ?_
          refine Runs.region ?_
          refine Rg.opp (v := nat k) rfl rfl rfl rfl rfl ?_
          refine Rg.opp (v := nat (k + 1)) rfl rfl rfl (ev_addN (b := 1) rfl rfl (by omega)) rfl ?_
          refine Rg.opp (v := nat (k + 1)) rfl rfl rfl rfl rfl ?_
          refine Rg.nil ?_
          refine ⟨ov.length - (k + 1), by omega, k + 1, rfl, hM, hltk, Is.of ⟨rfl, rfl, rfl, rfl, rfl, rfl, rfl, rfl, rfl, rfl, rfl, rfl, rfl, rfl, rfl, rfl, rfl, rfl, rfl, rfl, trivial⟩⟩
        · skip
          have hke : k = (unitsP l).length := by omega
          have hcol : colM mm i k = e i := by rw [hke]; exact hrk.col wf (by omega) hnc hF (by omega)
          refine Rg.opp (v := .bool false) rfl rfl rfl (ev_ltF rfl rfl (hltk)) rfl ?_
          refine Rg.nil ?_
          refine Runs.cond false rfl (fun h => by cases h) (fun _ => ?_)
          refine Runs.exit ?_
          rw [hcol]
          refine Runs.region ?_
          refine Rg.opp (v := w1) rfl rfl rfl rfl rfl ?_
          refine Rg.opp (v := nat (e i)) rfl rfl rfl rfl rfl ?_
          refine Rg.lit (f := encN) (sz := 1) (xs := [e i]) hM rfl rfl rfl rfl rfl (by simp) (by simp) (fun u3 Hc (hM : Mem Hr Hc ([.sl 1 u3 (List.map encN ([e i])), .sl 1 w1 (List.map encN ((List.range i).map e))])) _ => ?_)
          refine Rg.appM (f := encN) (sz := 1) (j := 1) (v := w1) (xs := (List.range i).map e) (ys := [e i]) hM rfl rfl rfl rfl rfl rfl rfl (hM.get_sl (j := 0) rfl) ⟨rfl, rfl, rfl, by decide⟩ rfl (by simp [oneCell]) (by show (_ + _) * 8 ≤ 2 ^ 40; simp only [List.length_map, List.length_range, List.length_cons, List.length_nil]; omega) (by simp) (fun w2 Hc (hM : Mem Hr Hc ([.sl 1 u3 (List.map encN ([e i])), .sl 1 w2 (List.map encN (((List.range i).map e) ++ ([e i])))])) hg2 => ?_)
          replace hM : Mem Hr _ ([.sl 1 w2 (List.map encN (((List.range i).map e) ++ ([e i])))]) := hM.erase 0
          refine Rg.opp (v := nat (mxM e i)) rfl rfl rfl rfl rfl ?_
          refine Rg.opp (v := nat (e i)) rfl rfl rfl rfl rfl ?_
          refine Rg.opp (v := nat (max (mxM e i) (e i))) rfl rfl rfl (ev_maxN (a := mxM e i) (b := e i) rfl rfl) rfl ?_
          refine Rg.opp (v := w2) rfl rfl rfl rfl rfl ?_
          refine Rg.opp (v := nat (max (mxM e i) (e i))) rfl rfl rfl rfl rfl ?_
          refine Rg.nil ?_
          refine Runs.region ?_
          refine Rg.opp (v := nat i) rfl rfl rfl rfl rfl ?_
          refine Rg.opp (v := nat (i + 1)) rfl rfl rfl (ev_addN (b := 1) rfl rfl (by omega)) rfl ?_
          refine Rg.opp (v := nat (i + 1)) rfl rfl rfl rfl rfl ?_
          refine Rg.nil ?_
          refine ⟨ov.length - (i + 1), by omega, i + 1, w2, rfl, by rw [range_map_succ]; exact hM, hlt, Is.of ⟨rfl, rfl, rfl, rfl, rfl, rfl, rfl, rfl, rfl, rfl, rfl, rfl, rfl, rfl, rfl, rfl, trivial⟩⟩
      · skip
        have hie : i = ov.length := by omega
        rw [hov] at hie
        refine Rg.opp (v := .bool false) rfl rfl rfl (ev_ltF rfl rfl (hlt)) rfl ?_
        refine Rg.nil ?_
        refine Runs.cond false rfl (fun h => by cases h) (fun _ => ?_)
        refine Runs.exit ?_
        rw [hie, hrk.mx]
        rw [hie] at hM
        refine Runs.seq ?_
        refine Runs.seq ?_
        refine Runs.region ?_
        refine Rg.opp (v := nat 0) rfl rfl rfl rfl rfl ?_
        refine Rg.nil ?_
        refine Runs.block ?_
        refine Runs.loop (fun m s Hc => ∃ (i : Nat) (w3 : Value), m = ov.length - i ∧ Mem Hr Hc ([.sl 1 w3 (List.map encN ((List.range i).map (fun x => mo - d x))), .sl 1 w1 (List.map encN ((List.range ((unitsP l).length)).map e))]) ∧ (i ≤ ov.length) ∧ Is s 123 [(4, e1), (5, l1), (6, nat 0), (7, rv), (8, w1), (9, w3), (10, nat mo), (14, nat i)]) _
          ⟨0, .slice none 0 0, rfl, hM.nilSl 1, Nat.zero_le _, Is.of ⟨rfl, rfl, rfl, rfl, rfl, rfl, rfl, rfl, rfl, rfl, rfl, rfl, rfl, rfl, rfl, rfl, trivial⟩⟩ ?_
        rintro m s Hc ⟨i, w3, rfl, hM, hi, hs⟩
        obtain ⟨a4, rfl⟩ := hs.mk1
        clear hs
        refine Runs.seq ?_
        refine Runs.seq ?_
        refine Runs.region ?_
        refine Rg.opp (v := nat i) rfl rfl rfl rfl rfl ?_
        refine Rg.opp (v := rv) rfl rfl rfl rfl rfl ?_
        refine Rg.opp (v := nat ov.length) rfl rfl rfl (ev_lenM (hrow.sees hM.ext.sees) rfl rfl) rfl ?_
        by_cases hlt : i < ov.length
        · skip
          have hin : i < (unitsP l).length := by omega
          have hsum := hrk.sum wf hin
          have hmob : mo ≤ 8 := by
            have h1 := hrk.mx
            refine h1 ▸ mxM_le e 8 fun k hk => ?_
            rw [← hrk.col wf (by omega) hnc hF hk]
            exact colM_le mm k 8 fun j hj => (hF j k).le
          refine Rg.opp (v := .bool true) rfl rfl rfl (ev_ltT rfl rfl (hlt)) rfl ?_
          refine Rg.nil ?_
          refine Runs.cond true rfl (fun _ => ?_) (fun h => by cases h)
          refine Runs.skip ?_
          refine Runs.seq ?_
          refine Runs.block ?_
          refine Runs.seq ?_
          refine Runs.region ?_
          refine Rg.opp (v := nat 0) rfl rfl rfl rfl rfl ?_
          refine Rg.nil ?_
          refine Runs.seq ?_
          refine Runs.seq ?_
          refine Runs.region ?_
          refine Rg.opp (v := nat 0) rfl rfl rfl rfl rfl ?_
          refine Rg.nil ?_
          refine Runs.block ?_
          refine Runs.loop (fun m s Hc => ∃ (k : Nat), m = ov.length - k ∧ Mem Hr Hc ([.sl 1 w3 (List.map encN ((List.range i).map (fun x => mo - d x))), .sl 1 w1 (List.map encN ((List.range ((unitsP l).length)).map e))]) ∧ (k ≤ ov.length) ∧ Is s 123 [(4, e1), (5, l1), (6, nat 0), (7, rv), (8, w1), (9, w3), (10, nat mo), (14, nat i), (15, nat (rowM mm i k)), (16, nat k)]) _
            ⟨0, rfl, hM, Nat.zero_le _, Is.of ⟨rfl, rfl, rfl, rfl, rfl, rfl, rfl, rfl, rfl, rfl, rfl, rfl, rfl, rfl, rfl, rfl, rfl, rfl, rfl, rfl, trivial⟩⟩ ?_
          rintro m s Hc ⟨k, rfl, hM, hk, hs⟩
          obtain ⟨a5, rfl⟩ := hs.mk1
          clear hs
          refine Runs.seq ?_
          refine Runs.seq ?_
          refine Runs.region ?_
          refine Rg.opp (v := nat k) rfl rfl rfl rfl rfl ?_
          refine Rg.opp (v := rv) rfl rfl rfl rfl rfl ?_
          refine Rg.opp (v := nat ov.length) rfl rfl rfl (ev_lenM (hrow.sees hM.ext.sees) rfl rfl) rfl ?_
          by_cases hltk : k < ov.length
          · skip
            refine Rg.opp (v := .bool true) rfl rfl rfl (ev_ltT rfl rfl (hltk)) rfl ?_
            refine Rg.nil ?_
            refine Runs.cond true rfl (fun _ => ?_) (fun h => by cases h)
            refine Runs.skip ?_
            refine Runs.seq ?_
            refine Runs.block ?_
            refine Runs.region ?_
            refine Rg.opp (v := nat (rowM mm i k)) rfl rfl rfl rfl rfl ?_
            refine Rg.opp (v := rv) rfl rfl rfl rfl rfl ?_
            refine Rg.opp (v := nat i) rfl rfl rfl rfl rfl ?_
            refine Rg.opp (v := ptrAt (sAddr rv) (i * 1)) rfl rfl rfl (ev_idxM (k := i) (hrow.sees hM.ext.sees) rfl rfl (hlt) rfl rfl rfl (by decide)) rfl ?_
            refine Rg.opp (v := ov[i]) rfl rfl rfl (ev_ldM (k := i) (hrow.sees hM.ext.sees) rfl (hlt) rfl rfl rfl rfl) rfl ?_
            refine Rg.opp (v := nat k) rfl rfl rfl rfl rfl ?_
            refine Rg.opp (v := ptrAt (sAddr (ov[i])) (k * 1)) rfl rfl rfl (ev_idxM (k := k) ((hrows i hlt).sees hM.ext.sees) rfl rfl (by simp; omega) rfl rfl rfl (by decide)) rfl ?_
            refine Rg.opp (v := nat (mm i k)) rfl rfl rfl (ev_ldM (k := k) ((hrows i hlt).sees hM.ext.sees) rfl (by simp; omega) (by simp) rfl rfl rfl) rfl ?_
            refine Rg.opp (v := nat (max (rowM mm i k) (mm i k))) rfl rfl rfl (ev_maxN (a := rowM mm i k) (b := mm i k) rfl rfl) rfl ?_
            refine Rg.opp (v := nat (max (rowM mm i k) (mm i k))) rfl rfl rfl rfl rfl ?_
            refine Rg.nil ?_
            refine Runs.region ?_
            refine Rg.opp (v := nat k) rfl rfl rfl rfl rfl ?_
            refine Rg.opp (v := nat (k + 1)) rfl rfl rfl (ev_addN (b := 1) rfl rfl (by omega)) rfl ?_
            refine Rg.opp (v := nat (k + 1)) rfl rfl rfl rfl rfl ?_
            refine Rg.nil ?_
            refine ⟨ov.length - (k + 1), by omega, k + 1, rfl, hM, hltk, Is.of ⟨rfl, rfl, rfl, rfl, rfl, rfl, rfl, rfl, rfl, rfl, rfl, rfl, rfl, rfl, rfl, rfl, rfl, rfl, rfl, rfl, trivial⟩⟩
          · skip
            have hke : k = (unitsP l).length := by omega
            have hrow2 : rowM mm i k = d i := by rw [hke]; exact hrk.row wf (by omega) hnc hF (by omega)
            refine Rg.opp (v := .bool false) rfl rfl rfl (ev_ltF rfl rfl (hltk)) rfl ?_
            refine Rg.nil ?_
            refine Runs.cond false rfl (fun h => by cases h) (fun _ => ?_)
            refine Runs.exit ?_
            rw [hrow2]
            refine Runs.seq ?_
            refine Runs.region ?_
            refine Rg.opp (v := w3) rfl rfl rfl rfl rfl ?_
            refine Rg.opp (v := nat mo) rfl rfl rfl rfl rfl ?_
            refine Rg.opp (v := nat (d i)) rfl rfl rfl rfl rfl ?_
            refine Rg.opp (v := nat (mo - (d i))) rfl rfl rfl (ev_subN (a := mo) (b := d i) rfl rfl (by omega) (by omega)) rfl ?_
            refine Rg.lit (f := encN) (sz := 1) (xs := [mo - (d i)]) hM rfl rfl rfl rfl rfl (by simp) (by simp) (fun u6 Hc (hM : Mem Hr Hc ([.sl 1 u6 (List.map encN ([mo - (d i)])), .sl 1 w3 (List.map encN ((List.range i).map (fun x => mo - d x))), .sl 1 w1 (List.map encN ((List.range ((unitsP l).length)).map e))])) _ => ?_)
            refine Rg.appM (f := encN) (sz := 1) (j := 1) (v := w3) (xs := (List.range i).map (fun x => mo - d x)) (ys := [mo - (d i)]) hM rfl rfl rfl rfl rfl rfl rfl (hM.get_sl (j := 0) rfl) ⟨rfl, rfl, rfl, by decide⟩ rfl (by simp [oneCell]) (by show (_ + _) * 8 ≤ 2 ^ 40; simp only [List.length_map, List.length_range, List.length_cons, List.length_nil]; omega) (by simp) (fun w4 Hc (hM : Mem Hr Hc ([.sl 1 u6 (List.map encN ([mo - (d i)])), .sl 1 w4 (List.map encN (((List.range i).map (fun x => mo - d x)) ++ ([mo - (d i)]))), .sl 1 w1 (List.map encN ((List.range ((unitsP l).length)).map e))])) hg4 => ?_)
            replace hM : Mem Hr Hc ([.sl 1 u6 (List.map encN ([mo - (d i)])), .sl 1 w4 (List.map encN ((List.range (i + 1)).map (fun x => mo - d x))), .sl 1 w1 (List.map encN ((List.range ((unitsP l).length)).map e))]) := by rw [range_map_succ]; exact hM
            replace hM : Mem Hr _ ([.sl 1 w4 (List.map encN ((List.range (i + 1)).map (fun x => mo - d x))), .sl 1 w1 (List.map encN ((List.range ((unitsP l).length)).map e))]) := hM.erase 0
            refine Rg.opp (v := w4) rfl rfl rfl rfl rfl ?_
            refine Rg.nil ?_
            refine Runs.seq ?_
            refine Runs.drawn (is := [0, 1, 2, 3, 4, 5, 6, 7, 8]) (by decide +kernel) ?_
            refine Rg.opp (v := w1) rfl rfl rfl rfl rfl ?_
            refine Rg.opp (v := nat i) rfl rfl rfl rfl rfl ?_
            refine Rg.opp (v := ptrAt (sAddr w1) (i * 1)) rfl rfl rfl (ev_idxM (k := i) (hM.get_sl (j := 1) rfl) rfl rfl (by simp; omega) rfl rfl rfl (by decide)) rfl ?_
            refine Rg.opp (v := nat (e i)) rfl rfl rfl (ev_ldM (k := i) (hM.get_sl (j := 1) rfl) rfl (by simp; omega) (by simp) rfl rfl rfl) rfl ?_
            refine Rg.opp (v := w4) rfl rfl rfl rfl rfl ?_
            refine Rg.opp (v := nat i) rfl rfl rfl rfl rfl ?_
            refine Rg.opp (v := ptrAt (sAddr w4) (i * 1)) rfl rfl rfl (ev_idxM (k := i) (hM.get_sl (j := 0) rfl) rfl rfl (by simp) rfl rfl rfl (by decide)) rfl ?_
            refine Rg.opp (v := nat (mo - d i)) rfl rfl rfl (ev_ldM (k := i) (hM.get_sl (j := 0) rfl) rfl (by simp) (by simp) rfl rfl rfl) rfl ?_
            refine Rg.opp (v := .bool false) rfl rfl rfl (ev_gtF (a := e i) (b := mo - d i) rfl rfl (by omega)) rfl ?_
            refine Rg.nil ?_
            refine Runs.cond false rfl (fun h => by cases h) (fun _ => ?_)
            refine Runs.skip ?_
            refine Runs.region ?_
            refine Rg.opp (v := nat i) rfl rfl rfl rfl rfl ?_
            refine Rg.opp (v := nat (i + 1)) rfl rfl rfl (ev_addN (b := 1) rfl rfl (by omega)) rfl ?_
            refine Rg.opp (v := nat (i + 1)) rfl rfl rfl rfl rfl ?_
            refine Rg.nil ?_
            refine ⟨ov.length - (i + 1), by omega, i + 1, w4, rfl, hM, hlt, Is.of ⟨rfl, rfl, rfl, rfl, rfl, rfl, rfl, rfl, rfl, rfl, rfl, rfl, rfl, rfl, rfl, rfl, trivial⟩⟩
        · skip
          have hie2 : i = ov.length := by omega
          rw [hov] at hie2
          refine Rg.opp (v := .bool false) rfl rfl rfl (ev_ltF rfl rfl (hlt)) rfl ?_
          refine Rg.nil ?_
          refine Runs.cond false rfl (fun h => by cases h) (fun _ => ?_)
          refine Runs.exit ?_
          refine Runs.seq ?_
          refine Runs.region ?_
          refine Rg.opp (v := nat 0) rfl rfl rfl rfl rfl ?_
          refine Rg.opp (v := .bool true) rfl rfl rfl (ev_eqT rfl rfl (by decide)) rfl ?_
          refine Rg.opp (v := .bool true) rfl rfl rfl rfl rfl ?_
          refine Rg.guards true rfl rfl rfl (fun _ => ⟨e1, _, evW_op (rfl), rfl, ?_⟩) (fun h => by cases h)
          refine Rg.guards true rfl rfl rfl (fun _ => ⟨w1, _, evW_op (rfl), rfl, ?_⟩) (fun h => by cases h)
          refine Rg.guards true rfl rfl rfl (fun _ => ⟨.bool true, _, evW_call rfl (rfl) (upX (by have h0 := sameN_runs (hes.sees (her.trans hM.ext).sees) (hM.get_sl (j := 1) rfl) (by simp; omega); rw [decide_eq_true rfl] at h0; exact h0)), rfl, ?_⟩) (fun h => by cases h)
          refine Rg.opp (v := .bool true) rfl rfl rfl rfl rfl ?_
          refine Rg.opp (v := .bool true) rfl rfl rfl rfl rfl ?_
          refine Rg.guards true rfl rfl rfl (fun _ => ⟨l1, _, evW_op (rfl), rfl, ?_⟩) (fun h => by cases h)
          refine Rg.guards true rfl rfl rfl (fun _ => ⟨w3, _, evW_op (rfl), rfl, ?_⟩) (fun h => by cases h)
          have hfin : (List.range (unitsP l).length).map (fun x => ((mo : Nat) : Int) - ((d x : Nat) : Int)) = ((List.range i).map (fun x => mo - d x)).map (fun y : Nat => (y : Int)) := by
            rw [hie2, List.map_map]
            refine List.map_congr_left fun x hx => ?_
            have := hrk.sum wf (List.mem_range.1 hx)
            simp only [Function.comp]
            omega
          refine Rg.guards true rfl rfl rfl (fun _ => ⟨.bool true, _, evW_call rfl (rfl) (upX (sameIN_runs (hls.sees (her.trans hM.ext).sees) (hM.get_sl (j := 0) rfl) (by simp; omega) hfin)), rfl, ?_⟩) (fun h => by cases h)
          refine Rg.opp (v := .bool true) rfl rfl rfl rfl rfl ?_
          refine Rg.opp (v := .bool true) rfl rfl rfl rfl rfl ?_
          refine Rg.nil ?_
          refine Runs.ret ?_
          refine ⟨.bool true, rfl, ?_⟩
          rfl
  · skip
    refine Rg.guards true rfl rfl rfl (fun _ => ⟨.bool false, _, evW_call rfl (rfl) (upX (fits_F hs hx8)), rfl, ?_⟩) (fun h => by cases h)
    refine Rg.guards true rfl rfl rfl (fun _ => ⟨.bool true, _, evW_op (rfl), rfl, ?_⟩) (fun h => by cases h)
    refine Rg.opp (v := .bool true) rfl rfl rfl rfl rfl ?_
    refine Rg.nil ?_
    refine Runs.cond true rfl (fun _ => ?_) (fun h => by cases h)
    refine Runs.seq ?_
    refine Runs.region ?_
    refine Rg.calls (v := .bool true) rfl rfl rfl rfl (rfl) rfl (upX (known_is _)) ?_
    refine Rg.opp (v := .bool true) rfl rfl rfl rfl rfl ?_
    refine Rg.nil ?_
    refine Runs.ret ?_
    refine ⟨.bool true, rfl, ?_⟩
    rfl

end Go.Proofs.Ytdhbclplondmjaa.C

end
