/- Texts of one's own, laid together: X12, Xp, Xq, Xd, Xs, X20, X14c -/
import Derived.Test.YtdhbclplondmjaaQc27
import Derived.Test.YtdhbclplondmjaaQc23
import Derived.Test.YtdhbclplondmjaaQc24
import Derived.Test.YtdhbclplondmjaaQc16
section
/- The program's least order, run. -/
set_option linter.unusedVariables false
set_option linter.unusedSimpArgs false
set_option maxRecDepth 100000
set_option maxHeartbeats 4000000
namespace Go.Proofs.Ytdhbclplondmjaa.C
open Go.RowKit Go.Sort

theorem before_runs {H : Heap} {gp : Nat} {names : List Nm} {arcs : List Arc} (hG : GraphAt H gp names arcs) (wf : WF names.length arcs) (hn : names.length ≤ 2 ^ 20) (ha : arcs.length ≤ 2 ^ 20) :
    ∃ r H1, big tab 42 [.pointer (some ⟨gp, 0, none⟩)] H = some (r, H1) ∧ Mem H H1 [.sl 1 r (((List.range names.length).map (cnt arcs)).map encN)] := by
  obtain ⟨an, aa, ax, M, nx, own, hG⟩ := hG
  have hnl := hG.len
  have hM := Mem.start H
  refine big_of_runs rfl rfl rfl ?_
  obtain ⟨z, hz⟩ := startC_mkS Try.f42 [.pointer (some ⟨gp, 0, none⟩)]
  rw [show startC (42, Try.f42).snd [.pointer (some ⟨gp, 0, none⟩)] = _ from hz]
  clear hz
  refine Runs.cut (n := 30) (l := [(0, .pointer (some ⟨gp, 0, none⟩))]) (Is.of ⟨rfl, rfl, trivial⟩) (fun a0 => ?_)
  refine Runs.seq ?_
  refine Runs.region ?_
  refine Rg.opp (v := .slice none 0 0) rfl rfl rfl rfl rfl ?_
  refine Rg.nil ?_
  refine Runs.seq ?_
  refine Runs.region ?_
  refine Rg.opp (v := .pointer (some ⟨gp, 0, none⟩)) rfl rfl rfl rfl rfl ?_
  refine Rg.opp (v := .pointer (some ⟨gp, 0, none⟩)) rfl rfl rfl rfl rfl ?_
  refine Rg.opp (v := .pointer (some ⟨gp, 0, none⟩)) rfl rfl rfl (ev_fld (o := 0) (p := (37, 0)) rfl rfl rfl rfl rfl (by decide)) rfl ?_
  refine Rg.opp (v := an) rfl rfl rfl (ev_ldb (hM.ext.get hG.box) rfl rfl rfl rfl rfl) rfl ?_
  refine Rg.opp (v := nat names.length) rfl rfl rfl (ev_lenM (hG.hnames.sees hM.ext.sees) rfl rfl) rfl ?_
  refine Rg.make (f := encN) (sz := 1) (m := names.length) 0 hM rfl rfl rfl rfl rfl rfl rfl rfl rfl (by decide) rfl rfl rfl (by show names.length * 8 ≤ 2 ^ 40; omega) (by omega) (fun u Hc (hM : Mem H Hc ([.sl 1 u (List.map encN (List.replicate names.length 0))])) _ => ?_)
  refine Rg.opp (v := u) rfl rfl rfl rfl rfl ?_
  refine Rg.nil ?_
  refine Runs.seq ?_
  refine Runs.seq ?_
  refine Runs.region ?_
  refine Rg.opp (v := .pointer (some ⟨gp, 0, none⟩)) rfl rfl rfl rfl rfl ?_
  refine Rg.opp (v := .pointer (some ⟨gp, 0, none⟩)) rfl rfl rfl rfl rfl ?_
  refine Rg.opp (v := .pointer (some ⟨gp, 2, none⟩)) rfl rfl rfl (ev_fld (o := 0) (p := (73, 2)) rfl rfl rfl rfl rfl (by decide)) rfl ?_
  refine Rg.opp (v := aa) rfl rfl rfl (ev_ldb (hM.ext.get hG.box) rfl rfl rfl rfl rfl) rfl ?_
  refine Rg.opp (v := nat arcs.length) rfl rfl rfl (ev_lenM (hG.harcs.sees hM.ext.sees) rfl rfl) rfl ?_
  refine Rg.opp (v := nat 0) rfl rfl rfl rfl rfl ?_
  refine Rg.nil ?_
  refine Runs.block ?_
  refine Runs.loop (fun m s Hc => ∃ (j : Nat), m = arcs.length - j ∧ Mem H Hc ([.sl 1 u (List.map encN ((List.range names.length).map (cnt (arcs.take j))))]) ∧ (j ≤ arcs.length) ∧ Is s 30 [(3, u), (15, aa), (16, nat arcs.length), (17, nat j)]) _
    ⟨0, rfl, by
    have e : (List.range names.length).map (cnt (arcs.take 0)) = List.replicate names.length 0 := by
      rw [List.take_zero, show cnt [] = fun _ => 0 from rfl, List.map_const', List.length_range]
    rw [e]; exact hM, Nat.zero_le _, Is.of ⟨rfl, rfl, rfl, rfl, rfl, rfl, rfl, rfl, trivial⟩⟩ ?_
  rintro m s Hc ⟨j, rfl, hM, hj, hs⟩
  obtain ⟨a1, rfl⟩ := hs.mk1
  clear hs
  refine Runs.seq ?_
  refine Runs.region ?_
  by_cases hlt : j < arcs.length
  · skip
    have hup : arcs[j].up < names.length := wf.up _ (List.getElem_mem hlt)
    have hcl := cnt_le (arcs.take j) arcs[j].up
    rw [List.length_take] at hcl
    refine Rg.opp (v := .bool true) rfl rfl rfl (ev_ltT rfl rfl (hlt)) rfl ?_
    refine Rg.nil ?_
    refine Runs.seq ?_
    refine Runs.cond true rfl (fun _ => ?_) (fun h => by cases h)
    refine Runs.skip ?_
    refine Runs.seq ?_
    refine Runs.block ?_
    refine Runs.seq ?_
    refine Runs.region ?_
    refine Rg.opp (v := ptrAt (sAddr aa) (j * 3)) rfl rfl rfl (ev_idxM (k := j) (hG.harcs.sees hM.ext.sees) rfl rfl (hlt) rfl rfl rfl (by decide)) rfl ?_
    refine Rg.opp (v := .agg (arcC (arcs[j])).toArray) rfl rfl rfl (ev_ldAM (k := j) (hG.harcs.sees hM.ext.sees) rfl (hlt) rfl rfl rfl) rfl ?_
    refine Rg.new (v := fun p => .pointer (some ⟨p, 0, none⟩)) (X := .row 3 [.int .i64 0, .int .i64 0, .int .i64 0] true true) (th := fun p => .box p 3 [.int .i64 0, .int .i64 0, .int .i64 0]) hM rfl rfl rfl rfl rfl rfl (fun _ => rfl) (fun p2 Hc hM _ => ?_)
    refine Rg.stob (j := 0) (cs' := arcC (arcs[j])) hM rfl rfl rfl rfl rfl rfl rfl rfl rfl rfl (Nat.le_of_ble_eq_true rfl) rfl (fun Hc (hM : Mem H Hc ([.box p2 3 (arcC (arcs[j])), .sl 1 u (List.map encN ((List.range names.length).map (cnt (arcs.take j))))])) => ?_)
    refine Rg.nil ?_
    refine Runs.region ?_
    refine Rg.opp (v := u) rfl rfl rfl rfl rfl ?_
    refine Rg.opp (v := .pointer (some ⟨p2, 2, none⟩)) rfl rfl rfl (ev_fld (o := 0) (p := (3, 2)) rfl rfl rfl rfl rfl (by decide)) rfl ?_
    refine Rg.opp (v := nat (arcs[j].up)) rfl rfl rfl (ev_ldb (hM.get_box (j := 0) rfl) rfl rfl rfl rfl rfl) rfl ?_
    refine Rg.opp (v := ptrAt (sAddr u) ((arcs[j].up) * 1)) rfl rfl rfl (ev_idxM (k := arcs[j].up) (hM.get_sl (j := 1) rfl) rfl rfl (by simpa using hup) rfl rfl rfl (by decide)) rfl ?_
    refine Rg.opp (v := nat (cnt (arcs.take j) arcs[j].up)) rfl rfl rfl (ev_ldM (k := (arcs[j].up)) (hM.get_sl (j := 1) rfl) rfl (by simpa using hup) (by simp) rfl rfl rfl) rfl ?_
    refine Rg.opp (v := nat (cnt (arcs.take j) arcs[j].up + 1)) rfl rfl rfl (ev_addN (b := 1) rfl rfl (by omega)) rfl ?_
    refine Rg.opp (v := ptrAt (sAddr u) ((arcs[j].up) * 1)) rfl rfl rfl (ev_idxM (k := arcs[j].up) (hM.get_sl (j := 1) rfl) rfl rfl (by simpa using hup) rfl rfl rfl (by decide)) rfl ?_
    refine Rg.stoM (f := encN) (j := 1) (k := (arcs[j].up)) (cnt (arcs.take j) arcs[j].up + 1) hM rfl rfl rfl rfl rfl rfl rfl (by simpa using hup) rfl rfl rfl rfl rfl (fun Hc (hM : Mem H Hc ([.box p2 3 (arcC (arcs[j])), .sl 1 u (List.map encN (((List.range names.length).map (cnt (arcs.take j))).set ((arcs[j].up)) (cnt (arcs.take j) arcs[j].up + 1)))])) => ?_)
    refine Rg.nil ?_
    refine Runs.region ?_
    refine Rg.opp (v := nat (j + 1)) rfl rfl rfl (ev_addN (b := 1) rfl rfl (by omega)) rfl ?_
    refine Rg.opp (v := nat (j + 1)) rfl rfl rfl rfl rfl ?_
    refine Rg.nil ?_
    refine ⟨arcs.length - (j + 1), by omega, j + 1, rfl, by rw [← cnt_more hlt hup]; exact hM.tail, hlt, Is.of ⟨rfl, rfl, rfl, rfl, rfl, rfl, rfl, rfl, trivial⟩⟩
  · skip
    refine Rg.opp (v := .bool false) rfl rfl rfl (ev_ltF rfl rfl (hlt)) rfl ?_
    refine Rg.nil ?_
    refine Runs.seq ?_
    refine Runs.cond false rfl (fun h => by cases h) (fun _ => ?_)
    refine Runs.exit ?_
    refine Runs.seq ?_
    refine Runs.region ?_
    refine Rg.opp (v := u) rfl rfl rfl rfl rfl ?_
    refine Rg.opp (v := u) rfl rfl rfl rfl rfl ?_
    refine Rg.nil ?_
    refine Runs.ret ?_
    refine ⟨u, rfl, ?_⟩
    have hje : j = arcs.length := by omega
    subst hje
    rw [List.take_length] at hM
    exact hM

theorem perm1 {H0 H : Heap} {a b c : Th} {L : List Th} (h : Mem H0 H (a :: b :: c :: L)) : Mem H0 H (b :: c :: a :: L) :=
  h.sub (fun j => if j = 0 then 1 else if j = 1 then 2 else if j = 2 then 0 else j) (fun i j e => by
    repeat' split at e
    all_goals omega) (fun j t e => by
    match j with
    | 0 => exact e
    | 1 => exact e
    | 2 => exact e
    | j + 3 => exact e)
theorem perm2 {H0 H : Heap} {a b c : Th} {L : List Th} (h : Mem H0 H (b :: c :: a :: L)) : Mem H0 H (a :: b :: c :: L) := perm1 (perm1 h)

theorem sorted_runs {H : Heap} {gp : Nat} {names : List Nm} {arcs : List Arc} (hG : GraphAt H gp names arcs) (wf : WF names.length arcs) (hn : names.length ≤ 2 ^ 20) (ha : arcs.length ≤ 2 ^ 20) :
    ∃ r H1, big tab 33 [.pointer (some ⟨gp, 0, none⟩)] H = some (r, H1) ∧ ∃ ov o, r = .tuple #[ov, .bool (decide (o.length = names.length))] ∧ Mem H H1 [.sl 1 ov (o.map encN)] ∧ Kahn arcs names.length o [] := by
  obtain ⟨an, aa, ax, M, nx, own, hG⟩ := hG
  have hnl := hG.len
  have hM := Mem.start H
  refine big_of_runs rfl rfl rfl ?_
  obtain ⟨z, hz⟩ := startC_mkS Try.f33 [.pointer (some ⟨gp, 0, none⟩)]
  rw [show startC (33, Try.f33).snd [.pointer (some ⟨gp, 0, none⟩)] = _ from hz]
  clear hz
  refine Runs.cut (n := 85) (l := [(0, .pointer (some ⟨gp, 0, none⟩))]) (Is.of ⟨rfl, rfl, trivial⟩) (fun a0 => ?_)
  refine Runs.seq ?_
  refine Runs.region ?_
  refine Rg.opp (v := .slice none 0 0) rfl rfl rfl rfl rfl ?_
  refine Rg.opp (v := .bool false) rfl rfl rfl rfl rfl ?_
  refine Rg.nil ?_
  refine Runs.seq ?_
  refine Runs.region ?_
  refine Rg.opp (v := .pointer (some ⟨gp, 0, none⟩)) rfl rfl rfl rfl rfl ?_
  refine Rg.callW rfl rfl rfl rfl (rfl) rfl (before_runs ⟨_, _, _, _, _, _, hG⟩ wf hn ha) (fun cv Hc hP => ?_)
  replace hM := hP
  refine Rg.opp (v := cv) rfl rfl rfl rfl rfl ?_
  refine Rg.nil ?_
  refine Runs.seq ?_
  refine Runs.region ?_
  refine Rg.lit0 (sz := 1) hM rfl rfl rfl rfl rfl (fun u0 Hc hM hgv => ?_)
  refine Rg.box1 (sz := 1) hM rfl rfl rfl rfl rfl ((hM.get_sl (j := 0) rfl).one) rfl rfl (fun q Hc hM _ => ?_)
  refine Rg.opp (v := .pointer (some ⟨q, 0, none⟩)) rfl rfl rfl rfl rfl ?_
  refine Rg.nil ?_
  refine Runs.seq ?_
  refine Runs.seq ?_
  refine Runs.region ?_
  refine Rg.opp (v := cv) rfl rfl rfl rfl rfl ?_
  refine Rg.opp (v := nat (((List.range names.length).map (cnt arcs)).length)) rfl rfl rfl (ev_lenM (hM.get_sl (j := 2) rfl) rfl rfl) rfl ?_
  refine Rg.opp (v := nat 0) rfl rfl rfl rfl rfl ?_
  refine Rg.nil ?_
  refine Runs.block ?_
  refine Runs.loop (fun m s Hc => ∃ (i : Nat) (v : Value) (es : List Nat), m = names.length - i ∧ Mem H Hc ([.box q 1 [v], .sl 1 v (List.map encN es), .sl 1 cv (List.map encN ((List.range names.length).map (cnt arcs)))]) ∧ (i ≤ names.length) ∧ (Grown v) ∧ (KahnUp arcs i es) ∧ Is s 85 [(0, .pointer (some ⟨gp, 0, none⟩)), (4, cv), (5, .pointer (some ⟨q, 0, none⟩)), (16, cv), (17, nat (((List.range names.length).map (cnt arcs)).length)), (18, nat i)]) _
    ⟨0, u0, [], rfl, hM, Nat.zero_le _, hgv, KahnUp.start arcs, Is.of ⟨rfl, rfl, rfl, rfl, rfl, rfl, rfl, rfl, rfl, rfl, rfl, rfl, trivial⟩⟩ ?_
  rintro m s Hc ⟨i, v, es, rfl, hM, hi, hgv, hK, hs⟩
  obtain ⟨a1, rfl⟩ := hs.mk1
  clear hs
  have hel := hK.len
  refine Runs.seq ?_
  refine Runs.region ?_
  by_cases hlt0 : i < ((List.range names.length).map (cnt arcs)).length
  · skip
    have hlt : i < names.length := by simpa using hlt0
    refine Rg.opp (v := .bool true) rfl rfl rfl (ev_ltT rfl rfl (hlt0)) rfl ?_
    refine Rg.nil ?_
    refine Runs.seq ?_
    refine Runs.cond true rfl (fun _ => ?_) (fun h => by cases h)
    refine Runs.skip ?_
    refine Runs.seq ?_
    refine Runs.block ?_
    refine Runs.seq ?_
    refine Runs.region ?_
    refine Rg.opp (v := nat i) rfl rfl rfl rfl rfl ?_
    refine Rg.opp (v := ptrAt (sAddr cv) (i * 1)) rfl rfl rfl (ev_idxM (k := i) (hM.get_sl (j := 2) rfl) rfl rfl (by simpa using hlt) rfl rfl rfl (by decide)) rfl ?_
    refine Rg.opp (v := nat (cnt arcs i)) rfl rfl rfl (ev_ldM (k := i) (hM.get_sl (j := 2) rfl) rfl (by simpa using hlt) (by simp) rfl rfl rfl) rfl ?_
    refine Rg.opp (v := nat i) rfl rfl rfl rfl rfl ?_
    refine Rg.opp (v := nat (cnt arcs i)) rfl rfl rfl rfl rfl ?_
    refine Rg.nil ?_
    refine Runs.seq ?_
    refine Runs.region ?_
    refine Rg.opp (v := nat (cnt arcs i)) rfl rfl rfl rfl rfl ?_
    by_cases hz : cnt arcs i = 0
    · skip
      refine Rg.opp (v := .bool true) rfl rfl rfl (ev_eqT rfl rfl (hz)) rfl ?_
      refine Rg.nil ?_
      refine Runs.cond true rfl (fun _ => ?_) (fun h => by cases h)
      refine Runs.region ?_
      refine Rg.opp (v := .pointer (some ⟨q, 0, none⟩)) rfl rfl rfl rfl rfl ?_
      refine Rg.opp (v := .iface 94 (.pointer (some ⟨q, 0, none⟩))) rfl rfl rfl rfl rfl ?_
      refine Rg.opp (v := nat i) rfl rfl rfl rfl rfl ?_
      refine Rg.opp (v := .iface 3 (nat i)) rfl rfl rfl rfl rfl ?_
      refine Rg.callW rfl rfl rfl rfl (rfl) rfl (push_runs (x := i) hM (by omega)) (fun r1 Hc hP => ?_)
      obtain ⟨v1, hM, hg1⟩ := hP
      refine Rg.nil ?_
      refine Runs.region ?_
      refine Rg.opp (v := nat (i + 1)) rfl rfl rfl (ev_addN (b := 1) rfl rfl (by omega)) rfl ?_
      refine Rg.opp (v := nat (i + 1)) rfl rfl rfl rfl rfl ?_
      refine Rg.nil ?_
      refine ⟨names.length - (i + 1), by omega, i + 1, v1, pushF es i, rfl, hM, hlt, hg1, hK.push hz, Is.of ⟨rfl, rfl, rfl, rfl, rfl, rfl, rfl, rfl, rfl, rfl, rfl, rfl, trivial⟩⟩
    · skip
      refine Rg.opp (v := .bool false) rfl rfl rfl (ev_eqF rfl rfl (hz)) rfl ?_
      refine Rg.nil ?_
      refine Runs.cond false rfl (fun h => by cases h) (fun _ => ?_)
      refine Runs.skip ?_
      refine Runs.region ?_
      refine Rg.opp (v := nat (i + 1)) rfl rfl rfl (ev_addN (b := 1) rfl rfl (by omega)) rfl ?_
      refine Rg.opp (v := nat (i + 1)) rfl rfl rfl rfl rfl ?_
      refine Rg.nil ?_
      refine ⟨names.length - (i + 1), by omega, i + 1, v, es, rfl, hM, hlt, hgv, hK.skip hz, Is.of ⟨rfl, rfl, rfl, rfl, rfl, rfl, rfl, rfl, rfl, rfl, rfl, rfl, trivial⟩⟩
  · skip
    have hin : i = names.length := by simp at hlt0; omega
    rw [hin] at hK
    have hK0 := hK.done
    refine Rg.opp (v := .bool false) rfl rfl rfl (ev_ltF rfl rfl (hlt0)) rfl ?_
    refine Rg.nil ?_
    refine Runs.seq ?_
    refine Runs.cond false rfl (fun h => by cases h) (fun _ => ?_)
    refine Runs.exit ?_
    refine Runs.seq ?_
    refine Runs.region ?_
    refine Rg.opp (v := .slice none 0 0) rfl rfl rfl rfl rfl ?_
    refine Rg.nil ?_
    refine Runs.seq ?_
    refine Runs.block ?_
    refine Runs.loop (fun m s Hc => ∃ (v : Value) (es : List Nat) (ov : Value) (o : List Nat), m = names.length - o.length ∧ Mem H Hc ([.box q 1 [v], .sl 1 v (List.map encN es), .sl 1 cv (List.map encN ((List.range names.length).map (cnt (remO arcs o)))), .sl 1 ov (List.map encN o)]) ∧ (Grown v) ∧ (Grown ov) ∧ (Kahn arcs names.length o es) ∧ Is s 85 [(0, .pointer (some ⟨gp, 0, none⟩)), (4, cv), (5, .pointer (some ⟨q, 0, none⟩)), (8, ov)]) _
      ⟨v, es, .slice none 0 0, [], rfl, by rw [show remO arcs [] = arcs by simp [remO]]; exact hM.addNil 1 1, hgv, Grown.nil, hK0, Is.of ⟨rfl, rfl, rfl, rfl, rfl, rfl, rfl, rfl, trivial⟩⟩ ?_
    rintro m s Hc ⟨v, es, ov, o, rfl, hM, hgv, hgo, hK, hs⟩
    obtain ⟨a2, rfl⟩ := hs.mk1
    clear hs
    have hkl := hK.len
    refine Runs.seq ?_
    refine Runs.seq ?_
    refine Runs.region ?_
    refine Rg.opp (v := .pointer (some ⟨q, 0, none⟩)) rfl rfl rfl rfl rfl ?_
    refine Rg.opp (v := .pointer (some ⟨q, 0, none⟩)) rfl rfl rfl rfl rfl ?_
    refine Rg.opp (v := v) rfl rfl rfl (ev_ldb (hM.get_box (j := 0) rfl) rfl rfl rfl rfl rfl) rfl ?_
    refine Rg.calls (v := nat es.length) rfl rfl rfl rfl (rfl) rfl (qlen_runs (hM.get_sl (j := 1) rfl)) ?_
    by_cases hpos : 0 < es.length
    · skip
      have hne : es ≠ [] := fun e => by rw [e] at hpos; simp at hpos
      have hKi := hK.pop hne
      have hpl := popR_len es
      refine Rg.opp (v := .bool true) rfl rfl rfl (ev_gtT rfl rfl (hpos)) rfl ?_
      refine Rg.nil ?_
      refine Runs.cond true rfl (fun _ => ?_) (fun h => by cases h)
      refine Runs.skip ?_
      refine Runs.block ?_
      refine Runs.seq ?_
      refine Runs.region ?_
      refine Rg.opp (v := .pointer (some ⟨q, 0, none⟩)) rfl rfl rfl rfl rfl ?_
      refine Rg.opp (v := .iface 94 (.pointer (some ⟨q, 0, none⟩))) rfl rfl rfl rfl rfl ?_
      refine Rg.callW rfl rfl rfl rfl (rfl) rfl (pop_runs hM hgv (by omega) (by omega)) (fun r1 Hc hP => ?_)
      obtain ⟨rfl, v1, hM, hg1⟩ := hP
      generalize popM es = i at hKi hM ⊢
      have hi : i < names.length := hKi.lt i (by simp)
      refine Rg.opp (v := nat i) rfl rfl rfl rfl rfl ?_
      refine Rg.opp (v := nat i) rfl rfl rfl rfl rfl ?_
      refine Rg.nil ?_
      refine Runs.seq ?_
      refine Runs.region ?_
      refine Rg.opp (v := ov) rfl rfl rfl rfl rfl ?_
      refine Rg.opp (v := nat i) rfl rfl rfl rfl rfl ?_
      refine Rg.lit (f := encN) (sz := 1) (xs := [i]) hM rfl rfl rfl rfl rfl (by simp) (by simp) (fun u3 Hc (hM : Mem H Hc ([.sl 1 u3 (List.map encN ([i])), .box q 1 [v1], .sl 1 v1 (List.map encN (popR es)), .sl 1 cv (List.map encN ((List.range names.length).map (cnt (remO arcs o)))), .sl 1 ov (List.map encN o)])) _ => ?_)
      refine Rg.appM (f := encN) (sz := 1) (j := 4) (v := ov) (xs := o) (ys := [i]) hM rfl rfl rfl rfl rfl rfl rfl (hM.get_sl (j := 0) rfl) ⟨rfl, rfl, rfl, by decide⟩ rfl (by simp [oneCell]) (by show (_ + _) * 8 ≤ 2 ^ 40; simp only [List.length_cons, List.length_nil]; omega) (by simp) (fun ov1 Hc (hM : Mem H Hc ([.sl 1 u3 (List.map encN ([i])), .box q 1 [v1], .sl 1 v1 (List.map encN (popR es)), .sl 1 cv (List.map encN ((List.range names.length).map (cnt (remO arcs o)))), .sl 1 ov1 (List.map encN (o ++ ([i])))])) hgo1 => ?_)
      replace hM : Mem H _ ([.box q 1 [v1], .sl 1 v1 (List.map encN (popR es)), .sl 1 cv (List.map encN ((List.range names.length).map (cnt (remO arcs o)))), .sl 1 ov1 (List.map encN (o ++ ([i])))]) := hM.erase 0
      refine Rg.opp (v := ov1) rfl rfl rfl rfl rfl ?_
      refine Rg.nil ?_
      refine Runs.seq ?_
      refine Runs.region ?_
      refine Rg.opp (v := .pointer (some ⟨gp, 0, none⟩)) rfl rfl rfl rfl rfl ?_
      refine Rg.opp (v := .pointer (some ⟨gp, 0, none⟩)) rfl rfl rfl rfl rfl ?_
      refine Rg.opp (v := .pointer (some ⟨gp, 3, none⟩)) rfl rfl rfl (ev_fld (o := 0) (p := (75, 3)) rfl rfl rfl rfl rfl (by decide)) rfl ?_
      refine Rg.opp (v := ax) rfl rfl rfl (ev_ldb (hM.ext.get hG.box) rfl rfl rfl rfl rfl) rfl ?_
      refine Rg.opp (v := nat i) rfl rfl rfl rfl rfl ?_
      refine Rg.opp (v := ptrAt (sAddr ax) (i * 1)) rfl rfl rfl (ev_idxM (k := i) (hG.hnext.sees hM.ext.sees) rfl rfl (by omega) rfl rfl rfl (by decide)) rfl ?_
      refine Rg.opp (v := nx[i]) rfl rfl rfl (ev_ldM (k := i) (hG.hnext.sees hM.ext.sees) rfl (by omega) rfl rfl rfl rfl) rfl ?_
      refine Rg.opp (v := nat ((nextOf arcs i).length)) rfl rfl rfl (ev_lenM ((hG.each i (by have := hG.len; omega)).sees hM.ext.sees) rfl rfl) rfl ?_
      refine Rg.opp (v := nat 0) rfl rfl rfl rfl rfl ?_
      refine Rg.nil ?_
      refine Runs.block ?_
      refine Runs.loop (fun m s Hc => ∃ (j : Nat) (v3 : Value) (es3 : List Nat), m = (nextOf arcs i).length - j ∧ Mem H Hc ([.box q 1 [v3], .sl 1 v3 (List.map encN es3), .sl 1 cv (List.map encN ((List.range names.length).map (fun x => cnt ((nextOf arcs i).drop j) x + cnt (remO arcs (o ++ [i])) x))), .sl 1 ov1 (List.map encN (o ++ [i]))]) ∧ (j ≤ (nextOf arcs i).length) ∧ (Grown v3) ∧ (KahnIn arcs names.length (o ++ [i]) (nextOf arcs i) j es3) ∧ Is s 85 [(0, .pointer (some ⟨gp, 0, none⟩)), (4, cv), (5, .pointer (some ⟨q, 0, none⟩)), (8, ov1), (50, nx[i]), (51, nat ((nextOf arcs i).length)), (52, nat j)]) _
        ⟨0, v1, popR es, rfl, by
        have e : (List.range names.length).map (fun x => cnt ((nextOf arcs i).drop 0) x + cnt (remO arcs (o ++ [i])) x) = (List.range names.length).map (cnt (remO arcs o)) := by
          refine List.map_congr_left fun x _ => ?_
          exact cnt_split arcs o i x (fun h => (List.nodup_append.1 (List.nodup_append.1 hKi.nd).1).2.2 i h i (by simp) rfl)
        rw [e]; exact hM, Nat.zero_le _, hg1, hKi, Is.of ⟨rfl, rfl, rfl, rfl, rfl, rfl, rfl, rfl, rfl, rfl, rfl, rfl, rfl, rfl, trivial⟩⟩ ?_
      rintro m s Hc ⟨j, v3, es3, rfl, hM, hj, hg3, hK3, hs⟩
      obtain ⟨a4, rfl⟩ := hs.mk1
      clear hs
      have h3l := hK3.len
      simp only [List.length_append, List.length_cons, List.length_nil] at h3l
      refine Runs.seq ?_
      refine Runs.region ?_
      by_cases hlt : j < (nextOf arcs i).length
      · skip
        have hup : (nextOf arcs i)[j].up < names.length := wf.up _ (next_mem.1 (List.getElem_mem hlt)).1
        have hpos3 := hK3.pos hlt
        have hc1 := cnt_le ((nextOf arcs i).drop j) (nextOf arcs i)[j].up
        have hc2 := cnt_le (remO arcs (o ++ [i])) (nextOf arcs i)[j].up
        have hc3 : (remO arcs (o ++ [i])).length ≤ arcs.length := List.length_filter_le _ _
        have hc4 := next_len arcs i
        rw [List.length_drop] at hc1
        have h2i : i < nx.length := by omega
        refine Rg.opp (v := .bool true) rfl rfl rfl (ev_ltT rfl rfl (hlt)) rfl ?_
        refine Rg.nil ?_
        refine Runs.seq ?_
        refine Runs.cond true rfl (fun _ => ?_) (fun h => by cases h)
        refine Runs.skip ?_
        refine Runs.seq ?_
        refine Runs.block ?_
        refine Runs.seq ?_
        refine Runs.region ?_
        refine Rg.opp (v := ptrAt (sAddr (nx[i])) (j * 3)) rfl rfl rfl (ev_idxM (k := j) ((hG.each i (by have := hG.len; omega)).sees hM.ext.sees) rfl rfl (hlt) rfl rfl rfl (by decide)) rfl ?_
        refine Rg.opp (v := .agg (arcC ((nextOf arcs i)[j])).toArray) rfl rfl rfl (ev_ldAM (k := j) ((hG.each i (by have := hG.len; omega)).sees hM.ext.sees) rfl (hlt) rfl rfl rfl) rfl ?_
        refine Rg.new (v := fun p => .pointer (some ⟨p, 0, none⟩)) (X := .row 3 [.int .i64 0, .int .i64 0, .int .i64 0] true true) (th := fun p => .box p 3 [.int .i64 0, .int .i64 0, .int .i64 0]) hM rfl rfl rfl rfl rfl rfl (fun _ => rfl) (fun p5 Hc hM _ => ?_)
        refine Rg.stob (j := 0) (cs' := arcC ((nextOf arcs i)[j])) hM rfl rfl rfl rfl rfl rfl rfl rfl rfl rfl (Nat.le_of_ble_eq_true rfl) rfl (fun Hc (hM : Mem H Hc ([.box p5 3 (arcC ((nextOf arcs i)[j])), .box q 1 [v3], .sl 1 v3 (List.map encN es3), .sl 1 cv (List.map encN ((List.range names.length).map (fun x => cnt ((nextOf arcs i).drop j) x + cnt (remO arcs (o ++ [i])) x))), .sl 1 ov1 (List.map encN (o ++ [i]))])) => ?_)
        refine Rg.nil ?_
        refine Runs.seq ?_
        refine Runs.region ?_
        refine Rg.opp (v := cv) rfl rfl rfl rfl rfl ?_
        refine Rg.opp (v := .pointer (some ⟨p5, 2, none⟩)) rfl rfl rfl (ev_fld (o := 0) (p := (3, 2)) rfl rfl rfl rfl rfl (by decide)) rfl ?_
        refine Rg.opp (v := nat ((nextOf arcs i)[j].up)) rfl rfl rfl (ev_ldb (hM.get_box (j := 0) rfl) rfl rfl rfl rfl rfl) rfl ?_
        refine Rg.opp (v := ptrAt (sAddr cv) (((nextOf arcs i)[j].up) * 1)) rfl rfl rfl (ev_idxM (k := (nextOf arcs i)[j].up) (hM.get_sl (j := 3) rfl) rfl rfl (by simpa using hup) rfl rfl rfl (by decide)) rfl ?_
        refine Rg.opp (v := nat (cnt ((nextOf arcs i).drop j) (nextOf arcs i)[j].up + cnt (remO arcs (o ++ [i])) (nextOf arcs i)[j].up)) rfl rfl rfl (ev_ldM (k := ((nextOf arcs i)[j].up)) (hM.get_sl (j := 3) rfl) rfl (by simpa using hup) (by simp) rfl rfl rfl) rfl ?_
        refine Rg.opp (v := nat (cnt ((nextOf arcs i).drop j) (nextOf arcs i)[j].up + cnt (remO arcs (o ++ [i])) (nextOf arcs i)[j].up - 1)) rfl rfl rfl (ev_subN (a := cnt ((nextOf arcs i).drop j) (nextOf arcs i)[j].up + cnt (remO arcs (o ++ [i])) (nextOf arcs i)[j].up) (b := 1) rfl rfl (hpos3) (by omega)) rfl ?_
        refine Rg.opp (v := ptrAt (sAddr cv) (((nextOf arcs i)[j].up) * 1)) rfl rfl rfl (ev_idxM (k := (nextOf arcs i)[j].up) (hM.get_sl (j := 3) rfl) rfl rfl (by simpa using hup) rfl rfl rfl (by decide)) rfl ?_
        refine Rg.stoM (f := encN) (j := 3) (k := ((nextOf arcs i)[j].up)) (cnt ((nextOf arcs i).drop j) (nextOf arcs i)[j].up + cnt (remO arcs (o ++ [i])) (nextOf arcs i)[j].up - 1) hM rfl rfl rfl rfl rfl rfl rfl (by simpa using hup) rfl rfl rfl rfl rfl (fun Hc (hM : Mem H Hc ([.box p5 3 (arcC ((nextOf arcs i)[j])), .box q 1 [v3], .sl 1 v3 (List.map encN es3), .sl 1 cv (List.map encN (((List.range names.length).map (fun x => cnt ((nextOf arcs i).drop j) x + cnt (remO arcs (o ++ [i])) x)).set (((nextOf arcs i)[j].up)) (cnt ((nextOf arcs i).drop j) (nextOf arcs i)[j].up + cnt (remO arcs (o ++ [i])) (nextOf arcs i)[j].up - 1))), .sl 1 ov1 (List.map encN (o ++ [i]))])) => ?_)
        refine Rg.nil ?_
        refine Runs.seq ?_
        refine Runs.region ?_
        refine Rg.opp (v := cv) rfl rfl rfl rfl rfl ?_
        refine Rg.opp (v := .pointer (some ⟨p5, 2, none⟩)) rfl rfl rfl (ev_fld (o := 0) (p := (3, 2)) rfl rfl rfl rfl rfl (by decide)) rfl ?_
        refine Rg.opp (v := nat ((nextOf arcs i)[j].up)) rfl rfl rfl (ev_ldb (hM.get_box (j := 0) rfl) rfl rfl rfl rfl rfl) rfl ?_
        refine Rg.opp (v := ptrAt (sAddr cv) (((nextOf arcs i)[j].up) * 1)) rfl rfl rfl (ev_idxM (k := (nextOf arcs i)[j].up) (hM.get_sl (j := 3) rfl) rfl rfl (by simpa using hup) rfl rfl rfl (by decide)) rfl ?_
        refine Rg.opp (v := nat (cnt ((nextOf arcs i).drop j) (nextOf arcs i)[j].up + cnt (remO arcs (o ++ [i])) (nextOf arcs i)[j].up - 1)) rfl rfl rfl (ev_ldM (k := ((nextOf arcs i)[j].up)) (hM.get_sl (j := 3) rfl) rfl (by simpa using hup) (by simp) rfl rfl rfl) rfl ?_
        by_cases hz3 : cnt ((nextOf arcs i).drop j) (nextOf arcs i)[j].up + cnt (remO arcs (o ++ [i])) (nextOf arcs i)[j].up - 1 = 0
        · skip
          refine Rg.opp (v := .bool true) rfl rfl rfl (ev_eqT rfl rfl (hz3)) rfl ?_
          refine Rg.nil ?_
          refine Runs.cond true rfl (fun _ => ?_) (fun h => by cases h)
          refine Runs.region ?_
          refine Rg.opp (v := .pointer (some ⟨q, 0, none⟩)) rfl rfl rfl rfl rfl ?_
          refine Rg.opp (v := .iface 94 (.pointer (some ⟨q, 0, none⟩))) rfl rfl rfl rfl rfl ?_
          refine Rg.opp (v := .pointer (some ⟨p5, 2, none⟩)) rfl rfl rfl (ev_fld (o := 0) (p := (3, 2)) rfl rfl rfl rfl rfl (by decide)) rfl ?_
          refine Rg.opp (v := nat ((nextOf arcs i)[j].up)) rfl rfl rfl (ev_ldb (hM.get_box (j := 0) rfl) rfl rfl rfl rfl rfl) rfl ?_
          refine Rg.opp (v := .iface 3 (nat ((nextOf arcs i)[j].up))) rfl rfl rfl rfl rfl ?_
          refine Rg.callW rfl rfl rfl rfl (rfl) rfl (push_runs (x := (nextOf arcs i)[j].up) (perm1 hM) (by omega)) (fun r5 Hc hP => ?_)
          obtain ⟨v4, hM, hg4⟩ := hP
          replace hM := perm2 hM
          refine Rg.nil ?_
          refine Runs.region ?_
          refine Rg.opp (v := nat (j + 1)) rfl rfl rfl (ev_addN (b := 1) rfl rfl (by omega)) rfl ?_
          refine Rg.opp (v := nat (j + 1)) rfl rfl rfl rfl rfl ?_
          refine Rg.nil ?_
          refine ⟨(nextOf arcs i).length - (j + 1), by omega, j + 1, v4, pushF es3 (nextOf arcs i)[j].up, rfl, by rw [← cnt_next hlt hup]; exact hM.tail, hlt, hg4, hK3.push hlt hup hz3, Is.of ⟨rfl, rfl, rfl, rfl, rfl, rfl, rfl, rfl, rfl, rfl, rfl, rfl, rfl, rfl, trivial⟩⟩
        · skip
          refine Rg.opp (v := .bool false) rfl rfl rfl (ev_eqF rfl rfl (hz3)) rfl ?_
          refine Rg.nil ?_
          refine Runs.cond false rfl (fun h => by cases h) (fun _ => ?_)
          refine Runs.skip ?_
          refine Runs.region ?_
          refine Rg.opp (v := nat (j + 1)) rfl rfl rfl (ev_addN (b := 1) rfl rfl (by omega)) rfl ?_
          refine Rg.opp (v := nat (j + 1)) rfl rfl rfl rfl rfl ?_
          refine Rg.nil ?_
          refine ⟨(nextOf arcs i).length - (j + 1), by omega, j + 1, v3, es3, rfl, by rw [← cnt_next hlt hup]; exact hM.tail, hlt, hg3, hK3.same hlt hz3, Is.of ⟨rfl, rfl, rfl, rfl, rfl, rfl, rfl, rfl, rfl, rfl, rfl, rfl, rfl, rfl, trivial⟩⟩
      · skip
        have hje : j = (nextOf arcs i).length := by omega
        subst hje
        refine Rg.opp (v := .bool false) rfl rfl rfl (ev_ltF rfl rfl (hlt)) rfl ?_
        refine Rg.nil ?_
        refine Runs.seq ?_
        refine Runs.cond false rfl (fun h => by cases h) (fun _ => ?_)
        refine Runs.exit ?_
        refine ⟨names.length - (o ++ [i]).length, by have := hK3.done.len; simp only [List.length_append, List.length_cons, List.length_nil] at this ⊢; omega, v3, es3, ov1, o ++ [i], rfl, by simp only [List.drop_length, cnt_nil, Nat.zero_add] at hM; exact hM, hg3, hgo1, hK3.done, Is.of ⟨rfl, rfl, rfl, rfl, rfl, rfl, rfl, rfl, trivial⟩⟩
    · skip
      refine Rg.opp (v := .bool false) rfl rfl rfl (ev_gtF rfl rfl (hpos)) rfl ?_
      refine Rg.nil ?_
      refine Runs.cond false rfl (fun h => by cases h) (fun _ => ?_)
      refine Runs.exit ?_
      refine Runs.seq ?_
      refine Runs.drawn (is := [0, 1, 2, 3, 4, 5, 6, 7, 8, 9, 10]) (by decide +kernel) ?_
      refine Rg.opp (v := ov) rfl rfl rfl rfl rfl ?_
      refine Rg.opp (v := ov) rfl rfl rfl rfl rfl ?_
      refine Rg.opp (v := nat o.length) rfl rfl rfl (ev_lenM (hM.get_sl (j := 3) rfl) rfl rfl) rfl ?_
      refine Rg.opp (v := .pointer (some ⟨gp, 0, none⟩)) rfl rfl rfl rfl rfl ?_
      refine Rg.opp (v := .pointer (some ⟨gp, 0, none⟩)) rfl rfl rfl rfl rfl ?_
      refine Rg.opp (v := .pointer (some ⟨gp, 0, none⟩)) rfl rfl rfl (ev_fld (o := 0) (p := (37, 0)) rfl rfl rfl rfl rfl (by decide)) rfl ?_
      refine Rg.opp (v := an) rfl rfl rfl (ev_ldb (hM.ext.get hG.box) rfl rfl rfl rfl rfl) rfl ?_
      refine Rg.opp (v := nat names.length) rfl rfl rfl (ev_lenM (hG.hnames.sees hM.ext.sees) rfl rfl) rfl ?_
      by_cases hall : o.length = names.length
      · skip
        refine Rg.opp (v := .bool true) rfl rfl rfl (ev_eqT rfl rfl (hall)) rfl ?_
        refine Rg.opp (v := ov) rfl rfl rfl rfl rfl ?_
        refine Rg.opp (v := .bool true) rfl rfl rfl rfl rfl ?_
        refine Rg.nil ?_
        refine Runs.ret ?_
        refine ⟨.tuple #[ov, .bool true], rfl, ?_⟩
        have he : es = [] := by
          cases es with
          | nil => rfl
          | cons e es => simp at hpos
        subst he
        exact ⟨ov, o, by rw [decide_eq_true hall], hM.drop 3, hK⟩
      · skip
        refine Rg.opp (v := .bool false) rfl rfl rfl (ev_eqF rfl rfl (hall)) rfl ?_
        refine Rg.opp (v := ov) rfl rfl rfl rfl rfl ?_
        refine Rg.opp (v := .bool false) rfl rfl rfl rfl rfl ?_
        refine Rg.nil ?_
        refine Runs.ret ?_
        refine ⟨.tuple #[ov, .bool false], rfl, ?_⟩
        have he : es = [] := by
          cases es with
          | nil => rfl
          | cons e es => simp at hpos
        subst he
        exact ⟨ov, o, by rw [decide_eq_false hall], hM.drop 3, hK⟩


end Go.Proofs.Ytdhbclplondmjaa.C

end

section
/- Cycles and what is implied, plain. -/
set_option linter.unusedVariables false
set_option linter.unusedSimpArgs false
namespace Go.Proofs.Ytdhbclplondmjaa.C
open Go.RowKit Go.Sort

def Cyc (arcs : List Arc) : Prop := ∃ x, Rch arcs x x
open Classical in
noncomputable def cycB (arcs : List Arc) : Bool := decide (Cyc arcs)
theorem cycB_iff {arcs : List Arc} : cycB arcs = true ↔ Cyc arcs := by unfold cycB; simp
theorem cycB_not {arcs : List Arc} : cycB arcs = false ↔ ¬ Cyc arcs := by unfold cycB; simp

theorem Rch.trans {arcs : List Arc} {a b c : Nat} (h : Rch arcs a b) (k : Rch arcs b c) : Rch arcs a c := by
  obtain ⟨m, hm, h⟩ := h
  obtain ⟨n, hn, k⟩ := k
  exact ⟨m + n, by omega, h.trans k⟩
theorem Rch.arc {arcs : List Arc} {a : Arc} (h : a ∈ arcs) : Rch arcs a.lo a.up := ⟨1, Nat.le_refl _, a.lo, rfl, List.mem_map.2 ⟨a, h, rfl⟩⟩

/-- Along arcs that keep a numbering, it grows. -/
theorem W.grows {arcs : List (Nat × Nat)} {f : Nat → Nat} (hf : ∀ p ∈ arcs, f p.1 < f p.2) : ∀ {n a b : Nat}, W arcs n a b → f a + n ≤ f b
  | 0, a, b, h => by cases h; omega
  | n + 1, a, b, ⟨c, h, hm⟩ => by
    have h1 := W.grows hf h
    have h2 := hf _ hm
    simp only at h2
    omega

/-- A walk longer than there are places comes back. -/
theorem W.back {arcs : List (Nat × Nat)} {N n a b : Nat} (hN : ∀ p ∈ arcs, p.2 < N) (h : W arcs n a b) (hn : N < n) : ∃ c m, 1 ≤ m ∧ W arcs m c c := by
  obtain ⟨v, h1, h2, h3⟩ := h.places
  have hex : ∃ i j, i < j ∧ j < n ∧ v (i + 1) = v (j + 1) := by
    refine Classical.byContradiction fun hno => ?_
    have hd : ((List.range n).map fun i => v (i + 1)).Nodup := map_nodup fun i j hi hj e => hno ⟨i, j, hi, hj, e⟩
    have := nodup_le N _ hd fun x hx => by
      obtain ⟨i, hi, rfl⟩ := List.mem_map.1 hx
      exact hN _ (h3 i (List.mem_range.1 hi))
    simp at this
    omega
  obtain ⟨i, j, hij, hj, e⟩ := hex
  have w : W arcs (j - i) (v (i + 1)) (v (i + 1 + (j - i))) := W.of_places fun k _ hk => h3 k (by omega)
  rw [show i + 1 + (j - i) = j + 1 by omega, ← e] at w
  exact ⟨_, _, by omega, w⟩

theorem kahn_acyc {arcs : List Arc} {n : Nat} {o : List Nat} (wf : WF n arcs) (h : Kahn arcs n o []) (hl : o.length = n) : ¬ Cyc arcs := by
  rintro ⟨x, m, hm, hw⟩
  have hnd : o.Nodup := by simpa using h.nd
  have hall : ∀ y, y < n → y ∈ o := by
    intro y hy
    refine Classical.byContradiction fun hno => ?_
    have := nodup_le n (y :: o) (List.nodup_cons.2 ⟨hno, hnd⟩) fun z hz => by
      rcases List.mem_cons.1 hz with e | e
      · rw [e]; exact hy
      · exact h.lt z (by simpa using e)
    simp only [List.length_cons] at this; omega
  have := W.grows (f := fun x => o.idxOf x) (arcs := prs arcs) (fun p hp => by
    obtain ⟨a, ha, rfl⟩ := List.mem_map.1 hp
    have hu := hall _ (wf.up a ha)
    have hk : o.idxOf a.up < o.length := List.idxOf_lt_length_iff.2 hu
    have ht := h.topo _ hk a ha (by rw [List.getElem_idxOf])
    obtain ⟨i, hi, e⟩ := List.mem_iff_getElem.1 ht
    rw [List.length_take] at hi
    rw [List.getElem_take] at e
    have hi2 : i < o.length := by omega
    show o.idxOf a.lo < o.idxOf a.up
    have : o.idxOf a.lo = i := by rw [← e]; exact hnd.idxOf_getElem i hi2
    omega) hw
  omega

theorem kahn_cyc {arcs : List Arc} {n : Nat} {o : List Nat} (wf : WF n arcs) (h : Kahn arcs n o []) (hl : ¬ o.length = n) : Cyc arcs := by
  have hnd : o.Nodup := by simpa using h.nd
  have hlt : o.length < n := by
    have := nodup_le n o hnd fun z hz => h.lt z (by simpa using hz)
    omega
  have hex : ∃ x, x < n ∧ x ∉ o := by
    refine Classical.byContradiction fun hno => ?_
    have := nodup_sub (List.range n) o List.nodup_range fun y hy => by
      refine Classical.byContradiction fun hy2 => hno ⟨y, List.mem_range.1 hy, hy2⟩
    simp at this; omega
  have step : ∀ x, x < n → x ∉ o → ∃ a ∈ arcs, a.up = x ∧ a.lo ∉ o ∧ a.lo < n := by
    intro x hx hno
    have h1 : ¬ cnt (remO arcs o) x = 0 := fun h0 => hno (by simpa using (h.mem x hx).2 h0)
    rw [cnt_zero] at h1
    refine Classical.byContradiction fun hne => h1 fun a ha e => hne ⟨a, (List.mem_filter.1 ha).1, e, by simpa using (List.mem_filter.1 ha).2, wf.lo a (List.mem_filter.1 ha).1⟩
  obtain ⟨x, hx, hxo⟩ := hex
  have walk : ∀ m, ∃ y, y < n ∧ y ∉ o ∧ W (prs arcs) m y x := by
    intro m
    induction m with
    | zero => exact ⟨x, hx, hxo, rfl⟩
    | succ m ih =>
      obtain ⟨y, hy, hyo, hw⟩ := ih
      obtain ⟨a, ha, e, hlo, hln⟩ := step y hy hyo
      refine ⟨a.lo, hln, hlo, ?_⟩
      have h1 : W (prs arcs) 1 a.lo y := ⟨a.lo, rfl, List.mem_map.2 ⟨a, ha, by rw [e]⟩⟩
      have := h1.trans hw
      rwa [Nat.add_comm] at this
  obtain ⟨y, _, _, hw⟩ := walk (n + 1)
  obtain ⟨c, m, hm, hw⟩ := W.back (N := n) (fun p hp => by obtain ⟨a, ha, rfl⟩ := List.mem_map.1 hp; exact wf.up a ha) hw (by omega)
  exact ⟨c, m, hm, hw⟩

theorem kahn_ok {arcs : List Arc} {n : Nat} {o : List Nat} (wf : WF n arcs) (h : Kahn arcs n o []) : (decide (o.length = n)) = !cycB arcs := by
  by_cases q : o.length = n
  · rw [decide_eq_true q, cycB_not.2 (kahn_acyc wf h q)]; rfl
  · rw [decide_eq_false q, cycB_iff.2 (kahn_cyc wf h q)]; rfl

/-- Is an arc implied by the others? -/
noncomputable def impB (arcs : List Arc) (a : Arc) (b : Arc) : Bool := if b.up = a.up then decide (b.i < a.i) else rchB arcs b.up a.up
noncomputable def impliedB (arcs : List Arc) (a : Arc) : Bool := (nextOf arcs a.lo).any (impB arcs a)

theorem any_at {α : Type} {p : α → Bool} {xs : List α} {k : Nat} (h : k < xs.length) (hp : p xs[k] = true) : xs.any p = true := List.any_eq_true.2 ⟨_, List.getElem_mem h, hp⟩
theorem any_no {α : Type} {p : α → Bool} {xs : List α} (h : ∀ k (hk : k < xs.length), p xs[k] = false) : xs.any p = false := by
  rw [List.any_eq_false]
  intro x hx
  obtain ⟨k, hk, rfl⟩ := List.mem_iff_getElem.1 hx
  rw [h k hk]; decide
theorem below_succ {α : Type} {p : α → Bool} {xs : List α} {j : Nat} (h : ∀ k (hk : k < xs.length), k < j → p xs[k] = false) (hj : ∀ hk : j < xs.length, p xs[j] = false) : ∀ k (hk : k < xs.length), k < j + 1 → p xs[k] = false := by
  intro k hk hkj
  rcases Nat.lt_or_ge k j with q | q
  · exact h k hk q
  · have : k = j := by omega
    subst this; exact hj hk

noncomputable def redL (arcs : List Arc) (j : Nat) : List Nat := ((arcs.take j).filter fun a => !impliedB arcs a).map (·.i)
theorem redL_succ {arcs : List Arc} {j : Nat} (h : j < arcs.length) : redL arcs (j + 1) = if impliedB arcs arcs[j] = true then redL arcs j else redL arcs j ++ [arcs[j].i] := by
  unfold redL
  rw [← List.take_append_getElem h, List.filter_append, List.map_append]
  by_cases e : impliedB arcs arcs[j] = true
  · simp [e]
  · simp [e]
theorem redL_len (arcs : List Arc) (j : Nat) : (redL arcs j).length ≤ arcs.length := by
  unfold redL
  rw [List.length_map]
  refine Nat.le_trans (List.length_filter_le _ _) ?_
  rw [List.length_take]; omega

/-- The pairs of the closure, up to some place. -/
noncomputable def closeIn (arcs : List Arc) (i k : Nat) : List (Nat × Nat) := ((List.range k).filter (rchB arcs i)).map fun k => (i, k)
noncomputable def closeL (arcs : List Arc) (n i : Nat) : List (Nat × Nat) := (List.range i).flatMap fun i => closeIn arcs i n
theorem closeIn_succ (arcs : List Arc) (i k : Nat) : closeIn arcs i (k + 1) = if rchB arcs i k = true then closeIn arcs i k ++ [(i, k)] else closeIn arcs i k := by
  unfold closeIn
  rw [List.range_succ, List.filter_append, List.map_append]
  by_cases e : rchB arcs i k = true <;> simp [e]
theorem closeL_succ (arcs : List Arc) (n i : Nat) : closeL arcs n (i + 1) = closeL arcs n i ++ closeIn arcs i n := by
  unfold closeL
  rw [List.range_succ, List.flatMap_append]
  simp
theorem closeIn_len (arcs : List Arc) (i k : Nat) : (closeIn arcs i k).length ≤ k := by
  unfold closeIn
  rw [List.length_map]
  exact Nat.le_trans (List.length_filter_le _ _) (by simp)
theorem closeL_len (arcs : List Arc) (n : Nat) : ∀ i, (closeL arcs n i).length ≤ i * n
  | 0 => by simp [closeL]
  | i + 1 => by
    rw [closeL_succ, List.length_append, Nat.succ_mul]
    have := closeL_len arcs n i
    have := closeIn_len arcs i n
    omega

abbrev pairC (names : List Nm) (p : Nat × Nat) : List Value := [str (names.getD p.1 []), str (names.getD p.2 [])]
theorem encS_getD {names : List Nm} {k : Nat} (h : k < names.length) : encS names[k] = [str (names.getD k [])] := by
  simp [List.getD_eq_getElem?_getD, h]

/-- A call in a drawn region that makes one slice. -/
theorem quiet_sl {f : FuncId} {args : List Value} {H : Heap} {T : Tab} {sz : Nat} {es : Value → List (List Value)} (h : ∃ r H1, big T f args (H.map Blk.freeze) = some (r, H1) ∧ Mem (H.map Blk.freeze) H1 [.sl sz r (es r)]) :
    ∃ r K, quiet (big T) f args H = some (r, K) ∧ Ext H K ∧ Sl K sz r (es r) := by
  obtain ⟨r, H1, h1, hm⟩ := h
  obtain ⟨K, h2, h3, h4, h5⟩ := quiet_some h1 hm.ext
  exact ⟨r, K, h2, h3, (hm.get_sl (j := 0) rfl).sees h5⟩

end Go.Proofs.Ytdhbclplondmjaa.C

end

section
/- The law on Closure and Reduction, plain. -/
set_option linter.unusedVariables false
set_option linter.unusedSimpArgs false
namespace Go.Proofs.Ytdhbclplondmjaa.C
open Go.RowKit Go.Sort

theorem W.head {arcs : List (Nat × Nat)} {n c b : Nat} (h : W arcs (n + 1) c b) : ∃ a, (c, a) ∈ arcs ∧ W arcs n a b := by
  obtain ⟨v, h1, h2, h3⟩ := h.places
  refine ⟨v 1, by have := h3 0 (by omega); rwa [h1] at this, ?_⟩
  have w : W arcs n (v 1) (v (1 + n)) := W.of_places fun k _ hk => h3 k (by omega)
  rwa [Nat.add_comm 1 n, h2] at w

/-! ### The closure -/

theorem closeIn_pre (arcs : List Arc) (i : Nat) {k : Nat} : ∀ {n : Nat}, k ≤ n → ∃ r, closeIn arcs i n = closeIn arcs i k ++ r
  | 0, h => ⟨[], by have : k = 0 := by omega
                    subst this; simp⟩
  | n + 1, h => by
    rcases Nat.eq_or_lt_of_le h with e | e
    · exact ⟨[], by rw [e]; simp⟩
    · obtain ⟨r, hr⟩ := closeIn_pre arcs i (k := k) (n := n) (by omega)
      rw [closeIn_succ]
      split
      · exact ⟨r ++ [(i, n)], by rw [hr, List.append_assoc]⟩
      · exact ⟨r, hr⟩
theorem closeL_pre (arcs : List Arc) (n : Nat) {i : Nat} : ∀ {m : Nat}, i ≤ m → ∃ r, closeL arcs n m = closeL arcs n i ++ r
  | 0, h => ⟨[], by have : i = 0 := by omega
                    subst this; simp⟩
  | m + 1, h => by
    rcases Nat.eq_or_lt_of_le h with e | e
    · exact ⟨[], by rw [e]; simp⟩
    · obtain ⟨r, hr⟩ := closeL_pre arcs n (i := i) (m := m) (by omega)
      exact ⟨r ++ closeIn arcs m n, by rw [closeL_succ, hr, List.append_assoc]⟩

theorem close_at {arcs : List Arc} {n i k : Nat} (hi : i < n) (hk : k < n) (hr : rchB arcs i k = true) :
    ∃ h : (closeL arcs n i).length + (closeIn arcs i k).length < (closeL arcs n n).length, (closeL arcs n n)[(closeL arcs n i).length + (closeIn arcs i k).length] = (i, k) := by
  obtain ⟨r1, h1⟩ := closeL_pre arcs n (i := i + 1) (m := n) (by omega)
  obtain ⟨r2, h2⟩ := closeIn_pre arcs i (k := k + 1) (n := n) (by omega)
  rw [closeL_succ, h2, closeIn_succ, if_pos hr] at h1
  have e : closeL arcs n n = (closeL arcs n i ++ closeIn arcs i k) ++ ((i, k) :: (r2 ++ r1)) := by rw [h1]; simp
  refine ⟨by rw [e]; simp, ?_⟩
  have : (closeL arcs n n)[(closeL arcs n i).length + (closeIn arcs i k).length]? = some (i, k) := by
    rw [e, List.getElem?_append_right (by simp)]
    simp
  exact (List.getElem?_eq_some_iff.1 this).2

/-! ### The reduction -/

/-- The law's word on a relation: by the first k ones. -/
def lawImp (l : List Rel) (u : List Nm) (mm : Nat → Nat → Nat) (r : Rel) (k : Nat) : Bool :=
  (decide (r.kind = 4) || decide (1 < mm (idx u r.lo) (idx u r.up))) || (l.take k).any fun q => decide (q.kind ≠ 4) && (decide (q.up = r.up) && decide (q.lo = r.lo))

theorem lawImp_succ {l : List Rel} {u : List Nm} {mm : Nat → Nat → Nat} {r : Rel} {k : Nat} (h : k < l.length) : lawImp l u mm r (k + 1) = (lawImp l u mm r k || (decide (l[k].kind ≠ 4) && (decide (l[k].up = r.up) && decide (l[k].lo = r.lo)))) := by
  unfold lawImp
  rw [← List.take_append_getElem h, List.any_append]
  simp [Bool.or_assoc]

def wantL (l : List Rel) (u : List Nm) (mm : Nat → Nat → Nat) : Nat → List Nat
  | 0 => []
  | i + 1 => wantL l u mm i ++ (match l[i]? with | some r => if lawImp l u mm r i = true then [] else [i] | none => [])

theorem wantL_succ {l : List Rel} {u : List Nm} {mm : Nat → Nat → Nat} {i : Nat} (h : i < l.length) : wantL l u mm (i + 1) = if lawImp l u mm l[i] i = true then wantL l u mm i else wantL l u mm i ++ [i] := by
  show wantL l u mm i ++ (match l[i]? with | some r => if lawImp l u mm r i = true then [] else [i] | none => []) = _
  rw [List.getElem?_eq_getElem h]
  by_cases e : lawImp l u mm l[i] i = true <;> simp [e]
theorem wantL_len (l : List Rel) (u : List Nm) (mm : Nat → Nat → Nat) : ∀ i, (wantL l u mm i).length ≤ i
  | 0 => Nat.le_refl _
  | i + 1 => by
    have := wantL_len l u mm i
    show (wantL l u mm i ++ (match l[i]? with | some r => if lawImp l u mm r i = true then [] else [i] | none => [])).length ≤ i + 1
    rw [List.length_append]
    cases l[i]? with
    | none => simp; omega
    | some r =>
      simp only
      split <;> simp <;> omega

theorem arcs_mem {l : List Rel} {k : Nat} {b : Arc} : b ∈ arcsUp l k ↔ ∃ j, ∃ h : j < l.length, j < k ∧ l[j].kind ≠ 4 ∧ b = ⟨j, idx (unitsP l) l[j].lo, idx (unitsP l) l[j].up⟩ := by
  unfold arcsUp
  rw [List.mem_map]
  constructor
  · rintro ⟨p, hp, rfl⟩
    obtain ⟨h1, h2⟩ := List.mem_filter.1 hp
    obtain ⟨x, j⟩ := p
    have h3 := List.mem_zipIdx_iff_getElem?.1 h1
    simp only at h3
    rw [List.getElem?_take] at h3
    split at h3
    · obtain ⟨h4, h5⟩ := List.getElem?_eq_some_iff.1 h3
      subst h5
      exact ⟨j, h4, by assumption, by simpa using h2, rfl⟩
    · simp at h3
  · rintro ⟨j, h, hj, hk, rfl⟩
    refine ⟨(l[j], j), List.mem_filter.2 ⟨List.mem_zipIdx_iff_getElem?.2 ?_, by simpa using hk⟩, rfl⟩
    simp only
    rw [List.getElem?_take, if_pos hj, List.getElem?_eq_getElem h]

theorem far_ge {arcs : List Arc} {n a b x m : Nat} (wf : WF n arcs) (hn : n ≤ 8) (hc : ¬ Cyc arcs) (h : Far (prs arcs) 8 a b x) (hw : W (prs arcs) m a b) : m ≤ x := by
  have hm : m ≤ n := by
    rcases Nat.lt_or_ge n m with q | q
    · obtain ⟨c, k, hk, hw⟩ := W.back (N := n) (fun p hp => by obtain ⟨a, ha, rfl⟩ := List.mem_map.1 hp; exact wf.up a ha) hw q
      exact absurd ⟨c, k, hk, hw⟩ hc
    · exact q
  rcases h with ⟨h1, h2⟩ | ⟨_, _, _, h4⟩
  · rcases Nat.eq_zero_or_pos m with q | q
    · omega
    · exact absurd hw (h2 m q (by omega))
  · exact h4 m (by omega) hw

theorem implied_law {l : List Rel} {mm : Nat → Nat → Nat} (hn : (unitsP l).length ≤ 8) (hc : ¬ Cyc (arcsOf l)) (hF : ∀ c b, Far (prs (arcsOf l)) 8 c b (mm c b)) {i : Nat} (hi : i < l.length) (hk : l[i].kind ≠ 4) :
    impliedB (arcsOf l) ⟨i, idx (unitsP l) l[i].lo, idx (unitsP l) l[i].up⟩ = lawImp l (unitsP l) mm l[i] i := by
  have hu : ∀ j (h : j < l.length), l[j].up ∈ unitsP l := fun j h => mem_unitsP.2 (mem_names_up (List.getElem_mem h))
  have hl : ∀ j (h : j < l.length), l[j].lo ∈ unitsP l := fun j h => mem_unitsP.2 (mem_names_lo (List.getElem_mem h))
  rw [Bool.eq_iff_iff]
  constructor
  · intro h
    obtain ⟨b, hb, hi2⟩ := List.any_eq_true.1 h
    obtain ⟨hb1, hb2⟩ := next_mem.1 hb
    simp only at hb2
    unfold impB at hi2
    unfold lawImp
    rw [Bool.or_eq_true]
    split at hi2
    · rename_i e
      simp only at e
      right
      obtain ⟨j, hj, hjl, hjk, rfl⟩ := arcs_mem.1 hb1
      simp only [decide_eq_true_eq] at hi2
      simp only at e hb2
      refine List.any_eq_true.2 ⟨l[j], ?_, ?_⟩
      · exact List.mem_iff_getElem.2 ⟨j, by rw [List.length_take]; omega, by rw [List.getElem_take]⟩
      · simp [hjk, idx_inj (hu j hj) (hu i hi) e, idx_inj (hl j hj) (hl i hi) hb2]
    · left
      rw [Bool.or_eq_true]
      right
      have hi3 : rchB (arcsOf l) b.up (idx (unitsP l) l[i].up) = true := hi2
      obtain ⟨m, hm, hw⟩ := rchB_iff.1 hi3
      have h1 : W (prs (arcsOf l)) 1 (idx (unitsP l) l[i].lo) b.up := ⟨_, rfl, List.mem_map.2 ⟨b, hb1, by rw [hb2]⟩⟩
      have := far_ge (arcs_wf l) hn hc (hF _ _) (h1.trans hw)
      simp only [decide_eq_true_eq]; omega
  · intro h
    unfold lawImp at h
    rw [Bool.or_eq_true, Bool.or_eq_true] at h
    rcases h with (h | h) | h
    · exact absurd (of_decide_eq_true h) hk
    · have h := of_decide_eq_true h
      rcases hF (idx (unitsP l) l[i].lo) (idx (unitsP l) l[i].up) with ⟨h0, _⟩ | ⟨_, _, hw, _⟩
      · omega
      · obtain ⟨x, hx⟩ : ∃ x, mm (idx (unitsP l) l[i].lo) (idx (unitsP l) l[i].up) = x + 2 := ⟨mm (idx (unitsP l) l[i].lo) (idx (unitsP l) l[i].up) - 2, by omega⟩
        rw [hx] at hw
        obtain ⟨a, ha, hw⟩ := hw.head
        obtain ⟨b, hb, e⟩ := List.mem_map.1 ha
        have e1 : b.lo = idx (unitsP l) l[i].lo := (Prod.mk.inj e).1
        have e2 : b.up = a := (Prod.mk.inj e).2
        refine List.any_eq_true.2 ⟨b, next_mem.2 ⟨hb, e1⟩, ?_⟩
        unfold impB
        have hr : Rch (arcsOf l) b.up (idx (unitsP l) l[i].up) := ⟨x + 1, by omega, by rw [e2]; exact hw⟩
        split
        · rename_i e3
          simp only at e3
          exact absurd ⟨b.up, by rw [← e3] at hr; exact hr⟩ hc
        · exact rchB_iff.2 hr
    · obtain ⟨q, hq, h⟩ := List.any_eq_true.1 h
      obtain ⟨j, hj, e⟩ := List.mem_iff_getElem.1 hq
      rw [List.length_take] at hj
      rw [List.getElem_take] at e
      subst e
      simp only [Bool.and_eq_true, decide_eq_true_eq] at h
      refine List.any_eq_true.2 ⟨⟨j, idx (unitsP l) l[j].lo, idx (unitsP l) l[j].up⟩, next_mem.2 ⟨arcs_mem.2 ⟨j, by omega, by omega, h.1, rfl⟩, by simp only; rw [h.2.2]⟩, ?_⟩
      unfold impB
      simp only
      rw [if_pos (by rw [h.2.1])]
      exact decide_eq_true (by omega)

theorem red_want {l : List Rel} {mm : Nat → Nat → Nat} (hn : (unitsP l).length ≤ 8) (hc : ¬ Cyc (arcsOf l)) (hF : ∀ c b, Far (prs (arcsOf l)) 8 c b (mm c b)) :
    redL (arcsOf l) (arcsOf l).length = wantL l (unitsP l) mm l.length := by
  unfold redL
  rw [List.take_length]
  have key : ∀ k, k ≤ l.length → ((arcsUp l k).filter fun a => !impliedB (arcsOf l) a).map (·.i) = wantL l (unitsP l) mm k := by
    intro k
    induction k with
    | zero => intro _; simp [arcsUp, wantL]
    | succ k ih =>
      intro hk
      have ih := ih (by omega)
      rw [arcsUp_succ (by omega : k < l.length), wantL_succ (by omega : k < l.length), ← ih]
      by_cases e : l[k].kind = 4
      · rw [if_pos e, if_pos (by simp [lawImp, e])]
      · rw [if_neg e, List.filter_append, List.map_append, ← implied_law hn hc hF (by omega) e]
        by_cases q : impliedB (arcsOf l) ⟨k, idx (unitsP l) l[k].lo, idx (unitsP l) l[k].up⟩ = true
        · simp [q]
        · simp [q]
  exact key l.length (Nat.le_refl _)

theorem rch_lt {arcs : List Arc} {n a b : Nat} (wf : WF n arcs) (h : Rch arcs a b) : a < n ∧ b < n := by
  obtain ⟨m, hm, hw⟩ := h
  obtain ⟨m, rfl⟩ : ∃ k, m = k + 1 := ⟨m - 1, by omega⟩
  obtain ⟨c, h1, h2⟩ := id hw
  obtain ⟨d, h3, h4⟩ := hw.head
  obtain ⟨x, hx, e⟩ := List.mem_map.1 h2
  obtain ⟨y, hy, e'⟩ := List.mem_map.1 h3
  exact ⟨(Prod.mk.inj e').1 ▸ wf.lo y hy, (Prod.mk.inj e).2 ▸ wf.up x hx⟩

/-! ### Small calls -/
theorem sameN_runs {H : Heap} {v1 v2 : Value} {xs ys : List Nat} (h1 : Sl H 1 v1 (xs.map encN)) (h2 : Sl H 1 v2 (ys.map encN)) (hx : xs.length < 2 ^ 40) :
    big tab 15 [v1, v2] H = some (.bool (decide (xs = ys)), H) := by
  have e : ∀ zs : List Nat, zs.map encN = ints (zs.map fun z : Nat => (z : Int)) := fun zs => by simp [ints]
  rw [e] at h1 h2
  have h := sameInts_runs (ext := extB) rfl h1 h2 (by simpa using hx)
  have e2 : decide ((xs.map fun z : Nat => (z : Int)) = ys.map fun z : Nat => (z : Int)) = decide (xs = ys) := by
    by_cases q : xs = ys
    · subst q; simp
    · rw [decide_eq_false q, decide_eq_false]
      intro h
      refine q ?_
      have : ∀ {a b : List Nat}, (a.map fun z : Nat => (z : Int)) = b.map (fun z : Nat => (z : Int)) → a = b := by
        intro a
        induction a with
        | nil => intro b h; cases b with
          | nil => rfl
          | cons y b => simp at h
        | cons x a ih => intro b h; cases b with
          | nil => simp at h
          | cons y b =>
            simp only [List.map_cons, List.cons.injEq] at h
            rw [ih h.2, show x = y by omega]
      exact this h
  rw [e2] at h
  exact h

theorem ev_ldAMx {T : Tab} {s : List Value} {H : Heap} {α : Type} {f : α → List Value} {xs : List α} {sz k : Nat} {v : Value} {cs : List Value} {t : TypeId} {a : Operand} {i : TI} (h : Sl H sz v (xs.map f)) (ha : ev s a = ptrAt (sAddr v) (k * sz)) (hk : k < xs.length) (hx : f xs[k] = cs) (hT : T.T t = some i) (hs : i.size = sz) (hg : i.agg = true) : opEval T s H (.load t a) = some (.agg cs.toArray, H) := by
  rw [← hx]; exact ev_ldAM h ha hk hT hs hg
theorem ev_seqB {s : List Value} {H : Heap} {t t2 : TypeId} {x y : Operand} {a b : Nm} {p : Bool} (hp : decide (a = b) = p) (hx : ev s x = str a) (hy : ev s y = str b) : opEval tab s H (.binOp .eql t x y t2) = some (.bool p, H) := by
  rw [← hp]; exact ev_seq hx hy
theorem ev_nePair {s : List Value} {H : Heap} {x y : Operand} {t2 : TypeId} {a b : Nm} (hx : ev s x = .agg #[str a, str b]) (hy : ev s y = .agg #[str a, str b]) : opEval tab s H (.binOp .neq 56 x y t2) = some (.bool false, H) := by
  have h : tab.eqs 56 = some [.string, .string] := rfl
  simp only [opEval, hx, hy, binOp, h, Option.bind_some, aggEq, Option.map_some, BEq.rfl, Bool.and_self, Bool.not_true]

end Go.Proofs.Ytdhbclplondmjaa.C

end

section
/- Distances, plain; slices.Repeat by its runs. -/
set_option linter.unusedVariables false
set_option linter.unusedSimpArgs false
set_option maxRecDepth 100000
namespace Go.Proofs.Ytdhbclplondmjaa.C
open Go.RowKit Go.Sort

/-! ### Repeat -/

def repS : Heap := [.row 1 [.int .i64 (-1)] false true]
def chkRep (r : Option (Value × Heap)) (n : Nat) : Bool :=
  match r with
  | some (.slice (some ⟨b, 0, none⟩) m c, E) => decide (1 ≤ b ∧ m = n ∧ c = n) && (match E[b]? with | some (.row 1 cs true true) => eqVs cs (List.replicate n (.int .i64 (-1))) | _ => false)
  | _ => false
theorem rep_chk : ((List.range 13).all fun n => chkRep (runF 300 57 [.slice (some ⟨0, 0, none⟩) 1 unk, nat n] repS) n) = true := by decide +kernel

theorem repeat_runs {H : Heap} {x : Value} {n : Nat} (hx : Sl H 1 x (List.map encI [-1])) (hn : n ≤ 12) :
    ∃ r H1, big tab 57 [x, nat n] H = some (r, H1) ∧ Mem H H1 [.sl 1 r (List.map encI (List.replicate n (-1)))] := by
  have hc := List.all_eq_true.1 rep_chk n (List.mem_range.2 (by omega))
  unfold chkRep at hc
  split at hc
  · rename_i b m c E hrun
    simp only [Bool.and_eq_true, decide_eq_true_eq] at hc
    obtain ⟨⟨hb, rfl, rfl⟩, hc⟩ := hc
    split at hc
    · rename_i cs hE
      obtain ⟨rfl, hp⟩ := eqVs_eq hc
      obtain ⟨ax, cx, rfl, hcx, hcells⟩ := hx
      obtain ⟨bb, o, rfl, hsz, hr⟩ := hcells.lt (i := 0) (by simp)
      have hrd := hr 0 _ rfl
      have htake : takeArgs H 0 [.slice (some ⟨bb, o, none⟩) (List.map encI [(-1 : Int)]).length cx, nat c] = some ([.slice (some ⟨0, 0, none⟩) 1 unk, nat c], repS) := by
        unfold szAt at hsz
        split at hsz
        · rename_i sz cs own hbb
          simp only [Option.some.injEq] at hsz
          subst hsz
          have hrd' : readCells H bb o (1 * 1) = some [.int .i64 (-1)] := by simpa using hrd
          simp only [takeArgs, hbb, List.map_cons, List.map_nil, List.length_cons, List.length_nil, Nat.zero_add, Nat.one_ne_zero, if_false, hrd', plains, plain, flat, if_true, Option.map_some, Bool.and_self]
          rfl
        · simp at hsz
      have hrns : ∀ l : List Value, plains l = true → rns 1 H.length l = some l := by
        intro l
        induction l with
        | nil => intro _; rfl
        | cons a l ih =>
          intro hp
          simp only [plains, Bool.and_eq_true] at hp
          unfold rns
          rw [ih hp.2]
          have : rn 1 H.length a = some a := by
            unfold rn
            split
            · simp [plain] at hp
            · rw [if_pos hp.1]
          rw [this]
      have hrn : rnV 1 H.length (.slice (some ⟨b, 0, none⟩) c c) = some (.slice (some ⟨b - 1 + H.length, 0, none⟩) c c) := by
        simp only [rnV, rn, if_pos hb]
      have hH : (H ++ (E.drop 1).map (rnB 1 H.length))[b - 1 + H.length]? = some (.row 1 (List.replicate c (.int .i64 (-1))) true true) := by
        rw [List.getElem?_append_right (by omega), List.getElem?_map, List.getElem?_drop, show 1 + (b - 1 + H.length - H.length) = b by omega, hE]
        simp only [Option.map_some, rnB, hrns _ hp]
      refine ⟨.slice (some ⟨b - 1 + H.length, 0, none⟩) c c, H ++ (E.drop 1).map (rnB 1 H.length), big_ext (T := tab) (f := 57) rfl ?_, ?_, ?_⟩
      · unfold subX
        rw [htake]
        simp only [hrun]
        rw [show repS.length = 1 from rfl, hrn]
        rfl
      · refine ⟨by simp, fun b hb => List.getElem?_append_left hb, fun b X hb e => ?_⟩
        rw [List.getElem?_append_right hb, List.getElem?_map, Option.map_eq_some_iff] at e
        obtain ⟨Y, _, rfl⟩ := e
        unfold rnB
        split
        · split <;> rfl
        · rfl
      · refine ⟨[some (b - 1 + H.length, .row 1 (List.replicate c (.int .i64 (-1))) true true)], rfl, ⟨fun j p X h => ?_, fun i j p X q Y h1 h2 hne => ?_⟩, fun j t h => ?_⟩
        · cases j with
          | zero => simp at h; obtain ⟨rfl, rfl⟩ := h; exact ⟨by omega, hH⟩
          | succ j => simp at h
        · cases i with
          | zero => cases j with
            | zero => exact absurd rfl hne
            | succ j => simp at h2
          | succ i => simp at h1
        · cases j with
          | zero =>
            simp at h
            subst h
            refine ⟨_, rfl, ?_⟩
            have hfl : (List.map encI (List.replicate c (-1))).flatten = List.replicate c (.int .i64 (-1)) := by
              rw [List.map_replicate]
              clear hE hp hH hrn htake hrun hc
              induction c with
              | zero => rfl
              | succ c ih => rw [List.replicate_succ, List.flatten_cons, ih (by omega)]; rfl
            have := slo_row (p := b - 1 + H.length) (sz := 1) (es := List.map encI (List.replicate c (-1))) (by simp) (by simp; omega)
            rw [hfl] at this
            show Slo _ _ _ _
            simpa using this
          | succ j => simp at h
    · simp at hc
  · simp at hc

/-! ### Distances -/

/-- The arcs with an index above a bound. -/
def abv (arcs : List Arc) (above : Int) : List Arc := arcs.filter fun a => decide (above < ((a.i : Nat) : Int))

theorem least_of {P : Nat → Prop} (h : ∃ k, P k) : ∃ k, P k ∧ ∀ j, P j → k ≤ j := by
  obtain ⟨k, hk⟩ := h
  induction k using Nat.strongRecOn with
  | _ k ih =>
    by_cases q : ∃ j, j < k ∧ P j
    · obtain ⟨j, hj, hp⟩ := q; exact ih j hj hp
    · refine ⟨k, hk, fun j hp => ?_⟩
      rcases Nat.lt_or_ge j k with z | z
      · exact absurd ⟨j, z, hp⟩ q
      · exact z

open Classical in
/-- The least number of arcs from a unit to one; -1 without a way. -/
noncomputable def distF (A : List Arc) (to x : Nat) : Int := if h : ∃ k, W (prs A) k x to then ((Classical.choose (least_of h) : Nat) : Int) else -1

theorem distF_walk {A : List Arc} {to x k : Nat} (h : W (prs A) k x to) : 0 ≤ distF A to x ∧ distF A to x ≤ k := by
  have hh : ∃ k, W (prs A) k x to := ⟨k, h⟩
  unfold distF
  rw [dif_pos hh]
  have := (Classical.choose_spec (least_of hh)).2 k h
  omega
theorem distF_some {A : List Arc} {to x : Nat} (h : 0 ≤ distF A to x) : W (prs A) (distF A to x).toNat x to := by
  unfold distF at h ⊢
  by_cases hh : ∃ k, W (prs A) k x to
  · rw [dif_pos hh]
    have := (Classical.choose_spec (least_of hh)).1
    simpa using this
  · rw [dif_neg hh] at h; omega
theorem distF_ge (A : List Arc) (to x : Nat) : -1 ≤ distF A to x := by
  unfold distF
  split <;> omega
theorem distF_eq {A : List Arc} {to x : Nat} {g : Int} (h1 : ∀ k, W (prs A) k x to → 0 ≤ g ∧ g ≤ k) (h2 : 0 ≤ g → W (prs A) g.toNat x to) (h3 : -1 ≤ g) : g = distF A to x := by
  rcases Int.lt_or_le g 0 with q | q
  · rcases Int.lt_or_le (distF A to x) 0 with w | w
    · have := distF_ge A to x; omega
    · have := h1 _ (distF_some w); omega
  · have h4 := h2 q
    have h5 := distF_walk h4
    have h6 := h1 _ (distF_some h5.1)
    omega

/-- How many are known. -/
def knownN (g : Nat → Int) (n : Nat) : Nat := (List.range n).countP fun x => decide (0 ≤ g x)
def wgt (n : Nat) (v : Int) : Nat := if v < 0 then n else v.toNat
def wsum (g : Nat → Int) (n : Nat) : Nat → Nat
  | 0 => 0
  | k + 1 => wsum g n k + wgt n (g k)

def setF (g : Nat → Int) (x : Nat) (v : Int) : Nat → Int := fun z => if z = x then v else g z

theorem wsum_set {g : Nat → Int} {n x : Nat} {v : Int} : ∀ {k : Nat}, (k ≤ x → wsum (setF g x v) n k = wsum g n k) ∧ (x < k → wsum (setF g x v) n k + wgt n (g x) = wsum g n k + wgt n v)
  | 0 => ⟨fun _ => rfl, fun h => by omega⟩
  | k + 1 => by
    obtain ⟨h1, h2⟩ := wsum_set (g := g) (n := n) (x := x) (v := v) (k := k)
    refine ⟨fun h => ?_, fun h => ?_⟩
    · have h3 := h1 (by omega)
      show wsum (setF g x v) n k + wgt n (setF g x v k) = wsum g n k + wgt n (g k)
      rw [h3, show setF g x v k = g k by simp [setF, show k ≠ x by omega]]
    · show wsum (setF g x v) n k + wgt n (setF g x v k) + wgt n (g x) = wsum g n k + wgt n (g k) + wgt n v
      rcases Nat.lt_or_ge x k with q | q
      · have h3 := h2 q
        rw [show setF g x v k = g k by simp [setF, show k ≠ x by omega]]
        omega
      · have e : k = x := by omega
        subst e
        have h3 := h1 (Nat.le_refl _)
        rw [h3, show setF g k v k = v by simp [setF]]
        omega

theorem knownN_le (g : Nat → Int) (n : Nat) : knownN g n ≤ n := by
  have := List.countP_le_length (p := fun x => decide (0 ≤ g x)) (l := List.range n)
  simpa [knownN] using this
theorem knownN_succ (g : Nat → Int) (n : Nat) : knownN g (n + 1) = knownN g n + if 0 ≤ g n then 1 else 0 := by
  unfold knownN
  rw [List.range_succ, List.countP_append]
  by_cases h : 0 ≤ g n <;> simp [h]
theorem knownN_set {g : Nat → Int} {x : Nat} {v : Int} (hv : 0 ≤ v) : ∀ {n : Nat}, (n ≤ x → knownN (setF g x v) n = knownN g n) ∧ (x < n → knownN (setF g x v) n = knownN g n + if 0 ≤ g x then 0 else 1)
  | 0 => ⟨fun _ => rfl, fun h => by omega⟩
  | n + 1 => by
    obtain ⟨h1, h2⟩ := knownN_set (g := g) (x := x) hv (n := n)
    rw [knownN_succ, knownN_succ]
    refine ⟨fun h => ?_, fun h => ?_⟩
    · rw [h1 (by omega), show setF g x v n = g n by simp [setF, show n ≠ x by omega]]
    · rcases Nat.lt_or_ge x n with q | q
      · rw [h2 q, show setF g x v n = g n by simp [setF, show n ≠ x by omega]]; omega
      · have e : n = x := by omega
        subst e
        rw [h1 (Nat.le_refl _), show setF g n v n = v by simp [setF], if_pos hv]
        split <;> omega

/-- Nothing to better along an arc. -/
def Calm (above : Int) (g : Nat → Int) (a : Arc) : Prop := above < ((a.i : Nat) : Int) → 0 ≤ g a.up → 0 ≤ g a.lo ∧ g a.lo ≤ g a.up + 1

structure Dist (arcs : List Arc) (n to : Nat) (above : Int) (g : Nat → Int) : Prop where
  ge : ∀ x, -1 ≤ g x
  walk : ∀ x, 0 ≤ g x → W (prs (abv arcs above)) (g x).toNat x to
  zero : g to = 0
  lt : ∀ x, x < n → g x + 1 ≤ knownN g n

theorem Dist.start {arcs : List Arc} {n to : Nat} {above : Int} (h : to < n) : Dist arcs n to above (setF (fun _ => -1) to 0) := by
  have hk : knownN (setF (fun _ => -1) to 0) n = 0 + 1 := by
    rw [(knownN_set (g := fun _ => -1) (x := to) (v := 0) (by omega) (n := n)).2 h]
    have : knownN (fun _ => -1) n = 0 := by
      unfold knownN
      rw [List.countP_eq_zero]; simp
    rw [this]; rfl
  refine ⟨fun x => ?_, fun x hx => ?_, by simp [setF], fun x hx => ?_⟩
  · unfold setF; dsimp only; split <;> omega
  · unfold setF at hx ⊢
    dsimp only at hx ⊢
    split at hx
    · rename_i e; rw [if_pos e]; exact e
    · omega
  · rw [hk]; unfold setF; dsimp only; split <;> omega

theorem Dist.relax {arcs : List Arc} {n to : Nat} {above : Int} {g : Nat → Int} (h : Dist arcs n to above g) (wf : WF n arcs) {a : Arc} (ha : a ∈ arcs) (h1 : above < ((a.i : Nat) : Int)) (h2 : 0 ≤ g a.up) (h3 : g a.lo < 0 ∨ g a.up + 1 < g a.lo) :
    Dist arcs n to above (setF g a.lo (g a.up + 1)) ∧ wsum (setF g a.lo (g a.up + 1)) n n < wsum g n n := by
  have hlo := wf.lo a ha
  have hup := wf.up a ha
  have hk := (knownN_set (g := g) (x := a.lo) (v := g a.up + 1) (by omega) (n := n)).2 hlo
  have hkn := knownN_le (setF g a.lo (g a.up + 1)) n
  have hu := h.lt a.up hup
  have hl := h.lt a.lo hlo
  refine ⟨⟨fun x => ?_, fun x hx => ?_, ?_, fun x hx => ?_⟩, ?_⟩
  · unfold setF; split
    · omega
    · exact h.ge x
  · unfold setF at hx ⊢
    split at hx
    · rename_i e
      rw [if_pos e]
      subst e
      have hw := h.walk _ h2
      have h4 : W (prs (abv arcs above)) 1 a.lo a.up := ⟨a.lo, rfl, List.mem_map.2 ⟨a, List.mem_filter.2 ⟨ha, by simpa using h1⟩, rfl⟩⟩
      have h5 := h4.trans hw
      rw [show (g a.up + 1).toNat = 1 + (g a.up).toNat by omega]
      exact h5
    · rename_i e
      rw [if_neg e]; exact h.walk x hx
  · have h4 := h.zero
    unfold setF
    split
    · rename_i e
      rw [← e] at h3
      omega
    · exact h4
  · have h4 := h.lt x hx
    rw [hk]
    unfold setF
    split
    · split <;> omega
    · split <;> omega
  · have h4 := (wsum_set (g := g) (n := n) (x := a.lo) (v := g a.up + 1) (k := n)).2 hlo
    have h5 : wgt n (g a.up + 1) = (g a.up + 1).toNat := by unfold wgt; rw [if_neg (by omega)]
    rcases h3 with h3 | h3
    · have h6 : wgt n (g a.lo) = n := by unfold wgt; rw [if_pos h3]
      rw [hk, if_neg (by omega)] at hkn
      omega
    · have h6 : wgt n (g a.lo) = (g a.lo).toNat := by unfold wgt; rw [if_neg (by omega)]
      omega

theorem Dist.done {arcs : List Arc} {n to : Nat} {above : Int} {g : Nat → Int} (h : Dist arcs n to above g) (hc : ∀ a ∈ arcs, Calm above g a) : ∀ x, g x = distF (abv arcs above) to x := by
  intro x
  refine distF_eq (fun k hw => ?_) (h.walk x) (h.ge x)
  induction k generalizing x with
  | zero =>
    have : x = to := hw
    subst this
    rw [h.zero]; omega
  | succ k ih =>
    obtain ⟨y, hy, hw⟩ := hw.head
    obtain ⟨a, ha, e⟩ := List.mem_map.1 hy
    obtain ⟨h1, h2⟩ := List.mem_filter.1 ha
    have e1 : a.lo = x := (Prod.mk.inj e).1
    have e2 : a.up = y := (Prod.mk.inj e).2
    have h3 := ih y hw
    have h4 := hc a h1 (by simpa using h2) (by rw [e2]; exact h3.1)
    rw [e1, e2] at h4
    omega

end Go.Proofs.Ytdhbclplondmjaa.C

end

section
/- Ranks: the iterator that goes backward; levels, plain. -/
set_option linter.unusedVariables false
set_option linter.unusedSimpArgs false
set_option maxRecDepth 100000
set_option maxHeartbeats 4000000
namespace Go.Proofs.Ytdhbclplondmjaa.C
open Go.RowKit Go.Sort

theorem res_cell {T : Tab} {fn : Func} {s : List Value} {H : Heap} {p sz : Nat} {own : Bool} {a b v : Value} {t : TypeId} {ti : TI} (hr : fn.results = #[.tmp 2, .cell 3 t, .tmp 4]) (h2 : s.getD 2 undef = a) (h4 : s.getD 4 undef = b) (h3 : s.getD 3 undef = .pointer (some ⟨p, 0, none⟩)) (hp : H[p]? = some (.row sz [v] own true)) (hT : T.T t = some ti) (hs : ti.size = 1) (hg : ti.agg = false) :
    resultsC T fn s H = some (.tuple #[a, v, b]) := by
  have h5 := vload_box (T := T) hp hT hs hg
  simp only [resultsC, hr, List.mapM_cons, List.mapM_nil, resOne, h2, h3, h4, h5]
  rfl

theorem Mem.base {H0 H1 H : Heap} {L : List Th} (h : Mem H1 H L) (e : Ext H0 H1) : Mem H0 H L := by
  have := ((Mem.start H0).more e).under h
  simpa using this
theorem Mem.rot {H0 H : Heap} {A B : List Th} (h : Mem H0 H (A ++ B)) : Mem H0 H (B ++ A) := by
  refine h.sub (fun j => if j < B.length then A.length + j else if j < B.length + A.length then j - B.length else j) (fun i j e => ?_) (fun j t e => ?_)
  · by_cases p : i < B.length <;> by_cases q : j < B.length <;> by_cases r : i < B.length + A.length <;> by_cases u : j < B.length + A.length <;> simp only [p, q, r, u, if_true, if_false] at e <;> omega
  · by_cases p : j < B.length
    · simp only [p, if_true]
      rw [List.getElem?_append_right (by omega), Nat.add_sub_cancel_left]
      rwa [List.getElem?_append_left p] at e
    · simp only [p, if_false]
      rw [List.getElem?_append_right (by omega)] at e
      have hlt := (List.getElem?_eq_some_iff.1 e).1
      rw [if_pos (by omega), List.getElem?_append_left (by omega)]
      exact e

theorem body47 : Try.f47.body = some (bodyOf Try.f47) := rfl

theorem back_iter {I : Nat → Heap → Prop} {pb : Nat} {so : Value} {o : List Nat} {rd : Nat → RoundF} {H : Heap} (hI : ∀ k H, I k H → (∃ own, H[pb]? = some (Blk.row 1 [so] own true)) ∧ Sl H 1 so (o.map encN)) (ho : o.length < 2 ^ 40)
    (hr : ∀ k (hk : k < o.length) H, I (k + 1) H → ∃ H2, I k H2 ∧ Ev fun n => rd n [nat k, nat o[k]] H = some H2) (h0 : I o.length H) (b : Nat) :
    ∃ e s1 H1, (e = .normal ∨ e = .ret) ∧ (Ev fun n => evalCY tab (big tab) b (rd n) n (bodyOf Try.f47) (startC Try.f47 ([] ++ [.chan (some b)] ++ [.pointer (some ⟨pb, 0, none⟩)])) H = some (e, s1, H1)) ∧ I 0 H1 := by
  have goal : RunsY tab b rd (bodyOf Try.f47) (startC Try.f47 ([] ++ [.chan (some b)] ++ [.pointer (some ⟨pb, 0, none⟩)])) H (fun _ H1 => I 0 H1) (fun _ _ _ => False) (fun _ H1 => I 0 H1) := by
    obtain ⟨z, hz⟩ := startC_mkS Try.f47 ([] ++ [.chan (some b)] ++ [.pointer (some ⟨pb, 0, none⟩)])
    rw [hz]
    obtain ⟨⟨own, hb⟩, hs⟩ := hI _ _ h0
    refine RunsY.seq (RunsY.region ?_)
    refine RgY.opp (v := so) rfl rfl rfl rfl (ev_ldb hb rfl rfl rfl rfl rfl) ?_
    refine RgY.opp (v := nat o.length) rfl rfl rfl rfl (ev_lenM hs rfl rfl) ?_
    refine RgY.opp (v := .int .i64 ((o.length : Int) - 1)) rfl rfl rfl rfl (ev_subI (a := o.length) (b := 1) rfl rfl (by omega)) ?_
    refine RgY.opp (v := .int .i64 ((o.length : Int) - 1)) rfl rfl rfl rfl rfl ?_
    refine RgY.nil ?_
    refine RunsY.block ?_
    refine RunsY.loop (fun m s H1 => m ≤ o.length ∧ I m H1 ∧ Is s 19 [(0, .chan (some b)), (1, .pointer (some ⟨pb, 0, none⟩)), (3, .int .i64 ((m : Int) - 1))]) o.length ⟨Nat.le_refl _, h0, Is.of ⟨rfl, rfl, rfl, rfl, rfl, rfl, trivial⟩⟩ ?_
    rintro m s H1 ⟨hm, hi, hs1⟩
    obtain ⟨⟨own, hb⟩, hs⟩ := hI _ _ hi
    cases m with
    | zero =>
      obtain ⟨a1, rfl⟩ := hs1.mk1
      refine RunsY.seq (RunsY.seq (RunsY.region ?_))
      refine RgY.opp (v := .int .i64 (((0 : Nat) : Int) - 1)) rfl rfl rfl rfl rfl ?_
      refine RgY.opp (v := .bool false) rfl rfl rfl rfl (ev_igeF (a := ((0 : Nat) : Int) - 1) (b := 0) rfl rfl (by omega)) ?_
      refine RgY.nil ?_
      refine RunsY.cond false rfl (fun h => by cases h) (fun _ => ?_)
      refine RunsY.exit ?_
      exact hi
    | succ k =>
      have e1 : (((k + 1 : Nat) : Int) - 1) = ((k : Nat) : Int) := by omega
      rw [e1] at hs1
      obtain ⟨a1, rfl⟩ := hs1.mk1
      have hk : k < o.length := by omega
      obtain ⟨H2, hi2, hr2⟩ := hr k hk H1 hi
      refine RunsY.seq (RunsY.seq (RunsY.region ?_))
      refine RgY.opp (v := nat k) rfl rfl rfl rfl rfl ?_
      refine RgY.opp (v := .bool true) rfl rfl rfl rfl (ev_geT (a := k) (b := 0) rfl rfl (Nat.zero_le _)) ?_
      refine RgY.nil ?_
      refine RunsY.cond true rfl (fun _ => ?_) (fun h => by cases h)
      refine RunsY.skip ?_
      refine RunsY.seq (RunsY.block ?_)
      refine RunsY.seq (RunsY.region ?_)
      refine RgY.opp (v := .chan (some b)) rfl rfl rfl rfl rfl ?_
      refine RgY.opp (v := nat k) rfl rfl rfl rfl rfl ?_
      refine RgY.opp (v := so) rfl rfl rfl rfl (ev_ldb hb rfl rfl rfl rfl rfl) ?_
      refine RgY.opp (v := nat k) rfl rfl rfl rfl rfl ?_
      refine RgY.opp (v := ptrAt (sAddr so) (k * 1)) rfl rfl rfl rfl (ev_idxM (k := k) hs rfl rfl hk rfl rfl rfl (by decide)) ?_
      refine RgY.opp (v := nat o[k]) rfl rfl rfl rfl (ev_ldM (k := k) hs rfl hk rfl rfl rfl rfl) ?_
      refine RgY.yield (args := [nat k, nat o[k]]) (H2 := H2) rfl rfl rfl ?_ hr2 ?_
      · exact if_pos rfl
      refine RgY.opp (v := .bool false) rfl rfl rfl rfl rfl ?_
      refine RgY.nil ?_
      refine RunsY.cond false rfl (fun h => by cases h) (fun _ => ?_)
      refine RunsY.skip ?_
      refine RunsY.region ?_
      refine RgY.opp (v := nat k) rfl rfl rfl rfl rfl ?_
      refine RgY.opp (v := .int .i64 ((k : Int) - 1)) rfl rfl rfl rfl (ev_subI (a := k) (b := 1) rfl rfl (by omega)) ?_
      refine RgY.opp (v := .int .i64 ((k : Int) - 1)) rfl rfl rfl rfl rfl ?_
      refine RgY.nil ?_
      exact ⟨k, Nat.lt_succ_self _, by omega, hi2, Is.of ⟨rfl, rfl, rfl, rfl, rfl, rfl, trivial⟩⟩
  exact goal.out

/-! ### Levels -/

/-- A numbering that grows along pairs, and no more than it must. -/
structure Lev (P : Nat → Nat → Prop) (e : Nat → Nat) : Prop where
  ge : ∀ x y, P x y → e x + 1 ≤ e y
  from_ : ∀ y, e y = 0 ∨ ∃ x, P x y ∧ e y = e x + 1

theorem Lev.zero : Lev (fun _ _ => False) (fun _ => 0) := ⟨fun _ _ h => h.elim, fun _ => .inl rfl⟩
theorem Lev.congr {P Q : Nat → Nat → Prop} {e : Nat → Nat} (h : Lev P e) (k : ∀ x y, P x y ↔ Q x y) : Lev Q e := by
  have : P = Q := by funext x y; exact propext (k x y)
  exact this ▸ h

def raise (e : Nat → Nat) (x y : Nat) : Nat → Nat := fun z => if z = y then max (e y) (e x + 1) else e z

theorem Lev.step {P : Nat → Nat → Prop} {e : Nat → Nat} {x y : Nat} (h : Lev P e) (hne : x ≠ y) (hno : ∀ z, ¬ P y z) : Lev (fun a b => P a b ∨ (a = x ∧ b = y)) (raise e x y) := by
  have hx : raise e x y x = e x := by simp [raise, hne]
  have hy : raise e x y y = max (e y) (e x + 1) := by simp [raise]
  have up : ∀ z, e z ≤ raise e x y z := by
    intro z; unfold raise; split
    · rename_i q; subst q; omega
    · exact Nat.le_refl _
  have same : ∀ z, z ≠ y → raise e x y z = e z := fun z hz => by simp [raise, hz]
  have low : ∀ a b, P a b → raise e x y a = e a := fun a b hab => same a fun q => hno b (q ▸ hab)
  refine ⟨?_, ?_⟩
  · rintro a b (hab | ⟨rfl, rfl⟩)
    · rw [low a b hab]; exact Nat.le_trans (h.ge a b hab) (up b)
    · rw [hx, hy]; omega
  · intro b
    by_cases q : b = y
    · subst q
      rw [hy]
      rcases Nat.le_total (e b) (e x + 1) with w | w
      · right; exact ⟨x, .inr ⟨rfl, rfl⟩, by rw [hx]; omega⟩
      · rcases h.from_ b with z | ⟨a, z1, z2⟩
        · omega
        · right; exact ⟨a, .inl z1, by rw [low a b z1]; omega⟩
    · rw [same b q]
      rcases h.from_ b with z | ⟨a, z1, z2⟩
      · exact .inl z
      · right; exact ⟨a, .inl z1, by rw [low a b z1]; exact z2⟩

/-- Arcs onward, arcs back. -/
def Fwd (arcs : List Arc) (S : List Nat) (x y : Nat) : Prop := ∃ a ∈ arcs, a.lo ∈ S ∧ a.lo = x ∧ a.up = y
def Bwd (arcs : List Arc) (S : List Nat) (x y : Nat) : Prop := ∃ a ∈ arcs, a.lo ∈ S ∧ a.up = x ∧ a.lo = y
def FwdIn (arcs : List Arc) (S : List Nat) (ys : List Arc) (j : Nat) (x y : Nat) : Prop := Fwd arcs S x y ∨ ∃ k, ∃ h : k < ys.length, k < j ∧ ys[k].lo = x ∧ ys[k].up = y
def BwdIn (arcs : List Arc) (S : List Nat) (ys : List Arc) (j : Nat) (x y : Nat) : Prop := Bwd arcs S x y ∨ ∃ k, ∃ h : k < ys.length, k < j ∧ ys[k].up = x ∧ ys[k].lo = y

theorem FwdIn.succ {arcs : List Arc} {S : List Nat} {ys : List Arc} {j : Nat} (h : j < ys.length) (x y : Nat) : (FwdIn arcs S ys j x y ∨ (x = ys[j].lo ∧ y = ys[j].up)) ↔ FwdIn arcs S ys (j + 1) x y := by
  constructor
  · rintro ((q | ⟨k, h1, h2, h3⟩) | ⟨rfl, rfl⟩)
    · exact .inl q
    · exact .inr ⟨k, h1, by omega, h3⟩
    · exact .inr ⟨j, h, by omega, rfl, rfl⟩
  · rintro (q | ⟨k, h1, h2, h3⟩)
    · exact .inl (.inl q)
    · rcases Nat.lt_or_ge k j with q | q
      · exact .inl (.inr ⟨k, h1, q, h3⟩)
      · have : k = j := by omega
        subst this; exact .inr ⟨h3.1.symm, h3.2.symm⟩
theorem BwdIn.succ {arcs : List Arc} {S : List Nat} {ys : List Arc} {j : Nat} (h : j < ys.length) (x y : Nat) : (BwdIn arcs S ys j x y ∨ (x = ys[j].up ∧ y = ys[j].lo)) ↔ BwdIn arcs S ys (j + 1) x y := by
  constructor
  · rintro ((q | ⟨k, h1, h2, h3⟩) | ⟨rfl, rfl⟩)
    · exact .inl q
    · exact .inr ⟨k, h1, by omega, h3⟩
    · exact .inr ⟨j, h, by omega, rfl, rfl⟩
  · rintro (q | ⟨k, h1, h2, h3⟩)
    · exact .inl (.inl q)
    · rcases Nat.lt_or_ge k j with q | q
      · exact .inl (.inr ⟨k, h1, q, h3⟩)
      · have : k = j := by omega
        subst this; exact .inr ⟨h3.1.symm, h3.2.symm⟩
theorem FwdIn.done {arcs : List Arc} {S : List Nat} {i : Nat} (x y : Nat) : FwdIn arcs S (nextOf arcs i) (nextOf arcs i).length x y ↔ Fwd arcs (S ++ [i]) x y := by
  constructor
  · rintro (⟨a, h1, h2, h3⟩ | ⟨k, h1, h2, h3, h4⟩)
    · exact ⟨a, h1, List.mem_append_left _ h2, h3⟩
    · have := next_mem.1 (List.getElem_mem h1)
      exact ⟨_, this.1, by rw [this.2]; simp, h3, h4⟩
  · rintro ⟨a, h1, h2, h3, h4⟩
    rcases List.mem_append.1 h2 with q | q
    · exact .inl ⟨a, h1, q, h3, h4⟩
    · obtain ⟨k, hk, e⟩ := List.mem_iff_getElem.1 (next_mem.2 ⟨h1, by simpa using q⟩)
      exact .inr ⟨k, hk, hk, by rw [e]; exact h3, by rw [e]; exact h4⟩
theorem BwdIn.done {arcs : List Arc} {S : List Nat} {i : Nat} (x y : Nat) : BwdIn arcs S (nextOf arcs i) (nextOf arcs i).length x y ↔ Bwd arcs (i :: S) x y := by
  constructor
  · rintro (⟨a, h1, h2, h3⟩ | ⟨k, h1, h2, h3, h4⟩)
    · exact ⟨a, h1, List.mem_cons_of_mem _ h2, h3⟩
    · have := next_mem.1 (List.getElem_mem h1)
      exact ⟨_, this.1, by rw [this.2]; simp, h3, h4⟩
  · rintro ⟨a, h1, h2, h3, h4⟩
    rcases List.mem_cons.1 h2 with q | q
    · obtain ⟨k, hk, e⟩ := List.mem_iff_getElem.1 (next_mem.2 ⟨h1, q⟩)
      exact .inr ⟨k, hk, hk, by rw [e]; exact h3, by rw [e]; exact h4⟩
    · exact .inl ⟨a, h1, q, h3, h4⟩
theorem In_zero {arcs : List Arc} {S : List Nat} {ys : List Arc} (x y : Nat) : (Fwd arcs S x y ↔ FwdIn arcs S ys 0 x y) ∧ (Bwd arcs S x y ↔ BwdIn arcs S ys 0 x y) :=
  ⟨⟨.inl, fun h => h.resolve_right fun ⟨k, _, h, _⟩ => by omega⟩, ⟨.inl, fun h => h.resolve_right fun ⟨k, _, h, _⟩ => by omega⟩⟩

/-- An order in which each unit comes behind those that arcs lead from. -/
structure Topo (arcs : List Arc) (n : Nat) (o : List Nat) : Prop where
  nd : o.Nodup
  lt : ∀ x ∈ o, x < n
  all : ∀ x, x < n → x ∈ o
  len : o.length = n
  topo : ∀ k (h : k < o.length), ∀ a ∈ arcs, a.up = o[k] → a.lo ∈ o.take k

theorem kahn_topo {arcs : List Arc} {n : Nat} {o : List Nat} (h : Kahn arcs n o []) (hl : o.length = n) : Topo arcs n o := by
  have hnd : o.Nodup := by simpa using h.nd
  refine ⟨hnd, fun x hx => h.lt x (by simpa using hx), fun y hy => ?_, hl, h.topo⟩
  refine Classical.byContradiction fun hno => ?_
  have := nodup_le n (y :: o) (List.nodup_cons.2 ⟨hno, hnd⟩) fun z hz => by
    rcases List.mem_cons.1 hz with e | e
    · rw [e]; exact hy
    · exact h.lt z (by simpa using e)
  simp only [List.length_cons] at this; omega

/-- Arcs from a unit lead behind it. -/
theorem Topo.after {arcs : List Arc} {n : Nat} {o : List Nat} (h : Topo arcs n o) {k : Nat} (hk : k < o.length) {a : Arc} (ha : a ∈ arcs) (hlo : a.lo = o[k]) : a.up ∉ o.take (k + 1) := by
  intro hm
  obtain ⟨i, hi, e⟩ := List.mem_iff_getElem.1 hm
  rw [List.length_take] at hi
  rw [List.getElem_take] at e
  have h1 := h.topo i (by omega) a ha e.symm
  obtain ⟨j, hj, e2⟩ := List.mem_iff_getElem.1 h1
  rw [List.length_take] at hj
  rw [List.getElem_take, hlo] at e2
  have := (List.getElem_inj h.nd).1 e2
  omega

theorem Topo.fwd_no {arcs : List Arc} {n : Nat} {o : List Nat} (h : Topo arcs n o) {k : Nat} (hk : k < o.length) {j : Nat} (hj : j < (nextOf arcs o[k]).length) : (nextOf arcs o[k])[j].lo ≠ (nextOf arcs o[k])[j].up ∧ ∀ z, ¬ FwdIn arcs (o.take k) (nextOf arcs o[k]) j (nextOf arcs o[k])[j].up z := by
  have hm := next_mem.1 (List.getElem_mem hj)
  have ha := h.after hk hm.1 hm.2
  rw [List.take_succ_eq_append_getElem hk] at ha
  refine ⟨fun e => ha (by rw [← e, hm.2]; exact List.mem_append_right _ (List.mem_singleton.2 rfl)), ?_⟩
  rintro z (⟨b, h1, h2, h3, h4⟩ | ⟨i, h1, h2, h3, h4⟩)
  · exact ha (by rw [← h3]; exact List.mem_append_left _ h2)
  · have := (next_mem.1 (List.getElem_mem h1)).2
    exact ha (by rw [← h3, this]; exact List.mem_append_right _ (List.mem_singleton.2 rfl))
theorem Topo.bwd_no {arcs : List Arc} {n : Nat} {o : List Nat} (h : Topo arcs n o) {k : Nat} (hk : k < o.length) {j : Nat} (hj : j < (nextOf arcs o[k]).length) : (nextOf arcs o[k])[j].up ≠ (nextOf arcs o[k])[j].lo ∧ ∀ z, ¬ BwdIn arcs (o.drop (k + 1)) (nextOf arcs o[k]) j (nextOf arcs o[k])[j].lo z := by
  have hm := next_mem.1 (List.getElem_mem hj)
  refine ⟨fun e => (h.fwd_no hk hj).1 e.symm, ?_⟩
  rw [hm.2]
  rintro z (⟨b, h1, h2, h3, h4⟩ | ⟨i, h1, h2, h3, h4⟩)
  · have h5 := h.topo k hk b h1 h3
    have h6 : b.lo ∈ o.take (k + 1) := by rw [List.take_succ_eq_append_getElem hk]; exact List.mem_append_left _ h5
    have hd := h.nd
    rw [← List.take_append_drop (k + 1) o] at hd
    exact (List.nodup_append.1 hd).2.2 _ h6 _ h2 rfl
  · have h5 := next_mem.1 (List.getElem_mem h1)
    exact (h.fwd_no hk h1).1 (by rw [h5.2, h3])

theorem row_setA {α : Type} {n b : Nat} {v : α} {f : Nat → α} (hb : b < n) : ((List.range n).map f).set b v = (List.range n).map fun b' => if b' = b then v else f b' := by
  refine List.ext_getElem (by simp) fun i h1 h2 => ?_
  rw [List.getElem_set]
  by_cases e : b = i
  · subst e; simp
  · rw [if_neg e]; simp [show ¬ i = b from fun h => e h.symm]

/-- What Ranks finds. -/
structure RankOk (arcs : List Arc) (n : Nat) (e d : Nat → Nat) (mo : Nat) : Prop where
  fwd : Lev (fun x y => ∃ a ∈ arcs, a.lo = x ∧ a.up = y) e
  bwd : Lev (fun x y => ∃ a ∈ arcs, a.up = x ∧ a.lo = y) d
  le : ∀ x, x < n → e x ≤ mo
  most : mo = 0 ∨ ∃ x, x < n ∧ e x = mo

end Go.Proofs.Ytdhbclplondmjaa.C

end

section
/- The program's distances, run. -/
set_option linter.unusedVariables false
set_option linter.unusedSimpArgs false
set_option maxRecDepth 100000
set_option maxHeartbeats 4000000
namespace Go.Proofs.Ytdhbclplondmjaa.C
open Go.RowKit Go.Sort

theorem distances_runs {H : Heap} {gp to : Nat} {above : Int} {names : List Nm} {arcs : List Arc} (hG : GraphAt H gp names arcs) (wf : WF names.length arcs) (hto : to < names.length) (hn : names.length ≤ 12) (ha : arcs.length ≤ 2 ^ 20) :
    ∃ r H1, big tab 48 [.pointer (some ⟨gp, 0, none⟩), nat to, .int .i64 above] H = some (r, H1) ∧ Mem H H1 [.sl 1 r (List.map encI ((List.range names.length).map (distF (abv arcs above) to)))] := by
  obtain ⟨an, aa, ax, M, nx, own, hG⟩ := hG
  have hnl := hG.len
  have hM := Mem.start H
  refine big_of_runs rfl rfl rfl ?_
  obtain ⟨z, hz⟩ := startC_mkS Try.f48 [.pointer (some ⟨gp, 0, none⟩), nat to, .int .i64 above]
  rw [show startC (48, Try.f48).snd [.pointer (some ⟨gp, 0, none⟩), nat to, .int .i64 above] = _ from hz]
  clear hz
  refine Runs.cut (n := 77) (l := [(0, .pointer (some ⟨gp, 0, none⟩)), (1, nat to), (2, .int .i64 above)]) (Is.of ⟨rfl, rfl, rfl, rfl, rfl, rfl, trivial⟩) (fun a0 => ?_)
  refine Runs.seq ?_
  refine Runs.region ?_
  refine Rg.opp (v := .slice none 0 0) rfl rfl rfl rfl rfl ?_
  refine Rg.nil ?_
  refine Runs.seq ?_
  refine Runs.region ?_
  refine Rg.lit (f := encI) (sz := 1) (xs := [(-1 : Int)]) hM rfl rfl rfl rfl rfl (by simp) (by simp) (fun u1 Hc (hM : Mem H Hc ([.sl 1 u1 (List.map encI ([(-1 : Int)]))])) _ => ?_)
  refine Rg.opp (v := .pointer (some ⟨gp, 0, none⟩)) rfl rfl rfl rfl rfl ?_
  refine Rg.opp (v := .pointer (some ⟨gp, 0, none⟩)) rfl rfl rfl rfl rfl ?_
  refine Rg.opp (v := .pointer (some ⟨gp, 0, none⟩)) rfl rfl rfl (ev_fld (o := 0) (p := (37, 0)) rfl rfl rfl rfl rfl (by decide)) rfl ?_
  refine Rg.opp (v := an) rfl rfl rfl (ev_ldb (hM.ext.get hG.box) rfl rfl rfl rfl rfl) rfl ?_
  refine Rg.opp (v := nat names.length) rfl rfl rfl (ev_lenM (hG.hnames.sees hM.ext.sees) rfl rfl) rfl ?_
  refine Rg.callW rfl rfl rfl rfl (rfl) rfl (repeat_runs (n := names.length) (hM.get_sl (j := 0) rfl) hn) (fun u7 Hc hP => ?_)
  replace hM := hM.under hP
  refine Rg.opp (v := u7) rfl rfl rfl rfl rfl ?_
  refine Rg.nil ?_
  refine Runs.seq ?_
  refine Runs.region ?_
  refine Rg.opp (v := u7) rfl rfl rfl rfl rfl ?_
  refine Rg.opp (v := nat to) rfl rfl rfl rfl rfl ?_
  refine Rg.opp (v := ptrAt (sAddr u7) (to * 1)) rfl rfl rfl (ev_idxM (k := to) (hM.get_sl (j := 0) rfl) rfl rfl (by simpa using hto) rfl rfl rfl (by decide)) rfl ?_
  refine Rg.stoM (f := encI) (j := 0) (k := to) ((0 : Int)) hM rfl rfl rfl rfl rfl rfl rfl (by simpa using hto) rfl rfl rfl rfl rfl (fun Hc (hM : Mem H Hc ([.sl 1 u7 (List.map encI ((List.replicate names.length (-1)).set to ((0 : Int)))), .sl 1 u1 (List.map encI ([(-1 : Int)]))])) => ?_)
  refine Rg.nil ?_
  replace hM : Mem H _ ([.sl 1 u7 (List.map encI ((List.replicate names.length (-1)).set to ((0 : Int))))]) := hM.erase 1
  replace hM : Mem H Hc ([.sl 1 u7 (List.map encI ((List.range names.length).map (setF (fun _ => -1) to 0)))]) := by
    have h := hM
    have e : (List.replicate names.length (-1 : Int)).set to 0 = (List.range names.length).map (setF (fun _ => -1) to 0) := by
      have e1 : List.replicate names.length (-1 : Int) = (List.range names.length).map (fun _ => -1) := by rw [List.map_const', List.length_range]
      rw [e1, row_setA hto]; rfl
    rw [e] at h; exact h
  refine Runs.seq ?_
  refine Runs.seq ?_
  refine Runs.region ?_
  refine Rg.opp (v := .bool true) rfl rfl rfl rfl rfl ?_
  refine Rg.nil ?_
  refine Runs.block ?_
  refine Runs.loop (fun m s Hc => ∃ (g0 : Nat → Int) (ch0 : Bool), m = 2 * wsum g0 names.length names.length + (if ch0 = true then 1 else 0) ∧ Mem H Hc ([.sl 1 u7 (List.map encI ((List.range names.length).map g0))]) ∧ (Dist arcs names.length to above g0) ∧ (ch0 = false → ∀ k (hk : k < arcs.length), Calm above g0 arcs[k]) ∧ Is s 77 [(0, .pointer (some ⟨gp, 0, none⟩)), (2, .int .i64 above), (7, u7), (8, .bool (ch0))]) _
    ⟨setF (fun _ => -1) to 0, true, rfl, hM, Dist.start hto, (fun h => by cases h), Is.of ⟨rfl, rfl, rfl, rfl, rfl, rfl, rfl, rfl, trivial⟩⟩ ?_
  rintro m s Hc ⟨g0, ch0, rfl, hM, hD0, hst, hs⟩
  obtain ⟨a2, rfl⟩ := hs.mk1
  clear hs
  refine Runs.seq ?_
  refine Runs.seq ?_
  refine Runs.region ?_
  refine Rg.opp (v := .bool (ch0)) rfl rfl rfl rfl rfl ?_
  refine Rg.nil ?_
  refine Runs.cond (ch0) rfl (fun h3 => ?_) (fun h3 => ?_)
  · skip
    refine Runs.skip ?_
    refine Runs.block ?_
    refine Runs.seq ?_
    refine Runs.region ?_
    refine Rg.opp (v := .bool false) rfl rfl rfl rfl rfl ?_
    refine Rg.nil ?_
    refine Runs.seq ?_
    refine Runs.region ?_
    refine Rg.opp (v := .pointer (some ⟨gp, 0, none⟩)) rfl rfl rfl rfl rfl ?_
    refine Rg.opp (v := .pointer (some ⟨gp, 0, none⟩)) rfl rfl rfl rfl rfl ?_
    refine Rg.opp (v := .pointer (some ⟨gp, 2, none⟩)) rfl rfl rfl (ev_fld (o := 0) (p := (73, 2)) rfl rfl rfl rfl rfl (by decide)) rfl ?_
    refine Rg.opp (v := aa) rfl rfl rfl (ev_ldb (hM.ext.get hG.box) rfl rfl rfl rfl rfl) rfl ?_
    refine Rg.opp (v := nat arcs.length) rfl rfl rfl (ev_lenM (hG.harcs.sees hM.ext.sees) rfl rfl) rfl ?_
    refine Rg.opp (v := nat 0) rfl rfl rfl rfl rfl ?_
    refine Rg.nil ?_
    refine Runs.block ?_
    refine Runs.loop (fun m s Hc => ∃ (j : Nat) (g : Nat → Int) (ch : Bool), m = arcs.length - j ∧ Mem H Hc ([.sl 1 u7 (List.map encI ((List.range names.length).map g))]) ∧ (j ≤ arcs.length) ∧ (Dist arcs names.length to above g) ∧ (wsum g names.length names.length ≤ wsum g0 names.length names.length) ∧ (ch = true → wsum g names.length names.length < wsum g0 names.length names.length) ∧ (ch = false → g = g0 ∧ ∀ k (hk : k < arcs.length), k < j → Calm above g arcs[k]) ∧ Is s 77 [(0, .pointer (some ⟨gp, 0, none⟩)), (2, .int .i64 above), (7, u7), (8, .bool (ch)), (25, aa), (26, nat arcs.length), (27, nat j)]) _
      ⟨0, g0, false, rfl, hM, Nat.zero_le _, hD0, Nat.le_refl _, (fun h => by cases h), fun _ => ⟨rfl, fun k hk h => by omega⟩, Is.of ⟨rfl, rfl, rfl, rfl, rfl, rfl, rfl, rfl, rfl, rfl, rfl, rfl, rfl, rfl, trivial⟩⟩ ?_
    rintro m s Hc ⟨j, g, ch, rfl, hM, hj, hD, hw, hch, hcal, hs⟩
    obtain ⟨a4, rfl⟩ := hs.mk1
    clear hs
    refine Runs.seq ?_
    refine Runs.region ?_
    by_cases hlt : j < arcs.length
    · skip
      have hlo := wf.lo _ (List.getElem_mem hlt)
      have hup := wf.up _ (List.getElem_mem hlt)
      have hg1 := hD.lt _ hup
      have hg2 := hD.lt _ hlo
      have hg3 := hD.ge arcs[j].up
      have hg4 := hD.ge arcs[j].lo
      have hkn := knownN_le g names.length
      refine Rg.opp (v := .bool true) rfl rfl rfl (ev_ltT rfl rfl (hlt)) rfl ?_
      refine Rg.nil ?_
      refine Runs.seq ?_
      refine Runs.cond true rfl (fun _ => ?_) (fun h => by cases h)
      refine Runs.skip ?_
      refine Runs.seq ?_
      refine Runs.block ?_
      refine Runs.seq ?_
      refine Runs.region ?_
      refine Rg.opp (v := ptrAt (sAddr aa) (j * 3)) rfl rfl rfl (ev_idxM (k := j) (hG.harcs.sees hM.ext.sees) rfl rfl (hlt) rfl rfl rfl (by decide)) rfl ?_
      refine Rg.opp (v := .agg (arcC (arcs[j])).toArray) rfl rfl rfl (ev_ldAM (k := j) (hG.harcs.sees hM.ext.sees) rfl (hlt) rfl rfl rfl) rfl ?_
      refine Rg.new (v := fun p => .pointer (some ⟨p, 0, none⟩)) (X := .row 3 [.int .i64 0, .int .i64 0, .int .i64 0] true true) (th := fun p => .box p 3 [.int .i64 0, .int .i64 0, .int .i64 0]) hM rfl rfl rfl rfl rfl rfl (fun _ => rfl) (fun p5 Hc hM _ => ?_)
      refine Rg.stob (j := 0) (cs' := arcC (arcs[j])) hM rfl rfl rfl rfl rfl rfl rfl rfl rfl rfl (Nat.le_of_ble_eq_true rfl) rfl (fun Hc (hM : Mem H Hc ([.box p5 3 (arcC (arcs[j])), .sl 1 u7 (List.map encI ((List.range names.length).map g))])) => ?_)
      refine Rg.nil ?_
      refine Runs.seq ?_
      refine Runs.drawn (is := [0, 1, 2, 3, 4, 5, 6, 7, 8, 9, 10, 11, 12, 13, 14, 15, 16, 17, 18, 19, 20, 21, 22, 23, 24, 25, 26, 27, 28, 29, 30, 31, 32, 33]) (by decide +kernel) ?_
      refine Rg.opp (v := .pointer (some ⟨p5, 0, none⟩)) rfl rfl rfl (ev_fld (o := 0) (p := (3, 0)) rfl rfl rfl rfl rfl (by decide)) rfl ?_
      refine Rg.opp (v := nat (arcs[j].i)) rfl rfl rfl (ev_ldb (hM.get_box (j := 0) rfl) rfl rfl rfl rfl rfl) rfl ?_
      refine Rg.opp (v := .int .i64 above) rfl rfl rfl rfl rfl ?_
      by_cases h6 : above < ((arcs[j].i : Nat) : Int)
      · skip
        refine Rg.opp (v := .bool true) rfl rfl rfl (ev_igtT rfl rfl (h6)) rfl ?_
        refine Rg.opp (v := .bool true) rfl rfl rfl rfl rfl ?_
        refine Rg.guards true rfl rfl rfl (fun _ => ⟨u7, _, evW_op (rfl), rfl, ?_⟩) (fun h => by cases h)
        refine Rg.guards true rfl rfl rfl (fun _ => ⟨.pointer (some ⟨p5, 2, none⟩), _, evW_op (ev_fld (o := 0) (p := (3, 2)) rfl rfl rfl rfl rfl (by decide)), rfl, ?_⟩) (fun h => by cases h)
        refine Rg.guards true rfl rfl rfl (fun _ => ⟨nat (arcs[j].up), _, evW_op (ev_ldb (hM.get_box (j := 0) rfl) rfl rfl rfl rfl rfl), rfl, ?_⟩) (fun h => by cases h)
        refine Rg.guards true rfl rfl rfl (fun _ => ⟨ptrAt (sAddr u7) ((arcs[j].up) * 1), _, evW_op (ev_idxM (k := arcs[j].up) (hM.get_sl (j := 1) rfl) rfl rfl (by simpa using hup) rfl rfl rfl (by decide)), rfl, ?_⟩) (fun h => by cases h)
        refine Rg.guards true rfl rfl rfl (fun _ => ⟨.int .i64 (g arcs[j].up), _, evW_op (ev_ldM (k := (arcs[j].up)) (hM.get_sl (j := 1) rfl) rfl (by simpa using hup) (by simp) rfl rfl rfl), rfl, ?_⟩) (fun h => by cases h)
        by_cases h7 : (0 : Int) ≤ g arcs[j].up
        · skip
          refine Rg.guards true rfl rfl rfl (fun _ => ⟨.bool true, _, evW_op (ev_igeT rfl rfl (h7)), rfl, ?_⟩) (fun h => by cases h)
          refine Rg.opp (v := .bool true) rfl rfl rfl rfl rfl ?_
          refine Rg.opp (v := .bool true) rfl rfl rfl rfl rfl ?_
          refine Rg.guards true rfl rfl rfl (fun _ => ⟨u7, _, evW_op (rfl), rfl, ?_⟩) (fun h => by cases h)
          refine Rg.guards true rfl rfl rfl (fun _ => ⟨.pointer (some ⟨p5, 1, none⟩), _, evW_op (ev_fld (o := 0) (p := (3, 1)) rfl rfl rfl rfl rfl (by decide)), rfl, ?_⟩) (fun h => by cases h)
          refine Rg.guards true rfl rfl rfl (fun _ => ⟨nat (arcs[j].lo), _, evW_op (ev_ldb (hM.get_box (j := 0) rfl) rfl rfl rfl rfl rfl), rfl, ?_⟩) (fun h => by cases h)
          refine Rg.guards true rfl rfl rfl (fun _ => ⟨ptrAt (sAddr u7) ((arcs[j].lo) * 1), _, evW_op (ev_idxM (k := arcs[j].lo) (hM.get_sl (j := 1) rfl) rfl rfl (by simpa using hlo) rfl rfl rfl (by decide)), rfl, ?_⟩) (fun h => by cases h)
          refine Rg.guards true rfl rfl rfl (fun _ => ⟨.int .i64 (g arcs[j].lo), _, evW_op (ev_ldM (k := (arcs[j].lo)) (hM.get_sl (j := 1) rfl) rfl (by simpa using hlo) (by simp) rfl rfl rfl), rfl, ?_⟩) (fun h => by cases h)
          by_cases h8 : g arcs[j].lo < (0 : Int)
          · skip
            refine Rg.guards true rfl rfl rfl (fun _ => ⟨.bool true, _, evW_op (ev_iltT rfl rfl (h8)), rfl, ?_⟩) (fun h => by cases h)
            refine Rg.guards true rfl rfl rfl (fun _ => ⟨.bool true, _, evW_op (rfl), rfl, ?_⟩) (fun h => by cases h)
            refine Rg.guards false rfl rfl rfl (fun h => by cases h) (fun _ => ?_)
            refine Rg.guards false rfl rfl rfl (fun h => by cases h) (fun _ => ?_)
            refine Rg.guards false rfl rfl rfl (fun h => by cases h) (fun _ => ?_)
            refine Rg.guards false rfl rfl rfl (fun h => by cases h) (fun _ => ?_)
            refine Rg.guards false rfl rfl rfl (fun h => by cases h) (fun _ => ?_)
            refine Rg.guards false rfl rfl rfl (fun h => by cases h) (fun _ => ?_)
            refine Rg.guards false rfl rfl rfl (fun h => by cases h) (fun _ => ?_)
            refine Rg.guards false rfl rfl rfl (fun h => by cases h) (fun _ => ?_)
            refine Rg.guards false rfl rfl rfl (fun h => by cases h) (fun _ => ?_)
            refine Rg.guards false rfl rfl rfl (fun h => by cases h) (fun _ => ?_)
            refine Rg.guards false rfl rfl rfl (fun h => by cases h) (fun _ => ?_)
            refine Rg.guards false rfl rfl rfl (fun h => by cases h) (fun _ => ?_)
            refine Rg.guards true rfl rfl rfl (fun _ => ⟨.bool true, _, evW_op (rfl), rfl, ?_⟩) (fun h => by cases h)
            refine Rg.opp (v := .bool true) rfl rfl rfl rfl rfl ?_
            refine Rg.nil ?_
            refine Runs.cond true rfl (fun _ => ?_) (fun h => by cases h)
            refine Runs.drawn (is := [0, 1, 2, 3, 4, 5, 6, 7, 8, 9, 10, 11]) (by decide +kernel) ?_
            refine Rg.opp (v := u7) rfl rfl rfl rfl rfl ?_
            refine Rg.opp (v := .pointer (some ⟨p5, 1, none⟩)) rfl rfl rfl (ev_fld (o := 0) (p := (3, 1)) rfl rfl rfl rfl rfl (by decide)) rfl ?_
            refine Rg.opp (v := nat (arcs[j].lo)) rfl rfl rfl (ev_ldb (hM.get_box (j := 0) rfl) rfl rfl rfl rfl rfl) rfl ?_
            refine Rg.opp (v := u7) rfl rfl rfl rfl rfl ?_
            refine Rg.opp (v := .pointer (some ⟨p5, 2, none⟩)) rfl rfl rfl (ev_fld (o := 0) (p := (3, 2)) rfl rfl rfl rfl rfl (by decide)) rfl ?_
            refine Rg.opp (v := nat (arcs[j].up)) rfl rfl rfl (ev_ldb (hM.get_box (j := 0) rfl) rfl rfl rfl rfl rfl) rfl ?_
            refine Rg.opp (v := ptrAt (sAddr u7) ((arcs[j].up) * 1)) rfl rfl rfl (ev_idxM (k := arcs[j].up) (hM.get_sl (j := 1) rfl) rfl rfl (by simpa using hup) rfl rfl rfl (by decide)) rfl ?_
            refine Rg.opp (v := .int .i64 (g arcs[j].up)) rfl rfl rfl (ev_ldM (k := (arcs[j].up)) (hM.get_sl (j := 1) rfl) rfl (by simpa using hup) (by simp) rfl rfl rfl) rfl ?_
            refine Rg.opp (v := .int .i64 (g arcs[j].up + 1)) rfl rfl rfl (ev_addI (a := g arcs[j].up) (b := 1) rfl rfl (by omega)) rfl ?_
            refine Rg.opp (v := ptrAt (sAddr u7) ((arcs[j].lo) * 1)) rfl rfl rfl (ev_idxM (k := arcs[j].lo) (hM.get_sl (j := 1) rfl) rfl rfl (by simpa using hlo) rfl rfl rfl (by decide)) rfl ?_
            refine Rg.stoM (f := encI) (j := 1) (k := (arcs[j].lo)) (g arcs[j].up + 1) hM rfl rfl rfl rfl rfl rfl rfl (by simpa using hlo) rfl rfl rfl rfl rfl (fun Hc (hM : Mem H Hc ([.box p5 3 (arcC (arcs[j])), .sl 1 u7 (List.map encI (((List.range names.length).map g).set ((arcs[j].lo)) (g arcs[j].up + 1)))])) => ?_)
            refine Rg.opp (v := .bool true) rfl rfl rfl rfl rfl ?_
            refine Rg.nil ?_
            refine Runs.region ?_
            refine Rg.opp (v := nat (j + 1)) rfl rfl rfl (ev_addN (b := 1) rfl rfl (by omega)) rfl ?_
            refine Rg.opp (v := nat (j + 1)) rfl rfl rfl rfl rfl ?_
            refine Rg.nil ?_
            refine ⟨arcs.length - (j + 1), by omega, j + 1, setF g arcs[j].lo (g arcs[j].up + 1), true, rfl, by
              have h := hM.tail
              rw [row_setA hlo] at h
              exact h, hlt, (hD.relax wf (List.getElem_mem hlt) h6 h7 (.inl h8)).1, by have := (hD.relax wf (List.getElem_mem hlt) h6 h7 (.inl h8)).2; omega, fun _ => by have := (hD.relax wf (List.getElem_mem hlt) h6 h7 (.inl h8)).2; omega, (fun h => by cases h), Is.of ⟨rfl, rfl, rfl, rfl, rfl, rfl, rfl, rfl, rfl, rfl, rfl, rfl, rfl, rfl, trivial⟩⟩
          · skip
            refine Rg.guards true rfl rfl rfl (fun _ => ⟨.bool false, _, evW_op (ev_iltF rfl rfl (h8)), rfl, ?_⟩) (fun h => by cases h)
            refine Rg.guards true rfl rfl rfl (fun _ => ⟨.bool false, _, evW_op (rfl), rfl, ?_⟩) (fun h => by cases h)
            refine Rg.guards true rfl rfl rfl (fun _ => ⟨u7, _, evW_op (rfl), rfl, ?_⟩) (fun h => by cases h)
            refine Rg.guards true rfl rfl rfl (fun _ => ⟨.pointer (some ⟨p5, 1, none⟩), _, evW_op (ev_fld (o := 0) (p := (3, 1)) rfl rfl rfl rfl rfl (by decide)), rfl, ?_⟩) (fun h => by cases h)
            refine Rg.guards true rfl rfl rfl (fun _ => ⟨nat (arcs[j].lo), _, evW_op (ev_ldb (hM.get_box (j := 0) rfl) rfl rfl rfl rfl rfl), rfl, ?_⟩) (fun h => by cases h)
            refine Rg.guards true rfl rfl rfl (fun _ => ⟨ptrAt (sAddr u7) ((arcs[j].lo) * 1), _, evW_op (ev_idxM (k := arcs[j].lo) (hM.get_sl (j := 1) rfl) rfl rfl (by simpa using hlo) rfl rfl rfl (by decide)), rfl, ?_⟩) (fun h => by cases h)
            refine Rg.guards true rfl rfl rfl (fun _ => ⟨.int .i64 (g arcs[j].lo), _, evW_op (ev_ldM (k := (arcs[j].lo)) (hM.get_sl (j := 1) rfl) rfl (by simpa using hlo) (by simp) rfl rfl rfl), rfl, ?_⟩) (fun h => by cases h)
            refine Rg.guards true rfl rfl rfl (fun _ => ⟨u7, _, evW_op (rfl), rfl, ?_⟩) (fun h => by cases h)
            refine Rg.guards true rfl rfl rfl (fun _ => ⟨.pointer (some ⟨p5, 2, none⟩), _, evW_op (ev_fld (o := 0) (p := (3, 2)) rfl rfl rfl rfl rfl (by decide)), rfl, ?_⟩) (fun h => by cases h)
            refine Rg.guards true rfl rfl rfl (fun _ => ⟨nat (arcs[j].up), _, evW_op (ev_ldb (hM.get_box (j := 0) rfl) rfl rfl rfl rfl rfl), rfl, ?_⟩) (fun h => by cases h)
            refine Rg.guards true rfl rfl rfl (fun _ => ⟨ptrAt (sAddr u7) ((arcs[j].up) * 1), _, evW_op (ev_idxM (k := arcs[j].up) (hM.get_sl (j := 1) rfl) rfl rfl (by simpa using hup) rfl rfl rfl (by decide)), rfl, ?_⟩) (fun h => by cases h)
            refine Rg.guards true rfl rfl rfl (fun _ => ⟨.int .i64 (g arcs[j].up), _, evW_op (ev_ldM (k := (arcs[j].up)) (hM.get_sl (j := 1) rfl) rfl (by simpa using hup) (by simp) rfl rfl rfl), rfl, ?_⟩) (fun h => by cases h)
            refine Rg.guards true rfl rfl rfl (fun _ => ⟨.int .i64 (g arcs[j].up + 1), _, evW_op (ev_addI (a := g arcs[j].up) (b := 1) rfl rfl (by omega)), rfl, ?_⟩) (fun h => by cases h)
            by_cases h9 : g arcs[j].up + 1 < g arcs[j].lo
            · skip
              refine Rg.guards true rfl rfl rfl (fun _ => ⟨.bool true, _, evW_op (ev_igtT rfl rfl (h9)), rfl, ?_⟩) (fun h => by cases h)
              refine Rg.guards true rfl rfl rfl (fun _ => ⟨.bool true, _, evW_op (rfl), rfl, ?_⟩) (fun h => by cases h)
              refine Rg.opp (v := .bool true) rfl rfl rfl rfl rfl ?_
              refine Rg.nil ?_
              refine Runs.cond true rfl (fun _ => ?_) (fun h => by cases h)
              refine Runs.drawn (is := [0, 1, 2, 3, 4, 5, 6, 7, 8, 9, 10, 11]) (by decide +kernel) ?_
              refine Rg.opp (v := u7) rfl rfl rfl rfl rfl ?_
              refine Rg.opp (v := .pointer (some ⟨p5, 1, none⟩)) rfl rfl rfl (ev_fld (o := 0) (p := (3, 1)) rfl rfl rfl rfl rfl (by decide)) rfl ?_
              refine Rg.opp (v := nat (arcs[j].lo)) rfl rfl rfl (ev_ldb (hM.get_box (j := 0) rfl) rfl rfl rfl rfl rfl) rfl ?_
              refine Rg.opp (v := u7) rfl rfl rfl rfl rfl ?_
              refine Rg.opp (v := .pointer (some ⟨p5, 2, none⟩)) rfl rfl rfl (ev_fld (o := 0) (p := (3, 2)) rfl rfl rfl rfl rfl (by decide)) rfl ?_
              refine Rg.opp (v := nat (arcs[j].up)) rfl rfl rfl (ev_ldb (hM.get_box (j := 0) rfl) rfl rfl rfl rfl rfl) rfl ?_
              refine Rg.opp (v := ptrAt (sAddr u7) ((arcs[j].up) * 1)) rfl rfl rfl (ev_idxM (k := arcs[j].up) (hM.get_sl (j := 1) rfl) rfl rfl (by simpa using hup) rfl rfl rfl (by decide)) rfl ?_
              refine Rg.opp (v := .int .i64 (g arcs[j].up)) rfl rfl rfl (ev_ldM (k := (arcs[j].up)) (hM.get_sl (j := 1) rfl) rfl (by simpa using hup) (by simp) rfl rfl rfl) rfl ?_
              refine Rg.opp (v := .int .i64 (g arcs[j].up + 1)) rfl rfl rfl (ev_addI (a := g arcs[j].up) (b := 1) rfl rfl (by omega)) rfl ?_
              refine Rg.opp (v := ptrAt (sAddr u7) ((arcs[j].lo) * 1)) rfl rfl rfl (ev_idxM (k := arcs[j].lo) (hM.get_sl (j := 1) rfl) rfl rfl (by simpa using hlo) rfl rfl rfl (by decide)) rfl ?_
              refine Rg.stoM (f := encI) (j := 1) (k := (arcs[j].lo)) (g arcs[j].up + 1) hM rfl rfl rfl rfl rfl rfl rfl (by simpa using hlo) rfl rfl rfl rfl rfl (fun Hc (hM : Mem H Hc ([.box p5 3 (arcC (arcs[j])), .sl 1 u7 (List.map encI (((List.range names.length).map g).set ((arcs[j].lo)) (g arcs[j].up + 1)))])) => ?_)
              refine Rg.opp (v := .bool true) rfl rfl rfl rfl rfl ?_
              refine Rg.nil ?_
              refine Runs.region ?_
              refine Rg.opp (v := nat (j + 1)) rfl rfl rfl (ev_addN (b := 1) rfl rfl (by omega)) rfl ?_
              refine Rg.opp (v := nat (j + 1)) rfl rfl rfl rfl rfl ?_
              refine Rg.nil ?_
              refine ⟨arcs.length - (j + 1), by omega, j + 1, setF g arcs[j].lo (g arcs[j].up + 1), true, rfl, by
                have h := hM.tail
                rw [row_setA hlo] at h
                exact h, hlt, (hD.relax wf (List.getElem_mem hlt) h6 h7 (.inr h9)).1, by have := (hD.relax wf (List.getElem_mem hlt) h6 h7 (.inr h9)).2; omega, fun _ => by have := (hD.relax wf (List.getElem_mem hlt) h6 h7 (.inr h9)).2; omega, (fun h => by cases h), Is.of ⟨rfl, rfl, rfl, rfl, rfl, rfl, rfl, rfl, rfl, rfl, rfl, rfl, rfl, rfl, trivial⟩⟩
            · skip
              refine Rg.guards true rfl rfl rfl (fun _ => ⟨.bool false, _, evW_op (ev_igtF rfl rfl (h9)), rfl, ?_⟩) (fun h => by cases h)
              refine Rg.guards true rfl rfl rfl (fun _ => ⟨.bool false, _, evW_op (rfl), rfl, ?_⟩) (fun h => by cases h)
              refine Rg.opp (v := .bool false) rfl rfl rfl rfl rfl ?_
              refine Rg.nil ?_
              refine Runs.cond false rfl (fun h => by cases h) (fun _ => ?_)
              refine Runs.skip ?_
              refine Runs.region ?_
              refine Rg.opp (v := nat (j + 1)) rfl rfl rfl (ev_addN (b := 1) rfl rfl (by omega)) rfl ?_
              refine Rg.opp (v := nat (j + 1)) rfl rfl rfl rfl rfl ?_
              refine Rg.nil ?_
              refine ⟨arcs.length - (j + 1), by omega, j + 1, g, ch, rfl, hM.tail, hlt, hD, hw, hch, fun h => ⟨(hcal h).1, fun k hk hkj => by
                rcases Nat.lt_or_ge k j with q | q
                · exact (hcal h).2 k hk q
                · have e : k = j := by omega
                  subst e
                  exact fun h => fun h2 => by omega⟩, Is.of ⟨rfl, rfl, rfl, rfl, rfl, rfl, rfl, rfl, rfl, rfl, rfl, rfl, rfl, rfl, trivial⟩⟩
        · skip
          refine Rg.guards true rfl rfl rfl (fun _ => ⟨.bool false, _, evW_op (ev_igeF rfl rfl (h7)), rfl, ?_⟩) (fun h => by cases h)
          refine Rg.opp (v := .bool false) rfl rfl rfl rfl rfl ?_
          refine Rg.opp (v := .bool false) rfl rfl rfl rfl rfl ?_
          refine Rg.guards false rfl rfl rfl (fun h => by cases h) (fun _ => ?_)
          refine Rg.guards false rfl rfl rfl (fun h => by cases h) (fun _ => ?_)
          refine Rg.guards false rfl rfl rfl (fun h => by cases h) (fun _ => ?_)
          refine Rg.guards false rfl rfl rfl (fun h => by cases h) (fun _ => ?_)
          refine Rg.guards false rfl rfl rfl (fun h => by cases h) (fun _ => ?_)
          refine Rg.guards false rfl rfl rfl (fun h => by cases h) (fun _ => ?_)
          refine Rg.guards false rfl rfl rfl (fun h => by cases h) (fun _ => ?_)
          refine Rg.guards false rfl rfl rfl (fun h => by cases h) (fun _ => ?_)
          refine Rg.guards false rfl rfl rfl (fun h => by cases h) (fun _ => ?_)
          refine Rg.guards false rfl rfl rfl (fun h => by cases h) (fun _ => ?_)
          refine Rg.guards false rfl rfl rfl (fun h => by cases h) (fun _ => ?_)
          refine Rg.guards false rfl rfl rfl (fun h => by cases h) (fun _ => ?_)
          refine Rg.guards false rfl rfl rfl (fun h => by cases h) (fun _ => ?_)
          refine Rg.guards false rfl rfl rfl (fun h => by cases h) (fun _ => ?_)
          refine Rg.guards false rfl rfl rfl (fun h => by cases h) (fun _ => ?_)
          refine Rg.guards false rfl rfl rfl (fun h => by cases h) (fun _ => ?_)
          refine Rg.guards false rfl rfl rfl (fun h => by cases h) (fun _ => ?_)
          refine Rg.guards false rfl rfl rfl (fun h => by cases h) (fun _ => ?_)
          refine Rg.guards false rfl rfl rfl (fun h => by cases h) (fun _ => ?_)
          refine Rg.guards false rfl rfl rfl (fun h => by cases h) (fun _ => ?_)
          refine Rg.opp (v := .bool false) rfl rfl rfl rfl rfl ?_
          refine Rg.nil ?_
          refine Runs.cond false rfl (fun h => by cases h) (fun _ => ?_)
          refine Runs.skip ?_
          refine Runs.region ?_
          refine Rg.opp (v := nat (j + 1)) rfl rfl rfl (ev_addN (b := 1) rfl rfl (by omega)) rfl ?_
          refine Rg.opp (v := nat (j + 1)) rfl rfl rfl rfl rfl ?_
          refine Rg.nil ?_
          refine ⟨arcs.length - (j + 1), by omega, j + 1, g, ch, rfl, hM.tail, hlt, hD, hw, hch, fun h => ⟨(hcal h).1, fun k hk hkj => by
            rcases Nat.lt_or_ge k j with q | q
            · exact (hcal h).2 k hk q
            · have e : k = j := by omega
              subst e
              exact fun h => fun h2 => absurd h2 h7⟩, Is.of ⟨rfl, rfl, rfl, rfl, rfl, rfl, rfl, rfl, rfl, rfl, rfl, rfl, rfl, rfl, trivial⟩⟩
      · skip
        refine Rg.opp (v := .bool false) rfl rfl rfl (ev_igtF rfl rfl (h6)) rfl ?_
        refine Rg.opp (v := .bool false) rfl rfl rfl rfl rfl ?_
        refine Rg.guards false rfl rfl rfl (fun h => by cases h) (fun _ => ?_)
        refine Rg.guards false rfl rfl rfl (fun h => by cases h) (fun _ => ?_)
        refine Rg.guards false rfl rfl rfl (fun h => by cases h) (fun _ => ?_)
        refine Rg.guards false rfl rfl rfl (fun h => by cases h) (fun _ => ?_)
        refine Rg.guards false rfl rfl rfl (fun h => by cases h) (fun _ => ?_)
        refine Rg.guards false rfl rfl rfl (fun h => by cases h) (fun _ => ?_)
        refine Rg.opp (v := .bool false) rfl rfl rfl rfl rfl ?_
        refine Rg.opp (v := .bool false) rfl rfl rfl rfl rfl ?_
        refine Rg.guards false rfl rfl rfl (fun h => by cases h) (fun _ => ?_)
        refine Rg.guards false rfl rfl rfl (fun h => by cases h) (fun _ => ?_)
        refine Rg.guards false rfl rfl rfl (fun h => by cases h) (fun _ => ?_)
        refine Rg.guards false rfl rfl rfl (fun h => by cases h) (fun _ => ?_)
        refine Rg.guards false rfl rfl rfl (fun h => by cases h) (fun _ => ?_)
        refine Rg.guards false rfl rfl rfl (fun h => by cases h) (fun _ => ?_)
        refine Rg.guards false rfl rfl rfl (fun h => by cases h) (fun _ => ?_)
        refine Rg.guards false rfl rfl rfl (fun h => by cases h) (fun _ => ?_)
        refine Rg.guards false rfl rfl rfl (fun h => by cases h) (fun _ => ?_)
        refine Rg.guards false rfl rfl rfl (fun h => by cases h) (fun _ => ?_)
        refine Rg.guards false rfl rfl rfl (fun h => by cases h) (fun _ => ?_)
        refine Rg.guards false rfl rfl rfl (fun h => by cases h) (fun _ => ?_)
        refine Rg.guards false rfl rfl rfl (fun h => by cases h) (fun _ => ?_)
        refine Rg.guards false rfl rfl rfl (fun h => by cases h) (fun _ => ?_)
        refine Rg.guards false rfl rfl rfl (fun h => by cases h) (fun _ => ?_)
        refine Rg.guards false rfl rfl rfl (fun h => by cases h) (fun _ => ?_)
        refine Rg.guards false rfl rfl rfl (fun h => by cases h) (fun _ => ?_)
        refine Rg.guards false rfl rfl rfl (fun h => by cases h) (fun _ => ?_)
        refine Rg.guards false rfl rfl rfl (fun h => by cases h) (fun _ => ?_)
        refine Rg.guards false rfl rfl rfl (fun h => by cases h) (fun _ => ?_)
        refine Rg.opp (v := .bool false) rfl rfl rfl rfl rfl ?_
        refine Rg.nil ?_
        refine Runs.cond false rfl (fun h => by cases h) (fun _ => ?_)
        refine Runs.skip ?_
        refine Runs.region ?_
        refine Rg.opp (v := nat (j + 1)) rfl rfl rfl (ev_addN (b := 1) rfl rfl (by omega)) rfl ?_
        refine Rg.opp (v := nat (j + 1)) rfl rfl rfl rfl rfl ?_
        refine Rg.nil ?_
        refine ⟨arcs.length - (j + 1), by omega, j + 1, g, ch, rfl, hM.tail, hlt, hD, hw, hch, fun h => ⟨(hcal h).1, fun k hk hkj => by
          rcases Nat.lt_or_ge k j with q | q
          · exact (hcal h).2 k hk q
          · have e : k = j := by omega
            subst e
            exact fun h => absurd h h6⟩, Is.of ⟨rfl, rfl, rfl, rfl, rfl, rfl, rfl, rfl, rfl, rfl, rfl, rfl, rfl, rfl, trivial⟩⟩
    · skip
      refine Rg.opp (v := .bool false) rfl rfl rfl (ev_ltF rfl rfl (hlt)) rfl ?_
      refine Rg.nil ?_
      refine Runs.seq ?_
      refine Runs.cond false rfl (fun h => by cases h) (fun _ => ?_)
      refine Runs.exit ?_
      refine ⟨2 * wsum g names.length names.length + (if ch = true then 1 else 0), by
        have hc0 := h3
        subst hc0
        cases ch with
        | true => have := hch rfl; simp only [if_true]; omega
        | false => have := hw; simp only [if_true, Bool.false_eq_true, if_false]; omega, g, ch, rfl, hM, hD, fun h k hk => by
        have := (hcal h).2 k hk (by omega)
        exact this, Is.of ⟨rfl, rfl, rfl, rfl, rfl, rfl, rfl, rfl, trivial⟩⟩
  · skip
    refine Runs.exit ?_
    refine Runs.seq ?_
    refine Runs.region ?_
    refine Rg.opp (v := u7) rfl rfl rfl rfl rfl ?_
    refine Rg.opp (v := u7) rfl rfl rfl rfl rfl ?_
    refine Rg.nil ?_
    refine Runs.ret ?_
    refine ⟨u7, rfl, ?_⟩
    have hcf : ch0 = false := h3
    have he : g0 = distF (abv arcs above) to := by
      funext x
      refine hD0.done (fun a ha => ?_) x
      obtain ⟨k, hk, rfl⟩ := List.mem_iff_getElem.1 ha
      exact hst hcf k hk
    rw [← he]; exact hM


end Go.Proofs.Ytdhbclplondmjaa.C

end

section
/- cyclic, run. -/
set_option linter.unusedVariables false
set_option linter.unusedSimpArgs false
set_option maxRecDepth 100000
set_option maxHeartbeats 4000000
namespace Go.Proofs.Ytdhbclplondmjaa.C
open Go.RowKit Go.Sort

theorem cyclic_runs {H : Heap} {v : Value} {l : List Rel} (hl : Sl H 3 v (rels l)) (hll : l.length ≤ 2 ^ 16) (hn : (unitsP l).length ≤ 8) :
    ∃ r H1, big tab 13 [v] H = some (r, H1) ∧ r = .bool (cycB (arcsOf l)) ∧ Ext H H1 := by
  refine big_of_runs rfl rfl rfl ?_
  obtain ⟨z, hz⟩ := startC_mkS Try.f13 [v]
  rw [show startC (13, Try.f13).snd [v] = _ from hz]
  clear hz
  refine Runs.cut (n := 21) (l := [(0, v)]) (Is.of ⟨rfl, rfl, trivial⟩) (fun a0 => ?_)
  refine Runs.seq ?_
  refine Runs.region ?_
  refine Rg.opp (v := .bool false) rfl rfl rfl rfl rfl ?_
  refine Rg.nil ?_
  refine Runs.seq ?_
  refine Runs.region ?_
  refine Rg.opp (v := v) rfl rfl rfl rfl rfl ?_
  refine Rg.callW rfl rfl rfl rfl (rfl) rfl (reach_runs hl (by omega) (by omega)) (fun rv Hr hP => ?_)
  obtain ⟨her, ov, mm, hrow, hov, hrows, hF⟩ := hP
  have hM := Mem.start Hr
  refine Rg.opp (v := rv) rfl rfl rfl rfl rfl ?_
  refine Rg.nil ?_
  refine Runs.seq ?_
  refine Runs.seq ?_
  refine Runs.region ?_
  refine Rg.opp (v := nat 0) rfl rfl rfl rfl rfl ?_
  refine Rg.nil ?_
  refine Runs.block ?_
  refine Runs.loop (fun m s Hc => ∃ (i : Nat), m = ov.length - i ∧ Mem Hr Hc ([]) ∧ (i ≤ ov.length) ∧ (∀ k, k < i → mm k k = 0) ∧ Is s 21 [(3, rv), (4, nat i)]) _
    ⟨0, rfl, hM, Nat.zero_le _, fun k h => by omega, Is.of ⟨rfl, rfl, rfl, rfl, trivial⟩⟩ ?_
  rintro m s Hc ⟨i, rfl, hM, hi, hno, hs⟩
  obtain ⟨a1, rfl⟩ := hs.mk1
  clear hs
  refine Runs.seq ?_
  refine Runs.seq ?_
  refine Runs.region ?_
  refine Rg.opp (v := nat i) rfl rfl rfl rfl rfl ?_
  refine Rg.opp (v := rv) rfl rfl rfl rfl rfl ?_
  refine Rg.opp (v := nat ov.length) rfl rfl rfl (ev_lenM (hrow.sees hM.ext.sees) rfl rfl) rfl ?_
  by_cases hlt : i < ov.length
  · skip
    refine Rg.opp (v := .bool true) rfl rfl rfl (ev_ltT rfl rfl (hlt)) rfl ?_
    refine Rg.nil ?_
    refine Runs.cond true rfl (fun _ => ?_) (fun h => by cases h)
    refine Runs.skip ?_
    refine Runs.seq ?_
    refine Runs.block ?_
    refine Runs.seq ?_
    refine Runs.region ?_
    refine Rg.opp (v := rv) rfl rfl rfl rfl rfl ?_
    refine Rg.opp (v := nat i) rfl rfl rfl rfl rfl ?_
    refine Rg.opp (v := ptrAt (sAddr rv) (i * 1)) rfl rfl rfl (ev_idxM (k := i) (hrow.sees hM.ext.sees) rfl rfl (hlt) rfl rfl rfl (by decide)) rfl ?_
    refine Rg.opp (v := ov[i]) rfl rfl rfl (ev_ldM (k := i) (hrow.sees hM.ext.sees) rfl (hlt) rfl rfl rfl rfl) rfl ?_
    refine Rg.opp (v := nat i) rfl rfl rfl rfl rfl ?_
    refine Rg.opp (v := ptrAt (sAddr (ov[i])) (i * 1)) rfl rfl rfl (ev_idxM (k := i) ((hrows i hlt).sees hM.ext.sees) rfl rfl (by simp; omega) rfl rfl rfl (by decide)) rfl ?_
    refine Rg.opp (v := nat (mm i i)) rfl rfl rfl (ev_ldM (k := i) ((hrows i hlt).sees hM.ext.sees) rfl (by simp; omega) (by simp) rfl rfl rfl) rfl ?_
    by_cases hpos : 0 < mm i i
    · skip
      refine Rg.opp (v := .bool true) rfl rfl rfl (ev_gtT rfl rfl (hpos)) rfl ?_
      refine Rg.nil ?_
      refine Runs.cond true rfl (fun _ => ?_) (fun h => by cases h)
      refine Runs.seq ?_
      refine Runs.region ?_
      refine Rg.opp (v := .bool true) rfl rfl rfl rfl rfl ?_
      refine Rg.nil ?_
      refine Runs.ret ?_
      refine ⟨.bool true, rfl, ?_⟩
      refine ⟨?_, her.trans hM.ext⟩
      rw [cycB_iff.2 ⟨i, (rch_far (arcs_wf l) hn (hF i i)).1 hpos⟩]
    · skip
      refine Rg.opp (v := .bool false) rfl rfl rfl (ev_gtF rfl rfl (hpos)) rfl ?_
      refine Rg.nil ?_
      refine Runs.cond false rfl (fun h => by cases h) (fun _ => ?_)
      refine Runs.skip ?_
      refine Runs.region ?_
      refine Rg.opp (v := nat i) rfl rfl rfl rfl rfl ?_
      refine Rg.opp (v := nat (i + 1)) rfl rfl rfl (ev_addN (b := 1) rfl rfl (by omega)) rfl ?_
      refine Rg.opp (v := nat (i + 1)) rfl rfl rfl rfl rfl ?_
      refine Rg.nil ?_
      refine ⟨ov.length - (i + 1), by omega, i + 1, rfl, hM, hlt, fun k hk => by
        rcases Nat.lt_or_ge k i with q | q
        · exact hno k q
        · have : k = i := by omega
          subst this; omega, Is.of ⟨rfl, rfl, rfl, rfl, trivial⟩⟩
  · skip
    refine Rg.opp (v := .bool false) rfl rfl rfl (ev_ltF rfl rfl (hlt)) rfl ?_
    refine Rg.nil ?_
    refine Runs.cond false rfl (fun h => by cases h) (fun _ => ?_)
    refine Runs.exit ?_
    refine Runs.seq ?_
    refine Runs.region ?_
    refine Rg.opp (v := .bool false) rfl rfl rfl rfl rfl ?_
    refine Rg.nil ?_
    refine Runs.ret ?_
    refine ⟨.bool false, rfl, ?_⟩
    refine ⟨?_, her.trans hM.ext⟩
    rw [cycB_not.2]
    rintro ⟨x, hx⟩
    have h1 := (rch_lt (arcs_wf l) hx).1
    have h2 := (rch_far (arcs_wf l) hn (hF x x)).2 hx
    have := hno x (by omega)
    omega


end Go.Proofs.Ytdhbclplondmjaa.C

end
