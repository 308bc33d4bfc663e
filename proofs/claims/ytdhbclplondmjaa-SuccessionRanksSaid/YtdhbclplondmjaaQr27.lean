/- Texts of one's own, laid together: Xk, X12, X8 -/
import Derived.Test.YtdhbclplondmjaaQr26
section
/- The least order, step by step, plain. -/
set_option linter.unusedVariables false
set_option linter.unusedSimpArgs false
namespace Go.Proofs.Ytdhbclplondmjaa.C
open Go.RowKit Go.Sort

/-- How many arcs lead to a unit. -/
def cnt (arcs : List Arc) (x : Nat) : Nat := arcs.countP fun a => decide (a.up = x)
def remO (arcs : List Arc) (o : List Nat) : List Arc := arcs.filter fun a => decide (a.lo ∉ o)

theorem cnt_nil (x : Nat) : cnt [] x = 0 := rfl
theorem cnt_cons (a : Arc) (l : List Arc) (x : Nat) : cnt (a :: l) x = cnt l x + if a.up = x then 1 else 0 := by
  simp [cnt, List.countP_cons]
theorem cnt_append (a b : List Arc) (x : Nat) : cnt (a ++ b) x = cnt a x + cnt b x := by simp [cnt]
theorem cnt_zero {arcs : List Arc} {x : Nat} : cnt arcs x = 0 ↔ ∀ a ∈ arcs, a.up ≠ x := by
  simp [cnt, List.countP_eq_zero]
theorem cnt_le (arcs : List Arc) (x : Nat) : cnt arcs x ≤ arcs.length := List.countP_le_length
theorem cnt_take {arcs : List Arc} {j : Nat} (h : j < arcs.length) (x : Nat) : cnt (arcs.take (j + 1)) x = cnt (arcs.take j) x + if arcs[j].up = x then 1 else 0 := by
  rw [← List.take_append_getElem h, cnt_append, cnt_cons, cnt_nil, Nat.zero_add]
theorem cnt_drop {arcs : List Arc} {j : Nat} (h : j < arcs.length) (x : Nat) : cnt (arcs.drop j) x = cnt (arcs.drop (j + 1)) x + if arcs[j].up = x then 1 else 0 := by
  rw [List.drop_eq_getElem_cons h, cnt_cons]

theorem next_cons (a : Arc) (l : List Arc) (i : Nat) : nextOf (a :: l) i = (if a.lo = i then [a] else []) ++ nextOf l i := by
  by_cases h : a.lo = i <;> simp [nextOf, h]
theorem remO_cons (a : Arc) (l : List Arc) (o : List Nat) : remO (a :: l) o = (if a.lo ∉ o then [a] else []) ++ remO l o := by
  by_cases h : a.lo ∈ o <;> simp [remO, h]
theorem cnt_split (arcs : List Arc) (o : List Nat) (i x : Nat) (hi : i ∉ o) : cnt (nextOf arcs i) x + cnt (remO arcs (o ++ [i])) x = cnt (remO arcs o) x := by
  induction arcs with
  | nil => rfl
  | cons a l ih =>
    rw [next_cons, remO_cons, remO_cons, cnt_append, cnt_append, cnt_append]
    by_cases h1 : a.lo = i
    · have h2 : a.lo ∉ o := by rw [h1]; exact hi
      have h3 : ¬ a.lo ∉ o ++ [i] := by simp [h1]
      rw [if_pos h1, if_pos h2, if_neg h3, cnt_nil]; omega
    · by_cases h2 : a.lo ∈ o
      · have h3 : ¬ a.lo ∉ o ++ [i] := by simp [h2]
        have h4 : ¬ a.lo ∉ o := fun h => h h2
        rw [if_neg h1, if_neg h3, if_neg h4, cnt_nil]; omega
      · have h3 : a.lo ∉ o ++ [i] := by simp [h1, h2]
        rw [if_neg h1, if_pos h2, if_pos h3, cnt_nil]; omega

/-- The units that have been put in order, and those that may come next. -/
structure Kahn (arcs : List Arc) (n : Nat) (o es : List Nat) : Prop where
  nd : (o ++ es).Nodup
  lt : ∀ x ∈ o ++ es, x < n
  mem : ∀ x, x < n → (x ∈ o ++ es ↔ cnt (remO arcs o) x = 0)
  topo : ∀ k (h : k < o.length), ∀ a ∈ arcs, a.up = o[k] → a.lo ∈ o.take k

/-- Within one unit's arcs. -/
structure KahnIn (arcs : List Arc) (n : Nat) (o : List Nat) (ys : List Arc) (j : Nat) (es : List Nat) : Prop where
  nd : (o ++ es).Nodup
  lt : ∀ x ∈ o ++ es, x < n
  mem : ∀ x, x < n → (x ∈ o ++ es ↔ cnt (ys.drop j) x + cnt (remO arcs o) x = 0)
  topo : ∀ k (h : k < o.length), ∀ a ∈ arcs, a.up = o[k] → a.lo ∈ o.take k

/-- While the first units are collected. -/
structure KahnUp (arcs : List Arc) (i : Nat) (es : List Nat) : Prop where
  nd : es.Nodup
  mem : ∀ x, x ∈ es ↔ x < i ∧ cnt arcs x = 0

theorem KahnUp.start (arcs : List Arc) : KahnUp arcs 0 [] := ⟨by simp, by simp⟩
theorem KahnUp.push {arcs : List Arc} {i : Nat} {es : List Nat} (h : KahnUp arcs i es) (hz : cnt arcs i = 0) : KahnUp arcs (i + 1) (pushF es i) := by
  have hp := pushF_perm es i
  refine ⟨hp.nodup_iff.2 (List.nodup_cons.2 ⟨fun hm => by have := ((h.mem i).1 hm).1; omega, h.nd⟩), fun x => ?_⟩
  rw [hp.mem_iff, List.mem_cons, h.mem]
  constructor
  · rintro (rfl | ⟨h1, h2⟩)
    · exact ⟨by omega, hz⟩
    · exact ⟨by omega, h2⟩
  · rintro ⟨h1, h2⟩
    by_cases e : x = i
    · exact .inl e
    · exact .inr ⟨by omega, h2⟩
theorem KahnUp.skip {arcs : List Arc} {i : Nat} {es : List Nat} (h : KahnUp arcs i es) (hz : ¬ cnt arcs i = 0) : KahnUp arcs (i + 1) es := by
  refine ⟨h.nd, fun x => ?_⟩
  rw [h.mem]
  constructor
  · rintro ⟨h1, h2⟩; exact ⟨by omega, h2⟩
  · rintro ⟨h1, h2⟩
    have : x ≠ i := fun e => hz (e ▸ h2)
    exact ⟨by omega, h2⟩
theorem KahnUp.done {arcs : List Arc} {n : Nat} {es : List Nat} (h : KahnUp arcs n es) : Kahn arcs n [] es := by
  have hr : remO arcs [] = arcs := by simp [remO]
  refine ⟨by simpa using h.nd, fun x hx => ((h.mem x).1 (by simpa using hx)).1, fun x hx => ?_, fun k hk => by simp at hk⟩
  rw [List.nil_append, h.mem, hr]
  exact ⟨fun h => h.2, fun h => ⟨hx, h⟩⟩
theorem KahnUp.len {arcs : List Arc} {i : Nat} {es : List Nat} (h : KahnUp arcs i es) : es.length ≤ i := by
  exact nodup_le i es h.nd fun x hx => ((h.mem x).1 hx).1

theorem Kahn.len {arcs : List Arc} {n : Nat} {o es : List Nat} (h : Kahn arcs n o es) : o.length + es.length ≤ n := by
  have := nodup_le n _ h.nd h.lt
  simpa using this
theorem KahnIn.len {arcs : List Arc} {n : Nat} {o es : List Nat} {ys : List Arc} {j : Nat} (h : KahnIn arcs n o ys j es) : o.length + es.length ≤ n := by
  have := nodup_le n _ h.nd h.lt
  simpa using this

theorem Kahn.pop {arcs : List Arc} {n : Nat} {o es : List Nat} (h : Kahn arcs n o es) (hne : es ≠ []) : KahnIn arcs n (o ++ [popM es]) (nextOf arcs (popM es)) 0 (popR es) := by
  have hp : (o ++ [popM es] ++ popR es).Perm (o ++ es) := by
    rw [List.append_assoc]
    exact (popF_perm hne).append_left o
  have hi : popM es ∈ es := (popF_perm hne).mem_iff.1 List.mem_cons_self
  have hno : popM es ∉ o := fun hm => (List.nodup_append.1 h.nd).2.2 _ hm _ hi rfl
  have hin : popM es < n := h.lt _ (List.mem_append_right _ hi)
  refine ⟨hp.nodup_iff.2 h.nd, fun x hx => h.lt x (hp.mem_iff.1 hx), fun x hx => ?_, fun k hk a ha e => ?_⟩
  · rw [hp.mem_iff, h.mem x hx, List.drop_zero, cnt_split arcs o _ x hno]
  · rcases Nat.lt_or_ge k o.length with q | q
    · rw [List.getElem_append_left q] at e
      rw [List.take_append_of_le_length (by omega)]
      exact h.topo k q a ha e
    · have hk' : k = o.length := by simp at hk; omega
      subst hk'
      rw [List.getElem_append_right (Nat.le_refl _)] at e
      simp at e
      have h0 := (h.mem _ hin).1 (List.mem_append_right _ hi)
      have := cnt_zero.1 h0
      rw [List.take_append_of_le_length (Nat.le_refl _), List.take_length]
      refine Classical.byContradiction fun hlo => this a (List.mem_filter.2 ⟨ha, by simpa using hlo⟩) e

theorem KahnIn.pos {arcs : List Arc} {n : Nat} {o es : List Nat} {ys : List Arc} {j : Nat} (_ : KahnIn arcs n o ys j es) (hj : j < ys.length) : 1 ≤ cnt (ys.drop j) ys[j].up + cnt (remO arcs o) ys[j].up := by
  rw [cnt_drop hj, if_pos rfl]; omega

theorem KahnIn.same {arcs : List Arc} {n : Nat} {o es : List Nat} {ys : List Arc} {j : Nat} (h : KahnIn arcs n o ys j es) (hj : j < ys.length) (hz : ¬ cnt (ys.drop j) ys[j].up + cnt (remO arcs o) ys[j].up - 1 = 0) : KahnIn arcs n o ys (j + 1) es := by
  refine ⟨h.nd, h.lt, fun x hx => ?_, h.topo⟩
  rw [h.mem x hx]
  have := cnt_drop hj x
  have h1 := cnt_drop hj ys[j].up
  by_cases e : ys[j].up = x
  · subst e; rw [if_pos rfl] at h1; omega
  · rw [if_neg e] at this; omega
theorem KahnIn.push {arcs : List Arc} {n : Nat} {o es : List Nat} {ys : List Arc} {j : Nat} (h : KahnIn arcs n o ys j es) (hj : j < ys.length) (hup : ys[j].up < n) (hz : cnt (ys.drop j) ys[j].up + cnt (remO arcs o) ys[j].up - 1 = 0) : KahnIn arcs n o ys (j + 1) (pushF es ys[j].up) := by
  have hp : (o ++ pushF es ys[j].up).Perm (ys[j].up :: (o ++ es)) := by
    refine ((pushF_perm es _).append_left o).trans ?_
    exact List.perm_middle
  have h1 := cnt_drop hj ys[j].up
  rw [if_pos rfl] at h1
  have hn : ys[j].up ∉ o ++ es := fun hm => by have := (h.mem _ hup).1 hm; omega
  refine ⟨hp.nodup_iff.2 (List.nodup_cons.2 ⟨hn, h.nd⟩), fun x hx => ?_, fun x hx => ?_, h.topo⟩
  · rcases List.mem_cons.1 (hp.mem_iff.1 hx) with e | e
    · rw [e]; exact hup
    · exact h.lt x e
  · rw [hp.mem_iff, List.mem_cons, h.mem x hx]
    have := cnt_drop hj x
    by_cases e : ys[j].up = x
    · subst e; constructor
      · intro _; omega
      · intro _; exact .inl rfl
    · rw [if_neg e] at this
      constructor
      · rintro (q | q)
        · exact absurd q.symm e
        · omega
      · intro q; right; omega
theorem KahnIn.done {arcs : List Arc} {n : Nat} {o es : List Nat} {ys : List Arc} (h : KahnIn arcs n o ys ys.length es) : Kahn arcs n o es := by
  refine ⟨h.nd, h.lt, fun x hx => ?_, h.topo⟩
  rw [h.mem x hx, List.drop_length, cnt_nil, Nat.zero_add]

/-- What a count is after one arc. -/
theorem cnt_next {arcs : List Arc} {o : List Nat} {ys : List Arc} {j n : Nat} (hj : j < ys.length) (hup : ys[j].up < n) :
    ((List.range n).map fun x => cnt (ys.drop j) x + cnt (remO arcs o) x).set ys[j].up (cnt (ys.drop j) ys[j].up + cnt (remO arcs o) ys[j].up - 1) = (List.range n).map fun x => cnt (ys.drop (j + 1)) x + cnt (remO arcs o) x := by
  rw [row_set hup]
  refine List.map_congr_left fun x _ => ?_
  have := cnt_drop hj x
  by_cases e : x = ys[j].up
  · subst e; rw [if_pos rfl] at this ⊢; omega
  · rw [if_neg e]; rw [if_neg (fun h => e h.symm)] at this; omega
theorem cnt_more {arcs : List Arc} {j n : Nat} (hj : j < arcs.length) (hup : arcs[j].up < n) :
    ((List.range n).map (cnt (arcs.take j))).set arcs[j].up (cnt (arcs.take j) arcs[j].up + 1) = (List.range n).map (cnt (arcs.take (j + 1))) := by
  rw [row_set hup]
  refine List.map_congr_left fun x _ => ?_
  have := cnt_take hj x
  by_cases e : x = arcs[j].up
  · subst e; rw [if_pos rfl] at this ⊢; omega
  · rw [if_neg e]; rw [if_neg (fun h => e h.symm)] at this; omega

/-- A variable with a value that fills one cell. -/
theorem Rg.box1 {T : Tab} {H0 H : Heap} {L : List Th} {Q : St} {cal : CallF} {d : Bool} {ops : Array Oper} {i n t : Nat} {is : List Nat} {a : Nat → Value} {l : List (Nat × Value)} {o : Oper} {ty : TypeId} {x : Operand} {ti : TI} {u : Value} {sz : Nat} (hM : Mem H0 H L) (ho : ops[i]? = some o) (hg : o.guard = none) (ht : o.dst = some t) (hop : o.op = .box ty x) (hx : ev (mkS n a l) x = u) (h1 : One u) (hT : T.T ty = some ti) (hs : ti.size = sz)
    (k : ∀ p H1, Mem H0 H1 (.box p sz [u] :: L) → Ext H H1 → Rg T cal d ops is (mkS n a ((t, .pointer (some ⟨p, 0, none⟩)) :: l)) H1 Q) : Rg T cal d ops (i :: is) (mkS n a l) H Q := by
  refine Rg.new (v := fun p => .pointer (some ⟨p, 0, none⟩)) (X := .row sz [u] true true) (th := fun p => .box p sz [u]) hM ho hg ht ?_ (by rw [hop]; simp [inPlace]) rfl (fun _ => rfl) k
  rw [hop]
  simp only [opEval, hx, vBox, h1.2.2, Bool.false_eq_true, if_false, hT, Option.map_some, newRow, h1.1, hs]

/-- A literal without elements. -/
theorem Rg.lit0 {T : Tab} {H0 H : Heap} {L : List Th} {Q : St} {cal : CallF} {d : Bool} {ops : Array Oper} {i n t : Nat} {is : List Nat} {a : Nat → Value} {l : List (Nat × Value)} {o : Oper} {ty : TypeId} {parts : Array (Nat × Operand)} {sz : Nat} (hM : Mem H0 H L) (ho : ops[i]? = some o) (hg : o.guard = none) (ht : o.dst = some t) (hop : o.op = .buildSlice ty 0 parts) (he : opEval T (mkS n a l) H (.buildSlice ty 0 parts) = some (.slice (some ⟨H.length, 0, none⟩) 0 0, H ++ [.row sz [] true true]))
    (k : ∀ u H1, Mem H0 H1 (.sl sz u [] :: L) → Grown u → Rg T cal d ops is (mkS n a ((t, u) :: l)) H1 Q) : Rg T cal d ops (i :: is) (mkS n a l) H Q :=
  Rg.opp ho hg ht (v := .slice (some ⟨H.length, 0, none⟩) 0 0) (H1 := H ++ [.row sz [] true true]) (by rw [hop]; exact he) (by rw [hop]; simp [inPlace])
    (k _ _ (hM.new (X := .row sz [] true true) (t := .sl sz (.slice (some ⟨H.length, 0, none⟩) 0 0) []) rfl ⟨by simp, by simp, .inl ⟨rfl, _, .inr ⟨_, _, rfl⟩, rfl⟩⟩) ⟨_, _, _, rfl, .inr ⟨rfl, rfl⟩⟩)

end Go.Proofs.Ytdhbclplondmjaa.C

end

section
/- The program's least order, run. -/
set_option linter.unusedVariables false
set_option linter.unusedSimpArgs false
set_option maxRecDepth 100000
set_option maxHeartbeats 4000000
namespace Go.Proofs.Ytdhbclplondmjaa.C
open Go.RowKit Go.Sort

theorem before_runs {H : Heap} {gp : Nat} {names : List Nm} {arcs : List Arc} (hG : GraphAt H gp names arcs) (wf : WF names.length arcs) (hn : names.length ≤ 2 ^ 20) (ha : arcs.length ≤ 2 ^ 20) :
    ∃ r H1, big tab 42 [.pointer (some ⟨gp, 0, none⟩)] H = some (r, H1) ∧ Mem H H1 [.sl 1 r (((List.range names.length).map (cnt arcs)).map encN)] := by
  obtain ⟨an, aa, ax, M, nx, own, hG⟩ := hG
  have hnl := hG.len
  have hM := Mem.start H
  refine big_of_runs rfl rfl rfl ?_
  obtain ⟨z, hz⟩ := startC_mkS Try.f42 [.pointer (some ⟨gp, 0, none⟩)]
  rw [show startC (42, Try.f42).snd [.pointer (some ⟨gp, 0, none⟩)] = _ from hz]
  clear hz
  refine Runs.cut (n := 30) (l := [(0, .pointer (some ⟨gp, 0, none⟩))]) (Is.of ⟨rfl, rfl, trivial⟩) (fun a0 => ?_)
  refine Runs.seq ?_
  refine Runs.region ?_
  refine Rg.opp (v := .slice none 0 0) rfl rfl rfl rfl rfl ?_
  refine Rg.nil ?_
  refine Runs.seq ?_
  refine Runs.region ?_
  refine Rg.opp (v := .pointer (some ⟨gp, 0, none⟩)) rfl rfl rfl rfl rfl ?_
  refine Rg.opp (v := .pointer (some ⟨gp, 0, none⟩)) rfl rfl rfl rfl rfl ?_
  refine Rg.opp (v := .pointer (some ⟨gp, 0, none⟩)) rfl rfl rfl (ev_fld (o := 0) (p := (37, 0)) rfl rfl rfl rfl rfl (by decide)) rfl ?_
  refine Rg.opp (v := an) rfl rfl rfl (ev_ldb (hM.ext.get hG.box) rfl rfl rfl rfl rfl) rfl ?_
  refine Rg.opp (v := nat names.length) rfl rfl rfl (ev_lenM (hG.hnames.sees hM.ext.sees) rfl rfl) rfl ?_
  refine Rg.make (f := encN) (sz := 1) (m := names.length) 0 hM rfl rfl rfl rfl rfl rfl rfl rfl rfl (by decide) rfl rfl rfl (by show names.length * 8 ≤ 2 ^ 40; omega) (by omega) (fun u Hc (hM : Mem H Hc ([.sl 1 u (List.map encN (List.replicate names.length 0))])) _ => ?_)
  refine Rg.opp (v := u) rfl rfl rfl rfl rfl ?_
  refine Rg.nil ?_
  refine Runs.seq ?_
  refine Runs.seq ?_
  refine Runs.region ?_
  refine Rg.opp (v := .pointer (some ⟨gp, 0, none⟩)) rfl rfl rfl rfl rfl ?_
  refine Rg.opp (v := .pointer (some ⟨gp, 0, none⟩)) rfl rfl rfl rfl rfl ?_
  refine Rg.opp (v := .pointer (some ⟨gp, 2, none⟩)) rfl rfl rfl (ev_fld (o := 0) (p := (73, 2)) rfl rfl rfl rfl rfl (by decide)) rfl ?_
  refine Rg.opp (v := aa) rfl rfl rfl (ev_ldb (hM.ext.get hG.box) rfl rfl rfl rfl rfl) rfl ?_
  refine Rg.opp (v := nat arcs.length) rfl rfl rfl (ev_lenM (hG.harcs.sees hM.ext.sees) rfl rfl) rfl ?_
  refine Rg.opp (v := nat 0) rfl rfl rfl rfl rfl ?_
  refine Rg.nil ?_
  refine Runs.block ?_
  refine Runs.loop (fun m s Hc => ∃ (j : Nat), m = arcs.length - j ∧ Mem H Hc ([.sl 1 u (List.map encN ((List.range names.length).map (cnt (arcs.take j))))]) ∧ (j ≤ arcs.length) ∧ Is s 30 [(3, u), (15, aa), (16, nat arcs.length), (17, nat j)]) _
    ⟨0, rfl, by
    have e : (List.range names.length).map (cnt (arcs.take 0)) = List.replicate names.length 0 := by
      rw [List.take_zero, show cnt [] = fun _ => 0 from rfl, List.map_const', List.length_range]
    rw [e]; exact hM, Nat.zero_le _, Is.of ⟨rfl, rfl, rfl, rfl, rfl, rfl, rfl, rfl, trivial⟩⟩ ?_
  rintro m s Hc ⟨j, rfl, hM, hj, hs⟩
  obtain ⟨a1, rfl⟩ := hs.mk1
  clear hs
  refine Runs.seq ?_
  refine Runs.region ?_
  by_cases hlt : j < arcs.length
  · skip
    have hup : arcs[j].up < names.length := wf.up _ (List.getElem_mem hlt)
    have hcl := cnt_le (arcs.take j) arcs[j].up
    rw [List.length_take] at hcl
    refine Rg.opp (v := .bool true) rfl rfl rfl (ev_ltT rfl rfl (hlt)) rfl ?_
    refine Rg.nil ?_
    refine Runs.seq ?_
    refine Runs.cond true rfl (fun _ => ?_) (fun h => by cases h)
    refine Runs.skip ?_
    refine Runs.seq ?_
    refine Runs.block ?_
    refine Runs.seq ?_
    refine Runs.region ?_
    refine Rg.opp (v := ptrAt (sAddr aa) (j * 3)) rfl rfl rfl (ev_idxM (k := j) (hG.harcs.sees hM.ext.sees) rfl rfl (hlt) rfl rfl rfl (by decide)) rfl ?_
    refine Rg.opp (v := .agg (arcC (arcs[j])).toArray) rfl rfl rfl (ev_ldAM (k := j) (hG.harcs.sees hM.ext.sees) rfl (hlt) rfl rfl rfl) rfl ?_
    refine Rg.new (v := fun p => .pointer (some ⟨p, 0, none⟩)) (X := .row 3 [.int .i64 0, .int .i64 0, .int .i64 0] true true) (th := fun p => .box p 3 [.int .i64 0, .int .i64 0, .int .i64 0]) hM rfl rfl rfl rfl rfl rfl (fun _ => rfl) (fun p2 Hc hM _ => ?_)
    refine Rg.stob (j := 0) (cs' := arcC (arcs[j])) hM rfl rfl rfl rfl rfl rfl rfl rfl rfl rfl (Nat.le_of_ble_eq_true rfl) rfl (fun Hc (hM : Mem H Hc ([.box p2 3 (arcC (arcs[j])), .sl 1 u (List.map encN ((List.range names.length).map (cnt (arcs.take j))))])) => ?_)
    refine Rg.nil ?_
    refine Runs.region ?_
    refine Rg.opp (v := u) rfl rfl rfl rfl rfl ?_
    refine Rg.opp (v := .pointer (some ⟨p2, 2, none⟩)) rfl rfl rfl (ev_fld (o := 0) (p := (3, 2)) rfl rfl rfl rfl rfl (by decide)) rfl ?_
    refine Rg.opp (v := nat (arcs[j].up)) rfl rfl rfl (ev_ldb (hM.get_box (j := 0) rfl) rfl rfl rfl rfl rfl) rfl ?_
    refine Rg.opp (v := ptrAt (sAddr u) ((arcs[j].up) * 1)) rfl rfl rfl (ev_idxM (k := arcs[j].up) (hM.get_sl (j := 1) rfl) rfl rfl (by simpa using hup) rfl rfl rfl (by decide)) rfl ?_
    refine Rg.opp (v := nat (cnt (arcs.take j) arcs[j].up)) rfl rfl rfl (ev_ldM (k := (arcs[j].up)) (hM.get_sl (j := 1) rfl) rfl (by simpa using hup) (by simp) rfl rfl rfl) rfl ?_
    refine Rg.opp (v := nat (cnt (arcs.take j) arcs[j].up + 1)) rfl rfl rfl (ev_addN (b := 1) rfl rfl (by omega)) rfl ?_
    refine Rg.opp (v := ptrAt (sAddr u) ((arcs[j].up) * 1)) rfl rfl rfl (ev_idxM (k := arcs[j].up) (hM.get_sl (j := 1) rfl) rfl rfl (by simpa using hup) rfl rfl rfl (by decide)) rfl ?_
    refine Rg.stoM (f := encN) (j := 1) (k := (arcs[j].up)) (cnt (arcs.take j) arcs[j].up + 1) hM rfl rfl rfl rfl rfl rfl rfl (by simpa using hup) rfl rfl rfl rfl rfl (fun Hc (hM : Mem H Hc ([.box p2 3 (arcC (arcs[j])), .sl 1 u (List.map encN (((List.range names.length).map (cnt (arcs.take j))).set ((arcs[j].up)) (cnt (arcs.take j) arcs[j].up + 1)))])) => ?_)
    refine Rg.nil ?_
    refine Runs.region ?_
    refine Rg.opp (v := nat (j + 1)) rfl rfl rfl (ev_addN (b := 1) rfl rfl (by omega)) rfl ?_
    refine Rg.opp (v := nat (j + 1)) rfl rfl rfl rfl rfl ?_
    refine Rg.nil ?_
    refine ⟨arcs.length - (j + 1), by omega, j + 1, rfl, by rw [← cnt_more hlt hup]; exact hM.tail, hlt, Is.of ⟨rfl, rfl, rfl, rfl, rfl, rfl, rfl, rfl, trivial⟩⟩
  · skip
    refine Rg.opp (v := .bool false) rfl rfl rfl (ev_ltF rfl rfl (hlt)) rfl ?_
    refine Rg.nil ?_
    refine Runs.seq ?_
    refine Runs.cond false rfl (fun h => by cases h) (fun _ => ?_)
    refine Runs.exit ?_
    refine Runs.seq ?_
    refine Runs.region ?_
    refine Rg.opp (v := u) rfl rfl rfl rfl rfl ?_
    refine Rg.opp (v := u) rfl rfl rfl rfl rfl ?_
    refine Rg.nil ?_
    refine Runs.ret ?_
    refine ⟨u, rfl, ?_⟩
    have hje : j = arcs.length := by omega
    subst hje
    rw [List.take_length] at hM
    exact hM

theorem perm1 {H0 H : Heap} {a b c : Th} {L : List Th} (h : Mem H0 H (a :: b :: c :: L)) : Mem H0 H (b :: c :: a :: L) :=
  h.sub (fun j => if j = 0 then 1 else if j = 1 then 2 else if j = 2 then 0 else j) (fun i j e => by
    repeat' split at e
    all_goals omega) (fun j t e => by
    match j with
    | 0 => exact e
    | 1 => exact e
    | 2 => exact e
    | j + 3 => exact e)
theorem perm2 {H0 H : Heap} {a b c : Th} {L : List Th} (h : Mem H0 H (b :: c :: a :: L)) : Mem H0 H (a :: b :: c :: L) := perm1 (perm1 h)

theorem sorted_runs {H : Heap} {gp : Nat} {names : List Nm} {arcs : List Arc} (hG : GraphAt H gp names arcs) (wf : WF names.length arcs) (hn : names.length ≤ 2 ^ 20) (ha : arcs.length ≤ 2 ^ 20) :
    ∃ r H1, big tab 33 [.pointer (some ⟨gp, 0, none⟩)] H = some (r, H1) ∧ ∃ ov o, r = .tuple #[ov, .bool (decide (o.length = names.length))] ∧ Mem H H1 [.sl 1 ov (o.map encN)] ∧ Kahn arcs names.length o [] := by
  obtain ⟨an, aa, ax, M, nx, own, hG⟩ := hG
  have hnl := hG.len
  have hM := Mem.start H
  refine big_of_runs rfl rfl rfl ?_
  obtain ⟨z, hz⟩ := startC_mkS Try.f33 [.pointer (some ⟨gp, 0, none⟩)]
  rw [show startC (33, Try.f33).snd [.pointer (some ⟨gp, 0, none⟩)] = _ from hz]
  clear hz
  refine Runs.cut (n := 85) (l := [(0, .pointer (some ⟨gp, 0, none⟩))]) (Is.of ⟨rfl, rfl, trivial⟩) (fun a0 => ?_)
  refine Runs.seq ?_
  refine Runs.region ?_
  refine Rg.opp (v := .slice none 0 0) rfl rfl rfl rfl rfl ?_
  refine Rg.opp (v := .bool false) rfl rfl rfl rfl rfl ?_
  refine Rg.nil ?_
  refine Runs.seq ?_
  refine Runs.region ?_
  refine Rg.opp (v := .pointer (some ⟨gp, 0, none⟩)) rfl rfl rfl rfl rfl ?_
  refine Rg.callW rfl rfl rfl rfl (rfl) rfl (before_runs ⟨_, _, _, _, _, _, hG⟩ wf hn ha) (fun cv Hc hP => ?_)
  replace hM := hP
  refine Rg.opp (v := cv) rfl rfl rfl rfl rfl ?_
  refine Rg.nil ?_
  refine Runs.seq ?_
  refine Runs.region ?_
  refine Rg.lit0 (sz := 1) hM rfl rfl rfl rfl rfl (fun u0 Hc hM hgv => ?_)
  refine Rg.box1 (sz := 1) hM rfl rfl rfl rfl rfl ((hM.get_sl (j := 0) rfl).one) rfl rfl (fun q Hc hM _ => ?_)
  refine Rg.opp (v := .pointer (some ⟨q, 0, none⟩)) rfl rfl rfl rfl rfl ?_
  refine Rg.nil ?_
  refine Runs.seq ?_
  refine Runs.seq ?_
  refine Runs.region ?_
  refine Rg.opp (v := cv) rfl rfl rfl rfl rfl ?_
  refine Rg.opp (v := nat (((List.range names.length).map (cnt arcs)).length)) rfl rfl rfl (ev_lenM (hM.get_sl (j := 2) rfl) rfl rfl) rfl ?_
  refine Rg.opp (v := nat 0) rfl rfl rfl rfl rfl ?_
  refine Rg.nil ?_
  refine Runs.block ?_
  refine Runs.loop (fun m s Hc => ∃ (i : Nat) (v : Value) (es : List Nat), m = names.length - i ∧ Mem H Hc ([.box q 1 [v], .sl 1 v (List.map encN es), .sl 1 cv (List.map encN ((List.range names.length).map (cnt arcs)))]) ∧ (i ≤ names.length) ∧ (Grown v) ∧ (KahnUp arcs i es) ∧ Is s 85 [(0, .pointer (some ⟨gp, 0, none⟩)), (4, cv), (5, .pointer (some ⟨q, 0, none⟩)), (16, cv), (17, nat (((List.range names.length).map (cnt arcs)).length)), (18, nat i)]) _
    ⟨0, u0, [], rfl, hM, Nat.zero_le _, hgv, KahnUp.start arcs, Is.of ⟨rfl, rfl, rfl, rfl, rfl, rfl, rfl, rfl, rfl, rfl, rfl, rfl, trivial⟩⟩ ?_
  rintro m s Hc ⟨i, v, es, rfl, hM, hi, hgv, hK, hs⟩
  obtain ⟨a1, rfl⟩ := hs.mk1
  clear hs
  have hel := hK.len
  refine Runs.seq ?_
  refine Runs.region ?_
  by_cases hlt0 : i < ((List.range names.length).map (cnt arcs)).length
  · skip
    have hlt : i < names.length := by simpa using hlt0
    refine Rg.opp (v := .bool true) rfl rfl rfl (ev_ltT rfl rfl (hlt0)) rfl ?_
    refine Rg.nil ?_
    refine Runs.seq ?_
    refine Runs.cond true rfl (fun _ => ?_) (fun h => by cases h)
    refine Runs.skip ?_
    refine Runs.seq ?_
    refine Runs.block ?_
    refine Runs.seq ?_
    refine Runs.region ?_
    refine Rg.opp (v := nat i) rfl rfl rfl rfl rfl ?_
    refine Rg.opp (v := ptrAt (sAddr cv) (i * 1)) rfl rfl rfl (ev_idxM (k := i) (hM.get_sl (j := 2) rfl) rfl rfl (by simpa using hlt) rfl rfl rfl (by decide)) rfl ?_
    refine Rg.opp (v := nat (cnt arcs i)) rfl rfl rfl (ev_ldM (k := i) (hM.get_sl (j := 2) rfl) rfl (by simpa using hlt) (by simp) rfl rfl rfl) rfl ?_
    refine Rg.opp (v := nat i) rfl rfl rfl rfl rfl ?_
    refine Rg.opp (v := nat (cnt arcs i)) rfl rfl rfl rfl rfl ?_
    refine Rg.nil ?_
    refine Runs.seq ?_
    refine Runs.region ?_
    refine Rg.opp (v := nat (cnt arcs i)) rfl rfl rfl rfl rfl ?_
    by_cases hz : cnt arcs i = 0
    · skip
      refine Rg.opp (v := .bool true) rfl rfl rfl (ev_eqT rfl rfl (hz)) rfl ?_
      refine Rg.nil ?_
      refine Runs.cond true rfl (fun _ => ?_) (fun h => by cases h)
      refine Runs.region ?_
      refine Rg.opp (v := .pointer (some ⟨q, 0, none⟩)) rfl rfl rfl rfl rfl ?_
      refine Rg.opp (v := .iface 94 (.pointer (some ⟨q, 0, none⟩))) rfl rfl rfl rfl rfl ?_
      refine Rg.opp (v := nat i) rfl rfl rfl rfl rfl ?_
      refine Rg.opp (v := .iface 3 (nat i)) rfl rfl rfl rfl rfl ?_
      refine Rg.callW rfl rfl rfl rfl (rfl) rfl (push_runs (x := i) hM (by omega)) (fun r1 Hc hP => ?_)
      obtain ⟨v1, hM, hg1⟩ := hP
      refine Rg.nil ?_
      refine Runs.region ?_
      refine Rg.opp (v := nat (i + 1)) rfl rfl rfl (ev_addN (b := 1) rfl rfl (by omega)) rfl ?_
      refine Rg.opp (v := nat (i + 1)) rfl rfl rfl rfl rfl ?_
      refine Rg.nil ?_
      refine ⟨names.length - (i + 1), by omega, i + 1, v1, pushF es i, rfl, hM, hlt, hg1, hK.push hz, Is.of ⟨rfl, rfl, rfl, rfl, rfl, rfl, rfl, rfl, rfl, rfl, rfl, rfl, trivial⟩⟩
    · skip
      refine Rg.opp (v := .bool false) rfl rfl rfl (ev_eqF rfl rfl (hz)) rfl ?_
      refine Rg.nil ?_
      refine Runs.cond false rfl (fun h => by cases h) (fun _ => ?_)
      refine Runs.skip ?_
      refine Runs.region ?_
      refine Rg.opp (v := nat (i + 1)) rfl rfl rfl (ev_addN (b := 1) rfl rfl (by omega)) rfl ?_
      refine Rg.opp (v := nat (i + 1)) rfl rfl rfl rfl rfl ?_
      refine Rg.nil ?_
      refine ⟨names.length - (i + 1), by omega, i + 1, v, es, rfl, hM, hlt, hgv, hK.skip hz, Is.of ⟨rfl, rfl, rfl, rfl, rfl, rfl, rfl, rfl, rfl, rfl, rfl, rfl, trivial⟩⟩
  · skip
    have hin : i = names.length := by simp at hlt0; omega
    rw [hin] at hK
    have hK0 := hK.done
    refine Rg.opp (v := .bool false) rfl rfl rfl (ev_ltF rfl rfl (hlt0)) rfl ?_
    refine Rg.nil ?_
    refine Runs.seq ?_
    refine Runs.cond false rfl (fun h => by cases h) (fun _ => ?_)
    refine Runs.exit ?_
    refine Runs.seq ?_
    refine Runs.region ?_
    refine Rg.opp (v := .slice none 0 0) rfl rfl rfl rfl rfl ?_
    refine Rg.nil ?_
    refine Runs.seq ?_
    refine Runs.block ?_
    refine Runs.loop (fun m s Hc => ∃ (v : Value) (es : List Nat) (ov : Value) (o : List Nat), m = names.length - o.length ∧ Mem H Hc ([.box q 1 [v], .sl 1 v (List.map encN es), .sl 1 cv (List.map encN ((List.range names.length).map (cnt (remO arcs o)))), .sl 1 ov (List.map encN o)]) ∧ (Grown v) ∧ (Grown ov) ∧ (Kahn arcs names.length o es) ∧ Is s 85 [(0, .pointer (some ⟨gp, 0, none⟩)), (4, cv), (5, .pointer (some ⟨q, 0, none⟩)), (8, ov)]) _
      ⟨v, es, .slice none 0 0, [], rfl, by rw [show remO arcs [] = arcs by simp [remO]]; exact hM.addNil 1 1, hgv, Grown.nil, hK0, Is.of ⟨rfl, rfl, rfl, rfl, rfl, rfl, rfl, rfl, trivial⟩⟩ ?_
    rintro m s Hc ⟨v, es, ov, o, rfl, hM, hgv, hgo, hK, hs⟩
    obtain ⟨a2, rfl⟩ := hs.mk1
    clear hs
    have hkl := hK.len
    refine Runs.seq ?_
    refine Runs.seq ?_
    refine Runs.region ?_
    refine Rg.opp (v := .pointer (some ⟨q, 0, none⟩)) rfl rfl rfl rfl rfl ?_
    refine Rg.opp (v := .pointer (some ⟨q, 0, none⟩)) rfl rfl rfl rfl rfl ?_
    refine Rg.opp (v := v) rfl rfl rfl (ev_ldb (hM.get_box (j := 0) rfl) rfl rfl rfl rfl rfl) rfl ?_
    refine Rg.calls (v := nat es.length) rfl rfl rfl rfl (rfl) rfl (qlen_runs (hM.get_sl (j := 1) rfl)) ?_
    by_cases hpos : 0 < es.length
    · skip
      have hne : es ≠ [] := fun e => by rw [e] at hpos; simp at hpos
      have hKi := hK.pop hne
      have hpl := popR_len es
      refine Rg.opp (v := .bool true) rfl rfl rfl (ev_gtT rfl rfl (hpos)) rfl ?_
      refine Rg.nil ?_
      refine Runs.cond true rfl (fun _ => ?_) (fun h => by cases h)
      refine Runs.skip ?_
      refine Runs.block ?_
      refine Runs.seq ?_
      refine Runs.region ?_
      refine Rg.opp (v := .pointer (some ⟨q, 0, none⟩)) rfl rfl rfl rfl rfl ?_
      refine Rg.opp (v := .iface 94 (.pointer (some ⟨q, 0, none⟩))) rfl rfl rfl rfl rfl ?_
      refine Rg.callW rfl rfl rfl rfl (rfl) rfl (pop_runs hM hgv (by omega) (by omega)) (fun r1 Hc hP => ?_)
      obtain ⟨rfl, v1, hM, hg1⟩ := hP
      generalize popM es = i at hKi hM ⊢
      have hi : i < names.length := hKi.lt i (by simp)
      refine Rg.opp (v := nat i) rfl rfl rfl rfl rfl ?_
      refine Rg.opp (v := nat i) rfl rfl rfl rfl rfl ?_
      refine Rg.nil ?_
      refine Runs.seq ?_
      refine Runs.region ?_
      refine Rg.opp (v := ov) rfl rfl rfl rfl rfl ?_
      refine Rg.opp (v := nat i) rfl rfl rfl rfl rfl ?_
      refine Rg.lit (f := encN) (sz := 1) (xs := [i]) hM rfl rfl rfl rfl rfl (by simp) (by simp) (fun u3 Hc (hM : Mem H Hc ([.sl 1 u3 (List.map encN ([i])), .box q 1 [v1], .sl 1 v1 (List.map encN (popR es)), .sl 1 cv (List.map encN ((List.range names.length).map (cnt (remO arcs o)))), .sl 1 ov (List.map encN o)])) _ => ?_)
      refine Rg.appM (f := encN) (sz := 1) (j := 4) (v := ov) (xs := o) (ys := [i]) hM rfl rfl rfl rfl rfl rfl rfl (hM.get_sl (j := 0) rfl) ⟨rfl, rfl, rfl, by decide⟩ rfl (by simp [oneCell]) (by show (_ + _) * 8 ≤ 2 ^ 40; simp only [List.length_cons, List.length_nil]; omega) (by simp) (fun ov1 Hc (hM : Mem H Hc ([.sl 1 u3 (List.map encN ([i])), .box q 1 [v1], .sl 1 v1 (List.map encN (popR es)), .sl 1 cv (List.map encN ((List.range names.length).map (cnt (remO arcs o)))), .sl 1 ov1 (List.map encN (o ++ ([i])))])) hgo1 => ?_)
      replace hM : Mem H _ ([.box q 1 [v1], .sl 1 v1 (List.map encN (popR es)), .sl 1 cv (List.map encN ((List.range names.length).map (cnt (remO arcs o)))), .sl 1 ov1 (List.map encN (o ++ ([i])))]) := hM.erase 0
      refine Rg.opp (v := ov1) rfl rfl rfl rfl rfl ?_
      refine Rg.nil ?_
      refine Runs.seq ?_
      refine Runs.region ?_
      refine Rg.opp (v := .pointer (some ⟨gp, 0, none⟩)) rfl rfl rfl rfl rfl ?_
      refine Rg.opp (v := .pointer (some ⟨gp, 0, none⟩)) rfl rfl rfl rfl rfl ?_
      refine Rg.opp (v := .pointer (some ⟨gp, 3, none⟩)) rfl rfl rfl (ev_fld (o := 0) (p := (75, 3)) rfl rfl rfl rfl rfl (by decide)) rfl ?_
      refine Rg.opp (v := ax) rfl rfl rfl (ev_ldb (hM.ext.get hG.box) rfl rfl rfl rfl rfl) rfl ?_
      refine Rg.opp (v := nat i) rfl rfl rfl rfl rfl ?_
      refine Rg.opp (v := ptrAt (sAddr ax) (i * 1)) rfl rfl rfl (ev_idxM (k := i) (hG.hnext.sees hM.ext.sees) rfl rfl (by omega) rfl rfl rfl (by decide)) rfl ?_
      refine Rg.opp (v := nx[i]) rfl rfl rfl (ev_ldM (k := i) (hG.hnext.sees hM.ext.sees) rfl (by omega) rfl rfl rfl rfl) rfl ?_
      refine Rg.opp (v := nat ((nextOf arcs i).length)) rfl rfl rfl (ev_lenM ((hG.each i (by have := hG.len; omega)).sees hM.ext.sees) rfl rfl) rfl ?_
      refine Rg.opp (v := nat 0) rfl rfl rfl rfl rfl ?_
      refine Rg.nil ?_
      refine Runs.block ?_
      refine Runs.loop (fun m s Hc => ∃ (j : Nat) (v3 : Value) (es3 : List Nat), m = (nextOf arcs i).length - j ∧ Mem H Hc ([.box q 1 [v3], .sl 1 v3 (List.map encN es3), .sl 1 cv (List.map encN ((List.range names.length).map (fun x => cnt ((nextOf arcs i).drop j) x + cnt (remO arcs (o ++ [i])) x))), .sl 1 ov1 (List.map encN (o ++ [i]))]) ∧ (j ≤ (nextOf arcs i).length) ∧ (Grown v3) ∧ (KahnIn arcs names.length (o ++ [i]) (nextOf arcs i) j es3) ∧ Is s 85 [(0, .pointer (some ⟨gp, 0, none⟩)), (4, cv), (5, .pointer (some ⟨q, 0, none⟩)), (8, ov1), (50, nx[i]), (51, nat ((nextOf arcs i).length)), (52, nat j)]) _
        ⟨0, v1, popR es, rfl, by
        have e : (List.range names.length).map (fun x => cnt ((nextOf arcs i).drop 0) x + cnt (remO arcs (o ++ [i])) x) = (List.range names.length).map (cnt (remO arcs o)) := by
          refine List.map_congr_left fun x _ => ?_
          exact cnt_split arcs o i x (fun h => (List.nodup_append.1 (List.nodup_append.1 hKi.nd).1).2.2 i h i (by simp) rfl)
        rw [e]; exact hM, Nat.zero_le _, hg1, hKi, Is.of ⟨rfl, rfl, rfl, rfl, rfl, rfl, rfl, rfl, rfl, rfl, rfl, rfl, rfl, rfl, trivial⟩⟩ ?_
      rintro m s Hc ⟨j, v3, es3, rfl, hM, hj, hg3, hK3, hs⟩
      obtain ⟨a4, rfl⟩ := hs.mk1
      clear hs
      have h3l := hK3.len
      simp only [List.length_append, List.length_cons, List.length_nil] at h3l
      refine Runs.seq ?_
      refine Runs.region ?_
      by_cases hlt : j < (nextOf arcs i).length
      · skip
        have hup : (nextOf arcs i)[j].up < names.length := wf.up _ (next_mem.1 (List.getElem_mem hlt)).1
        have hpos3 := hK3.pos hlt
        have hc1 := cnt_le ((nextOf arcs i).drop j) (nextOf arcs i)[j].up
        have hc2 := cnt_le (remO arcs (o ++ [i])) (nextOf arcs i)[j].up
        have hc3 : (remO arcs (o ++ [i])).length ≤ arcs.length := List.length_filter_le _ _
        have hc4 := next_len arcs i
        rw [List.length_drop] at hc1
        have h2i : i < nx.length := by omega
        refine Rg.opp (v := .bool true) rfl rfl rfl (ev_ltT rfl rfl (hlt)) rfl ?_
        refine Rg.nil ?_
        refine Runs.seq ?_
        refine Runs.cond true rfl (fun _ => ?_) (fun h => by cases h)
        refine Runs.skip ?_
        refine Runs.seq ?_
        refine Runs.block ?_
        refine Runs.seq ?_
        refine Runs.region ?_
        refine Rg.opp (v := ptrAt (sAddr (nx[i])) (j * 3)) rfl rfl rfl (ev_idxM (k := j) ((hG.each i (by have := hG.len; omega)).sees hM.ext.sees) rfl rfl (hlt) rfl rfl rfl (by decide)) rfl ?_
        refine Rg.opp (v := .agg (arcC ((nextOf arcs i)[j])).toArray) rfl rfl rfl (ev_ldAM (k := j) ((hG.each i (by have := hG.len; omega)).sees hM.ext.sees) rfl (hlt) rfl rfl rfl) rfl ?_
        refine Rg.new (v := fun p => .pointer (some ⟨p, 0, none⟩)) (X := .row 3 [.int .i64 0, .int .i64 0, .int .i64 0] true true) (th := fun p => .box p 3 [.int .i64 0, .int .i64 0, .int .i64 0]) hM rfl rfl rfl rfl rfl rfl (fun _ => rfl) (fun p5 Hc hM _ => ?_)
        refine Rg.stob (j := 0) (cs' := arcC ((nextOf arcs i)[j])) hM rfl rfl rfl rfl rfl rfl rfl rfl rfl rfl (Nat.le_of_ble_eq_true rfl) rfl (fun Hc (hM : Mem H Hc ([.box p5 3 (arcC ((nextOf arcs i)[j])), .box q 1 [v3], .sl 1 v3 (List.map encN es3), .sl 1 cv (List.map encN ((List.range names.length).map (fun x => cnt ((nextOf arcs i).drop j) x + cnt (remO arcs (o ++ [i])) x))), .sl 1 ov1 (List.map encN (o ++ [i]))])) => ?_)
        refine Rg.nil ?_
        refine Runs.seq ?_
        refine Runs.region ?_
        refine Rg.opp (v := cv) rfl rfl rfl rfl rfl ?_
        refine Rg.opp (v := .pointer (some ⟨p5, 2, none⟩)) rfl rfl rfl (ev_fld (o := 0) (p := (3, 2)) rfl rfl rfl rfl rfl (by decide)) rfl ?_
        refine Rg.opp (v := nat ((nextOf arcs i)[j].up)) rfl rfl rfl (ev_ldb (hM.get_box (j := 0) rfl) rfl rfl rfl rfl rfl) rfl ?_
        refine Rg.opp (v := ptrAt (sAddr cv) (((nextOf arcs i)[j].up) * 1)) rfl rfl rfl (ev_idxM (k := (nextOf arcs i)[j].up) (hM.get_sl (j := 3) rfl) rfl rfl (by simpa using hup) rfl rfl rfl (by decide)) rfl ?_
        refine Rg.opp (v := nat (cnt ((nextOf arcs i).drop j) (nextOf arcs i)[j].up + cnt (remO arcs (o ++ [i])) (nextOf arcs i)[j].up)) rfl rfl rfl (ev_ldM (k := ((nextOf arcs i)[j].up)) (hM.get_sl (j := 3) rfl) rfl (by simpa using hup) (by simp) rfl rfl rfl) rfl ?_
        refine Rg.opp (v := nat (cnt ((nextOf arcs i).drop j) (nextOf arcs i)[j].up + cnt (remO arcs (o ++ [i])) (nextOf arcs i)[j].up - 1)) rfl rfl rfl (ev_subN (a := cnt ((nextOf arcs i).drop j) (nextOf arcs i)[j].up + cnt (remO arcs (o ++ [i])) (nextOf arcs i)[j].up) (b := 1) rfl rfl (hpos3) (by omega)) rfl ?_
        refine Rg.opp (v := ptrAt (sAddr cv) (((nextOf arcs i)[j].up) * 1)) rfl rfl rfl (ev_idxM (k := (nextOf arcs i)[j].up) (hM.get_sl (j := 3) rfl) rfl rfl (by simpa using hup) rfl rfl rfl (by decide)) rfl ?_
        refine Rg.stoM (f := encN) (j := 3) (k := ((nextOf arcs i)[j].up)) (cnt ((nextOf arcs i).drop j) (nextOf arcs i)[j].up + cnt (remO arcs (o ++ [i])) (nextOf arcs i)[j].up - 1) hM rfl rfl rfl rfl rfl rfl rfl (by simpa using hup) rfl rfl rfl rfl rfl (fun Hc (hM : Mem H Hc ([.box p5 3 (arcC ((nextOf arcs i)[j])), .box q 1 [v3], .sl 1 v3 (List.map encN es3), .sl 1 cv (List.map encN (((List.range names.length).map (fun x => cnt ((nextOf arcs i).drop j) x + cnt (remO arcs (o ++ [i])) x)).set (((nextOf arcs i)[j].up)) (cnt ((nextOf arcs i).drop j) (nextOf arcs i)[j].up + cnt (remO arcs (o ++ [i])) (nextOf arcs i)[j].up - 1))), .sl 1 ov1 (List.map encN (o ++ [i]))])) => ?_)
        refine Rg.nil ?_
        refine Runs.seq ?_
        refine Runs.region ?_
        refine Rg.opp (v := cv) rfl rfl rfl rfl rfl ?_
        refine Rg.opp (v := .pointer (some ⟨p5, 2, none⟩)) rfl rfl rfl (ev_fld (o := 0) (p := (3, 2)) rfl rfl rfl rfl rfl (by decide)) rfl ?_
        refine Rg.opp (v := nat ((nextOf arcs i)[j].up)) rfl rfl rfl (ev_ldb (hM.get_box (j := 0) rfl) rfl rfl rfl rfl rfl) rfl ?_
        refine Rg.opp (v := ptrAt (sAddr cv) (((nextOf arcs i)[j].up) * 1)) rfl rfl rfl (ev_idxM (k := (nextOf arcs i)[j].up) (hM.get_sl (j := 3) rfl) rfl rfl (by simpa using hup) rfl rfl rfl (by decide)) rfl ?_
        refine Rg.opp (v := nat (cnt ((nextOf arcs i).drop j) (nextOf arcs i)[j].up + cnt (remO arcs (o ++ [i])) (nextOf arcs i)[j].up - 1)) rfl rfl rfl (ev_ldM (k := ((nextOf arcs i)[j].up)) (hM.get_sl (j := 3) rfl) rfl (by simpa using hup) (by simp) rfl rfl rfl) rfl ?_
        by_cases hz3 : cnt ((nextOf arcs i).drop j) (nextOf arcs i)[j].up + cnt (remO arcs (o ++ [i])) (nextOf arcs i)[j].up - 1 = 0
        · skip
          refine Rg.opp (v := .bool true) rfl rfl rfl (ev_eqT rfl rfl (hz3)) rfl ?_
          refine Rg.nil ?_
          refine Runs.cond true rfl (fun _ => ?_) (fun h => by cases h)
          refine Runs.region ?_
          refine Rg.opp (v := .pointer (some ⟨q, 0, none⟩)) rfl rfl rfl rfl rfl ?_
          refine Rg.opp (v := .iface 94 (.pointer (some ⟨q, 0, none⟩))) rfl rfl rfl rfl rfl ?_
          refine Rg.opp (v := .pointer (some ⟨p5, 2, none⟩)) rfl rfl rfl (ev_fld (o := 0) (p := (3, 2)) rfl rfl rfl rfl rfl (by decide)) rfl ?_
          refine Rg.opp (v := nat ((nextOf arcs i)[j].up)) rfl rfl rfl (ev_ldb (hM.get_box (j := 0) rfl) rfl rfl rfl rfl rfl) rfl ?_
          refine Rg.opp (v := .iface 3 (nat ((nextOf arcs i)[j].up))) rfl rfl rfl rfl rfl ?_
          refine Rg.callW rfl rfl rfl rfl (rfl) rfl (push_runs (x := (nextOf arcs i)[j].up) (perm1 hM) (by omega)) (fun r5 Hc hP => ?_)
          obtain ⟨v4, hM, hg4⟩ := hP
          replace hM := perm2 hM
          refine Rg.nil ?_
          refine Runs.region ?_
          refine Rg.opp (v := nat (j + 1)) rfl rfl rfl (ev_addN (b := 1) rfl rfl (by omega)) rfl ?_
          refine Rg.opp (v := nat (j + 1)) rfl rfl rfl rfl rfl ?_
          refine Rg.nil ?_
          refine ⟨(nextOf arcs i).length - (j + 1), by omega, j + 1, v4, pushF es3 (nextOf arcs i)[j].up, rfl, by rw [← cnt_next hlt hup]; exact hM.tail, hlt, hg4, hK3.push hlt hup hz3, Is.of ⟨rfl, rfl, rfl, rfl, rfl, rfl, rfl, rfl, rfl, rfl, rfl, rfl, rfl, rfl, trivial⟩⟩
        · skip
          refine Rg.opp (v := .bool false) rfl rfl rfl (ev_eqF rfl rfl (hz3)) rfl ?_
          refine Rg.nil ?_
          refine Runs.cond false rfl (fun h => by cases h) (fun _ => ?_)
          refine Runs.skip ?_
          refine Runs.region ?_
          refine Rg.opp (v := nat (j + 1)) rfl rfl rfl (ev_addN (b := 1) rfl rfl (by omega)) rfl ?_
          refine Rg.opp (v := nat (j + 1)) rfl rfl rfl rfl rfl ?_
          refine Rg.nil ?_
          refine ⟨(nextOf arcs i).length - (j + 1), by omega, j + 1, v3, es3, rfl, by rw [← cnt_next hlt hup]; exact hM.tail, hlt, hg3, hK3.same hlt hz3, Is.of ⟨rfl, rfl, rfl, rfl, rfl, rfl, rfl, rfl, rfl, rfl, rfl, rfl, rfl, rfl, trivial⟩⟩
      · skip
        have hje : j = (nextOf arcs i).length := by omega
        subst hje
        refine Rg.opp (v := .bool false) rfl rfl rfl (ev_ltF rfl rfl (hlt)) rfl ?_
        refine Rg.nil ?_
        refine Runs.seq ?_
        refine Runs.cond false rfl (fun h => by cases h) (fun _ => ?_)
        refine Runs.exit ?_
        refine ⟨names.length - (o ++ [i]).length, by have := hK3.done.len; simp only [List.length_append, List.length_cons, List.length_nil] at this ⊢; omega, v3, es3, ov1, o ++ [i], rfl, by simp only [List.drop_length, cnt_nil, Nat.zero_add] at hM; exact hM, hg3, hgo1, hK3.done, Is.of ⟨rfl, rfl, rfl, rfl, rfl, rfl, rfl, rfl, trivial⟩⟩
    · skip
      refine Rg.opp (v := .bool false) rfl rfl rfl (ev_gtF rfl rfl (hpos)) rfl ?_
      refine Rg.nil ?_
      refine Runs.cond false rfl (fun h => by cases h) (fun _ => ?_)
      refine Runs.exit ?_
      refine Runs.seq ?_
      refine Runs.drawn (is := [0, 1, 2, 3, 4, 5, 6, 7, 8, 9, 10]) (by decide +kernel) ?_
      refine Rg.opp (v := ov) rfl rfl rfl rfl rfl ?_
      refine Rg.opp (v := ov) rfl rfl rfl rfl rfl ?_
      refine Rg.opp (v := nat o.length) rfl rfl rfl (ev_lenM (hM.get_sl (j := 3) rfl) rfl rfl) rfl ?_
      refine Rg.opp (v := .pointer (some ⟨gp, 0, none⟩)) rfl rfl rfl rfl rfl ?_
      refine Rg.opp (v := .pointer (some ⟨gp, 0, none⟩)) rfl rfl rfl rfl rfl ?_
      refine Rg.opp (v := .pointer (some ⟨gp, 0, none⟩)) rfl rfl rfl (ev_fld (o := 0) (p := (37, 0)) rfl rfl rfl rfl rfl (by decide)) rfl ?_
      refine Rg.opp (v := an) rfl rfl rfl (ev_ldb (hM.ext.get hG.box) rfl rfl rfl rfl rfl) rfl ?_
      refine Rg.opp (v := nat names.length) rfl rfl rfl (ev_lenM (hG.hnames.sees hM.ext.sees) rfl rfl) rfl ?_
      by_cases hall : o.length = names.length
      · skip
        refine Rg.opp (v := .bool true) rfl rfl rfl (ev_eqT rfl rfl (hall)) rfl ?_
        refine Rg.opp (v := ov) rfl rfl rfl rfl rfl ?_
        refine Rg.opp (v := .bool true) rfl rfl rfl rfl rfl ?_
        refine Rg.nil ?_
        refine Runs.ret ?_
        refine ⟨.tuple #[ov, .bool true], rfl, ?_⟩
        have he : es = [] := by
          cases es with
          | nil => rfl
          | cons e es => simp at hpos
        subst he
        exact ⟨ov, o, by rw [decide_eq_true hall], hM.drop 3, hK⟩
      · skip
        refine Rg.opp (v := .bool false) rfl rfl rfl (ev_eqF rfl rfl (hall)) rfl ?_
        refine Rg.opp (v := ov) rfl rfl rfl rfl rfl ?_
        refine Rg.opp (v := .bool false) rfl rfl rfl rfl rfl ?_
        refine Rg.nil ?_
        refine Runs.ret ?_
        refine ⟨.tuple #[ov, .bool false], rfl, ?_⟩
        have he : es = [] := by
          cases es with
          | nil => rfl
          | cons e es => simp at hpos
        subst he
        exact ⟨ov, o, by rw [decide_eq_false hall], hM.drop 3, hK⟩


end Go.Proofs.Ytdhbclplondmjaa.C

end

section
/- The law's reach, run. -/
set_option linter.unusedVariables false
set_option linter.unusedSimpArgs false
set_option maxRecDepth 100000
set_option maxHeartbeats 4000000
namespace Go.Proofs.Ytdhbclplondmjaa.C
open Go.RowKit Go.Sort

theorem reach_runs {H : Heap} {v : Value} {l : List Rel} (hl : Sl H 3 v (rels l)) (hll : l.length ≤ 2 ^ 16) (hn : (unitsP l).length ≤ 2 ^ 17) :
    ∃ r H1, big tab 14 [v] H = some (r, H1) ∧ Ext H H1 ∧ ∃ (ov : List Value) (mm : Nat → Nat → Nat), Sl H1 1 r (List.map encV ov) ∧ ov.length = (unitsP l).length ∧ (∀ c (h : c < ov.length), Sl H1 1 ov[c] (((List.range (unitsP l).length).map (mm c)).map encN)) ∧ ∀ c b, Far (prs (arcsOf l)) 8 c b (mm c b) := by
  refine big_of_runs rfl rfl rfl ?_
  obtain ⟨z, hz⟩ := startC_mkS Try.f14 [v]
  rw [show startC (14, Try.f14).snd [v] = _ from hz]
  clear hz
  refine Runs.cut (n := 134) (l := [(0, v)]) (Is.of ⟨rfl, rfl, trivial⟩) (fun a0 => ?_)
  refine Runs.seq ?_
  refine Runs.region ?_
  refine Rg.opp (v := .slice none 0 0) rfl rfl rfl rfl rfl ?_
  refine Rg.nil ?_
  refine Runs.seq ?_
  refine Runs.region ?_
  refine Rg.opp (v := v) rfl rfl rfl rfl rfl ?_
  refine Rg.callW rfl rfl rfl rfl (rfl) rfl (lawUnits_runs hl (by omega)) (fun r Hu hP => ?_)
  obtain ⟨heu, p0, hus'⟩ := hP
  rw [← units_eq] at hus'
  have hus : Sl Hu 1 r ((unitsP l).map encS) := hus'.sl (by rw [strs_len]; unfold unk; omega)
  have hM := Mem.start Hu
  refine Rg.opp (v := r) rfl rfl rfl rfl rfl ?_
  refine Rg.nil ?_
  refine Runs.seq ?_
  refine Runs.region ?_
  refine Rg.opp (v := r) rfl rfl rfl rfl rfl ?_
  refine Rg.opp (v := nat ((unitsP l).length)) rfl rfl rfl (ev_lenM (hus.sees hM.ext.sees) rfl rfl) rfl ?_
  refine Rg.make (f := encV) (sz := 1) (m := (unitsP l).length) (.slice none 0 0) hM rfl rfl rfl rfl rfl rfl rfl rfl rfl (by decide) rfl rfl rfl (by show (unitsP l).length * 24 ≤ 2 ^ 40; omega) (by omega) (fun ow0 Hc (hM : Mem Hu Hc ([.sl 1 ow0 (List.map encV (List.replicate ((unitsP l).length) (.slice none 0 0)))])) _ => ?_)
  refine Rg.opp (v := ow0) rfl rfl rfl rfl rfl ?_
  refine Rg.nil ?_
  refine Runs.seq ?_
  refine Runs.seq ?_
  refine Runs.region ?_
  refine Rg.opp (v := nat 0) rfl rfl rfl rfl rfl ?_
  refine Rg.nil ?_
  refine Runs.block ?_
  refine Runs.loop (fun m s Hc => ∃ (i : Nat) (ov : List Value), m = (unitsP l).length - i ∧ Mem Hu Hc ((.sl 1 ow0 (List.map encV ov)) :: (rowsT ov (mat (unitsP l).length (fun _ _ => 0) i))) ∧ (i ≤ (unitsP l).length) ∧ (ov.length = (unitsP l).length) ∧ Is s 134 [(0, v), (3, r), (4, ow0), (5, nat i)]) _
    ⟨0, List.replicate (unitsP l).length (.slice none 0 0), rfl, by have h := hM.addNil 1 (unitsP l).length; rw [rowsT_nil (unitsP l).length (fun _ _ => 0)] at h; exact h, Nat.zero_le _, by simp, Is.of ⟨rfl, rfl, rfl, rfl, rfl, rfl, rfl, rfl, trivial⟩⟩ ?_
  rintro m s Hc ⟨i, ov, rfl, hM, hi, hov, hs⟩
  obtain ⟨a1, rfl⟩ := hs.mk1
  clear hs
  refine Runs.seq ?_
  refine Runs.seq ?_
  refine Runs.region ?_
  refine Rg.opp (v := nat i) rfl rfl rfl rfl rfl ?_
  refine Rg.opp (v := r) rfl rfl rfl rfl rfl ?_
  refine Rg.opp (v := nat ((unitsP l).length)) rfl rfl rfl (ev_lenM (hus.sees hM.ext.sees) rfl rfl) rfl ?_
  by_cases hlt : i < (unitsP l).length
  · skip
    refine Rg.opp (v := .bool true) rfl rfl rfl (ev_ltT rfl rfl (hlt)) rfl ?_
    refine Rg.nil ?_
    refine Runs.cond true rfl (fun _ => ?_) (fun h => by cases h)
    refine Runs.skip ?_
    refine Runs.seq ?_
    refine Runs.block ?_
    refine Runs.region ?_
    refine Rg.opp (v := ow0) rfl rfl rfl rfl rfl ?_
    refine Rg.opp (v := nat i) rfl rfl rfl rfl rfl ?_
    refine Rg.opp (v := r) rfl rfl rfl rfl rfl ?_
    refine Rg.opp (v := nat ((unitsP l).length)) rfl rfl rfl (ev_lenM (hus.sees hM.ext.sees) rfl rfl) rfl ?_
    refine Rg.make (f := encN) (sz := 1) (m := (unitsP l).length) 0 hM rfl rfl rfl rfl rfl rfl rfl rfl rfl (by decide) rfl rfl rfl (by show (unitsP l).length * 8 ≤ 2 ^ 40; omega) (by omega) (fun u Hc (hM : Mem Hu Hc ((.sl 1 u (List.map encN (List.replicate ((unitsP l).length) 0))) :: (.sl 1 ow0 (List.map encV ov)) :: (rowsT ov (mat (unitsP l).length (fun _ _ => 0) i)))) _ => ?_)
    refine Rg.opp (v := ptrAt (sAddr ow0) (i * 1)) rfl rfl rfl (ev_idxM (k := i) (hM.get_sl (j := 1) rfl) rfl rfl (by omega) rfl rfl rfl (by decide)) rfl ?_
    refine Rg.stoM (f := encV) (j := 1) (k := i) u hM rfl rfl rfl rfl rfl rfl rfl (by omega) rfl (hM.get_sl (j := 0) rfl).one.1 rfl rfl (by simp [(hM.get_sl (j := 0) rfl).one.2.1]) (fun Hc (hM : Mem Hu Hc ((.sl 1 u (List.map encN (List.replicate ((unitsP l).length) 0))) :: (.sl 1 ow0 (List.map encV ((ov).set i u))) :: (rowsT ov (mat (unitsP l).length (fun _ _ => 0) i)))) => ?_)
    refine Rg.nil ?_
    refine Runs.region ?_
    refine Rg.opp (v := nat i) rfl rfl rfl rfl rfl ?_
    refine Rg.opp (v := nat (i + 1)) rfl rfl rfl (ev_addN (b := 1) rfl rfl (by omega)) rfl ?_
    refine Rg.opp (v := nat (i + 1)) rfl rfl rfl rfl rfl ?_
    refine Rg.nil ?_
    refine ⟨(unitsP l).length - (i + 1), by omega, i + 1, ov.set i u, rfl, by
      have h := hM.mv (i + 1)
      rw [← rowsT_up hov hlt (xs := List.replicate (unitsP l).length 0) (by rw [List.map_const', List.length_range])]
      exact h, hlt, by simpa using hov, Is.of ⟨rfl, rfl, rfl, rfl, rfl, rfl, rfl, rfl, trivial⟩⟩
  · skip
    replace hM : Mem Hu Hc ((.sl 1 ow0 (List.map encV ov)) :: (rowsT ov (mat (unitsP l).length (fun _ _ => 0) (unitsP l).length))) := by
      have e : i = (unitsP l).length := by omega
      have h := hM
      rw [show rowsT ov (mat (unitsP l).length (fun _ _ => 0) i) = rowsT ov (mat (unitsP l).length (fun _ _ => 0) (unitsP l).length) by rw [e]] at h; exact h
    refine Rg.opp (v := .bool false) rfl rfl rfl (ev_ltF rfl rfl (hlt)) rfl ?_
    refine Rg.nil ?_
    refine Runs.cond false rfl (fun h => by cases h) (fun _ => ?_)
    refine Runs.exit ?_
    refine Runs.seq ?_
    refine Runs.seq ?_
    refine Runs.region ?_
    refine Rg.opp (v := nat 1) rfl rfl rfl rfl rfl ?_
    refine Rg.nil ?_
    refine Runs.block ?_
    refine Runs.loop (fun m s Hc => ∃ (kk : Nat) (ow : Value) (ov : List Value) (mm : Nat → Nat → Nat), m = 8 - kk ∧ Mem Hu Hc ((.sl 1 ow (List.map encV ov)) :: (rowsT ov (mat (unitsP l).length mm (unitsP l).length))) ∧ (kk ≤ 8) ∧ (ov.length = (unitsP l).length) ∧ (∀ c b, Far (prs (arcsOf l)) kk c b (mm c b)) ∧ Is s 134 [(0, v), (3, r), (4, ow), (6, nat (kk + 1))]) _
      ⟨0, ow0, ov, fun _ _ => 0, rfl, hM, by omega, hov, fun c b => .inl ⟨rfl, fun j h1 h2 => by omega⟩, Is.of ⟨rfl, rfl, rfl, rfl, rfl, rfl, rfl, rfl, trivial⟩⟩ ?_
    rintro m s Hc ⟨kk, ow, ov, mm, rfl, hM, hkk, hov, hF, hs⟩
    obtain ⟨a2, rfl⟩ := hs.mk1
    clear hs
    have hm7 : kk < 8 → ∀ c a, mm c a ≤ 7 := fun h c a => by have := (hF c a).le; omega
    have hm0 : ∀ c, (unitsP l).length ≤ c → ∀ b, mm c b = 0 := fun c hc b => (hF c b).zero (fun p hp => by obtain ⟨a, ha, rfl⟩ := List.mem_map.1 hp; exact (arcs_wf l).lo a ha) hc
    refine Runs.seq ?_
    refine Runs.seq ?_
    refine Runs.region ?_
    refine Rg.opp (v := nat (kk + 1)) rfl rfl rfl rfl rfl ?_
    by_cases h8 : kk + 1 ≤ 8
    · skip
      refine Rg.opp (v := .bool true) rfl rfl rfl (ev_leT rfl rfl (h8)) rfl ?_
      refine Rg.nil ?_
      refine Runs.cond true rfl (fun _ => ?_) (fun h => by cases h)
      refine Runs.skip ?_
      refine Runs.seq ?_
      refine Runs.block ?_
      refine Runs.seq ?_
      refine Runs.region ?_
      refine Rg.opp (v := r) rfl rfl rfl rfl rfl ?_
      refine Rg.opp (v := nat ((unitsP l).length)) rfl rfl rfl (ev_lenM (hus.sees hM.ext.sees) rfl rfl) rfl ?_
      refine Rg.make (f := encV) (sz := 1) (m := (unitsP l).length) (.slice none 0 0) hM rfl rfl rfl rfl rfl rfl rfl rfl rfl (by decide) rfl rfl rfl (by show (unitsP l).length * 24 ≤ 2 ^ 40; omega) (by omega) (fun nw0 Hc (hM : Mem Hu Hc ((.sl 1 nw0 (List.map encV (List.replicate ((unitsP l).length) (.slice none 0 0)))) :: (.sl 1 ow (List.map encV ov)) :: (rowsT ov (mat (unitsP l).length mm (unitsP l).length)))) _ => ?_)
      refine Rg.opp (v := nw0) rfl rfl rfl rfl rfl ?_
      refine Rg.nil ?_
      refine Runs.seq ?_
      refine Runs.seq ?_
      refine Runs.region ?_
      refine Rg.opp (v := nat 0) rfl rfl rfl rfl rfl ?_
      refine Rg.nil ?_
      refine Runs.block ?_
      refine Runs.loop (fun m s Hc => ∃ (i : Nat) (nv : List Value), m = (unitsP l).length - i ∧ Mem Hu Hc ((.sl 1 nw0 (List.map encV nv)) :: (.sl 1 ow (List.map encV ov)) :: (rowsT ov (mat (unitsP l).length mm (unitsP l).length) ++ rowsT nv (mat (unitsP l).length mm i))) ∧ (i ≤ (unitsP l).length) ∧ (nv.length = (unitsP l).length) ∧ Is s 134 [(0, v), (3, r), (4, ow), (6, nat (kk + 1)), (7, nw0), (8, nat i)]) _
        ⟨0, List.replicate (unitsP l).length (.slice none 0 0), rfl, by have h := hM.addNil 1 (unitsP l).length; rw [rowsT_nil (unitsP l).length mm] at h; exact h, Nat.zero_le _, by simp, Is.of ⟨rfl, rfl, rfl, rfl, rfl, rfl, rfl, rfl, rfl, rfl, rfl, rfl, trivial⟩⟩ ?_
      rintro m s Hc ⟨i, nv, rfl, hM, hi, hnv, hs⟩
      obtain ⟨a3, rfl⟩ := hs.mk1
      clear hs
      refine Runs.seq ?_
      refine Runs.seq ?_
      refine Runs.region ?_
      refine Rg.opp (v := nat i) rfl rfl rfl rfl rfl ?_
      refine Rg.opp (v := r) rfl rfl rfl rfl rfl ?_
      refine Rg.opp (v := nat ((unitsP l).length)) rfl rfl rfl (ev_lenM (hus.sees hM.ext.sees) rfl rfl) rfl ?_
      by_cases hlt : i < (unitsP l).length
      · skip
        refine Rg.opp (v := .bool true) rfl rfl rfl (ev_ltT rfl rfl (hlt)) rfl ?_
        refine Rg.nil ?_
        refine Runs.cond true rfl (fun _ => ?_) (fun h => by cases h)
        refine Runs.skip ?_
        refine Runs.seq ?_
        refine Runs.block ?_
        refine Runs.region ?_
        refine Rg.opp (v := nw0) rfl rfl rfl rfl rfl ?_
        refine Rg.opp (v := nat i) rfl rfl rfl rfl rfl ?_
        refine Rg.lit (f := encN) (sz := 1) (xs := ([] : List Nat)) hM rfl rfl rfl rfl rfl (by simp) (by simp) (fun u4 Hc (hM : Mem Hu Hc ((.sl 1 u4 (List.map encN (([] : List Nat)))) :: (.sl 1 nw0 (List.map encV nv)) :: (.sl 1 ow (List.map encV ov)) :: (rowsT ov (mat (unitsP l).length mm (unitsP l).length) ++ rowsT nv (mat (unitsP l).length mm i)))) _ => ?_)
        refine Rg.opp (v := ow) rfl rfl rfl rfl rfl ?_
        refine Rg.opp (v := nat i) rfl rfl rfl rfl rfl ?_
        refine Rg.opp (v := ptrAt (sAddr ow) (i * 1)) rfl rfl rfl (ev_idxM (k := i) (hM.get_sl (j := 2) rfl) rfl rfl (by omega) rfl rfl rfl (by decide)) rfl ?_
        refine Rg.opp (v := ov[i]) rfl rfl rfl (ev_ldM (k := i) (hM.get_sl (j := 2) rfl) rfl (by omega) rfl rfl rfl rfl) rfl ?_
        refine Rg.appM (f := encN) (sz := 1) (j := 0) (v := u4) (xs := ([] : List Nat)) (ys := (List.range (unitsP l).length).map (mm i)) hM rfl rfl rfl rfl rfl rfl rfl (hM.get_sl (j := i + 3) (show (rowsT ov (mat (unitsP l).length mm (unitsP l).length) ++ rowsT nv (mat (unitsP l).length mm i))[i]? = _ from (List.getElem?_append_left (by rw [rowsT_len hov]; omega)).trans (rowsT_get hov (by omega) (by omega)))) ⟨rfl, rfl, rfl, by decide⟩ rfl (by simp [oneCell]) (by show (_ + _) * 8 ≤ 2 ^ 40; simp; omega) (by intro e; have := congrArg List.length e; simp only [List.length_map, List.length_range, List.length_nil] at this; omega) (fun u Hc (hM : Mem Hu Hc ((.sl 1 u (List.map encN ((([] : List Nat)) ++ ((List.range (unitsP l).length).map (mm i))))) :: (.sl 1 nw0 (List.map encV nv)) :: (.sl 1 ow (List.map encV ov)) :: (rowsT ov (mat (unitsP l).length mm (unitsP l).length) ++ rowsT nv (mat (unitsP l).length mm i)))) hgr => ?_)
        refine Rg.opp (v := ptrAt (sAddr nw0) (i * 1)) rfl rfl rfl (ev_idxM (k := i) (hM.get_sl (j := 1) rfl) rfl rfl (by omega) rfl rfl rfl (by decide)) rfl ?_
        refine Rg.stoM (f := encV) (j := 1) (k := i) u hM rfl rfl rfl rfl rfl rfl rfl (by omega) rfl hgr.one.1 rfl rfl (by simp [hgr.one.2.1]) (fun Hc (hM : Mem Hu Hc ((.sl 1 u (List.map encN ((([] : List Nat)) ++ ((List.range (unitsP l).length).map (mm i))))) :: (.sl 1 nw0 (List.map encV ((nv).set i u))) :: (.sl 1 ow (List.map encV ov)) :: (rowsT ov (mat (unitsP l).length mm (unitsP l).length) ++ rowsT nv (mat (unitsP l).length mm i)))) => ?_)
        refine Rg.nil ?_
        refine Runs.region ?_
        refine Rg.opp (v := nat i) rfl rfl rfl rfl rfl ?_
        refine Rg.opp (v := nat (i + 1)) rfl rfl rfl (ev_addN (b := 1) rfl rfl (by omega)) rfl ?_
        refine Rg.opp (v := nat (i + 1)) rfl rfl rfl rfl rfl ?_
        refine Rg.nil ?_
        refine ⟨(unitsP l).length - (i + 1), by omega, i + 1, nv.set i u, rfl, by
          have h := hM.mv ((unitsP l).length + i + 2)
          rw [← rowsT_up (c := i) hnv hlt (xs := [] ++ (List.range (unitsP l).length).map (mm i)) (by simp)]
          have e0 : (rowsT ov (mat (unitsP l).length mm (unitsP l).length) ++ rowsT nv (mat (unitsP l).length mm i)).set ((unitsP l).length + i) (.sl 1 u (List.map encN ([] ++ (List.range (unitsP l).length).map (mm i)))) = rowsT ov (mat (unitsP l).length mm (unitsP l).length) ++ (rowsT nv (mat (unitsP l).length mm i)).set i (.sl 1 u (List.map encN ([] ++ (List.range (unitsP l).length).map (mm i)))) := by
            rw [List.set_append_right _ _ (by rw [rowsT_len hov]; omega), rowsT_len hov, Nat.add_sub_cancel_left]
          rw [← e0]
          exact h, hlt, by simpa using hnv, Is.of ⟨rfl, rfl, rfl, rfl, rfl, rfl, rfl, rfl, rfl, rfl, rfl, rfl, trivial⟩⟩
      · skip
        replace hM : Mem Hu Hc ((.sl 1 nw0 (List.map encV nv)) :: (.sl 1 ow (List.map encV ov)) :: (rowsT ov (mat (unitsP l).length mm (unitsP l).length) ++ rowsT nv (mat (unitsP l).length mm (unitsP l).length))) := by
          have e : i = (unitsP l).length := by omega
          have h := hM
          rw [show rowsT nv (mat (unitsP l).length mm i) = rowsT nv (mat (unitsP l).length mm (unitsP l).length) by rw [e]] at h; exact h
        refine Rg.opp (v := .bool false) rfl rfl rfl (ev_ltF rfl rfl (hlt)) rfl ?_
        refine Rg.nil ?_
        refine Runs.cond false rfl (fun h => by cases h) (fun _ => ?_)
        refine Runs.exit ?_
        refine Runs.seq ?_
        refine Runs.seq ?_
        refine Runs.region ?_
        refine Rg.opp (v := nat 0) rfl rfl rfl rfl rfl ?_
        refine Rg.nil ?_
        refine Runs.block ?_
        refine Runs.loop (fun m s Hc => ∃ (i : Nat) (m' : Nat → Nat → Nat), m = l.length - i ∧ Mem Hu Hc ((.sl 1 nw0 (List.map encV nv)) :: (.sl 1 ow (List.map encV ov)) :: (rowsT ov (mat (unitsP l).length mm (unitsP l).length) ++ rowsT nv (mat (unitsP l).length m' (unitsP l).length))) ∧ (i ≤ l.length) ∧ (Part mm (prs (arcsUp l i)) m') ∧ Is s 134 [(0, v), (3, r), (4, ow), (6, nat (kk + 1)), (7, nw0), (9, nat i)]) _
          ⟨0, mm, rfl, hM, Nat.zero_le _, Part.start mm, Is.of ⟨rfl, rfl, rfl, rfl, rfl, rfl, rfl, rfl, rfl, rfl, rfl, rfl, trivial⟩⟩ ?_
        rintro m s Hc ⟨i, m', rfl, hM, hi2, hP, hs⟩
        obtain ⟨a5, rfl⟩ := hs.mk1
        clear hs
        refine Runs.seq ?_
        refine Runs.seq ?_
        refine Runs.region ?_
        refine Rg.opp (v := nat i) rfl rfl rfl rfl rfl ?_
        refine Rg.opp (v := v) rfl rfl rfl rfl rfl ?_
        refine Rg.opp (v := nat l.length) rfl rfl rfl (ev_lenM ((hl.sees heu.sees).sees hM.ext.sees) rfl rfl) rfl ?_
        by_cases hlt : i < l.length
        · skip
          have hlo : idx (unitsP l) l[i].lo < (unitsP l).length := idx_lt (mem_unitsP.2 (mem_names_lo (List.getElem_mem hlt)))
          have hup : idx (unitsP l) l[i].up < (unitsP l).length := idx_lt (mem_unitsP.2 (mem_names_up (List.getElem_mem hlt)))
          refine Rg.opp (v := .bool true) rfl rfl rfl (ev_ltT rfl rfl (hlt)) rfl ?_
          refine Rg.nil ?_
          refine Runs.cond true rfl (fun _ => ?_) (fun h => by cases h)
          refine Runs.skip ?_
          refine Runs.seq ?_
          refine Runs.block ?_
          refine Runs.seq ?_
          refine Runs.seq ?_
          refine Runs.region ?_
          refine Rg.opp (v := v) rfl rfl rfl rfl rfl ?_
          refine Rg.opp (v := nat i) rfl rfl rfl rfl rfl ?_
          refine Rg.opp (v := ptrAt (sAddr v) (i * 3)) rfl rfl rfl (ev_idxM (k := i) ((hl.sees heu.sees).sees hM.ext.sees) rfl rfl (hlt) rfl rfl rfl (by decide)) rfl ?_
          refine Rg.opp (v := .agg (relC (l[i])).toArray) rfl rfl rfl (ev_ldAM (k := i) ((hl.sees heu.sees).sees hM.ext.sees) rfl (hlt) rfl rfl rfl) rfl ?_
          by_cases hkd : l[i].kind = 4
          · skip
            refine Rg.calls (v := .bool false) rfl rfl rfl rfl (rfl) rfl (arc_F _ _ _ hkd) ?_
            refine Rg.opp (v := .bool true) rfl rfl rfl rfl rfl ?_
            refine Rg.nil ?_
            refine Runs.cond true rfl (fun _ => ?_) (fun h => by cases h)
            refine Runs.exit ?_
            refine Runs.region ?_
            refine Rg.opp (v := nat i) rfl rfl rfl rfl rfl ?_
            refine Rg.opp (v := nat (i + 1)) rfl rfl rfl (ev_addN (b := 1) rfl rfl (by omega)) rfl ?_
            refine Rg.opp (v := nat (i + 1)) rfl rfl rfl rfl rfl ?_
            refine Rg.nil ?_
            refine ⟨l.length - (i + 1), by omega, i + 1, m', rfl, hM, hlt, by rw [arcsUp_succ hlt, if_pos hkd]; exact hP, Is.of ⟨rfl, rfl, rfl, rfl, rfl, rfl, rfl, rfl, rfl, rfl, rfl, rfl, trivial⟩⟩
          · skip
            refine Rg.calls (v := .bool true) rfl rfl rfl rfl (rfl) rfl (arc_T _ _ _ hkd) ?_
            refine Rg.opp (v := .bool false) rfl rfl rfl rfl rfl ?_
            refine Rg.nil ?_
            refine Runs.cond false rfl (fun h => by cases h) (fun _ => ?_)
            refine Runs.skip ?_
            refine Runs.seq ?_
            refine Runs.drawn (is := [0, 1, 2, 3, 4, 5, 6, 7, 8, 9, 10, 11, 12, 13, 14, 15]) (by decide +kernel) ?_
            refine Rg.opp (v := r) rfl rfl rfl rfl rfl ?_
            refine Rg.opp (v := v) rfl rfl rfl rfl rfl ?_
            refine Rg.opp (v := nat i) rfl rfl rfl rfl rfl ?_
            refine Rg.opp (v := ptrAt (sAddr v) (i * 3)) rfl rfl rfl (ev_idxM (k := i) ((hl.sees heu.sees).sees hM.ext.sees) rfl rfl (hlt) rfl rfl rfl (by decide)) rfl ?_
            refine Rg.opp (v := ptrAt (sAddr v) (i * 3 + 2)) rfl rfl rfl (ev_fldM (k := i) (m := i * 3) (q := (9, 2)) ((hl.sees heu.sees).sees hM.ext.sees) rfl (hlt) rfl rfl rfl rfl (by decide)) rfl ?_
            refine Rg.opp (v := str (l[i].lo)) rfl rfl rfl (ev_ldfM (k := i) ((hl.sees heu.sees).sees hM.ext.sees) rfl (hlt) rfl rfl rfl rfl) rfl ?_
            refine Rg.calls (v := nat (idx (unitsP l) l[i].lo)) rfl rfl rfl rfl (rfl) rfl (quiet_same (index_mem ((hus.sees hM.ext.sees).sees (Sees.freeze _)) (mem_unitsP.2 (mem_names_lo (List.getElem_mem hlt))) (by omega))) ?_
            refine Rg.opp (v := r) rfl rfl rfl rfl rfl ?_
            refine Rg.opp (v := v) rfl rfl rfl rfl rfl ?_
            refine Rg.opp (v := nat i) rfl rfl rfl rfl rfl ?_
            refine Rg.opp (v := ptrAt (sAddr v) (i * 3)) rfl rfl rfl (ev_idxM (k := i) ((hl.sees heu.sees).sees hM.ext.sees) rfl rfl (hlt) rfl rfl rfl (by decide)) rfl ?_
            refine Rg.opp (v := ptrAt (sAddr v) (i * 3 + 1)) rfl rfl rfl (ev_fldM (k := i) (m := i * 3) (q := (9, 1)) ((hl.sees heu.sees).sees hM.ext.sees) rfl (hlt) rfl rfl rfl rfl (by decide)) rfl ?_
            refine Rg.opp (v := str (l[i].up)) rfl rfl rfl (ev_ldfM (k := i) ((hl.sees heu.sees).sees hM.ext.sees) rfl (hlt) rfl rfl rfl rfl) rfl ?_
            refine Rg.calls (v := nat (idx (unitsP l) l[i].up)) rfl rfl rfl rfl (rfl) rfl (quiet_same (index_mem ((hus.sees hM.ext.sees).sees (Sees.freeze _)) (mem_unitsP.2 (mem_names_up (List.getElem_mem hlt))) (by omega))) ?_
            refine Rg.opp (v := nat (idx (unitsP l) l[i].lo)) rfl rfl rfl rfl rfl ?_
            refine Rg.opp (v := nat (idx (unitsP l) l[i].up)) rfl rfl rfl rfl rfl ?_
            refine Rg.nil ?_
            refine Runs.seq ?_
            refine Runs.region ?_
            refine Rg.opp (v := nat 0) rfl rfl rfl rfl rfl ?_
            refine Rg.nil ?_
            refine Runs.block ?_
            refine Runs.loop (fun m s Hc => ∃ (c : Nat), m = (unitsP l).length - c ∧ Mem Hu Hc ((.sl 1 nw0 (List.map encV nv)) :: (.sl 1 ow (List.map encV ov)) :: (rowsT ov (mat (unitsP l).length mm (unitsP l).length) ++ rowsT nv (mat (unitsP l).length (updC mm m' (idx (unitsP l) l[i].lo) (idx (unitsP l) l[i].up) c) (unitsP l).length))) ∧ (c ≤ (unitsP l).length) ∧ Is s 134 [(0, v), (3, r), (4, ow), (6, nat (kk + 1)), (7, nw0), (9, nat i), (10, nat (idx (unitsP l) l[i].lo)), (11, nat (idx (unitsP l) l[i].up)), (12, nat c)]) _
              ⟨0, rfl, by rw [updC_zero]; exact hM, Nat.zero_le _, Is.of ⟨rfl, rfl, rfl, rfl, rfl, rfl, rfl, rfl, rfl, rfl, rfl, rfl, rfl, rfl, rfl, rfl, rfl, rfl, trivial⟩⟩ ?_
            rintro m s Hc ⟨c, rfl, hM, hc, hs⟩
            obtain ⟨a6, rfl⟩ := hs.mk1
            clear hs
            refine Runs.seq ?_
            refine Runs.seq ?_
            refine Runs.region ?_
            refine Rg.opp (v := nat c) rfl rfl rfl rfl rfl ?_
            refine Rg.opp (v := r) rfl rfl rfl rfl rfl ?_
            refine Rg.opp (v := nat ((unitsP l).length)) rfl rfl rfl (ev_lenM (hus.sees hM.ext.sees) rfl rfl) rfl ?_
            by_cases hc8 : c < (unitsP l).length
            · skip
              refine Rg.opp (v := .bool true) rfl rfl rfl (ev_ltT rfl rfl (hc8)) rfl ?_
              refine Rg.nil ?_
              refine Runs.cond true rfl (fun _ => ?_) (fun h => by cases h)
              refine Runs.skip ?_
              refine Runs.seq ?_
              refine Runs.block ?_
              refine Runs.seq ?_
              refine Runs.seq ?_
              refine Runs.region ?_
              refine Rg.opp (v := nat c) rfl rfl rfl rfl rfl ?_
              refine Rg.opp (v := nat (idx (unitsP l) l[i].lo)) rfl rfl rfl rfl rfl ?_
              by_cases h7 : c = idx (unitsP l) l[i].lo
              · skip
                refine Rg.opp (v := .bool true) rfl rfl rfl (ev_eqT rfl rfl (h7)) rfl ?_
                refine Rg.nil ?_
                refine Runs.cond true rfl (fun _ => ?_) (fun h => by cases h)
                refine Runs.drawn (is := [0, 1, 2, 3, 4, 5, 6, 7, 8, 9, 10, 11, 12, 13, 14]) (by decide +kernel) ?_
                refine Rg.opp (v := nw0) rfl rfl rfl rfl rfl ?_
                refine Rg.opp (v := nat c) rfl rfl rfl rfl rfl ?_
                refine Rg.opp (v := ptrAt (sAddr nw0) (c * 1)) rfl rfl rfl (ev_idxM (k := c) (hM.get_sl (j := 0) rfl) rfl rfl (by omega) rfl rfl rfl (by decide)) rfl ?_
                refine Rg.opp (v := nv[c]) rfl rfl rfl (ev_ldM (k := c) (hM.get_sl (j := 0) rfl) rfl (by omega) rfl rfl rfl rfl) rfl ?_
                refine Rg.opp (v := nat (idx (unitsP l) l[i].up)) rfl rfl rfl rfl rfl ?_
                refine Rg.opp (v := nw0) rfl rfl rfl rfl rfl ?_
                refine Rg.opp (v := nat c) rfl rfl rfl rfl rfl ?_
                refine Rg.opp (v := ptrAt (sAddr nw0) (c * 1)) rfl rfl rfl (ev_idxM (k := c) (hM.get_sl (j := 0) rfl) rfl rfl (by omega) rfl rfl rfl (by decide)) rfl ?_
                refine Rg.opp (v := nv[c]) rfl rfl rfl (ev_ldM (k := c) (hM.get_sl (j := 0) rfl) rfl (by omega) rfl rfl rfl rfl) rfl ?_
                refine Rg.opp (v := nat (idx (unitsP l) l[i].up)) rfl rfl rfl rfl rfl ?_
                refine Rg.opp (v := ptrAt (sAddr (nv[c])) ((idx (unitsP l) l[i].up) * 1)) rfl rfl rfl (ev_idxM (k := idx (unitsP l) l[i].up) (hM.get_sl (j := (unitsP l).length + c + 2) (show (rowsT ov (mat (unitsP l).length mm (unitsP l).length) ++ rowsT nv (mat (unitsP l).length (updC mm m' (idx (unitsP l) l[i].lo) (idx (unitsP l) l[i].up) c) (unitsP l).length))[(unitsP l).length + c]? = _ from (List.getElem?_append_right (by rw [rowsT_len hov]; omega)).trans (by rw [rowsT_len hov, Nat.add_sub_cancel_left]; exact rowsT_get hnv (by omega) (by omega)))) rfl rfl (by simp; omega) rfl rfl rfl (by decide)) rfl ?_
                refine Rg.opp (v := nat ((updC mm m' (idx (unitsP l) l[i].lo) (idx (unitsP l) l[i].up) c) c ((idx (unitsP l) l[i].up)))) rfl rfl rfl (ev_ldM (k := (idx (unitsP l) l[i].up)) (hM.get_sl (j := (unitsP l).length + c + 2) (show (rowsT ov (mat (unitsP l).length mm (unitsP l).length) ++ rowsT nv (mat (unitsP l).length (updC mm m' (idx (unitsP l) l[i].lo) (idx (unitsP l) l[i].up) c) (unitsP l).length))[(unitsP l).length + c]? = _ from (List.getElem?_append_right (by rw [rowsT_len hov]; omega)).trans (by rw [rowsT_len hov, Nat.add_sub_cancel_left]; exact rowsT_get hnv (by omega) (by omega)))) rfl (by simp; omega) (by simp) rfl rfl rfl) rfl ?_
                refine Rg.opp (v := nat (max ((updC mm m' (idx (unitsP l) l[i].lo) (idx (unitsP l) l[i].up) c) c ((idx (unitsP l) l[i].up))) (1))) rfl rfl rfl (ev_maxN (a := (updC mm m' (idx (unitsP l) l[i].lo) (idx (unitsP l) l[i].up) c) c ((idx (unitsP l) l[i].up))) (b := 1) rfl rfl) rfl ?_
                refine Rg.opp (v := ptrAt (sAddr (nv[c])) ((idx (unitsP l) l[i].up) * 1)) rfl rfl rfl (ev_idxM (k := idx (unitsP l) l[i].up) (hM.get_sl (j := (unitsP l).length + c + 2) (show (rowsT ov (mat (unitsP l).length mm (unitsP l).length) ++ rowsT nv (mat (unitsP l).length (updC mm m' (idx (unitsP l) l[i].lo) (idx (unitsP l) l[i].up) c) (unitsP l).length))[(unitsP l).length + c]? = _ from (List.getElem?_append_right (by rw [rowsT_len hov]; omega)).trans (by rw [rowsT_len hov, Nat.add_sub_cancel_left]; exact rowsT_get hnv (by omega) (by omega)))) rfl rfl (by simp; omega) rfl rfl rfl (by decide)) rfl ?_
                refine Rg.stoM (f := encN) (j := (unitsP l).length + c + 2) (k := idx (unitsP l) l[i].up) (max ((updC mm m' (idx (unitsP l) l[i].lo) (idx (unitsP l) l[i].up) c) c ((idx (unitsP l) l[i].up))) (1)) hM rfl rfl rfl rfl (show (rowsT ov (mat (unitsP l).length mm (unitsP l).length) ++ rowsT nv (mat (unitsP l).length (updC mm m' (idx (unitsP l) l[i].lo) (idx (unitsP l) l[i].up) c) (unitsP l).length))[(unitsP l).length + c]? = _ from (List.getElem?_append_right (by rw [rowsT_len hov]; omega)).trans (by rw [rowsT_len hov, Nat.add_sub_cancel_left]; exact rowsT_get hnv (by omega) (by omega))) rfl rfl (by simp; omega) rfl rfl rfl rfl rfl (fun Hc hM => ?_)
                replace hM : Mem Hu Hc ((.sl 1 nw0 (List.map encV nv)) :: (.sl 1 ow (List.map encV ov)) :: (rowsT ov (mat (unitsP l).length mm (unitsP l).length) ++ rowsT nv (mat (unitsP l).length (upd1 (updC mm m' (idx (unitsP l) l[i].lo) (idx (unitsP l) l[i].up) c) c (idx (unitsP l) l[i].up) (max ((updC mm m' (idx (unitsP l) l[i].lo) (idx (unitsP l) l[i].up) c) c ((idx (unitsP l) l[i].up))) (1))) (unitsP l).length))) := by
                  have h0 := hM
                  have e0 : (rowsT ov (mat (unitsP l).length mm (unitsP l).length) ++ rowsT nv (mat (unitsP l).length (updC mm m' (idx (unitsP l) l[i].lo) (idx (unitsP l) l[i].up) c) (unitsP l).length)).set ((unitsP l).length + c) (.sl 1 nv[c] (List.map encN (((List.range (unitsP l).length).map ((updC mm m' (idx (unitsP l) l[i].lo) (idx (unitsP l) l[i].up) c) c)).set (idx (unitsP l) l[i].up) (max ((updC mm m' (idx (unitsP l) l[i].lo) (idx (unitsP l) l[i].up) c) c ((idx (unitsP l) l[i].up))) (1))))) = rowsT ov (mat (unitsP l).length mm (unitsP l).length) ++ rowsT nv (mat (unitsP l).length (upd1 (updC mm m' (idx (unitsP l) l[i].lo) (idx (unitsP l) l[i].up) c) c (idx (unitsP l) l[i].up) (max ((updC mm m' (idx (unitsP l) l[i].lo) (idx (unitsP l) l[i].up) c) c ((idx (unitsP l) l[i].up))) (1))) (unitsP l).length) := by
                    rw [List.set_append_right _ _ (by rw [rowsT_len hov]; omega), rowsT_len hov, Nat.add_sub_cancel_left, rowsT_sto hnv (by omega) (by omega)]
                  rw [← e0]; exact h0
                refine Rg.nil ?_
                refine Runs.seq ?_
                refine Runs.region ?_
                refine Rg.opp (v := ow) rfl rfl rfl rfl rfl ?_
                refine Rg.opp (v := nat c) rfl rfl rfl rfl rfl ?_
                refine Rg.opp (v := ptrAt (sAddr ow) (c * 1)) rfl rfl rfl (ev_idxM (k := c) (hM.get_sl (j := 1) rfl) rfl rfl (by omega) rfl rfl rfl (by decide)) rfl ?_
                refine Rg.opp (v := ov[c]) rfl rfl rfl (ev_ldM (k := c) (hM.get_sl (j := 1) rfl) rfl (by omega) rfl rfl rfl rfl) rfl ?_
                refine Rg.opp (v := nat (idx (unitsP l) l[i].lo)) rfl rfl rfl rfl rfl ?_
                refine Rg.opp (v := ptrAt (sAddr (ov[c])) ((idx (unitsP l) l[i].lo) * 1)) rfl rfl rfl (ev_idxM (k := idx (unitsP l) l[i].lo) (hM.get_sl (j := c + 2) (show (rowsT ov (mat (unitsP l).length mm (unitsP l).length) ++ rowsT nv (mat (unitsP l).length (upd1 (updC mm m' (idx (unitsP l) l[i].lo) (idx (unitsP l) l[i].up) c) c (idx (unitsP l) l[i].up) (max ((updC mm m' (idx (unitsP l) l[i].lo) (idx (unitsP l) l[i].up) c) c ((idx (unitsP l) l[i].up))) (1))) (unitsP l).length))[c]? = _ from (List.getElem?_append_left (by rw [rowsT_len hov]; omega)).trans (rowsT_get hov (by omega) (by omega)))) rfl rfl (by simp; omega) rfl rfl rfl (by decide)) rfl ?_
                refine Rg.opp (v := nat (mm c (idx (unitsP l) l[i].lo))) rfl rfl rfl (ev_ldM (k := (idx (unitsP l) l[i].lo)) (hM.get_sl (j := c + 2) (show (rowsT ov (mat (unitsP l).length mm (unitsP l).length) ++ rowsT nv (mat (unitsP l).length (upd1 (updC mm m' (idx (unitsP l) l[i].lo) (idx (unitsP l) l[i].up) c) c (idx (unitsP l) l[i].up) (max ((updC mm m' (idx (unitsP l) l[i].lo) (idx (unitsP l) l[i].up) c) c ((idx (unitsP l) l[i].up))) (1))) (unitsP l).length))[c]? = _ from (List.getElem?_append_left (by rw [rowsT_len hov]; omega)).trans (rowsT_get hov (by omega) (by omega)))) rfl (by simp; omega) (by simp) rfl rfl rfl) rfl ?_
                by_cases h8 : 0 < mm c (idx (unitsP l) l[i].lo)
                · skip
                  refine Rg.opp (v := .bool true) rfl rfl rfl (ev_gtT rfl rfl (h8)) rfl ?_
                  refine Rg.nil ?_
                  refine Runs.cond true rfl (fun _ => ?_) (fun h => by cases h)
                  refine Runs.drawn (is := [0, 1, 2, 3, 4, 5, 6, 7, 8, 9, 10, 11, 12, 13, 14, 15, 16, 17, 18, 19, 20, 21, 22, 23]) (by decide +kernel) ?_
                  refine Rg.opp (v := nw0) rfl rfl rfl rfl rfl ?_
                  refine Rg.opp (v := nat c) rfl rfl rfl rfl rfl ?_
                  refine Rg.opp (v := ptrAt (sAddr nw0) (c * 1)) rfl rfl rfl (ev_idxM (k := c) (hM.get_sl (j := 0) rfl) rfl rfl (by omega) rfl rfl rfl (by decide)) rfl ?_
                  refine Rg.opp (v := nv[c]) rfl rfl rfl (ev_ldM (k := c) (hM.get_sl (j := 0) rfl) rfl (by omega) rfl rfl rfl rfl) rfl ?_
                  refine Rg.opp (v := nat (idx (unitsP l) l[i].up)) rfl rfl rfl rfl rfl ?_
                  refine Rg.opp (v := nw0) rfl rfl rfl rfl rfl ?_
                  refine Rg.opp (v := nat c) rfl rfl rfl rfl rfl ?_
                  refine Rg.opp (v := ptrAt (sAddr nw0) (c * 1)) rfl rfl rfl (ev_idxM (k := c) (hM.get_sl (j := 0) rfl) rfl rfl (by omega) rfl rfl rfl (by decide)) rfl ?_
                  refine Rg.opp (v := nv[c]) rfl rfl rfl (ev_ldM (k := c) (hM.get_sl (j := 0) rfl) rfl (by omega) rfl rfl rfl rfl) rfl ?_
                  refine Rg.opp (v := nat (idx (unitsP l) l[i].up)) rfl rfl rfl rfl rfl ?_
                  refine Rg.opp (v := ptrAt (sAddr (nv[c])) ((idx (unitsP l) l[i].up) * 1)) rfl rfl rfl (ev_idxM (k := idx (unitsP l) l[i].up) (hM.get_sl (j := (unitsP l).length + c + 2) (show (rowsT ov (mat (unitsP l).length mm (unitsP l).length) ++ rowsT nv (mat (unitsP l).length (upd1 (updC mm m' (idx (unitsP l) l[i].lo) (idx (unitsP l) l[i].up) c) c (idx (unitsP l) l[i].up) (max ((updC mm m' (idx (unitsP l) l[i].lo) (idx (unitsP l) l[i].up) c) c ((idx (unitsP l) l[i].up))) (1))) (unitsP l).length))[(unitsP l).length + c]? = _ from (List.getElem?_append_right (by rw [rowsT_len hov]; omega)).trans (by rw [rowsT_len hov, Nat.add_sub_cancel_left]; exact rowsT_get hnv (by omega) (by omega)))) rfl rfl (by simp; omega) rfl rfl rfl (by decide)) rfl ?_
                  refine Rg.opp (v := nat ((upd1 (updC mm m' (idx (unitsP l) l[i].lo) (idx (unitsP l) l[i].up) c) c (idx (unitsP l) l[i].up) (max ((updC mm m' (idx (unitsP l) l[i].lo) (idx (unitsP l) l[i].up) c) c ((idx (unitsP l) l[i].up))) (1))) c ((idx (unitsP l) l[i].up)))) rfl rfl rfl (ev_ldM (k := (idx (unitsP l) l[i].up)) (hM.get_sl (j := (unitsP l).length + c + 2) (show (rowsT ov (mat (unitsP l).length mm (unitsP l).length) ++ rowsT nv (mat (unitsP l).length (upd1 (updC mm m' (idx (unitsP l) l[i].lo) (idx (unitsP l) l[i].up) c) c (idx (unitsP l) l[i].up) (max ((updC mm m' (idx (unitsP l) l[i].lo) (idx (unitsP l) l[i].up) c) c ((idx (unitsP l) l[i].up))) (1))) (unitsP l).length))[(unitsP l).length + c]? = _ from (List.getElem?_append_right (by rw [rowsT_len hov]; omega)).trans (by rw [rowsT_len hov, Nat.add_sub_cancel_left]; exact rowsT_get hnv (by omega) (by omega)))) rfl (by simp; omega) (by simp) rfl rfl rfl) rfl ?_
                  refine Rg.opp (v := ow) rfl rfl rfl rfl rfl ?_
                  refine Rg.opp (v := nat c) rfl rfl rfl rfl rfl ?_
                  refine Rg.opp (v := ptrAt (sAddr ow) (c * 1)) rfl rfl rfl (ev_idxM (k := c) (hM.get_sl (j := 1) rfl) rfl rfl (by omega) rfl rfl rfl (by decide)) rfl ?_
                  refine Rg.opp (v := ov[c]) rfl rfl rfl (ev_ldM (k := c) (hM.get_sl (j := 1) rfl) rfl (by omega) rfl rfl rfl rfl) rfl ?_
                  refine Rg.opp (v := nat (idx (unitsP l) l[i].lo)) rfl rfl rfl rfl rfl ?_
                  refine Rg.opp (v := ptrAt (sAddr (ov[c])) ((idx (unitsP l) l[i].lo) * 1)) rfl rfl rfl (ev_idxM (k := idx (unitsP l) l[i].lo) (hM.get_sl (j := c + 2) (show (rowsT ov (mat (unitsP l).length mm (unitsP l).length) ++ rowsT nv (mat (unitsP l).length (upd1 (updC mm m' (idx (unitsP l) l[i].lo) (idx (unitsP l) l[i].up) c) c (idx (unitsP l) l[i].up) (max ((updC mm m' (idx (unitsP l) l[i].lo) (idx (unitsP l) l[i].up) c) c ((idx (unitsP l) l[i].up))) (1))) (unitsP l).length))[c]? = _ from (List.getElem?_append_left (by rw [rowsT_len hov]; omega)).trans (rowsT_get hov (by omega) (by omega)))) rfl rfl (by simp; omega) rfl rfl rfl (by decide)) rfl ?_
                  refine Rg.opp (v := nat (mm c (idx (unitsP l) l[i].lo))) rfl rfl rfl (ev_ldM (k := (idx (unitsP l) l[i].lo)) (hM.get_sl (j := c + 2) (show (rowsT ov (mat (unitsP l).length mm (unitsP l).length) ++ rowsT nv (mat (unitsP l).length (upd1 (updC mm m' (idx (unitsP l) l[i].lo) (idx (unitsP l) l[i].up) c) c (idx (unitsP l) l[i].up) (max ((updC mm m' (idx (unitsP l) l[i].lo) (idx (unitsP l) l[i].up) c) c ((idx (unitsP l) l[i].up))) (1))) (unitsP l).length))[c]? = _ from (List.getElem?_append_left (by rw [rowsT_len hov]; omega)).trans (rowsT_get hov (by omega) (by omega)))) rfl (by simp; omega) (by simp) rfl rfl rfl) rfl ?_
                  refine Rg.opp (v := nat (mm c (idx (unitsP l) l[i].lo) + 1)) rfl rfl rfl (ev_addN (b := 1) rfl rfl (by have := hm7 (by omega) c (idx (unitsP l) l[i].lo); omega)) rfl ?_
                  refine Rg.opp (v := nat (min (8) (mm c (idx (unitsP l) l[i].lo) + 1))) rfl rfl rfl (ev_minN (a := 8) (b := mm c (idx (unitsP l) l[i].lo) + 1) rfl rfl) rfl ?_
                  refine Rg.opp (v := nat (max ((upd1 (updC mm m' (idx (unitsP l) l[i].lo) (idx (unitsP l) l[i].up) c) c (idx (unitsP l) l[i].up) (max ((updC mm m' (idx (unitsP l) l[i].lo) (idx (unitsP l) l[i].up) c) c ((idx (unitsP l) l[i].up))) (1))) c ((idx (unitsP l) l[i].up))) (min (8) (mm c (idx (unitsP l) l[i].lo) + 1)))) rfl rfl rfl (ev_maxN (a := (upd1 (updC mm m' (idx (unitsP l) l[i].lo) (idx (unitsP l) l[i].up) c) c (idx (unitsP l) l[i].up) (max ((updC mm m' (idx (unitsP l) l[i].lo) (idx (unitsP l) l[i].up) c) c ((idx (unitsP l) l[i].up))) (1))) c ((idx (unitsP l) l[i].up))) (b := min (8) (mm c (idx (unitsP l) l[i].lo) + 1)) rfl rfl) rfl ?_
                  refine Rg.opp (v := ptrAt (sAddr (nv[c])) ((idx (unitsP l) l[i].up) * 1)) rfl rfl rfl (ev_idxM (k := idx (unitsP l) l[i].up) (hM.get_sl (j := (unitsP l).length + c + 2) (show (rowsT ov (mat (unitsP l).length mm (unitsP l).length) ++ rowsT nv (mat (unitsP l).length (upd1 (updC mm m' (idx (unitsP l) l[i].lo) (idx (unitsP l) l[i].up) c) c (idx (unitsP l) l[i].up) (max ((updC mm m' (idx (unitsP l) l[i].lo) (idx (unitsP l) l[i].up) c) c ((idx (unitsP l) l[i].up))) (1))) (unitsP l).length))[(unitsP l).length + c]? = _ from (List.getElem?_append_right (by rw [rowsT_len hov]; omega)).trans (by rw [rowsT_len hov, Nat.add_sub_cancel_left]; exact rowsT_get hnv (by omega) (by omega)))) rfl rfl (by simp; omega) rfl rfl rfl (by decide)) rfl ?_
                  refine Rg.stoM (f := encN) (j := (unitsP l).length + c + 2) (k := idx (unitsP l) l[i].up) (max ((upd1 (updC mm m' (idx (unitsP l) l[i].lo) (idx (unitsP l) l[i].up) c) c (idx (unitsP l) l[i].up) (max ((updC mm m' (idx (unitsP l) l[i].lo) (idx (unitsP l) l[i].up) c) c ((idx (unitsP l) l[i].up))) (1))) c ((idx (unitsP l) l[i].up))) (min (8) (mm c (idx (unitsP l) l[i].lo) + 1))) hM rfl rfl rfl rfl (show (rowsT ov (mat (unitsP l).length mm (unitsP l).length) ++ rowsT nv (mat (unitsP l).length (upd1 (updC mm m' (idx (unitsP l) l[i].lo) (idx (unitsP l) l[i].up) c) c (idx (unitsP l) l[i].up) (max ((updC mm m' (idx (unitsP l) l[i].lo) (idx (unitsP l) l[i].up) c) c ((idx (unitsP l) l[i].up))) (1))) (unitsP l).length))[(unitsP l).length + c]? = _ from (List.getElem?_append_right (by rw [rowsT_len hov]; omega)).trans (by rw [rowsT_len hov, Nat.add_sub_cancel_left]; exact rowsT_get hnv (by omega) (by omega))) rfl rfl (by simp; omega) rfl rfl rfl rfl rfl (fun Hc hM => ?_)
                  replace hM : Mem Hu Hc ((.sl 1 nw0 (List.map encV nv)) :: (.sl 1 ow (List.map encV ov)) :: (rowsT ov (mat (unitsP l).length mm (unitsP l).length) ++ rowsT nv (mat (unitsP l).length (upd1 (upd1 (updC mm m' (idx (unitsP l) l[i].lo) (idx (unitsP l) l[i].up) c) c (idx (unitsP l) l[i].up) (max ((updC mm m' (idx (unitsP l) l[i].lo) (idx (unitsP l) l[i].up) c) c ((idx (unitsP l) l[i].up))) (1))) c (idx (unitsP l) l[i].up) (max ((upd1 (updC mm m' (idx (unitsP l) l[i].lo) (idx (unitsP l) l[i].up) c) c (idx (unitsP l) l[i].up) (max ((updC mm m' (idx (unitsP l) l[i].lo) (idx (unitsP l) l[i].up) c) c ((idx (unitsP l) l[i].up))) (1))) c ((idx (unitsP l) l[i].up))) (min (8) (mm c (idx (unitsP l) l[i].lo) + 1)))) (unitsP l).length))) := by
                    have h0 := hM
                    have e0 : (rowsT ov (mat (unitsP l).length mm (unitsP l).length) ++ rowsT nv (mat (unitsP l).length (upd1 (updC mm m' (idx (unitsP l) l[i].lo) (idx (unitsP l) l[i].up) c) c (idx (unitsP l) l[i].up) (max ((updC mm m' (idx (unitsP l) l[i].lo) (idx (unitsP l) l[i].up) c) c ((idx (unitsP l) l[i].up))) (1))) (unitsP l).length)).set ((unitsP l).length + c) (.sl 1 nv[c] (List.map encN (((List.range (unitsP l).length).map ((upd1 (updC mm m' (idx (unitsP l) l[i].lo) (idx (unitsP l) l[i].up) c) c (idx (unitsP l) l[i].up) (max ((updC mm m' (idx (unitsP l) l[i].lo) (idx (unitsP l) l[i].up) c) c ((idx (unitsP l) l[i].up))) (1))) c)).set (idx (unitsP l) l[i].up) (max ((upd1 (updC mm m' (idx (unitsP l) l[i].lo) (idx (unitsP l) l[i].up) c) c (idx (unitsP l) l[i].up) (max ((updC mm m' (idx (unitsP l) l[i].lo) (idx (unitsP l) l[i].up) c) c ((idx (unitsP l) l[i].up))) (1))) c ((idx (unitsP l) l[i].up))) (min (8) (mm c (idx (unitsP l) l[i].lo) + 1)))))) = rowsT ov (mat (unitsP l).length mm (unitsP l).length) ++ rowsT nv (mat (unitsP l).length (upd1 (upd1 (updC mm m' (idx (unitsP l) l[i].lo) (idx (unitsP l) l[i].up) c) c (idx (unitsP l) l[i].up) (max ((updC mm m' (idx (unitsP l) l[i].lo) (idx (unitsP l) l[i].up) c) c ((idx (unitsP l) l[i].up))) (1))) c (idx (unitsP l) l[i].up) (max ((upd1 (updC mm m' (idx (unitsP l) l[i].lo) (idx (unitsP l) l[i].up) c) c (idx (unitsP l) l[i].up) (max ((updC mm m' (idx (unitsP l) l[i].lo) (idx (unitsP l) l[i].up) c) c ((idx (unitsP l) l[i].up))) (1))) c ((idx (unitsP l) l[i].up))) (min (8) (mm c (idx (unitsP l) l[i].lo) + 1)))) (unitsP l).length) := by
                      rw [List.set_append_right _ _ (by rw [rowsT_len hov]; omega), rowsT_len hov, Nat.add_sub_cancel_left, rowsT_sto hnv (by omega) (by omega)]
                    rw [← e0]; exact h0
                  refine Rg.nil ?_
                  refine Runs.region ?_
                  refine Rg.opp (v := nat c) rfl rfl rfl rfl rfl ?_
                  refine Rg.opp (v := nat (c + 1)) rfl rfl rfl (ev_addN (b := 1) rfl rfl (by omega)) rfl ?_
                  refine Rg.opp (v := nat (c + 1)) rfl rfl rfl rfl rfl ?_
                  refine Rg.nil ?_
                  refine ⟨(unitsP l).length - (c + 1), by omega, c + 1, rfl, by rw [← updC_tt h7 h8]; exact hM, hc8, Is.of ⟨rfl, rfl, rfl, rfl, rfl, rfl, rfl, rfl, rfl, rfl, rfl, rfl, rfl, rfl, rfl, rfl, rfl, rfl, trivial⟩⟩
                · skip
                  refine Rg.opp (v := .bool false) rfl rfl rfl (ev_gtF rfl rfl (h8)) rfl ?_
                  refine Rg.nil ?_
                  refine Runs.cond false rfl (fun h => by cases h) (fun _ => ?_)
                  refine Runs.skip ?_
                  refine Runs.region ?_
                  refine Rg.opp (v := nat c) rfl rfl rfl rfl rfl ?_
                  refine Rg.opp (v := nat (c + 1)) rfl rfl rfl (ev_addN (b := 1) rfl rfl (by omega)) rfl ?_
                  refine Rg.opp (v := nat (c + 1)) rfl rfl rfl rfl rfl ?_
                  refine Rg.nil ?_
                  refine ⟨(unitsP l).length - (c + 1), by omega, c + 1, rfl, by rw [← updC_tf h7 h8]; exact hM, hc8, Is.of ⟨rfl, rfl, rfl, rfl, rfl, rfl, rfl, rfl, rfl, rfl, rfl, rfl, rfl, rfl, rfl, rfl, rfl, rfl, trivial⟩⟩
              · skip
                refine Rg.opp (v := .bool false) rfl rfl rfl (ev_eqF rfl rfl (h7)) rfl ?_
                refine Rg.nil ?_
                refine Runs.cond false rfl (fun h => by cases h) (fun _ => ?_)
                refine Runs.skip ?_
                refine Runs.seq ?_
                refine Runs.region ?_
                refine Rg.opp (v := ow) rfl rfl rfl rfl rfl ?_
                refine Rg.opp (v := nat c) rfl rfl rfl rfl rfl ?_
                refine Rg.opp (v := ptrAt (sAddr ow) (c * 1)) rfl rfl rfl (ev_idxM (k := c) (hM.get_sl (j := 1) rfl) rfl rfl (by omega) rfl rfl rfl (by decide)) rfl ?_
                refine Rg.opp (v := ov[c]) rfl rfl rfl (ev_ldM (k := c) (hM.get_sl (j := 1) rfl) rfl (by omega) rfl rfl rfl rfl) rfl ?_
                refine Rg.opp (v := nat (idx (unitsP l) l[i].lo)) rfl rfl rfl rfl rfl ?_
                refine Rg.opp (v := ptrAt (sAddr (ov[c])) ((idx (unitsP l) l[i].lo) * 1)) rfl rfl rfl (ev_idxM (k := idx (unitsP l) l[i].lo) (hM.get_sl (j := c + 2) (show (rowsT ov (mat (unitsP l).length mm (unitsP l).length) ++ rowsT nv (mat (unitsP l).length (updC mm m' (idx (unitsP l) l[i].lo) (idx (unitsP l) l[i].up) c) (unitsP l).length))[c]? = _ from (List.getElem?_append_left (by rw [rowsT_len hov]; omega)).trans (rowsT_get hov (by omega) (by omega)))) rfl rfl (by simp; omega) rfl rfl rfl (by decide)) rfl ?_
                refine Rg.opp (v := nat (mm c (idx (unitsP l) l[i].lo))) rfl rfl rfl (ev_ldM (k := (idx (unitsP l) l[i].lo)) (hM.get_sl (j := c + 2) (show (rowsT ov (mat (unitsP l).length mm (unitsP l).length) ++ rowsT nv (mat (unitsP l).length (updC mm m' (idx (unitsP l) l[i].lo) (idx (unitsP l) l[i].up) c) (unitsP l).length))[c]? = _ from (List.getElem?_append_left (by rw [rowsT_len hov]; omega)).trans (rowsT_get hov (by omega) (by omega)))) rfl (by simp; omega) (by simp) rfl rfl rfl) rfl ?_
                by_cases h9 : 0 < mm c (idx (unitsP l) l[i].lo)
                · skip
                  refine Rg.opp (v := .bool true) rfl rfl rfl (ev_gtT rfl rfl (h9)) rfl ?_
                  refine Rg.nil ?_
                  refine Runs.cond true rfl (fun _ => ?_) (fun h => by cases h)
                  refine Runs.drawn (is := [0, 1, 2, 3, 4, 5, 6, 7, 8, 9, 10, 11, 12, 13, 14, 15, 16, 17, 18, 19, 20, 21, 22, 23]) (by decide +kernel) ?_
                  refine Rg.opp (v := nw0) rfl rfl rfl rfl rfl ?_
                  refine Rg.opp (v := nat c) rfl rfl rfl rfl rfl ?_
                  refine Rg.opp (v := ptrAt (sAddr nw0) (c * 1)) rfl rfl rfl (ev_idxM (k := c) (hM.get_sl (j := 0) rfl) rfl rfl (by omega) rfl rfl rfl (by decide)) rfl ?_
                  refine Rg.opp (v := nv[c]) rfl rfl rfl (ev_ldM (k := c) (hM.get_sl (j := 0) rfl) rfl (by omega) rfl rfl rfl rfl) rfl ?_
                  refine Rg.opp (v := nat (idx (unitsP l) l[i].up)) rfl rfl rfl rfl rfl ?_
                  refine Rg.opp (v := nw0) rfl rfl rfl rfl rfl ?_
                  refine Rg.opp (v := nat c) rfl rfl rfl rfl rfl ?_
                  refine Rg.opp (v := ptrAt (sAddr nw0) (c * 1)) rfl rfl rfl (ev_idxM (k := c) (hM.get_sl (j := 0) rfl) rfl rfl (by omega) rfl rfl rfl (by decide)) rfl ?_
                  refine Rg.opp (v := nv[c]) rfl rfl rfl (ev_ldM (k := c) (hM.get_sl (j := 0) rfl) rfl (by omega) rfl rfl rfl rfl) rfl ?_
                  refine Rg.opp (v := nat (idx (unitsP l) l[i].up)) rfl rfl rfl rfl rfl ?_
                  refine Rg.opp (v := ptrAt (sAddr (nv[c])) ((idx (unitsP l) l[i].up) * 1)) rfl rfl rfl (ev_idxM (k := idx (unitsP l) l[i].up) (hM.get_sl (j := (unitsP l).length + c + 2) (show (rowsT ov (mat (unitsP l).length mm (unitsP l).length) ++ rowsT nv (mat (unitsP l).length (updC mm m' (idx (unitsP l) l[i].lo) (idx (unitsP l) l[i].up) c) (unitsP l).length))[(unitsP l).length + c]? = _ from (List.getElem?_append_right (by rw [rowsT_len hov]; omega)).trans (by rw [rowsT_len hov, Nat.add_sub_cancel_left]; exact rowsT_get hnv (by omega) (by omega)))) rfl rfl (by simp; omega) rfl rfl rfl (by decide)) rfl ?_
                  refine Rg.opp (v := nat ((updC mm m' (idx (unitsP l) l[i].lo) (idx (unitsP l) l[i].up) c) c ((idx (unitsP l) l[i].up)))) rfl rfl rfl (ev_ldM (k := (idx (unitsP l) l[i].up)) (hM.get_sl (j := (unitsP l).length + c + 2) (show (rowsT ov (mat (unitsP l).length mm (unitsP l).length) ++ rowsT nv (mat (unitsP l).length (updC mm m' (idx (unitsP l) l[i].lo) (idx (unitsP l) l[i].up) c) (unitsP l).length))[(unitsP l).length + c]? = _ from (List.getElem?_append_right (by rw [rowsT_len hov]; omega)).trans (by rw [rowsT_len hov, Nat.add_sub_cancel_left]; exact rowsT_get hnv (by omega) (by omega)))) rfl (by simp; omega) (by simp) rfl rfl rfl) rfl ?_
                  refine Rg.opp (v := ow) rfl rfl rfl rfl rfl ?_
                  refine Rg.opp (v := nat c) rfl rfl rfl rfl rfl ?_
                  refine Rg.opp (v := ptrAt (sAddr ow) (c * 1)) rfl rfl rfl (ev_idxM (k := c) (hM.get_sl (j := 1) rfl) rfl rfl (by omega) rfl rfl rfl (by decide)) rfl ?_
                  refine Rg.opp (v := ov[c]) rfl rfl rfl (ev_ldM (k := c) (hM.get_sl (j := 1) rfl) rfl (by omega) rfl rfl rfl rfl) rfl ?_
                  refine Rg.opp (v := nat (idx (unitsP l) l[i].lo)) rfl rfl rfl rfl rfl ?_
                  refine Rg.opp (v := ptrAt (sAddr (ov[c])) ((idx (unitsP l) l[i].lo) * 1)) rfl rfl rfl (ev_idxM (k := idx (unitsP l) l[i].lo) (hM.get_sl (j := c + 2) (show (rowsT ov (mat (unitsP l).length mm (unitsP l).length) ++ rowsT nv (mat (unitsP l).length (updC mm m' (idx (unitsP l) l[i].lo) (idx (unitsP l) l[i].up) c) (unitsP l).length))[c]? = _ from (List.getElem?_append_left (by rw [rowsT_len hov]; omega)).trans (rowsT_get hov (by omega) (by omega)))) rfl rfl (by simp; omega) rfl rfl rfl (by decide)) rfl ?_
                  refine Rg.opp (v := nat (mm c (idx (unitsP l) l[i].lo))) rfl rfl rfl (ev_ldM (k := (idx (unitsP l) l[i].lo)) (hM.get_sl (j := c + 2) (show (rowsT ov (mat (unitsP l).length mm (unitsP l).length) ++ rowsT nv (mat (unitsP l).length (updC mm m' (idx (unitsP l) l[i].lo) (idx (unitsP l) l[i].up) c) (unitsP l).length))[c]? = _ from (List.getElem?_append_left (by rw [rowsT_len hov]; omega)).trans (rowsT_get hov (by omega) (by omega)))) rfl (by simp; omega) (by simp) rfl rfl rfl) rfl ?_
                  refine Rg.opp (v := nat (mm c (idx (unitsP l) l[i].lo) + 1)) rfl rfl rfl (ev_addN (b := 1) rfl rfl (by have := hm7 (by omega) c (idx (unitsP l) l[i].lo); omega)) rfl ?_
                  refine Rg.opp (v := nat (min (8) (mm c (idx (unitsP l) l[i].lo) + 1))) rfl rfl rfl (ev_minN (a := 8) (b := mm c (idx (unitsP l) l[i].lo) + 1) rfl rfl) rfl ?_
                  refine Rg.opp (v := nat (max ((updC mm m' (idx (unitsP l) l[i].lo) (idx (unitsP l) l[i].up) c) c ((idx (unitsP l) l[i].up))) (min (8) (mm c (idx (unitsP l) l[i].lo) + 1)))) rfl rfl rfl (ev_maxN (a := (updC mm m' (idx (unitsP l) l[i].lo) (idx (unitsP l) l[i].up) c) c ((idx (unitsP l) l[i].up))) (b := min (8) (mm c (idx (unitsP l) l[i].lo) + 1)) rfl rfl) rfl ?_
                  refine Rg.opp (v := ptrAt (sAddr (nv[c])) ((idx (unitsP l) l[i].up) * 1)) rfl rfl rfl (ev_idxM (k := idx (unitsP l) l[i].up) (hM.get_sl (j := (unitsP l).length + c + 2) (show (rowsT ov (mat (unitsP l).length mm (unitsP l).length) ++ rowsT nv (mat (unitsP l).length (updC mm m' (idx (unitsP l) l[i].lo) (idx (unitsP l) l[i].up) c) (unitsP l).length))[(unitsP l).length + c]? = _ from (List.getElem?_append_right (by rw [rowsT_len hov]; omega)).trans (by rw [rowsT_len hov, Nat.add_sub_cancel_left]; exact rowsT_get hnv (by omega) (by omega)))) rfl rfl (by simp; omega) rfl rfl rfl (by decide)) rfl ?_
                  refine Rg.stoM (f := encN) (j := (unitsP l).length + c + 2) (k := idx (unitsP l) l[i].up) (max ((updC mm m' (idx (unitsP l) l[i].lo) (idx (unitsP l) l[i].up) c) c ((idx (unitsP l) l[i].up))) (min (8) (mm c (idx (unitsP l) l[i].lo) + 1))) hM rfl rfl rfl rfl (show (rowsT ov (mat (unitsP l).length mm (unitsP l).length) ++ rowsT nv (mat (unitsP l).length (updC mm m' (idx (unitsP l) l[i].lo) (idx (unitsP l) l[i].up) c) (unitsP l).length))[(unitsP l).length + c]? = _ from (List.getElem?_append_right (by rw [rowsT_len hov]; omega)).trans (by rw [rowsT_len hov, Nat.add_sub_cancel_left]; exact rowsT_get hnv (by omega) (by omega))) rfl rfl (by simp; omega) rfl rfl rfl rfl rfl (fun Hc hM => ?_)
                  replace hM : Mem Hu Hc ((.sl 1 nw0 (List.map encV nv)) :: (.sl 1 ow (List.map encV ov)) :: (rowsT ov (mat (unitsP l).length mm (unitsP l).length) ++ rowsT nv (mat (unitsP l).length (upd1 (updC mm m' (idx (unitsP l) l[i].lo) (idx (unitsP l) l[i].up) c) c (idx (unitsP l) l[i].up) (max ((updC mm m' (idx (unitsP l) l[i].lo) (idx (unitsP l) l[i].up) c) c ((idx (unitsP l) l[i].up))) (min (8) (mm c (idx (unitsP l) l[i].lo) + 1)))) (unitsP l).length))) := by
                    have h0 := hM
                    have e0 : (rowsT ov (mat (unitsP l).length mm (unitsP l).length) ++ rowsT nv (mat (unitsP l).length (updC mm m' (idx (unitsP l) l[i].lo) (idx (unitsP l) l[i].up) c) (unitsP l).length)).set ((unitsP l).length + c) (.sl 1 nv[c] (List.map encN (((List.range (unitsP l).length).map ((updC mm m' (idx (unitsP l) l[i].lo) (idx (unitsP l) l[i].up) c) c)).set (idx (unitsP l) l[i].up) (max ((updC mm m' (idx (unitsP l) l[i].lo) (idx (unitsP l) l[i].up) c) c ((idx (unitsP l) l[i].up))) (min (8) (mm c (idx (unitsP l) l[i].lo) + 1)))))) = rowsT ov (mat (unitsP l).length mm (unitsP l).length) ++ rowsT nv (mat (unitsP l).length (upd1 (updC mm m' (idx (unitsP l) l[i].lo) (idx (unitsP l) l[i].up) c) c (idx (unitsP l) l[i].up) (max ((updC mm m' (idx (unitsP l) l[i].lo) (idx (unitsP l) l[i].up) c) c ((idx (unitsP l) l[i].up))) (min (8) (mm c (idx (unitsP l) l[i].lo) + 1)))) (unitsP l).length) := by
                      rw [List.set_append_right _ _ (by rw [rowsT_len hov]; omega), rowsT_len hov, Nat.add_sub_cancel_left, rowsT_sto hnv (by omega) (by omega)]
                    rw [← e0]; exact h0
                  refine Rg.nil ?_
                  refine Runs.region ?_
                  refine Rg.opp (v := nat c) rfl rfl rfl rfl rfl ?_
                  refine Rg.opp (v := nat (c + 1)) rfl rfl rfl (ev_addN (b := 1) rfl rfl (by omega)) rfl ?_
                  refine Rg.opp (v := nat (c + 1)) rfl rfl rfl rfl rfl ?_
                  refine Rg.nil ?_
                  refine ⟨(unitsP l).length - (c + 1), by omega, c + 1, rfl, by rw [← updC_ft h7 h9]; exact hM, hc8, Is.of ⟨rfl, rfl, rfl, rfl, rfl, rfl, rfl, rfl, rfl, rfl, rfl, rfl, rfl, rfl, rfl, rfl, rfl, rfl, trivial⟩⟩
                · skip
                  refine Rg.opp (v := .bool false) rfl rfl rfl (ev_gtF rfl rfl (h9)) rfl ?_
                  refine Rg.nil ?_
                  refine Runs.cond false rfl (fun h => by cases h) (fun _ => ?_)
                  refine Runs.skip ?_
                  refine Runs.region ?_
                  refine Rg.opp (v := nat c) rfl rfl rfl rfl rfl ?_
                  refine Rg.opp (v := nat (c + 1)) rfl rfl rfl (ev_addN (b := 1) rfl rfl (by omega)) rfl ?_
                  refine Rg.opp (v := nat (c + 1)) rfl rfl rfl rfl rfl ?_
                  refine Rg.nil ?_
                  refine ⟨(unitsP l).length - (c + 1), by omega, c + 1, rfl, by rw [← updC_ff h7 h9]; exact hM, hc8, Is.of ⟨rfl, rfl, rfl, rfl, rfl, rfl, rfl, rfl, rfl, rfl, rfl, rfl, rfl, rfl, rfl, rfl, rfl, rfl, trivial⟩⟩
            · skip
              have hc : c = (unitsP l).length := by omega
              subst hc
              refine Rg.opp (v := .bool false) rfl rfl rfl (ev_ltF rfl rfl (hc8)) rfl ?_
              refine Rg.nil ?_
              refine Runs.cond false rfl (fun h => by cases h) (fun _ => ?_)
              refine Runs.exit ?_
              refine Runs.region ?_
              refine Rg.opp (v := nat i) rfl rfl rfl rfl rfl ?_
              refine Rg.opp (v := nat (i + 1)) rfl rfl rfl (ev_addN (b := 1) rfl rfl (by omega)) rfl ?_
              refine Rg.opp (v := nat (i + 1)) rfl rfl rfl rfl rfl ?_
              refine Rg.nil ?_
              refine ⟨l.length - (i + 1), by omega, i + 1, updC mm m' (idx (unitsP l) l[i].lo) (idx (unitsP l) l[i].up) ((unitsP l).length), rfl, hM, hlt, by rw [arcsUp_succ hlt, if_neg hkd]; simp only [prs, List.map_append, List.map_cons, List.map_nil]; exact hP.arc (hm7 (by omega)) hm0 (by omega), Is.of ⟨rfl, rfl, rfl, rfl, rfl, rfl, rfl, rfl, rfl, rfl, rfl, rfl, trivial⟩⟩
        · skip
          have hi2 : i = l.length := by omega
          subst hi2
          refine Rg.opp (v := .bool false) rfl rfl rfl (ev_ltF rfl rfl (hlt)) rfl ?_
          refine Rg.nil ?_
          refine Runs.cond false rfl (fun h => by cases h) (fun _ => ?_)
          refine Runs.exit ?_
          refine Runs.region ?_
          refine Rg.opp (v := nw0) rfl rfl rfl rfl rfl ?_
          refine Rg.opp (v := nw0) rfl rfl rfl rfl rfl ?_
          refine Rg.nil ?_
          refine Runs.region ?_
          refine Rg.opp (v := nat (kk + 1)) rfl rfl rfl rfl rfl ?_
          refine Rg.opp (v := nat (kk + 1 + 1)) rfl rfl rfl (ev_addN (b := 1) rfl rfl (by omega)) rfl ?_
          refine Rg.opp (v := nat (kk + 1 + 1)) rfl rfl rfl rfl rfl ?_
          refine Rg.nil ?_
          refine ⟨8 - (kk + 1), by omega, kk + 1, nw0, nv, m', rfl, by have h := Mem.mid (A := [.sl 1 nw0 (nv.map encV)]) (L := .sl 1 ow (ov.map encV) :: rowsT ov (mat (unitsP l).length mm (unitsP l).length)) (B := rowsT nv (mat (unitsP l).length m' (unitsP l).length)) hM; exact h, by omega, hnv, hP.far hF, Is.of ⟨rfl, rfl, rfl, rfl, rfl, rfl, rfl, rfl, trivial⟩⟩
    · skip
      refine Rg.opp (v := .bool false) rfl rfl rfl (ev_leF rfl rfl (h8)) rfl ?_
      refine Rg.nil ?_
      refine Runs.cond false rfl (fun h => by cases h) (fun _ => ?_)
      refine Runs.exit ?_
      refine Runs.seq ?_
      refine Runs.region ?_
      refine Rg.opp (v := ow) rfl rfl rfl rfl rfl ?_
      refine Rg.opp (v := ow) rfl rfl rfl rfl rfl ?_
      refine Rg.nil ?_
      refine Runs.ret ?_
      refine ⟨ow, rfl, ?_⟩
      have hkk : kk = 8 := by omega
      subst hkk
      refine ⟨heu.trans hM.ext, ov, mm, hM.get_sl (j := 0) rfl, hov, fun c hc => hM.get_sl (j := c + 1) (show (rowsT ov (mat (unitsP l).length mm (unitsP l).length))[c]? = _ from rowsT_get hov (by omega) (by omega)), hF⟩

end Go.Proofs.Ytdhbclplondmjaa.C

end
