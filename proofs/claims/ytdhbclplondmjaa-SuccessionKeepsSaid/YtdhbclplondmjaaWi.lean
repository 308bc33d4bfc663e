/- The program's Keeps, run. -/
import Derived.Test.YtdhbclplondmjaaWh
set_option linter.unusedVariables false
set_option maxRecDepth 100000
namespace Go.Proofs.Ytdhbclplondmjaa.C
open Go.RowKit Go.Sort

def triple (x : Nat × Bool × Nat) : Value := .tuple #[nat x.1, .bool x.2.1, nat x.2.2]

theorem sees_map {H : Heap} {M : Nat} {es es2 : List (Value × Value)} (h : H[M]? = some (.map es)) : Sees H (H.set M (.map es2)) := by
  intro b sz cs own e
  by_cases q : M = b
  · subst q; rw [h] at e; simp at e
  · exact ⟨own, by rw [List.getElem?_set_ne q]; exact e⟩

theorem keepsP_runs {H : Heap} {v w : Value} {l : List Rel} {order : List Nm} (h : Sl H 3 v (rels l)) (ho : Sl H 1 w (strs order)) (hl : l.length ≤ 200) (hol : order.length < 2 ^ 40) (hg : ∀ r ∈ l, Good r) (hu : (unitsP l).length ≤ 60) :
    ∃ r H1, big tab 26 [v, w] H = some (r, H1) ∧ r = triple (keepsP l order) ∧ Ext H H1 := by
  obtain ⟨rc, Hc, hck, rfl, hec⟩ := checkP_runs h hl hg hu
  have hslu := h
  obtain ⟨a, c, rfl, hc, hcs⟩ := h
  obtain ⟨oa, oc, rfl, hoc, hocs⟩ := ho
  rw [rels_len] at *
  simp only [strs_len] at *
  refine big_of_runs rfl rfl rfl ?_
  obtain ⟨z, hz⟩ := startC_mkS Try.f26 [.slice a l.length c, .slice oa order.length oc]
  rw [show startC (26, Try.f26).snd [Value.slice a l.length c, .slice oa order.length oc] = _ from hz]
  clear hz
  refine Runs.seq (Runs.region ?_)
  repeat refine Rg.opp rfl rfl rfl rfl rfl ?_
  refine Rg.nil ?_
  refine Runs.seq (Runs.seq (Runs.region ?_))
  refine Rg.opp rfl rfl rfl rfl rfl ?_
  refine Rg.calls rfl rfl rfl rfl rfl rfl hck ?_
  refine Rg.opp rfl rfl rfl rfl rfl ?_
  refine Rg.nil ?_
  refine Runs.seq (Runs.region ?_)
  refine Rg.opp rfl rfl rfl rfl rfl ?_
  refine Rg.opp rfl rfl rfl (ev_ne false rfl rfl (by decide)) rfl ?_
  refine Rg.nil ?_
  refine Runs.cond false rfl (fun h => by cases h) (fun _ => ?_)
  refine Runs.skip ?_
  refine Runs.seq (Runs.region ?_)
  refine Rg.opp rfl rfl rfl rfl rfl ?_
  refine Rg.opp rfl rfl rfl rfl rfl ?_
  refine Rg.nil ?_
  have heM : Ext H (Hc ++ [Blk.map []]) := hec.snoc rfl
  have hM0 : (Hc ++ [Blk.map []])[Hc.length]? = some (Blk.map (mapE 0 [])) := List.getElem?_concat_length
  have hMlo : H.length ≤ Hc.length := hec.len
  refine Runs.cut (n := 82) (l := [(0, .slice a l.length c), (1, .slice oa order.length oc), (8, .map (some Hc.length))]) (Is.of ⟨rfl, rfl, rfl, rfl, rfl, rfl, trivial⟩) (fun a0 => ?_)
  generalize Hc.length = M at hM0 hMlo
  generalize Hc ++ [Blk.map []] = H1 at heM hM0
  clear hck hec
  -- the names' places
  refine Runs.seq (Runs.seq (Runs.region ?_))
  repeat refine Rg.opp rfl rfl rfl rfl rfl ?_
  refine Rg.nil ?_
  refine Runs.block ?_
  refine Runs.loop (fun m s H2 => ∃ k, k ≤ order.length ∧ m = order.length - k ∧ Ext H H2 ∧ H2[M]? = some (Blk.map (mapE 0 (order.take k))) ∧ (order.take k).Nodup ∧
      Is s 82 [(0, .slice a l.length c), (1, .slice oa order.length oc), (8, .map (some M)), (25, .slice oa order.length oc), (26, nat order.length), (27, nat k)]) _
    ⟨0, Nat.zero_le _, rfl, heM, hM0, by simp, Is.of ⟨rfl, rfl, rfl, rfl, rfl, rfl, rfl, rfl, rfl, rfl, rfl, rfl, trivial⟩⟩ ?_
  rintro m s H2 ⟨k, hk, rfl, he, hM, hnd, hs⟩
  obtain ⟨a1, rfl⟩ := hs.mk1
  clear hs
  by_cases hlt : k < order.length
  · refine Runs.seq (Runs.region ?_)
    refine Rg.opp rfl rfl rfl (ev_lt true rfl rfl (by simp; omega)) rfl ?_
    refine Rg.nil ?_
    refine Runs.seq (Runs.cond true rfl (fun _ => ?_) (fun h => by cases h))
    refine Runs.skip ?_
    have hcs1 := hocs.sees he.sees
    obtain ⟨b, o, rfl, hsz, hr⟩ := hcs1.lt (i := k) (by rw [strs_len]; exact hlt)
    have hrk := hr k _ (strs_get hlt)
    refine Runs.seq (Runs.block ?_)
    refine Runs.seq (Runs.region ?_)
    refine Rg.opp rfl rfl rfl rfl rfl ?_
    refine Rg.opp rfl rfl rfl (ev_at rfl rfl rfl rfl (by decide) hlt) rfl ?_
    refine Rg.opp rfl rfl rfl (ev_load1 rfl rfl hrk rfl) rfl ?_
    refine Rg.opp rfl rfl rfl rfl rfl ?_
    refine Rg.opp rfl rfl rfl rfl rfl ?_
    refine Rg.nil ?_
    refine Runs.seq (Runs.seq (Runs.region ?_))
    refine Rg.opp rfl rfl rfl rfl rfl ?_
    refine Rg.opp rfl rfl rfl rfl rfl ?_
    refine Rg.opp rfl rfl rfl (ev_look true rfl rfl hM) rfl ?_
    rw [if_pos rfl, idx_some]
    refine Rg.opp rfl rfl rfl rfl rfl ?_
    refine Rg.opp rfl rfl rfl rfl rfl ?_
    refine Rg.opp rfl rfl rfl rfl rfl ?_
    refine Rg.opp rfl rfl rfl rfl rfl ?_
    refine Rg.opp rfl rfl rfl rfl rfl ?_
    refine Rg.nil ?_
    refine Runs.seq (Runs.region ?_)
    refine Rg.opp rfl rfl rfl rfl rfl ?_
    refine Rg.nil ?_
    refine Runs.cond (decide (order[k] ∈ order.take k)) rfl (fun hin => ?_) (fun hin => ?_)
    · refine Runs.seq (Runs.region ?_)
      repeat refine Rg.opp rfl rfl rfl rfl rfl ?_
      refine Rg.nil ?_
      refine Runs.ret ⟨_, rfl, ?_, he⟩
      have hnn : ¬ order.Nodup := by
        intro q
        have h1 : (order.take k ++ order.drop k).Nodup := by rw [List.take_append_drop]; exact q
        have h2 := (List.nodup_append.1 h1).2.2 order[k] (of_decide_eq_true hin) order[k] (List.mem_of_getElem? (i := 0) (by simp [hlt]))
        exact h2 rfl
      rw [keepsP, if_pos hnn]
      rfl
    · refine Runs.skip ?_
      have hin : order[k] ∉ order.take k := of_decide_eq_false hin
      refine Runs.region ?_
      refine Rg.opp rfl rfl rfl rfl rfl ?_
      refine Rg.opp rfl rfl rfl rfl rfl ?_
      refine Rg.opp rfl rfl rfl rfl rfl ?_
      refine Rg.opn rfl rfl rfl (ev_mapset rfl rfl rfl hM hin (by rw [List.length_take]; omega)) rfl ?_
      refine Rg.nil ?_
      refine Runs.region ?_
      refine Rg.opp rfl rfl rfl (ev_addn (b := 1) rfl rfl (by omega)) rfl ?_
      refine Rg.opp rfl rfl rfl rfl rfl ?_
      refine Rg.nil ?_
      have hMlt := (List.getElem?_eq_some_iff.1 hM).1
      refine ⟨order.length - (k + 1), by omega, k + 1, hlt, rfl, he.set rfl hMlo, ?_, ?_, Is.of ⟨rfl, rfl, rfl, rfl, rfl, rfl, rfl, rfl, rfl, rfl, rfl, rfl, trivial⟩⟩
      · rw [List.getElem?_set_self hMlt, List.take_append_getElem hlt]
      · rw [← List.take_append_getElem hlt, List.nodup_append]
        refine ⟨hnd, by simp, fun x hx y hy => ?_⟩
        simp only [List.mem_singleton] at hy
        subst hy
        rintro rfl
        exact hin hx
  · have hko : k = order.length := by omega
    subst hko
    rw [List.take_of_length_le (Nat.le_refl _)] at hM hnd
    refine Runs.seq (Runs.region ?_)
    refine Rg.opp rfl rfl rfl (ev_lt false rfl rfl (by simp)) rfl ?_
    refine Rg.nil ?_
    refine Runs.seq (Runs.cond false rfl (fun h => by cases h) (fun _ => ?_))
    refine Runs.exit ?_
    -- the units are known
    obtain ⟨ur, H3, hur, he3, hus⟩ := unitsP_runs (hslu.sees he.sees) (by omega)
    have heu := he.trans he3
    have hM3 : H3[M]? = some (Blk.map (mapE 0 order)) := by rw [he3.old M (List.getElem?_eq_some_iff.1 hM).1]; exact hM
    obtain ⟨ua, uc, rfl, huc, hucs⟩ := hus
    rw [strs_len] at *
    refine Runs.seq (Runs.seq (Runs.region ?_))
    refine Rg.opp rfl rfl rfl rfl rfl ?_
    refine Rg.calls rfl rfl rfl rfl rfl rfl hur ?_
    refine Rg.opp rfl rfl rfl rfl rfl ?_
    refine Rg.opp rfl rfl rfl rfl rfl ?_
    refine Rg.nil ?_
    refine Runs.block ?_
    refine Runs.loop (fun m s H4 => H3 = H4 ∧ ∃ k, k ≤ (unitsP l).length ∧ m = (unitsP l).length - k ∧ (∀ i (hi : i < (unitsP l).length), i < k → (unitsP l)[i] ∈ order) ∧
        Is s 82 [(0, .slice a l.length c), (1, .slice oa order.length oc), (8, .map (some M)), (44, .slice ua (unitsP l).length uc), (45, nat (unitsP l).length), (46, nat k)]) _
      ⟨rfl, 0, Nat.zero_le _, rfl, fun i _ h => by omega, Is.of ⟨rfl, rfl, rfl, rfl, rfl, rfl, rfl, rfl, rfl, rfl, rfl, rfl, trivial⟩⟩ ?_
    rintro m s H4 ⟨hH4, k, hk, rfl, hkn, hs⟩
    subst hH4
    obtain ⟨a2, rfl⟩ := hs.mk1
    clear hs
    by_cases hlt : k < (unitsP l).length
    · refine Runs.seq (Runs.region ?_)
      refine Rg.opp rfl rfl rfl (ev_lt true rfl rfl (by simp; omega)) rfl ?_
      refine Rg.nil ?_
      refine Runs.seq (Runs.cond true rfl (fun _ => ?_) (fun h => by cases h))
      refine Runs.skip ?_
      obtain ⟨b, o, rfl, hsz, hr⟩ := hucs.lt (i := k) (by rw [strs_len]; exact hlt)
      have hrk := hr k _ (strs_get hlt)
      refine Runs.seq (Runs.block ?_)
      refine Runs.seq (Runs.region ?_)
      refine Rg.opp rfl rfl rfl (ev_at rfl rfl rfl rfl (by decide) hlt) rfl ?_
      refine Rg.opp rfl rfl rfl (ev_load1 rfl rfl hrk rfl) rfl ?_
      refine Rg.opp rfl rfl rfl rfl rfl ?_
      refine Rg.nil ?_
      refine Runs.seq (Runs.region ?_)
      refine Rg.opp rfl rfl rfl rfl rfl ?_
      refine Rg.opp rfl rfl rfl rfl rfl ?_
      refine Rg.opp rfl rfl rfl (ev_look true rfl rfl hM3) rfl ?_
      rw [if_pos rfl, idx_some]
      refine Rg.opp rfl rfl rfl rfl rfl ?_
      refine Rg.opp rfl rfl rfl rfl rfl ?_
      refine Rg.opp rfl rfl rfl rfl rfl ?_
      refine Rg.opp rfl rfl rfl rfl rfl ?_
      refine Rg.opp rfl rfl rfl rfl rfl ?_
      refine Rg.nil ?_
      refine Runs.seq (Runs.region ?_)
      refine Rg.opp rfl rfl rfl rfl rfl ?_
      refine Rg.opp rfl rfl rfl rfl rfl ?_
      refine Rg.nil ?_
      refine Runs.cond (!decide ((unitsP l)[k] ∈ order)) rfl (fun hin => ?_) (fun hin => ?_)
      · refine Runs.seq (Runs.region ?_)
        repeat refine Rg.opp rfl rfl rfl rfl rfl ?_
        refine Rg.nil ?_
        refine Runs.ret ⟨_, rfl, ?_, heu⟩
        have hq : ¬ ∀ u ∈ unitsP l, u ∈ order := fun q => by
          have := q _ (List.getElem_mem hlt)
          simp [this] at hin
        rw [keepsP, if_neg (by simpa using hnd), if_pos hq]
        rfl
      · refine Runs.skip ?_
        refine Runs.region ?_
        refine Rg.opp rfl rfl rfl (ev_addn (b := 1) rfl rfl (by omega)) rfl ?_
        refine Rg.opp rfl rfl rfl rfl rfl ?_
        refine Rg.nil ?_
        refine ⟨(unitsP l).length - (k + 1), by omega, rfl, k + 1, hlt, rfl, fun i hi h => ?_, Is.of ⟨rfl, rfl, rfl, rfl, rfl, rfl, rfl, rfl, rfl, rfl, rfl, rfl, trivial⟩⟩
        rcases Nat.lt_or_ge i k with q | q
        · exact hkn i hi q
        · have : i = k := by omega
          subst this
          simpa using hin
    · refine Runs.seq (Runs.region ?_)
      refine Rg.opp rfl rfl rfl (ev_lt false rfl rfl (by simp; omega)) rfl ?_
      refine Rg.nil ?_
      refine Runs.seq (Runs.cond false rfl (fun h => by cases h) (fun _ => ?_))
      refine Runs.exit ?_
      have hknown : ∀ u ∈ unitsP l, u ∈ order := by
        intro u hu
        obtain ⟨i, hi, rfl⟩ := List.mem_iff_getElem.1 hu
        exact hkn i hi (by omega)
      have hkp : keepsP l order = match l.findIdx? (badRel order) with | some i => (i, false, 0) | none => (0, true, 0) := by
        rw [keepsP, if_neg (by simpa using hnd), if_neg (by simpa using hknown)]
        rfl
      refine Runs.cut (n := 82) (l := [(0, .slice a l.length c), (8, .map (some M))]) (Is.of ⟨rfl, rfl, rfl, rfl, trivial⟩) (fun a3 => ?_)
      refine Runs.seq (Runs.seq (Runs.region ?_))
      repeat refine Rg.opp rfl rfl rfl rfl rfl ?_
      refine Rg.nil ?_
      refine Runs.block ?_
      refine Runs.loop (fun m s H4 => ∃ k, k ≤ l.length ∧ m = l.length - k ∧ Ext H H4 ∧ H4[M]? = some (Blk.map (mapE 0 order)) ∧ (∀ i (hi : i < l.length), i < k → badRel order l[i] = false) ∧
          Is s 82 [(8, .map (some M)), (59, .slice a l.length c), (60, nat l.length), (61, nat k)]) _
        ⟨0, Nat.zero_le _, rfl, heu, hM3, fun i _ h => by omega, Is.of ⟨rfl, rfl, rfl, rfl, rfl, rfl, rfl, rfl, trivial⟩⟩ ?_
      clear hk hkn hlt hur hucs hM3 heu he3 huc
      rintro m s H4 ⟨k, hk, rfl, he4, hM4, hgood, hs⟩
      obtain ⟨a4, rfl⟩ := hs.mk1
      clear hs
      by_cases hlt : k < l.length
      · refine Runs.seq (Runs.region ?_)
        refine Rg.opp rfl rfl rfl (ev_lt true rfl rfl (by simp; omega)) rfl ?_
        refine Rg.nil ?_
        refine Runs.seq (Runs.cond true rfl (fun _ => ?_) (fun h => by cases h))
        refine Runs.skip ?_
        have hcs1 := hcs.sees he4.sees
        obtain ⟨b, o, rfl, hsz, hr⟩ := hcs1.lt (i := k) (by rw [rels_len]; exact hlt)
        have hrk := hr k _ (rels_get hlt)
        refine Runs.seq (Runs.block ?_)
        refine Runs.seq (Runs.region ?_)
        refine Rg.opp rfl rfl rfl rfl rfl ?_
        refine Rg.opp rfl rfl rfl (ev_at rfl rfl rfl rfl (by decide) hlt) rfl ?_
        refine Rg.opp rfl rfl rfl (ev_loadA rfl rfl hrk rfl) rfl ?_
        refine Rg.opp rfl rfl rfl rfl rfl ?_
        refine Rg.opp rfl rfl rfl rfl rfl ?_
        refine Rg.opn rfl rfl rfl (ev_set (cs := relC l[k]) rfl rfl rfl rfl rfl rfl) rfl ?_
        refine Rg.nil ?_
        have hM5 : (H4 ++ [Blk.row 3 (relC l[k]) true true])[M]? = some (Blk.map (mapE 0 order)) := by rw [List.getElem?_append_left (List.getElem?_eq_some_iff.1 hM4).1]; exact hM4
        have he5 : Ext H (H4 ++ [Blk.row 3 (relC l[k]) true true]) := he4.row _ _
        have next : ∀ a5 : Nat → Value, badRel order l[k] = false → ∃ m1, m1 < l.length - k ∧ ∃ k1, k1 ≤ l.length ∧ m1 = l.length - k1 ∧ Ext H (H4 ++ [Blk.row 3 (relC l[k]) true true]) ∧ (H4 ++ [Blk.row 3 (relC l[k]) true true])[M]? = some (Blk.map (mapE 0 order)) ∧ (∀ i (hi : i < l.length), i < k1 → badRel order l[i] = false) ∧
            Is (mkS 82 a5 [(61, nat (k + 1)), (8, .map (some M)), (59, .slice (some ⟨b, o, none⟩) l.length c), (60, nat l.length)]) 82 [(8, .map (some M)), (59, .slice (some ⟨b, o, none⟩) l.length c), (60, nat l.length), (61, nat k1)] := by
          intro a5 hbad
          refine ⟨l.length - (k + 1), by omega, k + 1, hlt, rfl, he5, hM5, fun i hi h => ?_, Is.of ⟨rfl, rfl, rfl, rfl, rfl, rfl, rfl, rfl, trivial⟩⟩
          rcases Nat.lt_or_ge i k with q | q
          · exact hgood i hi q
          · have : i = k := by omega
            subst this; exact hbad
        refine Runs.seq (Runs.region ?_)
        refine Rg.opp rfl rfl rfl (ev_fld rfl rfl rfl rfl rfl (by decide)) rfl ?_
        refine Rg.opp rfl rfl rfl (ev_load1 rfl rfl (read_last (j := 0) rfl) rfl) rfl ?_
        by_cases h4 : l[k].kind = 4
        · refine Rg.opp rfl rfl rfl (ev_ne false rfl rfl (decide_eq_false (by omega))) rfl ?_
          refine Rg.opp rfl rfl rfl rfl rfl ?_
          refine Rg.guards false rfl rfl rfl (fun h => by cases h) (fun _ => ?_)
          refine Rg.guards false rfl rfl rfl (fun h => by cases h) (fun _ => ?_)
          refine Rg.guards false rfl rfl rfl (fun h => by cases h) (fun _ => ?_)
          refine Rg.guards false rfl rfl rfl (fun h => by cases h) (fun _ => ?_)
          refine Rg.guards false rfl rfl rfl (fun h => by cases h) (fun _ => ?_)
          refine Rg.guards false rfl rfl rfl (fun h => by cases h) (fun _ => ?_)
          refine Rg.guards false rfl rfl rfl (fun h => by cases h) (fun _ => ?_)
          refine Rg.guards false rfl rfl rfl (fun h => by cases h) (fun _ => ?_)
          refine Rg.guards false rfl rfl rfl (fun h => by cases h) (fun _ => ?_)
          refine Rg.opp rfl rfl rfl rfl rfl ?_
          refine Rg.nil ?_
          refine Runs.cond false rfl (fun h => by cases h) (fun _ => ?_)
          refine Runs.skip ?_
          refine Runs.region ?_
          refine Rg.opp rfl rfl rfl (ev_addn (b := 1) rfl rfl (by omega)) rfl ?_
          refine Rg.opp rfl rfl rfl rfl rfl ?_
          refine Rg.cut (n := 82) (l := [(61, nat (k + 1)), (8, .map (some M)), (59, .slice (some ⟨b, o, none⟩) l.length c), (60, nat l.length)]) (Is.of ⟨rfl, rfl, rfl, rfl, rfl, rfl, rfl, rfl, trivial⟩) (fun a5 => ?_)
          exact Rg.nil (next a5 (by simp [badRel, h4]))
        · refine Rg.opp rfl rfl rfl (ev_ne true rfl rfl (decide_eq_true (by omega))) rfl ?_
          refine Rg.opp rfl rfl rfl rfl rfl ?_
          refine Rg.guards true rfl rfl rfl (fun _ => ⟨_, _, evW_op rfl, rfl, ?_⟩) (fun h => by cases h)
          refine Rg.guards true rfl rfl rfl (fun _ => ⟨_, _, evW_op (ev_fld rfl rfl rfl rfl rfl (by decide)), rfl, ?_⟩) (fun h => by cases h)
          refine Rg.guards true rfl rfl rfl (fun _ => ⟨_, _, evW_op (ev_load1 rfl rfl (read_last (j := 1) rfl) rfl), rfl, ?_⟩) (fun h => by cases h)
          refine Rg.guards true rfl rfl rfl (fun _ => ⟨_, _, evW_op (ev_look false rfl rfl hM5), rfl, ?_⟩) (fun h => by cases h)
          refine Rg.guards true rfl rfl rfl (fun _ => ⟨_, _, evW_op rfl, rfl, ?_⟩) (fun h => by cases h)
          refine Rg.guards true rfl rfl rfl (fun _ => ⟨_, _, evW_op (ev_fld rfl rfl rfl rfl rfl (by decide)), rfl, ?_⟩) (fun h => by cases h)
          refine Rg.guards true rfl rfl rfl (fun _ => ⟨_, _, evW_op (ev_load1 rfl rfl (read_last (j := 2) rfl) rfl), rfl, ?_⟩) (fun h => by cases h)
          refine Rg.guards true rfl rfl rfl (fun _ => ⟨_, _, evW_op (ev_look false rfl rfl hM5), rfl, ?_⟩) (fun h => by cases h)
          simp only [Bool.false_eq_true, if_false, idx_val]
          refine Rg.guards true rfl rfl rfl (fun _ => ⟨_, _, evW_op (ev_leq (decide (idx order l[k].up ≤ idx order l[k].lo)) rfl rfl (by simp)), rfl, ?_⟩) (fun h => by cases h)
          refine Rg.opp rfl rfl rfl rfl rfl ?_
          refine Rg.nil ?_
          refine Runs.cond (decide (idx order l[k].up ≤ idx order l[k].lo)) rfl (fun hle => ?_) (fun hle => ?_)
          · refine Runs.seq (Runs.region ?_)
            repeat refine Rg.opp rfl rfl rfl rfl rfl ?_
            refine Rg.nil ?_
            refine Runs.ret ⟨_, rfl, ?_, he5⟩
            have hf : l.findIdx? (badRel order) = some k := by
              rw [List.findIdx?_eq_some_iff_getElem]
              exact ⟨hlt, by simp [badRel, h4]; exact of_decide_eq_true hle, fun i hi => by simpa using hgood i (by omega) hi⟩
            rw [hkp, hf]
            rfl
          · refine Runs.skip ?_
            refine Runs.region ?_
            refine Rg.opp rfl rfl rfl (ev_addn (b := 1) rfl rfl (by omega)) rfl ?_
            refine Rg.opp rfl rfl rfl rfl rfl ?_
            refine Rg.cut (n := 82) (l := [(61, nat (k + 1)), (8, .map (some M)), (59, .slice (some ⟨b, o, none⟩) l.length c), (60, nat l.length)]) (Is.of ⟨rfl, rfl, rfl, rfl, rfl, rfl, rfl, rfl, trivial⟩) (fun a5 => ?_)
            exact Rg.nil (next a5 (by simp [badRel, of_decide_eq_false hle]))
      · refine Runs.seq (Runs.region ?_)
        refine Rg.opp rfl rfl rfl (ev_lt false rfl rfl (by simp; omega)) rfl ?_
        refine Rg.nil ?_
        refine Runs.seq (Runs.cond false rfl (fun h => by cases h) (fun _ => ?_))
        refine Runs.exit ?_
        refine Runs.seq (Runs.region ?_)
        repeat refine Rg.opp rfl rfl rfl rfl rfl ?_
        refine Rg.nil ?_
        refine Runs.ret ⟨_, rfl, ?_, he4⟩
        have hf : l.findIdx? (badRel order) = none := by
          rw [List.findIdx?_eq_none_iff]
          intro r hr
          obtain ⟨i, hi, rfl⟩ := List.mem_iff_getElem.1 hr
          exact hgood i hi (by omega)
        rw [hkp, hf]
        rfl

end Go.Proofs.Ytdhbclplondmjaa.C
