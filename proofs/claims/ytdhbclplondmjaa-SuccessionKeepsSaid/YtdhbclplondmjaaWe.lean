/- The program's units, run. -/
import Derived.Test.YtdhbclplondmjaaWd
set_option linter.unusedVariables false
set_option maxRecDepth 100000
namespace Go.Proofs.Ytdhbclplondmjaa.C
open Go.RowKit Go.Sort

def allNames (l : List Rel) : List Nm := l.flatMap fun r => [r.up, r.lo]
def unitsP (l : List Rel) : List Nm := Lib.compact (sortNm (allNames l))

theorem allNames_len (l : List Rel) : (allNames l).length = 2 * l.length := by
  induction l with
  | nil => rfl
  | cons r l ih => simp only [allNames, List.flatMap_cons, List.length_append, List.length_cons, List.length_nil] at *; omega

theorem unitsP_runs {H : Heap} {v : Value} {l : List Rel} (h : Sl H 3 v (rels l)) (hl : l.length < 2 ^ 30) :
    ∃ r H1, big tab 40 [v] H = some (r, H1) ∧ Ext H H1 ∧ Sl H1 1 r (strs (unitsP l)) := by
  obtain ⟨a, c, rfl, hc, hcs⟩ := h
  simp only [rels_len] at *
  refine big_of_runs rfl rfl rfl ?_
  obtain ⟨z, hz⟩ := startC_mkS Try.f40 [.slice a l.length c]
  rw [show startC (40, Try.f40).snd [Value.slice a l.length c] = _ from hz]
  refine Runs.seq (Runs.region ?_)
  repeat refine Rg.opp rfl rfl rfl rfl rfl ?_
  refine Rg.nil ?_
  refine Runs.seq (Runs.region ?_)
  repeat refine Rg.opp rfl rfl rfl rfl rfl ?_
  refine Rg.nil ?_
  refine Runs.seq (Runs.seq (Runs.region ?_))
  repeat refine Rg.opp rfl rfl rfl rfl rfl ?_
  refine Rg.nil ?_
  refine Runs.block ?_
  refine Runs.loop (fun m s H1 => ∃ k w p, k ≤ l.length ∧ m = l.length - k ∧ Ext H H1 ∧ Acc H1 H.length 1 w (strs (allNames (l.take k))) p ∧ Is s 24 [(3, w), (6, .slice a l.length c), (7, nat l.length), (8, nat k)]) _
    ⟨0, .slice none 0 0, 0, Nat.zero_le _, rfl, Ext.refl H, Acc.nil _ _ _ _, Is.of ⟨rfl, rfl, rfl, rfl, rfl, rfl, rfl, rfl, trivial⟩⟩ ?_
  rintro m s H1 ⟨k, w, p, hk, rfl, he, hacc, hs⟩
  obtain ⟨a0, rfl⟩ := hs.mk1
  by_cases hlt : k < l.length
  · refine Runs.seq (Runs.region ?_)
    refine Rg.opp rfl rfl rfl (ev_lt true rfl rfl (by simp; omega)) rfl ?_
    refine Rg.nil ?_
    refine Runs.seq (Runs.cond true rfl (fun _ => ?_) (fun h => by cases h))
    refine Runs.skip ?_
    have hcs1 := hcs.sees he.sees
    obtain ⟨b, o, rfl, hsz, hr⟩ := hcs1.lt (i := k) (by rw [rels_len]; exact hlt)
    have hrk := hr k _ (rels_get hlt)
    refine Runs.seq (Runs.block ?_)
    refine Runs.seq (Runs.region ?_)
    refine Rg.opp rfl rfl rfl (ev_at rfl rfl rfl rfl (by decide) hlt) rfl ?_
    refine Rg.opp rfl rfl rfl (ev_loadA rfl rfl hrk rfl) rfl ?_
    refine Rg.opp rfl rfl rfl rfl rfl ?_
    refine Rg.opn rfl rfl rfl (ev_set (cs := relC l[k]) rfl rfl rfl rfl rfl rfl) rfl ?_
    refine Rg.nil ?_
    have hlen1 := he.len
    have hacc1 : Acc (H1 ++ [Blk.row 3 (relC l[k]) true true]) H.length 1 w (strs (allNames (l.take k))) p := hacc.keep fun b X hb _ => by rw [List.getElem?_append_left (List.getElem?_eq_some_iff.1 hb).1]; exact hb
    have he1 : Ext H (H1 ++ [Blk.row 3 (relC l[k]) true true]) := he.row _ _
    refine Runs.region ?_
    refine Rg.opp rfl rfl rfl rfl rfl ?_
    refine Rg.opp rfl rfl rfl (ev_fld rfl rfl rfl rfl rfl (by decide)) rfl ?_
    refine Rg.opp rfl rfl rfl (ev_load1 rfl rfl (read_last (j := 1) rfl) rfl) rfl ?_
    refine Rg.opp rfl rfl rfl (ev_fld rfl rfl rfl rfl rfl (by decide)) rfl ?_
    refine Rg.opp rfl rfl rfl (ev_load1 rfl rfl (read_last (j := 2) rfl) rfl) rfl ?_
    refine Rg.opp rfl rfl rfl rfl rfl ?_
    generalize hK : H1 ++ [Blk.row 3 (relC l[k]) true true] = K at hacc1 he1
    have hkeep : Acc (K ++ [Blk.row 1 [str l[k].up, str l[k].lo] true true]) H.length 1 w (strs (allNames (l.take k))) p := hacc1.keep fun b X hb _ => by rw [List.getElem?_append_left (List.getElem?_eq_some_iff.1 hb).1]; exact hb
    have hsrc : srcCells (K ++ [Blk.row 1 [str l[k].up, str l[k].lo] true true]) (some ⟨K.length, 0, none⟩) (strs [l[k].up, l[k].lo]).length 1 = some (strs [l[k].up, l[k].lo]).flatten := by
      have : (K ++ [Blk.row 1 [str l[k].up, str l[k].lo] true true])[K.length]? = some (Blk.row 1 [str l[k].up, str l[k].lo] true true) := List.getElem?_concat_length
      simp only [srcCells, readCells, this]
      rfl
    have hlen : (strs (allNames (l.take k))).length = 2 * k := by rw [strs_len, allNames_len, List.length_take]; omega
    have hel := he1.len
    obtain ⟨w2, H2, p2, happ, hacc2, hgrow⟩ := push_app (T := tab) (t := 37) (e := 9) (i := _) (ei := _) ⟨rfl, rfl, rfl, by decide⟩ hkeep (c2 := 2) hsrc (by simp [strs, oneCell]) (by rw [hlen]; show (2 * k + 2) * 16 ≤ 2 ^ 40; omega) (by rw [hlen]; show 2 * k + 2 ≤ 2 ^ 40; omega) (by simp; omega)
    subst hK
    refine Rg.opp rfl rfl rfl (ev_append rfl rfl happ) rfl ?_
    refine Rg.opp rfl rfl rfl rfl rfl ?_
    refine Rg.nil ?_
    refine Runs.region ?_
    refine Rg.opp rfl rfl rfl (ev_addn (b := 1) rfl rfl (by omega)) rfl ?_
    refine Rg.opp rfl rfl rfl rfl rfl ?_
    refine Rg.nil ?_
    refine ⟨l.length - (k + 1), by omega, k + 1, w2, p2, hlt, rfl, hgrow.ext H rfl (he1.row _ _), ?_, Is.of ⟨rfl, rfl, rfl, rfl, rfl, rfl, rfl, rfl, trivial⟩⟩
    rw [← List.take_append_getElem hlt]
    have e : ∀ (p : List Rel) (r : Rel), strs (allNames (p ++ [r])) = strs (allNames p) ++ strs [r.up, r.lo] := by intro p r; simp [strs, allNames]
    rw [e]; exact hacc2
  · have hkl : k = l.length := by omega
    refine Runs.seq (Runs.region ?_)
    refine Rg.opp rfl rfl rfl (ev_lt false rfl rfl (by simp; omega)) rfl ?_
    refine Rg.nil ?_
    refine Runs.seq (Runs.cond false rfl (fun h => by cases h) (fun _ => ?_))
    refine Runs.exit ?_
    rw [hkl, List.take_of_length_le (Nat.le_refl _)] at hacc
    have hn : (allNames l).length < 2 ^ 40 := by rw [allNames_len]; omega
    obtain ⟨H2, hs2, hacc2, he2⟩ := sort_acc hacc hn
    have hn2 : (sortNm (allNames l)).length < 2 ^ 40 := by rw [List.length_mergeSort]; exact hn
    obtain ⟨r, H3, hs3, hsl, he3⟩ := compact_acc hacc2 hn2
    refine Runs.seq (Runs.region ?_)
    refine Rg.opp rfl rfl rfl rfl rfl ?_
    refine Rg.calls rfl rfl rfl rfl rfl rfl (big_ext (T := tab) (f := 51) rfl hs2) ?_
    refine Rg.nil ?_
    refine Runs.seq (Runs.region ?_)
    refine Rg.opp rfl rfl rfl rfl rfl ?_
    refine Rg.calls rfl rfl rfl rfl rfl rfl (big_ext (T := tab) (f := 52) rfl hs3) ?_
    refine Rg.opp rfl rfl rfl rfl rfl ?_
    refine Rg.nil ?_
    exact Runs.ret ⟨r, rfl, he3 H rfl (he2 H rfl he), hsl⟩

end Go.Proofs.Ytdhbclplondmjaa.C
