/- The program's check of described relations. -/
import Derived.Test.YtdhbclplondmjaaWe
set_option linter.unusedVariables false
set_option maxRecDepth 1000000
namespace Go.Proofs.Ytdhbclplondmjaa.C
open Go.RowKit Go.Sort

noncomputable def goodB (k u l : Nat) : Bool := match runF 100 43 [.agg #[nat k, str (nm u), str (nm l)]] [] with
  | some (.int .i64 0, _) => true
  | _ => false

set_option maxHeartbeats 0 in
theorem goodB_all : ((List.range 4).all fun k => (List.range 6).all fun u => (List.range 6).all fun l => u == l || goodB (1 + k) u l) = true := by decide +kernel

theorem check_good (s : Seen) (H : Heap) : big tab 43 [.agg #[nat (mk s).kind, str (mk s).up, str (mk s).lo]] H = some (nat 0, H) := by
  refine big_ext (T := tab) (f := 43) rfl ?_
  have h := goodB_all
  simp only [List.all_eq_true, List.mem_range, Bool.or_eq_true, beq_iff_eq] at h
  have hne : mkA s ≠ mkB s := by
    unfold mkA mkB
    split
    · omega
    · rename_i q; exact q
  have h1 := (h (s.k % 4) (by omega) (mkA s) (mk_le s).1 (mkB s) (mk_le s).2).resolve_left hne
  unfold goodB at h1
  split at h1
  · rename_i E he
    have he2 := callCF_ok 100 _ _ _ _ he
    rw [show tabF = tab0 from tabR_eq _] at he2
    exact pureB_is 100 rfl he2 rfl H
  · simp at h1

theorem read_whole {K : Heap} {sz : Nat} {cs : List Value} : readCells (K ++ [.row sz cs true true]) K.length 0 cs.length = some cs := by
  have hb : (K ++ [Blk.row sz cs true true])[K.length]? = some (.row sz cs true true) := List.getElem?_concat_length
  simp only [readCells, hb]
  rw [if_pos (by omega)]
  simp

section
variable {T : Tab} {s : List Value} {H : Heap}
theorem ev_gt {t t2 : TypeId} {x y : Operand} {k : IntKind} {a b : Int} (p : Bool) (hx : ev s x = .int k a) (hy : ev s y = .int k b) (h : decide (a > b) = p) : opEval T s H (.binOp .gtr t x y t2) = some (.bool p, H) :=
  ev_bin hx hy (by decide) (by subst h; rfl)
theorem ev_ne {t t2 : TypeId} {x y : Operand} {k : IntKind} {a b : Int} (p : Bool) (hx : ev s x = .int k a) (hy : ev s y = .int k b) (h : decide (a ≠ b) = p) : opEval T s H (.binOp .neq t x y t2) = some (.bool p, H) :=
  ev_bin hx hy (by decide) (by subst h; simp [binInt]; by_cases q : a = b <;> simp [q])
end

def Good (r : Rel) : Prop := ∀ K, big tab 43 [.agg #[nat r.kind, str r.up, str r.lo]] K = some (nat 0, K)

theorem checkP_runs {H : Heap} {v : Value} {l : List Rel} (h : Sl H 3 v (rels l)) (hl : l.length ≤ 200) (hg : ∀ r ∈ l, Good r) (hu : (unitsP l).length ≤ 60) :
    ∃ r H1, big tab 31 [v] H = some (r, H1) ∧ r = nat 0 ∧ Ext H H1 := by
  have hsl := h
  obtain ⟨a, c, rfl, hc, hcs⟩ := h
  simp only [rels_len] at *
  refine big_of_runs rfl rfl rfl ?_
  obtain ⟨z, hz⟩ := startC_mkS Try.f31 [.slice a l.length c]
  rw [show startC (31, Try.f31).snd [Value.slice a l.length c] = _ from hz]
  refine Runs.seq (Runs.region ?_)
  repeat refine Rg.opp rfl rfl rfl rfl rfl ?_
  refine Rg.nil ?_
  refine Runs.seq (Runs.seq (Runs.region ?_))
  refine Rg.opp rfl rfl rfl rfl rfl ?_
  refine Rg.opp rfl rfl rfl rfl rfl ?_
  refine Rg.opp rfl rfl rfl (ev_gt false rfl rfl (decide_eq_false (by omega))) rfl ?_
  refine Rg.nil ?_
  refine Runs.cond false rfl (fun h => by cases h) (fun _ => ?_)
  refine Runs.skip ?_
  refine Runs.seq (Runs.seq (Runs.region ?_))
  repeat refine Rg.opp rfl rfl rfl rfl rfl ?_
  refine Rg.nil ?_
  refine Runs.block ?_
  refine Runs.loop (fun m s H1 => ∃ k, k ≤ l.length ∧ m = l.length - k ∧ Ext H H1 ∧ Is s 25 [(0, .slice a l.length c), (9, .slice a l.length c), (10, nat l.length), (11, nat k)]) _
    ⟨0, Nat.zero_le _, rfl, Ext.refl H, Is.of ⟨rfl, rfl, rfl, rfl, rfl, rfl, rfl, rfl, trivial⟩⟩ ?_
  rintro m s H1 ⟨k, hk, rfl, he, hs⟩
  obtain ⟨a0, rfl⟩ := hs.mk1
  by_cases hlt : k < l.length
  · refine Runs.seq (Runs.region ?_)
    refine Rg.opp rfl rfl rfl (ev_lt true rfl rfl (by simp; omega)) rfl ?_
    refine Rg.nil ?_
    refine Runs.seq (Runs.cond true rfl (fun _ => ?_) (fun h => by cases h))
    refine Runs.skip ?_
    have hcs1 := hcs.sees he.sees
    obtain ⟨b, o, rfl, hsz, hr⟩ := hcs1.lt (i := k) (by rw [rels_len]; exact hlt)
    have hrk := hr k _ (rels_get hlt)
    refine Runs.seq (Runs.block ?_)
    refine Runs.seq (Runs.region ?_)
    refine Rg.opp rfl rfl rfl (ev_at rfl rfl rfl rfl (by decide) hlt) rfl ?_
    refine Rg.opp rfl rfl rfl (ev_loadA rfl rfl hrk rfl) rfl ?_
    refine Rg.opp rfl rfl rfl rfl rfl ?_
    refine Rg.opn rfl rfl rfl (ev_set (cs := relC l[k]) rfl rfl rfl rfl rfl rfl) rfl ?_
    refine Rg.nil ?_
    refine Runs.seq (Runs.region ?_)
    refine Rg.opp rfl rfl rfl (ev_loadA rfl rfl (read_whole (cs := relC l[k])) rfl) rfl ?_
    refine Rg.calls rfl rfl rfl rfl rfl rfl (hg l[k] (List.getElem_mem hlt) _) ?_
    refine Rg.opp rfl rfl rfl rfl rfl ?_
    refine Rg.nil ?_
    refine Runs.seq (Runs.region ?_)
    refine Rg.opp rfl rfl rfl rfl rfl ?_
    refine Rg.opp rfl rfl rfl (ev_ne false rfl rfl (by decide)) rfl ?_
    refine Rg.nil ?_
    refine Runs.cond false rfl (fun h => by cases h) (fun _ => ?_)
    refine Runs.skip ?_
    refine Runs.region ?_
    refine Rg.opp rfl rfl rfl (ev_addn (b := 1) rfl rfl (by omega)) rfl ?_
    refine Rg.opp rfl rfl rfl rfl rfl ?_
    refine Rg.nil ?_
    exact ⟨l.length - (k + 1), by omega, k + 1, hlt, rfl, he.row _ _, Is.of ⟨rfl, rfl, rfl, rfl, rfl, rfl, rfl, rfl, trivial⟩⟩
  · refine Runs.seq (Runs.region ?_)
    refine Rg.opp rfl rfl rfl (ev_lt false rfl rfl (by simp; omega)) rfl ?_
    refine Rg.nil ?_
    refine Runs.seq (Runs.cond false rfl (fun h => by cases h) (fun _ => ?_))
    refine Runs.exit ?_
    obtain ⟨r, H2, hu1, he2, hsu⟩ := unitsP_runs (hsl.sees he.sees) (by omega)
    obtain ⟨ua, uc, rfl, huc, _⟩ := hsu
    rw [strs_len] at *
    refine Runs.seq (Runs.seq (Runs.region ?_))
    refine Rg.opp rfl rfl rfl rfl rfl ?_
    refine Rg.calls rfl rfl rfl rfl rfl rfl hu1 ?_
    refine Rg.opp rfl rfl rfl rfl rfl ?_
    refine Rg.opp rfl rfl rfl (ev_gt false rfl rfl (decide_eq_false (by omega))) rfl ?_
    refine Rg.nil ?_
    refine Runs.cond false rfl (fun h => by cases h) (fun _ => ?_)
    refine Runs.skip ?_
    refine Runs.seq (Runs.region ?_)
    refine Rg.opp rfl rfl rfl rfl rfl ?_
    refine Rg.nil ?_
    exact Runs.ret ⟨_, rfl, rfl, he.trans he2⟩

end Go.Proofs.Ytdhbclplondmjaa.C
