/- The law on succession.Keeps answers true WHATEVER THE INPUT, and the input reads as it did. Conditions: none. -/
import Derived.Test.YtdhbclplondmjaaWi
import Derived.Test.YtdhbclplondmjaaKn6
import Derived.ProofKit
import Derived.SizedLaws
import Derived.SliceStrings
import Derived.Deep.Strs
import Derived.Test.YtdhbclplondmjaaRows
import Derived.Carry
/- The end of the law on Keeps: its last loop. -/
set_option linter.unusedVariables false
set_option maxRecDepth 100000
namespace Go.Proofs.Ytdhbclplondmjaa.C
open Go.RowKit Go.Sort

def restOf : Code → Code
  | .seq _ b => b
  | c => c
def restN : Nat → Code → Code
  | 0, c => c
  | n + 1, c => restOf (restN n c)
def bodyOf (f : Func) : Code := match f.body with | some c => c | none => .skip

theorem evW_call {T : Tab} {call : CallF} {s : List Value} {H : Heap} {o : Op} {f : FuncId} {args : List Value} {r : Value × Heap} (hn : opEval T s H o = none) (hc : calleeOf T s H o = some (f, args)) (h : call f args H = some r) : evalOp T call s H o = some r := by
  unfold evalOp; rw [hn, hc]; exact h

theorem quiet_same {T : Tab} {f : FuncId} {args : List Value} {v : Value} {H : Heap} (h : big T f args (H.map Blk.freeze) = some (v, H.map Blk.freeze)) : quiet (big T) f args H = some (v, H) := by
  unfold quiet
  rw [h]
  simp

def lawArc (order : List Nm) (r : Rel) : Bool := decide (r.kind ≠ 4) && decide (indexOf order r.up < indexOf order r.lo)

set_option maxHeartbeats 4000000 in
theorem law_end {H4 : Heap} {order : List Nm} {L : List Rel} {f e oc lc : Nat} {al ans : Bool} {oa la : Option Addr} (hosl : Sl H4 1 (.slice oa order.length oc) (strs order)) (hol : order.length < 2 ^ 40) (hlcs : Cells H4 3 la (rels L)) (hL8 : L.length ≤ 8)
    (hlaw : (match L.findIdx? (lawArc order) with
      | some i => decide (e = 0) && decide (f = i) && !al
      | none => decide (e = 0) && decide (f = 0) && al) = ans) (a8 : Nat → Value) :
    Runs tab (restN 10 (bodyOf Try.f8)) (mkS 139 a8 [(1, .slice oa order.length oc), (6, .slice la L.length lc), (7, nat f), (8, .bool al), (9, nat e)]) H4 (fun s1 H1 => ∃ v, resultsC tab Try.f8 s1 H1 = some v ∧ v = .bool ans) (fun _ _ _ => False) (fun s1 H1 => ∃ v, resultsC tab Try.f8 s1 H1 = some v ∧ v = .bool ans) := by
  have hfin : ∀ r : Value, r = .bool ans → r = .bool ans := fun _ h => h
  refine Runs.seq (Runs.seq (Runs.region ?_))
  refine Rg.opp rfl rfl rfl rfl rfl ?_
  refine Rg.nil ?_
  refine Runs.block ?_
  refine Runs.loop (fun m s H5 => H4 = H5 ∧ ∃ k, k ≤ L.length ∧ m = L.length - k ∧ (∀ i (hi : i < L.length), i < k → lawArc order L[i] = false) ∧ Is s 139 [(1, .slice oa order.length oc), (6, .slice la L.length lc), (7, nat f), (8, .bool al), (9, nat e), (14, nat k)]) _ ⟨rfl, 0, Nat.zero_le _, rfl, fun i _ h => by omega, Is.of ⟨rfl, rfl, rfl, rfl, rfl, rfl, rfl, rfl, rfl, rfl, rfl, rfl, trivial⟩⟩ ?_
  rintro m s H5 ⟨hH5, k4, hk4, rfl, hgood, hs⟩
  subst hH5
  obtain ⟨a9, rfl⟩ := hs.mk1
  clear hs
  by_cases hlt4 : k4 < L.length
  · refine Runs.seq (Runs.seq (Runs.region ?_))
    refine Rg.opp rfl rfl rfl rfl rfl ?_
    refine Rg.opp rfl rfl rfl rfl rfl ?_
    refine Rg.opp rfl rfl rfl rfl rfl ?_
    refine Rg.opp rfl rfl rfl (ev_lt true rfl rfl (by simp; omega)) rfl ?_
    refine Rg.nil ?_
    refine Runs.cond true rfl (fun _ => ?_) (fun h => by cases h)
    refine Runs.skip ?_
    obtain ⟨b, o, rfl, hsz, hr⟩ := hlcs.lt (i := k4) (by rw [rels_len]; exact hlt4)
    have hrk := hr k4 _ (rels_get hlt4)
    have hix : ∀ x, quiet (big tab) 22 [.slice oa order.length oc, str x] H4 = some (.int .i64 (indexOf order x), H4) := fun x => quiet_same (index_runs x (hosl.sees (Sees.freeze _)) (by omega))
    have next : ∀ a5 : Nat → Value, lawArc order L[k4] = false → ∃ m1, m1 < L.length - k4 ∧ H4 = H4 ∧ ∃ k1, k1 ≤ L.length ∧ m1 = L.length - k1 ∧ (∀ i (hi : i < L.length), i < k1 → lawArc order L[i] = false) ∧ Is (mkS 139 a5 [(1, .slice oa order.length oc), (6, (.slice (some ⟨b, o, none⟩) L.length lc)), (7, nat f), (8, .bool al), (9, nat e), (14, nat (k4 + 1))]) 139 [(1, .slice oa order.length oc), (6, (.slice (some ⟨b, o, none⟩) L.length lc)), (7, nat f), (8, .bool al), (9, nat e), (14, nat k1)] := by
      intro a5 hbad
      refine ⟨L.length - (k4 + 1), by omega, rfl, k4 + 1, hlt4, rfl, fun i hi h => ?_, Is.of ⟨rfl, rfl, rfl, rfl, rfl, rfl, rfl, rfl, rfl, rfl, rfl, rfl, trivial⟩⟩
      rcases Nat.lt_or_ge i k4 with q | q
      · exact hgood i hi q
      · have : i = k4 := by omega
        subst this; exact hbad
    refine Runs.seq (Runs.block ?_)
    refine Runs.seq (Runs.drawn (is := List.range 22) (by decide +kernel) ?_)
    refine Rg.opp rfl rfl rfl rfl rfl ?_
    refine Rg.opp rfl rfl rfl rfl rfl ?_
    refine Rg.opp rfl rfl rfl (ev_at rfl rfl rfl rfl (by decide) hlt4) rfl ?_
    refine Rg.opp rfl rfl rfl (ev_loadA rfl rfl hrk rfl) rfl ?_
    refine Rg.calls rfl rfl rfl rfl rfl rfl (quiet_pure (fun K => arc_runs _ _ _ K) _) ?_
    by_cases hk : L[k4].kind = 4
    · rw [show decide (L[k4].kind ≠ 4) = false from decide_eq_false (by simp [hk])]
      refine Rg.opp rfl rfl rfl rfl rfl ?_
      refine Rg.guards false rfl rfl rfl (fun h => by cases h) (fun _ => ?_)
      refine Rg.guards false rfl rfl rfl (fun h => by cases h) (fun _ => ?_)
      refine Rg.guards false rfl rfl rfl (fun h => by cases h) (fun _ => ?_)
      refine Rg.guards false rfl rfl rfl (fun h => by cases h) (fun _ => ?_)
      refine Rg.guards false rfl rfl rfl (fun h => by cases h) (fun _ => ?_)
      refine Rg.guards false rfl rfl rfl (fun h => by cases h) (fun _ => ?_)
      refine Rg.guards false rfl rfl rfl (fun h => by cases h) (fun _ => ?_)
      refine Rg.guards false rfl rfl rfl (fun h => by cases h) (fun _ => ?_)
      refine Rg.guards false rfl rfl rfl (fun h => by cases h) (fun _ => ?_)
      refine Rg.guards false rfl rfl rfl (fun h => by cases h) (fun _ => ?_)
      refine Rg.guards false rfl rfl rfl (fun h => by cases h) (fun _ => ?_)
      refine Rg.guards false rfl rfl rfl (fun h => by cases h) (fun _ => ?_)
      refine Rg.guards false rfl rfl rfl (fun h => by cases h) (fun _ => ?_)
      refine Rg.guards false rfl rfl rfl (fun h => by cases h) (fun _ => ?_)
      refine Rg.guards false rfl rfl rfl (fun h => by cases h) (fun _ => ?_)
      refine Rg.opp rfl rfl rfl rfl rfl ?_
      refine Rg.nil ?_
      refine Runs.cond false rfl (fun h => by cases h) (fun _ => ?_)
      refine Runs.skip ?_
      refine Runs.region ?_
      refine Rg.opp rfl rfl rfl rfl rfl ?_
      refine Rg.opp rfl rfl rfl (ev_addn (b := 1) rfl rfl (by omega)) rfl ?_
      refine Rg.opp rfl rfl rfl rfl rfl ?_
      refine Rg.cut (n := 139) (l := [(1, .slice oa order.length oc), (6, (.slice (some ⟨b, o, none⟩) L.length lc)), (7, nat f), (8, .bool al), (9, nat e), (14, nat (k4 + 1))]) (Is.of ⟨rfl, rfl, rfl, rfl, rfl, rfl, rfl, rfl, rfl, rfl, rfl, rfl, trivial⟩) (fun a5 => ?_)
      exact Rg.nil (next a5 (by simp [lawArc, hk]))
    · rw [show decide (L[k4].kind ≠ 4) = true from decide_eq_true hk]
      refine Rg.opp rfl rfl rfl rfl rfl ?_
      refine Rg.guards true rfl rfl rfl (fun _ => ⟨_, _, evW_op rfl, rfl, ?_⟩) (fun h => by cases h)
      refine Rg.guards true rfl rfl rfl (fun _ => ⟨_, _, evW_op rfl, rfl, ?_⟩) (fun h => by cases h)
      refine Rg.guards true rfl rfl rfl (fun _ => ⟨_, _, evW_op rfl, rfl, ?_⟩) (fun h => by cases h)
      refine Rg.guards true rfl rfl rfl (fun _ => ⟨_, _, evW_op (ev_at rfl rfl rfl rfl (by decide) hlt4), rfl, ?_⟩) (fun h => by cases h)
      refine Rg.guards true rfl rfl rfl (fun _ => ⟨_, _, evW_op (ev_fld rfl rfl rfl rfl rfl (by decide)), rfl, ?_⟩) (fun h => by cases h)
      refine Rg.guards true rfl rfl rfl (fun _ => ⟨_, _, evW_op (ev_load1 rfl rfl (read_one hrk (j := 1) rfl) rfl), rfl, ?_⟩) (fun h => by cases h)
      refine Rg.guards true rfl rfl rfl (fun _ => ⟨_, _, evW_call rfl rfl (hix _), rfl, ?_⟩) (fun h => by cases h)
      refine Rg.guards true rfl rfl rfl (fun _ => ⟨_, _, evW_op rfl, rfl, ?_⟩) (fun h => by cases h)
      refine Rg.guards true rfl rfl rfl (fun _ => ⟨_, _, evW_op rfl, rfl, ?_⟩) (fun h => by cases h)
      refine Rg.guards true rfl rfl rfl (fun _ => ⟨_, _, evW_op rfl, rfl, ?_⟩) (fun h => by cases h)
      refine Rg.guards true rfl rfl rfl (fun _ => ⟨_, _, evW_op (ev_at rfl rfl rfl rfl (by decide) hlt4), rfl, ?_⟩) (fun h => by cases h)
      refine Rg.guards true rfl rfl rfl (fun _ => ⟨_, _, evW_op (ev_fld rfl rfl rfl rfl rfl (by decide)), rfl, ?_⟩) (fun h => by cases h)
      refine Rg.guards true rfl rfl rfl (fun _ => ⟨_, _, evW_op (ev_load1 rfl rfl (read_one hrk (j := 2) rfl) rfl), rfl, ?_⟩) (fun h => by cases h)
      refine Rg.guards true rfl rfl rfl (fun _ => ⟨_, _, evW_call rfl rfl (hix _), rfl, ?_⟩) (fun h => by cases h)
      refine Rg.guards true rfl rfl rfl (fun _ => ⟨_, _, evW_op (ev_lt (decide (indexOf order L[k4].up < indexOf order L[k4].lo)) rfl rfl rfl), rfl, ?_⟩) (fun h => by cases h)
      refine Rg.opp rfl rfl rfl rfl rfl ?_
      refine Rg.nil ?_
      refine Runs.cond (decide (indexOf order L[k4].up < indexOf order L[k4].lo)) rfl (fun q => ?_) (fun q => ?_)
      · have hfi : L.findIdx? (lawArc order) = some k4 := by
          rw [List.findIdx?_eq_some_iff_getElem]
          exact ⟨hlt4, by simp [lawArc, hk]; exact of_decide_eq_true q, fun i hi => by simpa using hgood i (by omega) hi⟩
        rw [hfi] at hlaw
        simp only at hlaw
        refine Runs.seq (Runs.region ?_)
        refine Rg.opp rfl rfl rfl rfl rfl ?_
        by_cases he0 : e = 0
        · refine Rg.opp rfl rfl rfl (ev_eq true rfl rfl (decide_eq_true (by omega))) rfl ?_
          refine Rg.opp rfl rfl rfl rfl rfl ?_
          refine Rg.guards true rfl rfl rfl (fun _ => ⟨_, _, evW_op rfl, rfl, ?_⟩) (fun h => by cases h)
          refine Rg.guards true rfl rfl rfl (fun _ => ⟨_, _, evW_op rfl, rfl, ?_⟩) (fun h => by cases h)
          by_cases hfk : f = k4
          · refine Rg.guards true rfl rfl rfl (fun _ => ⟨_, _, evW_op (ev_eq true rfl rfl (decide_eq_true (by omega))), rfl, ?_⟩) (fun h => by cases h)
            refine Rg.opp rfl rfl rfl rfl rfl ?_
            refine Rg.opp rfl rfl rfl rfl rfl ?_
            refine Rg.guards true rfl rfl rfl (fun _ => ⟨_, _, evW_op rfl, rfl, ?_⟩) (fun h => by cases h)
            refine Rg.guards true rfl rfl rfl (fun _ => ⟨_, _, evW_op rfl, rfl, ?_⟩) (fun h => by cases h)
            refine Rg.opp rfl rfl rfl rfl rfl ?_
            refine Rg.opp rfl rfl rfl rfl rfl ?_
            refine Rg.nil ?_
            refine Runs.ret ⟨_, rfl, hfin _ ?_⟩
            rw [← hlaw]
            simp [he0, hfk]
            try rfl
          · refine Rg.guards true rfl rfl rfl (fun _ => ⟨_, _, evW_op (ev_eq false rfl rfl (decide_eq_false (by omega))), rfl, ?_⟩) (fun h => by cases h)
            refine Rg.opp rfl rfl rfl rfl rfl ?_
            refine Rg.opp rfl rfl rfl rfl rfl ?_
            refine Rg.guards false rfl rfl rfl (fun h => by cases h) (fun _ => ?_)
            refine Rg.guards false rfl rfl rfl (fun h => by cases h) (fun _ => ?_)
            refine Rg.opp rfl rfl rfl rfl rfl ?_
            refine Rg.opp rfl rfl rfl rfl rfl ?_
            refine Rg.nil ?_
            refine Runs.ret ⟨_, rfl, hfin _ ?_⟩
            rw [← hlaw]
            simp [he0, hfk]
            try rfl
        · refine Rg.opp rfl rfl rfl (ev_eq false rfl rfl (decide_eq_false (by omega))) rfl ?_
          refine Rg.opp rfl rfl rfl rfl rfl ?_
          refine Rg.guards false rfl rfl rfl (fun h => by cases h) (fun _ => ?_)
          refine Rg.guards false rfl rfl rfl (fun h => by cases h) (fun _ => ?_)
          refine Rg.guards false rfl rfl rfl (fun h => by cases h) (fun _ => ?_)
          refine Rg.opp rfl rfl rfl rfl rfl ?_
          refine Rg.opp rfl rfl rfl rfl rfl ?_
          refine Rg.guards false rfl rfl rfl (fun h => by cases h) (fun _ => ?_)
          refine Rg.guards false rfl rfl rfl (fun h => by cases h) (fun _ => ?_)
          refine Rg.opp rfl rfl rfl rfl rfl ?_
          refine Rg.opp rfl rfl rfl rfl rfl ?_
          refine Rg.nil ?_
          refine Runs.ret ⟨_, rfl, hfin _ ?_⟩
          rw [← hlaw]
          simp [he0]
          try rfl
      · refine Runs.skip ?_
        refine Runs.region ?_
        refine Rg.opp rfl rfl rfl rfl rfl ?_
        refine Rg.opp rfl rfl rfl (ev_addn (b := 1) rfl rfl (by omega)) rfl ?_
        refine Rg.opp rfl rfl rfl rfl rfl ?_
        refine Rg.cut (n := 139) (l := [(1, .slice oa order.length oc), (6, (.slice (some ⟨b, o, none⟩) L.length lc)), (7, nat f), (8, .bool al), (9, nat e), (14, nat (k4 + 1))]) (Is.of ⟨rfl, rfl, rfl, rfl, rfl, rfl, rfl, rfl, rfl, rfl, rfl, rfl, trivial⟩) (fun a5 => ?_)
        exact Rg.nil (next a5 (by simp only [lawArc, of_decide_eq_false q, decide_false, Bool.and_false]))
  · refine Runs.seq (Runs.seq (Runs.region ?_))
    refine Rg.opp rfl rfl rfl rfl rfl ?_
    refine Rg.opp rfl rfl rfl rfl rfl ?_
    refine Rg.opp rfl rfl rfl rfl rfl ?_
    refine Rg.opp rfl rfl rfl (ev_lt false rfl rfl (by simp; omega)) rfl ?_
    refine Rg.nil ?_
    refine Runs.cond false rfl (fun h => by cases h) (fun _ => ?_)
    refine Runs.exit ?_
    have hfi : L.findIdx? (lawArc order) = none := by
      rw [List.findIdx?_eq_none_iff]
      intro r hr
      obtain ⟨i, hi, rfl⟩ := List.mem_iff_getElem.1 hr
      exact hgood i hi (by omega)
    rw [hfi] at hlaw
    simp only at hlaw
    refine Runs.seq (Runs.region ?_)
    refine Rg.opp rfl rfl rfl rfl rfl ?_
    by_cases he0 : e = 0
    · refine Rg.opp rfl rfl rfl (ev_eq true rfl rfl (decide_eq_true (by omega))) rfl ?_
      refine Rg.opp rfl rfl rfl rfl rfl ?_
      refine Rg.guards true rfl rfl rfl (fun _ => ⟨_, _, evW_op rfl, rfl, ?_⟩) (fun h => by cases h)
      by_cases hf0 : f = 0
      · refine Rg.guards true rfl rfl rfl (fun _ => ⟨_, _, evW_op (ev_eq true rfl rfl (decide_eq_true (by omega))), rfl, ?_⟩) (fun h => by cases h)
        refine Rg.opp rfl rfl rfl rfl rfl ?_
        refine Rg.opp rfl rfl rfl rfl rfl ?_
        refine Rg.guards true rfl rfl rfl (fun _ => ⟨_, _, evW_op rfl, rfl, ?_⟩) (fun h => by cases h)
        refine Rg.opp rfl rfl rfl rfl rfl ?_
        refine Rg.opp rfl rfl rfl rfl rfl ?_
        refine Rg.nil ?_
        refine Runs.ret ⟨_, rfl, hfin _ ?_⟩
        rw [← hlaw]
        simp [he0, hf0]
        try rfl
      · refine Rg.guards true rfl rfl rfl (fun _ => ⟨_, _, evW_op (ev_eq false rfl rfl (decide_eq_false (by omega))), rfl, ?_⟩) (fun h => by cases h)
        refine Rg.opp rfl rfl rfl rfl rfl ?_
        refine Rg.opp rfl rfl rfl rfl rfl ?_
        refine Rg.guards false rfl rfl rfl (fun h => by cases h) (fun _ => ?_)
        refine Rg.opp rfl rfl rfl rfl rfl ?_
        refine Rg.opp rfl rfl rfl rfl rfl ?_
        refine Rg.nil ?_
        refine Runs.ret ⟨_, rfl, hfin _ ?_⟩
        rw [← hlaw]
        simp [he0, hf0]
        try rfl
    · refine Rg.opp rfl rfl rfl (ev_eq false rfl rfl (decide_eq_false (by omega))) rfl ?_
      refine Rg.opp rfl rfl rfl rfl rfl ?_
      refine Rg.guards false rfl rfl rfl (fun h => by cases h) (fun _ => ?_)
      refine Rg.guards false rfl rfl rfl (fun h => by cases h) (fun _ => ?_)
      refine Rg.opp rfl rfl rfl rfl rfl ?_
      refine Rg.opp rfl rfl rfl rfl rfl ?_
      refine Rg.guards false rfl rfl rfl (fun h => by cases h) (fun _ => ?_)
      refine Rg.opp rfl rfl rfl rfl rfl ?_
      refine Rg.opp rfl rfl rfl rfl rfl ?_
      refine Rg.nil ?_
      refine Runs.ret ⟨_, rfl, hfin _ ?_⟩
      rw [← hlaw]
      simp [he0]
      try rfl

end Go.Proofs.Ytdhbclplondmjaa.C

/- The law on Keeps, run. -/
set_option linter.unusedVariables false
set_option maxRecDepth 100000
namespace Go.Proofs.Ytdhbclplondmjaa.C
open Go.RowKit Go.Sort

theorem known_is (H : Heap) : big tab 9 [] H = some (.bool true, H) := by
  obtain ⟨v, E, h, rfl⟩ := known_runs
  refine big_ext (T := tab) (f := 9) rfl ?_
  unfold pureB
  simp only [flats, if_true, h]
  rfl

theorem fits_runs {H : Heap} (a : Option Addr) (n c : Nat) : big tab 10 [.slice a n c] H = some (.bool (decide ((n : Int) ≤ 8)), H) :=
  big_some.2 ⟨20, rfl⟩

/-- The law's answer. -/
def want2 (u order : List Nm) : Nat := if ∀ x ∈ u, x ∈ order then 0 else 10
def want3 (order : List Nm) (w : Nat) : Nat := if order.Nodup then w else 9
def lawKeeps (L : List Rel) (order : List Nm) : Bool :=
  let kp := keepsP L order
  let want := want3 order (want2 (unitsL L) order)
  if want ≠ 0 then decide (kp.1 = 0) && (!kp.2.1) && decide (kp.2.2 = want)
  else match L.findIdx? (lawArc order) with
    | some i => decide (kp.2.2 = 0) && decide (kp.1 = i) && !kp.2.1
    | none => decide (kp.2.2 = 0) && decide (kp.1 = 0) && kp.2.1

theorem want2_snoc (u : List Nm) (x : Nm) (order : List Nm) : want2 (u ++ [x]) order = if x ∉ order then 10 else want2 u order := by
  unfold want2
  by_cases q : x ∈ order
  · simp [q, or_imp, forall_and]
  · rw [if_pos q, if_neg]
    intro z
    exact q (z _ (by simp))

theorem indexOf_neg {xs : List Nm} {x : Nm} : indexOf xs x < 0 ↔ x ∉ xs := by
  unfold indexOf
  cases e : xs.idxOf? x with
  | none => simp [List.idxOf?_eq_none_iff.1 e]
  | some k =>
    have : xs.idxOf? x ≠ none := by rw [e]; simp
    rw [ne_eq, List.idxOf?_eq_none_iff] at this
    simp only [this, iff_false]
    omega

def want4 (order : List Nm) (w k : Nat) : Nat := if ∀ i (h : i < order.length), i < k → ¬ (indexOf order order[i] < (i : Int)) then w else 9

theorem want4_succ {order : List Nm} {w k : Nat} (h : k < order.length) : want4 order w (k + 1) = if indexOf order order[k] < (k : Int) then 9 else want4 order w k := by
  unfold want4
  by_cases q : indexOf order order[k] < (k : Int)
  · rw [if_pos q, if_neg]
    intro z
    exact z k h (by omega) q
  · rw [if_neg q]
    congr 1
    apply propext
    constructor
    · intro z i hi hk; exact z i hi (by omega)
    · intro z i hi hk
      rcases Nat.lt_or_ge i k with r | r
      · exact z i hi r
      · have : i = k := by omega
        subst this; exact q

theorem want4_all {order : List Nm} {w : Nat} : want4 order w order.length = want3 order w := by
  unfold want4 want3
  congr 1
  apply propext
  constructor
  · intro z
    unfold List.Nodup
    rw [List.pairwise_iff_getElem]
    intro i j hi hj hij he
    · revert he
      intro he
      refine z j hj hj ?_
      have hm : order[j] ∈ order := List.getElem_mem hj
      unfold indexOf
      cases e : order.idxOf? order[j] with
      | none => simp; omega
      | some k =>
        rw [List.idxOf?, List.findIdx?_eq_some_iff_getElem] at e
        obtain ⟨hk, h1, h2⟩ := e
        have : k ≤ i := by
          rcases Nat.lt_or_ge i k with r | r
          · have := h2 i r
            simp [he] at this
          · exact r
        simp only
        omega
  · intro z i hi _ q
    unfold indexOf at q
    cases e : order.idxOf? order[i] with
    | none =>
      rw [List.idxOf?_eq_none_iff] at e
      exact e (List.getElem_mem hi)
    | some k =>
      rw [e] at q
      simp only at q
      rw [List.idxOf?, List.findIdx?_eq_some_iff_getElem] at e
      obtain ⟨hk, h1, h2⟩ := e
      unfold List.Nodup at z
      rw [List.pairwise_iff_getElem] at z
      exact z k i hk hi (by omega) (by simpa using h1)

set_option maxHeartbeats 4000000 in
theorem law_runs {H : Heap} {v w : Value} {xs : List Seen} {order : List Nm} (h : Sl H 3 v (seens xs)) (hsm : ∀ s ∈ xs, s.k < 256 ∧ s.u < 256 ∧ s.l < 256) (hxl : xs.length < 2 ^ 60) (ho : Sl H 1 w (strs order)) (hol : order.length < 2 ^ 60) :
    ∃ r H1, big tab 8 [v, w] H = some (r, H1) ∧ (r = .bool true ∨ (xs.length ≤ 8 ∧ r = .bool (lawKeeps (xs.map mk) order))) := by
  have hs0 := h
  have ho0 := ho
  obtain ⟨a, c, rfl, hc, hcs⟩ := h
  obtain ⟨oa, oc, rfl, hoc, hocs⟩ := ho
  simp only [seens_len, strs_len] at *
  refine big_of_runs rfl rfl rfl ?_
  obtain ⟨z, hz⟩ := startC_mkS Try.f8 [.slice a xs.length c, .slice oa order.length oc]
  rw [show startC (8, Try.f8).snd [Value.slice a xs.length c, .slice oa order.length oc] = _ from hz]
  clear hz
  refine Runs.seq (Runs.region ?_)
  repeat refine Rg.opp rfl rfl rfl rfl rfl ?_
  refine Rg.nil ?_
  have early : ∀ a0 : Nat → Value, Runs tab (.seq (.region 2 #[]  false) .ret) (mkS 139 a0 []) H (fun _ _ => True) (fun _ _ _ => True) (fun _ _ => True) := fun a0 => Runs.seq (Runs.region (Rg.nil (Runs.ret trivial)))
  clear early
  by_cases h8 : xs.length ≤ 8
  · by_cases h9 : order.length ≤ 8
    · refine Runs.seq (Runs.seq (Runs.region ?_))
      refine Rg.calls rfl rfl rfl rfl rfl rfl (known_is _) ?_
      refine Rg.opp rfl rfl rfl rfl rfl ?_
      refine Rg.opp rfl rfl rfl rfl rfl ?_
      refine Rg.guards true rfl rfl rfl (fun _ => ⟨_, _, evW_op rfl, rfl, ?_⟩) (fun h => by cases h)
      refine Rg.guards true rfl rfl rfl (fun _ => ⟨_, _, evW_call rfl rfl (fits_runs _ _ _), rfl, ?_⟩) (fun h => by cases h)
      rw [show decide ((xs.length : Int) ≤ 8) = true from decide_eq_true (by omega)]
      refine Rg.guards true rfl rfl rfl (fun _ => ⟨_, _, evW_op rfl, rfl, ?_⟩) (fun h => by cases h)
      refine Rg.opp rfl rfl rfl rfl rfl ?_
      refine Rg.opp rfl rfl rfl rfl rfl ?_
      refine Rg.guards true rfl rfl rfl (fun _ => ⟨_, _, evW_op rfl, rfl, ?_⟩) (fun h => by cases h)
      refine Rg.guards true rfl rfl rfl (fun _ => ⟨_, _, evW_op rfl, rfl, ?_⟩) (fun h => by cases h)
      refine Rg.guards true rfl rfl rfl (fun _ => ⟨_, _, evW_op (ev_gt false rfl rfl (decide_eq_false (by omega))), rfl, ?_⟩) (fun h => by cases h)
      refine Rg.opp rfl rfl rfl rfl rfl ?_
      refine Rg.nil ?_
      refine Runs.cond false rfl (fun h => by cases h) (fun _ => ?_)
      refine Runs.skip ?_
      refine Runs.cut (n := 139) (l := [(0, .slice a xs.length c), (1, .slice oa order.length oc)]) (Is.of ⟨rfl, rfl, rfl, rfl, trivial⟩) (fun a1 => ?_)
      -- no long names, or true
      refine Runs.seq (Runs.seq (Runs.region ?_))
      repeat refine Rg.opp rfl rfl rfl rfl rfl ?_
      refine Rg.nil ?_
      refine Runs.block ?_
      refine Runs.loop (fun m s H1 => H = H1 ∧ ∃ k, k ≤ order.length ∧ m = order.length - k ∧ Is s 139 [(0, .slice a xs.length c), (1, .slice oa order.length oc), (5, nat k)]) _ ⟨rfl, 0, Nat.zero_le _, rfl, Is.of ⟨rfl, rfl, rfl, rfl, rfl, rfl, trivial⟩⟩ ?_
      rintro m s H1 ⟨hH1, k, hk, rfl, hs⟩
      subst hH1
      obtain ⟨a2, rfl⟩ := hs.mk1
      clear hs
      by_cases hlt : k < order.length
      · refine Runs.seq (Runs.seq (Runs.region ?_))
        refine Rg.opp rfl rfl rfl rfl rfl ?_
        refine Rg.opp rfl rfl rfl rfl rfl ?_
        refine Rg.opp rfl rfl rfl rfl rfl ?_
        refine Rg.opp rfl rfl rfl (ev_lt true rfl rfl (by simp; omega)) rfl ?_
        refine Rg.nil ?_
        refine Runs.cond true rfl (fun _ => ?_) (fun h => by cases h)
        refine Runs.skip ?_
        obtain ⟨b, o, rfl, hsz, hr⟩ := hocs.lt (i := k) (by rw [strs_len]; exact hlt)
        have hrk := hr k _ (strs_get hlt)
        refine Runs.seq (Runs.block ?_)
        refine Runs.seq (Runs.region ?_)
        refine Rg.opp rfl rfl rfl rfl rfl ?_
        refine Rg.opp rfl rfl rfl rfl rfl ?_
        refine Rg.opp rfl rfl rfl (ev_at rfl rfl rfl rfl (by decide) hlt) rfl ?_
        refine Rg.opp rfl rfl rfl (ev_load1 rfl rfl hrk rfl) rfl ?_
        refine Rg.opp rfl rfl rfl rfl rfl ?_
        refine Rg.opp rfl rfl rfl (ev_gt _ rfl rfl rfl) rfl ?_
        refine Rg.nil ?_
        refine Runs.cond _ rfl (fun _ => ?_) (fun _ => ?_)
        · refine Runs.seq (Runs.region ?_)
          repeat refine Rg.opp rfl rfl rfl rfl rfl ?_
          refine Rg.nil ?_
          exact Runs.ret ⟨_, rfl, .inl rfl⟩
        · refine Runs.skip ?_
          refine Runs.region ?_
          refine Rg.opp rfl rfl rfl rfl rfl ?_
          refine Rg.opp rfl rfl rfl (ev_addn (b := 1) rfl rfl (by omega)) rfl ?_
          refine Rg.opp rfl rfl rfl rfl rfl ?_
          refine Rg.nil ?_
          exact ⟨order.length - (k + 1), by omega, rfl, k + 1, hlt, rfl, Is.of ⟨rfl, rfl, rfl, rfl, rfl, rfl, trivial⟩⟩
      · refine Runs.seq (Runs.seq (Runs.region ?_))
        refine Rg.opp rfl rfl rfl rfl rfl ?_
        refine Rg.opp rfl rfl rfl rfl rfl ?_
        refine Rg.opp rfl rfl rfl rfl rfl ?_
        refine Rg.opp rfl rfl rfl (ev_lt false rfl rfl (by simp; omega)) rfl ?_
        refine Rg.nil ?_
        refine Runs.cond false rfl (fun h => by cases h) (fun _ => ?_)
        refine Runs.exit ?_
        -- Make, Keeps, units
        obtain ⟨lv, H2, hmk, he2, p, hacc⟩ := make_runs hs0 hsm hxl
        rw [List.take_of_length_le h8] at hacc
        have hsl := hacc.sl (by rw [rels_len]; simp [unk]; omega)
        have hg : ∀ r ∈ xs.map mk, Good r := by
          intro r hr
          obtain ⟨s, _, rfl⟩ := List.mem_map.1 hr
          exact fun K => check_good s K
        have hul : (unitsP (xs.map mk)).length ≤ 60 := by
          have h1 := Lib.compact_length_le (sortNm (allNames (xs.map mk)))
          rw [List.length_mergeSort, allNames_len, List.length_map] at h1
          unfold unitsP; omega
        obtain ⟨kv, H3, hkp, rfl, he3⟩ := keepsP_runs hsl (ho0.sees he2.sees) (by simp; omega) (by omega) hg hul
        obtain ⟨uv, H4, hun, he4, pu, haccu⟩ := lawUnits_runs (hsl.sees he3.sees) (by simp; omega)
        have husl := haccu.sl (by rw [strs_len]; have := foldl_len (allNames (xs.map mk)) []; rw [allNames_len, List.length_map] at this; simp [unitsL, unk] at *; omega)
        have hos4 := hocs.sees (he2.trans (he3.trans he4)).sees
        have hl4 := hsl.sees (he3.trans he4).sees
        obtain ⟨la, lc, rfl, hlc, hlcs⟩ := hl4
        obtain ⟨ua, uc, rfl, huc, hucs⟩ := husl
        rw [rels_len, strs_len] at *
        refine Runs.seq (Runs.region ?_)
        refine Rg.opp rfl rfl rfl rfl rfl ?_
        refine Rg.calls rfl rfl rfl rfl rfl rfl hmk ?_
        refine Rg.opp rfl rfl rfl rfl rfl ?_
        refine Rg.nil ?_
        refine Runs.seq (Runs.region ?_)
        refine Rg.opp rfl rfl rfl rfl rfl ?_
        refine Rg.opp rfl rfl rfl rfl rfl ?_
        refine Rg.calls rfl rfl rfl rfl rfl rfl hkp ?_
        unfold triple
        refine Rg.opp rfl rfl rfl rfl rfl ?_
        refine Rg.opp rfl rfl rfl rfl rfl ?_
        refine Rg.opp rfl rfl rfl rfl rfl ?_
        refine Rg.opp rfl rfl rfl rfl rfl ?_
        refine Rg.opp rfl rfl rfl rfl rfl ?_
        refine Rg.opp rfl rfl rfl rfl rfl ?_
        refine Rg.opp rfl rfl rfl rfl rfl ?_
        refine Rg.nil ?_
        refine Runs.seq (Runs.region ?_)
        refine Rg.opp rfl rfl rfl rfl rfl ?_
        refine Rg.nil ?_
        refine Runs.seq (Runs.region ?_)
        refine Rg.opp rfl rfl rfl rfl rfl ?_
        refine Rg.calls rfl rfl rfl rfl rfl rfl hun ?_
        refine Rg.opp rfl rfl rfl rfl rfl ?_
        refine Rg.nil ?_
        have hfin : ∀ r : Value, r = .bool (lawKeeps (xs.map mk) order) → r = .bool true ∨ xs.length ≤ 8 ∧ r = .bool (lawKeeps (xs.map mk) order) := fun r h => .inr ⟨h8, h⟩
        have hlaw : (if want3 order (want2 (unitsL (xs.map mk)) order) ≠ 0 then decide ((keepsP (xs.map mk) order).1 = 0) && (!(keepsP (xs.map mk) order).2.1) && decide ((keepsP (xs.map mk) order).2.2 = want3 order (want2 (unitsL (xs.map mk)) order))
          else match (xs.map mk).findIdx? (lawArc order) with
            | some i => decide ((keepsP (xs.map mk) order).2.2 = 0) && decide ((keepsP (xs.map mk) order).1 = i) && !(keepsP (xs.map mk) order).2.1
            | none => decide ((keepsP (xs.map mk) order).2.2 = 0) && decide ((keepsP (xs.map mk) order).1 = 0) && (keepsP (xs.map mk) order).2.1) = lawKeeps (xs.map mk) order := rfl
        generalize hf : (keepsP (xs.map mk) order).1 = f at hlaw
        generalize hal : (keepsP (xs.map mk) order).2.1 = al at hlaw
        generalize hee : (keepsP (xs.map mk) order).2.2 = e at hlaw
        refine Runs.cut (n := 139) (l := [(1, .slice oa order.length oc), (6, .slice la (xs.map mk).length lc), (7, nat f), (8, .bool al), (9, nat e), (10, nat 0), (11, .slice ua (unitsL (xs.map mk)).length uc)]) (Is.of ⟨rfl, rfl, rfl, rfl, rfl, rfl, rfl, rfl, rfl, rfl, rfl, rfl, rfl, rfl, trivial⟩) (fun a3 => ?_)
        have hosl : Sl H4 1 (.slice oa order.length oc) (strs order) := ⟨_, _, by rw [strs_len], by rw [strs_len]; exact hoc, hos4⟩
        have hUl : (unitsL (xs.map mk)).length ≤ 16 := by
          have := foldl_len (allNames (xs.map mk)) []
          rw [allNames_len, List.length_map] at this
          simp only [unitsL, List.length_nil] at *
          omega
        generalize hU : unitsL (xs.map mk) = U at *
        -- the units
        refine Runs.seq (Runs.seq (Runs.region ?_))
        refine Rg.opp rfl rfl rfl rfl rfl ?_
        refine Rg.nil ?_
        refine Runs.block ?_
        refine Runs.loop (fun m s H5 => H4 = H5 ∧ ∃ k, k ≤ U.length ∧ m = U.length - k ∧ Is s 139 [(1, .slice oa order.length oc), (6, .slice la (xs.map mk).length lc), (7, nat f), (8, .bool al), (9, nat e), (10, nat (want2 (U.take k) order)), (11, .slice ua U.length uc), (12, nat k)]) _ ⟨rfl, 0, Nat.zero_le _, rfl, Is.of ⟨rfl, rfl, rfl, rfl, rfl, rfl, rfl, rfl, rfl, rfl, rfl, rfl, rfl, rfl, rfl, rfl, trivial⟩⟩ ?_
        rintro m s H5 ⟨hH5, k2, hk2, rfl, hs⟩
        subst hH5
        obtain ⟨a4, rfl⟩ := hs.mk1
        clear hs
        by_cases hlt2 : k2 < U.length
        · refine Runs.seq (Runs.seq (Runs.region ?_))
          refine Rg.opp rfl rfl rfl rfl rfl ?_
          refine Rg.opp rfl rfl rfl rfl rfl ?_
          refine Rg.opp rfl rfl rfl rfl rfl ?_
          refine Rg.opp rfl rfl rfl (ev_lt true rfl rfl (by simp; omega)) rfl ?_
          refine Rg.nil ?_
          refine Runs.cond true rfl (fun _ => ?_) (fun h => by cases h)
          refine Runs.skip ?_
          obtain ⟨b, o, rfl, hsz, hr⟩ := hucs.lt (i := k2) (by rw [strs_len]; exact hlt2)
          have hrk := hr k2 _ (strs_get hlt2)
          have hw : want2 (U.take (k2 + 1)) order = if U[k2] ∉ order then 10 else want2 (U.take k2) order := by
            rw [← List.take_append_getElem hlt2, want2_snoc]
          refine Runs.seq (Runs.block ?_)
          refine Runs.seq (Runs.region ?_)
          refine Rg.opp rfl rfl rfl rfl rfl ?_
          refine Rg.opp rfl rfl rfl rfl rfl ?_
          refine Rg.opp rfl rfl rfl rfl rfl ?_
          refine Rg.opp rfl rfl rfl (ev_at rfl rfl rfl rfl (by decide) hlt2) rfl ?_
          refine Rg.opp rfl rfl rfl (ev_load1 rfl rfl hrk rfl) rfl ?_
          refine Rg.calls rfl rfl rfl rfl rfl rfl (index_runs U[k2] hosl (by omega)) ?_
          refine Rg.opp rfl rfl rfl (ev_lt (decide (U[k2] ∉ order)) rfl rfl (by simp [indexOf_neg])) rfl ?_
          refine Rg.nil ?_
          refine Runs.cond (decide (U[k2] ∉ order)) rfl (fun q => ?_) (fun q => ?_)
          · refine Runs.region ?_
            refine Rg.opp rfl rfl rfl rfl rfl ?_
            refine Rg.nil ?_
            refine Runs.region ?_
            refine Rg.opp rfl rfl rfl rfl rfl ?_
            refine Rg.opp rfl rfl rfl (ev_addn (b := 1) rfl rfl (by omega)) rfl ?_
            refine Rg.opp rfl rfl rfl rfl rfl ?_
            refine Rg.nil ?_
            refine ⟨U.length - (k2 + 1), by omega, rfl, k2 + 1, hlt2, rfl, Is.of ⟨rfl, rfl, rfl, rfl, rfl, rfl, rfl, rfl, rfl, rfl, rfl, ?_, rfl, rfl, rfl, rfl, trivial⟩⟩
            show nat 10 = _
            rw [hw, if_pos (of_decide_eq_true q)]
          · refine Runs.skip ?_
            refine Runs.region ?_
            refine Rg.opp rfl rfl rfl rfl rfl ?_
            refine Rg.opp rfl rfl rfl (ev_addn (b := 1) rfl rfl (by omega)) rfl ?_
            refine Rg.opp rfl rfl rfl rfl rfl ?_
            refine Rg.nil ?_
            refine ⟨U.length - (k2 + 1), by omega, rfl, k2 + 1, hlt2, rfl, Is.of ⟨rfl, rfl, rfl, rfl, rfl, rfl, rfl, rfl, rfl, rfl, rfl, ?_, rfl, rfl, rfl, rfl, trivial⟩⟩
            show nat (want2 (U.take k2) order) = _
            rw [hw, if_neg (of_decide_eq_false q)]
        · refine Runs.seq (Runs.seq (Runs.region ?_))
          refine Rg.opp rfl rfl rfl rfl rfl ?_
          refine Rg.opp rfl rfl rfl rfl rfl ?_
          refine Rg.opp rfl rfl rfl rfl rfl ?_
          refine Rg.opp rfl rfl rfl (ev_lt false rfl rfl (by simp; omega)) rfl ?_
          refine Rg.nil ?_
          refine Runs.cond false rfl (fun h => by cases h) (fun _ => ?_)
          refine Runs.exit ?_
          have hkU : k2 = U.length := by omega
          subst hkU
          rw [List.take_of_length_le (Nat.le_refl _)]
          generalize hw2 : want2 U order = w2 at *
          refine Runs.cut (n := 139) (l := [(1, .slice oa order.length oc), (6, .slice la (xs.map mk).length lc), (7, nat f), (8, .bool al), (9, nat e), (10, nat w2)]) (Is.of ⟨rfl, rfl, rfl, rfl, rfl, rfl, rfl, rfl, rfl, rfl, rfl, rfl, trivial⟩) (fun a5 => ?_)
          refine Runs.seq (Runs.seq (Runs.region ?_))
          refine Rg.opp rfl rfl rfl rfl rfl ?_
          refine Rg.nil ?_
          refine Runs.block ?_
          refine Runs.loop (fun m s H5 => H4 = H5 ∧ ∃ k, k ≤ order.length ∧ m = order.length - k ∧ Is s 139 [(1, .slice oa order.length oc), (6, .slice la (xs.map mk).length lc), (7, nat f), (8, .bool al), (9, nat e), (10, nat (want4 order w2 k)), (13, nat k)]) _ ⟨rfl, 0, Nat.zero_le _, rfl, Is.of ⟨rfl, rfl, rfl, rfl, rfl, rfl, rfl, rfl, rfl, rfl, rfl, (by show nat w2 = nat (want4 order w2 0); rw [want4, if_pos (by intro i h z; omega)]), rfl, rfl, trivial⟩⟩ ?_
          rintro m s H5 ⟨hH5, k3, hk3, rfl, hs⟩
          subst hH5
          obtain ⟨a6, rfl⟩ := hs.mk1
          clear hs
          by_cases hlt3 : k3 < order.length
          · refine Runs.seq (Runs.seq (Runs.region ?_))
            refine Rg.opp rfl rfl rfl rfl rfl ?_
            refine Rg.opp rfl rfl rfl rfl rfl ?_
            refine Rg.opp rfl rfl rfl rfl rfl ?_
            refine Rg.opp rfl rfl rfl (ev_lt true rfl rfl (by simp; omega)) rfl ?_
            refine Rg.nil ?_
            refine Runs.cond true rfl (fun _ => ?_) (fun h => by cases h)
            refine Runs.skip ?_
            obtain ⟨b, o, rfl, hsz, hr⟩ := hos4.lt (i := k3) (by rw [strs_len]; exact hlt3)
            have hrk := hr k3 _ (strs_get hlt3)
            refine Runs.seq (Runs.block ?_)
            refine Runs.seq (Runs.region ?_)
            refine Rg.opp rfl rfl rfl rfl rfl ?_
            refine Rg.opp rfl rfl rfl rfl rfl ?_
            refine Rg.opp rfl rfl rfl rfl rfl ?_
            refine Rg.opp rfl rfl rfl (ev_at rfl rfl rfl rfl (by decide) hlt3) rfl ?_
            refine Rg.opp rfl rfl rfl (ev_load1 rfl rfl hrk rfl) rfl ?_
            refine Rg.calls rfl rfl rfl rfl rfl rfl (index_runs order[k3] hosl (by omega)) ?_
            refine Rg.opp rfl rfl rfl rfl rfl ?_
            refine Rg.opp rfl rfl rfl (ev_lt (decide (indexOf order order[k3] < (k3 : Int))) rfl rfl rfl) rfl ?_
            refine Rg.nil ?_
            refine Runs.cond (decide (indexOf order order[k3] < (k3 : Int))) rfl (fun q => ?_) (fun q => ?_)
            · refine Runs.region ?_
              refine Rg.opp rfl rfl rfl rfl rfl ?_
              refine Rg.nil ?_
              refine Runs.region ?_
              refine Rg.opp rfl rfl rfl rfl rfl ?_
              refine Rg.opp rfl rfl rfl (ev_addn (b := 1) rfl rfl (by omega)) rfl ?_
              refine Rg.opp rfl rfl rfl rfl rfl ?_
              refine Rg.nil ?_
              refine ⟨order.length - (k3 + 1), by omega, rfl, k3 + 1, hlt3, rfl, Is.of ⟨rfl, rfl, rfl, rfl, rfl, rfl, rfl, rfl, rfl, rfl, rfl, ?_, rfl, rfl, trivial⟩⟩
              show nat 9 = _
              rw [want4_succ hlt3, if_pos (of_decide_eq_true q)]
            · refine Runs.skip ?_
              refine Runs.region ?_
              refine Rg.opp rfl rfl rfl rfl rfl ?_
              refine Rg.opp rfl rfl rfl (ev_addn (b := 1) rfl rfl (by omega)) rfl ?_
              refine Rg.opp rfl rfl rfl rfl rfl ?_
              refine Rg.nil ?_
              refine ⟨order.length - (k3 + 1), by omega, rfl, k3 + 1, hlt3, rfl, Is.of ⟨rfl, rfl, rfl, rfl, rfl, rfl, rfl, rfl, rfl, rfl, rfl, ?_, rfl, rfl, trivial⟩⟩
              show nat (want4 order w2 k3) = _
              rw [want4_succ hlt3, if_neg (of_decide_eq_false q)]
          · refine Runs.seq (Runs.seq (Runs.region ?_))
            refine Rg.opp rfl rfl rfl rfl rfl ?_
            refine Rg.opp rfl rfl rfl rfl rfl ?_
            refine Rg.opp rfl rfl rfl rfl rfl ?_
            refine Rg.opp rfl rfl rfl (ev_lt false rfl rfl (by simp; omega)) rfl ?_
            refine Rg.nil ?_
            refine Runs.cond false rfl (fun h => by cases h) (fun _ => ?_)
            refine Runs.exit ?_
            have hko : k3 = order.length := by omega
            subst hko
            rw [want4_all]
            generalize hW : want3 order w2 = W at *
            refine Runs.cut (n := 139) (l := [(1, .slice oa order.length oc), (6, .slice la (xs.map mk).length lc), (7, nat f), (8, .bool al), (9, nat e), (10, nat W)]) (Is.of ⟨rfl, rfl, rfl, rfl, rfl, rfl, rfl, rfl, rfl, rfl, rfl, rfl, trivial⟩) (fun a7 => ?_)
            refine Runs.seq (Runs.seq (Runs.region ?_))
            refine Rg.opp rfl rfl rfl rfl rfl ?_
            by_cases hW0 : W = 0
            · refine Rg.opp rfl rfl rfl (ev_ne false rfl rfl (decide_eq_false (by omega))) rfl ?_
              refine Rg.nil ?_
              refine Runs.cond false rfl (fun h => by cases h) (fun _ => ?_)
              refine Runs.skip ?_
              rw [if_neg (by simp [hW0])] at hlaw
              refine Runs.cut (n := 139) (l := [(1, .slice oa order.length oc), (6, .slice la (xs.map mk).length lc), (7, nat f), (8, .bool al), (9, nat e)]) (Is.of ⟨rfl, rfl, rfl, rfl, rfl, rfl, rfl, rfl, rfl, rfl, trivial⟩) (fun a8 => ?_)
              exact Runs.mono (law_end hosl (by omega) hlcs (by simpa using h8) hlaw a8) (fun s1 H1 h => by obtain ⟨v, h1, h2⟩ := h; exact ⟨v, h1, hfin v h2⟩) (fun _ _ _ h => h.elim) (fun s1 H1 h => by obtain ⟨v, h1, h2⟩ := h; exact ⟨v, h1, hfin v h2⟩)
            · refine Rg.opp rfl rfl rfl (ev_ne true rfl rfl (decide_eq_true (by omega))) rfl ?_
              refine Rg.nil ?_
              refine Runs.cond true rfl (fun _ => ?_) (fun h => by cases h)
              rw [if_pos hW0] at hlaw
              refine Runs.seq (Runs.region ?_)
              refine Rg.opp rfl rfl rfl rfl rfl ?_
              by_cases hf0 : f = 0
              · refine Rg.opp rfl rfl rfl (ev_eq true rfl rfl (decide_eq_true (by omega))) rfl ?_
                refine Rg.opp rfl rfl rfl rfl rfl ?_
                refine Rg.guards true rfl rfl rfl (fun _ => ⟨_, _, evW_op rfl, rfl, ?_⟩) (fun h => by cases h)
                refine Rg.guards true rfl rfl rfl (fun _ => ⟨_, _, evW_op rfl, rfl, ?_⟩) (fun h => by cases h)
                refine Rg.opp rfl rfl rfl rfl rfl ?_
                refine Rg.opp rfl rfl rfl rfl rfl ?_
                cases al with
                | true =>
                  refine Rg.guards false rfl rfl rfl (fun h => by cases h) (fun _ => ?_)
                  refine Rg.guards false rfl rfl rfl (fun h => by cases h) (fun _ => ?_)
                  refine Rg.guards false rfl rfl rfl (fun h => by cases h) (fun _ => ?_)
                  refine Rg.opp rfl rfl rfl rfl rfl ?_
                  refine Rg.opp rfl rfl rfl rfl rfl ?_
                  refine Rg.nil ?_
                  refine Runs.ret ⟨_, rfl, hfin _ ?_⟩
                  rw [← hlaw]
                  simp
                  rfl
                | false =>
                  refine Rg.guards true rfl rfl rfl (fun _ => ⟨_, _, evW_op rfl, rfl, ?_⟩) (fun h => by cases h)
                  refine Rg.guards true rfl rfl rfl (fun _ => ⟨_, _, evW_op rfl, rfl, ?_⟩) (fun h => by cases h)
                  refine Rg.guards true rfl rfl rfl (fun _ => ⟨_, _, evW_op (ev_eq (decide (e = W)) rfl rfl (decide_eq_decide.2 (by omega))), rfl, ?_⟩) (fun h => by cases h)
                  refine Rg.opp rfl rfl rfl rfl rfl ?_
                  refine Rg.opp rfl rfl rfl rfl rfl ?_
                  refine Rg.nil ?_
                  refine Runs.ret ⟨_, rfl, hfin _ ?_⟩
                  rw [← hlaw]
                  simp [hf0]
                  rfl
              · refine Rg.opp rfl rfl rfl (ev_eq false rfl rfl (decide_eq_false (by omega))) rfl ?_
                refine Rg.opp rfl rfl rfl rfl rfl ?_
                refine Rg.guards false rfl rfl rfl (fun h => by cases h) (fun _ => ?_)
                refine Rg.guards false rfl rfl rfl (fun h => by cases h) (fun _ => ?_)
                refine Rg.opp rfl rfl rfl rfl rfl ?_
                refine Rg.opp rfl rfl rfl rfl rfl ?_
                refine Rg.guards false rfl rfl rfl (fun h => by cases h) (fun _ => ?_)
                refine Rg.guards false rfl rfl rfl (fun h => by cases h) (fun _ => ?_)
                refine Rg.guards false rfl rfl rfl (fun h => by cases h) (fun _ => ?_)
                refine Rg.opp rfl rfl rfl rfl rfl ?_
                refine Rg.opp rfl rfl rfl rfl rfl ?_
                refine Rg.nil ?_
                refine Runs.ret ⟨_, rfl, hfin _ ?_⟩
                rw [← hlaw]
                simp [hf0]
                rfl
    · refine Runs.seq (Runs.seq (Runs.region ?_))
      refine Rg.calls rfl rfl rfl rfl rfl rfl (known_is _) ?_
      refine Rg.opp rfl rfl rfl rfl rfl ?_
      refine Rg.opp rfl rfl rfl rfl rfl ?_
      refine Rg.guards true rfl rfl rfl (fun _ => ⟨_, _, evW_op rfl, rfl, ?_⟩) (fun h => by cases h)
      refine Rg.guards true rfl rfl rfl (fun _ => ⟨_, _, evW_call rfl rfl (fits_runs _ _ _), rfl, ?_⟩) (fun h => by cases h)
      rw [show decide ((xs.length : Int) ≤ 8) = true from decide_eq_true (by omega)]
      refine Rg.guards true rfl rfl rfl (fun _ => ⟨_, _, evW_op rfl, rfl, ?_⟩) (fun h => by cases h)
      refine Rg.opp rfl rfl rfl rfl rfl ?_
      refine Rg.opp rfl rfl rfl rfl rfl ?_
      refine Rg.guards true rfl rfl rfl (fun _ => ⟨_, _, evW_op rfl, rfl, ?_⟩) (fun h => by cases h)
      refine Rg.guards true rfl rfl rfl (fun _ => ⟨_, _, evW_op rfl, rfl, ?_⟩) (fun h => by cases h)
      refine Rg.guards true rfl rfl rfl (fun _ => ⟨_, _, evW_op (ev_gt true rfl rfl (decide_eq_true (by omega))), rfl, ?_⟩) (fun h => by cases h)
      refine Rg.opp rfl rfl rfl rfl rfl ?_
      refine Rg.nil ?_
      refine Runs.cond true rfl (fun _ => ?_) (fun h => by cases h)
      refine Runs.seq (Runs.region ?_)
      refine Rg.calls rfl rfl rfl rfl rfl rfl (known_is _) ?_
      refine Rg.opp rfl rfl rfl rfl rfl ?_
      refine Rg.nil ?_
      exact Runs.ret ⟨_, rfl, .inl rfl⟩
  · refine Runs.seq (Runs.seq (Runs.region ?_))
    refine Rg.calls rfl rfl rfl rfl rfl rfl (known_is _) ?_
    refine Rg.opp rfl rfl rfl rfl rfl ?_
    refine Rg.opp rfl rfl rfl rfl rfl ?_
    refine Rg.guards true rfl rfl rfl (fun _ => ⟨_, _, evW_op rfl, rfl, ?_⟩) (fun h => by cases h)
    refine Rg.guards true rfl rfl rfl (fun _ => ⟨_, _, evW_call rfl rfl (fits_runs _ _ _), rfl, ?_⟩) (fun h => by cases h)
    rw [show decide ((xs.length : Int) ≤ 8) = false from decide_eq_false (by omega)]
    refine Rg.guards true rfl rfl rfl (fun _ => ⟨_, _, evW_op rfl, rfl, ?_⟩) (fun h => by cases h)
    refine Rg.opp rfl rfl rfl rfl rfl ?_
    refine Rg.opp rfl rfl rfl rfl rfl ?_
    refine Rg.guards false rfl rfl rfl (fun h => by cases h) (fun _ => ?_)
    refine Rg.guards false rfl rfl rfl (fun h => by cases h) (fun _ => ?_)
    refine Rg.guards false rfl rfl rfl (fun h => by cases h) (fun _ => ?_)
    refine Rg.opp rfl rfl rfl rfl rfl ?_
    refine Rg.nil ?_
    refine Runs.cond true rfl (fun _ => ?_) (fun h => by cases h)
    refine Runs.seq (Runs.region ?_)
    refine Rg.calls rfl rfl rfl rfl rfl rfl (known_is _) ?_
    refine Rg.opp rfl rfl rfl rfl rfl ?_
    refine Rg.nil ?_
    exact Runs.ret ⟨_, rfl, .inl rfl⟩

end Go.Proofs.Ytdhbclplondmjaa.C

/- The law's own order against the program's, in plain Lean. -/
set_option linter.unusedVariables false
set_option maxRecDepth 100000
namespace Go.Proofs.Ytdhbclplondmjaa.C
open Go.RowKit Go.Sort

theorem scanK_mem (out : List Nm) (x : Nm) : ∀ k, k ≤ out.length → ((scanK out x k).2 = true ↔ x ∈ out.take k)
  | 0, _ => by simp [scanK]
  | k + 1, h => by
    have hk : k < out.length := by omega
    have e : out.getD k [] = out[k] := by simp [List.getD, hk]
    simp only [scanK, Bool.or_eq_true, decide_eq_true_eq]
    rw [scanK_mem out x k (by omega), e, List.take_succ_eq_append_getElem hk, List.mem_append, List.mem_singleton]
    constructor
    · rintro (q | q)
      · exact .inl q
      · exact .inr q.symm
    · rintro (q | q)
      · exact .inl q
      · exact .inr q.symm

theorem mem_insL {out : List Nm} {x y : Nm} : y ∈ insL out x ↔ y ∈ out ∨ y = x := by
  unfold insL
  split
  · rename_i h
    have := (scanK_mem out x out.length (Nat.le_refl _)).1 h
    rw [List.take_length] at this
    constructor
    · exact .inl
    · rintro (q | rfl)
      · exact q
      · exact this
  · rw [List.mem_append, List.mem_append, List.mem_singleton]
    constructor
    · rintro ((q | q) | q)
      · exact .inl (List.mem_of_mem_take q)
      · exact .inr q
      · exact .inl (List.mem_of_mem_drop q)
    · rintro (q | q)
      · rw [← List.take_append_drop (scanK out x out.length).1 out, List.mem_append] at q
        rcases q with q | q
        · exact .inl (.inl q)
        · exact .inr q
      · exact .inl (.inr q)

theorem mem_foldl_insL : ∀ (l out : List Nm) (y : Nm), y ∈ l.foldl insL out ↔ y ∈ out ∨ y ∈ l
  | [], out, y => by simp
  | x :: l, out, y => by
    rw [List.foldl_cons, mem_foldl_insL l, mem_insL, List.mem_cons, or_assoc]

theorem mem_unitsL {l : List Rel} {y : Nm} : y ∈ unitsL l ↔ y ∈ allNames l := by
  unfold unitsL; rw [mem_foldl_insL]; simp

theorem mem_sortNm {l : List Nm} {y : Nm} : y ∈ sortNm l ↔ y ∈ l := List.mem_mergeSort

theorem idxOf_lt_of_mem {xs : List Nm} {x : Nm} (h : x ∈ xs) : ∃ k, xs.idxOf? x = some k := by
  cases e : xs.idxOf? x with
  | some k => exact ⟨k, rfl⟩
  | none => exact absurd h (List.idxOf?_eq_none_iff.1 e)

theorem idx_inj {xs : List Nm} {x y : Nm} (hx : x ∈ xs) (hy : y ∈ xs) (h : idx xs x = idx xs y) : x = y := by
  obtain ⟨a, ha⟩ := idxOf_lt_of_mem hx
  obtain ⟨b, hb⟩ := idxOf_lt_of_mem hy
  unfold idx at h
  rw [ha, hb] at h
  simp only [Option.getD_some] at h
  subst h
  rw [List.idxOf?, List.findIdx?_eq_some_iff_getElem] at ha hb
  obtain ⟨h1, h2, _⟩ := ha
  obtain ⟨_, h4, _⟩ := hb
  have e1 := beq_iff_eq.1 h2
  have e2 := beq_iff_eq.1 h4
  exact e1.symm.trans e2

theorem indexOf_mem {xs : List Nm} {x : Nm} (hx : x ∈ xs) : indexOf xs x = idx xs x := by
  obtain ⟨a, ha⟩ := idxOf_lt_of_mem hx
  simp [indexOf, idx, ha]

theorem nm_inj {a b : Nat} (ha : a < 6) (hb : b < 6) (h : nm a = nm b) : a = b := by
  have : ∀ a < 6, ∀ b < 6, nm a = nm b → a = b := by decide
  exact this a ha b hb h

theorem mk_ne (s : Seen) : (mk s).up ≠ (mk s).lo := by
  intro h
  have h1 : mkA s < 6 := by unfold mkA; omega
  have h2 : mkB s < 6 := by unfold mkB; split <;> omega
  have := nm_inj h1 h2 h
  revert this
  unfold mkA mkB
  split <;> omega

theorem findIdx?_same {α : Type} {p q : α → Bool} : ∀ (l : List α), (∀ x ∈ l, p x = q x) → l.findIdx? p = l.findIdx? q
  | [], _ => rfl
  | x :: l, h => by
    rw [List.findIdx?_cons, List.findIdx?_cons, h x (by simp), findIdx?_same l fun y hy => h y (by simp [hy])]

theorem mem_names_up {l : List Rel} {r : Rel} (h : r ∈ l) : r.up ∈ allNames l := List.mem_flatMap.2 ⟨r, h, by simp⟩
theorem mem_names_lo {l : List Rel} {r : Rel} (h : r ∈ l) : r.lo ∈ allNames l := List.mem_flatMap.2 ⟨r, h, by simp⟩

theorem law_plain (l : List Rel) (order : List Nm) (hne : ∀ r ∈ l, r.up ≠ r.lo) (hu : ∀ y, y ∈ unitsP l ↔ y ∈ allNames l) : lawKeeps l order = true := by
  have e1 : (∀ u ∈ unitsP l, u ∈ order) ↔ (∀ x ∈ unitsL l, x ∈ order) := by
    constructor
    · intro h x hx; exact h x ((hu x).2 (mem_unitsL.1 hx))
    · intro h x hx; exact h x (mem_unitsL.2 ((hu x).1 hx))
  by_cases hd : order.Nodup
  · by_cases hk : ∀ x ∈ unitsL l, x ∈ order
    · have hk' := e1.2 hk
      have e2 : l.findIdx? (badRel order) = l.findIdx? (lawArc order) := by
        refine findIdx?_same l fun r hr => ?_
        have m1 : r.up ∈ order := hk _ (mem_unitsL.2 (mem_names_up hr))
        have m2 : r.lo ∈ order := hk _ (mem_unitsL.2 (mem_names_lo hr))
        unfold badRel lawArc
        rw [indexOf_mem m1, indexOf_mem m2]
        congr 1
        have n : idx order r.up ≠ idx order r.lo := fun h => hne r hr (idx_inj m1 m2 h)
        apply decide_eq_decide.2
        omega
      have hw : want3 order (want2 (unitsL l) order) = 0 := by unfold want3 want2; rw [if_pos hd, if_pos hk]
      have hkp : keepsP l order = match l.findIdx? (lawArc order) with | some i => (i, false, 0) | none => (0, true, 0) := by
        unfold keepsP; rw [if_neg (fun h => h hd), if_neg (fun h => h hk'), e2]
        cases l.findIdx? (lawArc order) <;> rfl
      unfold lawKeeps
      rw [hw, hkp]
      cases l.findIdx? (lawArc order) <;> simp
    · have hk' : ¬ ∀ u ∈ unitsP l, u ∈ order := fun h => hk (e1.1 h)
      have hw : want3 order (want2 (unitsL l) order) = 10 := by unfold want3 want2; rw [if_pos hd, if_neg hk]
      have hkp : keepsP l order = (0, false, 10) := by
        unfold keepsP; rw [if_neg (fun h => h hd), if_pos hk']
      unfold lawKeeps
      rw [hw, hkp]; simp
  · have hw : want3 order (want2 (unitsL l) order) = 9 := by unfold want3; rw [if_neg hd]
    have hkp : keepsP l order = (0, false, 9) := by
      unfold keepsP; rw [if_pos hd]
    unfold lawKeeps
    rw [hw, hkp]; simp

theorem mem_compactUpTo (d : Array Nm) (y : Nm) : ∀ m, y ∈ Lib.compactUpTo d m ↔ ∃ j, j < m ∧ d[j]! = y
  | 0 => by simp [Lib.compactUpTo]
  | m + 1 => by
    rw [Lib.compactUpTo_succ, List.mem_append, mem_compactUpTo d y m]
    constructor
    · rintro (⟨j, h1, h2⟩ | h)
      · exact ⟨j, by omega, h2⟩
      · split at h
        · rw [List.mem_singleton] at h; exact ⟨m, by omega, h.symm⟩
        · cases h
    · rintro ⟨j, h1, h2⟩
      by_cases q : j < m
      · exact .inl ⟨j, q, h2⟩
      · have : j = m := by omega
        subst this
        by_cases hk : Lib.keeps d j = true
        · right; rw [if_pos hk, List.mem_singleton]; exact h2.symm
        · left
          have hk' : ¬ (j = 0 ∨ d[j]! ≠ d[j - 1]!) := by
            intro h; exact hk (by unfold Lib.keeps; exact decide_eq_true h)
          have h0 : j ≠ 0 := fun h => hk' (.inl h)
          have h3 : d[j]! = d[j - 1]! := by
            by_cases e : d[j]! = d[j - 1]!
            · exact e
            · exact absurd (.inr e) hk'
          exact ⟨j - 1, by omega, h3 ▸ h2⟩

theorem mem_compact {zs : List Nm} {y : Nm} : y ∈ Lib.compact zs ↔ y ∈ zs := by
  unfold Lib.compact
  rw [mem_compactUpTo, List.mem_iff_getElem]
  constructor
  · rintro ⟨j, h1, h2⟩
    exact ⟨j, h1, by simpa [h1] using h2⟩
  · rintro ⟨j, h1, h2⟩
    exact ⟨j, h1, by simpa [h1] using h2⟩

theorem mem_unitsP {l : List Rel} {y : Nm} : y ∈ unitsP l ↔ y ∈ allNames l := by
  unfold unitsP; rw [mem_compact, mem_sortNm]

theorem law_true (xs : List Seen) (order : List Nm) : lawKeeps (xs.map mk) order = true := by
  refine law_plain _ _ ?_ fun y => mem_unitsP
  intro r hr
  obtain ⟨s, _, rfl⟩ := List.mem_map.1 hr
  exact mk_ne s

end Go.Proofs.Ytdhbclplondmjaa.C

/- The arguments of the law on Keeps, read into the abstract memory. -/
set_option linter.unusedVariables false
set_option linter.unusedSimpArgs false
set_option maxRecDepth 100000
namespace Go.Proofs.Ytdhbclplondmjaa.C
open Go.RowKit Go.ChangeShapes Go.WideShapes Go.ChangeAt

theorem cells9 : Try.prog.cellsOf 9 = 1 := by kernel_rfl
theorem cells66 : Try.prog.cellsOf 66 = 3 := by kernel_rfl
theorem bytes9 : Try.prog.bytesOf 9 = 16 := by kernel_rfl
theorem bytes66 : Try.prog.bytesOf 66 = 3 := by kernel_rfl

/-- What an argument is in the abstract memory: block k holds its elements. -/
def ArgAt (W : World) (k sz : Nat) (v : Value) (es : List (List Value)) : Prop :=
  ∃ (va : Value) (o : Option Loc), (∀ μ : Mu, μ k = o → VR μ va v) ∧
    (∀ l, o = some l → l.sz = sz ∧ l.blk < W.heap.size ∧ ∀ (i : Nat) (u : Value), es.flatten[i]? = some u → ∃ v', W.cell? ⟨l.blk, l.sh + i, none⟩ = some v' ∧ ∀ μ : Mu, VR μ u v') ∧
    ∀ H : Heap, H[k]? = some (.row sz es.flatten false true) → Sl H sz va es

theorem cell_in {w : World} {a : Addr} {v : Value} (h : w.cell? a = some v) : a.block < w.heap.size := by
  rcases Nat.lt_or_ge a.block w.heap.size with h' | h'
  · exact h'
  · simp [World.cell?, Array.getElem?_eq_none h'] at h

theorem argAt_nil (W : World) (k sz : Nat) : ArgAt W k sz (.slice none 0 0) [] :=
  ⟨.slice none 0 0, none, fun _ _ => .nilSlice, (fun l h => by cases h), fun H _ => ⟨none, 0, rfl, Nat.le_refl _, .inl rfl⟩⟩
theorem argAt_zero (W : World) (k sz : Nat) (a : Addr) : ArgAt W k sz (.slice (some a) 0 0) [] :=
  ⟨.slice (some a) 0 0, none, fun _ _ => .sliceZ a a, (fun l h => by cases h), fun H _ => ⟨some a, 0, rfl, Nat.le_refl _, .inl rfl⟩⟩

theorem argAt_some {W : World} {k sz b off cap : Nat} {es : List (List Value)} (hs : ∀ e ∈ es, e.length = sz) (hb : b < W.heap.size) (hl : es.length ≤ cap) (hc : cap ≤ maxLen)
    (h : ∀ (i : Nat) (u : Value), es.flatten[i]? = some u → ∃ v', W.cell? ⟨b, off + i, none⟩ = some v' ∧ ∀ μ : Mu, VR μ u v') :
    ArgAt W k sz (.slice (some ⟨b, off, none⟩) es.length cap) es := by
  refine ⟨.slice (some ⟨k, 0, none⟩) es.length unk, some ⟨b, off, off + 0 + cap * sz, sz⟩, fun μ hm => ?_, fun l h1 => ?_, fun H hH => ?_⟩
  · have := VR.slice (μ := μ) (b := k) (o := 0) (n := es.length) (c := unk) (c' := cap) hm hl (.inl rfl) (Nat.le_refl _)
    simpa using this
  · cases h1
    exact ⟨rfl, hb, h⟩
  · refine ⟨_, _, rfl, ?_, Cells.row hs hH⟩
    unfold unk; unfold maxLen at hc; omega

theorem arg_strs {H : Type} {enc : TypeId × Value → H} {W : World} {v : Value} {fuel k : Nat} {x : DataW H × List MemPlace}
    (hf : DataW.trod enc Try.prog W 0 (fun _ => true) true fuel 37 [v] = some x) :
    ∃ xs : List Nm, ArgAt W k 1 v (strs xs) ∧ (xs = [] ∨ ∃ el sp, x.1 = .slice el sp ∧ el.length = xs.length) := by
  rcases open_strings Try.underlying37 Try.underlying9 cells9 hf with ⟨hcs, hx⟩ | ⟨a, len, cap, ss, hcs, _, hl, hm, hz, hx, hcell, _⟩
  · simp at hcs
    subst hcs
    exact ⟨[], argAt_nil W k 1, .inl rfl⟩
  · simp at hcs
    subst hcs
    subst hx
    simp only [if_true] at hz
    rcases Nat.eq_zero_or_pos cap with h0 | h0
    · subst h0
      have : len = 0 := by omega
      subst this
      exact ⟨[], argAt_zero W k 1 a, .inl rfl⟩
    · have hspot : a.spot = none := by simpa [Addr.add] using World.cell?_spot (hcell 0 (by omega))
      obtain ⟨b, off, spot⟩ := a
      simp only at hspot
      subst hspot
      have hlen : ((ss.take len).map (·.data.toList)).length = len := by simp; omega
      have hb : b < W.heap.size := by simpa [add_plain] using cell_in (hcell 0 (by omega))
      refine ⟨(ss.take len).map (·.data.toList), ?_, .inr ⟨_, _, rfl, by simp [ChangeShapes.strs]⟩⟩
      have key := argAt_some (W := W) (k := k) (sz := 1) (b := b) (off := off) (cap := cap) (es := strs ((ss.take len).map (·.data.toList))) (strs_sz _) hb (by rw [strs_len, hlen]; exact hl) hm (fun i u hu => by
        rw [strs_flat, List.getElem?_map, List.getElem?_map] at hu
        obtain ⟨y, hy, rfl⟩ := Option.map_eq_some_iff.1 hu
        obtain ⟨s, hs, rfl⟩ := Option.map_eq_some_iff.1 hy
        have hi : i < len := by have := (List.getElem?_eq_some_iff.1 hs).1; simp at this; omega
        rw [List.getElem?_take_of_lt hi] at hs
        refine ⟨.string s, ?_, fun μ => ?_⟩
        · have := hcell i (by omega)
          rw [add_plain] at this
          rw [this]; simp [List.getD, hs]
        · have e : (⟨s.data.toList.toArray⟩ : ByteArray) = s := by simp
          show VR μ (Value.string ⟨s.data.toList.toArray⟩) _
          rw [e]; exact .string s)
      rw [strs_len, hlen] at key
      exact key

theorem get3 {cs : List Value} (h : cs.length = 3) {a b c : Value} (h0 : (cs.drop 0).take 1 = [a]) (h1 : (cs.drop 1).take 1 = [b]) (h2 : (cs.drop 2).take 1 = [c]) : cs = [a, b, c] := by
  match cs, h with
  | [x, y, z], _ => simp at h0 h1 h2; simp [h0, h1, h2]

theorem cells5 : Try.prog.cellsOf 5 = 1 := by kernel_rfl

theorem seens_flat : ∀ (xs : List Seen) (i : Nat) (u : Value), (seens xs).flatten[i]? = some u → ∃ (h : i / 3 < xs.length) (e : List Value), e = [u8 xs[i / 3].k, u8 xs[i / 3].u, u8 xs[i / 3].l] ∧ e[i % 3]? = some u
  | [], i, u, h => by simp [seens] at h
  | x :: xs, i, u, h => by
    have h' : ([u8 x.k, u8 x.u, u8 x.l] ++ (seens xs).flatten)[i]? = some u := h
    rcases Nat.lt_or_ge i 3 with q | q
    · rw [List.getElem?_append_left (by simpa using q)] at h'
      have e1 : i / 3 = 0 := by omega
      have e2 : i % 3 = i := by omega
      refine ⟨by simp; omega, _, rfl, ?_⟩
      simp only [e1, e2]
      simpa using h'
    · rw [List.getElem?_append_right (by simpa using q)] at h'
      obtain ⟨g, e, he, hu⟩ := seens_flat xs (i - 3) u (by simpa using h')
      have e1 : i / 3 = (i - 3) / 3 + 1 := by omega
      have e2 : i % 3 = (i - 3) % 3 := by omega
      refine ⟨by simp; omega, e, ?_, by rw [e2]; exact hu⟩
      rw [he]
      simp [e1]

theorem arg_seens {H : Type} {enc : TypeId × Value → H} {W : World} {v : Value} {fuel k : Nat} {x : DataW H × List MemPlace}
    (hf : DataW.trod enc Try.prog W 0 (fun _ => true) true fuel 22 [v] = some x) :
    ∃ xs : List Seen, ArgAt W k 3 v (seens xs) ∧ (∀ s ∈ xs, s.k < 256 ∧ s.u < 256 ∧ s.l < 256) ∧ (xs = [] ∨ ∃ el sp, x.1 = .slice el sp ∧ el.length = xs.length) := by
  rcases Go.Deep.open_slice Try.underlying22 hf with ⟨hcs, hx⟩ | ⟨a, len, cap, m, n, D, Pl, hcs, _, hl, hm, hz, hx, hel⟩
  · simp at hcs
    subst hcs
    exact ⟨[], argAt_nil W k 3, by simp, .inl rfl⟩
  · simp at hcs
    subst hcs
    subst hx
    simp only [if_true] at hz
    subst hz
    rw [cells66] at hel
    have each : ∀ i, i < m → ∃ s : Seen, (s.k < 256 ∧ s.u < 256 ∧ s.l < 256) ∧ W.cell? (a.add (i * 3)) = some (u8 s.k) ∧ W.cell? ((a.add (i * 3)).add 1) = some (u8 s.u) ∧ W.cell? ((a.add (i * 3)).add 2) = some (u8 s.l) := fun i hi => by
      obtain ⟨cs, h1, h2⟩ := hel i hi
      obtain ⟨_, hlen, hc⟩ := World.cells?_some h1
      obtain ⟨y0, y1, y2, n', _, _, t0, t1, t2⟩ := Go.Deep.trod_struct3 Try.underlying66 h2
      simp only [cells5] at t0 t1 t2
      obtain ⟨k0, e0, _, w0⟩ := DataW.trod_int Try.underlying5 t0
      obtain ⟨k1, e1, _, w1⟩ := DataW.trod_int Try.underlying5 t1
      obtain ⟨k2, e2, _, w2⟩ := DataW.trod_int Try.underlying5 t2
      have hcs := get3 hlen e0 e1 e2
      subst hcs
      simp only [Lit.wf, Bool.and_eq_true, decide_eq_true_eq, show IntKind.u8.min = 0 from rfl, show IntKind.u8.max = 255 from rfl] at w0 w1 w2
      have b0 : 0 ≤ k0 ∧ k0 < 256 := by omega
      have b1 : 0 ≤ k1 ∧ k1 < 256 := by omega
      have b2 : 0 ≤ k2 ∧ k2 < 256 := by omega
      have f0 := hc 0 (by omega)
      have f1 := hc 1 (by omega)
      have f2 := hc 2 (by omega)
      refine ⟨⟨k0.toNat, k1.toNat, k2.toNat⟩, ⟨by show k0.toNat < 256; omega, by show k1.toNat < 256; omega, by show k2.toNat < 256; omega⟩, ?_, ?_, ?_⟩
      · have e : (a.add (i * 3)).add 0 = a.add (i * 3) := by simp [Addr.add]
        rw [← e, f0]; simp [u8, Int.toNat_of_nonneg b0.1]
      · rw [f1]; simp [u8, Int.toNat_of_nonneg b1.1]
      · rw [f2]; simp [u8, Int.toNat_of_nonneg b2.1]
    have : Inhabited Seen := ⟨⟨0, 0, 0⟩⟩
    obtain ⟨S, hS⟩ := Go.Deep.choose_lt each
    rcases Nat.eq_zero_or_pos m with h0 | h0
    · subst h0
      have : len = 0 := by omega
      subst this
      exact ⟨[], argAt_zero W k 3 a, by simp, .inl rfl⟩
    · have hc0 := (hS 0 h0).2.1
      have hspot : a.spot = none := by simpa [Addr.add] using World.cell?_spot hc0
      obtain ⟨b, off, spot⟩ := a
      simp only at hspot
      subst hspot
      have hlen : ((List.range len).map S).length = len := by simp
      have hb : b < W.heap.size := by simpa [add_plain] using cell_in hc0
      refine ⟨(List.range len).map S, ?_, ?_, .inr ⟨_, _, rfl, by simp⟩⟩
      · have key := argAt_some (W := W) (k := k) (sz := 3) (b := b) (off := off) (cap := m) (es := seens ((List.range len).map S)) (by intro e he; obtain ⟨s, _, rfl⟩ := List.mem_map.1 he; rfl) hb (by rw [seens_len, hlen]; exact hl) hm (fun i u hu => by
          obtain ⟨g, e, he, hu⟩ := seens_flat _ i u hu
          rw [hlen] at g
          simp only [List.getElem_map, List.getElem_range] at he
          obtain ⟨_, q0, q1, q2⟩ := hS (i / 3) (by omega)
          rw [add_plain] at q0 q1 q2
          rw [add_plain] at q1 q2
          subst he
          have hi : i = i / 3 * 3 + i % 3 := by omega
          have h3 : i % 3 < 3 := by omega
          generalize i % 3 = r at *
          generalize i / 3 = q at *
          match r, h3 with
          | 0, _ => 
            simp at hu; subst hu
            exact ⟨_, by rw [hi]; exact q0, fun μ => .int _ _⟩
          | 1, _ =>
            simp at hu; subst hu
            exact ⟨_, by rw [hi]; rw [← Nat.add_assoc]; exact q1, fun μ => .int _ _⟩
          | 2, _ =>
            simp at hu; subst hu
            exact ⟨_, by rw [hi]; rw [← Nat.add_assoc]; exact q2, fun μ => .int _ _⟩)
        rw [seens_len, hlen] at key
        exact key
      · intro s hs
        obtain ⟨i, hi, rfl⟩ := List.mem_map.1 hs
        exact (hS i (by have := List.mem_range.1 hi; omega)).1

end Go.Proofs.Ytdhbclplondmjaa.C

/- The law on succession.Keeps answers true WHATEVER THE INPUT, and the input reads as it did: no condition. -/
set_option linter.unusedVariables false
set_option linter.unusedSimpArgs false
set_option maxRecDepth 100000
namespace Go.Proofs.Ytdhbclplondmjaa
open Go.ChangeShapes Go.WideShapes Go.ChangeAt Go.RowKit C

theorem ownOk : ownKnob Try.prog.godebug = none := by kernel_rfl
theorem laidOutOk : laidOutB Try.prog = true := by kernel_rfl

theorem keeps_calls {W : World} {v0 v1 : Value} {xs : List Seen} {order : List Nm} (h0 : ArgAt W 0 3 v0 (seens xs)) (h1 : ArgAt W 1 1 v1 (strs order)) (hsm : ∀ s ∈ xs, s.k < 256 ∧ s.u < 256 ∧ s.l < 256) (hx : xs.length < 2 ^ 60) (ho : order.length < 2 ^ 60) :
    Calls Try.prog 8 #[v0, v1] W fun e W' => e = .returned (.bool true) ∧ Below W.heap.size W W' := by
  obtain ⟨va, oa, ra, ca, sa⟩ := h0
  obtain ⟨vb, ob, rb, cb, sb⟩ := h1
  let H : C.Heap := [.row 3 (seens xs).flatten false true, .row 1 (strs order).flatten false true]
  let μ : Mu := fun b => if b = 0 then oa else if b = 1 then ob else none
  obtain ⟨r, H1, hb, hr⟩ := law_runs (sa H rfl) hsm hx (sb H rfl) ho
  have hr : r = .bool true := by
    rcases hr with h | ⟨_, h⟩
    · exact h
    · rw [h, law_true]
  subst hr
  obtain ⟨n, hn⟩ := big_some.1 hb
  have hH : HR W.heap.size (fun _ => False) μ H W := by
    refine ⟨?_, ?_, ?_, ?_, fun k h => h.elim, Nat.le_refl _⟩
    · intro b sz cs l hb
      match b with
      | 0 => simp [H] at hb
      | 1 => simp [H] at hb
      | b + 2 => simp [H] at hb
    · intro b sz cs l hb hl
      match b with
      | 0 =>
        simp [H] at hb
        obtain ⟨rfl, rfl⟩ := hb
        obtain ⟨e1, e2, e3⟩ := ca l hl
        exact ⟨e1, e2, fun i u hu => by obtain ⟨v', q1, q2⟩ := e3 i u hu; exact ⟨v', q1, q2 μ⟩⟩
      | 1 =>
        simp [H] at hb
        obtain ⟨rfl, rfl⟩ := hb
        obtain ⟨e1, e2, e3⟩ := cb l hl
        exact ⟨e1, e2, fun i u hu => by obtain ⟨v', q1, q2⟩ := e3 i u hu; exact ⟨v', q1, q2 μ⟩⟩
      | b + 2 => simp [H] at hb
    · intro b es l hb
      match b with
      | 0 => simp [H] at hb
      | 1 => simp [H] at hb
      | b + 2 => simp [H] at hb
    · intro b b' k k' l l' hb _ hk
      match b with
      | 0 => simp [H] at hb; subst hb; simp [Blk.mine] at hk
      | 1 => simp [H] at hb; subst hb; simp [Blk.mine] at hk
      | b + 2 => simp [H] at hb
  have hfree : Free μ H.length H1.length := by
    intro b h1 _
    have : 2 ≤ b := h1
    show (if b = 0 then oa else if b = 1 then ob else none) = none
    rw [if_neg (by omega), if_neg (by omega)]
  have hs := (callC_sound fitsB n).calls 8 [va, vb] H _ H1 hn W.heap.size (fun _ => False) μ W [v0, v1] hH hfree (.cons (ra μ rfl) (.cons (rb μ rfl) .nil))
  refine hs.mono fun e W' ⟨v', μ', he, hg, hv⟩ => ?_
  subst he
  cases hv
  exact ⟨rfl, hg.fr.below⟩

theorem shutB {H : Type} {enc : TypeId × Value → H} {W' : World} {bb : Nat} {sp : Nat → Bool} {hd : Bool} (c : Bool) : DataW.Trod enc Try.prog W' bb sp hd 4 (.bool c) (.lit (.bool c)) [] :=
  ⟨1, by simp [DataW.trod, Value.cells, Try.underlying4]⟩
theorem okB {W' : World} (c : Bool) : Value.okWide Try.prog W' .any 0 4 (.bool c) := by
  simp [Value.okWide, Try.underlying4, Cell.okWide, Cell.ok]

theorem keeps_lifted (os : Os) (started : os.Started) (H : Type) (enc : TypeId × Value → H) :
    ReturnsInHanded {} Try.checked os 8 .any (Rows.successionKeepsSpec.pre6 enc Try.prog Try.f8 Rows.successionKeepsRow.domain false) (Rows.successionKeepsSpec.post enc Try.prog Try.f8 false true false false) := by
  refine returnsInHanded_of_change_sized (C := Try.checked) ownOk started (by kernel_rfl) Try.func8
    (ChangeSpec.witness6 (enc := enc) (C := Try.checked) false ⟨#[], #[.slice none 0 0, .slice none 0 0], []⟩ 8 (by kernel_rfl) (by kernel_rfl) (by kernel_rfl) (by kernel_rfl)) ?_
  intro W base args ds gs before hval0 hW _ hsz0 _
  have hsz : (DataW.weightsEach Try.prog (Try.f8.params.toList ++ Rows.successionKeepsSpec.plain.varTypes Try.prog) (ds ++ gs)).all (· ≤ reachBytes) = true := hsz0
  clear hsz0
  have hval : ∀ (j : Nat) t v, Try.f8.params[j]? = some t → args[j]? = some v → Value.okWide Try.prog W .any base t v := hval0
  have hW' := hW
  obtain ⟨p, q, hA0, hV0, rfl, _, _⟩ := hW
  have hA : DataW.TrodAll enc Try.prog W 0 (fun _ => true) true Try.f8.params.toList args.toList ds p := hA0
  rw [Try.params8] at hA hval hsz
  obtain ⟨v0, v1, d0, d1, p0, p1, rfl, rfl, rfl, h0, h1⟩ := trodAll_two hA
  obtain ⟨rfl, rfl⟩ := trodVars_none hV0
  obtain ⟨a0, l0, c0, rfl⟩ := okWide_slice Try.underlying22 (hval 0 22 v0 rfl rfl)
  obtain ⟨a1, l1, c1, rfl⟩ := okWide_slice Try.underlying37 (hval 1 37 v1 rfl rfl)
  have h0k := h0
  have h1k := h1
  obtain ⟨fuel0, hf0⟩ := h0
  obtain ⟨fuel1, hf1⟩ := h1
  simp only [List.append_nil] at hW' hsz
  have hlt : ∀ x ∈ p0 ++ p1, x.block < W.heap.size := fun x hx => by simpa using hW'.lt x hx
  obtain ⟨xs, hx1, hx2, hx3⟩ := arg_seens (k := 0) hf0
  obtain ⟨order, ho1, ho3⟩ := arg_strs (k := 1) hf1
  have hxl : xs.length < 2 ^ 60 := by
    rcases hx3 with rfl | ⟨el, sp, e, hl⟩
    · decide
    · have := sized_slice hsz (j := 0) (t := 22) (e := 66) rfl (by rw [← e]; rfl) Try.underlying22
      rw [bytes66] at this
      simp only [reachBytes] at this
      omega
  have hol : order.length < 2 ^ 60 := by
    rcases ho3 with rfl | ⟨el, sp, e, hl⟩
    · decide
    · have := sized_slice hsz (j := 1) (t := 37) (e := 9) rfl (by rw [← e]; rfl) Try.underlying37
      rw [bytes9] at this
      simp only [reachBytes] at this
      omega
  refine (keeps_calls hx1 ho1 hx2 hxl hol).mono ?_
  rintro e W' ⟨rfl, bel⟩
  have e1 : Rows.successionKeepsSpec.fn H ([d0, d1] ++ []) = { results := [.lit (.bool true)], args := [d0, d1] } := rfl
  refine ⟨_, rfl, _, _, _, [], p0 ++ p1, [], hW', ?_, ?_, ?_, bel.frame _, fun h => by cases h⟩
  · rw [e1]; exact trodAll_mk1 (shutB true)
  · rw [e1]; exact trodAll_mk2 (Below.trod laidOutOk (by kernel_rfl) (of_decide_eq_true (by kernel_rfl)) h0k bel (fun x hx => hlt x (by simp [hx]))) (Below.trod laidOutOk (by kernel_rfl) (of_decide_eq_true (by kernel_rfl)) h1k bel (fun x hx => hlt x (by simp [hx])))
  · rw [e1]; rfl

theorem successionKeeps_holds : Rows.SuccessionKeepsSaid :=
  OpenClaim.holds_of_wide 8 Try.f8 rfl rfl rfl rfl rfl rfl rfl ⟨rfl, rfl, rfl, rfl, rfl⟩ rfl rfl rfl rfl rfl (by kernel_rfl) Try.func8 (by kernel_rfl)
    (of_decide_eq_true (by kernel_rfl)) (by unfold Func.isWrapper; first | (rw [if_pos (by decide +kernel)]; kernel_rfl) | (rw [if_neg (by decide +kernel)]; exact ⟨rfl, rfl⟩))
    (fun os started H enc _ => keeps_lifted os started H enc)

end Go.Proofs.Ytdhbclplondmjaa
