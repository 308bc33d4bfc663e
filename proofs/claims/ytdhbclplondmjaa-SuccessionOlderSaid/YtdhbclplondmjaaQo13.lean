/- Texts of one's own, laid together: Wj, Wl, Wm, Xr, CW4, CW5, X1, Wp, X2, X3, X4, X5, X6, X7 -/
import Derived.Test.YtdhbclplondmjaaQo12
import Derived.ProofKit
import Derived.SizedLaws
import Derived.SliceStrings
import Derived.Deep.Strs
import Derived.Test.YtdhbclplondmjaaRows
import Derived.Carry
/- The law on Keeps, run. -/
set_option linter.unusedVariables false
set_option maxRecDepth 100000
namespace Go.Proofs.Ytdhbclplondmjaa.C
open Go.RowKit Go.Sort

theorem known_is (H : Heap) : big tab 9 [] H = some (.bool true, H) := by
  obtain ⟨v, E, h, rfl⟩ := known_runs
  refine big_ext (T := tab) (f := 9) rfl ?_
  unfold pureB
  simp only [flats, if_true, h]
  rfl

theorem fits_runs {H : Heap} (a : Option Addr) (n c : Nat) : big tab 10 [.slice a n c] H = some (.bool (decide ((n : Int) ≤ 8)), H) :=
  big_some.2 ⟨20, rfl⟩

/-- The law's answer. -/
def want2 (u order : List Nm) : Nat := if ∀ x ∈ u, x ∈ order then 0 else 10
def want3 (order : List Nm) (w : Nat) : Nat := if order.Nodup then w else 9
def lawKeeps (L : List Rel) (order : List Nm) : Bool :=
  let kp := keepsP L order
  let want := want3 order (want2 (unitsL L) order)
  if want ≠ 0 then decide (kp.1 = 0) && (!kp.2.1) && decide (kp.2.2 = want)
  else match L.findIdx? (lawArc order) with
    | some i => decide (kp.2.2 = 0) && decide (kp.1 = i) && !kp.2.1
    | none => decide (kp.2.2 = 0) && decide (kp.1 = 0) && kp.2.1

theorem want2_snoc (u : List Nm) (x : Nm) (order : List Nm) : want2 (u ++ [x]) order = if x ∉ order then 10 else want2 u order := by
  unfold want2
  by_cases q : x ∈ order
  · simp [q, or_imp, forall_and]
  · rw [if_pos q, if_neg]
    intro z
    exact q (z _ (by simp))

theorem indexOf_neg {xs : List Nm} {x : Nm} : indexOf xs x < 0 ↔ x ∉ xs := by
  unfold indexOf
  cases e : xs.idxOf? x with
  | none => simp [List.idxOf?_eq_none_iff.1 e]
  | some k =>
    have : xs.idxOf? x ≠ none := by rw [e]; simp
    rw [ne_eq, List.idxOf?_eq_none_iff] at this
    simp only [this, not_true, iff_false]
    omega

def want4 (order : List Nm) (w k : Nat) : Nat := if ∀ i (h : i < order.length), i < k → ¬ (indexOf order order[i] < (i : Int)) then w else 9

theorem want4_succ {order : List Nm} {w k : Nat} (h : k < order.length) : want4 order w (k + 1) = if indexOf order order[k] < (k : Int) then 9 else want4 order w k := by
  unfold want4
  by_cases q : indexOf order order[k] < (k : Int)
  · rw [if_pos q, if_neg]
    intro z
    exact z k h (by omega) q
  · rw [if_neg q]
    congr 1
    apply propext
    constructor
    · intro z i hi hk; exact z i hi (by omega)
    · intro z i hi hk
      rcases Nat.lt_or_ge i k with r | r
      · exact z i hi r
      · have : i = k := by omega
        subst this; exact q

theorem want4_all {order : List Nm} {w : Nat} : want4 order w order.length = want3 order w := by
  unfold want4 want3
  congr 1
  apply propext
  constructor
  · intro z
    unfold List.Nodup
    rw [List.pairwise_iff_getElem]
    intro i j hi hj hij he
    · revert he
      intro he
      refine z j hj hj ?_
      have hm : order[j] ∈ order := List.getElem_mem hj
      unfold indexOf
      cases e : order.idxOf? order[j] with
      | none => simp; omega
      | some k =>
        rw [List.idxOf?, List.findIdx?_eq_some_iff_getElem] at e
        obtain ⟨hk, h1, h2⟩ := e
        have : k ≤ i := by
          rcases Nat.lt_or_ge i k with r | r
          · have := h2 i r
            simp [he] at this
          · exact r
        simp only
        omega
  · intro z i hi _ q
    unfold indexOf at q
    cases e : order.idxOf? order[i] with
    | none =>
      rw [List.idxOf?_eq_none_iff] at e
      exact e (List.getElem_mem hi)
    | some k =>
      rw [e] at q
      simp only at q
      rw [List.idxOf?, List.findIdx?_eq_some_iff_getElem] at e
      obtain ⟨hk, h1, h2⟩ := e
      unfold List.Nodup at z
      rw [List.pairwise_iff_getElem] at z
      exact z k i hk hi (by omega) (by simpa using h1)

set_option maxHeartbeats 4000000 in
theorem law_runs {H : Heap} {v w : Value} {xs : List Seen} {order : List Nm} (h : Sl H 3 v (seens xs)) (hsm : ∀ s ∈ xs, s.k < 256 ∧ s.u < 256 ∧ s.l < 256) (hxl : xs.length < 2 ^ 60) (ho : Sl H 1 w (strs order)) (hol : order.length < 2 ^ 60) :
    ∃ r H1, big tab 8 [v, w] H = some (r, H1) ∧ (r = .bool true ∨ (xs.length ≤ 8 ∧ r = .bool (lawKeeps (xs.map mk) order))) := by
  have hs0 := h
  have ho0 := ho
  obtain ⟨a, c, rfl, hc, hcs⟩ := h
  obtain ⟨oa, oc, rfl, hoc, hocs⟩ := ho
  simp only [seens_len, strs_len] at *
  refine big_of_runs rfl rfl rfl ?_
  obtain ⟨z, hz⟩ := startC_mkS Try.f8 [.slice a xs.length c, .slice oa order.length oc]
  rw [show startC (8, Try.f8).snd [Value.slice a xs.length c, .slice oa order.length oc] = _ from hz]
  clear hz
  refine Runs.seq (Runs.region ?_)
  repeat refine Rg.opp rfl rfl rfl rfl rfl ?_
  refine Rg.nil ?_
  have early : ∀ a0 : Nat → Value, Runs tab (.seq (.region 2 #[]  false) .ret) (mkS 139 a0 []) H (fun _ _ => True) (fun _ _ _ => True) (fun _ _ => True) := fun a0 => Runs.seq (Runs.region (Rg.nil (Runs.ret trivial)))
  clear early
  by_cases h8 : xs.length ≤ 8
  · by_cases h9 : order.length ≤ 8
    · refine Runs.seq (Runs.seq (Runs.region ?_))
      refine Rg.calls rfl rfl rfl rfl rfl rfl (known_is _) ?_
      refine Rg.opp rfl rfl rfl rfl rfl ?_
      refine Rg.opp rfl rfl rfl rfl rfl ?_
      refine Rg.guards true rfl rfl rfl (fun _ => ⟨_, _, evW_op rfl, rfl, ?_⟩) (fun h => by cases h)
      refine Rg.guards true rfl rfl rfl (fun _ => ⟨_, _, evW_call rfl rfl (fits_runs _ _ _), rfl, ?_⟩) (fun h => by cases h)
      rw [show decide ((xs.length : Int) ≤ 8) = true from decide_eq_true (by omega)]
      refine Rg.guards true rfl rfl rfl (fun _ => ⟨_, _, evW_op rfl, rfl, ?_⟩) (fun h => by cases h)
      refine Rg.opp rfl rfl rfl rfl rfl ?_
      refine Rg.opp rfl rfl rfl rfl rfl ?_
      refine Rg.guards true rfl rfl rfl (fun _ => ⟨_, _, evW_op rfl, rfl, ?_⟩) (fun h => by cases h)
      refine Rg.guards true rfl rfl rfl (fun _ => ⟨_, _, evW_op rfl, rfl, ?_⟩) (fun h => by cases h)
      refine Rg.guards true rfl rfl rfl (fun _ => ⟨_, _, evW_op (ev_gt false rfl rfl (decide_eq_false (by omega))), rfl, ?_⟩) (fun h => by cases h)
      refine Rg.opp rfl rfl rfl rfl rfl ?_
      refine Rg.nil ?_
      refine Runs.cond false rfl (fun h => by cases h) (fun _ => ?_)
      refine Runs.skip ?_
      refine Runs.cut (n := 139) (l := [(0, .slice a xs.length c), (1, .slice oa order.length oc)]) (Is.of ⟨rfl, rfl, rfl, rfl, trivial⟩) (fun a1 => ?_)
      -- no long names, or true
      refine Runs.seq (Runs.seq (Runs.region ?_))
      repeat refine Rg.opp rfl rfl rfl rfl rfl ?_
      refine Rg.nil ?_
      refine Runs.block ?_
      refine Runs.loop (fun m s H1 => H = H1 ∧ ∃ k, k ≤ order.length ∧ m = order.length - k ∧ Is s 139 [(0, .slice a xs.length c), (1, .slice oa order.length oc), (5, nat k)]) _ ⟨rfl, 0, Nat.zero_le _, rfl, Is.of ⟨rfl, rfl, rfl, rfl, rfl, rfl, trivial⟩⟩ ?_
      rintro m s H1 ⟨hH1, k, hk, rfl, hs⟩
      subst hH1
      obtain ⟨a2, rfl⟩ := hs.mk1
      clear hs
      by_cases hlt : k < order.length
      · refine Runs.seq (Runs.seq (Runs.region ?_))
        refine Rg.opp rfl rfl rfl rfl rfl ?_
        refine Rg.opp rfl rfl rfl rfl rfl ?_
        refine Rg.opp rfl rfl rfl rfl rfl ?_
        refine Rg.opp rfl rfl rfl (ev_lt true rfl rfl (by simp; omega)) rfl ?_
        refine Rg.nil ?_
        refine Runs.cond true rfl (fun _ => ?_) (fun h => by cases h)
        refine Runs.skip ?_
        obtain ⟨b, o, rfl, hsz, hr⟩ := hocs.lt (i := k) (by rw [strs_len]; exact hlt)
        have hrk := hr k _ (strs_get hlt)
        refine Runs.seq (Runs.block ?_)
        refine Runs.seq (Runs.region ?_)
        refine Rg.opp rfl rfl rfl rfl rfl ?_
        refine Rg.opp rfl rfl rfl rfl rfl ?_
        refine Rg.opp rfl rfl rfl (ev_at rfl rfl rfl rfl (by decide) hlt) rfl ?_
        refine Rg.opp rfl rfl rfl (ev_load1 rfl rfl hrk rfl) rfl ?_
        refine Rg.opp rfl rfl rfl rfl rfl ?_
        refine Rg.opp rfl rfl rfl (ev_gt _ rfl rfl rfl) rfl ?_
        refine Rg.nil ?_
        refine Runs.cond _ rfl (fun _ => ?_) (fun _ => ?_)
        · refine Runs.seq (Runs.region ?_)
          repeat refine Rg.opp rfl rfl rfl rfl rfl ?_
          refine Rg.nil ?_
          exact Runs.ret ⟨_, rfl, .inl rfl⟩
        · refine Runs.skip ?_
          refine Runs.region ?_
          refine Rg.opp rfl rfl rfl rfl rfl ?_
          refine Rg.opp rfl rfl rfl (ev_addn (b := 1) rfl rfl (by omega)) rfl ?_
          refine Rg.opp rfl rfl rfl rfl rfl ?_
          refine Rg.nil ?_
          exact ⟨order.length - (k + 1), by omega, rfl, k + 1, hlt, rfl, Is.of ⟨rfl, rfl, rfl, rfl, rfl, rfl, trivial⟩⟩
      · refine Runs.seq (Runs.seq (Runs.region ?_))
        refine Rg.opp rfl rfl rfl rfl rfl ?_
        refine Rg.opp rfl rfl rfl rfl rfl ?_
        refine Rg.opp rfl rfl rfl rfl rfl ?_
        refine Rg.opp rfl rfl rfl (ev_lt false rfl rfl (by simp; omega)) rfl ?_
        refine Rg.nil ?_
        refine Runs.cond false rfl (fun h => by cases h) (fun _ => ?_)
        refine Runs.exit ?_
        -- Make, Keeps, units
        obtain ⟨lv, H2, hmk, he2, p, hacc⟩ := make_runs hs0 hsm hxl
        rw [List.take_of_length_le h8] at hacc
        have hsl := hacc.sl (by rw [rels_len]; simp [unk]; omega)
        have hg : ∀ r ∈ xs.map mk, Good r := by
          intro r hr
          obtain ⟨s, _, rfl⟩ := List.mem_map.1 hr
          exact fun K => check_good s K
        have hul : (unitsP (xs.map mk)).length ≤ 60 := by
          have h1 := Lib.compact_length_le (sortNm (allNames (xs.map mk)))
          rw [List.length_mergeSort, allNames_len, List.length_map] at h1
          unfold unitsP; omega
        obtain ⟨kv, H3, hkp, rfl, he3⟩ := keepsP_runs hsl (ho0.sees he2.sees) (by simp; omega) (by omega) hg hul
        obtain ⟨uv, H4, hun, he4, pu, haccu⟩ := lawUnits_runs (hsl.sees he3.sees) (by simp; omega)
        have husl := haccu.sl (by rw [strs_len]; have := foldl_len (allNames (xs.map mk)) []; rw [allNames_len, List.length_map] at this; simp [unitsL, unk] at *; omega)
        have hos4 := hocs.sees (he2.trans (he3.trans he4)).sees
        have hl4 := hsl.sees (he3.trans he4).sees
        obtain ⟨la, lc, rfl, hlc, hlcs⟩ := hl4
        obtain ⟨ua, uc, rfl, huc, hucs⟩ := husl
        rw [rels_len, strs_len] at *
        refine Runs.seq (Runs.region ?_)
        refine Rg.opp rfl rfl rfl rfl rfl ?_
        refine Rg.calls rfl rfl rfl rfl rfl rfl hmk ?_
        refine Rg.opp rfl rfl rfl rfl rfl ?_
        refine Rg.nil ?_
        refine Runs.seq (Runs.region ?_)
        refine Rg.opp rfl rfl rfl rfl rfl ?_
        refine Rg.opp rfl rfl rfl rfl rfl ?_
        refine Rg.calls rfl rfl rfl rfl rfl rfl hkp ?_
        unfold triple
        refine Rg.opp rfl rfl rfl rfl rfl ?_
        refine Rg.opp rfl rfl rfl rfl rfl ?_
        refine Rg.opp rfl rfl rfl rfl rfl ?_
        refine Rg.opp rfl rfl rfl rfl rfl ?_
        refine Rg.opp rfl rfl rfl rfl rfl ?_
        refine Rg.opp rfl rfl rfl rfl rfl ?_
        refine Rg.opp rfl rfl rfl rfl rfl ?_
        refine Rg.nil ?_
        refine Runs.seq (Runs.region ?_)
        refine Rg.opp rfl rfl rfl rfl rfl ?_
        refine Rg.nil ?_
        refine Runs.seq (Runs.region ?_)
        refine Rg.opp rfl rfl rfl rfl rfl ?_
        refine Rg.calls rfl rfl rfl rfl rfl rfl hun ?_
        refine Rg.opp rfl rfl rfl rfl rfl ?_
        refine Rg.nil ?_
        have hfin : ∀ r : Value, r = .bool (lawKeeps (xs.map mk) order) → r = .bool true ∨ xs.length ≤ 8 ∧ r = .bool (lawKeeps (xs.map mk) order) := fun r h => .inr ⟨h8, h⟩
        have hlaw : (if want3 order (want2 (unitsL (xs.map mk)) order) ≠ 0 then decide ((keepsP (xs.map mk) order).1 = 0) && (!(keepsP (xs.map mk) order).2.1) && decide ((keepsP (xs.map mk) order).2.2 = want3 order (want2 (unitsL (xs.map mk)) order))
          else match (xs.map mk).findIdx? (lawArc order) with
            | some i => decide ((keepsP (xs.map mk) order).2.2 = 0) && decide ((keepsP (xs.map mk) order).1 = i) && !(keepsP (xs.map mk) order).2.1
            | none => decide ((keepsP (xs.map mk) order).2.2 = 0) && decide ((keepsP (xs.map mk) order).1 = 0) && (keepsP (xs.map mk) order).2.1) = lawKeeps (xs.map mk) order := rfl
        generalize hf : (keepsP (xs.map mk) order).1 = f at hlaw
        generalize hal : (keepsP (xs.map mk) order).2.1 = al at hlaw
        generalize hee : (keepsP (xs.map mk) order).2.2 = e at hlaw
        refine Runs.cut (n := 139) (l := [(1, .slice oa order.length oc), (6, .slice la (xs.map mk).length lc), (7, nat f), (8, .bool al), (9, nat e), (10, nat 0), (11, .slice ua (unitsL (xs.map mk)).length uc)]) (Is.of ⟨rfl, rfl, rfl, rfl, rfl, rfl, rfl, rfl, rfl, rfl, rfl, rfl, rfl, rfl, trivial⟩) (fun a3 => ?_)
        have hosl : Sl H4 1 (.slice oa order.length oc) (strs order) := ⟨_, _, by rw [strs_len], by rw [strs_len]; exact hoc, hos4⟩
        have hUl : (unitsL (xs.map mk)).length ≤ 16 := by
          have := foldl_len (allNames (xs.map mk)) []
          rw [allNames_len, List.length_map] at this
          simp only [unitsL, List.length_nil] at *
          omega
        generalize hU : unitsL (xs.map mk) = U at *
        -- the units
        refine Runs.seq (Runs.seq (Runs.region ?_))
        refine Rg.opp rfl rfl rfl rfl rfl ?_
        refine Rg.nil ?_
        refine Runs.block ?_
        refine Runs.loop (fun m s H5 => H4 = H5 ∧ ∃ k, k ≤ U.length ∧ m = U.length - k ∧ Is s 139 [(1, .slice oa order.length oc), (6, .slice la (xs.map mk).length lc), (7, nat f), (8, .bool al), (9, nat e), (10, nat (want2 (U.take k) order)), (11, .slice ua U.length uc), (12, nat k)]) _ ⟨rfl, 0, Nat.zero_le _, rfl, Is.of ⟨rfl, rfl, rfl, rfl, rfl, rfl, rfl, rfl, rfl, rfl, rfl, rfl, rfl, rfl, rfl, rfl, trivial⟩⟩ ?_
        rintro m s H5 ⟨hH5, k2, hk2, rfl, hs⟩
        subst hH5
        obtain ⟨a4, rfl⟩ := hs.mk1
        clear hs
        by_cases hlt2 : k2 < U.length
        · refine Runs.seq (Runs.seq (Runs.region ?_))
          refine Rg.opp rfl rfl rfl rfl rfl ?_
          refine Rg.opp rfl rfl rfl rfl rfl ?_
          refine Rg.opp rfl rfl rfl rfl rfl ?_
          refine Rg.opp rfl rfl rfl (ev_lt true rfl rfl (by simp; omega)) rfl ?_
          refine Rg.nil ?_
          refine Runs.cond true rfl (fun _ => ?_) (fun h => by cases h)
          refine Runs.skip ?_
          obtain ⟨b, o, rfl, hsz, hr⟩ := hucs.lt (i := k2) (by rw [strs_len]; exact hlt2)
          have hrk := hr k2 _ (strs_get hlt2)
          have hw : want2 (U.take (k2 + 1)) order = if U[k2] ∉ order then 10 else want2 (U.take k2) order := by
            rw [← List.take_append_getElem hlt2, want2_snoc]
          refine Runs.seq (Runs.block ?_)
          refine Runs.seq (Runs.region ?_)
          refine Rg.opp rfl rfl rfl rfl rfl ?_
          refine Rg.opp rfl rfl rfl rfl rfl ?_
          refine Rg.opp rfl rfl rfl rfl rfl ?_
          refine Rg.opp rfl rfl rfl (ev_at rfl rfl rfl rfl (by decide) hlt2) rfl ?_
          refine Rg.opp rfl rfl rfl (ev_load1 rfl rfl hrk rfl) rfl ?_
          refine Rg.calls rfl rfl rfl rfl rfl rfl (index_runs U[k2] hosl (by omega)) ?_
          refine Rg.opp rfl rfl rfl (ev_lt (decide (U[k2] ∉ order)) rfl rfl (by simp [indexOf_neg])) rfl ?_
          refine Rg.nil ?_
          refine Runs.cond (decide (U[k2] ∉ order)) rfl (fun q => ?_) (fun q => ?_)
          · refine Runs.region ?_
            refine Rg.opp rfl rfl rfl rfl rfl ?_
            refine Rg.nil ?_
            refine Runs.region ?_
            refine Rg.opp rfl rfl rfl rfl rfl ?_
            refine Rg.opp rfl rfl rfl (ev_addn (b := 1) rfl rfl (by omega)) rfl ?_
            refine Rg.opp rfl rfl rfl rfl rfl ?_
            refine Rg.nil ?_
            refine ⟨U.length - (k2 + 1), by omega, rfl, k2 + 1, hlt2, rfl, Is.of ⟨rfl, rfl, rfl, rfl, rfl, rfl, rfl, rfl, rfl, rfl, rfl, ?_, rfl, rfl, rfl, rfl, trivial⟩⟩
            show nat 10 = _
            rw [hw, if_pos (of_decide_eq_true q)]
          · refine Runs.skip ?_
            refine Runs.region ?_
            refine Rg.opp rfl rfl rfl rfl rfl ?_
            refine Rg.opp rfl rfl rfl (ev_addn (b := 1) rfl rfl (by omega)) rfl ?_
            refine Rg.opp rfl rfl rfl rfl rfl ?_
            refine Rg.nil ?_
            refine ⟨U.length - (k2 + 1), by omega, rfl, k2 + 1, hlt2, rfl, Is.of ⟨rfl, rfl, rfl, rfl, rfl, rfl, rfl, rfl, rfl, rfl, rfl, ?_, rfl, rfl, rfl, rfl, trivial⟩⟩
            show nat (want2 (U.take k2) order) = _
            rw [hw, if_neg (of_decide_eq_false q)]
        · refine Runs.seq (Runs.seq (Runs.region ?_))
          refine Rg.opp rfl rfl rfl rfl rfl ?_
          refine Rg.opp rfl rfl rfl rfl rfl ?_
          refine Rg.opp rfl rfl rfl rfl rfl ?_
          refine Rg.opp rfl rfl rfl (ev_lt false rfl rfl (by simp; omega)) rfl ?_
          refine Rg.nil ?_
          refine Runs.cond false rfl (fun h => by cases h) (fun _ => ?_)
          refine Runs.exit ?_
          have hkU : k2 = U.length := by omega
          subst hkU
          rw [List.take_of_length_le (Nat.le_refl _)]
          generalize hw2 : want2 U order = w2 at *
          refine Runs.cut (n := 139) (l := [(1, .slice oa order.length oc), (6, .slice la (xs.map mk).length lc), (7, nat f), (8, .bool al), (9, nat e), (10, nat w2)]) (Is.of ⟨rfl, rfl, rfl, rfl, rfl, rfl, rfl, rfl, rfl, rfl, rfl, rfl, trivial⟩) (fun a5 => ?_)
          refine Runs.seq (Runs.seq (Runs.region ?_))
          refine Rg.opp rfl rfl rfl rfl rfl ?_
          refine Rg.nil ?_
          refine Runs.block ?_
          refine Runs.loop (fun m s H5 => H4 = H5 ∧ ∃ k, k ≤ order.length ∧ m = order.length - k ∧ Is s 139 [(1, .slice oa order.length oc), (6, .slice la (xs.map mk).length lc), (7, nat f), (8, .bool al), (9, nat e), (10, nat (want4 order w2 k)), (13, nat k)]) _ ⟨rfl, 0, Nat.zero_le _, rfl, Is.of ⟨rfl, rfl, rfl, rfl, rfl, rfl, rfl, rfl, rfl, rfl, rfl, (by show nat w2 = nat (want4 order w2 0); rw [want4, if_pos (by intro i h z; omega)]), rfl, rfl, trivial⟩⟩ ?_
          rintro m s H5 ⟨hH5, k3, hk3, rfl, hs⟩
          subst hH5
          obtain ⟨a6, rfl⟩ := hs.mk1
          clear hs
          by_cases hlt3 : k3 < order.length
          · refine Runs.seq (Runs.seq (Runs.region ?_))
            refine Rg.opp rfl rfl rfl rfl rfl ?_
            refine Rg.opp rfl rfl rfl rfl rfl ?_
            refine Rg.opp rfl rfl rfl rfl rfl ?_
            refine Rg.opp rfl rfl rfl (ev_lt true rfl rfl (by simp; omega)) rfl ?_
            refine Rg.nil ?_
            refine Runs.cond true rfl (fun _ => ?_) (fun h => by cases h)
            refine Runs.skip ?_
            obtain ⟨b, o, rfl, hsz, hr⟩ := hos4.lt (i := k3) (by rw [strs_len]; exact hlt3)
            have hrk := hr k3 _ (strs_get hlt3)
            refine Runs.seq (Runs.block ?_)
            refine Runs.seq (Runs.region ?_)
            refine Rg.opp rfl rfl rfl rfl rfl ?_
            refine Rg.opp rfl rfl rfl rfl rfl ?_
            refine Rg.opp rfl rfl rfl rfl rfl ?_
            refine Rg.opp rfl rfl rfl (ev_at rfl rfl rfl rfl (by decide) hlt3) rfl ?_
            refine Rg.opp rfl rfl rfl (ev_load1 rfl rfl hrk rfl) rfl ?_
            refine Rg.calls rfl rfl rfl rfl rfl rfl (index_runs order[k3] hosl (by omega)) ?_
            refine Rg.opp rfl rfl rfl rfl rfl ?_
            refine Rg.opp rfl rfl rfl (ev_lt (decide (indexOf order order[k3] < (k3 : Int))) rfl rfl rfl) rfl ?_
            refine Rg.nil ?_
            refine Runs.cond (decide (indexOf order order[k3] < (k3 : Int))) rfl (fun q => ?_) (fun q => ?_)
            · refine Runs.region ?_
              refine Rg.opp rfl rfl rfl rfl rfl ?_
              refine Rg.nil ?_
              refine Runs.region ?_
              refine Rg.opp rfl rfl rfl rfl rfl ?_
              refine Rg.opp rfl rfl rfl (ev_addn (b := 1) rfl rfl (by omega)) rfl ?_
              refine Rg.opp rfl rfl rfl rfl rfl ?_
              refine Rg.nil ?_
              refine ⟨order.length - (k3 + 1), by omega, rfl, k3 + 1, hlt3, rfl, Is.of ⟨rfl, rfl, rfl, rfl, rfl, rfl, rfl, rfl, rfl, rfl, rfl, ?_, rfl, rfl, trivial⟩⟩
              show nat 9 = _
              rw [want4_succ hlt3, if_pos (of_decide_eq_true q)]
            · refine Runs.skip ?_
              refine Runs.region ?_
              refine Rg.opp rfl rfl rfl rfl rfl ?_
              refine Rg.opp rfl rfl rfl (ev_addn (b := 1) rfl rfl (by omega)) rfl ?_
              refine Rg.opp rfl rfl rfl rfl rfl ?_
              refine Rg.nil ?_
              refine ⟨order.length - (k3 + 1), by omega, rfl, k3 + 1, hlt3, rfl, Is.of ⟨rfl, rfl, rfl, rfl, rfl, rfl, rfl, rfl, rfl, rfl, rfl, ?_, rfl, rfl, trivial⟩⟩
              show nat (want4 order w2 k3) = _
              rw [want4_succ hlt3, if_neg (of_decide_eq_false q)]
          · refine Runs.seq (Runs.seq (Runs.region ?_))
            refine Rg.opp rfl rfl rfl rfl rfl ?_
            refine Rg.opp rfl rfl rfl rfl rfl ?_
            refine Rg.opp rfl rfl rfl rfl rfl ?_
            refine Rg.opp rfl rfl rfl (ev_lt false rfl rfl (by simp; omega)) rfl ?_
            refine Rg.nil ?_
            refine Runs.cond false rfl (fun h => by cases h) (fun _ => ?_)
            refine Runs.exit ?_
            have hko : k3 = order.length := by omega
            subst hko
            rw [want4_all]
            generalize hW : want3 order w2 = W at *
            refine Runs.cut (n := 139) (l := [(1, .slice oa order.length oc), (6, .slice la (xs.map mk).length lc), (7, nat f), (8, .bool al), (9, nat e), (10, nat W)]) (Is.of ⟨rfl, rfl, rfl, rfl, rfl, rfl, rfl, rfl, rfl, rfl, rfl, rfl, trivial⟩) (fun a7 => ?_)
            refine Runs.seq (Runs.seq (Runs.region ?_))
            refine Rg.opp rfl rfl rfl rfl rfl ?_
            by_cases hW0 : W = 0
            · refine Rg.opp rfl rfl rfl (ev_ne false rfl rfl (decide_eq_false (by omega))) rfl ?_
              refine Rg.nil ?_
              refine Runs.cond false rfl (fun h => by cases h) (fun _ => ?_)
              refine Runs.skip ?_
              rw [if_neg (by simp [hW0])] at hlaw
              refine Runs.cut (n := 139) (l := [(1, .slice oa order.length oc), (6, .slice la (xs.map mk).length lc), (7, nat f), (8, .bool al), (9, nat e)]) (Is.of ⟨rfl, rfl, rfl, rfl, rfl, rfl, rfl, rfl, rfl, rfl, trivial⟩) (fun a8 => ?_)
              exact Runs.mono (law_end hosl (by omega) hlcs (by simpa using h8) hlaw a8) (fun s1 H1 h => by obtain ⟨v, h1, h2⟩ := h; exact ⟨v, h1, hfin v h2⟩) (fun _ _ _ h => h.elim) (fun s1 H1 h => by obtain ⟨v, h1, h2⟩ := h; exact ⟨v, h1, hfin v h2⟩)
            · refine Rg.opp rfl rfl rfl (ev_ne true rfl rfl (decide_eq_true (by omega))) rfl ?_
              refine Rg.nil ?_
              refine Runs.cond true rfl (fun _ => ?_) (fun h => by cases h)
              rw [if_pos hW0] at hlaw
              refine Runs.seq (Runs.region ?_)
              refine Rg.opp rfl rfl rfl rfl rfl ?_
              by_cases hf0 : f = 0
              · refine Rg.opp rfl rfl rfl (ev_eq true rfl rfl (decide_eq_true (by omega))) rfl ?_
                refine Rg.opp rfl rfl rfl rfl rfl ?_
                refine Rg.guards true rfl rfl rfl (fun _ => ⟨_, _, evW_op rfl, rfl, ?_⟩) (fun h => by cases h)
                refine Rg.guards true rfl rfl rfl (fun _ => ⟨_, _, evW_op rfl, rfl, ?_⟩) (fun h => by cases h)
                refine Rg.opp rfl rfl rfl rfl rfl ?_
                refine Rg.opp rfl rfl rfl rfl rfl ?_
                cases al with
                | true =>
                  refine Rg.guards false rfl rfl rfl (fun h => by cases h) (fun _ => ?_)
                  refine Rg.guards false rfl rfl rfl (fun h => by cases h) (fun _ => ?_)
                  refine Rg.guards false rfl rfl rfl (fun h => by cases h) (fun _ => ?_)
                  refine Rg.opp rfl rfl rfl rfl rfl ?_
                  refine Rg.opp rfl rfl rfl rfl rfl ?_
                  refine Rg.nil ?_
                  refine Runs.ret ⟨_, rfl, hfin _ ?_⟩
                  rw [← hlaw]
                  simp
                  rfl
                | false =>
                  refine Rg.guards true rfl rfl rfl (fun _ => ⟨_, _, evW_op rfl, rfl, ?_⟩) (fun h => by cases h)
                  refine Rg.guards true rfl rfl rfl (fun _ => ⟨_, _, evW_op rfl, rfl, ?_⟩) (fun h => by cases h)
                  refine Rg.guards true rfl rfl rfl (fun _ => ⟨_, _, evW_op (ev_eq (decide (e = W)) rfl rfl (decide_eq_decide.2 (by omega))), rfl, ?_⟩) (fun h => by cases h)
                  refine Rg.opp rfl rfl rfl rfl rfl ?_
                  refine Rg.opp rfl rfl rfl rfl rfl ?_
                  refine Rg.nil ?_
                  refine Runs.ret ⟨_, rfl, hfin _ ?_⟩
                  rw [← hlaw]
                  simp [hf0]
                  rfl
              · refine Rg.opp rfl rfl rfl (ev_eq false rfl rfl (decide_eq_false (by omega))) rfl ?_
                refine Rg.opp rfl rfl rfl rfl rfl ?_
                refine Rg.guards false rfl rfl rfl (fun h => by cases h) (fun _ => ?_)
                refine Rg.guards false rfl rfl rfl (fun h => by cases h) (fun _ => ?_)
                refine Rg.opp rfl rfl rfl rfl rfl ?_
                refine Rg.opp rfl rfl rfl rfl rfl ?_
                refine Rg.guards false rfl rfl rfl (fun h => by cases h) (fun _ => ?_)
                refine Rg.guards false rfl rfl rfl (fun h => by cases h) (fun _ => ?_)
                refine Rg.guards false rfl rfl rfl (fun h => by cases h) (fun _ => ?_)
                refine Rg.opp rfl rfl rfl rfl rfl ?_
                refine Rg.opp rfl rfl rfl rfl rfl ?_
                refine Rg.nil ?_
                refine Runs.ret ⟨_, rfl, hfin _ ?_⟩
                rw [← hlaw]
                simp [hf0]
                rfl
    · refine Runs.seq (Runs.seq (Runs.region ?_))
      refine Rg.calls rfl rfl rfl rfl rfl rfl (known_is _) ?_
      refine Rg.opp rfl rfl rfl rfl rfl ?_
      refine Rg.opp rfl rfl rfl rfl rfl ?_
      refine Rg.guards true rfl rfl rfl (fun _ => ⟨_, _, evW_op rfl, rfl, ?_⟩) (fun h => by cases h)
      refine Rg.guards true rfl rfl rfl (fun _ => ⟨_, _, evW_call rfl rfl (fits_runs _ _ _), rfl, ?_⟩) (fun h => by cases h)
      rw [show decide ((xs.length : Int) ≤ 8) = true from decide_eq_true (by omega)]
      refine Rg.guards true rfl rfl rfl (fun _ => ⟨_, _, evW_op rfl, rfl, ?_⟩) (fun h => by cases h)
      refine Rg.opp rfl rfl rfl rfl rfl ?_
      refine Rg.opp rfl rfl rfl rfl rfl ?_
      refine Rg.guards true rfl rfl rfl (fun _ => ⟨_, _, evW_op rfl, rfl, ?_⟩) (fun h => by cases h)
      refine Rg.guards true rfl rfl rfl (fun _ => ⟨_, _, evW_op rfl, rfl, ?_⟩) (fun h => by cases h)
      refine Rg.guards true rfl rfl rfl (fun _ => ⟨_, _, evW_op (ev_gt true rfl rfl (decide_eq_true (by omega))), rfl, ?_⟩) (fun h => by cases h)
      refine Rg.opp rfl rfl rfl rfl rfl ?_
      refine Rg.nil ?_
      refine Runs.cond true rfl (fun _ => ?_) (fun h => by cases h)
      refine Runs.seq (Runs.region ?_)
      refine Rg.calls rfl rfl rfl rfl rfl rfl (known_is _) ?_
      refine Rg.opp rfl rfl rfl rfl rfl ?_
      refine Rg.nil ?_
      exact Runs.ret ⟨_, rfl, .inl rfl⟩
  · refine Runs.seq (Runs.seq (Runs.region ?_))
    refine Rg.calls rfl rfl rfl rfl rfl rfl (known_is _) ?_
    refine Rg.opp rfl rfl rfl rfl rfl ?_
    refine Rg.opp rfl rfl rfl rfl rfl ?_
    refine Rg.guards true rfl rfl rfl (fun _ => ⟨_, _, evW_op rfl, rfl, ?_⟩) (fun h => by cases h)
    refine Rg.guards true rfl rfl rfl (fun _ => ⟨_, _, evW_call rfl rfl (fits_runs _ _ _), rfl, ?_⟩) (fun h => by cases h)
    rw [show decide ((xs.length : Int) ≤ 8) = false from decide_eq_false (by omega)]
    refine Rg.guards true rfl rfl rfl (fun _ => ⟨_, _, evW_op rfl, rfl, ?_⟩) (fun h => by cases h)
    refine Rg.opp rfl rfl rfl rfl rfl ?_
    refine Rg.opp rfl rfl rfl rfl rfl ?_
    refine Rg.guards false rfl rfl rfl (fun h => by cases h) (fun _ => ?_)
    refine Rg.guards false rfl rfl rfl (fun h => by cases h) (fun _ => ?_)
    refine Rg.guards false rfl rfl rfl (fun h => by cases h) (fun _ => ?_)
    refine Rg.opp rfl rfl rfl rfl rfl ?_
    refine Rg.nil ?_
    refine Runs.cond true rfl (fun _ => ?_) (fun h => by cases h)
    refine Runs.seq (Runs.region ?_)
    refine Rg.calls rfl rfl rfl rfl rfl rfl (known_is _) ?_
    refine Rg.opp rfl rfl rfl rfl rfl ?_
    refine Rg.nil ?_
    exact Runs.ret ⟨_, rfl, .inl rfl⟩

end Go.Proofs.Ytdhbclplondmjaa.C

/- The law's own order against the program's, in plain Lean. -/
set_option linter.unusedVariables false
set_option maxRecDepth 100000
namespace Go.Proofs.Ytdhbclplondmjaa.C
open Go.RowKit Go.Sort

theorem scanK_mem (out : List Nm) (x : Nm) : ∀ k, k ≤ out.length → ((scanK out x k).2 = true ↔ x ∈ out.take k)
  | 0, _ => by simp [scanK]
  | k + 1, h => by
    have hk : k < out.length := by omega
    have e : out.getD k [] = out[k] := by simp [List.getD, hk]
    simp only [scanK, Bool.or_eq_true, decide_eq_true_eq]
    rw [scanK_mem out x k (by omega), e, List.take_succ_eq_append_getElem hk, List.mem_append, List.mem_singleton]
    constructor
    · rintro (q | q)
      · exact .inl q
      · exact .inr q.symm
    · rintro (q | q)
      · exact .inl q
      · exact .inr q.symm

theorem mem_insL {out : List Nm} {x y : Nm} : y ∈ insL out x ↔ y ∈ out ∨ y = x := by
  unfold insL
  split
  · rename_i h
    have := (scanK_mem out x out.length (Nat.le_refl _)).1 h
    rw [List.take_length] at this
    constructor
    · exact .inl
    · rintro (q | rfl)
      · exact q
      · exact this
  · rw [List.mem_append, List.mem_append, List.mem_singleton]
    constructor
    · rintro ((q | q) | q)
      · exact .inl (List.mem_of_mem_take q)
      · exact .inr q
      · exact .inl (List.mem_of_mem_drop q)
    · rintro (q | q)
      · rw [← List.take_append_drop (scanK out x out.length).1 out, List.mem_append] at q
        rcases q with q | q
        · exact .inl (.inl q)
        · exact .inr q
      · exact .inl (.inr q)

theorem mem_foldl_insL : ∀ (l out : List Nm) (y : Nm), y ∈ l.foldl insL out ↔ y ∈ out ∨ y ∈ l
  | [], out, y => by simp
  | x :: l, out, y => by
    rw [List.foldl_cons, mem_foldl_insL l, mem_insL, List.mem_cons, or_assoc]

theorem mem_unitsL {l : List Rel} {y : Nm} : y ∈ unitsL l ↔ y ∈ allNames l := by
  unfold unitsL; rw [mem_foldl_insL]; simp

theorem mem_sortNm {l : List Nm} {y : Nm} : y ∈ sortNm l ↔ y ∈ l := List.mem_mergeSort

theorem idxOf_lt_of_mem {xs : List Nm} {x : Nm} (h : x ∈ xs) : ∃ k, xs.idxOf? x = some k := by
  cases e : xs.idxOf? x with
  | some k => exact ⟨k, rfl⟩
  | none => exact absurd h (List.idxOf?_eq_none_iff.1 e)

theorem idx_inj {xs : List Nm} {x y : Nm} (hx : x ∈ xs) (hy : y ∈ xs) (h : idx xs x = idx xs y) : x = y := by
  obtain ⟨a, ha⟩ := idxOf_lt_of_mem hx
  obtain ⟨b, hb⟩ := idxOf_lt_of_mem hy
  unfold idx at h
  rw [ha, hb] at h
  simp only [Option.getD_some] at h
  subst h
  rw [List.idxOf?, List.findIdx?_eq_some_iff_getElem] at ha hb
  obtain ⟨h1, h2, _⟩ := ha
  obtain ⟨_, h4, _⟩ := hb
  have e1 := beq_iff_eq.1 h2
  have e2 := beq_iff_eq.1 h4
  exact e1.symm.trans e2

theorem indexOf_mem {xs : List Nm} {x : Nm} (hx : x ∈ xs) : indexOf xs x = idx xs x := by
  obtain ⟨a, ha⟩ := idxOf_lt_of_mem hx
  simp [indexOf, idx, ha]

theorem nm_inj {a b : Nat} (ha : a < 6) (hb : b < 6) (h : nm a = nm b) : a = b := by
  have : ∀ a < 6, ∀ b < 6, nm a = nm b → a = b := by decide
  exact this a ha b hb h

theorem mk_ne (s : Seen) : (mk s).up ≠ (mk s).lo := by
  intro h
  have h1 : mkA s < 6 := by unfold mkA; omega
  have h2 : mkB s < 6 := by unfold mkB; split <;> omega
  have := nm_inj h1 h2 h
  revert this
  unfold mkA mkB
  split <;> omega

theorem findIdx?_same {α : Type} {p q : α → Bool} : ∀ (l : List α), (∀ x ∈ l, p x = q x) → l.findIdx? p = l.findIdx? q
  | [], _ => rfl
  | x :: l, h => by
    rw [List.findIdx?_cons, List.findIdx?_cons, h x (by simp), findIdx?_same l fun y hy => h y (by simp [hy])]

theorem mem_names_up {l : List Rel} {r : Rel} (h : r ∈ l) : r.up ∈ allNames l := List.mem_flatMap.2 ⟨r, h, by simp⟩
theorem mem_names_lo {l : List Rel} {r : Rel} (h : r ∈ l) : r.lo ∈ allNames l := List.mem_flatMap.2 ⟨r, h, by simp⟩

theorem law_plain (l : List Rel) (order : List Nm) (hne : ∀ r ∈ l, r.up ≠ r.lo) (hu : ∀ y, y ∈ unitsP l ↔ y ∈ allNames l) : lawKeeps l order = true := by
  have e1 : (∀ u ∈ unitsP l, u ∈ order) ↔ (∀ x ∈ unitsL l, x ∈ order) := by
    constructor
    · intro h x hx; exact h x ((hu x).2 (mem_unitsL.1 hx))
    · intro h x hx; exact h x (mem_unitsL.2 ((hu x).1 hx))
  by_cases hd : order.Nodup
  · by_cases hk : ∀ x ∈ unitsL l, x ∈ order
    · have hk' := e1.2 hk
      have e2 : l.findIdx? (badRel order) = l.findIdx? (lawArc order) := by
        refine findIdx?_same l fun r hr => ?_
        have m1 : r.up ∈ order := hk _ (mem_unitsL.2 (mem_names_up hr))
        have m2 : r.lo ∈ order := hk _ (mem_unitsL.2 (mem_names_lo hr))
        unfold badRel lawArc
        rw [indexOf_mem m1, indexOf_mem m2]
        congr 1
        have n : idx order r.up ≠ idx order r.lo := fun h => hne r hr (idx_inj m1 m2 h)
        apply decide_eq_decide.2
        omega
      have hw : want3 order (want2 (unitsL l) order) = 0 := by unfold want3 want2; rw [if_pos hd, if_pos hk]
      have hkp : keepsP l order = match l.findIdx? (lawArc order) with | some i => (i, false, 0) | none => (0, true, 0) := by
        unfold keepsP; rw [if_neg (fun h => h hd), if_neg (fun h => h hk'), e2]
        cases l.findIdx? (lawArc order) <;> rfl
      unfold lawKeeps
      rw [hw, hkp]
      cases l.findIdx? (lawArc order) <;> simp
    · have hk' : ¬ ∀ u ∈ unitsP l, u ∈ order := fun h => hk (e1.1 h)
      have hw : want3 order (want2 (unitsL l) order) = 10 := by unfold want3 want2; rw [if_pos hd, if_neg hk]
      have hkp : keepsP l order = (0, false, 10) := by
        unfold keepsP; rw [if_neg (fun h => h hd), if_pos hk']
      unfold lawKeeps
      rw [hw, hkp]; simp
  · have hw : want3 order (want2 (unitsL l) order) = 9 := by unfold want3; rw [if_neg hd]
    have hkp : keepsP l order = (0, false, 9) := by
      unfold keepsP; rw [if_pos hd]
    unfold lawKeeps
    rw [hw, hkp]; simp

theorem mem_compactUpTo (d : Array Nm) (y : Nm) : ∀ m, y ∈ Lib.compactUpTo d m ↔ ∃ j, j < m ∧ d[j]! = y
  | 0 => by simp [Lib.compactUpTo]
  | m + 1 => by
    rw [Lib.compactUpTo_succ, List.mem_append, mem_compactUpTo d y m]
    constructor
    · rintro (⟨j, h1, h2⟩ | h)
      · exact ⟨j, by omega, h2⟩
      · split at h
        · rw [List.mem_singleton] at h; exact ⟨m, by omega, h.symm⟩
        · cases h
    · rintro ⟨j, h1, h2⟩
      by_cases q : j < m
      · exact .inl ⟨j, q, h2⟩
      · have : j = m := by omega
        subst this
        by_cases hk : Lib.keeps d j = true
        · right; rw [if_pos hk, List.mem_singleton]; exact h2.symm
        · left
          have hk' : ¬ (j = 0 ∨ d[j]! ≠ d[j - 1]!) := by
            intro h; exact hk (by unfold Lib.keeps; exact decide_eq_true h)
          have h0 : j ≠ 0 := fun h => hk' (.inl h)
          have h3 : d[j]! = d[j - 1]! := by
            by_cases e : d[j]! = d[j - 1]!
            · exact e
            · exact absurd (.inr e) hk'
          exact ⟨j - 1, by omega, h3 ▸ h2⟩

theorem mem_compact {zs : List Nm} {y : Nm} : y ∈ Lib.compact zs ↔ y ∈ zs := by
  unfold Lib.compact
  rw [mem_compactUpTo, List.mem_iff_getElem]
  constructor
  · rintro ⟨j, h1, h2⟩
    exact ⟨j, h1, by simpa [h1] using h2⟩
  · rintro ⟨j, h1, h2⟩
    exact ⟨j, h1, by simpa [h1] using h2⟩

theorem mem_unitsP {l : List Rel} {y : Nm} : y ∈ unitsP l ↔ y ∈ allNames l := by
  unfold unitsP; rw [mem_compact, mem_sortNm]

theorem law_true (xs : List Seen) (order : List Nm) : lawKeeps (xs.map mk) order = true := by
  refine law_plain _ _ ?_ fun y => mem_unitsP
  intro r hr
  obtain ⟨s, _, rfl⟩ := List.mem_map.1 hr
  exact mk_ne s

end Go.Proofs.Ytdhbclplondmjaa.C

/- The arguments of the law on Keeps, read into the abstract memory. -/
set_option linter.unusedVariables false
set_option linter.unusedSimpArgs false
set_option maxRecDepth 100000
namespace Go.Proofs.Ytdhbclplondmjaa.C
open Go.RowKit Go.ChangeShapes Go.WideShapes Go.ChangeAt

theorem cells9 : Try.prog.cellsOf 9 = 1 := by kernel_rfl
theorem cells66 : Try.prog.cellsOf 66 = 3 := by kernel_rfl
theorem bytes9 : Try.prog.bytesOf 9 = 16 := by kernel_rfl
theorem bytes66 : Try.prog.bytesOf 66 = 3 := by kernel_rfl

/-- What an argument is in the abstract memory: block k holds its elements. -/
def ArgAt (W : World) (k sz : Nat) (v : Value) (es : List (List Value)) : Prop :=
  ∃ (va : Value) (o : Option Loc), (∀ μ : Mu, μ k = o → VR μ va v) ∧
    (∀ l, o = some l → l.sz = sz ∧ l.blk < W.heap.size ∧ ∀ (i : Nat) (u : Value), es.flatten[i]? = some u → ∃ v', W.cell? ⟨l.blk, l.sh + i, none⟩ = some v' ∧ ∀ μ : Mu, VR μ u v') ∧
    ∀ H : Heap, H[k]? = some (.row sz es.flatten false true) → Sl H sz va es

theorem cell_in {w : World} {a : Addr} {v : Value} (h : w.cell? a = some v) : a.block < w.heap.size := by
  rcases Nat.lt_or_ge a.block w.heap.size with h' | h'
  · exact h'
  · simp [World.cell?, Array.getElem?_eq_none h'] at h

theorem argAt_nil (W : World) (k sz : Nat) : ArgAt W k sz (.slice none 0 0) [] :=
  ⟨.slice none 0 0, none, fun _ _ => .nilSlice, (fun l h => by cases h), fun H _ => ⟨none, 0, rfl, Nat.le_refl _, .inl rfl⟩⟩
theorem argAt_zero (W : World) (k sz : Nat) (a : Addr) : ArgAt W k sz (.slice (some a) 0 0) [] :=
  ⟨.slice (some a) 0 0, none, fun _ _ => .sliceZ a a, (fun l h => by cases h), fun H _ => ⟨some a, 0, rfl, Nat.le_refl _, .inl rfl⟩⟩

theorem argAt_some {W : World} {k sz b off cap : Nat} {es : List (List Value)} (hs : ∀ e ∈ es, e.length = sz) (hb : b < W.heap.size) (hl : es.length ≤ cap) (hc : cap ≤ maxLen)
    (h : ∀ (i : Nat) (u : Value), es.flatten[i]? = some u → ∃ v', W.cell? ⟨b, off + i, none⟩ = some v' ∧ ∀ μ : Mu, VR μ u v') :
    ArgAt W k sz (.slice (some ⟨b, off, none⟩) es.length cap) es := by
  refine ⟨.slice (some ⟨k, 0, none⟩) es.length unk, some ⟨b, off, off + 0 + cap * sz, sz⟩, fun μ hm => ?_, fun l h1 => ?_, fun H hH => ?_⟩
  · have := VR.slice (μ := μ) (b := k) (o := 0) (n := es.length) (c := unk) (c' := cap) hm hl (.inl rfl) (Nat.le_refl _)
    simpa using this
  · cases h1
    exact ⟨rfl, hb, h⟩
  · refine ⟨_, _, rfl, ?_, Cells.row hs hH⟩
    unfold unk; unfold maxLen at hc; omega

theorem arg_strs {H : Type} {enc : TypeId × Value → H} {W : World} {v : Value} {fuel k : Nat} {x : DataW H × List MemPlace}
    (hf : DataW.trod enc Try.prog W 0 (fun _ => true) true fuel 37 [v] = some x) :
    ∃ xs : List Nm, ArgAt W k 1 v (strs xs) ∧ (xs = [] ∨ ∃ el sp, x.1 = .slice el sp ∧ el.length = xs.length) := by
  rcases open_strings Try.underlying37 Try.underlying9 cells9 hf with ⟨hcs, hx⟩ | ⟨a, len, cap, ss, hcs, _, hl, hm, hz, hx, hcell, _⟩
  · simp at hcs
    subst hcs
    exact ⟨[], argAt_nil W k 1, .inl rfl⟩
  · simp at hcs
    subst hcs
    subst hx
    simp only [if_true] at hz
    rcases Nat.eq_zero_or_pos cap with h0 | h0
    · subst h0
      have : len = 0 := by omega
      subst this
      exact ⟨[], argAt_zero W k 1 a, .inl rfl⟩
    · have hspot : a.spot = none := by simpa [Addr.add] using World.cell?_spot (hcell 0 (by omega))
      obtain ⟨b, off, spot⟩ := a
      simp only at hspot
      subst hspot
      have hlen : ((ss.take len).map (·.data.toList)).length = len := by simp; omega
      have hb : b < W.heap.size := by simpa [add_plain] using cell_in (hcell 0 (by omega))
      refine ⟨(ss.take len).map (·.data.toList), ?_, .inr ⟨_, _, rfl, by simp [ChangeShapes.strs]⟩⟩
      have key := argAt_some (W := W) (k := k) (sz := 1) (b := b) (off := off) (cap := cap) (es := strs ((ss.take len).map (·.data.toList))) (strs_sz _) hb (by rw [strs_len, hlen]; exact hl) hm (fun i u hu => by
        rw [strs_flat, List.getElem?_map, List.getElem?_map] at hu
        obtain ⟨y, hy, rfl⟩ := Option.map_eq_some_iff.1 hu
        obtain ⟨s, hs, rfl⟩ := Option.map_eq_some_iff.1 hy
        have hi : i < len := by have := (List.getElem?_eq_some_iff.1 hs).1; simp at this; omega
        rw [List.getElem?_take_of_lt hi] at hs
        refine ⟨.string s, ?_, fun μ => ?_⟩
        · have := hcell i (by omega)
          rw [add_plain] at this
          rw [this]; simp [List.getD, hs]
        · have e : (⟨s.data.toList.toArray⟩ : ByteArray) = s := by simp
          show VR μ (Value.string ⟨s.data.toList.toArray⟩) _
          rw [e]; exact .string s)
      rw [strs_len, hlen] at key
      exact key

theorem get3 {cs : List Value} (h : cs.length = 3) {a b c : Value} (h0 : (cs.drop 0).take 1 = [a]) (h1 : (cs.drop 1).take 1 = [b]) (h2 : (cs.drop 2).take 1 = [c]) : cs = [a, b, c] := by
  match cs, h with
  | [x, y, z], _ => simp at h0 h1 h2; simp [h0, h1, h2]

theorem cells5 : Try.prog.cellsOf 5 = 1 := by kernel_rfl

theorem seens_flat : ∀ (xs : List Seen) (i : Nat) (u : Value), (seens xs).flatten[i]? = some u → ∃ (h : i / 3 < xs.length) (e : List Value), e = [u8 xs[i / 3].k, u8 xs[i / 3].u, u8 xs[i / 3].l] ∧ e[i % 3]? = some u
  | [], i, u, h => by simp [seens] at h
  | x :: xs, i, u, h => by
    have h' : ([u8 x.k, u8 x.u, u8 x.l] ++ (seens xs).flatten)[i]? = some u := h
    rcases Nat.lt_or_ge i 3 with q | q
    · rw [List.getElem?_append_left (by simpa using q)] at h'
      have e1 : i / 3 = 0 := by omega
      have e2 : i % 3 = i := by omega
      refine ⟨by simp; omega, _, rfl, ?_⟩
      simp only [e1, e2]
      simpa using h'
    · rw [List.getElem?_append_right (by simpa using q)] at h'
      obtain ⟨g, e, he, hu⟩ := seens_flat xs (i - 3) u (by simpa using h')
      have e1 : i / 3 = (i - 3) / 3 + 1 := by omega
      have e2 : i % 3 = (i - 3) % 3 := by omega
      refine ⟨by simp; omega, e, ?_, by rw [e2]; exact hu⟩
      rw [he]
      simp [e1]

theorem arg_seens {H : Type} {enc : TypeId × Value → H} {W : World} {v : Value} {fuel k : Nat} {x : DataW H × List MemPlace}
    (hf : DataW.trod enc Try.prog W 0 (fun _ => true) true fuel 22 [v] = some x) :
    ∃ xs : List Seen, ArgAt W k 3 v (seens xs) ∧ (∀ s ∈ xs, s.k < 256 ∧ s.u < 256 ∧ s.l < 256) ∧ (xs = [] ∨ ∃ el sp, x.1 = .slice el sp ∧ el.length = xs.length) := by
  rcases Go.Deep.open_slice Try.underlying22 hf with ⟨hcs, hx⟩ | ⟨a, len, cap, m, n, D, Pl, hcs, _, hl, hm, hz, hx, hel⟩
  · simp at hcs
    subst hcs
    exact ⟨[], argAt_nil W k 3, by simp, .inl rfl⟩
  · simp at hcs
    subst hcs
    subst hx
    simp only [if_true] at hz
    subst hz
    rw [cells66] at hel
    have each : ∀ i, i < m → ∃ s : Seen, (s.k < 256 ∧ s.u < 256 ∧ s.l < 256) ∧ W.cell? (a.add (i * 3)) = some (u8 s.k) ∧ W.cell? ((a.add (i * 3)).add 1) = some (u8 s.u) ∧ W.cell? ((a.add (i * 3)).add 2) = some (u8 s.l) := fun i hi => by
      obtain ⟨cs, h1, h2⟩ := hel i hi
      obtain ⟨_, hlen, hc⟩ := World.cells?_some h1
      obtain ⟨y0, y1, y2, n', _, _, t0, t1, t2⟩ := Go.Deep.trod_struct3 Try.underlying66 h2
      simp only [cells5] at t0 t1 t2
      obtain ⟨k0, e0, _, w0⟩ := DataW.trod_int Try.underlying5 t0
      obtain ⟨k1, e1, _, w1⟩ := DataW.trod_int Try.underlying5 t1
      obtain ⟨k2, e2, _, w2⟩ := DataW.trod_int Try.underlying5 t2
      have hcs := get3 hlen e0 e1 e2
      subst hcs
      simp only [Lit.wf, Bool.and_eq_true, decide_eq_true_eq, show IntKind.u8.min = 0 from rfl, show IntKind.u8.max = 255 from rfl] at w0 w1 w2
      have b0 : 0 ≤ k0 ∧ k0 < 256 := by omega
      have b1 : 0 ≤ k1 ∧ k1 < 256 := by omega
      have b2 : 0 ≤ k2 ∧ k2 < 256 := by omega
      have f0 := hc 0 (by omega)
      have f1 := hc 1 (by omega)
      have f2 := hc 2 (by omega)
      refine ⟨⟨k0.toNat, k1.toNat, k2.toNat⟩, ⟨by show k0.toNat < 256; omega, by show k1.toNat < 256; omega, by show k2.toNat < 256; omega⟩, ?_, ?_, ?_⟩
      · have e : (a.add (i * 3)).add 0 = a.add (i * 3) := by simp [Addr.add]
        rw [← e, f0]; simp [u8, Int.toNat_of_nonneg b0.1]
      · rw [f1]; simp [u8, Int.toNat_of_nonneg b1.1]
      · rw [f2]; simp [u8, Int.toNat_of_nonneg b2.1]
    have : Inhabited Seen := ⟨⟨0, 0, 0⟩⟩
    obtain ⟨S, hS⟩ := Go.Deep.choose_lt each
    rcases Nat.eq_zero_or_pos m with h0 | h0
    · subst h0
      have : len = 0 := by omega
      subst this
      exact ⟨[], argAt_zero W k 3 a, by simp, .inl rfl⟩
    · have hc0 := (hS 0 h0).2.1
      have hspot : a.spot = none := by simpa [Addr.add] using World.cell?_spot hc0
      obtain ⟨b, off, spot⟩ := a
      simp only at hspot
      subst hspot
      have hlen : ((List.range len).map S).length = len := by simp
      have hb : b < W.heap.size := by simpa [add_plain] using cell_in hc0
      refine ⟨(List.range len).map S, ?_, ?_, .inr ⟨_, _, rfl, by simp⟩⟩
      · have key := argAt_some (W := W) (k := k) (sz := 3) (b := b) (off := off) (cap := m) (es := seens ((List.range len).map S)) (by intro e he; obtain ⟨s, _, rfl⟩ := List.mem_map.1 he; rfl) hb (by rw [seens_len, hlen]; exact hl) hm (fun i u hu => by
          obtain ⟨g, e, he, hu⟩ := seens_flat _ i u hu
          rw [hlen] at g
          simp only [List.getElem_map, List.getElem_range] at he
          obtain ⟨_, q0, q1, q2⟩ := hS (i / 3) (by omega)
          rw [add_plain] at q0 q1 q2
          rw [add_plain] at q1 q2
          subst he
          have hi : i = i / 3 * 3 + i % 3 := by omega
          have h3 : i % 3 < 3 := by omega
          generalize i % 3 = r at *
          generalize i / 3 = q at *
          match r, h3 with
          | 0, _ => 
            simp at hu; subst hu
            exact ⟨_, by rw [hi]; exact q0, fun μ => .int _ _⟩
          | 1, _ =>
            simp at hu; subst hu
            exact ⟨_, by rw [hi]; rw [← Nat.add_assoc]; exact q1, fun μ => .int _ _⟩
          | 2, _ =>
            simp at hu; subst hu
            exact ⟨_, by rw [hi]; rw [← Nat.add_assoc]; exact q2, fun μ => .int _ _⟩)
        rw [seens_len, hlen] at key
        exact key
      · intro s hs
        obtain ⟨i, hi, rfl⟩ := List.mem_map.1 hs
        exact (hS i (by have := List.mem_range.1 hi; omega)).1

end Go.Proofs.Ytdhbclplondmjaa.C

/- From a run of a law in the abstract machine to calls of the program: a list of described relations, and plain values. -/
set_option linter.unusedVariables false
set_option linter.unusedSimpArgs false
set_option maxRecDepth 100000
namespace Go.Proofs.Ytdhbclplondmjaa
open Go.ChangeShapes Go.WideShapes Go.ChangeAt Go.RowKit C

theorem ownOk : ownKnob Try.prog.godebug = none := by kernel_rfl
theorem laidOutOk : laidOutB Try.prog = true := by kernel_rfl
theorem shutB {H : Type} {enc : TypeId × Value → H} {W' : World} {bb : Nat} {sp : Nat → Bool} {hd : Bool} (c : Bool) : DataW.Trod enc Try.prog W' bb sp hd 4 (.bool c) (.lit (.bool c)) [] :=
  ⟨1, by simp [DataW.trod, Value.cells, Try.underlying4]⟩
theorem okB {W' : World} (c : Bool) : Value.okWide Try.prog W' .any 0 4 (.bool c) := by
  simp [Value.okWide, Try.underlying4, Cell.okWide, Cell.ok]

theorem seens_calls {W : World} {f : FuncId} {v0 : Value} {xs : List Seen} {ss : List Value} (hfl : plains ss = true) (h0 : ArgAt W 0 3 v0 (seens xs))
    (hb : ∀ (H : C.Heap) (va : Value), Sl H 3 va (seens xs) → ∃ r H1, big tab f (va :: ss) H = some (r, H1) ∧ r = .bool true) :
    Calls Try.prog f (v0 :: ss).toArray W fun e W' => e = .returned (.bool true) ∧ Below W.heap.size W W' := by
  obtain ⟨va, oa, ra, ca, sa⟩ := h0
  let H : C.Heap := [.row 3 (seens xs).flatten false true]
  let μ : Mu := fun b => if b = 0 then oa else none
  obtain ⟨r, H1, hb, hr⟩ := hb H va (sa H rfl)
  subst hr
  obtain ⟨n, hn⟩ := big_some.1 hb
  have hH : HR W.heap.size (fun _ => False) μ H W := by
    refine ⟨?_, ?_, ?_, ?_, fun k h => h.elim, Nat.le_refl _⟩
    · intro b sz cs l hb
      match b with
      | 0 => simp [H] at hb
      | b + 1 => simp [H] at hb
    · intro b sz cs l hb hl
      match b with
      | 0 =>
        simp [H] at hb
        obtain ⟨rfl, rfl⟩ := hb
        obtain ⟨e1, e2, e3⟩ := ca l hl
        exact ⟨e1, e2, fun i u hu => by obtain ⟨v', q1, q2⟩ := e3 i u hu; exact ⟨v', q1, q2 μ⟩⟩
      | b + 1 => simp [H] at hb
    · intro b es l hb
      match b with
      | 0 => simp [H] at hb
      | b + 1 => simp [H] at hb
    · intro b b' k k' l l' hb _ hk
      match b with
      | 0 => simp [H] at hb; subst hb; simp [Blk.mine] at hk
      | b + 1 => simp [H] at hb
  have hfree : Free μ H.length H1.length := by
    intro b h1 _
    have : 1 ≤ b := h1
    show (if b = 0 then oa else none) = none
    rw [if_neg (by omega)]
  have hs := (callC_sound fitsB n).calls f (va :: ss) H _ H1 hn W.heap.size (fun _ => False) μ W (v0 :: ss) hH hfree (.cons (ra μ rfl) (plains_refl hfl))
  refine hs.mono fun e W' ⟨v', μ', he, hg, hv⟩ => ?_
  subst he
  cases hv
  exact ⟨rfl, hg.fr.below⟩

theorem nm_of (s : ByteArray) : (Value.string s) = str s.data.toList := by
  have e : (⟨s.data.toList.toArray⟩ : ByteArray) = s := by simp
  show _ = Value.string _
  rw [e]

end Go.Proofs.Ytdhbclplondmjaa

/- Blocks that the call owns: slots. -/
set_option linter.unusedVariables false
set_option linter.unusedSimpArgs false
namespace Go.Proofs.Ytdhbclplondmjaa.C
open Go.RowKit
variable {T : Tab}

/-- A slot: no block yet, or a block and what it holds. -/
abbrev OSlots := List (Option (Nat × Blk))

structure Own (lo : Nat) (H : Heap) (S : OSlots) : Prop where
  at_ : ∀ (j p : Nat) (X : Blk), S[j]? = some (some (p, X)) → lo ≤ p ∧ H[p]? = some X
  inj : ∀ (i j p : Nat) (X : Blk) (q : Nat) (Y : Blk), S[i]? = some (some (p, X)) → S[j]? = some (some (q, Y)) → i ≠ j → p ≠ q

variable {lo : Nat} {H : Heap} {S : OSlots}

theorem Own.nil (lo : Nat) (H : Heap) : Own lo H [] := ⟨fun _ _ _ h => by simp at h, fun _ _ _ _ _ _ h => by simp at h⟩
theorem Own.lt (o : Own lo H S) {j p : Nat} {X : Blk} (h : S[j]? = some (some (p, X))) : p < H.length := (List.getElem?_eq_some_iff.1 (o.at_ j p X h).2).1
theorem Own.get (o : Own lo H S) {j p : Nat} {X : Blk} (h : S[j]? = some (some (p, X))) : H[p]? = some X := (o.at_ j p X h).2
theorem Own.lo_le (o : Own lo H S) {j p : Nat} {X : Blk} (h : S[j]? = some (some (p, X))) : lo ≤ p := (o.at_ j p X h).1

theorem Own.of {H' : Heap} {S' : OSlots} (o : Own lo H S) (f : Nat → Nat) (hf : ∀ j p X, S'[j]? = some (some (p, X)) → S[f j]? = some (some (p, X)) ∧ H'[p]? = H[p]?) (hi : ∀ i j, f i = f j → i = j) : Own lo H' S' where
  at_ j p X h := by
    obtain ⟨h1, h2⟩ := hf j p X h
    exact ⟨(o.at_ _ p X h1).1, h2.trans (o.at_ _ p X h1).2⟩
  inj i j p X q Y h1 h2 hne := o.inj (f i) (f j) p X q Y (hf i p X h1).1 (hf j q Y h2).1 (fun e => hne (hi i j e))

/-- A new block that nobody asks for. -/
theorem Own.snoc (o : Own lo H S) (X : Blk) : Own lo (H ++ [X]) S :=
  o.of id (fun j p Y h => ⟨h, by rw [List.getElem?_append_left (o.lt h)]⟩) (fun _ _ h => h)

theorem Own.drop (o : Own lo H S) (n : Nat) : Own lo H (S.drop n) :=
  o.of (fun j => n + j) (fun j p Y h => ⟨by rw [List.getElem?_drop] at h; exact h, rfl⟩) (fun _ _ h => by omega)
theorem Own.take (o : Own lo H S) (n : Nat) : Own lo H (S.take n) :=
  o.of id (fun j p Y h => by
    rw [List.getElem?_take] at h
    split at h
    · exact ⟨h, rfl⟩
    · cases h) (fun _ _ h => h)

theorem Own.set_same {j p : Nat} {X Y : Blk} (o : Own lo H S) (h : S[j]? = some (some (p, X))) : Own lo (H.set p Y) (S.set j (some (p, Y))) where
  at_ i q Z hz := by
    by_cases e : j = i
    · subst e
      rw [List.getElem?_set_self (List.getElem?_eq_some_iff.1 h).1] at hz
      simp only [Option.some.injEq, Prod.mk.injEq] at hz
      obtain ⟨rfl, rfl⟩ := hz
      exact ⟨o.lo_le h, by rw [List.getElem?_set_self (o.lt h)]⟩
    · rw [List.getElem?_set_ne e] at hz
      have := o.inj j i p X q Z h hz e
      exact ⟨o.lo_le hz, by rw [List.getElem?_set_ne this]; exact o.get hz⟩
  inj i k q Z r V h1 h2 hne := by
    have key : ∀ (i q : Nat) (Z : Blk), (S.set j (some (p, Y)))[i]? = some (some (q, Z)) → ∃ Z', S[i]? = some (some (q, Z')) := by
      intro i q Z hz
      by_cases e : j = i
      · subst e
        rw [List.getElem?_set_self (List.getElem?_eq_some_iff.1 h).1] at hz
        simp only [Option.some.injEq, Prod.mk.injEq] at hz
        obtain ⟨rfl, rfl⟩ := hz
        exact ⟨X, h⟩
      · rw [List.getElem?_set_ne e] at hz; exact ⟨Z, hz⟩
    obtain ⟨Z', z1⟩ := key i q Z h1
    obtain ⟨V', v1⟩ := key k r V h2
    exact o.inj i k q Z' r V' z1 v1 hne

/-- The block of a slot is a new one; the slots' other blocks are as they were. -/
theorem Own.put {H' : Heap} {j p : Nat} {X : Blk} (o : Own lo H S) (hj : j < S.length) (hlo : lo ≤ p) (hp : H'[p]? = some X)
    (hs : ∀ i q Y, i ≠ j → S[i]? = some (some (q, Y)) → q ≠ p ∧ H'[q]? = some Y) : Own lo H' (S.set j (some (p, X))) where
  at_ i q Z hz := by
    by_cases e : j = i
    · subst e
      rw [List.getElem?_set_self hj] at hz
      simp only [Option.some.injEq, Prod.mk.injEq] at hz
      obtain ⟨rfl, rfl⟩ := hz
      exact ⟨hlo, hp⟩
    · rw [List.getElem?_set_ne e] at hz
      exact ⟨o.lo_le hz, (hs i q Z (fun h => e h.symm) hz).2⟩
  inj i k q Z r V h1 h2 hne := by
    by_cases e1 : j = i
    · subst e1
      rw [List.getElem?_set_self hj] at h1
      simp only [Option.some.injEq, Prod.mk.injEq] at h1
      obtain ⟨rfl, rfl⟩ := h1
      rw [List.getElem?_set_ne hne] at h2
      exact fun e => (hs k r V (fun h => hne h.symm) h2).1 e.symm
    · rw [List.getElem?_set_ne e1] at h1
      by_cases e2 : j = k
      · subst e2
        rw [List.getElem?_set_self hj] at h2
        simp only [Option.some.injEq, Prod.mk.injEq] at h2
        obtain ⟨rfl, rfl⟩ := h2
        exact (hs i q Z (fun h => e1 h.symm) h1).1
      · rw [List.getElem?_set_ne e2] at h2
        exact o.inj i k q Z r V h1 h2 hne

theorem Own.new {j : Nat} (o : Own lo H S) (hj : j < S.length) (hlo : lo ≤ H.length) (X : Blk) : Own lo (H ++ [X]) (S.set j (some (H.length, X))) :=
  o.put hj hlo List.getElem?_concat_length fun i q Y _ h => by
    have := o.lt h
    exact ⟨by omega, by rw [List.getElem?_append_left this]; exact o.get h⟩

theorem Own.none {n : Nat} (o : Own lo H S) : Own lo H (S ++ List.replicate n none) :=
  o.of id (fun j p Y h => by
    rcases Nat.lt_or_ge j S.length with q | q
    · rw [List.getElem?_append_left q] at h; exact ⟨h, rfl⟩
    · rw [List.getElem?_append_right q, List.getElem?_replicate] at h
      split at h <;> simp at h) (fun _ _ h => h)

theorem Own.push (o : Own lo H S) (hlo : lo ≤ H.length) (X : Blk) : Own lo (H ++ [X]) (S ++ [some (H.length, X)]) := by
  have := (o.none (n := 1)).new (j := S.length) (by simp) hlo X
  rw [show S ++ List.replicate 1 Option.none = S ++ [Option.none] from rfl, List.set_append_right _ _ (Nat.le_refl _)] at this
  simpa using this

/-- A slice under way whose block is a slot's. -/
def AccS (S : OSlots) (j sz : Nat) (v : Value) (es : List (List Value)) : Prop :=
  (∀ e ∈ es, e.length = sz) ∧ ((es = [] ∧ v = .slice none 0 0 ∧ S[j]? = some none) ∨ ∃ p, v = .slice (some ⟨p, 0, none⟩) es.length unk ∧ S[j]? = some (some (p, .row sz es.flatten true true)))

theorem AccS.nil {j sz : Nat} (h : S[j]? = some none) : AccS S j sz (.slice none 0 0) [] := ⟨by simp, .inl ⟨rfl, rfl, h⟩⟩
theorem AccS.set_ne {j i sz : Nat} {v : Value} {es : List (List Value)} {x : Option (Nat × Blk)} (h : AccS S j sz v es) (hne : i ≠ j) : AccS (S.set i x) j sz v es := by
  obtain ⟨h1, h2⟩ := h
  refine ⟨h1, ?_⟩
  rw [List.getElem?_set_ne hne]
  exact h2
theorem AccS.sl {j sz : Nat} {v : Value} {es : List (List Value)} (h : AccS S j sz v es) (o : Own lo H S) (hl : es.length ≤ unk) : Sl H sz v es := by
  obtain ⟨hs, ⟨rfl, rfl, _⟩ | ⟨p, rfl, h1⟩⟩ := h
  · exact Sl.nil _ _
  · exact ⟨_, _, rfl, hl, Cells.row hs (o.get h1)⟩

theorem own_app {t e : TypeId} {i ei : TI} (ty : SliceTy T t e i ei) {j : Nat} {v : Value} {es xs : List (List Value)} {a2 : Option Addr} {c2 : Nat} (o : Own lo H S) (h : AccS S j ei.size v es)
    (hsrc : srcCells H a2 xs.length ei.size = some xs.flatten) (hx : ∀ e ∈ xs, e.length = ei.size ∧ e.all oneCell = true) (hb : (es.length + xs.length) * ei.bytes ≤ 2 ^ 40) (hn : es.length + xs.length ≤ 2 ^ 40) (hlo : lo ≤ H.length) (hne : xs ≠ []) :
    ∃ v1 H1 p1, vAppend T H t v (.slice a2 xs.length c2) = some (v1, H1) ∧ Own lo H1 (S.set j (some (p1, .row ei.size (es ++ xs).flatten true true))) ∧
      AccS (S.set j (some (p1, .row ei.size (es ++ xs).flatten true true))) j ei.size v1 (es ++ xs) ∧ H.length ≤ H1.length ∧ (∀ H0 : Heap, H0.length = lo → Ext H0 H → Ext H0 H1) := by
  obtain ⟨hs, hv⟩ := h
  have hj : j < S.length := by
    rcases hv with ⟨_, _, h⟩ | ⟨_, _, h⟩ <;> exact (List.getElem?_eq_some_iff.1 h).1
  obtain ⟨p, hacc, hp⟩ : ∃ p, Acc H lo ei.size v es p ∧ ∀ i q Y, i ≠ j → S[i]? = some (some (q, Y)) → q ≠ p := by
    rcases hv with ⟨rfl, rfl, _⟩ | ⟨p, rfl, h1⟩
    · exact ⟨H.length, Acc.nil _ _ _ _, fun i q Y _ h => by have := o.lt h; omega⟩
    · exact ⟨p, ⟨hs, .inr ⟨rfl, o.lo_le h1, o.get h1⟩⟩, fun i q Y hi h => o.inj i j q Y p _ h h1 hi⟩
  obtain ⟨v1, H1, p1, r1, r2, r3⟩ := push_app ty hacc hsrc hx hb hn hlo (c2 := c2)
  obtain ⟨q1, ⟨q2, _⟩ | ⟨q2, q3, q4⟩⟩ := r2
  · simp [hne] at q2
  · have own := o.put (X := .row ei.size (es ++ xs).flatten true true) hj q3 q4 (fun i q Y hi h => by
      have h1 := o.lt h
      have h2 := hp i q Y hi h
      refine ⟨?_, by rw [r3.same q h1 (.inr h2)]; exact o.get h⟩
      rcases r3.at_ with e | e
      · rw [e]; exact h2
      · omega)
    exact ⟨v1, H1, p1, r1, own, ⟨q1, .inr ⟨p1, q2, List.getElem?_set_self hj⟩⟩, r3.len, r3.ext⟩

/-- One cell is read. -/
theorem read_cell {p k sz : Nat} {cs : List Value} {own : Bool} {v : Value} (h : H[p]? = some (.row sz cs own true)) (hk : cs[k]? = some v) : readCells H p k 1 = some [v] := by
  have hlt := (List.getElem?_eq_some_iff.1 hk).1
  simp only [readCells, h]
  rw [if_pos (by omega)]
  congr 1
  rw [List.drop_eq_getElem_cons hlt, List.take_succ_cons, List.take_zero]
  rw [List.getElem?_eq_getElem hlt] at hk
  simpa using hk

/-- One cell is set. -/
theorem ev_store1 {s : List Value} {t : TypeId} {a v : Operand} {i : TI} {p k sz : Nat} {cs : List Value} {u : Value} (ha : ev s a = .pointer (some ⟨p, k, none⟩)) (hv : ev s v = u) (hT : T.T t = some i) (hi : i.size = 1) (hc : cellsOf u = [u]) (h1 : oneCell u = true)
    (hb : H[p]? = some (.row sz cs true true)) (hk : k < cs.length) : opEval T s H (.store t a v) = some (undef, H.set p (.row sz (cs.set k u) true true)) := by
  have h2 : k + 1 ≤ cs.length := hk
  simp only [opEval, vStore, hT, ha, hv, Option.bind_eq_bind, Option.bind_some, hc, hi, List.length_cons, List.length_nil, Nat.zero_add, if_true, writeCells, List.all_cons, List.all_nil, h1, Bool.and_self, hb, h2, setCells, Option.map_some]

end Go.Proofs.Ytdhbclplondmjaa.C

/- Memory as a list of things that the call owns. -/
set_option linter.unusedVariables false
set_option linter.unusedSimpArgs false
namespace Go.Proofs.Ytdhbclplondmjaa.C
open Go.RowKit
variable {T : Tab}

/-- What a call owns: a slice with its elements, a variable with its cells, a map. -/
inductive Th where
  | sl (sz : Nat) (v : Value) (es : List (List Value))
  | box (p sz : Nat) (cs : List Value)
  | map (m : Nat) (es : List (Value × Value))

def plainA (a : Option Addr) : Prop := a = none ∨ ∃ b o, a = some ⟨b, o, none⟩

/-- A slice whose cells lie in a block of one's own, or that has none. -/
def Slo (sz : Nat) (v : Value) (es : List (List Value)) (x : Option (Nat × Blk)) : Prop :=
  (∀ e ∈ es, e.length = sz) ∧ es.length ≤ 2 ^ 40 ∧
    ((es = [] ∧ ∃ a, plainA a ∧ v = .slice a 0 0) ∨
      ∃ p o c cs, x = some (p, .row sz cs true true) ∧ v = .slice (some ⟨p, o, none⟩) es.length c ∧ (c = unk ∨ (c = es.length ∧ es ≠ [])) ∧ o + es.length * sz ≤ cs.length ∧ (cs.drop o).take (es.length * sz) = es.flatten)

def Th.Is : Th → Option (Nat × Blk) → Prop
  | .sl sz v es, x => Slo sz v es x
  | .box p sz cs, x => x = some (p, .row sz cs true true)
  | .map m es, x => x = some (m, .map es)

structure Mem (H0 H : Heap) (L : List Th) : Prop where
  ext : Ext H0 H
  own : ∃ S : OSlots, S.length = L.length ∧ Own H0.length H S ∧ ∀ (j : Nat) (t : Th), L[j]? = some t → ∃ x, S[j]? = some x ∧ t.Is x

variable {H0 H H1 : Heap} {L L1 : List Th}

theorem Mem.start (H : Heap) : Mem H H [] := ⟨Ext.refl _, [], rfl, Own.nil _ _, fun j t h => by simp at h⟩

theorem Mem.sub (h : Mem H0 H L) (f : Nat → Nat) (hi : ∀ i j, f i = f j → i = j) (hf : ∀ j t, L1[j]? = some t → L[f j]? = some t) : Mem H0 H L1 := by
  obtain ⟨he, S, hl, ho, hs⟩ := h
  refine ⟨he, (List.range L1.length).map (fun j => S.getD (f j) none), by simp, ?_, ?_⟩
  · refine ho.of f ?_ hi
    intro j p X h
    rw [List.getElem?_map, Option.map_eq_some_iff] at h
    obtain ⟨k, hk, h⟩ := h
    have hj := (List.getElem?_eq_some_iff.1 hk).1
    have hkj : k = j := by rw [List.getElem?_range (by simpa using hj)] at hk; simpa using hk.symm
    subst hkj
    refine ⟨?_, rfl⟩
    rw [List.getD_eq_getElem?_getD] at h
    cases e : S[f k]? with
    | none => rw [e] at h; simp at h
    | some y => rw [e] at h; simp at h; rw [h]
  · intro j t h
    have hj := (List.getElem?_eq_some_iff.1 h).1
    obtain ⟨x, hx, ht⟩ := hs _ _ (hf j t h)
    exact ⟨x, by rw [List.getElem?_map, List.getElem?_range hj]; simp [List.getD_eq_getElem?_getD, hx], ht⟩

theorem Mem.drop (h : Mem H0 H L) (n : Nat) : Mem H0 H (L.drop n) :=
  h.sub (fun j => n + j) (fun i j e => by omega) (fun j t e => by rw [List.getElem?_drop] at e; exact e)
theorem Mem.tail {t : Th} (h : Mem H0 H (t :: L)) : Mem H0 H L := h.drop 1
theorem Mem.erase (h : Mem H0 H L) (n : Nat) : Mem H0 H (L.eraseIdx n) :=
  h.sub (fun j => if j < n then j else j + 1) (fun i j e => by
    by_cases a : i < n <;> by_cases b : j < n <;> simp only [a, b, if_true, if_false] at e <;> omega) (fun j t e => by
    rw [List.getElem?_eraseIdx] at e
    by_cases q : j < n
    · rw [if_pos q] at e ⊢; exact e
    · rw [if_neg q] at e ⊢; exact e)
theorem Mem.swap {a b : Th} (h : Mem H0 H (a :: b :: L)) : Mem H0 H (b :: a :: L) :=
  h.sub (fun j => if j = 0 then 1 else if j = 1 then 0 else j) (fun i j e => by
    repeat' split at e
    all_goals omega) (fun j t e => by
    match j with
    | 0 => exact e
    | 1 => exact e
    | j + 2 => exact e)

theorem Mem.get_box (h : Mem H0 H L) {j p sz : Nat} {cs : List Value} (e : L[j]? = some (.box p sz cs)) : H[p]? = some (.row sz cs true true) := by
  obtain ⟨he, S, hl, ho, hs⟩ := h
  obtain ⟨x, hx, ht⟩ := hs _ _ e
  cases ht
  exact ho.get hx
theorem Mem.get_map (h : Mem H0 H L) {j m : Nat} {es : List (Value × Value)} (e : L[j]? = some (.map m es)) : H[m]? = some (.map es) := by
  obtain ⟨he, S, hl, ho, hs⟩ := h
  obtain ⟨x, hx, ht⟩ := hs _ _ e
  cases ht
  exact ho.get hx

theorem Slo.len {sz : Nat} {v : Value} {es : List (List Value)} {x : Option (Nat × Blk)} (h : Slo sz v es x) : es.length ≤ 2 ^ 40 := h.2.1

theorem cells_of {p o sz : Nat} {cs : List Value} {es : List (List Value)} {own : Bool} (hs : ∀ e ∈ es, e.length = sz) (hb : H[p]? = some (.row sz cs own true)) (h1 : o + es.length * sz ≤ cs.length) (h2 : (cs.drop o).take (es.length * sz) = es.flatten) : Cells H sz (some ⟨p, o, none⟩) es := by
  refine .inr ⟨p, o, rfl, by simp [szAt, hb], fun i e he => ?_⟩
  obtain ⟨g1, g2⟩ := flat_get hs he
  rw [← h2] at g1 g2
  have hi := (List.getElem?_eq_some_iff.1 he).1
  have hle : (i + 1) * sz ≤ es.length * sz := Nat.mul_le_mul_right _ hi
  rw [Nat.succ_mul] at hle
  simp only [readCells, hb]
  rw [if_pos (by omega)]
  rw [List.drop_take, List.take_take, List.drop_drop, Nat.min_eq_left (by omega)] at g2
  rw [g2]

theorem Mem.get_sl (h : Mem H0 H L) {j sz : Nat} {v : Value} {es : List (List Value)} (e : L[j]? = some (.sl sz v es)) : Sl H sz v es := by
  obtain ⟨he, S, hl, ho, hs⟩ := h
  obtain ⟨x, hx, h1, h2, ⟨rfl, a, ha, rfl⟩ | ⟨p, o, c, cs, rfl, rfl, h3, h4, h5⟩⟩ := hs _ _ e
  · exact ⟨a, 0, rfl, Nat.le_refl _, .inl rfl⟩
  · refine ⟨_, c, rfl, ?_, cells_of h1 (ho.get hx) h4 h5⟩
    rcases h3 with rfl | ⟨rfl, _⟩
    · unfold unk; omega
    · exact Nat.le_refl _
theorem Mem.len_sl (h : Mem H0 H L) {j sz : Nat} {v : Value} {es : List (List Value)} (e : L[j]? = some (.sl sz v es)) : es.length ≤ 2 ^ 40 := by
  obtain ⟨he, S, hl, ho, hs⟩ := h
  obtain ⟨x, hx, h1, h2, _⟩ := hs _ _ e
  exact h2

/-- A new block. -/
theorem Mem.new (h : Mem H0 H L) {X : Blk} (hX : X.left = X) {t : Th} (ht : t.Is (some (H.length, X))) : Mem H0 (H ++ [X]) (t :: L) := by
  obtain ⟨he, S, hl, ho, hs⟩ := h
  have hp := ho.push he.len X
  refine ⟨he.snoc hX, some (H.length, X) :: S, by simp [hl], ?_, ?_⟩
  · refine hp.of (fun j => if j = 0 then S.length else j - 1 + (if j - 1 < S.length then 0 else 2)) ?_ ?_
    · intro j p Y hj
      cases j with
      | zero => simp at hj; simp [hj]
      | succ j =>
        simp only [List.getElem?_cons_succ] at hj
        have := (List.getElem?_eq_some_iff.1 hj).1
        simp only [Nat.add_one_ne_zero, if_false, Nat.add_sub_cancel, this, if_true, Nat.add_zero]
        exact ⟨by rw [List.getElem?_append_left this]; exact hj, trivial⟩
    · intro i j e
      by_cases a : i = 0 <;> by_cases b : j = 0 <;> by_cases c : i - 1 < S.length <;> by_cases d : j - 1 < S.length <;> simp only [a, b, c, d, if_true, if_false] at e <;> omega
  · intro j t' h'
    cases j with
    | zero => simp at h'; subst h'; exact ⟨_, rfl, ht⟩
    | succ j => exact hs j t' (by simpa using h')

/-- The block of a thing is written. -/
theorem Mem.upd (h : Mem H0 H L) {j : Nat} {t t' : Th} {p : Nat} {X Y : Blk} (hj : L[j]? = some t) (hx : ∀ x, t.Is x → x = some (p, X)) (hY : Y.left = Y) (ht : t'.Is (some (p, Y))) : Mem H0 (H.set p Y) (L.set j t') := by
  obtain ⟨he, S, hl, ho, hs⟩ := h
  obtain ⟨x, hxj, hi⟩ := hs _ _ hj
  have := hx x hi
  subst this
  refine ⟨he.set hY (ho.lo_le hxj), S.set j (some (p, Y)), by simp [hl], ho.set_same hxj, ?_⟩
  intro i t1 h1
  by_cases e : j = i
  · subst e
    have hlt : j < L.length := (List.getElem?_eq_some_iff.1 hj).1
    rw [List.getElem?_set_self hlt] at h1
    simp only [Option.some.injEq] at h1
    subst h1
    exact ⟨_, List.getElem?_set_self (by omega), ht⟩
  · rw [List.getElem?_set_ne e] at h1
    rw [List.getElem?_set_ne e]
    exact hs i t1 h1

/-- A call's own things, made by one that it has called. -/
theorem Mem.under (h : Mem H0 H L) (k : Mem H H1 L1) : Mem H0 H1 (L1 ++ L) := by
  obtain ⟨he, S, hl, ho, hs⟩ := h
  obtain ⟨he1, S1, hl1, ho1, hs1⟩ := k
  refine ⟨he.trans he1, S1 ++ S, by simp [hl, hl1], ⟨?_, ?_⟩, ?_⟩
  · intro j p X h
    rcases Nat.lt_or_ge j S1.length with q | q
    · rw [List.getElem?_append_left q] at h
      exact ⟨Nat.le_trans he.len (ho1.lo_le h), ho1.get h⟩
    · rw [List.getElem?_append_right q] at h
      exact ⟨ho.lo_le h, by rw [he1.old p (ho.lt h)]; exact ho.get h⟩
  · intro i j p X q Y h1 h2 hne
    rcases Nat.lt_or_ge i S1.length with a | a <;> rcases Nat.lt_or_ge j S1.length with b | b
    · rw [List.getElem?_append_left a] at h1; rw [List.getElem?_append_left b] at h2; exact ho1.inj i j p X q Y h1 h2 hne
    · rw [List.getElem?_append_left a] at h1; rw [List.getElem?_append_right b] at h2
      have := ho1.lo_le h1; have := ho.lt h2; omega
    · rw [List.getElem?_append_right a] at h1; rw [List.getElem?_append_left b] at h2
      have := ho1.lo_le h2; have := ho.lt h1; omega
    · rw [List.getElem?_append_right a] at h1; rw [List.getElem?_append_right b] at h2
      exact ho.inj _ _ p X q Y h1 h2 (by omega)
  · intro j t h
    rcases Nat.lt_or_ge j L1.length with q | q
    · rw [List.getElem?_append_left q] at h
      obtain ⟨x, hx, ht⟩ := hs1 j t h
      exact ⟨x, by rw [List.getElem?_append_left (by omega)]; exact hx, ht⟩
    · rw [List.getElem?_append_right q] at h
      obtain ⟨x, hx, ht⟩ := hs _ t h
      exact ⟨x, by rw [List.getElem?_append_right (by omega), hl1]; exact hx, ht⟩

/-- Another memory in which nothing that counts has changed. -/
theorem Mem.more (h : Mem H0 H L) (k : Ext H H1) : Mem H0 H1 L := by
  have := h.under (L1 := []) ⟨k, [], rfl, Own.nil _ _, fun j t h => by simp at h⟩
  simpa using this

/-- A slice that has room only in a block of its own. -/
def Grown (v : Value) : Prop := ∃ a n c, v = .slice a n c ∧ (c = unk ∨ (c = 0 ∧ n = 0))

theorem Grown.nil : Grown (.slice none 0 0) := ⟨none, 0, 0, rfl, .inr ⟨rfl, rfl⟩⟩

theorem Mem.nilSl (h : Mem H0 H L) (sz : Nat) : Mem H0 H (.sl sz (.slice none 0 0) [] :: L) := by
  obtain ⟨he, S, hl, ho, hs⟩ := h
  refine ⟨he, none :: S, by simp [hl], ⟨?_, ?_⟩, ?_⟩
  · intro j p X h
    cases j with
    | zero => simp at h
    | succ j => exact ho.at_ j p X (by simpa using h)
  · intro i j p X q Y h1 h2 hne
    cases i with
    | zero => simp at h1
    | succ i =>
      cases j with
      | zero => simp at h2
      | succ j => exact ho.inj i j p X q Y (by simpa using h1) (by simpa using h2) (by omega)
  · intro j t h
    cases j with
    | zero => simp at h; subst h; exact ⟨none, rfl, by simp, by simp, .inl ⟨rfl, none, .inl rfl, rfl⟩⟩
    | succ j => exact hs j t (by simpa using h)

def sAddr : Value → Option Addr
  | .slice a _ _ => a
  | _ => none
def ptrAt (a : Option Addr) (k : Nat) : Value :=
  match a with
  | some ⟨b, o, none⟩ => .pointer (some ⟨b, o + k, none⟩)
  | _ => undef

theorem Sl.addr {sz : Nat} {v : Value} {es : List (List Value)} (h : Sl H sz v es) {k : Nat} (hk : k < es.length) : ∃ b o, sAddr v = some ⟨b, o, none⟩ ∧ ∀ i e, es[i]? = some e → readCells H b (o + i * sz) sz = some e := by
  obtain ⟨a, c, rfl, hc, h1⟩ := h
  obtain ⟨b, o, rfl, _, h2⟩ := h1.lt hk
  exact ⟨b, o, rfl, h2⟩

section
variable {s : List Value}

theorem ev_idx {sz k : Nat} {v : Value} {es : List (List Value)} {t e : TypeId} {ei : TI} {x i : Operand} {ik : IntKind} (h : Sl H sz v es) (hx : ev s x = v) (hi : ev s i = .int ik (k : Nat)) (hk : k < es.length) (hd : T.d t = some (.slice e)) (he : T.T e = some ei) (hs : ei.size = sz) (hp : 0 < sz) :
    opEval T s H (.indexAddr t x i) = some (ptrAt (sAddr v) (k * sz), H) := by
  obtain ⟨b, o, ha, _⟩ := h.addr hk
  obtain ⟨a, c, rfl, hc, h1⟩ := h
  simp only [sAddr] at ha
  subst ha hs
  have : (0 : Int) ≤ (k : Int) ∧ (k : Int) < (es.length : Int) ∧ 0 < ei.size := ⟨by omega, by omega, hp⟩
  simp only [opEval, indexAddr, hx, hi, hd, he, if_pos this, Option.map_some, Int.toNat_natCast, ptrAt, sAddr]

theorem ev_len {sz : Nat} {v : Value} {es : List (List Value)} {t e : TypeId} {x : Operand} (h : Sl H sz v es) (hx : ev s x = v) (hd : T.d t = some (.slice e)) : opEval T s H (.call { callee := .builtin .len, args := #[x], argTypes := #[t] }) = some (.int .i64 (es.length : Nat), H) := by
  obtain ⟨a, c, rfl, hc, h1⟩ := h
  simp only [opEval, vBuiltin, List.map_cons, List.map_nil, hx, vLen, hd, Option.map_some]

theorem ev_ld1 {sz k : Nat} {v u : Value} {es : List (List Value)} {t : TypeId} {a : Operand} {i : TI} (h : Sl H sz v es) (ha : ev s a = ptrAt (sAddr v) (k * sz)) (hk : es[k]? = some [u]) (hT : T.T t = some i) (hs : i.size = sz) (hg : i.agg = false) : opEval T s H (.load t a) = some (u, H) := by
  obtain ⟨b, o, hv, h1⟩ := h.addr (List.getElem?_eq_some_iff.1 hk).1
  rw [hv] at ha
  subst hs
  exact ev_load1 ha hT (h1 k _ hk) hg
theorem ev_ldA {sz k : Nat} {v : Value} {cs : List Value} {es : List (List Value)} {t : TypeId} {a : Operand} {i : TI} (h : Sl H sz v es) (ha : ev s a = ptrAt (sAddr v) (k * sz)) (hk : es[k]? = some cs) (hT : T.T t = some i) (hs : i.size = sz) (hg : i.agg = true) : opEval T s H (.load t a) = some (.agg cs.toArray, H) := by
  obtain ⟨b, o, hv, h1⟩ := h.addr (List.getElem?_eq_some_iff.1 hk).1
  rw [hv] at ha
  subst hs
  exact ev_loadA ha hT (h1 k _ hk) hg

theorem read_field {b o sz f : Nat} {cs : List Value} {u : Value} (h : readCells H b o sz = some cs) (hf : cs[f]? = some u) : readCells H b (o + f) 1 = some [u] := by
  unfold readCells at *
  split at h
  · rename_i sz1 c own hb
    split at h
    · rename_i hle
      simp only [Option.some.injEq] at h
      subst h
      have hlt := (List.getElem?_eq_some_iff.1 hf).1
      rw [List.getElem?_take, List.getElem?_drop] at hf
      split at hf
      · rename_i hlt2
        rw [if_pos (by omega)]
        congr 1
        have h3 := (List.getElem?_eq_some_iff.1 hf).1
        rw [List.drop_eq_getElem_cons h3, List.take_succ_cons, List.take_zero]
        rw [List.getElem?_eq_getElem h3] at hf
        simpa using hf
      · simp at hf
    · simp at h
  · simp at h

theorem ev_ldf {sz k f : Nat} {v u : Value} {es : List (List Value)} {cs : List Value} {t : TypeId} {a : Operand} {i : TI} (h : Sl H sz v es) (ha : ev s a = ptrAt (sAddr v) (k * sz + f)) (hk : es[k]? = some cs) (hf : cs[f]? = some u) (hT : T.T t = some i) (hs : i.size = 1) (hg : i.agg = false) : opEval T s H (.load t a) = some (u, H) := by
  obtain ⟨b, o, hv, h1⟩ := h.addr (List.getElem?_eq_some_iff.1 hk).1
  rw [hv] at ha
  have := read_field (h1 k _ hk) hf
  refine ev_load1 (b := b) (o := o + (k * sz + f)) ha hT ?_ hg
  rw [hs, ← Nat.add_assoc]; exact this

theorem ev_fldS {sz k f m : Nat} {v : Value} {es : List (List Value)} {t : TypeId} {x : Operand} {fs : List (TypeId × Nat)} {q : TypeId × Nat} {i ki : TI} (h : Sl H sz v es) (hx : ev s x = ptrAt (sAddr v) m) (hk : k < es.length) (hT : T.T t = some i) (hd : i.desc = .struct fs) (hf : fs[f]? = some q) (hq : T.T q.1 = some ki) (hp : 0 < ki.size) :
    opEval T s H (.fieldAddr t x f) = some (ptrAt (sAddr v) (m + q.2), H) := by
  obtain ⟨b, o, hv, h1⟩ := h.addr hk
  rw [hv] at hx ⊢
  have hx' : ev s x = .pointer (some ⟨b, o + m, none⟩) := hx
  simp only [opEval, vFieldAddr, hT, hd, hx', hf, hq, Option.bind_eq_bind, Option.bind_some, hp, if_true, Option.map_some, ptrAt, Nat.add_assoc]

/-- A variable's cell. -/
theorem ev_ldb {p k sz : Nat} {cs : List Value} {own : Bool} {u : Value} {t : TypeId} {a : Operand} {i : TI} (h : H[p]? = some (.row sz cs own true)) (ha : ev s a = .pointer (some ⟨p, k, none⟩)) (hk : cs[k]? = some u) (hT : T.T t = some i) (hs : i.size = 1) (hg : i.agg = false) : opEval T s H (.load t a) = some (u, H) := by
  refine ev_load1 ha hT ?_ hg
  rw [hs]
  exact read_cell' h hk
where
  read_cell' {p k sz : Nat} {cs : List Value} {own : Bool} {v : Value} (h : H[p]? = some (.row sz cs own true)) (hk : cs[k]? = some v) : readCells H p k 1 = some [v] := by
    have hlt := (List.getElem?_eq_some_iff.1 hk).1
    simp only [readCells, h]
    rw [if_pos (by omega)]
    congr 1
    rw [List.drop_eq_getElem_cons hlt, List.take_succ_cons, List.take_zero]
    rw [List.getElem?_eq_getElem hlt] at hk
    simpa using hk
theorem ev_ldbA {p sz : Nat} {cs : List Value} {own : Bool} {t : TypeId} {a : Operand} {i : TI} (h : H[p]? = some (.row sz cs own true)) (ha : ev s a = .pointer (some ⟨p, 0, none⟩)) (hT : T.T t = some i) (hs : i.size = cs.length) (hg : i.agg = true) : opEval T s H (.load t a) = some (.agg cs.toArray, H) := by
  refine ev_loadA ha hT ?_ hg
  simp only [readCells, h]
  rw [if_pos (by omega), hs, List.drop_zero, List.take_length]
end

section
variable {Q : St} {cal : CallF} {d : Bool} {ops : Array Oper} {i n t : Nat} {is : List Nat} {a : Nat → Value} {l : List (Nat × Value)} {o : Oper}

/-- An operation that lays a block. -/
theorem Rg.new {v : Nat → Value} {X : Blk} {th : Nat → Th} (hM : Mem H0 H L) (ho : ops[i]? = some o) (hg : o.guard = none) (ht : o.dst = some t) (he : opEval T (mkS n a l) H o.op = some (v H.length, H ++ [X])) (hd : (d && inPlace (mkS n a l) o.op) = false) (hX : X.left = X) (hi : ∀ p, (th p).Is (some (p, X)))
    (k : ∀ p H1, Mem H0 H1 (th p :: L) → Ext H H1 → Rg T cal d ops is (mkS n a ((t, v p) :: l)) H1 Q) : Rg T cal d ops (i :: is) (mkS n a l) H Q :=
  Rg.opp ho hg ht he hd (k H.length _ (hM.new hX (hi _)) ((Ext.refl H).snoc hX))

theorem Rg.mkSl {v : Value} {X : Blk} {sz : Nat} {es : List (List Value)} (hM : Mem H0 H L) (ho : ops[i]? = some o) (hg : o.guard = none) (ht : o.dst = some t) (he : opEval T (mkS n a l) H o.op = some (v, H ++ [X])) (hd : (d && inPlace (mkS n a l) o.op) = false) (hX : X.left = X) (hi : Slo sz v es (some (H.length, X)))
    (k : ∀ u H1, Mem H0 H1 (.sl sz u es :: L) → Ext H H1 → Rg T cal d ops is (mkS n a ((t, u) :: l)) H1 Q) : Rg T cal d ops (i :: is) (mkS n a l) H Q :=
  Rg.opp ho hg ht he hd (k v _ (hM.new (t := .sl sz v es) hX hi) ((Ext.refl H).snoc hX))

/-- A variable is set. -/
theorem Rg.stob {ty : TypeId} {oa ov : Operand} {ti : TI} {j p k sz : Nat} {cs cs' : List Value} {u : Value} (hM : Mem H0 H L) (ho : ops[i]? = some o) (hg : o.guard = none) (ht : o.dst = none) (hop : o.op = .store ty oa ov) (hj : L[j]? = some (.box p sz cs)) (ha : ev (mkS n a l) oa = .pointer (some ⟨p, k, none⟩)) (hv : ev (mkS n a l) ov = u)
    (hT : T.T ty = some ti) (hc : (cellsOf u).length = ti.size) (h1 : (cellsOf u).all oneCell = true) (hk : k + (cellsOf u).length ≤ cs.length) (hcs : setCells cs k (cellsOf u) = cs') (k : ∀ H1, Mem H0 H1 (L.set j (.box p sz cs')) → Rg T cal d ops is (mkS n a l) H1 Q) : Rg T cal d ops (i :: is) (mkS n a l) H Q := by
  have hb := hM.get_box hj
  subst hcs
  refine Rg.opn (v := undef) (H1 := H.set p (.row sz (setCells cs _ (cellsOf u)) true true)) ho hg ht ?_ ?_ (k _ (hM.upd hj (fun x hx => hx) rfl rfl))
  · rw [hop]
    simp only [opEval, vStore, hT, ha, hv, Option.bind_eq_bind, Option.bind_some, hc, if_true, writeCells, h1, hb]
    rw [if_pos (by rw [← hc]; exact hk)]
    rfl
  · rw [hop]; simp [inPlace]

/-- A value that fills one cell. -/
def One (u : Value) : Prop := cellsOf u = [u] ∧ oneCell u = true ∧ isTuple u = false
theorem Sl.one {sz : Nat} {v : Value} {es : List (List Value)} (h : Sl H sz v es) : One v := by
  obtain ⟨a, c, rfl, _⟩ := h; exact ⟨rfl, rfl, rfl⟩
theorem Grown.one {v : Value} (h : Grown v) : One v := by
  obtain ⟨a, n, c, rfl, _⟩ := h; exact ⟨rfl, rfl, rfl⟩

theorem Rg.stob1 {ty : TypeId} {oa ov : Operand} {ti : TI} {j p k sz : Nat} {cs cs' : List Value} {u : Value} (hM : Mem H0 H L) (ho : ops[i]? = some o) (hg : o.guard = none) (ht : o.dst = none) (hop : o.op = .store ty oa ov) (hj : L[j]? = some (.box p sz cs)) (ha : ev (mkS n a l) oa = .pointer (some ⟨p, k, none⟩)) (hv : ev (mkS n a l) ov = u)
    (hT : T.T ty = some ti) (hs : ti.size = 1) (h1 : One u) (hk : k + 1 ≤ cs.length) (hcs : cs.set k u = cs') (k : ∀ H1, Mem H0 H1 (L.set j (.box p sz cs')) → Rg T cal d ops is (mkS n a l) H1 Q) : Rg T cal d ops (i :: is) (mkS n a l) H Q :=
  Rg.stob hM ho hg ht hop hj ha hv hT (by rw [h1.1, hs]; rfl) (by rw [h1.1]; simp [h1.2.1]) (by rw [h1.1]; exact hk) (by rw [h1.1]; exact hcs) k

theorem setCells_at : ∀ (vs cs : List Value) (o : Nat), o + vs.length ≤ cs.length → setCells cs o vs = cs.take o ++ vs ++ cs.drop (o + vs.length)
  | [], cs, o, h => by simp [setCells]
  | v :: vs, cs, o, h => by
    unfold setCells
    simp only [List.length_cons] at h
    have ht : (cs.set o v).take (o + 1) = cs.take o ++ [v] := by
      rw [List.take_set, ← List.take_append_getElem (by omega : o < cs.length), List.set_append_right _ _ (by simp; omega)]
      simp [Nat.min_eq_left (by omega : o ≤ cs.length)]
    rw [setCells_at vs (cs.set o v) (o + 1) (by simp; omega), ht, List.drop_set_of_lt (by omega), List.length_cons, show o + 1 + vs.length = o + (vs.length + 1) by omega]
    simp

theorem flat_set {sz : Nat} {es : List (List Value)} (hs : ∀ e ∈ es, e.length = sz) {e : List Value} (he : e.length = sz) : ∀ {k : Nat}, k < es.length → (es.set k e).flatten = es.flatten.take (k * sz) ++ e ++ es.flatten.drop (k * sz + sz) := by
  induction es with
  | nil => intro k h; simp at h
  | cons x es ih =>
    intro k hk
    have hx := hs x List.mem_cons_self
    cases k with
    | zero =>
      simp only [List.set_cons_zero, List.flatten_cons, Nat.zero_mul, List.take_zero, List.nil_append, Nat.zero_add]
      rw [← hx, List.drop_left]
    | succ k =>
      have := ih (fun y hy => hs y (List.mem_cons_of_mem _ hy)) (k := k) (by simpa using hk)
      simp only [List.set_cons_succ, List.flatten_cons, this]
      rw [Nat.succ_mul, Nat.add_comm (k * sz) sz, ← hx, List.take_length_add_append, Nat.add_assoc, List.drop_length_add_append, Nat.add_comm (k * x.length) x.length]
      simp only [List.append_assoc]

theorem mid_set {cs e : List Value} {q m n sz : Nat} (he : e.length = sz) (h1 : m + sz ≤ n) (h2 : q + n ≤ cs.length) :
    ((cs.take (q + m) ++ e ++ cs.drop (q + m + sz)).drop q).take n = ((cs.drop q).take n).take m ++ e ++ ((cs.drop q).take n).drop (m + sz) := by
  have e1 : (cs.take (q + m) ++ e ++ cs.drop (q + m + sz)).drop q = (cs.drop q).take m ++ e ++ cs.drop (q + m + sz) := by
    rw [List.append_assoc, List.drop_append_of_le_length (by simp; omega), List.drop_take, Nat.add_sub_cancel_left, List.append_assoc]
  rw [e1, List.take_take, Nat.min_eq_left (by omega), List.drop_take, List.drop_drop, ← Nat.add_assoc, List.take_append]
  have hl : ((cs.drop q).take m ++ e).length = m + sz := by simp [he]; omega
  rw [hl, List.take_of_length_le (by omega)]

/-- An element is set. -/
theorem Mem.stoe (hM : Mem H0 H L) {j sz k : Nat} {v u : Value} {es : List (List Value)} (hj : L[j]? = some (.sl sz v es)) (hk : k < es.length) (hc : (cellsOf u).length = sz) (h1 : (cellsOf u).all oneCell = true) :
    ∃ b o H1, sAddr v = some ⟨b, o, none⟩ ∧ writeCells H b (o + k * sz) (cellsOf u) = some H1 ∧ Mem H0 H1 (L.set j (.sl sz v (es.set k (cellsOf u)))) := by
  obtain ⟨he, S, hl, ho, hs⟩ := id hM
  obtain ⟨x, hx, g1, g2, ⟨rfl, _⟩ | ⟨p, q, c, cs, rfl, rfl, h3, h4, h5⟩⟩ := hs _ _ hj
  · simp at hk
  have hb := ho.get hx
  have hle : (k + 1) * sz ≤ es.length * sz := Nat.mul_le_mul_right _ hk
  rw [Nat.succ_mul] at hle
  have hw : q + k * sz + (cellsOf u).length ≤ cs.length := by omega
  refine ⟨p, q, H.set p (.row sz (setCells cs (q + k * sz) (cellsOf u)) true true), rfl, ?_, ?_⟩
  · simp only [writeCells, h1, if_true, hb, if_pos hw]
  · have hX : ∀ y, Slo sz (.slice (some ⟨p, q, none⟩) es.length c) es y → H[p]? = H[p]? := fun _ _ => rfl
    have hset := setCells_at _ _ _ hw
    have hn : Slo sz (.slice (some ⟨p, q, none⟩) es.length c) (es.set k (cellsOf u)) (some (p, .row sz (setCells cs (q + k * sz) (cellsOf u)) true true)) := by
      refine ⟨fun e he => ?_, by simpa using g2, .inr ⟨p, q, c, _, rfl, by simp, by rcases h3 with h3 | ⟨h3, h6⟩; exact .inl h3; exact .inr ⟨by simpa using h3, by simpa using h6⟩, ?_, ?_⟩⟩
      · rcases List.mem_or_eq_of_mem_set he with z | z
        · exact g1 e z
        · rw [z]; exact hc
      · rw [hset]; simp; omega
      · have hfl : es.flatten.length = es.length * sz := flat_len g1
        rw [hset, flat_set g1 hc hk, ← h5, List.length_set, hc]
        exact mid_set hc hle h4
    have hlt : j < L.length := (List.getElem?_eq_some_iff.1 hj).1
    refine ⟨he.set rfl (ho.lo_le hx), S.set j (some (p, _)), by simp [hl], ho.set_same hx, ?_⟩
    intro i t1 e1
    by_cases e : j = i
    · subst e
      rw [List.getElem?_set_self hlt] at e1
      simp only [Option.some.injEq] at e1
      subst e1
      exact ⟨_, List.getElem?_set_self (by omega), hn⟩
    · rw [List.getElem?_set_ne e] at e1
      rw [List.getElem?_set_ne e]
      exact hs i t1 e1

theorem Rg.stoe {ty : TypeId} {oa ov : Operand} {ti : TI} {j sz k : Nat} {es es' : List (List Value)} {v u : Value} (hM : Mem H0 H L) (ho : ops[i]? = some o) (hg : o.guard = none) (ht : o.dst = none) (hop : o.op = .store ty oa ov) (hj : L[j]? = some (.sl sz v es)) (ha : ev (mkS n a l) oa = ptrAt (sAddr v) (k * sz)) (hv : ev (mkS n a l) ov = u)
    (hk : k < es.length) (hT : T.T ty = some ti) (hc : (cellsOf u).length = sz) (hs : ti.size = sz) (h1 : (cellsOf u).all oneCell = true) (hes : es.set k (cellsOf u) = es') (k : ∀ H1, Mem H0 H1 (L.set j (.sl sz v es')) → Rg T cal d ops is (mkS n a l) H1 Q) : Rg T cal d ops (i :: is) (mkS n a l) H Q := by
  obtain ⟨b, q, H1, g1, g2, g3⟩ := hM.stoe hj hk hc h1
  subst hes
  rw [g1] at ha
  have ha' : ev (mkS n a l) oa = .pointer (some ⟨b, q + _ * sz, none⟩) := ha
  refine Rg.opn (v := undef) ho hg ht ?_ ?_ (k H1 g3)
  · rw [hop]
    simp only [opEval, vStore, hT, ha', hv, Option.bind_eq_bind, Option.bind_some, hc, hs, if_true, g2, Option.map_some]
  · rw [hop]; simp [inPlace]

theorem Sl.src {sz : Nat} {y : Value} {xs : List (List Value)} (h : Sl H sz y xs) (hs : ∀ e ∈ xs, e.length = sz) (hne : xs ≠ []) : ∃ a2 c2, y = .slice a2 xs.length c2 ∧ srcCells H a2 xs.length sz = some xs.flatten := by
  obtain ⟨a, c, rfl, hc, h1⟩ := h
  obtain ⟨b, o, rfl, _, _⟩ := h1.lt (List.length_pos_iff.2 hne)
  exact ⟨_, c, rfl, h1.src hs (.inr ⟨b, o, rfl⟩)⟩

/-- An append of something to a slice of one's own. -/
theorem Mem.app {ty e : TypeId} {ii ei : TI} (hM : Mem H0 H L) (ht : SliceTy T ty e ii ei) {j sz : Nat} {v y : Value} {es xs : List (List Value)} (hsz : ei.size = sz) (hj : L[j]? = some (.sl sz v es)) (hy : Sl H sz y xs) (hx : ∀ e ∈ xs, e.length = sz ∧ e.all oneCell = true) (hb : (es.length + xs.length) * ei.bytes ≤ 2 ^ 40) (hn : es.length + xs.length ≤ 2 ^ 40) (hne : xs ≠ []) :
    ∃ u H1, vAppend T H ty v y = some (u, H1) ∧ Mem H0 H1 (L.set j (.sl sz u (es ++ xs))) ∧ Grown u ∧ (∃ a n c a2 c2, v = .slice a n c ∧ y = .slice a2 xs.length c2 ∧ (c = unk ∨ c ≤ n)) := by
  subst hsz
  obtain ⟨a2, c2, rfl, hsrc⟩ := hy.src (fun e he => (hx e he).1) hne
  have hx1 : xs.length ≠ 0 := by simpa using hne
  have hone : xs.flatten.all oneCell = true := by
    simp only [List.all_eq_true, List.mem_flatten]
    rintro v ⟨l, hl, hv⟩
    exact List.all_eq_true.1 (hx l hl).2 v hv
  obtain ⟨he, S, hl, ho, hs⟩ := id hM
  obtain ⟨x, hxj, g1, g2, hcase⟩ := hs _ _ hj
  have hall : ∀ e ∈ es ++ xs, e.length = ei.size := by
    intro e he
    rcases List.mem_append.1 he with q | q
    · exact g1 e q
    · exact (hx e q).1
  have hlt : j < L.length := (List.getElem?_eq_some_iff.1 hj).1
  have hnew : Slo ei.size (.slice (some ⟨H.length, 0, none⟩) (es.length + xs.length) unk) (es ++ xs) (some (H.length, .row ei.size (es ++ xs).flatten true true)) := by
    refine ⟨hall, by simpa using hn, .inr ⟨_, 0, unk, _, rfl, by simp, .inl rfl, by rw [flat_len hall]; omega, ?_⟩⟩
    rw [List.drop_zero, ← flat_len hall, List.take_length]
  have hc0 : 0 < ei.size ∧ 0 < ei.bytes ∧ (es.length + xs.length) * ei.bytes ≤ 2 ^ 40 ∧ es.length + xs.length ≤ 2 ^ 40 := ⟨ht.pos.1, ht.pos.2, hb, hn⟩
  have fin : ∀ H1 : Heap, Ext H0 H1 → H.length < H1.length → H1[H.length]? = some (.row ei.size (es ++ xs).flatten true true) → (∀ i q Y, i ≠ j → S[i]? = some (some (q, Y)) → H1[q]? = some Y) →
      Mem H0 H1 (L.set j (.sl ei.size (.slice (some ⟨H.length, 0, none⟩) (es.length + xs.length) unk) (es ++ xs))) := by
    intro H1 h1 h2 h3 h4
    refine ⟨h1, S.set j (some (H.length, .row ei.size (es ++ xs).flatten true true)), by simp [hl], ho.put (by omega) he.len h3 (fun i q Y hi h => ⟨by have := ho.lt h; omega, h4 i q Y hi h⟩), ?_⟩
    intro i t1 e1
    by_cases e : j = i
    · subst e
      rw [List.getElem?_set_self hlt] at e1
      simp only [Option.some.injEq] at e1
      subst e1
      exact ⟨_, List.getElem?_set_self (by omega), hnew⟩
    · rw [List.getElem?_set_ne e] at e1
      rw [List.getElem?_set_ne e]
      exact hs i t1 e1
  have hgrow : Grown (.slice (some ⟨H.length, 0, none⟩) (es.length + xs.length) unk) := ⟨_, _, _, rfl, .inl rfl⟩
  rcases hcase with ⟨rfl, a0, ha0, rfl⟩ | ⟨p, q, c, cs, rfl, rfl, h3, h4, h5⟩
  · refine ⟨.slice (some ⟨H.length, 0, none⟩) (([] : List (List Value)).length + xs.length) unk, H ++ [.row ei.size ([] ++ xs).flatten true true], ?_, fin _ (he.row _ _) (by simp) List.getElem?_concat_length (fun i q Y _ h => by rw [List.getElem?_append_left (ho.lt h)]; exact ho.get h), hgrow, _, _, _, _, _, rfl, rfl, .inr (Nat.le_refl _)⟩
    unfold vAppend
    simp only [ht.t, ht.d, ht.e, Option.bind_eq_bind, Option.bind_some]
    simp only [List.length_nil, Nat.zero_add] at hc0
    simp only [if_pos hc0, hsrc, Option.bind_some, hone, if_true, and_self, if_neg hx1, List.length_nil, Nat.zero_add, List.nil_append]
  · have hb' := ho.get hxj
    rcases h3 with rfl | ⟨rfl, h6⟩
    · refine ⟨.slice (some ⟨H.length, 0, none⟩) (es.length + xs.length) unk, (H.set p (.row ei.size cs true false)) ++ [.row ei.size (es ++ xs).flatten true true], ?_, fin _ ((he.set rfl (ho.lo_le hxj)).row _ _) (by simp) (by rw [List.getElem?_append_right (by simp)]; simp) (fun i r Y hi h => ?_), hgrow, _, _, _, _, _, rfl, rfl, .inl rfl⟩
      · unfold vAppend
        simp only [ht.t, ht.d, ht.e, Option.bind_eq_bind, Option.bind_some]
        have hu : ¬ (es.length = 0 ∧ unk = 0) := by simp [unk]
        simp only [if_pos hc0, hsrc, Option.bind_some, hone, if_true, if_neg hu, hb', true_and, h4, h5, List.flatten_append]
      · have h7 := ho.lt h
        have h8 := ho.inj i j r Y p _ h hxj hi
        rw [List.getElem?_append_left (by simpa using h7), List.getElem?_set_ne (fun e => h8 e.symm)]
        exact ho.get h
    · refine ⟨.slice (some ⟨H.length, 0, none⟩) (es.length + xs.length) unk, H ++ [.row ei.size (es ++ xs).flatten true true], ?_, fin _ (he.row _ _) (by simp) List.getElem?_concat_length (fun i q Y _ h => by rw [List.getElem?_append_left (ho.lt h)]; exact ho.get h), hgrow, _, _, _, _, _, rfl, rfl, .inr (Nat.le_refl _)⟩
      unfold vAppend
      simp only [ht.t, ht.d, ht.e, Option.bind_eq_bind, Option.bind_some]
      have hu : ¬ (es.length = 0 ∧ es.length = 0) := by simpa using h6
      have hcu : ¬ (es.length = unk) := by unfold unk; omega
      have hno : ¬ (es.length + xs.length ≤ es.length) := by omega
      have hrd : readCells H p q (es.length * ei.size) = some es.flatten := by
        simp only [readCells, hb']
        rw [if_pos h4, h5]
      simp only [if_pos hc0, hsrc, Option.bind_some, hone, if_true, if_neg hu, if_neg hcu, if_neg hno, hrd, List.flatten_append]

theorem Rg.app {ty e : TypeId} {ii ei : TI} {x y : Operand} {j sz : Nat} {v w : Value} {es xs : List (List Value)} (hM : Mem H0 H L) (ho : ops[i]? = some o) (hg : o.guard = none) (ht : o.dst = some t) (hop : o.op = .call { callee := .builtin .append, args := #[x, y], argTypes := #[ty, ty] })
    (hj : L[j]? = some (.sl sz v es)) (hx : ev (mkS n a l) x = v) (hy : ev (mkS n a l) y = w) (hw : Sl H sz w xs) (hT : SliceTy T ty e ii ei) (hsz : ei.size = sz) (h1 : ∀ e ∈ xs, e.length = sz ∧ e.all oneCell = true) (hb : (es.length + xs.length) * ei.bytes ≤ 2 ^ 40) (hne : xs ≠ [])
    (k : ∀ u H1, Mem H0 H1 (L.set j (.sl sz u (es ++ xs))) → Grown u → Rg T cal d ops is (mkS n a ((t, u) :: l)) H1 Q) : Rg T cal d ops (i :: is) (mkS n a l) H Q := by
  have hn : es.length + xs.length ≤ 2 ^ 40 := Nat.le_trans (Nat.le_mul_of_pos_right _ hT.pos.2) hb
  obtain ⟨u, H1, g1, g2, g3, aa, nn, cc, a2, c2, rfl, rfl, g4⟩ := hM.app hT hsz hj hw h1 hb hn hne
  have hpos : 0 < xs.length := List.length_pos_iff.2 hne
  refine Rg.opp ho hg ht (v := u) (H1 := H1) ?_ ?_ (k u H1 g2 g3)
  · rw [hop]; exact ev_append hx hy g1
  · rw [hop]
    have : inPlace (mkS n a l) (.call { callee := .builtin .append, args := #[x, y], argTypes := #[ty, ty] }) = false := by
      simp only [inPlace, List.map_cons, List.map_nil, hx, hy, decide_eq_false_iff_not]
      rintro ⟨p1, p2, p3⟩
      rcases g4 with g4 | g4
      · exact p1 g4
      · omega
    rw [this]; simp

/-- A call. -/
theorem Rg.callW {f : FuncId} {args : List Value} (ho : ops[i]? = some o) (hg : o.guard = none) (ht : o.dst = some t) (hn : opEval T (mkS n a l) H o.op = none) (hc : calleeOf T (mkS n a l) H o.op = some (f, args)) (hd : (d && inPlace (mkS n a l) o.op) = false)
    {P : Value → Heap → Prop} (hr : ∃ v H1, cal f args H = some (v, H1) ∧ P v H1) (k : ∀ v H1, P v H1 → Rg T cal d ops is (mkS n a ((t, v) :: l)) H1 Q) : Rg T cal d ops (i :: is) (mkS n a l) H Q := by
  obtain ⟨v, H1, h1, h2⟩ := hr
  exact Rg.calls ho hg ht hn hc hd h1 (k v H1 h2)
end

/-- A loop. -/
theorem Runs.lp {s : List Value} {N : St} {X : Nat → St} {R : St} {c : Code} (I : Nat → St) {m : Nat} (h0 : I m s H) (step : ∀ m s H, I m s H → Runs T c s H (fun s1 H1 => ∃ m1, m1 < m ∧ I m1 s1 H1) X R) : Runs T (.loop c) s H N X R := Runs.loop I m h0 step

/-- The first elements of a slice of one's own are left out. -/
theorem Mem.cutLo (hM : Mem H0 H L) {j sz k : Nat} {v : Value} {es : List (List Value)} {ty e : TypeId} {ei : TI} (hj : L[j]? = some (.sl sz v es)) (hd : T.d ty = some (.slice e)) (he : T.T e = some ei) (hs : ei.size = sz) (hk : k ≤ es.length) {ik : IntKind} :
    ∃ u, sliceVal T H ty v (some (.int ik (k : Nat))) none none = some u ∧ Mem H0 H (L.set j (.sl sz u (es.drop k))) ∧ (Grown v → Grown u) := by
  obtain ⟨hx, S, hl, ho, hS⟩ := id hM
  obtain ⟨x, hxj, g1, g2, hcase⟩ := hS _ _ hj
  have hlt : j < L.length := (List.getElem?_eq_some_iff.1 hj).1
  subst hs
  have fin : ∀ u, Slo ei.size u (es.drop k) x → Mem H0 H (L.set j (.sl ei.size u (es.drop k))) := by
    intro u hu
    refine ⟨hx, S, by simp [hl], ho, ?_⟩
    intro i t1 e1
    by_cases e : j = i
    · subst e
      rw [List.getElem?_set_self hlt] at e1
      simp only [Option.some.injEq] at e1
      subst e1
      exact ⟨_, hxj, hu⟩
    · rw [List.getElem?_set_ne e] at e1
      exact hS i t1 e1
  have hall : ∀ e ∈ es.drop k, e.length = ei.size := fun e he => g1 e (List.mem_of_mem_drop he)
  have hlen : (es.drop k).length ≤ 2 ^ 40 := by simp; omega
  have hbnd : ∀ n, k ≤ n → bnd (.int ik (k : Nat)) n = some k := by
    intro n hn
    have : (0 : Int) ≤ (k : Nat) ∧ ((k : Nat) : Int) ≤ (n : Nat) := ⟨by omega, by omega⟩
    simp only [bnd, if_pos this, Int.toNat_natCast]
  rcases hcase with ⟨rfl, a0, ha0, rfl⟩ | ⟨p, q, c, cs, rfl, rfl, h3, h4, h5⟩
  · simp only [List.length_nil, Nat.le_zero_eq] at hk
    subst hk
    have key : ∃ a1, plainA a1 ∧ sliceVal T H ty (.slice a0 0 0) (some (.int ik ((0 : Nat) : Int))) none none = some (.slice a1 0 0) := by
      rcases ha0 with rfl | ⟨b, o, rfl⟩
      · refine ⟨none, .inl rfl, ?_⟩
        simp only [sliceVal, hd, he, Option.bind_some, hbnd 0 (Nat.le_refl _), cutSlice, and_self, if_true]
      · refine ⟨some ⟨b, o, none⟩, .inr ⟨b, o, rfl⟩, ?_⟩
        have : (0 : Nat) ≠ unk := by simp [unk]
        simp only [sliceVal, hd, he, Option.bind_some, hbnd 0 (Nat.le_refl _), cutSlice, this, ne_eq, not_false_eq_true, and_self, if_true]
    obtain ⟨a1, ha1, hkey⟩ := key
    exact ⟨_, hkey, fin _ ⟨hall, hlen, .inl ⟨by simp, a1, ha1, rfl⟩⟩, fun _ => ⟨_, _, _, rfl, .inr ⟨rfl, rfl⟩⟩⟩
  · have hb' := ho.get hxj
    have hsz : szAt H p = some ei.size := by simp [szAt, hb']
    have hmul : k * ei.size + (es.length - k) * ei.size = es.length * ei.size := by rw [← Nat.add_mul]; congr 1; omega
    have hmid : Slo ei.size (.slice (some ⟨p, q + k * ei.size, none⟩) (es.length - k) (if c = unk then unk else c - k)) (es.drop k) (some (p, .row ei.size cs true true)) ∨ (c ≠ unk ∧ c = k) := by
      by_cases hck : c ≠ unk ∧ c = k
      · exact .inr hck
      · refine .inl ⟨hall, hlen, .inr ⟨p, q + k * ei.size, (if c = unk then unk else c - k), cs, rfl, by simp, ?_, by simp only [List.length_drop]; omega, ?_⟩⟩
        · by_cases hu : c = unk
          · simp [hu]
          · rcases h3 with rfl | ⟨rfl, h6⟩
            · exact absurd rfl hu
            · refine .inr ⟨by simp [hu], ?_⟩
              intro h0
              have : (es.drop k).length = 0 := by rw [h0]; rfl
              simp at this
              exact hck ⟨hu, by omega⟩
        · have hd' : (es.drop k).flatten = es.flatten.drop (k * ei.size) := by
            have h6 : es.flatten = (es.take k).flatten ++ (es.drop k).flatten := by rw [← List.flatten_append, List.take_append_drop]
            have h7 : (es.take k).flatten.length = k * ei.size := by rw [flat_len fun e he => g1 e (List.mem_of_mem_take he), List.length_take, Nat.min_eq_left hk]
            rw [h6, ← h7, List.drop_left]
          rw [hd', ← h5, List.drop_take, List.drop_drop]
          congr 1
          simp only [List.length_drop]
          omega
    by_cases hck : c = k ∧ c ≠ unk
    · refine ⟨.slice (some ⟨p, q, none⟩) 0 0, ?_, fin _ ?_, fun _ => ⟨_, _, _, rfl, .inr ⟨rfl, rfl⟩⟩⟩
      · have hku : k ≠ unk := by rw [← hck.1]; exact hck.2
        simp only [sliceVal, hd, he, Option.bind_some, hbnd _ hk, cutSlice, hck.1, true_and]
        rw [if_pos hku]
      · have : es.drop k = [] := by
          rcases h3 with h3 | ⟨h3, _⟩
          · exact absurd h3 hck.2
          · exact List.drop_eq_nil_of_le (by omega)
        rw [this]
        exact ⟨by simp, by simp, .inl ⟨rfl, _, .inr ⟨_, _, rfl⟩, rfl⟩⟩
    · refine ⟨.slice (some ⟨p, q + k * ei.size, none⟩) (es.length - k) (if c = unk then unk else c - k), ?_, ?_, ?_⟩
      · simp only [sliceVal, hd, he, Option.bind_some, hbnd _ hk, cutSlice, hck, if_false, hsz, if_true]
      · rcases hmid with h | h
        · exact fin _ h
        · exact absurd ⟨h.2, h.1⟩ hck
      · rintro ⟨_, _, c', e, hc'⟩
        cases e
        rcases hc' with rfl | ⟨rfl, h0⟩
        · exact ⟨_, _, _, rfl, .inl (by simp)⟩
        · refine ⟨_, _, _, rfl, .inr ⟨by simp [unk], by omega⟩⟩

/-- The last elements of a slice of one's own are left out. -/
theorem Mem.cutHi (hM : Mem H0 H L) {j sz k : Nat} {v : Value} {es : List (List Value)} {ty e : TypeId} {ei : TI} (hj : L[j]? = some (.sl sz v es)) (hgr : Grown v) (hd : T.d ty = some (.slice e)) (he : T.T e = some ei) (hs : ei.size = sz) (hk : k ≤ es.length) {ik : IntKind} :
    ∃ u, sliceVal T H ty v none (some (.int ik (k : Nat))) none = some u ∧ Mem H0 H (L.set j (.sl sz u (es.take k))) ∧ Grown u := by
  obtain ⟨hx, S, hl, ho, hS⟩ := id hM
  obtain ⟨x, hxj, g1, g2, hcase⟩ := hS _ _ hj
  have hlt : j < L.length := (List.getElem?_eq_some_iff.1 hj).1
  subst hs
  have fin : ∀ u, Slo ei.size u (es.take k) x → Mem H0 H (L.set j (.sl ei.size u (es.take k))) := by
    intro u hu
    refine ⟨hx, S, by simp [hl], ho, ?_⟩
    intro i t1 e1
    by_cases e : j = i
    · subst e
      rw [List.getElem?_set_self hlt] at e1
      simp only [Option.some.injEq] at e1
      subst e1
      exact ⟨_, hxj, hu⟩
    · rw [List.getElem?_set_ne e] at e1
      exact hS i t1 e1
  have hall : ∀ e ∈ es.take k, e.length = ei.size := fun e he => g1 e (List.mem_of_mem_take he)
  have hlen : (es.take k).length ≤ 2 ^ 40 := by simp; omega
  have hbnd : ∀ n, k ≤ n → bnd (.int ik (k : Nat)) n = some k := by
    intro n hn
    have : (0 : Int) ≤ (k : Nat) ∧ ((k : Nat) : Int) ≤ (n : Nat) := ⟨by omega, by omega⟩
    simp only [bnd, if_pos this, Int.toNat_natCast]
  rcases hcase with ⟨rfl, a0, ha0, rfl⟩ | ⟨p, q, c, cs, rfl, rfl, h3, h4, h5⟩
  · simp only [List.length_nil, Nat.le_zero_eq] at hk
    subst hk
    have h00 : (0 : Nat) ≠ unk := by simp [unk]
    have key : ∃ a1, plainA a1 ∧ sliceVal T H ty (.slice a0 0 0) none (some (.int ik ((0 : Nat) : Int))) none = some (.slice a1 0 0) := by
      rcases ha0 with rfl | ⟨b, o, rfl⟩
      · refine ⟨none, .inl rfl, ?_⟩
        simp only [sliceVal, hd, he, Option.bind_some, h00, if_false, hbnd 0 (Nat.le_refl _), cutSlice, and_self, if_true]
      · refine ⟨some ⟨b, o, none⟩, .inr ⟨b, o, rfl⟩, ?_⟩
        simp only [sliceVal, hd, he, Option.bind_some, h00, if_false, hbnd 0 (Nat.le_refl _), cutSlice, ne_eq, not_false_eq_true, and_self, if_true]
    obtain ⟨a1, ha1, hkey⟩ := key
    exact ⟨_, hkey, fin _ ⟨hall, hlen, .inl ⟨by simp, a1, ha1, rfl⟩⟩, _, _, _, rfl, .inr ⟨rfl, rfl⟩⟩
  · have hb' := ho.get hxj
    have hsz : szAt H p = some ei.size := by simp [szAt, hb']
    have hc : c = unk := by
      obtain ⟨_, _, c', e, hc'⟩ := hgr
      cases e
      rcases hc' with rfl | ⟨rfl, h0⟩
      · rfl
      · rcases h3 with h3 | ⟨_, h3⟩
        · exact h3
        · exact absurd (List.length_eq_zero_iff.1 h0) h3
    subst hc
    have hku : k ≤ unk := by unfold unk; omega
    have h0u : ¬ (unk = 0 ∧ unk ≠ unk) := by simp
    have hle : k * ei.size ≤ es.length * ei.size := Nat.mul_le_mul_right _ hk
    refine ⟨.slice (some ⟨p, q, none⟩) k unk, ?_, fin _ ⟨hall, hlen, .inr ⟨p, q, unk, cs, rfl, by simp [Nat.min_eq_left hk], .inl rfl, by rw [List.length_take, Nat.min_eq_left hk]; omega, ?_⟩⟩, _, _, _, rfl, .inl rfl⟩
    · simp only [sliceVal, hd, he, Option.bind_some, if_true, hbnd _ hk, cutSlice, ne_eq, not_true_eq_false, and_false, if_false, hsz, Nat.zero_mul, Nat.add_zero, Nat.sub_zero]
    · have hd' : (es.take k).flatten = es.flatten.take (k * ei.size) := by
        have h6 : es.flatten = (es.take k).flatten ++ (es.drop k).flatten := by rw [← List.flatten_append, List.take_append_drop]
        have h7 : (es.take k).flatten.length = k * ei.size := by rw [flat_len hall, List.length_take, Nat.min_eq_left hk]
        rw [h6, ← h7, List.take_left]
      rw [hd', ← h5, List.take_take, Nat.min_eq_left hle, List.length_take, Nat.min_eq_left hk]

end Go.Proofs.Ytdhbclplondmjaa.C

/- Operations by what they ask, over typed lists. -/
set_option linter.unusedVariables false
set_option linter.unusedSimpArgs false
namespace Go.Proofs.Ytdhbclplondmjaa.C
open Go.RowKit Go.IntWalk

abbrev encN (x : Nat) : List Value := [nat x]
abbrev encI (x : Int) : List Value := [.int .i64 x]
abbrev encB (x : Bool) : List Value := [.bool x]
abbrev encS (x : Nm) : List Value := [str x]
abbrev encV (x : Value) : List Value := [x]

theorem map_get {α : Type} {f : α → List Value} {xs : List α} {k : Nat} (h : k < xs.length) : (xs.map f)[k]? = some (f xs[k]) := by simp [h]

section
variable {T : Tab} {s : List Value} {H H0 : Heap} {L : List Th} {α : Type} {f : α → List Value} {xs : List α} {sz k : Nat} {v : Value}

theorem ev_lenM {t e : TypeId} {x : Operand} (h : Sl H sz v (xs.map f)) (hx : ev s x = v) (hd : T.d t = some (.slice e)) : opEval T s H (.call { callee := .builtin .len, args := #[x], argTypes := #[t] }) = some (nat xs.length, H) := by
  have := ev_len h hx hd
  rwa [List.length_map] at this

theorem ev_idxM {t e : TypeId} {ei : TI} {x i : Operand} (h : Sl H sz v (xs.map f)) (hx : ev s x = v) (hi : ev s i = nat k) (hk : k < xs.length) (hd : T.d t = some (.slice e)) (he : T.T e = some ei) (hs : ei.size = sz) (hp : 0 < sz) :
    opEval T s H (.indexAddr t x i) = some (ptrAt (sAddr v) (k * sz), H) := ev_idx h hx hi (by simpa using hk) hd he hs hp

theorem ev_ldM {u : Value} {t : TypeId} {a : Operand} {i : TI} (h : Sl H sz v (xs.map f)) (ha : ev s a = ptrAt (sAddr v) (k * sz)) (hk : k < xs.length) (hf : f xs[k] = [u]) (hT : T.T t = some i) (hs : i.size = sz) (hg : i.agg = false) : opEval T s H (.load t a) = some (u, H) :=
  ev_ld1 h ha (by rw [map_get hk, hf]) hT hs hg
theorem ev_ldAM {t : TypeId} {a : Operand} {i : TI} (h : Sl H sz v (xs.map f)) (ha : ev s a = ptrAt (sAddr v) (k * sz)) (hk : k < xs.length) (hT : T.T t = some i) (hs : i.size = sz) (hg : i.agg = true) : opEval T s H (.load t a) = some (.agg (f xs[k]).toArray, H) :=
  ev_ldA h ha (map_get hk) hT hs hg
theorem ev_ldfM {u : Value} {g : Nat} {t : TypeId} {a : Operand} {i : TI} (h : Sl H sz v (xs.map f)) (ha : ev s a = ptrAt (sAddr v) (k * sz + g)) (hk : k < xs.length) (hf : (f xs[k])[g]? = some u) (hT : T.T t = some i) (hs : i.size = 1) (hg : i.agg = false) : opEval T s H (.load t a) = some (u, H) :=
  ev_ldf h ha (map_get hk) hf hT hs hg
theorem ev_fldM {g m : Nat} {t : TypeId} {x : Operand} {fs : List (TypeId × Nat)} {q : TypeId × Nat} {i ki : TI} (h : Sl H sz v (xs.map f)) (hx : ev s x = ptrAt (sAddr v) m) (hk : k < xs.length) (hT : T.T t = some i) (hd : i.desc = .struct fs) (hf : fs[g]? = some q) (hq : T.T q.1 = some ki) (hp : 0 < ki.size) :
    opEval T s H (.fieldAddr t x g) = some (ptrAt (sAddr v) (m + q.2), H) := ev_fldS h hx (by simpa using hk : k < (xs.map f).length) hT hd hf hq hp

/-! ints -/

theorem ev_addN {t t2 : TypeId} {x y : Operand} {a b : Nat} (hx : ev s x = nat a) (hy : ev s y = nat b) (hb : a + b < 2 ^ 62) : opEval T s H (.binOp .add t x y t2) = some (nat (a + b), H) := ev_addn hx hy hb
theorem ev_subN {t t2 : TypeId} {x y : Operand} {a b : Nat} (hx : ev s x = nat a) (hy : ev s y = nat b) (hb : b ≤ a) (ha : a < 2 ^ 62) : opEval T s H (.binOp .sub t x y t2) = some (nat (a - b), H) := by
  refine ev_bin hx hy (by decide) ?_
  simp only [binInt]
  rw [show ((a : Int) - (b : Int)) = ((a - b : Nat) : Int) by omega, wrap_nat (by omega)]
theorem ev_addI {t t2 : TypeId} {x y : Operand} {a b : Int} (hx : ev s x = .int .i64 a) (hy : ev s y = .int .i64 b) (hb : -(2 ^ 62) ≤ a + b ∧ a + b < 2 ^ 62) : opEval T s H (.binOp .add t x y t2) = some (.int .i64 (a + b), H) := by
  refine ev_bin hx hy (by decide) ?_
  simp only [binInt]
  rw [i64_in _ (by omega)]
theorem ev_subI {t t2 : TypeId} {x y : Operand} {a b : Int} (hx : ev s x = .int .i64 a) (hy : ev s y = .int .i64 b) (hb : -(2 ^ 62) ≤ a - b ∧ a - b < 2 ^ 62) : opEval T s H (.binOp .sub t x y t2) = some (.int .i64 (a - b), H) := by
  refine ev_bin hx hy (by decide) ?_
  simp only [binInt]
  rw [i64_in _ (by omega)]
theorem ev_mulN {t t2 : TypeId} {x y : Operand} {a b : Nat} (hx : ev s x = nat a) (hy : ev s y = nat b) (hb : a * b < 2 ^ 62) : opEval T s H (.binOp .mul t x y t2) = some (nat (a * b), H) := by
  refine ev_bin hx hy (by decide) ?_
  simp only [binInt]
  rw [show ((a : Int) * (b : Int)) = ((a * b : Nat) : Int) by simp, wrap_nat hb]
theorem ev_divN {t t2 : TypeId} {x y : Operand} {a b : Nat} (hx : ev s x = nat a) (hy : ev s y = nat b) (hb : b ≠ 0) (ha : a < 2 ^ 62) : opEval T s H (.binOp .quo t x y t2) = some (nat (a / b), H) := by
  refine ev_bin hx hy (by decide) ?_
  have : (b : Int) ≠ 0 := by omega
  simp only [binInt, if_neg this]
  rw [show (Int.tdiv (a : Int) (b : Int)) = ((a / b : Nat) : Int) from rfl, wrap_nat (Nat.lt_of_le_of_lt (Nat.div_le_self _ _) ha)]

theorem ev_ltT {t t2 : TypeId} {x y : Operand} {a b : Nat} (hx : ev s x = nat a) (hy : ev s y = nat b) (h : a < b) : opEval T s H (.binOp .lss t x y t2) = some (.bool true, H) := ev_lt true hx hy (decide_eq_true (by omega))
theorem ev_ltF {t t2 : TypeId} {x y : Operand} {a b : Nat} (hx : ev s x = nat a) (hy : ev s y = nat b) (h : ¬ a < b) : opEval T s H (.binOp .lss t x y t2) = some (.bool false, H) := ev_lt false hx hy (decide_eq_false (by omega))
theorem ev_leT {t t2 : TypeId} {x y : Operand} {a b : Nat} (hx : ev s x = nat a) (hy : ev s y = nat b) (h : a ≤ b) : opEval T s H (.binOp .leq t x y t2) = some (.bool true, H) := ev_leq true hx hy (decide_eq_true (by omega))
theorem ev_leF {t t2 : TypeId} {x y : Operand} {a b : Nat} (hx : ev s x = nat a) (hy : ev s y = nat b) (h : ¬ a ≤ b) : opEval T s H (.binOp .leq t x y t2) = some (.bool false, H) := ev_leq false hx hy (decide_eq_false (by omega))
theorem ev_gtT {t t2 : TypeId} {x y : Operand} {a b : Nat} (hx : ev s x = nat a) (hy : ev s y = nat b) (h : b < a) : opEval T s H (.binOp .gtr t x y t2) = some (.bool true, H) := ev_gt true hx hy (decide_eq_true (by omega))
theorem ev_gtF {t t2 : TypeId} {x y : Operand} {a b : Nat} (hx : ev s x = nat a) (hy : ev s y = nat b) (h : ¬ b < a) : opEval T s H (.binOp .gtr t x y t2) = some (.bool false, H) := ev_gt false hx hy (decide_eq_false (by omega))
theorem ev_geT {t t2 : TypeId} {x y : Operand} {a b : Nat} (hx : ev s x = nat a) (hy : ev s y = nat b) (h : b ≤ a) : opEval T s H (.binOp .geq t x y t2) = some (.bool true, H) := ev_bin hx hy (by decide) (by simp [binInt]; omega)
theorem ev_geF {t t2 : TypeId} {x y : Operand} {a b : Nat} (hx : ev s x = nat a) (hy : ev s y = nat b) (h : ¬ b ≤ a) : opEval T s H (.binOp .geq t x y t2) = some (.bool false, H) := ev_bin hx hy (by decide) (by simp [binInt]; omega)
theorem ev_eqT {t t2 : TypeId} {x y : Operand} {a b : Nat} (hx : ev s x = nat a) (hy : ev s y = nat b) (h : a = b) : opEval T s H (.binOp .eql t x y t2) = some (.bool true, H) := ev_eq true hx hy (decide_eq_true (by omega))
theorem ev_eqF {t t2 : TypeId} {x y : Operand} {a b : Nat} (hx : ev s x = nat a) (hy : ev s y = nat b) (h : ¬ a = b) : opEval T s H (.binOp .eql t x y t2) = some (.bool false, H) := ev_eq false hx hy (decide_eq_false (by omega))
theorem ev_neT {t t2 : TypeId} {x y : Operand} {a b : Nat} (hx : ev s x = nat a) (hy : ev s y = nat b) (h : ¬ a = b) : opEval T s H (.binOp .neq t x y t2) = some (.bool true, H) := ev_ne true hx hy (decide_eq_true (by omega))
theorem ev_neF {t t2 : TypeId} {x y : Operand} {a b : Nat} (hx : ev s x = nat a) (hy : ev s y = nat b) (h : a = b) : opEval T s H (.binOp .neq t x y t2) = some (.bool false, H) := ev_ne false hx hy (decide_eq_false (by omega))
/-- The same over integers: the truth is given. -/
theorem ev_iltT {t t2 : TypeId} {x y : Operand} {a b : Int} (hx : ev s x = .int .i64 a) (hy : ev s y = .int .i64 b) (h : a < b) : opEval T s H (.binOp .lss t x y t2) = some (.bool true, H) := ev_lt true hx hy (decide_eq_true h)
theorem ev_iltF {t t2 : TypeId} {x y : Operand} {a b : Int} (hx : ev s x = .int .i64 a) (hy : ev s y = .int .i64 b) (h : ¬ a < b) : opEval T s H (.binOp .lss t x y t2) = some (.bool false, H) := ev_lt false hx hy (decide_eq_false h)
theorem ev_igtT {t t2 : TypeId} {x y : Operand} {a b : Int} (hx : ev s x = .int .i64 a) (hy : ev s y = .int .i64 b) (h : b < a) : opEval T s H (.binOp .gtr t x y t2) = some (.bool true, H) := ev_gt true hx hy (decide_eq_true h)
theorem ev_igtF {t t2 : TypeId} {x y : Operand} {a b : Int} (hx : ev s x = .int .i64 a) (hy : ev s y = .int .i64 b) (h : ¬ b < a) : opEval T s H (.binOp .gtr t x y t2) = some (.bool false, H) := ev_gt false hx hy (decide_eq_false h)
theorem ev_igeT {t t2 : TypeId} {x y : Operand} {a b : Int} (hx : ev s x = .int .i64 a) (hy : ev s y = .int .i64 b) (h : b ≤ a) : opEval T s H (.binOp .geq t x y t2) = some (.bool true, H) := ev_bin hx hy (by decide) (by simp [binInt]; omega)
theorem ev_igeF {t t2 : TypeId} {x y : Operand} {a b : Int} (hx : ev s x = .int .i64 a) (hy : ev s y = .int .i64 b) (h : ¬ b ≤ a) : opEval T s H (.binOp .geq t x y t2) = some (.bool false, H) := ev_bin hx hy (by decide) (by simp [binInt]; omega)
theorem ev_ileT {t t2 : TypeId} {x y : Operand} {a b : Int} (hx : ev s x = .int .i64 a) (hy : ev s y = .int .i64 b) (h : a ≤ b) : opEval T s H (.binOp .leq t x y t2) = some (.bool true, H) := ev_leq true hx hy (decide_eq_true h)
theorem ev_ileF {t t2 : TypeId} {x y : Operand} {a b : Int} (hx : ev s x = .int .i64 a) (hy : ev s y = .int .i64 b) (h : ¬ a ≤ b) : opEval T s H (.binOp .leq t x y t2) = some (.bool false, H) := ev_leq false hx hy (decide_eq_false h)
theorem ev_ieqT {t t2 : TypeId} {x y : Operand} {a b : Int} (hx : ev s x = .int .i64 a) (hy : ev s y = .int .i64 b) (h : a = b) : opEval T s H (.binOp .eql t x y t2) = some (.bool true, H) := ev_eq true hx hy (decide_eq_true h)
theorem ev_ieqF {t t2 : TypeId} {x y : Operand} {a b : Int} (hx : ev s x = .int .i64 a) (hy : ev s y = .int .i64 b) (h : ¬ a = b) : opEval T s H (.binOp .eql t x y t2) = some (.bool false, H) := ev_eq false hx hy (decide_eq_false h)
theorem ev_ineT {t t2 : TypeId} {x y : Operand} {a b : Int} (hx : ev s x = .int .i64 a) (hy : ev s y = .int .i64 b) (h : ¬ a = b) : opEval T s H (.binOp .neq t x y t2) = some (.bool true, H) := ev_ne true hx hy (decide_eq_true h)
theorem ev_ineF {t t2 : TypeId} {x y : Operand} {a b : Int} (hx : ev s x = .int .i64 a) (hy : ev s y = .int .i64 b) (h : a = b) : opEval T s H (.binOp .neq t x y t2) = some (.bool false, H) := ev_ne false hx hy (decide_eq_false (by simp [h]))

theorem ev_maxN {x y : Operand} {t : TypeId} {a b : Nat} (hx : ev s x = nat a) (hy : ev s y = nat b) : opEval T s H (.call { callee := .builtin .max, args := #[x, y], argTypes := #[t, t] }) = some (nat (max a b), H) := by
  have : (if (b : Int) > a then (b : Int) else a) = ((max a b : Nat) : Int) := by split <;> omega
  simp only [opEval, vBuiltin, List.map_cons, List.map_nil, hx, hy, this]
theorem ev_minN {x y : Operand} {t : TypeId} {a b : Nat} (hx : ev s x = nat a) (hy : ev s y = nat b) : opEval T s H (.call { callee := .builtin .min, args := #[x, y], argTypes := #[t, t] }) = some (nat (min a b), H) := by
  have : (if (b : Int) < a then (b : Int) else a) = ((min a b : Nat) : Int) := by split <;> omega
  simp only [opEval, vBuiltin, List.map_cons, List.map_nil, hx, hy, this]
theorem ev_minI {x y : Operand} {t : TypeId} {a b : Int} (hx : ev s x = .int .i64 a) (hy : ev s y = .int .i64 b) : opEval T s H (.call { callee := .builtin .min, args := #[x, y], argTypes := #[t, t] }) = some (.int .i64 (min a b), H) := by
  have : (if (b : Int) < a then (b : Int) else a) = min a b := by split <;> omega
  simp only [opEval, vBuiltin, List.map_cons, List.map_nil, hx, hy, this]

theorem rep_cells (z : List Value) : ∀ n : Nat, repCells z n = (List.replicate n z).flatten
  | 0 => rfl
  | n + 1 => by simp [repCells, rep_cells z n, List.replicate_succ]

theorem ev_make {t e : TypeId} {i ei : TI} {x y : Operand} {n : Nat} (hx : ev s x = nat n) (hy : ev s y = nat n) (hT : T.T t = some i) (hd : i.desc = .slice e) (he : T.T e = some ei) (hp : 0 < ei.size) (hb : n * ei.bytes ≤ 2 ^ 40) (hn : n ≤ 2 ^ 40) :
    opEval T s H (.makeSlice t x y) = some (.slice (some ⟨H.length, 0, none⟩) n n, H ++ [.row ei.size (List.replicate n (cellsOf ei.zero)).flatten true true]) := by
  have : (0 : Int) ≤ (n : Int) ∧ (n : Int) ≤ (n : Int) ∧ (n : Int) * (ei.bytes : Int) ≤ 2 ^ 40 ∧ 0 < ei.size ∧ (n : Int) ≤ 2 ^ 40 := ⟨by omega, by omega, by exact_mod_cast hb, hp, by omega⟩
  simp only [opEval, vMakeSlice, hT, hd, hx, hy, he, Option.bind_eq_bind, Option.bind_some, if_pos this, rep_cells, Int.toNat_natCast]

theorem slo_row {p : Nat} {es : List (List Value)} (hs : ∀ e ∈ es, e.length = sz) (hn : es.length ≤ 2 ^ 40) : Slo sz (.slice (some ⟨p, 0, none⟩) es.length es.length) es (some (p, .row sz es.flatten true true)) := by
  refine ⟨hs, hn, ?_⟩
  by_cases h : es = []
  · subst h; exact .inl ⟨rfl, _, .inr ⟨_, _, rfl⟩, rfl⟩
  · exact .inr ⟨p, 0, _, _, rfl, rfl, .inr ⟨rfl, h⟩, by rw [flat_len hs]; omega, by rw [List.drop_zero, ← flat_len hs, List.take_length]⟩
end

section
variable {T : Tab} {H0 H : Heap} {L : List Th} {α : Type} {f : α → List Value} {Q : St} {cal : CallF} {d : Bool} {ops : Array Oper} {i n t : Nat} {is : List Nat} {a : Nat → Value} {l : List (Nat × Value)} {o : Oper}

/-- 'make' of a slice. -/
theorem Rg.make {ty e : TypeId} {ii ei : TI} {x y : Operand} {m sz : Nat} (x0 : α) (hM : Mem H0 H L) (ho : ops[i]? = some o) (hg : o.guard = none) (ht : o.dst = some t) (hop : o.op = .makeSlice ty x y) (hx : ev (mkS n a l) x = nat m) (hy : ev (mkS n a l) y = nat m) (hT : T.T ty = some ii) (hd : ii.desc = .slice e) (he : T.T e = some ei) (hp : 0 < ei.size) (hs : ei.size = sz) (hz : cellsOf ei.zero = f x0) (hz1 : (f x0).length = sz) (hb : m * ei.bytes ≤ 2 ^ 40) (hm : m ≤ 2 ^ 40)
    (k : ∀ u H1, Mem H0 H1 (.sl sz u ((List.replicate m x0).map f) :: L) → Ext H H1 → Rg T cal d ops is (mkS n a ((t, u) :: l)) H1 Q) : Rg T cal d ops (i :: is) (mkS n a l) H Q := by
  have key := slo_row (p := H.length) (sz := sz) (es := List.replicate m (f x0)) (by intro e he; rw [List.eq_of_mem_replicate he]; exact hz1) (by simpa using hm)
  simp only [List.length_replicate] at key
  rw [← hz] at key
  refine Rg.mkSl hM ho hg ht (sz := sz) (es := (List.replicate m x0).map f) (by rw [hop]; exact ev_make hx hy hT hd he hp hb hm) (by rw [hop]; simp [inPlace]) rfl ?_ k
  rw [List.map_replicate, ← hz, hs]
  exact key

/-- A slice that is written out. -/
theorem Rg.lit {ty : TypeId} {parts : Array (Nat × Operand)} {m sz : Nat} {xs : List α} (hM : Mem H0 H L) (ho : ops[i]? = some o) (hg : o.guard = none) (ht : o.dst = some t) (hop : o.op = .buildSlice ty m parts) (he : opEval T (mkS n a l) H (.buildSlice ty m parts) = some (.slice (some ⟨H.length, 0, none⟩) (xs.map f).length (xs.map f).length, H ++ [.row sz (xs.map f).flatten true true])) (hs : ∀ e ∈ xs.map f, e.length = sz) (hn : (xs.map f).length ≤ 2 ^ 40)
    (k : ∀ u H1, Mem H0 H1 (.sl sz u (xs.map f) :: L) → Ext H H1 → Rg T cal d ops is (mkS n a ((t, u) :: l)) H1 Q) : Rg T cal d ops (i :: is) (mkS n a l) H Q :=
  Rg.mkSl hM ho hg ht (by rw [hop]; exact he) (by rw [hop]; simp [inPlace]) rfl (slo_row hs hn) k

theorem Rg.stoM {ty : TypeId} {oa ov : Operand} {ti : TI} {j sz k : Nat} {xs : List α} {v u : Value} (y : α) (hM : Mem H0 H L) (ho : ops[i]? = some o) (hg : o.guard = none) (ht : o.dst = none) (hop : o.op = .store ty oa ov) (hj : L[j]? = some (.sl sz v (xs.map f))) (ha : ev (mkS n a l) oa = ptrAt (sAddr v) (k * sz)) (hv : ev (mkS n a l) ov = u)
    (hk : k < xs.length) (hT : T.T ty = some ti) (hc : cellsOf u = f y) (hl : (f y).length = sz) (hs : ti.size = sz) (h1 : (f y).all oneCell = true) (k : ∀ H1, Mem H0 H1 (L.set j (.sl sz v ((xs.set k y).map f))) → Rg T cal d ops is (mkS n a l) H1 Q) : Rg T cal d ops (i :: is) (mkS n a l) H Q :=
  Rg.stoe hM ho hg ht hop hj ha hv (by simpa using hk) hT (by rw [hc]; exact hl) hs (by rw [hc]; exact h1) (by rw [hc, List.map_set]) k

theorem Rg.appM {ty e : TypeId} {ii ei : TI} {x y : Operand} {j sz : Nat} {v w : Value} {xs ys : List α} (hM : Mem H0 H L) (ho : ops[i]? = some o) (hg : o.guard = none) (ht : o.dst = some t) (hop : o.op = .call { callee := .builtin .append, args := #[x, y], argTypes := #[ty, ty] })
    (hj : L[j]? = some (.sl sz v (xs.map f))) (hx : ev (mkS n a l) x = v) (hy : ev (mkS n a l) y = w) (hw : Sl H sz w (ys.map f)) (hT : SliceTy T ty e ii ei) (hsz : ei.size = sz) (h1 : ∀ y ∈ ys, (f y).length = sz ∧ (f y).all oneCell = true) (hb : (xs.length + ys.length) * ei.bytes ≤ 2 ^ 40) (hne : ys ≠ [])
    (k : ∀ u H1, Mem H0 H1 (L.set j (.sl sz u ((xs ++ ys).map f))) → Grown u → Rg T cal d ops is (mkS n a ((t, u) :: l)) H1 Q) : Rg T cal d ops (i :: is) (mkS n a l) H Q :=
  Rg.app hM ho hg ht hop hj hx hy hw hT hsz (by intro e he; obtain ⟨y, hy, rfl⟩ := List.mem_map.1 he; exact h1 y hy) (by simpa using hb) (by simpa using hne) (by rw [← List.map_append]; exact k)

theorem Rg.loM {ty e : TypeId} {ei : TI} {x lo : Operand} {j sz m : Nat} {v : Value} {xs : List α} (hM : Mem H0 H L) (ho : ops[i]? = some o) (hg : o.guard = none) (ht : o.dst = some t) (hop : o.op = .slice ty x (some lo) none none) (hj : L[j]? = some (.sl sz v (xs.map f))) (hx : ev (mkS n a l) x = v) (hlo : ev (mkS n a l) lo = nat m) (hd : T.d ty = some (.slice e)) (he : T.T e = some ei) (hs : ei.size = sz) (hm : m ≤ xs.length)
    (k : ∀ u, Mem H0 H (L.set j (.sl sz u ((xs.drop m).map f))) → (Grown v → Grown u) → Rg T cal d ops is (mkS n a ((t, u) :: l)) H Q) : Rg T cal d ops (i :: is) (mkS n a l) H Q := by
  obtain ⟨u, h1, h2, h3⟩ := hM.cutLo (ik := .i64) hj hd he hs (k := m) (by simpa using hm)
  rw [← List.map_drop] at h2
  refine Rg.opp ho hg ht (v := u) (H1 := H) ?_ (by rw [hop]; simp [inPlace]) (k u h2 h3)
  rw [hop]
  refine ev_slice hx ?_
  simp only [Option.map_some, Option.map_none, hlo]
  exact h1
theorem Rg.hiM {ty e : TypeId} {ei : TI} {x hi : Operand} {j sz m : Nat} {v : Value} {xs : List α} (hM : Mem H0 H L) (hgr : Grown v) (ho : ops[i]? = some o) (hg : o.guard = none) (ht : o.dst = some t) (hop : o.op = .slice ty x none (some hi) none) (hj : L[j]? = some (.sl sz v (xs.map f))) (hx : ev (mkS n a l) x = v) (hhi : ev (mkS n a l) hi = nat m) (hd : T.d ty = some (.slice e)) (he : T.T e = some ei) (hs : ei.size = sz) (hm : m ≤ xs.length)
    (k : ∀ u, Mem H0 H (L.set j (.sl sz u ((xs.take m).map f))) → Grown u → Rg T cal d ops is (mkS n a ((t, u) :: l)) H Q) : Rg T cal d ops (i :: is) (mkS n a l) H Q := by
  obtain ⟨u, h1, h2, h3⟩ := hM.cutHi (ik := .i64) hj hgr hd he hs (k := m) (by simpa using hm)
  rw [← List.map_take] at h2
  refine Rg.opp ho hg ht (v := u) (H1 := H) ?_ (by rw [hop]; simp [inPlace]) (k u h2 h3)
  rw [hop]
  refine ev_slice hx ?_
  simp only [Option.map_some, Option.map_none, hhi]
  exact h1
end

end Go.Proofs.Ytdhbclplondmjaa.C

/- Walks over arcs: plain. -/
set_option linter.unusedSimpArgs false
namespace Go.Proofs.Ytdhbclplondmjaa.C

/-- A walk of n arcs. -/
def W (arcs : List (Nat × Nat)) : Nat → Nat → Nat → Prop
  | 0, c, b => c = b
  | n + 1, c, b => ∃ a, W arcs n c a ∧ (a, b) ∈ arcs

theorem W.trans {arcs : List (Nat × Nat)} {m n a b c : Nat} (h : W arcs m a b) (k : W arcs n b c) : W arcs (m + n) a c := by
  induction n generalizing c with
  | zero => cases k; exact h
  | succ n ih =>
    obtain ⟨d, h1, h2⟩ := k
    exact ⟨d, ih h1, h2⟩

theorem nodup_le : ∀ (N : Nat) (l : List Nat), l.Nodup → (∀ x ∈ l, x < N) → l.length ≤ N
  | 0, [], _, _ => Nat.le_refl _
  | 0, x :: l, _, h => absurd (h x (by simp)) (by omega)
  | N + 1, l, hd, h => by
    by_cases hm : N ∈ l
    · have h1 := nodup_le N (l.erase N) (hd.erase N) fun x hx => by
        have h2 := (hd.mem_erase_iff).1 hx
        have := h x h2.2
        have := h2.1
        omega
      rw [List.length_erase_of_mem hm] at h1
      omega
    · have h1 := nodup_le N l hd fun x hx => by
        have h2 := h x hx
        have h3 : x ≠ N := fun e => hm (e ▸ hx)
        omega
      omega

/-- The places of a walk. -/
theorem W.places {arcs : List (Nat × Nat)} : ∀ {n c b : Nat}, W arcs n c b → ∃ v : Nat → Nat, v 0 = c ∧ v n = b ∧ ∀ i, i < n → (v i, v (i + 1)) ∈ arcs
  | 0, c, b, h => ⟨fun _ => c, rfl, h, fun i hi => by omega⟩
  | n + 1, c, b, ⟨a, h, k⟩ => by
    obtain ⟨v, h1, h2, h3⟩ := W.places h
    refine ⟨fun i => if i ≤ n then v i else b, by simp [h1], if_neg (by omega), fun i hi => ?_⟩
    by_cases q : i < n
    · have e1 : i ≤ n := by omega
      have e2 : i + 1 ≤ n := by omega
      simp only [e1, e2, if_true]; exact h3 i q
    · have : i = n := by omega
      subst this
      have e1 : ¬ (i + 1 ≤ i) := by omega
      simp only [Nat.le_refl, e1, if_true, if_false, h2]; exact k

theorem W.of_places {arcs : List (Nat × Nat)} {v : Nat → Nat} {i : Nat} : ∀ {n : Nat}, (∀ k, i ≤ k → k < i + n → (v k, v (k + 1)) ∈ arcs) → W arcs n (v i) (v (i + n))
  | 0, _ => rfl
  | n + 1, h => ⟨v (i + n), W.of_places fun k h1 h2 => h k h1 (by omega), h (i + n) (by omega) (by omega)⟩

theorem map_nodup {n : Nat} {f : Nat → Nat} (h : ∀ i j, i < j → j < n → f i ≠ f j) : ((List.range n).map f).Nodup := by
  induction n with
  | zero => simp
  | succ n ih =>
    rw [List.range_succ, List.map_append, List.nodup_append]
    refine ⟨ih fun i j h1 h2 => h i j h1 (by omega), by simp, ?_⟩
    intro x hx y hy
    obtain ⟨i, hi, rfl⟩ := List.mem_map.1 hx
    simp at hy
    subst hy
    exact h i n (List.mem_range.1 hi) (by omega)

/-- A walk need not be longer than there are places. -/
theorem W.short {arcs : List (Nat × Nat)} {N : Nat} (hN : ∀ p ∈ arcs, p.2 < N) : ∀ (n : Nat) {c b : Nat}, 1 ≤ n → W arcs n c b → ∃ m, 1 ≤ m ∧ m ≤ N ∧ W arcs m c b := by
  intro n
  induction n using Nat.strongRecOn with
  | _ n ih =>
    intro c b hn h
    by_cases q : n ≤ N
    · exact ⟨n, hn, q, h⟩
    · obtain ⟨v, h1, h2, h3⟩ := h.places
      have hex : ∃ i j, i < j ∧ j < n ∧ v (i + 1) = v (j + 1) := by
        refine Classical.byContradiction fun hno => ?_
        have hd : ((List.range n).map fun i => v (i + 1)).Nodup := map_nodup fun i j hi hj e => hno ⟨i, j, hi, hj, e⟩
        have := nodup_le N _ hd fun x hx => by
          obtain ⟨i, hi, rfl⟩ := List.mem_map.1 hx
          exact hN _ (h3 i (List.mem_range.1 hi))
        simp at this
        omega
      obtain ⟨i, j, hij, hj, e⟩ := hex
      have w1 : W arcs (i + 1) (v 0) (v (0 + (i + 1))) := W.of_places fun k _ hk => h3 k (by omega)
      have w2 : W arcs (n - (j + 1)) (v (j + 1)) (v (j + 1 + (n - (j + 1)))) := W.of_places fun k _ hk => h3 k (by omega)
      rw [show j + 1 + (n - (j + 1)) = n by omega, h2, ← e] at w2
      rw [Nat.zero_add, h1] at w1
      have w := w1.trans w2
      exact ih (i + 1 + (n - (j + 1))) (by omega) (by omega) w

/-- The longest walk of at most k arcs; 0 without one. -/
def Far (arcs : List (Nat × Nat)) (k c b x : Nat) : Prop :=
  (x = 0 ∧ ∀ n, 1 ≤ n → n ≤ k → ¬ W arcs n c b) ∨ (1 ≤ x ∧ x ≤ k ∧ W arcs x c b ∧ ∀ n, n ≤ k → W arcs n c b → n ≤ x)

theorem Far.pos {arcs : List (Nat × Nat)} {k c b x : Nat} (h : Far arcs k c b x) : 0 < x ↔ ∃ n, 1 ≤ n ∧ n ≤ k ∧ W arcs n c b := by
  rcases h with ⟨rfl, h⟩ | ⟨h1, h2, h3, _⟩
  · exact ⟨fun h0 => absurd h0 (by omega), fun ⟨n, a, b, w⟩ => absurd w (h n a b)⟩
  · exact ⟨fun _ => ⟨x, h1, h2, h3⟩, fun _ => by omega⟩

/-- One round of the law's 'reach'. -/
theorem Far.succ {arcs : List (Nat × Nat)} {k c b : Nat} {f : Nat → Nat} {y : Nat} (hf : ∀ a, Far arcs k c a (f a))
    (h1 : f b ≤ y) (h2 : ∀ a, (a, b) ∈ arcs → c = a → 1 ≤ y) (h3 : ∀ a, (a, b) ∈ arcs → 0 < f a → f a + 1 ≤ y)
    (h4 : y = f b ∨ (∃ a, (a, b) ∈ arcs ∧ c = a ∧ y = 1) ∨ ∃ a, (a, b) ∈ arcs ∧ 0 < f a ∧ y = f a + 1) : Far arcs (k + 1) c b y := by
  have up : ∀ n, n ≤ k + 1 → W arcs n c b → 1 ≤ n → n ≤ y := by
    intro n hn hw h0
    match n, hw with
    | 1, ⟨a, hz, ha⟩ => exact h2 a ha hz
    | n + 2, ⟨a, hz, ha⟩ =>
      rcases hf a with ⟨_, e⟩ | ⟨e1, e2, e3, e4⟩
      · exact absurd hz (e (n + 1) (by omega) (by omega))
      · have := e4 (n + 1) (by omega) hz
        have := h3 a ha (by omega)
        omega
  rcases Nat.eq_zero_or_pos y with q | q
  · exact .inl ⟨q, fun n hn1 hn2 hw => by have := up n hn2 hw hn1; omega⟩
  · refine .inr ⟨q, ?_, ?_, fun n hn hw => ?_⟩
    · rcases h4 with rfl | ⟨a, _, _, rfl⟩ | ⟨a, _, _, rfl⟩
      · rcases hf b with ⟨e, _⟩ | ⟨_, e, _⟩ <;> omega
      · omega
      · rcases hf a with ⟨e, _⟩ | ⟨_, e, _⟩ <;> omega
    · rcases h4 with rfl | ⟨a, ha, rfl, rfl⟩ | ⟨a, ha, hp, rfl⟩
      · rcases hf b with ⟨e, _⟩ | ⟨_, _, e, _⟩
        · omega
        · exact e
      · exact ⟨c, rfl, ha⟩
      · rcases hf a with ⟨e, _⟩ | ⟨_, _, e, _⟩
        · omega
        · exact ⟨a, e, ha⟩
    · rcases Nat.eq_zero_or_pos n with z | z
      · omega
      · exact up n hn hw z

end Go.Proofs.Ytdhbclplondmjaa.C

/- Graphs in the memory; a search in breadth, plain. -/
set_option linter.unusedVariables false
set_option linter.unusedSimpArgs false
namespace Go.Proofs.Ytdhbclplondmjaa.C
open Go.RowKit

structure Arc where
  i : Nat
  lo : Nat
  up : Nat

abbrev arcC (a : Arc) : List Value := [nat a.i, nat a.lo, nat a.up]
def nextOf (arcs : List Arc) (i : Nat) : List Arc := arcs.filter fun a => decide (a.lo = i)
def prs (arcs : List Arc) : List (Nat × Nat) := arcs.map fun a => (a.lo, a.up)

structure WF (n : Nat) (arcs : List Arc) : Prop where
  lo : ∀ a ∈ arcs, a.lo < n
  up : ∀ a ∈ arcs, a.up < n

theorem next_mem {arcs : List Arc} {i : Nat} {a : Arc} : a ∈ nextOf arcs i ↔ a ∈ arcs ∧ a.lo = i := by simp [nextOf]
theorem next_len (arcs : List Arc) (i : Nat) : (nextOf arcs i).length ≤ arcs.length := List.length_filter_le _ _

theorem Ext.get {H K : Heap} (h : Ext H K) {b : Nat} {X : Blk} (e : H[b]? = some X) : K[b]? = some X := (h.old b (List.getElem?_eq_some_iff.1 e).1).trans e

/-- The graph of these names and arcs lies at gp. -/
structure GraphIs (H : Heap) (gp : Nat) (names : List Nm) (arcs : List Arc) (an aa ax : Value) (M : Nat) (nx : List Value) (own : Bool) : Prop where
  box : H[gp]? = some (.row 4 [an, .map (some M), aa, ax] own true)
  hnames : Sl H 1 an (names.map encS)
  harcs : Sl H 3 aa (arcs.map arcC)
  hnext : Sl H 1 ax (nx.map encV)
  len : nx.length = names.length
  each : ∀ i (h : i < nx.length), Sl H 3 nx[i] ((nextOf arcs i).map arcC)

def GraphAt (H : Heap) (gp : Nat) (names : List Nm) (arcs : List Arc) : Prop := ∃ an aa ax M nx own, GraphIs H gp names arcs an aa ax M nx own

theorem GraphIs.sees {H K : Heap} (h : Sees H K) {gp : Nat} {names : List Nm} {arcs : List Arc} {an aa ax : Value} {M : Nat} {nx : List Value} {own : Bool} (g : GraphIs H gp names arcs an aa ax M nx own) : ∃ own1, GraphIs K gp names arcs an aa ax M nx own1 := by
  obtain ⟨o, ho⟩ := h _ _ _ _ g.box
  exact ⟨o, ho, g.hnames.sees h, g.harcs.sees h, g.hnext.sees h, g.len, fun i hi => (g.each i hi).sees h⟩
theorem GraphAt.sees {H K : Heap} (h : Sees H K) {gp : Nat} {names : List Nm} {arcs : List Arc} (g : GraphAt H gp names arcs) : GraphAt K gp names arcs := by
  obtain ⟨an, aa, ax, M, nx, own, g⟩ := g
  obtain ⟨o, g⟩ := g.sees h
  exact ⟨an, aa, ax, M, nx, o, g⟩

/-! ### A search in breadth -/

def stepArc (s : List Bool × List Nat) (a : Arc) : List Bool × List Nat := if s.1.getD a.up false then s else (s.1.set a.up true, s.2 ++ [a.up])
def bfsIn (ys : List Arc) (s : List Bool × List Nat) (j : Nat) : List Bool × List Nat := (ys.take j).foldl stepArc s

theorem bfsIn_succ {ys : List Arc} {s : List Bool × List Nat} {j : Nat} (h : j < ys.length) : bfsIn ys s (j + 1) = stepArc (bfsIn ys s j) ys[j] := by
  unfold bfsIn
  rw [← List.take_append_getElem h, List.foldl_append]
  rfl
theorem bfsIn_zero {ys : List Arc} {s : List Bool × List Nat} : bfsIn ys s 0 = s := rfl

theorem bfsIn_len {ys : List Arc} {s : List Bool × List Nat} : ∀ {j : Nat}, j ≤ ys.length → (bfsIn ys s j).1.length = s.1.length ∧ (bfsIn ys s j).2.length ≤ s.2.length + j
  | 0, _ => ⟨rfl, Nat.le_refl _⟩
  | j + 1, h => by
    obtain ⟨h1, h2⟩ := bfsIn_len (s := s) (Nat.le_of_succ_le h)
    rw [bfsIn_succ h]
    unfold stepArc
    split
    · exact ⟨h1, by omega⟩
    · simp; omega

/-- There is a way of one arc at least. -/
def Rch (arcs : List Arc) (a b : Nat) : Prop := ∃ n, 1 ≤ n ∧ W (prs arcs) n a b

structure Bfs (arcs : List Arc) (n src : Nat) (xs : List Bool) (q : List Nat) : Prop where
  len : xs.length = n
  lt : ∀ x ∈ q, x < n
  sound : ∀ k, xs.getD k false = true → Rch arcs src k
  qs : ∀ x ∈ q, x = src ∨ xs.getD x false = true
  full : ∀ x, (x = src ∨ xs.getD x false = true) → x ∈ q ∨ ∀ a ∈ arcs, a.lo = x → xs.getD a.up false = true

theorem count_set {xs : List Bool} {k : Nat} (h : k < xs.length) (hf : xs.getD k false = false) : (xs.set k true).count false + 1 = xs.count false := by
  induction xs generalizing k with
  | nil => simp at h
  | cons x xs ih =>
    cases k with
    | zero =>
      simp at hf; subst hf
      simp [List.count_cons]
    | succ k =>
      have := ih (k := k) (by simpa using h) (by simpa using hf)
      simp only [List.set_cons_succ, List.count_cons]
      omega

theorem getD_set {xs : List Bool} {k i : Nat} (h : k < xs.length) : (xs.set k true).getD i false = if i = k then true else xs.getD i false := by
  simp only [List.getD_eq_getElem?_getD, List.getElem?_set]
  by_cases e : k = i
  · subst e; simp [h]
  · rw [if_neg e, if_neg (fun h => e h.symm)]

theorem Bfs.start {arcs : List Arc} {n src : Nat} (h : src < n) : Bfs arcs n src (List.replicate n false) [src] := by
  have hf : ∀ k, (List.replicate n false).getD k false = false := fun k => by
    rw [List.getD_eq_getElem?_getD, List.getElem?_replicate]; split <;> rfl
  refine ⟨by simp, by simpa using h, (fun k hk => by rw [hf] at hk; cases hk), by simp, fun x hx => ?_⟩
  rcases hx with rfl | hx
  · exact .inl (by simp)
  · rw [hf] at hx; cases hx

/-- One unit's arcs. -/
theorem Bfs.step {arcs : List Arc} {n src i : Nat} {xs : List Bool} {q : List Nat} (wf : WF n arcs) (h : Bfs arcs n src xs (i :: q)) {ys : List Arc} (hys : ∀ a, a ∈ ys ↔ a ∈ arcs ∧ a.lo = i) :
    Bfs arcs n src (bfsIn ys (xs, q) ys.length).1 (bfsIn ys (xs, q) ys.length).2 ∧ (bfsIn ys (xs, q) ys.length).2.length + 2 * (bfsIn ys (xs, q) ys.length).1.count false ≤ q.length + 2 * xs.count false ∧ (bfsIn ys (xs, q) ys.length).2.length + (bfsIn ys (xs, q) ys.length).1.count false = q.length + xs.count false := by
  have key : ∀ j, j ≤ ys.length → let s := bfsIn ys (xs, q) j
      s.1.length = n ∧ (∀ x ∈ s.2, x < n) ∧ (∀ k, s.1.getD k false = true → Rch arcs src k) ∧ (∀ x ∈ s.2, x = src ∨ s.1.getD x false = true) ∧
      (∀ k, xs.getD k false = true → s.1.getD k false = true) ∧ (∀ k, s.1.getD k false = true → xs.getD k false = true ∨ k ∈ s.2) ∧ (∀ k ∈ q, k ∈ s.2) ∧ (∀ k (hk : k < ys.length), k < j → s.1.getD ys[k].up false = true) ∧
      s.2.length + 2 * s.1.count false ≤ q.length + 2 * xs.count false ∧ s.2.length + s.1.count false = q.length + xs.count false := by
    intro j
    induction j with
    | zero =>
      intro _
      refine ⟨h.len, fun x hx => h.lt x (List.mem_cons_of_mem _ hx), h.sound, fun x hx => h.qs x (List.mem_cons_of_mem _ hx), fun k hk => hk, fun k hk => .inl hk, fun k hk => hk, fun k hk h0 => by omega, Nat.le_refl _, rfl⟩
    | succ j ih =>
      intro hj
      obtain ⟨h1, h2, h3, h4, h5, h6, h7, h8, h9, h10⟩ := ih (by omega)
      have hlt : j < ys.length := by omega
      have hmem := (hys _).1 (List.getElem_mem hlt)
      have hup := wf.up _ hmem.1
      show let s := bfsIn ys (xs, q) (j + 1); _
      rw [bfsIn_succ hlt]
      generalize bfsIn ys (xs, q) j = s at *
      obtain ⟨zs, r⟩ := s
      simp only at h1 h2 h3 h4 h5 h6 h7 h8 h9 h10
      unfold stepArc
      by_cases hb : zs.getD ys[j].up false = true
      · simp only [hb, if_true]
        refine ⟨h1, h2, h3, h4, h5, h6, h7, fun k hk hkj => ?_, h9, h10⟩
        rcases Nat.lt_or_ge k j with z | z
        · exact h8 k hk z
        · have : k = j := by omega
          subst this; exact hb
      · have hb' : zs.getD ys[j].up false = false := by simpa using hb
        simp only [hb', Bool.false_eq_true, if_false]
        have hl : ys[j].up < zs.length := by omega
        have hrch : Rch arcs src ys[j].up := by
          have h0 := h.qs i List.mem_cons_self
          have harc : (i, ys[j].up) ∈ prs arcs := List.mem_map.2 ⟨ys[j], hmem.1, by rw [hmem.2]⟩
          rcases h0 with rfl | h0
          · exact ⟨1, Nat.le_refl _, i, rfl, harc⟩
          · obtain ⟨m, hm, hw⟩ := h.sound i h0
            exact ⟨m + 1, by omega, i, hw, harc⟩
        refine ⟨by simpa using h1, fun x hx => ?_, fun k hk => ?_, fun x hx => ?_, fun k hk => ?_, fun k hk => ?_, fun k hk => ?_, fun k hk hkj => ?_, ?_, ?_⟩
        · rcases List.mem_append.1 hx with z | z
          · exact h2 x z
          · simp at z; rw [z]; exact hup
        · rw [getD_set hl] at hk
          split at hk
          · rename_i e; rw [e]; exact hrch
          · exact h3 k hk
        · rw [getD_set hl]
          rcases List.mem_append.1 hx with z | z
          · rcases h4 x z with e | e
            · exact .inl e
            · right; split
              · rfl
              · exact e
          · simp at z; right; rw [if_pos z]
        · rw [getD_set hl]; split
          · rfl
          · exact h5 k hk
        · rw [getD_set hl] at hk
          split at hk
          · rename_i e; right; rw [e]; simp
          · rcases h6 k hk with e | e
            · exact .inl e
            · exact .inr (List.mem_append_left _ e)
        · exact List.mem_append_left _ (h7 k hk)
        · rw [getD_set hl]; split
          · rfl
          · rename_i hne
            rcases Nat.lt_or_ge k j with z | z
            · exact h8 k hk z
            · have : k = j := by omega
              subst this; exact absurd rfl hne
        · have := count_set hl hb'
          simp only [List.length_append, List.length_cons, List.length_nil]; omega
        · have := count_set hl hb'
          simp only [List.length_append, List.length_cons, List.length_nil]; omega
  obtain ⟨h1, h2, h3, h4, h5, h6, h7, h8, h9, h10⟩ := key ys.length (Nat.le_refl _)
  refine ⟨⟨h1, h2, h3, h4, fun x hx => ?_⟩, h9, h10⟩
  have fin : x = i → ∀ a ∈ arcs, a.lo = x → (bfsIn ys (xs, q) ys.length).1.getD a.up false = true := by
    rintro rfl a ha hlo
    obtain ⟨k, hk, e⟩ := List.mem_iff_getElem.1 ((hys a).2 ⟨ha, hlo⟩)
    have := h8 k hk hk
    rw [e] at this; exact this
  have old : (x = src ∨ xs.getD x false = true) → x ∈ (bfsIn ys (xs, q) ys.length).2 ∨ ∀ a ∈ arcs, a.lo = x → (bfsIn ys (xs, q) ys.length).1.getD a.up false = true := by
    intro hx
    rcases h.full x hx with z | z
    · rcases List.mem_cons.1 z with z | z
      · exact .inr (fin z)
      · exact .inl (h7 x z)
    · exact .inr fun a ha hlo => h5 _ (z a ha hlo)
  rcases hx with hx | hx
  · exact old (.inl hx)
  · rcases h6 x hx with z | z
    · exact old (.inr z)
    · exact .inl z

open Classical in
noncomputable def rchB (arcs : List Arc) (a b : Nat) : Bool := decide (Rch arcs a b)
theorem rchB_iff {arcs : List Arc} {a b : Nat} : rchB arcs a b = true ↔ Rch arcs a b := by unfold rchB; simp
noncomputable def reachB (arcs : List Arc) (n src : Nat) : List Bool := (List.range n).map (rchB arcs src)
theorem reachB_len (arcs : List Arc) (n src : Nat) : (reachB arcs n src).length = n := by simp [reachB]
theorem reachB_get {arcs : List Arc} {n src k : Nat} (h : k < (reachB arcs n src).length) : (reachB arcs n src)[k] = rchB arcs src k := by simp [reachB]

theorem Bfs.done {arcs : List Arc} {n src : Nat} {xs : List Bool} (h : Bfs arcs n src xs []) : xs = reachB arcs n src := by
  have hall : ∀ m a, W (prs arcs) m src a → (m = 0 ∧ a = src) ∨ xs.getD a false = true := by
    intro m
    induction m with
    | zero => intro a hw; exact .inl ⟨rfl, hw.symm⟩
    | succ m ih =>
      rintro a ⟨b, hb, hm⟩
      obtain ⟨c, hc, e⟩ := List.mem_map.1 hm
      have hx : b = src ∨ xs.getD b false = true := by
        rcases ih b hb with z | z
        · exact .inl z.2
        · exact .inr z
      have := (h.full b hx).resolve_left (by simp) c hc (by simpa using (Prod.mk.inj e).1)
      right
      rw [← (Prod.mk.inj e).2]; exact this
  refine List.ext_getElem (by simp [reachB, h.len]) fun k h1 h2 => ?_
  simp only [reachB, List.getElem_map, List.getElem_range]
  have e : xs.getD k false = xs[k] := by simp [List.getD_eq_getElem?_getD, h1]
  by_cases q : Rch arcs src k
  · obtain ⟨m, hm, hw⟩ := q
    have := (hall m k hw).resolve_left (by omega)
    rw [← e, this]; symm; exact rchB_iff.2 ⟨m, hm, hw⟩
  · have q' : rchB arcs src k = false := by
      cases z : rchB arcs src k with
      | false => rfl
      | true => exact absurd (rchB_iff.1 z) q
    rw [q']
    cases hb : xs[k] with
    | false => rfl
    | true => exact absurd (h.sound k (by rw [e, hb])) q

theorem count_le (xs : List Bool) : xs.count false ≤ xs.length := List.count_le_length

end Go.Proofs.Ytdhbclplondmjaa.C

/- The program's search in breadth, run. -/
set_option linter.unusedVariables false
set_option linter.unusedSimpArgs false
set_option maxRecDepth 100000
set_option maxHeartbeats 4000000
namespace Go.Proofs.Ytdhbclplondmjaa.C
open Go.RowKit Go.Sort

theorem reached_runs {H : Heap} {gp src : Nat} {names : List Nm} {arcs : List Arc} (hG : GraphAt H gp names arcs) (wf : WF names.length arcs) (hs : src < names.length) (hn : names.length ≤ 2 ^ 20) (ha : arcs.length ≤ 2 ^ 20) :
    ∃ r H1, big tab 38 [.pointer (some ⟨gp, 0, none⟩), nat src] H = some (r, H1) ∧ Mem H H1 [.sl 1 r ((reachB arcs names.length src).map encB)] := by
  obtain ⟨an, aa, ax, M, nx, own, hG⟩ := hG
  have hnl := hG.len
  have hM := Mem.start H
  refine big_of_runs rfl rfl rfl ?_
  obtain ⟨z, hz⟩ := startC_mkS Try.f38 [.pointer (some ⟨gp, 0, none⟩), nat src]
  rw [show startC (38, Try.f38).snd [.pointer (some ⟨gp, 0, none⟩), nat src] = _ from hz]
  clear hz
  refine Runs.cut (n := 55) (l := [(0, .pointer (some ⟨gp, 0, none⟩)), (1, nat src)]) (Is.of ⟨rfl, rfl, rfl, rfl, trivial⟩) (fun a0 => ?_)
  refine Runs.seq ?_
  refine Runs.region ?_
  refine Rg.opp (v := .slice none 0 0) rfl rfl rfl rfl rfl ?_
  refine Rg.nil ?_
  refine Runs.seq ?_
  refine Runs.region ?_
  refine Rg.opp (v := .pointer (some ⟨gp, 0, none⟩)) rfl rfl rfl rfl rfl ?_
  refine Rg.opp (v := .pointer (some ⟨gp, 0, none⟩)) rfl rfl rfl rfl rfl ?_
  refine Rg.opp (v := .pointer (some ⟨gp, 0, none⟩)) rfl rfl rfl (ev_fld (o := 0) (p := (37, 0)) rfl rfl rfl rfl rfl (by decide)) rfl ?_
  refine Rg.opp (v := an) rfl rfl rfl (ev_ldb (hM.ext.get hG.box) rfl rfl rfl rfl rfl) rfl ?_
  refine Rg.opp (v := nat names.length) rfl rfl rfl (ev_lenM (hG.hnames.sees hM.ext.sees) rfl rfl) rfl ?_
  refine Rg.make (f := encB) (sz := 1) (m := names.length) false hM rfl rfl rfl rfl rfl rfl rfl rfl rfl (by decide) rfl rfl rfl (by show names.length * 1 ≤ 2 ^ 40; omega) (by omega) (fun u5 Hc (hM : Mem H Hc ([.sl 1 u5 (List.map encB (List.replicate names.length false))])) _ => ?_)
  refine Rg.opp (v := u5) rfl rfl rfl rfl rfl ?_
  refine Rg.nil ?_
  refine Runs.seq ?_
  refine Runs.region ?_
  refine Rg.opp (v := nat src) rfl rfl rfl rfl rfl ?_
  refine Rg.lit (f := encN) (sz := 1) (xs := [src]) hM rfl rfl rfl rfl rfl (by simp) (by simp) (fun u1 Hc (hM : Mem H Hc ([.sl 1 u1 (List.map encN ([src])), .sl 1 u5 (List.map encB (List.replicate names.length false))])) _ => ?_)
  refine Rg.opp (v := u1) rfl rfl rfl rfl rfl ?_
  refine Rg.nil ?_
  refine Runs.seq ?_
  refine Runs.block ?_
  have hrep : (List.replicate names.length false).count false = names.length := by simp
  refine Runs.loop (fun m s Hc => ∃ (w : Value) (q : List Nat) (xs : List Bool), m = q.length + 2 * xs.count false ∧ Mem H Hc ([.sl 1 w (List.map encN q), .sl 1 u5 (List.map encB xs)]) ∧ (Bfs arcs names.length src xs q) ∧ (q.length + xs.count false ≤ names.length + 1) ∧ Is s 55 [(0, .pointer (some ⟨gp, 0, none⟩)), (5, u5), (6, w)]) _
    ⟨u1, [src], List.replicate names.length false, rfl, hM, Bfs.start hs, by rw [hrep]; simp; omega, Is.of ⟨rfl, rfl, rfl, rfl, rfl, rfl, trivial⟩⟩ ?_
  rintro m s Hc ⟨w, q, xs, rfl, hM, hB, hql, hs⟩
  obtain ⟨a2, rfl⟩ := hs.mk1
  clear hs
  refine Runs.seq ?_
  refine Runs.seq ?_
  refine Runs.region ?_
  refine Rg.opp (v := w) rfl rfl rfl rfl rfl ?_
  refine Rg.opp (v := nat q.length) rfl rfl rfl (ev_lenM (hM.get_sl (j := 0) rfl) rfl rfl) rfl ?_
  by_cases hpos : 0 < q.length
  · skip
    obtain ⟨i, q', rfl⟩ : ∃ i q', q = i :: q' := by
      cases q with
      | nil => simp at hpos
      | cons i q' => exact ⟨i, q', rfl⟩
    have hi : i < names.length := hB.lt i List.mem_cons_self
    have hil := hB.len
    have hcl := count_le xs
    refine Rg.opp (v := .bool true) rfl rfl rfl (ev_gtT rfl rfl (hpos)) rfl ?_
    refine Rg.nil ?_
    refine Runs.cond true rfl (fun _ => ?_) (fun h => by cases h)
    refine Runs.skip ?_
    refine Runs.block ?_
    refine Runs.seq ?_
    refine Runs.region ?_
    refine Rg.opp (v := w) rfl rfl rfl rfl rfl ?_
    refine Rg.opp (v := ptrAt (sAddr w) (0 * 1)) rfl rfl rfl (ev_idxM (k := 0) (hM.get_sl (j := 0) rfl) rfl rfl (by simp) rfl rfl rfl (by decide)) rfl ?_
    refine Rg.opp (v := nat i) rfl rfl rfl (ev_ldM (k := 0) (hM.get_sl (j := 0) rfl) rfl (by simp) rfl rfl rfl rfl) rfl ?_
    refine Rg.opp (v := nat i) rfl rfl rfl rfl rfl ?_
    refine Rg.nil ?_
    refine Runs.seq ?_
    refine Runs.region ?_
    refine Rg.opp (v := w) rfl rfl rfl rfl rfl ?_
    refine Rg.loM (f := encN) (j := 0) (m := 1) hM rfl rfl rfl rfl rfl rfl rfl rfl rfl rfl (by simp) (fun w0 (hM : Mem H Hc ([.sl 1 w0 (List.map encN ((i :: q').drop 1)), .sl 1 u5 (List.map encB xs)])) hgr' => ?_)
    replace hM : Mem H Hc ([.sl 1 w0 (List.map encN q'), .sl 1 u5 (List.map encB xs)]) := hM
    refine Rg.opp (v := w0) rfl rfl rfl rfl rfl ?_
    refine Rg.nil ?_
    refine Runs.seq ?_
    refine Runs.region ?_
    refine Rg.opp (v := .pointer (some ⟨gp, 0, none⟩)) rfl rfl rfl rfl rfl ?_
    refine Rg.opp (v := .pointer (some ⟨gp, 0, none⟩)) rfl rfl rfl rfl rfl ?_
    refine Rg.opp (v := .pointer (some ⟨gp, 3, none⟩)) rfl rfl rfl (ev_fld (o := 0) (p := (75, 3)) rfl rfl rfl rfl rfl (by decide)) rfl ?_
    refine Rg.opp (v := ax) rfl rfl rfl (ev_ldb (hM.ext.get hG.box) rfl rfl rfl rfl rfl) rfl ?_
    refine Rg.opp (v := nat i) rfl rfl rfl rfl rfl ?_
    refine Rg.opp (v := ptrAt (sAddr ax) (i * 1)) rfl rfl rfl (ev_idxM (k := i) (hG.hnext.sees hM.ext.sees) rfl rfl (by have := hG.len; omega) rfl rfl rfl (by decide)) rfl ?_
    refine Rg.opp (v := nx[i]) rfl rfl rfl (ev_ldM (k := i) (hG.hnext.sees hM.ext.sees) rfl (by have := hG.len; omega) rfl rfl rfl rfl) rfl ?_
    refine Rg.opp (v := nat ((nextOf arcs i).length)) rfl rfl rfl (ev_lenM ((hG.each i (by have := hG.len; omega)).sees hM.ext.sees) rfl rfl) rfl ?_
    refine Rg.opp (v := nat 0) rfl rfl rfl rfl rfl ?_
    refine Rg.nil ?_
    refine Runs.block ?_
    refine Runs.loop (fun m s Hc => ∃ (j : Nat) (w1 : Value) (q1 : List Nat) (xs1 : List Bool), m = (nextOf arcs i).length - j ∧ Mem H Hc ([.sl 1 w1 (List.map encN q1), .sl 1 u5 (List.map encB xs1)]) ∧ (j ≤ (nextOf arcs i).length) ∧ (bfsIn (nextOf arcs i) (xs, q') j = (xs1, q1)) ∧ Is s 55 [(0, .pointer (some ⟨gp, 0, none⟩)), (5, u5), (6, w1), (32, nx[i]), (33, nat ((nextOf arcs i).length)), (34, nat j)]) _
      ⟨0, w0, q', xs, rfl, hM, Nat.zero_le _, rfl, Is.of ⟨rfl, rfl, rfl, rfl, rfl, rfl, rfl, rfl, rfl, rfl, rfl, rfl, trivial⟩⟩ ?_
    rintro m s Hc ⟨j, w1, q1, xs1, rfl, hM, hj, hR, hs⟩
    obtain ⟨a3, rfl⟩ := hs.mk1
    clear hs
    have hlen := bfsIn_len (s := (xs, q')) hj
    rw [hR] at hlen
    have hyl := next_len arcs i
    refine Runs.seq ?_
    refine Runs.region ?_
    by_cases hlt : j < (nextOf arcs i).length
    · skip
      have hup : (nextOf arcs i)[j].up < names.length := wf.up _ (next_mem.1 (List.getElem_mem hlt)).1
      have hx1 : (nextOf arcs i)[j].up < xs1.length := by have := hlen.1; simp only at this; omega
      have hgd : xs1.getD (nextOf arcs i)[j].up false = xs1[(nextOf arcs i)[j].up] := by simp [List.getD_eq_getElem?_getD, hx1]
      refine Rg.opp (v := .bool true) rfl rfl rfl (ev_ltT rfl rfl (hlt)) rfl ?_
      refine Rg.nil ?_
      refine Runs.seq ?_
      refine Runs.cond true rfl (fun _ => ?_) (fun h => by cases h)
      refine Runs.skip ?_
      refine Runs.seq ?_
      refine Runs.block ?_
      refine Runs.seq ?_
      refine Runs.region ?_
      refine Rg.opp (v := ptrAt (sAddr (nx[i])) (j * 3)) rfl rfl rfl (ev_idxM (k := j) ((hG.each i (by have := hG.len; omega)).sees hM.ext.sees) rfl rfl (hlt) rfl rfl rfl (by decide)) rfl ?_
      refine Rg.opp (v := .agg (arcC ((nextOf arcs i)[j])).toArray) rfl rfl rfl (ev_ldAM (k := j) ((hG.each i (by have := hG.len; omega)).sees hM.ext.sees) rfl (hlt) rfl rfl rfl) rfl ?_
      refine Rg.new (v := fun p => .pointer (some ⟨p, 0, none⟩)) (X := .row 3 [.int .i64 0, .int .i64 0, .int .i64 0] true true) (th := fun p => .box p 3 [.int .i64 0, .int .i64 0, .int .i64 0]) hM rfl rfl rfl rfl rfl rfl (fun _ => rfl) (fun p4 Hc hM _ => ?_)
      refine Rg.stob (j := 0) (cs' := arcC ((nextOf arcs i)[j])) hM rfl rfl rfl rfl rfl rfl rfl rfl rfl rfl (Nat.le_of_ble_eq_true rfl) rfl (fun Hc (hM : Mem H Hc ([.box p4 3 (arcC ((nextOf arcs i)[j])), .sl 1 w1 (List.map encN q1), .sl 1 u5 (List.map encB xs1)])) => ?_)
      refine Rg.nil ?_
      refine Runs.seq ?_
      refine Runs.region ?_
      refine Rg.opp (v := u5) rfl rfl rfl rfl rfl ?_
      refine Rg.opp (v := .pointer (some ⟨p4, 2, none⟩)) rfl rfl rfl (ev_fld (o := 0) (p := (3, 2)) rfl rfl rfl rfl rfl (by decide)) rfl ?_
      refine Rg.opp (v := nat ((nextOf arcs i)[j].up)) rfl rfl rfl (ev_ldb (hM.get_box (j := 0) rfl) rfl rfl rfl rfl rfl) rfl ?_
      refine Rg.opp (v := ptrAt (sAddr u5) (((nextOf arcs i)[j].up) * 1)) rfl rfl rfl (ev_idxM (k := (nextOf arcs i)[j].up) (hM.get_sl (j := 2) rfl) rfl rfl (hx1) rfl rfl rfl (by decide)) rfl ?_
      refine Rg.opp (v := .bool (xs1[(nextOf arcs i)[j].up])) rfl rfl rfl (ev_ldM (k := ((nextOf arcs i)[j].up)) (hM.get_sl (j := 2) rfl) rfl (hx1) rfl rfl rfl rfl) rfl ?_
      refine Rg.opp (v := .bool (!(xs1[(nextOf arcs i)[j].up]))) rfl rfl rfl rfl rfl ?_
      refine Rg.nil ?_
      refine Runs.cond (!(xs1[(nextOf arcs i)[j].up])) rfl (fun h5 => ?_) (fun h5 => ?_)
      · skip
        refine Runs.seq ?_
        refine Runs.region ?_
        refine Rg.opp (v := u5) rfl rfl rfl rfl rfl ?_
        refine Rg.opp (v := .pointer (some ⟨p4, 2, none⟩)) rfl rfl rfl (ev_fld (o := 0) (p := (3, 2)) rfl rfl rfl rfl rfl (by decide)) rfl ?_
        refine Rg.opp (v := nat ((nextOf arcs i)[j].up)) rfl rfl rfl (ev_ldb (hM.get_box (j := 0) rfl) rfl rfl rfl rfl rfl) rfl ?_
        refine Rg.opp (v := ptrAt (sAddr u5) (((nextOf arcs i)[j].up) * 1)) rfl rfl rfl (ev_idxM (k := (nextOf arcs i)[j].up) (hM.get_sl (j := 2) rfl) rfl rfl (hx1) rfl rfl rfl (by decide)) rfl ?_
        refine Rg.stoM (f := encB) (j := 2) (k := ((nextOf arcs i)[j].up)) true hM rfl rfl rfl rfl rfl rfl rfl (hx1) rfl rfl rfl rfl rfl (fun Hc (hM : Mem H Hc ([.box p4 3 (arcC ((nextOf arcs i)[j])), .sl 1 w1 (List.map encN q1), .sl 1 u5 (List.map encB ((xs1).set (((nextOf arcs i)[j].up)) true))])) => ?_)
        refine Rg.nil ?_
        refine Runs.region ?_
        refine Rg.opp (v := w1) rfl rfl rfl rfl rfl ?_
        refine Rg.opp (v := .pointer (some ⟨p4, 2, none⟩)) rfl rfl rfl (ev_fld (o := 0) (p := (3, 2)) rfl rfl rfl rfl rfl (by decide)) rfl ?_
        refine Rg.opp (v := nat ((nextOf arcs i)[j].up)) rfl rfl rfl (ev_ldb (hM.get_box (j := 0) rfl) rfl rfl rfl rfl rfl) rfl ?_
        refine Rg.lit (f := encN) (sz := 1) (xs := [(nextOf arcs i)[j].up]) hM rfl rfl rfl rfl rfl (by simp) (by simp) (fun u6 Hc (hM : Mem H Hc ([.sl 1 u6 (List.map encN ([(nextOf arcs i)[j].up])), .box p4 3 (arcC ((nextOf arcs i)[j])), .sl 1 w1 (List.map encN q1), .sl 1 u5 (List.map encB ((xs1).set (((nextOf arcs i)[j].up)) true))])) _ => ?_)
        refine Rg.appM (f := encN) (sz := 1) (j := 2) (v := w1) (xs := q1) (ys := [(nextOf arcs i)[j].up]) hM rfl rfl rfl rfl rfl rfl rfl (hM.get_sl (j := 0) rfl) ⟨rfl, rfl, rfl, by decide⟩ rfl (by simp [oneCell]) (by show (q1.length + 1) * 8 ≤ 2 ^ 40; have := hlen.2; simp only [List.length_cons] at this hql; omega) (by simp) (fun w2 Hc (hM : Mem H Hc ([.sl 1 u6 (List.map encN ([(nextOf arcs i)[j].up])), .box p4 3 (arcC ((nextOf arcs i)[j])), .sl 1 w2 (List.map encN (q1 ++ ([(nextOf arcs i)[j].up]))), .sl 1 u5 (List.map encB ((xs1).set (((nextOf arcs i)[j].up)) true))])) hgr => ?_)
        replace hM : Mem H Hc ([.box p4 3 (arcC ((nextOf arcs i)[j])), .sl 1 w2 (List.map encN (q1 ++ ([(nextOf arcs i)[j].up]))), .sl 1 u5 (List.map encB ((xs1).set (((nextOf arcs i)[j].up)) true))]) := hM.erase 0
        refine Rg.opp (v := w2) rfl rfl rfl rfl rfl ?_
        refine Rg.nil ?_
        refine Runs.region ?_
        refine Rg.opp (v := nat (j + 1)) rfl rfl rfl (ev_addN (b := 1) rfl rfl (by omega)) rfl ?_
        refine Rg.opp (v := nat (j + 1)) rfl rfl rfl rfl rfl ?_
        refine Rg.nil ?_
        refine ⟨(nextOf arcs i).length - (j + 1), by omega, j + 1, w2, q1 ++ [(nextOf arcs i)[j].up], xs1.set (nextOf arcs i)[j].up true, rfl, hM.tail, hlt, by rw [bfsIn_succ hlt, hR]; simp only [stepArc, hgd]; rw [if_neg (by simpa using h5)], Is.of ⟨rfl, rfl, rfl, rfl, rfl, rfl, rfl, rfl, rfl, rfl, rfl, rfl, trivial⟩⟩
      · skip
        refine Runs.skip ?_
        refine Runs.region ?_
        refine Rg.opp (v := nat (j + 1)) rfl rfl rfl (ev_addN (b := 1) rfl rfl (by omega)) rfl ?_
        refine Rg.opp (v := nat (j + 1)) rfl rfl rfl rfl rfl ?_
        refine Rg.nil ?_
        refine ⟨(nextOf arcs i).length - (j + 1), by omega, j + 1, w1, q1, xs1, rfl, hM.tail, hlt, by rw [bfsIn_succ hlt, hR]; simp only [stepArc, hgd]; rw [if_pos (by simpa using h5)], Is.of ⟨rfl, rfl, rfl, rfl, rfl, rfl, rfl, rfl, rfl, rfl, rfl, rfl, trivial⟩⟩
    · skip
      have hje : j = (nextOf arcs i).length := by omega
      subst hje
      have hst := hB.step wf (ys := nextOf arcs i) (fun a => next_mem)
      rw [hR] at hst
      simp only [List.length_cons] at hst hql ⊢
      refine Rg.opp (v := .bool false) rfl rfl rfl (ev_ltF rfl rfl (hlt)) rfl ?_
      refine Rg.nil ?_
      refine Runs.seq ?_
      refine Runs.cond false rfl (fun h => by cases h) (fun _ => ?_)
      refine Runs.exit ?_
      refine ⟨q1.length + 2 * xs1.count false, by have := hst.2.1; omega, w1, q1, xs1, rfl, hM, hst.1, by have := hst.2.2; omega, Is.of ⟨rfl, rfl, rfl, rfl, rfl, rfl, trivial⟩⟩
  · skip
    refine Rg.opp (v := .bool false) rfl rfl rfl (ev_gtF rfl rfl (hpos)) rfl ?_
    refine Rg.nil ?_
    refine Runs.cond false rfl (fun h => by cases h) (fun _ => ?_)
    refine Runs.exit ?_
    refine Runs.seq ?_
    refine Runs.region ?_
    refine Rg.opp (v := u5) rfl rfl rfl rfl rfl ?_
    refine Rg.opp (v := u5) rfl rfl rfl rfl rfl ?_
    refine Rg.nil ?_
    refine Runs.ret ?_
    refine ⟨u5, rfl, ?_⟩
    have hq : q = [] := by
      cases q with
      | nil => rfl
      | cons i q => simp at hpos
    subst hq
    rw [← hB.done]
    exact hM.tail

end Go.Proofs.Ytdhbclplondmjaa.C

/- The two lists of units are one. -/
set_option linter.unusedVariables false
set_option linter.unusedSimpArgs false
namespace Go.Proofs.Ytdhbclplondmjaa.C
open Go.RowKit Go.Sort

theorem nlt_of {x y : Nm} (h : x ≤ y) (hne : x ≠ y) : x < y := by
  rcases Decidable.em (x < y) with q | q
  · exact q
  · exact absurd (List.le_antisymm h (List.not_lt.1 q)) hne

theorem strict_eq : ∀ {a b : List Nm}, a.Pairwise (· < ·) → b.Pairwise (· < ·) → (∀ x, x ∈ a ↔ x ∈ b) → a = b
  | [], [], _, _, _ => rfl
  | [], y :: b, _, _, h => absurd ((h y).2 List.mem_cons_self) (by simp)
  | x :: a, [], _, _, h => absurd ((h x).1 List.mem_cons_self) (by simp)
  | x :: a, y :: b, ha, hb, h => by
    rw [List.pairwise_cons] at ha hb
    have hxy : x = y := by
      rcases List.mem_cons.1 ((h x).1 List.mem_cons_self) with e | e
      · exact e
      · rcases List.mem_cons.1 ((h y).2 List.mem_cons_self) with e' | e'
        · exact e'.symm
        · exact absurd (List.lt_trans (hb.1 x e) (ha.1 y e')) (List.lt_irrefl _)
    subst hxy
    rw [strict_eq ha.2 hb.2 fun z => ?_]
    constructor
    · intro hz
      rcases List.mem_cons.1 ((h z).1 (List.mem_cons_of_mem _ hz)) with e | e
      · subst e; exact absurd (ha.1 z hz) (List.lt_irrefl _)
      · exact e
    · intro hz
      rcases List.mem_cons.1 ((h z).2 (List.mem_cons_of_mem _ hz)) with e | e
      · subst e; exact absurd (hb.1 z hz) (List.lt_irrefl _)
      · exact e

theorem strict_nodup {a : List Nm} (h : a.Pairwise (· < ·)) : a.Nodup := h.imp fun h e => absurd (e ▸ h) (List.lt_irrefl _)

theorem sortNm_sorted (l : List Nm) : (sortNm l).Pairwise (· ≤ ·) := by
  have := List.pairwise_mergeSort (le := fun x y : Nm => decide (x ≤ y)) (fun a b c h1 h2 => by simp only [decide_eq_true_eq] at *; exact List.le_trans h1 h2) (fun a b => by simp only [Bool.or_eq_true, decide_eq_true_eq]; exact List.le_total a b) l
  exact this.imp fun h => by simpa using h

theorem compact_strict {zs : List Nm} (h : zs.Pairwise (· ≤ ·)) : (Lib.compact zs).Pairwise (· < ·) := by
  have hget : ∀ i j, i ≤ j → j < zs.length → zs.toArray[i]! ≤ zs.toArray[j]! := by
    intro i j hij hj
    rcases Nat.eq_or_lt_of_le hij with rfl | q
    · exact List.le_refl _
    · have := List.pairwise_iff_getElem.1 h i j (by omega) hj q
      simpa [hj, show i < zs.length by omega] using this
  have key : ∀ m, m ≤ zs.length → (Lib.compactUpTo zs.toArray m).Pairwise (· < ·) ∧ ∀ y ∈ Lib.compactUpTo zs.toArray m, y ≤ zs.toArray[m - 1]! := by
    intro m
    induction m with
    | zero => intro _; simp [Lib.compactUpTo]
    | succ m ih =>
      intro hm
      obtain ⟨h1, h2⟩ := ih (by omega)
      rw [Lib.compactUpTo_succ]
      have hup : ∀ y ∈ Lib.compactUpTo zs.toArray m, y ≤ zs.toArray[m]! := fun y hy => List.le_trans (h2 y hy) (hget (m - 1) m (by omega) (by omega))
      by_cases hk : Lib.keeps zs.toArray m = true
      · rw [if_pos hk]
        refine ⟨List.pairwise_append.2 ⟨h1, by simp, fun y hy z hz => ?_⟩, fun y hy => ?_⟩
        · rw [List.mem_singleton] at hz
          subst hz
          rcases Nat.eq_zero_or_pos m with q | q
          · subst q; simp [Lib.compactUpTo] at hy
          · have hk' : m = 0 ∨ zs.toArray[m]! ≠ zs.toArray[m - 1]! := of_decide_eq_true hk
            have hne := hk'.resolve_left (by omega)
            have h3 := nlt_of (hget (m - 1) m (by omega) (by omega)) (fun e => hne e.symm)
            exact List.lt_of_le_of_lt (h2 y hy) h3
        · rcases List.mem_append.1 hy with q | q
          · exact hup y q
          · rw [List.mem_singleton] at q; subst q; exact List.le_refl _
      · rw [if_neg hk, List.append_nil]
        exact ⟨h1, hup⟩
  exact (key zs.length (Nat.le_refl _)).1

theorem unitsP_strict (l : List Rel) : (unitsP l).Pairwise (· < ·) := compact_strict (sortNm_sorted _)

theorem scan_at {out : List Nm} {x : Nm} (h : out.Pairwise (· < ·)) : ∀ k, k ≤ out.length → ∀ i (hi : i < out.length), i < k → (i < (scanK out x k).1 ↔ out[i] < x)
  | 0, _, i, _, h0 => by omega
  | k + 1, hk, i, hi, hik => by
    have hg : out.getD k [] = out[k]'(by omega) := by simp [List.getD_eq_getElem?_getD, show k < out.length by omega]
    unfold scanK
    simp only [hg, bytesLess_eq, decide_eq_true_eq]
    by_cases hb : out[k]'(by omega) < x
    · rw [if_pos hb]
      refine ⟨fun _ => ?_, fun _ => hik⟩
      rcases Nat.eq_or_lt_of_le (Nat.le_of_lt_succ hik) with e | e
      · subst e; exact hb
      · exact List.lt_trans (List.pairwise_iff_getElem.1 h i k hi (by omega) e) hb
    · rw [if_neg hb]
      rcases Nat.eq_or_lt_of_le (Nat.le_of_lt_succ hik) with e | e
      · subst e
        have := scanK_le out x i
        exact ⟨fun h => by omega, fun h => absurd h hb⟩
      · exact scan_at h k (by omega) i hi e

theorem insL_strict {out : List Nm} {x : Nm} (h : out.Pairwise (· < ·)) : (insL out x).Pairwise (· < ·) := by
  unfold insL
  by_cases hs : (scanK out x out.length).2 = true
  · rw [if_pos hs]; exact h
  · rw [if_neg hs]
    have hn : x ∉ out := fun hx => hs ((scanK_mem out x out.length (Nat.le_refl _)).2 (by rwa [List.take_length]))
    have hat := scan_at (x := x) h out.length (Nat.le_refl _)
    generalize (scanK out x out.length).1 = k at *
    have h1 : ∀ y ∈ out.take k, y < x := by
      intro y hy
      obtain ⟨i, hi, rfl⟩ := List.mem_iff_getElem.1 hy
      rw [List.length_take] at hi
      rw [List.getElem_take]
      exact (hat i (by omega) (by omega)).1 (by omega)
    have h2 : ∀ y ∈ out.drop k, x < y := by
      intro y hy
      obtain ⟨i, hi, rfl⟩ := List.mem_iff_getElem.1 hy
      rw [List.length_drop] at hi
      rw [List.getElem_drop]
      have hlt := (hat (k + i) (by omega) (by omega))
      have h3 : ¬ out[k + i]'(by omega) < x := fun z => by have := hlt.2 z; omega
      exact nlt_of (List.not_lt.1 h3) (fun e => hn (by rw [e]; exact List.getElem_mem _))
    rw [List.pairwise_append, List.pairwise_append]
    refine ⟨⟨h.sublist (List.take_sublist _ _), by simp, fun a ha b hb => by rw [List.mem_singleton] at hb; subst hb; exact h1 a ha⟩, h.sublist (List.drop_sublist _ _), fun a ha b hb => ?_⟩
    rcases List.mem_append.1 ha with q | q
    · exact List.lt_trans (h1 a q) (h2 b hb)
    · rw [List.mem_singleton] at q; subst q; exact h2 b hb

theorem unitsL_strict (l : List Rel) : (unitsL l).Pairwise (· < ·) := by
  unfold unitsL
  have key : ∀ (xs out : List Nm), out.Pairwise (· < ·) → (xs.foldl insL out).Pairwise (· < ·) := by
    intro xs
    induction xs with
    | nil => intro out h; exact h
    | cons x xs ih => intro out h; exact ih _ (insL_strict h)
  exact key _ _ List.Pairwise.nil

theorem units_eq (l : List Rel) : unitsP l = unitsL l := strict_eq (unitsP_strict l) (unitsL_strict l) fun x => by rw [mem_unitsP, mem_unitsL]

/-! ### Maps, things by the number -/

theorem Rg.mapset {H0 H : Heap} {L : List Th} {Q : St} {cal : CallF} {d : Bool} {ops : Array Oper} {i n : Nat} {is : List Nat} {a : Nat → Value} {l : List (Nat × Value)} {o : Oper} {m k v : Operand} {M j x : Nat} {xs : List Nm} {s : Nm}
    (hM : Mem H0 H L) (ho : ops[i]? = some o) (hg : o.guard = none) (ht : o.dst = none) (hop : o.op = .mapUpdate 74 m k v) (hj : L[j]? = some (.map M (mapE 0 xs))) (hm : ev (mkS n a l) m = .map (some M)) (hk : ev (mkS n a l) k = str s) (hv : ev (mkS n a l) v = nat x) (hn : s ∉ xs) (hi : x = xs.length)
    (k : ∀ H1, Mem H0 H1 (L.set j (.map M (mapE 0 (xs ++ [s])))) → Rg tab cal d ops is (mkS n a l) H1 Q) : Rg tab cal d ops (i :: is) (mkS n a l) H Q := by
  have hb := hM.get_map hj
  refine Rg.opn (v := undef) ho hg ht (by rw [hop]; exact ev_mapset hm hk hv hb hn hi) (by rw [hop]; simp [inPlace]) (k _ (hM.upd hj (fun x hx => hx) rfl rfl))

theorem ev_lookN {s : List Value} {H : Heap} {x k : Operand} {M : Nat} {xs : List Nm} {a : Nm} (hx : ev s x = .map (some M)) (hk : ev s k = str a) (h : H[M]? = some (.map (mapE 0 xs))) : opEval tab s H (.lookup 74 x k false) = some (nat (idx xs a), H) := by
  have := ev_look (x := x) (k := k) false hx hk h
  rw [if_neg (by decide), idx_val] at this
  exact this
theorem ev_lookT {s : List Value} {H : Heap} {x k : Operand} {M : Nat} {xs : List Nm} {a : Nm} (hx : ev s x = .map (some M)) (hk : ev s k = str a) (h : H[M]? = some (.map (mapE 0 xs))) : opEval tab s H (.lookup 74 x k true) = some (.tuple #[nat (idx xs a), .bool (decide (a ∈ xs))], H) := by
  have := ev_look (x := x) (k := k) true hx hk h
  rw [if_pos rfl, idx_val, idx_some] at this
  exact this
theorem ev_lookB {s : List Value} {H : Heap} {x k : Operand} {M : Nat} {xs : List Nm} {a : Nm} {p : Bool} (hp : decide (a ∈ xs) = p) (hx : ev s x = .map (some M)) (hk : ev s k = str a) (h : H[M]? = some (.map (mapE 0 xs))) : opEval tab s H (.lookup 74 x k true) = some (.tuple #[nat (idx xs a), .bool p], H) := by
  rw [← hp]; exact ev_lookT hx hk h
theorem nodup_take {xs : List Nm} (h : xs.Nodup) {k : Nat} (hk : k < xs.length) : xs[k] ∉ xs.take k := by
  intro hm
  obtain ⟨i, hi, e⟩ := List.mem_iff_getElem.1 hm
  rw [List.length_take] at hi
  rw [List.getElem_take] at e
  have := (List.pairwise_iff_getElem.1 h) i k (by omega) hk (by omega)
  exact this e

theorem Mem.addNil {H0 H : Heap} {L : List Th} (h : Mem H0 H L) (sz n : Nat) : Mem H0 H (L ++ List.replicate n (.sl sz (.slice none 0 0) [])) := by
  obtain ⟨he, S, hl, ho, hs⟩ := h
  refine ⟨he, S ++ List.replicate n none, by simp [hl], ho.none, fun j t e => ?_⟩
  rcases Nat.lt_or_ge j L.length with q | q
  · rw [List.getElem?_append_left q] at e
    obtain ⟨x, hx, ht⟩ := hs j t e
    exact ⟨x, by rw [List.getElem?_append_left (by omega)]; exact hx, ht⟩
  · rw [List.getElem?_append_right q, List.getElem?_replicate] at e
    split at e
    · rename_i hlt
      simp only [Option.some.injEq] at e
      subst e
      exact ⟨none, by rw [List.getElem?_append_right (by omega), hl, List.getElem?_replicate, if_pos hlt], by simp, by simp, .inl ⟨rfl, none, .inl rfl, rfl⟩⟩
    · simp at e

def NIL : Value := .slice none 0 0
/-- The lists of arcs under way. -/
def inner (nx : List Value) (n : Nat) (arcs : List Arc) : List Th := (List.range n).map fun i => .sl 3 (nx.getD i NIL) ((nextOf arcs i).map arcC)

theorem inner_start (n : Nat) : List.replicate n (Th.sl 3 (.slice none 0 0) []) = inner (List.replicate n (.slice none 0 0)) n [] := by
  refine List.ext_getElem (by simp [inner]) fun i h1 h2 => ?_
  have hi : i < n := by simpa using h1
  simp [inner, nextOf, NIL, List.getD_eq_getElem?_getD, List.getElem?_replicate, hi]
theorem inner_get {nx : List Value} {n i : Nat} {arcs : List Arc} (h : i < n) (hn : nx.length = n) : (inner nx n arcs)[i]? = some (.sl 3 (nx[i]'(by omega)) ((nextOf arcs i).map arcC)) := by
  have : nx.getD i NIL = nx[i]'(by omega) := by simp [List.getD_eq_getElem?_getD, show i < nx.length by omega]
  simp [inner, h, ← this]
theorem inner_set {nx : List Value} {n : Nat} {arcs : List Arc} {a : Arc} {u : Value} (h : a.lo < n) (hn : nx.length = n) : (inner nx n arcs).set a.lo (.sl 3 u ((nextOf arcs a.lo ++ [a]).map arcC)) = inner (nx.set a.lo u) n (arcs ++ [a]) := by
  refine List.ext_getElem (by simp [inner]) fun i h1 h2 => ?_
  have hi : i < n := by simpa [inner] using h2
  rw [List.getElem_set]
  by_cases e : a.lo = i
  · subst e
    simp [inner, nextOf, List.getD_eq_getElem?_getD, hn, h]
  · rw [if_neg e]
    simp [inner, nextOf, List.getD_eq_getElem?_getD, List.getElem?_set_ne e, e]

def arcsUp (l : List Rel) (k : Nat) : List Arc := ((l.take k).zipIdx.filter fun p => decide (p.1.kind ≠ 4)).map fun p => ⟨p.2, idx (unitsP l) p.1.lo, idx (unitsP l) p.1.up⟩
/-- The arcs of relations. -/
def arcsOf (l : List Rel) : List Arc := arcsUp l l.length

theorem arcsUp_succ {l : List Rel} {k : Nat} (h : k < l.length) : arcsUp l (k + 1) = if l[k].kind = 4 then arcsUp l k else arcsUp l k ++ [⟨k, idx (unitsP l) l[k].lo, idx (unitsP l) l[k].up⟩] := by
  unfold arcsUp
  rw [← List.take_append_getElem h, List.zipIdx_append, List.filter_append, List.map_append]
  by_cases e : l[k].kind = 4
  · simp [e]
  · simp [e, Nat.min_eq_left (Nat.le_of_lt h)]

theorem arcsUp_len (l : List Rel) (k : Nat) : (arcsUp l k).length ≤ l.length := by
  unfold arcsUp
  rw [List.length_map]
  refine Nat.le_trans (List.length_filter_le _ _) ?_
  simp only [List.length_zipIdx, List.length_take]
  omega

theorem idx_lt {xs : List Nm} {x : Nm} (h : x ∈ xs) : idx xs x < xs.length := by
  obtain ⟨k, hk⟩ := idxOf_lt_of_mem h
  unfold idx
  rw [hk]
  rw [List.idxOf?, List.findIdx?_eq_some_iff_getElem] at hk
  exact hk.1

theorem arcs_wf (l : List Rel) : WF (unitsP l).length (arcsOf l) := by
  constructor
  · intro a ha
    obtain ⟨p, hp, rfl⟩ := List.mem_map.1 ha
    have := (List.mem_filter.1 hp).1
    rw [List.take_length] at this
    exact idx_lt (mem_unitsP.2 (mem_names_lo (List.fst_mem_of_mem_zipIdx this)))
  · intro a ha
    obtain ⟨p, hp, rfl⟩ := List.mem_map.1 ha
    have := (List.mem_filter.1 hp).1
    rw [List.take_length] at this
    exact idx_lt (mem_unitsP.2 (mem_names_up (List.fst_mem_of_mem_zipIdx this)))

end Go.Proofs.Ytdhbclplondmjaa.C

/- The program's graph, run. -/
set_option linter.unusedVariables false
set_option linter.unusedSimpArgs false
set_option maxRecDepth 100000
set_option maxHeartbeats 4000000
namespace Go.Proofs.Ytdhbclplondmjaa.C
open Go.RowKit Go.Sort

theorem build_runs {H : Heap} {v : Value} {l : List Rel} (hl : Sl H 3 v (rels l)) (hll : l.length ≤ 2 ^ 20) (hn : (unitsP l).length ≤ 2 ^ 20) :
    ∃ r H1, big tab 32 [v] H = some (r, H1) ∧ Ext H H1 ∧ ∃ gp an aa ax M nx own, r = .pointer (some ⟨gp, 0, none⟩) ∧ GraphIs H1 gp (unitsP l) (arcsOf l) an aa ax M nx own ∧ H1[M]? = some (.map (mapE 0 (unitsP l))) := by
  refine big_of_runs rfl rfl rfl ?_
  obtain ⟨z, hz⟩ := startC_mkS Try.f32 [v]
  rw [show startC (32, Try.f32).snd [v] = _ from hz]
  clear hz
  refine Runs.cut (n := 96) (l := [(0, v)]) (Is.of ⟨rfl, rfl, trivial⟩) (fun a0 => ?_)
  refine Runs.seq ?_
  refine Runs.region ?_
  refine Rg.opp (v := .pointer none) rfl rfl rfl rfl rfl ?_
  refine Rg.nil ?_
  refine Runs.seq ?_
  refine Runs.region ?_
  refine Rg.opp (v := v) rfl rfl rfl rfl rfl ?_
  refine Rg.callW rfl rfl rfl rfl (rfl) rfl (unitsP_runs hl (by omega)) (fun r Hu hP => ?_)
  obtain ⟨heu, hus'⟩ := hP
  have hus : Sl Hu 1 r ((unitsP l).map encS) := hus'
  obtain ⟨ua, uc, rfl, huc⟩ := id hus
  have hM := Mem.start Hu
  refine Rg.new (v := fun p => .map (some p)) (X := .map []) (th := fun p => .map p []) hM rfl rfl rfl rfl rfl rfl (fun _ => rfl) (fun M Hc (hM : Mem Hu Hc ([.map M ([])])) _ => ?_)
  refine Rg.opp (v := .agg ([.slice ua (List.map encS (unitsP l)).length uc, .map (some M), .slice none 0 0, .slice none 0 0]).toArray) rfl rfl rfl rfl rfl ?_
  refine Rg.new (v := fun p => .pointer (some ⟨p, 0, none⟩)) (X := .row 4 ([.slice ua (List.map encS (unitsP l)).length uc, .map (some M), .slice none 0 0, .slice none 0 0]) true true) (th := fun p => .box p 4 ([.slice ua (List.map encS (unitsP l)).length uc, .map (some M), .slice none 0 0, .slice none 0 0])) hM rfl rfl rfl rfl rfl rfl (fun _ => rfl) (fun gp Hc hM _ => ?_)
  refine Rg.opp (v := .pointer (some ⟨gp, 0, none⟩)) rfl rfl rfl rfl rfl ?_
  refine Rg.nil ?_
  refine Runs.seq ?_
  refine Runs.seq ?_
  refine Runs.region ?_
  refine Rg.opp (v := .pointer (some ⟨gp, 0, none⟩)) rfl rfl rfl rfl rfl ?_
  refine Rg.opp (v := .pointer (some ⟨gp, 0, none⟩)) rfl rfl rfl rfl rfl ?_
  refine Rg.opp (v := .pointer (some ⟨gp, 0, none⟩)) rfl rfl rfl (ev_fld (o := 0) (p := (37, 0)) rfl rfl rfl rfl rfl (by decide)) rfl ?_
  refine Rg.opp (v := .slice ua (List.map encS (unitsP l)).length uc) rfl rfl rfl (ev_ldb (hM.get_box (j := 0) rfl) rfl rfl rfl rfl rfl) rfl ?_
  refine Rg.opp (v := nat ((unitsP l).length)) rfl rfl rfl (ev_lenM (hus.sees hM.ext.sees) rfl rfl) rfl ?_
  refine Rg.opp (v := nat 0) rfl rfl rfl rfl rfl ?_
  refine Rg.nil ?_
  refine Runs.block ?_
  refine Runs.loop (fun m s Hc => ∃ (k : Nat), m = (unitsP l).length - k ∧ Mem Hu Hc ([.box gp 4 ([.slice ua (List.map encS (unitsP l)).length uc, .map (some M), .slice none 0 0, .slice none 0 0]), .map M (mapE 0 ((unitsP l).take k))]) ∧ (k ≤ (unitsP l).length) ∧ Is s 96 [(0, v), (3, .pointer (some ⟨gp, 0, none⟩)), (17, .slice ua (List.map encS (unitsP l)).length uc), (18, nat ((unitsP l).length)), (19, nat k)]) _
    ⟨0, rfl, hM, Nat.zero_le _, Is.of ⟨rfl, rfl, rfl, rfl, rfl, rfl, rfl, rfl, rfl, rfl, trivial⟩⟩ ?_
  rintro m s Hc ⟨k, rfl, hM, hk, hs⟩
  obtain ⟨a1, rfl⟩ := hs.mk1
  clear hs
  refine Runs.seq ?_
  refine Runs.region ?_
  by_cases hlt : k < (unitsP l).length
  · skip
    refine Rg.opp (v := .bool true) rfl rfl rfl (ev_ltT rfl rfl (hlt)) rfl ?_
    refine Rg.nil ?_
    refine Runs.seq ?_
    refine Runs.cond true rfl (fun _ => ?_) (fun h => by cases h)
    refine Runs.skip ?_
    refine Runs.seq ?_
    refine Runs.block ?_
    refine Runs.seq ?_
    refine Runs.region ?_
    refine Rg.opp (v := nat k) rfl rfl rfl rfl rfl ?_
    refine Rg.opp (v := ptrAt (sAddr (.slice ua (List.map encS (unitsP l)).length uc)) (k * 1)) rfl rfl rfl (ev_idxM (k := k) (hus.sees hM.ext.sees) rfl rfl (hlt) rfl rfl rfl (by decide)) rfl ?_
    refine Rg.opp (v := str ((unitsP l)[k])) rfl rfl rfl (ev_ldM (k := k) (hus.sees hM.ext.sees) rfl (hlt) rfl rfl rfl rfl) rfl ?_
    refine Rg.opp (v := nat k) rfl rfl rfl rfl rfl ?_
    refine Rg.opp (v := str ((unitsP l)[k])) rfl rfl rfl rfl rfl ?_
    refine Rg.nil ?_
    refine Runs.region ?_
    refine Rg.opp (v := .pointer (some ⟨gp, 0, none⟩)) rfl rfl rfl rfl rfl ?_
    refine Rg.opp (v := .pointer (some ⟨gp, 0, none⟩)) rfl rfl rfl rfl rfl ?_
    refine Rg.opp (v := .pointer (some ⟨gp, 1, none⟩)) rfl rfl rfl (ev_fld (o := 0) (p := (74, 1)) rfl rfl rfl rfl rfl (by decide)) rfl ?_
    refine Rg.opp (v := .map (some M)) rfl rfl rfl (ev_ldb (hM.get_box (j := 0) rfl) rfl rfl rfl rfl rfl) rfl ?_
    refine Rg.opp (v := str ((unitsP l)[k])) rfl rfl rfl rfl rfl ?_
    refine Rg.opp (v := nat k) rfl rfl rfl rfl rfl ?_
    refine Rg.mapset (j := 1) (xs := (unitsP l).take k) (s := (unitsP l)[k]) hM rfl rfl rfl rfl rfl rfl rfl rfl (nodup_take (strict_nodup (unitsP_strict l)) hlt) (by rw [List.length_take]; omega) (fun Hc hM => ?_)
    rw [List.take_append_getElem hlt] at hM
    refine Rg.nil ?_
    refine Runs.region ?_
    refine Rg.opp (v := nat (k + 1)) rfl rfl rfl (ev_addN (b := 1) rfl rfl (by omega)) rfl ?_
    refine Rg.opp (v := nat (k + 1)) rfl rfl rfl rfl rfl ?_
    refine Rg.nil ?_
    refine ⟨(unitsP l).length - (k + 1), by omega, k + 1, rfl, hM, hlt, Is.of ⟨rfl, rfl, rfl, rfl, rfl, rfl, rfl, rfl, rfl, rfl, trivial⟩⟩
  · skip
    replace hM : Mem Hu Hc ([.box gp 4 ([.slice ua (List.map encS (unitsP l)).length uc, .map (some M), .slice none 0 0, .slice none 0 0]), .map M (mapE 0 (unitsP l))]) := by rw [show k = (unitsP l).length by omega, List.take_length] at hM; exact hM
    refine Rg.opp (v := .bool false) rfl rfl rfl (ev_ltF rfl rfl (hlt)) rfl ?_
    refine Rg.nil ?_
    refine Runs.seq ?_
    refine Runs.cond false rfl (fun h => by cases h) (fun _ => ?_)
    refine Runs.exit ?_
    refine Runs.seq ?_
    refine Runs.region ?_
    refine Rg.opp (v := .pointer (some ⟨gp, 0, none⟩)) rfl rfl rfl rfl rfl ?_
    refine Rg.opp (v := .pointer (some ⟨gp, 0, none⟩)) rfl rfl rfl rfl rfl ?_
    refine Rg.opp (v := .pointer (some ⟨gp, 0, none⟩)) rfl rfl rfl rfl rfl ?_
    refine Rg.opp (v := .pointer (some ⟨gp, 0, none⟩)) rfl rfl rfl (ev_fld (o := 0) (p := (37, 0)) rfl rfl rfl rfl rfl (by decide)) rfl ?_
    refine Rg.opp (v := .slice ua (List.map encS (unitsP l)).length uc) rfl rfl rfl (ev_ldb (hM.get_box (j := 0) rfl) rfl rfl rfl rfl rfl) rfl ?_
    refine Rg.opp (v := nat ((unitsP l).length)) rfl rfl rfl (ev_lenM (hus.sees hM.ext.sees) rfl rfl) rfl ?_
    refine Rg.make (f := encV) (sz := 1) (m := (unitsP l).length) (.slice none 0 0) hM rfl rfl rfl rfl rfl rfl rfl rfl rfl (by decide) rfl rfl rfl (by show (unitsP l).length * 24 ≤ 2 ^ 40; omega) (by omega) (fun ax0 Hc (hM : Mem Hu Hc ([.sl 1 ax0 (List.map encV (List.replicate ((unitsP l).length) (.slice none 0 0))), .box gp 4 ([.slice ua (List.map encS (unitsP l)).length uc, .map (some M), .slice none 0 0, .slice none 0 0]), .map M (mapE 0 (unitsP l))])) _ => ?_)
    refine Rg.opp (v := .pointer (some ⟨gp, 0, none⟩)) rfl rfl rfl rfl rfl ?_
    refine Rg.opp (v := .pointer (some ⟨gp, 3, none⟩)) rfl rfl rfl (ev_fld (o := 0) (p := (75, 3)) rfl rfl rfl rfl rfl (by decide)) rfl ?_
    refine Rg.stob1 (j := 1) (cs' := [.slice ua (List.map encS (unitsP l)).length uc, .map (some M), .slice none 0 0, ax0]) hM rfl rfl rfl rfl rfl rfl rfl rfl rfl ((hM.get_sl (j := 0) rfl).one) (Nat.le_of_ble_eq_true rfl) rfl (fun Hc (hM : Mem Hu Hc ([.sl 1 ax0 (List.map encV (List.replicate ((unitsP l).length) (.slice none 0 0))), .box gp 4 ([.slice ua (List.map encS (unitsP l)).length uc, .map (some M), .slice none 0 0, ax0]), .map M (mapE 0 (unitsP l))])) => ?_)
    refine Rg.nil ?_
    refine Runs.seq ?_
    refine Runs.seq ?_
    refine Runs.region ?_
    refine Rg.opp (v := v) rfl rfl rfl rfl rfl ?_
    refine Rg.opp (v := nat l.length) rfl rfl rfl (ev_lenM ((hl.sees heu.sees).sees hM.ext.sees) rfl rfl) rfl ?_
    refine Rg.opp (v := nat 0) rfl rfl rfl rfl rfl ?_
    refine Rg.nil ?_
    refine Runs.block ?_
    refine Runs.loop (fun m s Hc => ∃ (k : Nat) (av : Value) (nx : List Value), m = l.length - k ∧ Mem Hu Hc ((.sl 3 av (List.map arcC (arcsUp l k))) :: (.sl 1 ax0 (List.map encV nx)) :: (.box gp 4 [.slice ua (List.map encS (unitsP l)).length uc, .map (some M), av, ax0]) :: (.map M (mapE 0 (unitsP l))) :: (inner nx (unitsP l).length (arcsUp l k))) ∧ (k ≤ l.length) ∧ (nx.length = (unitsP l).length) ∧ Is s 96 [(3, .pointer (some ⟨gp, 0, none⟩)), (40, v), (41, nat l.length), (42, nat k)]) _
      ⟨0, .slice none 0 0, List.replicate (unitsP l).length (.slice none 0 0), rfl, by have h := (hM.nilSl 3).addNil 3 (unitsP l).length; rw [inner_start] at h; exact h, Nat.zero_le _, by simp, Is.of ⟨rfl, rfl, rfl, rfl, rfl, rfl, rfl, rfl, trivial⟩⟩ ?_
    rintro m s Hc ⟨k, av, nx, rfl, hM, hk2, hnl, hs⟩
    obtain ⟨a2, rfl⟩ := hs.mk1
    clear hs
    refine Runs.seq ?_
    refine Runs.region ?_
    by_cases hlt : k < l.length
    · skip
      have hlo : idx (unitsP l) l[k].lo < (unitsP l).length := idx_lt (mem_unitsP.2 (mem_names_lo (List.getElem_mem hlt)))
      have hup : idx (unitsP l) l[k].up < (unitsP l).length := idx_lt (mem_unitsP.2 (mem_names_up (List.getElem_mem hlt)))
      refine Rg.opp (v := .bool true) rfl rfl rfl (ev_ltT rfl rfl (hlt)) rfl ?_
      refine Rg.nil ?_
      refine Runs.seq ?_
      refine Runs.cond true rfl (fun _ => ?_) (fun h => by cases h)
      refine Runs.skip ?_
      refine Runs.seq ?_
      refine Runs.block ?_
      refine Runs.seq ?_
      refine Runs.region ?_
      refine Rg.opp (v := nat k) rfl rfl rfl rfl rfl ?_
      refine Rg.opp (v := ptrAt (sAddr v) (k * 3)) rfl rfl rfl (ev_idxM (k := k) ((hl.sees heu.sees).sees hM.ext.sees) rfl rfl (hlt) rfl rfl rfl (by decide)) rfl ?_
      refine Rg.opp (v := .agg (relC (l[k])).toArray) rfl rfl rfl (ev_ldAM (k := k) ((hl.sees heu.sees).sees hM.ext.sees) rfl (hlt) rfl rfl rfl) rfl ?_
      refine Rg.new (v := fun p => .pointer (some ⟨p, 0, none⟩)) (X := .row 3 [.int .i64 0, .string ⟨#[]⟩, .string ⟨#[]⟩] true true) (th := fun p => .box p 3 [.int .i64 0, .string ⟨#[]⟩, .string ⟨#[]⟩]) hM rfl rfl rfl rfl rfl rfl (fun _ => rfl) (fun p3 Hc hM _ => ?_)
      refine Rg.opp (v := nat k) rfl rfl rfl rfl rfl ?_
      refine Rg.stob (j := 0) (cs' := relC (l[k])) hM rfl rfl rfl rfl rfl rfl rfl rfl rfl rfl (Nat.le_of_ble_eq_true rfl) rfl (fun Hc (hM : Mem Hu Hc ((.box p3 3 (relC (l[k]))) :: (.sl 3 av (List.map arcC (arcsUp l k))) :: (.sl 1 ax0 (List.map encV nx)) :: (.box gp 4 [.slice ua (List.map encS (unitsP l)).length uc, .map (some M), av, ax0]) :: (.map M (mapE 0 (unitsP l))) :: (inner nx (unitsP l).length (arcsUp l k)))) => ?_)
      refine Rg.nil ?_
      refine Runs.seq ?_
      refine Runs.seq ?_
      refine Runs.region ?_
      refine Rg.opp (v := .pointer (some ⟨p3, 0, none⟩)) rfl rfl rfl (ev_fld (o := 0) (p := (3, 0)) rfl rfl rfl rfl rfl (by decide)) rfl ?_
      refine Rg.opp (v := nat (l[k].kind)) rfl rfl rfl (ev_ldb (hM.get_box (j := 0) rfl) rfl rfl rfl rfl rfl) rfl ?_
      by_cases hkd : l[k].kind = 4
      · skip
        refine Rg.opp (v := .bool true) rfl rfl rfl (ev_eqT rfl rfl (hkd)) rfl ?_
        refine Rg.nil ?_
        refine Runs.cond true rfl (fun _ => ?_) (fun h => by cases h)
        refine Runs.exit ?_
        refine Runs.region ?_
        refine Rg.opp (v := nat (k + 1)) rfl rfl rfl (ev_addN (b := 1) rfl rfl (by omega)) rfl ?_
        refine Rg.opp (v := nat (k + 1)) rfl rfl rfl rfl rfl ?_
        refine Rg.nil ?_
        refine ⟨l.length - (k + 1), by omega, k + 1, av, nx, rfl, by rw [arcsUp_succ hlt, if_pos hkd]; exact hM.tail, hlt, hnl, Is.of ⟨rfl, rfl, rfl, rfl, rfl, rfl, rfl, rfl, trivial⟩⟩
      · skip
        refine Rg.opp (v := .bool false) rfl rfl rfl (ev_eqF rfl rfl (hkd)) rfl ?_
        refine Rg.nil ?_
        refine Runs.cond false rfl (fun h => by cases h) (fun _ => ?_)
        refine Runs.skip ?_
        refine Runs.seq ?_
        refine Runs.drawn (is := [0, 1, 2, 3, 4, 5, 6, 7, 8, 9, 10, 11, 12, 13, 14, 15, 16, 17]) (by decide +kernel) ?_
        refine Rg.opp (v := nat k) rfl rfl rfl rfl rfl ?_
        refine Rg.opp (v := .pointer (some ⟨gp, 0, none⟩)) rfl rfl rfl rfl rfl ?_
        refine Rg.opp (v := .pointer (some ⟨gp, 0, none⟩)) rfl rfl rfl rfl rfl ?_
        refine Rg.opp (v := .pointer (some ⟨gp, 1, none⟩)) rfl rfl rfl (ev_fld (o := 0) (p := (74, 1)) rfl rfl rfl rfl rfl (by decide)) rfl ?_
        refine Rg.opp (v := .map (some M)) rfl rfl rfl (ev_ldb (hM.get_box (j := 3) rfl) rfl rfl rfl rfl rfl) rfl ?_
        refine Rg.opp (v := .pointer (some ⟨p3, 2, none⟩)) rfl rfl rfl (ev_fld (o := 0) (p := (9, 2)) rfl rfl rfl rfl rfl (by decide)) rfl ?_
        refine Rg.opp (v := str (l[k].lo)) rfl rfl rfl (ev_ldb (hM.get_box (j := 0) rfl) rfl rfl rfl rfl rfl) rfl ?_
        refine Rg.opp (v := nat (idx (unitsP l) l[k].lo)) rfl rfl rfl (ev_lookN rfl rfl (hM.get_map (j := 4) rfl)) rfl ?_
        refine Rg.opp (v := .pointer (some ⟨gp, 0, none⟩)) rfl rfl rfl rfl rfl ?_
        refine Rg.opp (v := .pointer (some ⟨gp, 0, none⟩)) rfl rfl rfl rfl rfl ?_
        refine Rg.opp (v := .pointer (some ⟨gp, 1, none⟩)) rfl rfl rfl (ev_fld (o := 0) (p := (74, 1)) rfl rfl rfl rfl rfl (by decide)) rfl ?_
        refine Rg.opp (v := .map (some M)) rfl rfl rfl (ev_ldb (hM.get_box (j := 3) rfl) rfl rfl rfl rfl rfl) rfl ?_
        refine Rg.opp (v := .pointer (some ⟨p3, 1, none⟩)) rfl rfl rfl (ev_fld (o := 0) (p := (9, 1)) rfl rfl rfl rfl rfl (by decide)) rfl ?_
        refine Rg.opp (v := str (l[k].up)) rfl rfl rfl (ev_ldb (hM.get_box (j := 0) rfl) rfl rfl rfl rfl rfl) rfl ?_
        refine Rg.opp (v := nat (idx (unitsP l) l[k].up)) rfl rfl rfl (ev_lookN rfl rfl (hM.get_map (j := 4) rfl)) rfl ?_
        refine Rg.opp (v := .agg (arcC (⟨k, idx (unitsP l) l[k].lo, idx (unitsP l) l[k].up⟩ : Arc)).toArray) rfl rfl rfl rfl rfl ?_
        refine Rg.new (v := fun p => .pointer (some ⟨p, 0, none⟩)) (X := .row 3 [.int .i64 0, .int .i64 0, .int .i64 0] true true) (th := fun p => .box p 3 [.int .i64 0, .int .i64 0, .int .i64 0]) hM rfl rfl rfl rfl rfl rfl (fun _ => rfl) (fun p4 Hc hM _ => ?_)
        refine Rg.stob (j := 0) (cs' := arcC (⟨k, idx (unitsP l) l[k].lo, idx (unitsP l) l[k].up⟩ : Arc)) hM rfl rfl rfl rfl rfl rfl rfl rfl rfl rfl (Nat.le_of_ble_eq_true rfl) rfl (fun Hc (hM : Mem Hu Hc ((.box p4 3 (arcC (⟨k, idx (unitsP l) l[k].lo, idx (unitsP l) l[k].up⟩ : Arc))) :: (.box p3 3 (relC (l[k]))) :: (.sl 3 av (List.map arcC (arcsUp l k))) :: (.sl 1 ax0 (List.map encV nx)) :: (.box gp 4 [.slice ua (List.map encS (unitsP l)).length uc, .map (some M), av, ax0]) :: (.map M (mapE 0 (unitsP l))) :: (inner nx (unitsP l).length (arcsUp l k)))) => ?_)
        refine Rg.nil ?_
        refine Runs.seq ?_
        refine Runs.drawn (is := [1, 2, 3, 4, 5, 6, 7, 0, 8, 9, 10]) (by decide +kernel) ?_
        refine Rg.opp (v := .pointer (some ⟨gp, 0, none⟩)) rfl rfl rfl rfl rfl ?_
        refine Rg.opp (v := .pointer (some ⟨gp, 0, none⟩)) rfl rfl rfl rfl rfl ?_
        refine Rg.opp (v := .pointer (some ⟨gp, 2, none⟩)) rfl rfl rfl (ev_fld (o := 0) (p := (73, 2)) rfl rfl rfl rfl rfl (by decide)) rfl ?_
        refine Rg.opp (v := av) rfl rfl rfl (ev_ldb (hM.get_box (j := 4) rfl) rfl rfl rfl rfl rfl) rfl ?_
        refine Rg.opp (v := .agg (arcC (⟨k, idx (unitsP l) l[k].lo, idx (unitsP l) l[k].up⟩ : Arc)).toArray) rfl rfl rfl (ev_ldbA (hM.get_box (j := 0) rfl) rfl rfl rfl rfl) rfl ?_
        refine Rg.lit (f := arcC) (sz := 3) (xs := [(⟨k, idx (unitsP l) l[k].lo, idx (unitsP l) l[k].up⟩ : Arc)]) hM rfl rfl rfl rfl rfl (by simp) (by simp) (fun u5 Hc (hM : Mem Hu Hc ((.sl 3 u5 (List.map arcC ([(⟨k, idx (unitsP l) l[k].lo, idx (unitsP l) l[k].up⟩ : Arc)]))) :: (.box p4 3 (arcC (⟨k, idx (unitsP l) l[k].lo, idx (unitsP l) l[k].up⟩ : Arc))) :: (.box p3 3 (relC (l[k]))) :: (.sl 3 av (List.map arcC (arcsUp l k))) :: (.sl 1 ax0 (List.map encV nx)) :: (.box gp 4 [.slice ua (List.map encS (unitsP l)).length uc, .map (some M), av, ax0]) :: (.map M (mapE 0 (unitsP l))) :: (inner nx (unitsP l).length (arcsUp l k)))) _ => ?_)
        refine Rg.appM (f := arcC) (sz := 3) (j := 3) (v := av) (xs := arcsUp l k) (ys := [(⟨k, idx (unitsP l) l[k].lo, idx (unitsP l) l[k].up⟩ : Arc)]) hM rfl rfl rfl rfl rfl rfl rfl (hM.get_sl (j := 0) rfl) ⟨rfl, rfl, rfl, by decide⟩ rfl (by simp [oneCell]) (by show (_ + _) * 24 ≤ 2 ^ 40; have := arcsUp_len l k; simp only [List.length_cons, List.length_nil]; omega) (by simp) (fun av1 Hc (hM : Mem Hu Hc ((.sl 3 u5 (List.map arcC ([(⟨k, idx (unitsP l) l[k].lo, idx (unitsP l) l[k].up⟩ : Arc)]))) :: (.box p4 3 (arcC (⟨k, idx (unitsP l) l[k].lo, idx (unitsP l) l[k].up⟩ : Arc))) :: (.box p3 3 (relC (l[k]))) :: (.sl 3 av1 (List.map arcC ((arcsUp l k) ++ ([(⟨k, idx (unitsP l) l[k].lo, idx (unitsP l) l[k].up⟩ : Arc)])))) :: (.sl 1 ax0 (List.map encV nx)) :: (.box gp 4 [.slice ua (List.map encS (unitsP l)).length uc, .map (some M), av, ax0]) :: (.map M (mapE 0 (unitsP l))) :: (inner nx (unitsP l).length (arcsUp l k)))) hga => ?_)
        replace hM : Mem Hu Hc ((.box p4 3 (arcC (⟨k, idx (unitsP l) l[k].lo, idx (unitsP l) l[k].up⟩ : Arc))) :: (.box p3 3 (relC (l[k]))) :: (.sl 3 av1 (List.map arcC ((arcsUp l k) ++ ([(⟨k, idx (unitsP l) l[k].lo, idx (unitsP l) l[k].up⟩ : Arc)])))) :: (.sl 1 ax0 (List.map encV nx)) :: (.box gp 4 [.slice ua (List.map encS (unitsP l)).length uc, .map (some M), av, ax0]) :: (.map M (mapE 0 (unitsP l))) :: (inner nx (unitsP l).length (arcsUp l k))) := hM.erase 0
        refine Rg.opp (v := .pointer (some ⟨gp, 0, none⟩)) rfl rfl rfl rfl rfl ?_
        refine Rg.opp (v := .pointer (some ⟨gp, 0, none⟩)) rfl rfl rfl rfl rfl ?_
        refine Rg.opp (v := .pointer (some ⟨gp, 2, none⟩)) rfl rfl rfl (ev_fld (o := 0) (p := (73, 2)) rfl rfl rfl rfl rfl (by decide)) rfl ?_
        refine Rg.stob1 (j := 4) (cs' := [.slice ua (List.map encS (unitsP l)).length uc, .map (some M), av1, ax0]) hM rfl rfl rfl rfl rfl rfl rfl rfl rfl (hga.one) (Nat.le_of_ble_eq_true rfl) rfl (fun Hc (hM : Mem Hu Hc ((.box p4 3 (arcC (⟨k, idx (unitsP l) l[k].lo, idx (unitsP l) l[k].up⟩ : Arc))) :: (.box p3 3 (relC (l[k]))) :: (.sl 3 av1 (List.map arcC ((arcsUp l k) ++ ([(⟨k, idx (unitsP l) l[k].lo, idx (unitsP l) l[k].up⟩ : Arc)])))) :: (.sl 1 ax0 (List.map encV nx)) :: (.box gp 4 ([.slice ua (List.map encS (unitsP l)).length uc, .map (some M), av1, ax0])) :: (.map M (mapE 0 (unitsP l))) :: (inner nx (unitsP l).length (arcsUp l k)))) => ?_)
        refine Rg.nil ?_
        refine Runs.drawn (is := [6, 7, 8, 9, 10, 11, 12, 13, 14, 15, 16, 0, 1, 2, 3, 4, 5, 17, 18]) (by decide +kernel) ?_
        refine Rg.opp (v := .pointer (some ⟨gp, 0, none⟩)) rfl rfl rfl rfl rfl ?_
        refine Rg.opp (v := .pointer (some ⟨gp, 0, none⟩)) rfl rfl rfl rfl rfl ?_
        refine Rg.opp (v := .pointer (some ⟨gp, 3, none⟩)) rfl rfl rfl (ev_fld (o := 0) (p := (75, 3)) rfl rfl rfl rfl rfl (by decide)) rfl ?_
        refine Rg.opp (v := ax0) rfl rfl rfl (ev_ldb (hM.get_box (j := 4) rfl) rfl rfl rfl rfl rfl) rfl ?_
        refine Rg.opp (v := .pointer (some ⟨p4, 1, none⟩)) rfl rfl rfl (ev_fld (o := 0) (p := (3, 1)) rfl rfl rfl rfl rfl (by decide)) rfl ?_
        refine Rg.opp (v := nat (idx (unitsP l) l[k].lo)) rfl rfl rfl (ev_ldb (hM.get_box (j := 0) rfl) rfl rfl rfl rfl rfl) rfl ?_
        refine Rg.opp (v := ptrAt (sAddr ax0) ((idx (unitsP l) l[k].lo) * 1)) rfl rfl rfl (ev_idxM (k := idx (unitsP l) l[k].lo) (hM.get_sl (j := 3) rfl) rfl rfl (by omega) rfl rfl rfl (by decide)) rfl ?_
        refine Rg.opp (v := nx[idx (unitsP l) l[k].lo]) rfl rfl rfl (ev_ldM (k := (idx (unitsP l) l[k].lo)) (hM.get_sl (j := 3) rfl) rfl (by omega) rfl rfl rfl rfl) rfl ?_
        refine Rg.opp (v := .agg (arcC (⟨k, idx (unitsP l) l[k].lo, idx (unitsP l) l[k].up⟩ : Arc)).toArray) rfl rfl rfl (ev_ldbA (hM.get_box (j := 0) rfl) rfl rfl rfl rfl) rfl ?_
        refine Rg.lit (f := arcC) (sz := 3) (xs := [(⟨k, idx (unitsP l) l[k].lo, idx (unitsP l) l[k].up⟩ : Arc)]) hM rfl rfl rfl rfl rfl (by simp) (by simp) (fun u6 Hc (hM : Mem Hu Hc ((.sl 3 u6 (List.map arcC ([(⟨k, idx (unitsP l) l[k].lo, idx (unitsP l) l[k].up⟩ : Arc)]))) :: (.box p4 3 (arcC (⟨k, idx (unitsP l) l[k].lo, idx (unitsP l) l[k].up⟩ : Arc))) :: (.box p3 3 (relC (l[k]))) :: (.sl 3 av1 (List.map arcC ((arcsUp l k) ++ ([(⟨k, idx (unitsP l) l[k].lo, idx (unitsP l) l[k].up⟩ : Arc)])))) :: (.sl 1 ax0 (List.map encV nx)) :: (.box gp 4 ([.slice ua (List.map encS (unitsP l)).length uc, .map (some M), av1, ax0])) :: (.map M (mapE 0 (unitsP l))) :: (inner nx (unitsP l).length (arcsUp l k)))) _ => ?_)
        have hj : ((.sl 3 u6 (List.map arcC ([(⟨k, idx (unitsP l) l[k].lo, idx (unitsP l) l[k].up⟩ : Arc)]))) :: (.box p4 3 (arcC (⟨k, idx (unitsP l) l[k].lo, idx (unitsP l) l[k].up⟩ : Arc))) :: (.box p3 3 (relC (l[k]))) :: (.sl 3 av1 (List.map arcC ((arcsUp l k) ++ ([(⟨k, idx (unitsP l) l[k].lo, idx (unitsP l) l[k].up⟩ : Arc)])))) :: (.sl 1 ax0 (List.map encV nx)) :: (.box gp 4 ([.slice ua (List.map encS (unitsP l)).length uc, .map (some M), av1, ax0])) :: (.map M (mapE 0 (unitsP l))) :: (inner nx (unitsP l).length (arcsUp l k)))[idx (unitsP l) l[k].lo + 7]? = some (.sl 3 nx[idx (unitsP l) l[k].lo] ((nextOf (arcsUp l k) (idx (unitsP l) l[k].lo)).map arcC)) := inner_get hlo hnl
        refine Rg.appM (f := arcC) (sz := 3) (j := idx (unitsP l) l[k].lo + 7) (v := nx[idx (unitsP l) l[k].lo]) (xs := nextOf (arcsUp l k) (idx (unitsP l) l[k].lo)) (ys := [(⟨k, idx (unitsP l) l[k].lo, idx (unitsP l) l[k].up⟩ : Arc)]) hM rfl rfl rfl rfl hj rfl rfl (hM.get_sl (j := 0) rfl) ⟨rfl, rfl, rfl, by decide⟩ rfl (by simp [oneCell]) (by show (_ + _) * 24 ≤ 2 ^ 40; have := next_len (arcsUp l k) (idx (unitsP l) l[k].lo); have := arcsUp_len l k; simp only [List.length_cons, List.length_nil]; omega) (by simp) (fun u Hc hM hgu => ?_)
        replace hM : Mem Hu Hc ((.sl 3 u6 (List.map arcC ([(⟨k, idx (unitsP l) l[k].lo, idx (unitsP l) l[k].up⟩ : Arc)]))) :: (.box p4 3 (arcC (⟨k, idx (unitsP l) l[k].lo, idx (unitsP l) l[k].up⟩ : Arc))) :: (.box p3 3 (relC (l[k]))) :: (.sl 3 av1 (List.map arcC ((arcsUp l k) ++ ([(⟨k, idx (unitsP l) l[k].lo, idx (unitsP l) l[k].up⟩ : Arc)])))) :: (.sl 1 ax0 (List.map encV nx)) :: (.box gp 4 ([.slice ua (List.map encS (unitsP l)).length uc, .map (some M), av1, ax0])) :: (.map M (mapE 0 (unitsP l))) :: (inner (nx.set (idx (unitsP l) l[k].lo) u) (unitsP l).length (arcsUp l k ++ [(⟨k, idx (unitsP l) l[k].lo, idx (unitsP l) l[k].up⟩ : Arc)]))) := by rw [← inner_set (a := (⟨k, idx (unitsP l) l[k].lo, idx (unitsP l) l[k].up⟩ : Arc)) hlo hnl]; exact hM
        replace hM : Mem Hu Hc ((.box p4 3 (arcC (⟨k, idx (unitsP l) l[k].lo, idx (unitsP l) l[k].up⟩ : Arc))) :: (.box p3 3 (relC (l[k]))) :: (.sl 3 av1 (List.map arcC ((arcsUp l k) ++ ([(⟨k, idx (unitsP l) l[k].lo, idx (unitsP l) l[k].up⟩ : Arc)])))) :: (.sl 1 ax0 (List.map encV nx)) :: (.box gp 4 ([.slice ua (List.map encS (unitsP l)).length uc, .map (some M), av1, ax0])) :: (.map M (mapE 0 (unitsP l))) :: (inner (nx.set (idx (unitsP l) l[k].lo) u) (unitsP l).length (arcsUp l k ++ [(⟨k, idx (unitsP l) l[k].lo, idx (unitsP l) l[k].up⟩ : Arc)]))) := hM.erase 0
        refine Rg.opp (v := .pointer (some ⟨gp, 0, none⟩)) rfl rfl rfl rfl rfl ?_
        refine Rg.opp (v := .pointer (some ⟨gp, 0, none⟩)) rfl rfl rfl rfl rfl ?_
        refine Rg.opp (v := .pointer (some ⟨gp, 3, none⟩)) rfl rfl rfl (ev_fld (o := 0) (p := (75, 3)) rfl rfl rfl rfl rfl (by decide)) rfl ?_
        refine Rg.opp (v := ax0) rfl rfl rfl (ev_ldb (hM.get_box (j := 4) rfl) rfl rfl rfl rfl rfl) rfl ?_
        refine Rg.opp (v := .pointer (some ⟨p4, 1, none⟩)) rfl rfl rfl (ev_fld (o := 0) (p := (3, 1)) rfl rfl rfl rfl rfl (by decide)) rfl ?_
        refine Rg.opp (v := nat (idx (unitsP l) l[k].lo)) rfl rfl rfl (ev_ldb (hM.get_box (j := 0) rfl) rfl rfl rfl rfl rfl) rfl ?_
        refine Rg.opp (v := ptrAt (sAddr ax0) ((idx (unitsP l) l[k].lo) * 1)) rfl rfl rfl (ev_idxM (k := idx (unitsP l) l[k].lo) (hM.get_sl (j := 3) rfl) rfl rfl (by omega) rfl rfl rfl (by decide)) rfl ?_
        refine Rg.stoM (f := encV) (j := 3) (k := (idx (unitsP l) l[k].lo)) u hM rfl rfl rfl rfl rfl rfl rfl (by omega) rfl hgu.one.1 rfl rfl (by simp [hgu.one.2.1]) (fun Hc (hM : Mem Hu Hc ((.box p4 3 (arcC (⟨k, idx (unitsP l) l[k].lo, idx (unitsP l) l[k].up⟩ : Arc))) :: (.box p3 3 (relC (l[k]))) :: (.sl 3 av1 (List.map arcC ((arcsUp l k) ++ ([(⟨k, idx (unitsP l) l[k].lo, idx (unitsP l) l[k].up⟩ : Arc)])))) :: (.sl 1 ax0 (List.map encV ((nx).set ((idx (unitsP l) l[k].lo)) u))) :: (.box gp 4 ([.slice ua (List.map encS (unitsP l)).length uc, .map (some M), av1, ax0])) :: (.map M (mapE 0 (unitsP l))) :: (inner (nx.set (idx (unitsP l) l[k].lo) u) (unitsP l).length (arcsUp l k ++ [(⟨k, idx (unitsP l) l[k].lo, idx (unitsP l) l[k].up⟩ : Arc)])))) => ?_)
        refine Rg.nil ?_
        refine Runs.region ?_
        refine Rg.opp (v := nat (k + 1)) rfl rfl rfl (ev_addN (b := 1) rfl rfl (by omega)) rfl ?_
        refine Rg.opp (v := nat (k + 1)) rfl rfl rfl rfl rfl ?_
        refine Rg.nil ?_
        refine ⟨l.length - (k + 1), by omega, k + 1, av1, nx.set (idx (unitsP l) l[k].lo) u, rfl, by rw [arcsUp_succ hlt, if_neg hkd]; exact hM.drop 2, hlt, by simpa using hnl, Is.of ⟨rfl, rfl, rfl, rfl, rfl, rfl, rfl, rfl, trivial⟩⟩
    · skip
      refine Rg.opp (v := .bool false) rfl rfl rfl (ev_ltF rfl rfl (hlt)) rfl ?_
      refine Rg.nil ?_
      refine Runs.seq ?_
      refine Runs.cond false rfl (fun h => by cases h) (fun _ => ?_)
      refine Runs.exit ?_
      refine Runs.seq ?_
      refine Runs.region ?_
      refine Rg.opp (v := .pointer (some ⟨gp, 0, none⟩)) rfl rfl rfl rfl rfl ?_
      refine Rg.opp (v := .pointer (some ⟨gp, 0, none⟩)) rfl rfl rfl rfl rfl ?_
      refine Rg.nil ?_
      refine Runs.ret ?_
      refine ⟨.pointer (some ⟨gp, 0, none⟩), rfl, ?_⟩
      have hkl : k = l.length := by omega
      subst hkl
      refine ⟨heu.trans hM.ext, gp, _, _, _, M, nx, true, rfl, ⟨hM.get_box (j := 2) rfl, hus.sees hM.ext.sees, hM.get_sl (j := 0) rfl, hM.get_sl (j := 1) rfl, hnl, fun i hi => ?_⟩, hM.get_map (j := 3) rfl⟩
      have hi' : i < (unitsP l).length := by omega
      exact hM.get_sl (j := i + 4) (show (inner nx (unitsP l).length (arcsUp l l.length))[i]? = _ from inner_get hi' hnl)

end Go.Proofs.Ytdhbclplondmjaa.C

/- The program's Older, run. -/
set_option linter.unusedVariables false
set_option linter.unusedSimpArgs false
set_option maxRecDepth 100000
set_option maxHeartbeats 4000000
namespace Go.Proofs.Ytdhbclplondmjaa.C
open Go.RowKit Go.Sort

noncomputable def olderP (l : List Rel) (a b : Nm) : Bool × Nat := if a ∈ unitsP l ∧ b ∈ unitsP l then (rchB (arcsOf l) (idx (unitsP l) a) (idx (unitsP l) b), 0) else (false, 10)

theorem older_runs {H : Heap} {v : Value} {l : List Rel} {a b : Nm} (hl : Sl H 3 v (rels l)) (hll : l.length ≤ 200) (hg : ∀ r ∈ l, Good r) (hu : (unitsP l).length ≤ 60) :
    ∃ r H1, big tab 21 [v, str a, str b] H = some (r, H1) ∧ r = .tuple #[.bool (olderP l a b).1, nat (olderP l a b).2] ∧ Ext H H1 := by
  refine big_of_runs rfl rfl rfl ?_
  obtain ⟨z, hz⟩ := startC_mkS Try.f21 [v, str a, str b]
  rw [show startC (21, Try.f21).snd [v, str a, str b] = _ from hz]
  clear hz
  refine Runs.cut (n := 51) (l := [(0, v), (1, str a), (2, str b)]) (Is.of ⟨rfl, rfl, rfl, rfl, rfl, rfl, trivial⟩) (fun a0 => ?_)
  refine Runs.seq ?_
  refine Runs.region ?_
  refine Rg.opp (v := .bool false) rfl rfl rfl rfl rfl ?_
  refine Rg.opp (v := nat 0) rfl rfl rfl rfl rfl ?_
  refine Rg.nil ?_
  refine Runs.seq ?_
  refine Runs.seq ?_
  refine Runs.region ?_
  refine Rg.opp (v := v) rfl rfl rfl rfl rfl ?_
  refine Rg.callW rfl rfl rfl rfl (rfl) rfl (checkP_runs hl hll hg hu) (fun rc Hk hP => ?_)
  obtain ⟨rfl, hec⟩ := hP
  have hM := Mem.start Hk
  refine Rg.opp (v := nat 0) rfl rfl rfl rfl rfl ?_
  refine Rg.nil ?_
  refine Runs.seq ?_
  refine Runs.region ?_
  refine Rg.opp (v := nat 0) rfl rfl rfl rfl rfl ?_
  refine Rg.opp (v := .bool false) rfl rfl rfl (ev_neF rfl rfl (by decide)) rfl ?_
  refine Rg.nil ?_
  refine Runs.cond false rfl (fun h => by cases h) (fun _ => ?_)
  refine Runs.skip ?_
  refine Runs.seq ?_
  refine Runs.region ?_
  refine Rg.opp (v := v) rfl rfl rfl rfl rfl ?_
  refine Rg.callW rfl rfl rfl rfl (rfl) rfl (build_runs (hl.sees hec.sees) (by omega) (by omega)) (fun rb Hb hP => ?_)
  obtain ⟨heb, gp, an, aa, ax, M, nx, own, rfl, hG, hmap⟩ := hP
  have hM := Mem.start Hb
  refine Rg.opp (v := .pointer (some ⟨gp, 0, none⟩)) rfl rfl rfl rfl rfl ?_
  refine Rg.nil ?_
  refine Runs.seq ?_
  refine Runs.region ?_
  refine Rg.opp (v := .pointer (some ⟨gp, 0, none⟩)) rfl rfl rfl rfl rfl ?_
  refine Rg.opp (v := .pointer (some ⟨gp, 0, none⟩)) rfl rfl rfl rfl rfl ?_
  refine Rg.opp (v := .pointer (some ⟨gp, 1, none⟩)) rfl rfl rfl (ev_fld (o := 0) (p := (74, 1)) rfl rfl rfl rfl rfl (by decide)) rfl ?_
  refine Rg.opp (v := .map (some M)) rfl rfl rfl (ev_ldb (hM.ext.get hG.box) rfl rfl rfl rfl rfl) rfl ?_
  refine Rg.opp (v := str a) rfl rfl rfl rfl rfl ?_
  by_cases hina : a ∈ unitsP l
  · skip
    refine Rg.opp (v := .tuple #[nat (idx (unitsP l) a), .bool true]) rfl rfl rfl (ev_lookB (decide_eq_true hina) rfl rfl (hM.ext.get hmap)) rfl ?_
    refine Rg.opp (v := .tuple #[nat (idx (unitsP l) a), .bool true]) rfl rfl rfl rfl rfl ?_
    refine Rg.opp (v := nat (idx (unitsP l) a)) rfl rfl rfl rfl rfl ?_
    refine Rg.opp (v := .bool true) rfl rfl rfl rfl rfl ?_
    refine Rg.opp (v := nat (idx (unitsP l) a)) rfl rfl rfl rfl rfl ?_
    refine Rg.opp (v := .bool true) rfl rfl rfl rfl rfl ?_
    refine Rg.nil ?_
    refine Runs.seq ?_
    refine Runs.region ?_
    refine Rg.opp (v := .pointer (some ⟨gp, 0, none⟩)) rfl rfl rfl rfl rfl ?_
    refine Rg.opp (v := .pointer (some ⟨gp, 0, none⟩)) rfl rfl rfl rfl rfl ?_
    refine Rg.opp (v := .pointer (some ⟨gp, 1, none⟩)) rfl rfl rfl (ev_fld (o := 0) (p := (74, 1)) rfl rfl rfl rfl rfl (by decide)) rfl ?_
    refine Rg.opp (v := .map (some M)) rfl rfl rfl (ev_ldb (hM.ext.get hG.box) rfl rfl rfl rfl rfl) rfl ?_
    refine Rg.opp (v := str b) rfl rfl rfl rfl rfl ?_
    by_cases hinb : b ∈ unitsP l
    · skip
      refine Rg.opp (v := .tuple #[nat (idx (unitsP l) b), .bool true]) rfl rfl rfl (ev_lookB (decide_eq_true hinb) rfl rfl (hM.ext.get hmap)) rfl ?_
      refine Rg.opp (v := .tuple #[nat (idx (unitsP l) b), .bool true]) rfl rfl rfl rfl rfl ?_
      refine Rg.opp (v := nat (idx (unitsP l) b)) rfl rfl rfl rfl rfl ?_
      refine Rg.opp (v := .bool true) rfl rfl rfl rfl rfl ?_
      refine Rg.opp (v := nat (idx (unitsP l) b)) rfl rfl rfl rfl rfl ?_
      refine Rg.opp (v := .bool true) rfl rfl rfl rfl rfl ?_
      refine Rg.nil ?_
      refine Runs.seq ?_
      refine Runs.seq ?_
      refine Runs.region ?_
      refine Rg.opp (v := .bool true) rfl rfl rfl rfl rfl ?_
      refine Rg.opp (v := .bool false) rfl rfl rfl rfl rfl ?_
      refine Rg.opp (v := .bool false) rfl rfl rfl rfl rfl ?_
      refine Rg.guards true rfl rfl rfl (fun _ => ⟨.bool true, _, evW_op (rfl), rfl, ?_⟩) (fun h => by cases h)
      refine Rg.guards true rfl rfl rfl (fun _ => ⟨.bool false, _, evW_op (rfl), rfl, ?_⟩) (fun h => by cases h)
      refine Rg.opp (v := .bool false) rfl rfl rfl rfl rfl ?_
      refine Rg.nil ?_
      refine Runs.cond false rfl (fun h => by cases h) (fun _ => ?_)
      refine Runs.skip ?_
      refine Runs.seq ?_
      refine Runs.region ?_
      refine Rg.opp (v := .pointer (some ⟨gp, 0, none⟩)) rfl rfl rfl rfl rfl ?_
      refine Rg.opp (v := nat (idx (unitsP l) a)) rfl rfl rfl rfl rfl ?_
      refine Rg.callW rfl rfl rfl rfl (rfl) rfl (reached_runs ⟨_, _, _, _, _, _, hG⟩ (arcs_wf l) (idx_lt hina) (by omega) (by have := arcsUp_len l l.length; show (arcsUp l l.length).length ≤ _; omega)) (fun rr Hc hP => ?_)
      have hM := hP
      refine Rg.opp (v := nat (idx (unitsP l) b)) rfl rfl rfl rfl rfl ?_
      refine Rg.opp (v := ptrAt (sAddr rr) ((idx (unitsP l) b) * 1)) rfl rfl rfl (ev_idxM (k := idx (unitsP l) b) (hM.get_sl (j := 0) rfl) rfl rfl (by rw [reachB_len]; exact idx_lt hinb) rfl rfl rfl (by decide)) rfl ?_
      refine Rg.opp (v := .bool (rchB (arcsOf l) (idx (unitsP l) a) (idx (unitsP l) b))) rfl rfl rfl (ev_ldM (k := (idx (unitsP l) b)) (hM.get_sl (j := 0) rfl) rfl (by rw [reachB_len]; exact idx_lt hinb) (by show [Value.bool _] = _; rw [reachB_get]) rfl rfl rfl) rfl ?_
      refine Rg.opp (v := .bool (rchB (arcsOf l) (idx (unitsP l) a) (idx (unitsP l) b))) rfl rfl rfl rfl rfl ?_
      refine Rg.opp (v := nat 0) rfl rfl rfl rfl rfl ?_
      refine Rg.nil ?_
      refine Runs.ret ?_
      refine ⟨.tuple #[.bool (rchB (arcsOf l) (idx (unitsP l) a) (idx (unitsP l) b)), nat 0], rfl, ?_⟩
      refine ⟨?_, hec.trans (heb.trans hM.ext)⟩
      simp [olderP, hina, hinb]
    · skip
      refine Rg.opp (v := .tuple #[nat (idx (unitsP l) b), .bool false]) rfl rfl rfl (ev_lookB (decide_eq_false hinb) rfl rfl (hM.ext.get hmap)) rfl ?_
      refine Rg.opp (v := .tuple #[nat (idx (unitsP l) b), .bool false]) rfl rfl rfl rfl rfl ?_
      refine Rg.opp (v := nat (idx (unitsP l) b)) rfl rfl rfl rfl rfl ?_
      refine Rg.opp (v := .bool false) rfl rfl rfl rfl rfl ?_
      refine Rg.opp (v := nat (idx (unitsP l) b)) rfl rfl rfl rfl rfl ?_
      refine Rg.opp (v := .bool false) rfl rfl rfl rfl rfl ?_
      refine Rg.nil ?_
      refine Runs.seq ?_
      refine Runs.seq ?_
      refine Runs.region ?_
      refine Rg.opp (v := .bool true) rfl rfl rfl rfl rfl ?_
      refine Rg.opp (v := .bool false) rfl rfl rfl rfl rfl ?_
      refine Rg.opp (v := .bool false) rfl rfl rfl rfl rfl ?_
      refine Rg.guards true rfl rfl rfl (fun _ => ⟨.bool false, _, evW_op (rfl), rfl, ?_⟩) (fun h => by cases h)
      refine Rg.guards true rfl rfl rfl (fun _ => ⟨.bool true, _, evW_op (rfl), rfl, ?_⟩) (fun h => by cases h)
      refine Rg.opp (v := .bool true) rfl rfl rfl rfl rfl ?_
      refine Rg.nil ?_
      refine Runs.cond true rfl (fun _ => ?_) (fun h => by cases h)
      refine Runs.seq ?_
      refine Runs.region ?_
      refine Rg.opp (v := .bool false) rfl rfl rfl rfl rfl ?_
      refine Rg.opp (v := nat 10) rfl rfl rfl rfl rfl ?_
      refine Rg.nil ?_
      refine Runs.ret ?_
      refine ⟨.tuple #[.bool false, nat 10], rfl, ?_⟩
      refine ⟨?_, hec.trans (heb.trans hM.ext)⟩
      simp [olderP, hina, hinb]
  · skip
    refine Rg.opp (v := .tuple #[nat (idx (unitsP l) a), .bool false]) rfl rfl rfl (ev_lookB (decide_eq_false hina) rfl rfl (hM.ext.get hmap)) rfl ?_
    refine Rg.opp (v := .tuple #[nat (idx (unitsP l) a), .bool false]) rfl rfl rfl rfl rfl ?_
    refine Rg.opp (v := nat (idx (unitsP l) a)) rfl rfl rfl rfl rfl ?_
    refine Rg.opp (v := .bool false) rfl rfl rfl rfl rfl ?_
    refine Rg.opp (v := nat (idx (unitsP l) a)) rfl rfl rfl rfl rfl ?_
    refine Rg.opp (v := .bool false) rfl rfl rfl rfl rfl ?_
    refine Rg.nil ?_
    refine Runs.seq ?_
    refine Runs.region ?_
    refine Rg.opp (v := .pointer (some ⟨gp, 0, none⟩)) rfl rfl rfl rfl rfl ?_
    refine Rg.opp (v := .pointer (some ⟨gp, 0, none⟩)) rfl rfl rfl rfl rfl ?_
    refine Rg.opp (v := .pointer (some ⟨gp, 1, none⟩)) rfl rfl rfl (ev_fld (o := 0) (p := (74, 1)) rfl rfl rfl rfl rfl (by decide)) rfl ?_
    refine Rg.opp (v := .map (some M)) rfl rfl rfl (ev_ldb (hM.ext.get hG.box) rfl rfl rfl rfl rfl) rfl ?_
    refine Rg.opp (v := str b) rfl rfl rfl rfl rfl ?_
    by_cases hinb : b ∈ unitsP l
    · skip
      refine Rg.opp (v := .tuple #[nat (idx (unitsP l) b), .bool true]) rfl rfl rfl (ev_lookB (decide_eq_true hinb) rfl rfl (hM.ext.get hmap)) rfl ?_
      refine Rg.opp (v := .tuple #[nat (idx (unitsP l) b), .bool true]) rfl rfl rfl rfl rfl ?_
      refine Rg.opp (v := nat (idx (unitsP l) b)) rfl rfl rfl rfl rfl ?_
      refine Rg.opp (v := .bool true) rfl rfl rfl rfl rfl ?_
      refine Rg.opp (v := nat (idx (unitsP l) b)) rfl rfl rfl rfl rfl ?_
      refine Rg.opp (v := .bool true) rfl rfl rfl rfl rfl ?_
      refine Rg.nil ?_
      refine Runs.seq ?_
      refine Runs.seq ?_
      refine Runs.region ?_
      refine Rg.opp (v := .bool false) rfl rfl rfl rfl rfl ?_
      refine Rg.opp (v := .bool true) rfl rfl rfl rfl rfl ?_
      refine Rg.opp (v := .bool true) rfl rfl rfl rfl rfl ?_
      refine Rg.guards false rfl rfl rfl (fun h => by cases h) (fun _ => ?_)
      refine Rg.guards false rfl rfl rfl (fun h => by cases h) (fun _ => ?_)
      refine Rg.opp (v := .bool true) rfl rfl rfl rfl rfl ?_
      refine Rg.nil ?_
      refine Runs.cond true rfl (fun _ => ?_) (fun h => by cases h)
      refine Runs.seq ?_
      refine Runs.region ?_
      refine Rg.opp (v := .bool false) rfl rfl rfl rfl rfl ?_
      refine Rg.opp (v := nat 10) rfl rfl rfl rfl rfl ?_
      refine Rg.nil ?_
      refine Runs.ret ?_
      refine ⟨.tuple #[.bool false, nat 10], rfl, ?_⟩
      refine ⟨?_, hec.trans (heb.trans hM.ext)⟩
      simp [olderP, hina, hinb]
    · skip
      refine Rg.opp (v := .tuple #[nat (idx (unitsP l) b), .bool false]) rfl rfl rfl (ev_lookB (decide_eq_false hinb) rfl rfl (hM.ext.get hmap)) rfl ?_
      refine Rg.opp (v := .tuple #[nat (idx (unitsP l) b), .bool false]) rfl rfl rfl rfl rfl ?_
      refine Rg.opp (v := nat (idx (unitsP l) b)) rfl rfl rfl rfl rfl ?_
      refine Rg.opp (v := .bool false) rfl rfl rfl rfl rfl ?_
      refine Rg.opp (v := nat (idx (unitsP l) b)) rfl rfl rfl rfl rfl ?_
      refine Rg.opp (v := .bool false) rfl rfl rfl rfl rfl ?_
      refine Rg.nil ?_
      refine Runs.seq ?_
      refine Runs.seq ?_
      refine Runs.region ?_
      refine Rg.opp (v := .bool false) rfl rfl rfl rfl rfl ?_
      refine Rg.opp (v := .bool true) rfl rfl rfl rfl rfl ?_
      refine Rg.opp (v := .bool true) rfl rfl rfl rfl rfl ?_
      refine Rg.guards false rfl rfl rfl (fun h => by cases h) (fun _ => ?_)
      refine Rg.guards false rfl rfl rfl (fun h => by cases h) (fun _ => ?_)
      refine Rg.opp (v := .bool true) rfl rfl rfl rfl rfl ?_
      refine Rg.nil ?_
      refine Runs.cond true rfl (fun _ => ?_) (fun h => by cases h)
      refine Runs.seq ?_
      refine Runs.region ?_
      refine Rg.opp (v := .bool false) rfl rfl rfl rfl rfl ?_
      refine Rg.opp (v := nat 10) rfl rfl rfl rfl rfl ?_
      refine Rg.nil ?_
      refine Runs.ret ?_
      refine ⟨.tuple #[.bool false, nat 10], rfl, ?_⟩
      refine ⟨?_, hec.trans (heb.trans hM.ext)⟩
      simp [olderP, hina, hinb]

end Go.Proofs.Ytdhbclplondmjaa.C

/- Tables of numbers in the memory; one round of the law's 'reach', plain. -/
set_option linter.unusedVariables false
set_option linter.unusedSimpArgs false
namespace Go.Proofs.Ytdhbclplondmjaa.C
open Go.RowKit Go.Sort

/-- The first k rows of a table of n by n. -/
def mat (n : Nat) (m : Nat → Nat → Nat) (k : Nat) : List (List Nat) := (List.range n).map fun c => if c < k then (List.range n).map (m c) else []
theorem mat_len (n : Nat) (m : Nat → Nat → Nat) (k : Nat) : (mat n m k).length = n := by simp [mat]
def rowsT (nv : List Value) (ms : List (List Nat)) : List Th := List.zipWith (fun v m => .sl 1 v (m.map encN)) nv ms
theorem rowsT_len {nv : List Value} {n : Nat} {m : Nat → Nat → Nat} {k : Nat} (h : nv.length = n) : (rowsT nv (mat n m k)).length = n := by simp [rowsT, mat_len, h]

theorem rowsT_get {nv : List Value} {n c k : Nat} {m : Nat → Nat → Nat} (h : nv.length = n) (hc : c < n) (hk : c < k) : (rowsT nv (mat n m k))[c]? = some (.sl 1 (nv[c]'(by omega)) (((List.range n).map (m c)).map encN)) := by
  have h1 : nv[c]? = some (nv[c]'(by omega)) := by simp [show c < nv.length by omega]
  have h2 : (mat n m k)[c]? = some ((List.range n).map (m c)) := by simp [mat, hc, hk]
  simp only [rowsT, List.getElem?_zipWith, h1, h2]

def upd1 (m : Nat → Nat → Nat) (c b v : Nat) : Nat → Nat → Nat := fun c' b' => if c' = c ∧ b' = b then v else m c' b'

theorem row_set {n b v : Nat} {f : Nat → Nat} (hb : b < n) : ((List.range n).map f).set b v = (List.range n).map fun b' => if b' = b then v else f b' := by
  refine List.ext_getElem (by simp) fun i h1 h2 => ?_
  rw [List.getElem_set]
  by_cases e : b = i
  · subst e; simp
  · rw [if_neg e]; simp [show ¬ i = b from fun h => e h.symm]

theorem rowsT_sto {nv : List Value} {n c b v : Nat} {m : Nat → Nat → Nat} (h : nv.length = n) (hc : c < n) (hb : b < n) : (rowsT nv (mat n m n)).set c (.sl 1 (nv[c]'(by omega)) ((((List.range n).map (m c)).set b v).map encN)) = rowsT nv (mat n (upd1 m c b v) n) := by
  refine List.ext_getElem (by simp [rowsT, mat_len]) fun i h1 h2 => ?_
  have hi : i < n := by simpa [rowsT, mat_len, h] using h2
  rw [List.getElem_set]
  by_cases e : c = i
  · subst e
    rw [if_pos rfl, row_set hb]
    simp [rowsT, mat, upd1, hc]
  · rw [if_neg e]
    have : upd1 m c b v i = m i := by funext b'; simp [upd1, show ¬ i = c from fun h => e h.symm]
    simp [rowsT, mat, this]

theorem rowsT_up {nv : List Value} {n c : Nat} {m : Nat → Nat → Nat} {u : Value} (h : nv.length = n) (hc : c < n) {xs : List Nat} (hx : xs = (List.range n).map (m c)) : (rowsT nv (mat n m c)).set c (.sl 1 u (xs.map encN)) = rowsT (nv.set c u) (mat n m (c + 1)) := by
  subst hx
  refine List.ext_getElem (by simp [rowsT, mat_len]) fun i h1 h2 => ?_
  have hi : i < n := by simpa [rowsT, mat_len, h] using h2
  rw [List.getElem_set]
  by_cases e : c = i
  · subst e
    simp [rowsT, mat]
  · rw [if_neg e]
    simp only [rowsT, List.getElem_zipWith, List.getElem_set_ne e, mat, List.getElem_map, List.getElem_range]
    by_cases q : i < c
    · rw [if_pos q, if_pos (by omega)]
    · rw [if_neg q, if_neg (by omega)]

theorem rowsT_nil (n : Nat) (m : Nat → Nat → Nat) : List.replicate n (Th.sl 1 (.slice none 0 0) []) = rowsT (List.replicate n (.slice none 0 0)) (mat n m 0) := by
  refine List.ext_getElem (by simp [rowsT, mat_len]) fun i h1 h2 => ?_
  simp [rowsT, mat]

/-- The first thing takes the place of another one. -/
theorem Mem.mv {H0 H : Heap} {t : Th} {L : List Th} (h : Mem H0 H (t :: L)) (j : Nat) : Mem H0 H (L.set j t) :=
  h.sub (fun i => if i = j then 0 else i + 1) (fun a b e => by
    by_cases p : a = j <;> by_cases q : b = j <;> simp only [p, q, if_true, if_false] at e <;> omega) (fun i x e => by
    by_cases p : i = j
    · subst p
      rw [if_pos rfl]
      have hlt := (List.getElem?_eq_some_iff.1 e).1
      rw [List.getElem?_set_self (by simpa using hlt)] at e
      simpa using e
    · rw [if_neg p]
      rw [List.getElem?_set_ne (fun h => p h.symm)] at e
      simpa using e)
theorem Mem.mid {H0 H : Heap} {A L B : List Th} (h : Mem H0 H (A ++ L ++ B)) : Mem H0 H (A ++ B) :=
  h.sub (fun i => if i < A.length then i else i + L.length) (fun a b e => by
    by_cases p : a < A.length <;> by_cases q : b < A.length <;> simp only [p, q, if_true, if_false] at e <;> omega) (fun i x e => by
    by_cases p : i < A.length
    · rw [if_pos p, List.append_assoc, List.getElem?_append_left p]
      rwa [List.getElem?_append_left p] at e
    · rw [if_neg p, List.append_assoc, List.getElem?_append_right (by omega), List.getElem?_append_right (by omega)]
      rw [List.getElem?_append_right (by omega)] at e
      rw [← e]; congr 1; omega)

/-! ### Rounds -/

def v2 (m m' : Nat → Nat → Nat) (a b c : Nat) : Nat :=
  let v1 := if c = a then max (m' c b) 1 else m' c b
  if 0 < m c a then max v1 (min 8 (m c a + 1)) else v1
def updC (m m' : Nat → Nat → Nat) (a b c0 : Nat) : Nat → Nat → Nat := fun c b' => if c < c0 ∧ b' = b then v2 m m' a b c else m' c b'

theorem updC_zero (m m' : Nat → Nat → Nat) (a b : Nat) : updC m m' a b 0 = m' := by
  funext c b'; simp [updC]
theorem updC_at (m m' : Nat → Nat → Nat) (a b c b' : Nat) : updC m m' a b c c b' = m' c b' := by simp [updC]
theorem updC_succ (m m' : Nat → Nat → Nat) (a b c : Nat) : updC m m' a b (c + 1) = upd1 (updC m m' a b c) c b (v2 m m' a b c) := by
  funext c' b'
  unfold upd1 updC
  by_cases e : c' = c
  · subst e
    by_cases e2 : b' = b
    · simp [e2]
    · simp [e2]
  · by_cases q : c' < c
    · simp [e, q, show c' < c + 1 by omega]
    · simp [e, q, show ¬ c' < c + 1 by omega]
theorem upd1_upd1 (m : Nat → Nat → Nat) (c b v w : Nat) : upd1 (upd1 m c b v) c b w = upd1 m c b w := by
  funext c' b'; unfold upd1; by_cases e : c' = c ∧ b' = b <;> simp [e]
theorem upd1_at (m : Nat → Nat → Nat) (c b v : Nat) : upd1 m c b v c b = v := by simp [upd1]
theorem upd1_same (m : Nat → Nat → Nat) (c b : Nat) : upd1 m c b (m c b) = m := by
  funext c' b'; unfold upd1; by_cases e : c' = c ∧ b' = b
  · rw [if_pos e, e.1, e.2]
  · rw [if_neg e]

section
variable {m m' : Nat → Nat → Nat} {a b c : Nat}
theorem updC_tt (h1 : c = a) (h2 : 0 < m c a) : upd1 (upd1 (updC m m' a b c) c b (max (updC m m' a b c c b) 1)) c b (max (upd1 (updC m m' a b c) c b (max (updC m m' a b c c b) 1) c b) (min 8 (m c a + 1))) = updC m m' a b (c + 1) := by
  rw [upd1_upd1, upd1_at, updC_at, updC_succ]
  congr 1
  simp only [v2, if_pos h1, if_pos h2]
theorem updC_tf (h1 : c = a) (h2 : ¬ 0 < m c a) : upd1 (updC m m' a b c) c b (max (updC m m' a b c c b) 1) = updC m m' a b (c + 1) := by
  rw [updC_at, updC_succ]
  congr 1
  simp only [v2, if_pos h1, if_neg h2]
theorem updC_ft (h1 : ¬ c = a) (h2 : 0 < m c a) : upd1 (updC m m' a b c) c b (max (updC m m' a b c c b) (min 8 (m c a + 1))) = updC m m' a b (c + 1) := by
  rw [updC_at, updC_succ]
  congr 1
  simp only [v2, if_neg h1, if_pos h2]
theorem updC_ff (h1 : ¬ c = a) (h2 : ¬ 0 < m c a) : updC m m' a b c = updC m m' a b (c + 1) := by
  rw [updC_succ]
  have : v2 m m' a b c = updC m m' a b c c b := by rw [updC_at]; simp only [v2, if_neg h1, if_neg h2]
  rw [this, upd1_same]
end

/-- A round so far: these arcs have been looked at. -/
structure Part (m : Nat → Nat → Nat) (ps : List (Nat × Nat)) (m' : Nat → Nat → Nat) : Prop where
  le : ∀ c b, m c b ≤ m' c b
  one : ∀ a b, (a, b) ∈ ps → 1 ≤ m' a b
  more : ∀ c a b, (a, b) ∈ ps → 0 < m c a → m c a + 1 ≤ m' c b
  from_ : ∀ c b, m' c b = m c b ∨ ((c, b) ∈ ps ∧ m' c b = 1) ∨ ∃ a, (a, b) ∈ ps ∧ 0 < m c a ∧ m' c b = m c a + 1

theorem Part.start (m : Nat → Nat → Nat) : Part m [] m := ⟨fun _ _ => Nat.le_refl _, fun _ _ h => by simp at h, fun _ _ _ h => by simp at h, fun _ _ => .inl rfl⟩

theorem v2_ge (m m' : Nat → Nat → Nat) (a b c : Nat) : m' c b ≤ v2 m m' a b c := by
  unfold v2; simp only; split <;> split <;> omega

theorem Part.arc {m m' : Nat → Nat → Nat} {ps : List (Nat × Nat)} {a b n : Nat} (h : Part m ps m') (hm : ∀ c a, m c a ≤ 7) (hn : ∀ c, n ≤ c → ∀ b, m c b = 0) (ha : a < n) : Part m (ps ++ [(a, b)]) (updC m m' a b n) := by
  have ge : ∀ c b', m' c b' ≤ updC m m' a b n c b' := by
    intro c b'
    unfold updC
    split
    · rename_i q; rw [q.2]; exact v2_ge _ _ _ _ _
    · exact Nat.le_refl _
  refine ⟨fun c b' => Nat.le_trans (h.le c b') (ge c b'), fun a' b' hm' => ?_, fun c a' b' hm' h0 => ?_, fun c b' => ?_⟩
  · rcases List.mem_append.1 hm' with q | q
    · exact Nat.le_trans (h.one a' b' q) (ge a' b')
    · simp at q
      obtain ⟨rfl, rfl⟩ := q
      unfold updC
      rw [if_pos ⟨ha, rfl⟩]
      unfold v2; simp only [if_true]; split <;> omega
  · rcases List.mem_append.1 hm' with q | q
    · exact Nat.le_trans (h.more c a' b' q h0) (ge c b')
    · simp at q
      obtain ⟨rfl, rfl⟩ := q
      have hc : c < n := by
        rcases Nat.lt_or_ge c n with z | z
        · exact z
        · rw [hn c z] at h0; omega
      unfold updC
      rw [if_pos ⟨hc, rfl⟩]
      have := hm c a'
      unfold v2; simp only [if_pos h0]; split <;> omega
  · unfold updC
    by_cases q : c < n ∧ b' = b
    · rw [if_pos q]
      obtain ⟨q1, rfl⟩ := q
      have h7 := hm c a
      have hf := h.from_ c b'
      have hle := h.le c b'
      have old : (m' c b' = m c b' ∨ ((c, b') ∈ ps ∧ m' c b' = 1) ∨ ∃ a, (a, b') ∈ ps ∧ 0 < m c a ∧ m' c b' = m c a + 1) → (m' c b' = m c b' ∨ ((c, b') ∈ ps ++ [(a, b')] ∧ m' c b' = 1) ∨ ∃ a1, (a1, b') ∈ ps ++ [(a, b')] ∧ 0 < m c a1 ∧ m' c b' = m c a1 + 1) := by
        rintro (z | ⟨z1, z2⟩ | ⟨a1, z1, z2, z3⟩)
        · exact .inl z
        · exact .inr (.inl ⟨List.mem_append_left _ z1, z2⟩)
        · exact .inr (.inr ⟨a1, List.mem_append_left _ z1, z2, z3⟩)
      have hf' := old hf
      by_cases h0 : 0 < m c a
      · by_cases hca : c = a
        · by_cases hbig : m' c b' ≤ m c a + 1
          · right; right
            refine ⟨a, by simp, h0, ?_⟩
            unfold v2; simp only [if_pos h0, if_pos hca]; omega
          · have : v2 m m' a b' c = m' c b' := by unfold v2; simp only [if_pos h0, if_pos hca]; omega
            rw [this]; exact hf'
        · by_cases hbig : m' c b' ≤ m c a + 1
          · right; right
            refine ⟨a, by simp, h0, ?_⟩
            unfold v2; simp only [if_pos h0, if_neg hca]; omega
          · have : v2 m m' a b' c = m' c b' := by unfold v2; simp only [if_pos h0, if_neg hca]; omega
            rw [this]; exact hf'
      · by_cases hca : c = a
        · by_cases hz : m' c b' = 0
          · right; left
            refine ⟨by simp [hca], ?_⟩
            unfold v2; simp only [if_neg h0, if_pos hca, hz]; omega
          · have : v2 m m' a b' c = m' c b' := by unfold v2; simp only [if_neg h0, if_pos hca]; omega
            rw [this]; exact hf'
        · have : v2 m m' a b' c = m' c b' := by unfold v2; simp only [if_neg h0, if_neg hca]
          rw [this]; exact hf'
    · rw [if_neg q]
      rcases h.from_ c b' with z | ⟨z1, z2⟩ | ⟨a1, z1, z2, z3⟩
      · exact .inl z
      · exact .inr (.inl ⟨List.mem_append_left _ z1, z2⟩)
      · exact .inr (.inr ⟨a1, List.mem_append_left _ z1, z2, z3⟩)

theorem Part.far {m m' : Nat → Nat → Nat} {ps : List (Nat × Nat)} {k : Nat} (h : Part m ps m') (hf : ∀ c b, Far ps k c b (m c b)) : ∀ c b, Far ps (k + 1) c b (m' c b) := by
  intro c b
  refine Far.succ (hf c) (h.le c b) (fun a ha e => by subst e; exact h.one _ _ ha) (fun a ha h0 => h.more c a b ha h0) ?_
  rcases h.from_ c b with z | ⟨z1, z2⟩ | ⟨a, z1, z2, z3⟩
  · exact .inl z
  · exact .inr (.inl ⟨c, z1, rfl, z2⟩)
  · exact .inr (.inr ⟨a, z1, z2, z3⟩)

theorem Far.le {arcs : List (Nat × Nat)} {k c b x : Nat} (h : Far arcs k c b x) : x ≤ k := by
  rcases h with ⟨rfl, _⟩ | ⟨_, h, _⟩ <;> omega

theorem Far.zero {arcs : List (Nat × Nat)} {k c b x : Nat} (h : Far arcs k c b x) {n : Nat} (hn : ∀ p ∈ arcs, p.1 < n) (hc : n ≤ c) : x = 0 := by
  have hw : ∀ j d, W arcs j c d → 1 ≤ j → False := by
    intro j
    induction j with
    | zero => intro d _ h; omega
    | succ j ih =>
      rintro d ⟨a, ha, hm⟩ _
      have h1 : a < n := hn _ hm
      rcases Nat.eq_zero_or_pos j with q | q
      · subst q; have : c = a := ha; omega
      · exact ih a ha q
  rcases h with ⟨h, _⟩ | ⟨h1, h2, h3, _⟩
  · exact h
  · exact (hw _ _ h3 h1).elim

/-! ### Calls of small functions -/
theorem arc_T {k : Nat} (u l : Nm) (H : Heap) (h : ¬ k = 4) : big tab 25 [.agg #[nat k, str u, str l]] H = some (.bool true, H) := by
  rw [arc_runs, decide_eq_true h]
theorem arc_F {k : Nat} (u l : Nm) (H : Heap) (h : k = 4) : big tab 25 [.agg #[nat k, str u, str l]] H = some (.bool false, H) := by
  rw [arc_runs, decide_eq_false (by simpa using h)]
theorem index_mem {H : Heap} {v : Value} {xs : List Nm} {x : Nm} (h : Sl H 1 v (xs.map encS)) (hx : x ∈ xs) (hl : xs.length < 2 ^ 40) : big tab 22 [v, str x] H = some (nat (idx xs x), H) := by
  have := index_runs x (xs := xs) h hl
  rw [indexOf_mem hx] at this
  exact this

end Go.Proofs.Ytdhbclplondmjaa.C
