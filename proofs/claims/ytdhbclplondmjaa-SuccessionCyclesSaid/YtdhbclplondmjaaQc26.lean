/- Texts of one's own, laid together: Wj, Wl, X4, X7, X8 -/
import Derived.Test.YtdhbclplondmjaaQc22
import Derived.Test.YtdhbclplondmjaaQc25
import Derived.Test.YtdhbclplondmjaaQc23
section
/- The law on Keeps, run. -/
set_option linter.unusedVariables false
set_option maxRecDepth 100000
namespace Go.Proofs.Ytdhbclplondmjaa.C
open Go.RowKit Go.Sort

theorem known_is (H : Heap) : big tab 9 [] H = some (.bool true, H) := by
  obtain ⟨v, E, h, rfl⟩ := known_runs
  refine big_ext (T := tab) (f := 9) rfl ?_
  unfold pureB
  simp only [flats, if_true, h]
  rfl

theorem fits_runs {H : Heap} (a : Option Addr) (n c : Nat) : big tab 10 [.slice a n c] H = some (.bool (decide ((n : Int) ≤ 8)), H) :=
  big_some.2 ⟨20, rfl⟩

/-- The law's answer. -/
def want2 (u order : List Nm) : Nat := if ∀ x ∈ u, x ∈ order then 0 else 10
def want3 (order : List Nm) (w : Nat) : Nat := if order.Nodup then w else 9
def lawKeeps (L : List Rel) (order : List Nm) : Bool :=
  let kp := keepsP L order
  let want := want3 order (want2 (unitsL L) order)
  if want ≠ 0 then decide (kp.1 = 0) && (!kp.2.1) && decide (kp.2.2 = want)
  else match L.findIdx? (lawArc order) with
    | some i => decide (kp.2.2 = 0) && decide (kp.1 = i) && !kp.2.1
    | none => decide (kp.2.2 = 0) && decide (kp.1 = 0) && kp.2.1

theorem want2_snoc (u : List Nm) (x : Nm) (order : List Nm) : want2 (u ++ [x]) order = if x ∉ order then 10 else want2 u order := by
  unfold want2
  by_cases q : x ∈ order
  · simp [q, or_imp, forall_and]
  · rw [if_pos q, if_neg]
    intro z
    exact q (z _ (by simp))

theorem indexOf_neg {xs : List Nm} {x : Nm} : indexOf xs x < 0 ↔ x ∉ xs := by
  unfold indexOf
  cases e : xs.idxOf? x with
  | none => simp [List.idxOf?_eq_none_iff.1 e]
  | some k =>
    have : xs.idxOf? x ≠ none := by rw [e]; simp
    rw [ne_eq, List.idxOf?_eq_none_iff] at this
    simp only [this, not_true, iff_false]
    omega

def want4 (order : List Nm) (w k : Nat) : Nat := if ∀ i (h : i < order.length), i < k → ¬ (indexOf order order[i] < (i : Int)) then w else 9

theorem want4_succ {order : List Nm} {w k : Nat} (h : k < order.length) : want4 order w (k + 1) = if indexOf order order[k] < (k : Int) then 9 else want4 order w k := by
  unfold want4
  by_cases q : indexOf order order[k] < (k : Int)
  · rw [if_pos q, if_neg]
    intro z
    exact z k h (by omega) q
  · rw [if_neg q]
    congr 1
    apply propext
    constructor
    · intro z i hi hk; exact z i hi (by omega)
    · intro z i hi hk
      rcases Nat.lt_or_ge i k with r | r
      · exact z i hi r
      · have : i = k := by omega
        subst this; exact q

theorem want4_all {order : List Nm} {w : Nat} : want4 order w order.length = want3 order w := by
  unfold want4 want3
  congr 1
  apply propext
  constructor
  · intro z
    unfold List.Nodup
    rw [List.pairwise_iff_getElem]
    intro i j hi hj hij he
    · revert he
      intro he
      refine z j hj hj ?_
      have hm : order[j] ∈ order := List.getElem_mem hj
      unfold indexOf
      cases e : order.idxOf? order[j] with
      | none => simp; omega
      | some k =>
        rw [List.idxOf?, List.findIdx?_eq_some_iff_getElem] at e
        obtain ⟨hk, h1, h2⟩ := e
        have : k ≤ i := by
          rcases Nat.lt_or_ge i k with r | r
          · have := h2 i r
            simp [he] at this
          · exact r
        simp only
        omega
  · intro z i hi _ q
    unfold indexOf at q
    cases e : order.idxOf? order[i] with
    | none =>
      rw [List.idxOf?_eq_none_iff] at e
      exact e (List.getElem_mem hi)
    | some k =>
      rw [e] at q
      simp only at q
      rw [List.idxOf?, List.findIdx?_eq_some_iff_getElem] at e
      obtain ⟨hk, h1, h2⟩ := e
      unfold List.Nodup at z
      rw [List.pairwise_iff_getElem] at z
      exact z k i hk hi (by omega) (by simpa using h1)

set_option maxHeartbeats 4000000 in
theorem law_runs {H : Heap} {v w : Value} {xs : List Seen} {order : List Nm} (h : Sl H 3 v (seens xs)) (hsm : ∀ s ∈ xs, s.k < 256 ∧ s.u < 256 ∧ s.l < 256) (hxl : xs.length < 2 ^ 60) (ho : Sl H 1 w (strs order)) (hol : order.length < 2 ^ 60) :
    ∃ r H1, big tab 8 [v, w] H = some (r, H1) ∧ (r = .bool true ∨ (xs.length ≤ 8 ∧ r = .bool (lawKeeps (xs.map mk) order))) := by
  have hs0 := h
  have ho0 := ho
  obtain ⟨a, c, rfl, hc, hcs⟩ := h
  obtain ⟨oa, oc, rfl, hoc, hocs⟩ := ho
  simp only [seens_len, strs_len] at *
  refine big_of_runs rfl rfl rfl ?_
  obtain ⟨z, hz⟩ := startC_mkS Try.f8 [.slice a xs.length c, .slice oa order.length oc]
  rw [show startC (8, Try.f8).snd [Value.slice a xs.length c, .slice oa order.length oc] = _ from hz]
  clear hz
  refine Runs.seq (Runs.region ?_)
  repeat refine Rg.opp rfl rfl rfl rfl rfl ?_
  refine Rg.nil ?_
  have early : ∀ a0 : Nat → Value, Runs tab (.seq (.region 2 #[]  false) .ret) (mkS 139 a0 []) H (fun _ _ => True) (fun _ _ _ => True) (fun _ _ => True) := fun a0 => Runs.seq (Runs.region (Rg.nil (Runs.ret trivial)))
  clear early
  by_cases h8 : xs.length ≤ 8
  · by_cases h9 : order.length ≤ 8
    · refine Runs.seq (Runs.seq (Runs.region ?_))
      refine Rg.calls rfl rfl rfl rfl rfl rfl (known_is _) ?_
      refine Rg.opp rfl rfl rfl rfl rfl ?_
      refine Rg.opp rfl rfl rfl rfl rfl ?_
      refine Rg.guards true rfl rfl rfl (fun _ => ⟨_, _, evW_op rfl, rfl, ?_⟩) (fun h => by cases h)
      refine Rg.guards true rfl rfl rfl (fun _ => ⟨_, _, evW_call rfl rfl (fits_runs _ _ _), rfl, ?_⟩) (fun h => by cases h)
      rw [show decide ((xs.length : Int) ≤ 8) = true from decide_eq_true (by omega)]
      refine Rg.guards true rfl rfl rfl (fun _ => ⟨_, _, evW_op rfl, rfl, ?_⟩) (fun h => by cases h)
      refine Rg.opp rfl rfl rfl rfl rfl ?_
      refine Rg.opp rfl rfl rfl rfl rfl ?_
      refine Rg.guards true rfl rfl rfl (fun _ => ⟨_, _, evW_op rfl, rfl, ?_⟩) (fun h => by cases h)
      refine Rg.guards true rfl rfl rfl (fun _ => ⟨_, _, evW_op rfl, rfl, ?_⟩) (fun h => by cases h)
      refine Rg.guards true rfl rfl rfl (fun _ => ⟨_, _, evW_op (ev_gt false rfl rfl (decide_eq_false (by omega))), rfl, ?_⟩) (fun h => by cases h)
      refine Rg.opp rfl rfl rfl rfl rfl ?_
      refine Rg.nil ?_
      refine Runs.cond false rfl (fun h => by cases h) (fun _ => ?_)
      refine Runs.skip ?_
      refine Runs.cut (n := 139) (l := [(0, .slice a xs.length c), (1, .slice oa order.length oc)]) (Is.of ⟨rfl, rfl, rfl, rfl, trivial⟩) (fun a1 => ?_)
      -- no long names, or true
      refine Runs.seq (Runs.seq (Runs.region ?_))
      repeat refine Rg.opp rfl rfl rfl rfl rfl ?_
      refine Rg.nil ?_
      refine Runs.block ?_
      refine Runs.loop (fun m s H1 => H = H1 ∧ ∃ k, k ≤ order.length ∧ m = order.length - k ∧ Is s 139 [(0, .slice a xs.length c), (1, .slice oa order.length oc), (5, nat k)]) _ ⟨rfl, 0, Nat.zero_le _, rfl, Is.of ⟨rfl, rfl, rfl, rfl, rfl, rfl, trivial⟩⟩ ?_
      rintro m s H1 ⟨hH1, k, hk, rfl, hs⟩
      subst hH1
      obtain ⟨a2, rfl⟩ := hs.mk1
      clear hs
      by_cases hlt : k < order.length
      · refine Runs.seq (Runs.seq (Runs.region ?_))
        refine Rg.opp rfl rfl rfl rfl rfl ?_
        refine Rg.opp rfl rfl rfl rfl rfl ?_
        refine Rg.opp rfl rfl rfl rfl rfl ?_
        refine Rg.opp rfl rfl rfl (ev_lt true rfl rfl (by simp; omega)) rfl ?_
        refine Rg.nil ?_
        refine Runs.cond true rfl (fun _ => ?_) (fun h => by cases h)
        refine Runs.skip ?_
        obtain ⟨b, o, rfl, hsz, hr⟩ := hocs.lt (i := k) (by rw [strs_len]; exact hlt)
        have hrk := hr k _ (strs_get hlt)
        refine Runs.seq (Runs.block ?_)
        refine Runs.seq (Runs.region ?_)
        refine Rg.opp rfl rfl rfl rfl rfl ?_
        refine Rg.opp rfl rfl rfl rfl rfl ?_
        refine Rg.opp rfl rfl rfl (ev_at rfl rfl rfl rfl (by decide) hlt) rfl ?_
        refine Rg.opp rfl rfl rfl (ev_load1 rfl rfl hrk rfl) rfl ?_
        refine Rg.opp rfl rfl rfl rfl rfl ?_
        refine Rg.opp rfl rfl rfl (ev_gt _ rfl rfl rfl) rfl ?_
        refine Rg.nil ?_
        refine Runs.cond _ rfl (fun _ => ?_) (fun _ => ?_)
        · refine Runs.seq (Runs.region ?_)
          repeat refine Rg.opp rfl rfl rfl rfl rfl ?_
          refine Rg.nil ?_
          exact Runs.ret ⟨_, rfl, .inl rfl⟩
        · refine Runs.skip ?_
          refine Runs.region ?_
          refine Rg.opp rfl rfl rfl rfl rfl ?_
          refine Rg.opp rfl rfl rfl (ev_addn (b := 1) rfl rfl (by omega)) rfl ?_
          refine Rg.opp rfl rfl rfl rfl rfl ?_
          refine Rg.nil ?_
          exact ⟨order.length - (k + 1), by omega, rfl, k + 1, hlt, rfl, Is.of ⟨rfl, rfl, rfl, rfl, rfl, rfl, trivial⟩⟩
      · refine Runs.seq (Runs.seq (Runs.region ?_))
        refine Rg.opp rfl rfl rfl rfl rfl ?_
        refine Rg.opp rfl rfl rfl rfl rfl ?_
        refine Rg.opp rfl rfl rfl rfl rfl ?_
        refine Rg.opp rfl rfl rfl (ev_lt false rfl rfl (by simp; omega)) rfl ?_
        refine Rg.nil ?_
        refine Runs.cond false rfl (fun h => by cases h) (fun _ => ?_)
        refine Runs.exit ?_
        -- Make, Keeps, units
        obtain ⟨lv, H2, hmk, he2, p, hacc⟩ := make_runs hs0 hsm hxl
        rw [List.take_of_length_le h8] at hacc
        have hsl := hacc.sl (by rw [rels_len]; simp [unk]; omega)
        have hg : ∀ r ∈ xs.map mk, Good r := by
          intro r hr
          obtain ⟨s, _, rfl⟩ := List.mem_map.1 hr
          exact fun K => check_good s K
        have hul : (unitsP (xs.map mk)).length ≤ 60 := by
          have h1 := Lib.compact_length_le (sortNm (allNames (xs.map mk)))
          rw [List.length_mergeSort, allNames_len, List.length_map] at h1
          unfold unitsP; omega
        obtain ⟨kv, H3, hkp, rfl, he3⟩ := keepsP_runs hsl (ho0.sees he2.sees) (by simp; omega) (by omega) hg hul
        obtain ⟨uv, H4, hun, he4, pu, haccu⟩ := lawUnits_runs (hsl.sees he3.sees) (by simp; omega)
        have husl := haccu.sl (by rw [strs_len]; have := foldl_len (allNames (xs.map mk)) []; rw [allNames_len, List.length_map] at this; simp [unitsL, unk] at *; omega)
        have hos4 := hocs.sees (he2.trans (he3.trans he4)).sees
        have hl4 := hsl.sees (he3.trans he4).sees
        obtain ⟨la, lc, rfl, hlc, hlcs⟩ := hl4
        obtain ⟨ua, uc, rfl, huc, hucs⟩ := husl
        rw [rels_len, strs_len] at *
        refine Runs.seq (Runs.region ?_)
        refine Rg.opp rfl rfl rfl rfl rfl ?_
        refine Rg.calls rfl rfl rfl rfl rfl rfl hmk ?_
        refine Rg.opp rfl rfl rfl rfl rfl ?_
        refine Rg.nil ?_
        refine Runs.seq (Runs.region ?_)
        refine Rg.opp rfl rfl rfl rfl rfl ?_
        refine Rg.opp rfl rfl rfl rfl rfl ?_
        refine Rg.calls rfl rfl rfl rfl rfl rfl hkp ?_
        unfold triple
        refine Rg.opp rfl rfl rfl rfl rfl ?_
        refine Rg.opp rfl rfl rfl rfl rfl ?_
        refine Rg.opp rfl rfl rfl rfl rfl ?_
        refine Rg.opp rfl rfl rfl rfl rfl ?_
        refine Rg.opp rfl rfl rfl rfl rfl ?_
        refine Rg.opp rfl rfl rfl rfl rfl ?_
        refine Rg.opp rfl rfl rfl rfl rfl ?_
        refine Rg.nil ?_
        refine Runs.seq (Runs.region ?_)
        refine Rg.opp rfl rfl rfl rfl rfl ?_
        refine Rg.nil ?_
        refine Runs.seq (Runs.region ?_)
        refine Rg.opp rfl rfl rfl rfl rfl ?_
        refine Rg.calls rfl rfl rfl rfl rfl rfl hun ?_
        refine Rg.opp rfl rfl rfl rfl rfl ?_
        refine Rg.nil ?_
        have hfin : ∀ r : Value, r = .bool (lawKeeps (xs.map mk) order) → r = .bool true ∨ xs.length ≤ 8 ∧ r = .bool (lawKeeps (xs.map mk) order) := fun r h => .inr ⟨h8, h⟩
        have hlaw : (if want3 order (want2 (unitsL (xs.map mk)) order) ≠ 0 then decide ((keepsP (xs.map mk) order).1 = 0) && (!(keepsP (xs.map mk) order).2.1) && decide ((keepsP (xs.map mk) order).2.2 = want3 order (want2 (unitsL (xs.map mk)) order))
          else match (xs.map mk).findIdx? (lawArc order) with
            | some i => decide ((keepsP (xs.map mk) order).2.2 = 0) && decide ((keepsP (xs.map mk) order).1 = i) && !(keepsP (xs.map mk) order).2.1
            | none => decide ((keepsP (xs.map mk) order).2.2 = 0) && decide ((keepsP (xs.map mk) order).1 = 0) && (keepsP (xs.map mk) order).2.1) = lawKeeps (xs.map mk) order := rfl
        generalize hf : (keepsP (xs.map mk) order).1 = f at hlaw
        generalize hal : (keepsP (xs.map mk) order).2.1 = al at hlaw
        generalize hee : (keepsP (xs.map mk) order).2.2 = e at hlaw
        refine Runs.cut (n := 139) (l := [(1, .slice oa order.length oc), (6, .slice la (xs.map mk).length lc), (7, nat f), (8, .bool al), (9, nat e), (10, nat 0), (11, .slice ua (unitsL (xs.map mk)).length uc)]) (Is.of ⟨rfl, rfl, rfl, rfl, rfl, rfl, rfl, rfl, rfl, rfl, rfl, rfl, rfl, rfl, trivial⟩) (fun a3 => ?_)
        have hosl : Sl H4 1 (.slice oa order.length oc) (strs order) := ⟨_, _, by rw [strs_len], by rw [strs_len]; exact hoc, hos4⟩
        have hUl : (unitsL (xs.map mk)).length ≤ 16 := by
          have := foldl_len (allNames (xs.map mk)) []
          rw [allNames_len, List.length_map] at this
          simp only [unitsL, List.length_nil] at *
          omega
        generalize hU : unitsL (xs.map mk) = U at *
        -- the units
        refine Runs.seq (Runs.seq (Runs.region ?_))
        refine Rg.opp rfl rfl rfl rfl rfl ?_
        refine Rg.nil ?_
        refine Runs.block ?_
        refine Runs.loop (fun m s H5 => H4 = H5 ∧ ∃ k, k ≤ U.length ∧ m = U.length - k ∧ Is s 139 [(1, .slice oa order.length oc), (6, .slice la (xs.map mk).length lc), (7, nat f), (8, .bool al), (9, nat e), (10, nat (want2 (U.take k) order)), (11, .slice ua U.length uc), (12, nat k)]) _ ⟨rfl, 0, Nat.zero_le _, rfl, Is.of ⟨rfl, rfl, rfl, rfl, rfl, rfl, rfl, rfl, rfl, rfl, rfl, rfl, rfl, rfl, rfl, rfl, trivial⟩⟩ ?_
        rintro m s H5 ⟨hH5, k2, hk2, rfl, hs⟩
        subst hH5
        obtain ⟨a4, rfl⟩ := hs.mk1
        clear hs
        by_cases hlt2 : k2 < U.length
        · refine Runs.seq (Runs.seq (Runs.region ?_))
          refine Rg.opp rfl rfl rfl rfl rfl ?_
          refine Rg.opp rfl rfl rfl rfl rfl ?_
          refine Rg.opp rfl rfl rfl rfl rfl ?_
          refine Rg.opp rfl rfl rfl (ev_lt true rfl rfl (by simp; omega)) rfl ?_
          refine Rg.nil ?_
          refine Runs.cond true rfl (fun _ => ?_) (fun h => by cases h)
          refine Runs.skip ?_
          obtain ⟨b, o, rfl, hsz, hr⟩ := hucs.lt (i := k2) (by rw [strs_len]; exact hlt2)
          have hrk := hr k2 _ (strs_get hlt2)
          have hw : want2 (U.take (k2 + 1)) order = if U[k2] ∉ order then 10 else want2 (U.take k2) order := by
            rw [← List.take_append_getElem hlt2, want2_snoc]
          refine Runs.seq (Runs.block ?_)
          refine Runs.seq (Runs.region ?_)
          refine Rg.opp rfl rfl rfl rfl rfl ?_
          refine Rg.opp rfl rfl rfl rfl rfl ?_
          refine Rg.opp rfl rfl rfl rfl rfl ?_
          refine Rg.opp rfl rfl rfl (ev_at rfl rfl rfl rfl (by decide) hlt2) rfl ?_
          refine Rg.opp rfl rfl rfl (ev_load1 rfl rfl hrk rfl) rfl ?_
          refine Rg.calls rfl rfl rfl rfl rfl rfl (index_runs U[k2] hosl (by omega)) ?_
          refine Rg.opp rfl rfl rfl (ev_lt (decide (U[k2] ∉ order)) rfl rfl (by simp [indexOf_neg])) rfl ?_
          refine Rg.nil ?_
          refine Runs.cond (decide (U[k2] ∉ order)) rfl (fun q => ?_) (fun q => ?_)
          · refine Runs.region ?_
            refine Rg.opp rfl rfl rfl rfl rfl ?_
            refine Rg.nil ?_
            refine Runs.region ?_
            refine Rg.opp rfl rfl rfl rfl rfl ?_
            refine Rg.opp rfl rfl rfl (ev_addn (b := 1) rfl rfl (by omega)) rfl ?_
            refine Rg.opp rfl rfl rfl rfl rfl ?_
            refine Rg.nil ?_
            refine ⟨U.length - (k2 + 1), by omega, rfl, k2 + 1, hlt2, rfl, Is.of ⟨rfl, rfl, rfl, rfl, rfl, rfl, rfl, rfl, rfl, rfl, rfl, ?_, rfl, rfl, rfl, rfl, trivial⟩⟩
            show nat 10 = _
            rw [hw, if_pos (of_decide_eq_true q)]
          · refine Runs.skip ?_
            refine Runs.region ?_
            refine Rg.opp rfl rfl rfl rfl rfl ?_
            refine Rg.opp rfl rfl rfl (ev_addn (b := 1) rfl rfl (by omega)) rfl ?_
            refine Rg.opp rfl rfl rfl rfl rfl ?_
            refine Rg.nil ?_
            refine ⟨U.length - (k2 + 1), by omega, rfl, k2 + 1, hlt2, rfl, Is.of ⟨rfl, rfl, rfl, rfl, rfl, rfl, rfl, rfl, rfl, rfl, rfl, ?_, rfl, rfl, rfl, rfl, trivial⟩⟩
            show nat (want2 (U.take k2) order) = _
            rw [hw, if_neg (of_decide_eq_false q)]
        · refine Runs.seq (Runs.seq (Runs.region ?_))
          refine Rg.opp rfl rfl rfl rfl rfl ?_
          refine Rg.opp rfl rfl rfl rfl rfl ?_
          refine Rg.opp rfl rfl rfl rfl rfl ?_
          refine Rg.opp rfl rfl rfl (ev_lt false rfl rfl (by simp; omega)) rfl ?_
          refine Rg.nil ?_
          refine Runs.cond false rfl (fun h => by cases h) (fun _ => ?_)
          refine Runs.exit ?_
          have hkU : k2 = U.length := by omega
          subst hkU
          rw [List.take_of_length_le (Nat.le_refl _)]
          generalize hw2 : want2 U order = w2 at *
          refine Runs.cut (n := 139) (l := [(1, .slice oa order.length oc), (6, .slice la (xs.map mk).length lc), (7, nat f), (8, .bool al), (9, nat e), (10, nat w2)]) (Is.of ⟨rfl, rfl, rfl, rfl, rfl, rfl, rfl, rfl, rfl, rfl, rfl, rfl, trivial⟩) (fun a5 => ?_)
          refine Runs.seq (Runs.seq (Runs.region ?_))
          refine Rg.opp rfl rfl rfl rfl rfl ?_
          refine Rg.nil ?_
          refine Runs.block ?_
          refine Runs.loop (fun m s H5 => H4 = H5 ∧ ∃ k, k ≤ order.length ∧ m = order.length - k ∧ Is s 139 [(1, .slice oa order.length oc), (6, .slice la (xs.map mk).length lc), (7, nat f), (8, .bool al), (9, nat e), (10, nat (want4 order w2 k)), (13, nat k)]) _ ⟨rfl, 0, Nat.zero_le _, rfl, Is.of ⟨rfl, rfl, rfl, rfl, rfl, rfl, rfl, rfl, rfl, rfl, rfl, (by show nat w2 = nat (want4 order w2 0); rw [want4, if_pos (by intro i h z; omega)]), rfl, rfl, trivial⟩⟩ ?_
          rintro m s H5 ⟨hH5, k3, hk3, rfl, hs⟩
          subst hH5
          obtain ⟨a6, rfl⟩ := hs.mk1
          clear hs
          by_cases hlt3 : k3 < order.length
          · refine Runs.seq (Runs.seq (Runs.region ?_))
            refine Rg.opp rfl rfl rfl rfl rfl ?_
            refine Rg.opp rfl rfl rfl rfl rfl ?_
            refine Rg.opp rfl rfl rfl rfl rfl ?_
            refine Rg.opp rfl rfl rfl (ev_lt true rfl rfl (by simp; omega)) rfl ?_
            refine Rg.nil ?_
            refine Runs.cond true rfl (fun _ => ?_) (fun h => by cases h)
            refine Runs.skip ?_
            obtain ⟨b, o, rfl, hsz, hr⟩ := hos4.lt (i := k3) (by rw [strs_len]; exact hlt3)
            have hrk := hr k3 _ (strs_get hlt3)
            refine Runs.seq (Runs.block ?_)
            refine Runs.seq (Runs.region ?_)
            refine Rg.opp rfl rfl rfl rfl rfl ?_
            refine Rg.opp rfl rfl rfl rfl rfl ?_
            refine Rg.opp rfl rfl rfl rfl rfl ?_
            refine Rg.opp rfl rfl rfl (ev_at rfl rfl rfl rfl (by decide) hlt3) rfl ?_
            refine Rg.opp rfl rfl rfl (ev_load1 rfl rfl hrk rfl) rfl ?_
            refine Rg.calls rfl rfl rfl rfl rfl rfl (index_runs order[k3] hosl (by omega)) ?_
            refine Rg.opp rfl rfl rfl rfl rfl ?_
            refine Rg.opp rfl rfl rfl (ev_lt (decide (indexOf order order[k3] < (k3 : Int))) rfl rfl rfl) rfl ?_
            refine Rg.nil ?_
            refine Runs.cond (decide (indexOf order order[k3] < (k3 : Int))) rfl (fun q => ?_) (fun q => ?_)
            · refine Runs.region ?_
              refine Rg.opp rfl rfl rfl rfl rfl ?_
              refine Rg.nil ?_
              refine Runs.region ?_
              refine Rg.opp rfl rfl rfl rfl rfl ?_
              refine Rg.opp rfl rfl rfl (ev_addn (b := 1) rfl rfl (by omega)) rfl ?_
              refine Rg.opp rfl rfl rfl rfl rfl ?_
              refine Rg.nil ?_
              refine ⟨order.length - (k3 + 1), by omega, rfl, k3 + 1, hlt3, rfl, Is.of ⟨rfl, rfl, rfl, rfl, rfl, rfl, rfl, rfl, rfl, rfl, rfl, ?_, rfl, rfl, trivial⟩⟩
              show nat 9 = _
              rw [want4_succ hlt3, if_pos (of_decide_eq_true q)]
            · refine Runs.skip ?_
              refine Runs.region ?_
              refine Rg.opp rfl rfl rfl rfl rfl ?_
              refine Rg.opp rfl rfl rfl (ev_addn (b := 1) rfl rfl (by omega)) rfl ?_
              refine Rg.opp rfl rfl rfl rfl rfl ?_
              refine Rg.nil ?_
              refine ⟨order.length - (k3 + 1), by omega, rfl, k3 + 1, hlt3, rfl, Is.of ⟨rfl, rfl, rfl, rfl, rfl, rfl, rfl, rfl, rfl, rfl, rfl, ?_, rfl, rfl, trivial⟩⟩
              show nat (want4 order w2 k3) = _
              rw [want4_succ hlt3, if_neg (of_decide_eq_false q)]
          · refine Runs.seq (Runs.seq (Runs.region ?_))
            refine Rg.opp rfl rfl rfl rfl rfl ?_
            refine Rg.opp rfl rfl rfl rfl rfl ?_
            refine Rg.opp rfl rfl rfl rfl rfl ?_
            refine Rg.opp rfl rfl rfl (ev_lt false rfl rfl (by simp; omega)) rfl ?_
            refine Rg.nil ?_
            refine Runs.cond false rfl (fun h => by cases h) (fun _ => ?_)
            refine Runs.exit ?_
            have hko : k3 = order.length := by omega
            subst hko
            rw [want4_all]
            generalize hW : want3 order w2 = W at *
            refine Runs.cut (n := 139) (l := [(1, .slice oa order.length oc), (6, .slice la (xs.map mk).length lc), (7, nat f), (8, .bool al), (9, nat e), (10, nat W)]) (Is.of ⟨rfl, rfl, rfl, rfl, rfl, rfl, rfl, rfl, rfl, rfl, rfl, rfl, trivial⟩) (fun a7 => ?_)
            refine Runs.seq (Runs.seq (Runs.region ?_))
            refine Rg.opp rfl rfl rfl rfl rfl ?_
            by_cases hW0 : W = 0
            · refine Rg.opp rfl rfl rfl (ev_ne false rfl rfl (decide_eq_false (by omega))) rfl ?_
              refine Rg.nil ?_
              refine Runs.cond false rfl (fun h => by cases h) (fun _ => ?_)
              refine Runs.skip ?_
              rw [if_neg (by simp [hW0])] at hlaw
              refine Runs.cut (n := 139) (l := [(1, .slice oa order.length oc), (6, .slice la (xs.map mk).length lc), (7, nat f), (8, .bool al), (9, nat e)]) (Is.of ⟨rfl, rfl, rfl, rfl, rfl, rfl, rfl, rfl, rfl, rfl, trivial⟩) (fun a8 => ?_)
              exact Runs.mono (law_end hosl (by omega) hlcs (by simpa using h8) hlaw a8) (fun s1 H1 h => by obtain ⟨v, h1, h2⟩ := h; exact ⟨v, h1, hfin v h2⟩) (fun _ _ _ h => h.elim) (fun s1 H1 h => by obtain ⟨v, h1, h2⟩ := h; exact ⟨v, h1, hfin v h2⟩)
            · refine Rg.opp rfl rfl rfl (ev_ne true rfl rfl (decide_eq_true (by omega))) rfl ?_
              refine Rg.nil ?_
              refine Runs.cond true rfl (fun _ => ?_) (fun h => by cases h)
              rw [if_pos hW0] at hlaw
              refine Runs.seq (Runs.region ?_)
              refine Rg.opp rfl rfl rfl rfl rfl ?_
              by_cases hf0 : f = 0
              · refine Rg.opp rfl rfl rfl (ev_eq true rfl rfl (decide_eq_true (by omega))) rfl ?_
                refine Rg.opp rfl rfl rfl rfl rfl ?_
                refine Rg.guards true rfl rfl rfl (fun _ => ⟨_, _, evW_op rfl, rfl, ?_⟩) (fun h => by cases h)
                refine Rg.guards true rfl rfl rfl (fun _ => ⟨_, _, evW_op rfl, rfl, ?_⟩) (fun h => by cases h)
                refine Rg.opp rfl rfl rfl rfl rfl ?_
                refine Rg.opp rfl rfl rfl rfl rfl ?_
                cases al with
                | true =>
                  refine Rg.guards false rfl rfl rfl (fun h => by cases h) (fun _ => ?_)
                  refine Rg.guards false rfl rfl rfl (fun h => by cases h) (fun _ => ?_)
                  refine Rg.guards false rfl rfl rfl (fun h => by cases h) (fun _ => ?_)
                  refine Rg.opp rfl rfl rfl rfl rfl ?_
                  refine Rg.opp rfl rfl rfl rfl rfl ?_
                  refine Rg.nil ?_
                  refine Runs.ret ⟨_, rfl, hfin _ ?_⟩
                  rw [← hlaw]
                  simp
                  rfl
                | false =>
                  refine Rg.guards true rfl rfl rfl (fun _ => ⟨_, _, evW_op rfl, rfl, ?_⟩) (fun h => by cases h)
                  refine Rg.guards true rfl rfl rfl (fun _ => ⟨_, _, evW_op rfl, rfl, ?_⟩) (fun h => by cases h)
                  refine Rg.guards true rfl rfl rfl (fun _ => ⟨_, _, evW_op (ev_eq (decide (e = W)) rfl rfl (decide_eq_decide.2 (by omega))), rfl, ?_⟩) (fun h => by cases h)
                  refine Rg.opp rfl rfl rfl rfl rfl ?_
                  refine Rg.opp rfl rfl rfl rfl rfl ?_
                  refine Rg.nil ?_
                  refine Runs.ret ⟨_, rfl, hfin _ ?_⟩
                  rw [← hlaw]
                  simp [hf0]
                  rfl
              · refine Rg.opp rfl rfl rfl (ev_eq false rfl rfl (decide_eq_false (by omega))) rfl ?_
                refine Rg.opp rfl rfl rfl rfl rfl ?_
                refine Rg.guards false rfl rfl rfl (fun h => by cases h) (fun _ => ?_)
                refine Rg.guards false rfl rfl rfl (fun h => by cases h) (fun _ => ?_)
                refine Rg.opp rfl rfl rfl rfl rfl ?_
                refine Rg.opp rfl rfl rfl rfl rfl ?_
                refine Rg.guards false rfl rfl rfl (fun h => by cases h) (fun _ => ?_)
                refine Rg.guards false rfl rfl rfl (fun h => by cases h) (fun _ => ?_)
                refine Rg.guards false rfl rfl rfl (fun h => by cases h) (fun _ => ?_)
                refine Rg.opp rfl rfl rfl rfl rfl ?_
                refine Rg.opp rfl rfl rfl rfl rfl ?_
                refine Rg.nil ?_
                refine Runs.ret ⟨_, rfl, hfin _ ?_⟩
                rw [← hlaw]
                simp [hf0]
                rfl
    · refine Runs.seq (Runs.seq (Runs.region ?_))
      refine Rg.calls rfl rfl rfl rfl rfl rfl (known_is _) ?_
      refine Rg.opp rfl rfl rfl rfl rfl ?_
      refine Rg.opp rfl rfl rfl rfl rfl ?_
      refine Rg.guards true rfl rfl rfl (fun _ => ⟨_, _, evW_op rfl, rfl, ?_⟩) (fun h => by cases h)
      refine Rg.guards true rfl rfl rfl (fun _ => ⟨_, _, evW_call rfl rfl (fits_runs _ _ _), rfl, ?_⟩) (fun h => by cases h)
      rw [show decide ((xs.length : Int) ≤ 8) = true from decide_eq_true (by omega)]
      refine Rg.guards true rfl rfl rfl (fun _ => ⟨_, _, evW_op rfl, rfl, ?_⟩) (fun h => by cases h)
      refine Rg.opp rfl rfl rfl rfl rfl ?_
      refine Rg.opp rfl rfl rfl rfl rfl ?_
      refine Rg.guards true rfl rfl rfl (fun _ => ⟨_, _, evW_op rfl, rfl, ?_⟩) (fun h => by cases h)
      refine Rg.guards true rfl rfl rfl (fun _ => ⟨_, _, evW_op rfl, rfl, ?_⟩) (fun h => by cases h)
      refine Rg.guards true rfl rfl rfl (fun _ => ⟨_, _, evW_op (ev_gt true rfl rfl (decide_eq_true (by omega))), rfl, ?_⟩) (fun h => by cases h)
      refine Rg.opp rfl rfl rfl rfl rfl ?_
      refine Rg.nil ?_
      refine Runs.cond true rfl (fun _ => ?_) (fun h => by cases h)
      refine Runs.seq (Runs.region ?_)
      refine Rg.calls rfl rfl rfl rfl rfl rfl (known_is _) ?_
      refine Rg.opp rfl rfl rfl rfl rfl ?_
      refine Rg.nil ?_
      exact Runs.ret ⟨_, rfl, .inl rfl⟩
  · refine Runs.seq (Runs.seq (Runs.region ?_))
    refine Rg.calls rfl rfl rfl rfl rfl rfl (known_is _) ?_
    refine Rg.opp rfl rfl rfl rfl rfl ?_
    refine Rg.opp rfl rfl rfl rfl rfl ?_
    refine Rg.guards true rfl rfl rfl (fun _ => ⟨_, _, evW_op rfl, rfl, ?_⟩) (fun h => by cases h)
    refine Rg.guards true rfl rfl rfl (fun _ => ⟨_, _, evW_call rfl rfl (fits_runs _ _ _), rfl, ?_⟩) (fun h => by cases h)
    rw [show decide ((xs.length : Int) ≤ 8) = false from decide_eq_false (by omega)]
    refine Rg.guards true rfl rfl rfl (fun _ => ⟨_, _, evW_op rfl, rfl, ?_⟩) (fun h => by cases h)
    refine Rg.opp rfl rfl rfl rfl rfl ?_
    refine Rg.opp rfl rfl rfl rfl rfl ?_
    refine Rg.guards false rfl rfl rfl (fun h => by cases h) (fun _ => ?_)
    refine Rg.guards false rfl rfl rfl (fun h => by cases h) (fun _ => ?_)
    refine Rg.guards false rfl rfl rfl (fun h => by cases h) (fun _ => ?_)
    refine Rg.opp rfl rfl rfl rfl rfl ?_
    refine Rg.nil ?_
    refine Runs.cond true rfl (fun _ => ?_) (fun h => by cases h)
    refine Runs.seq (Runs.region ?_)
    refine Rg.calls rfl rfl rfl rfl rfl rfl (known_is _) ?_
    refine Rg.opp rfl rfl rfl rfl rfl ?_
    refine Rg.nil ?_
    exact Runs.ret ⟨_, rfl, .inl rfl⟩

end Go.Proofs.Ytdhbclplondmjaa.C

end

section
/- The law's own order against the program's, in plain Lean. -/
set_option linter.unusedVariables false
set_option maxRecDepth 100000
namespace Go.Proofs.Ytdhbclplondmjaa.C
open Go.RowKit Go.Sort

theorem scanK_mem (out : List Nm) (x : Nm) : ∀ k, k ≤ out.length → ((scanK out x k).2 = true ↔ x ∈ out.take k)
  | 0, _ => by simp [scanK]
  | k + 1, h => by
    have hk : k < out.length := by omega
    have e : out.getD k [] = out[k] := by simp [List.getD, hk]
    simp only [scanK, Bool.or_eq_true, decide_eq_true_eq]
    rw [scanK_mem out x k (by omega), e, List.take_succ_eq_append_getElem hk, List.mem_append, List.mem_singleton]
    constructor
    · rintro (q | q)
      · exact .inl q
      · exact .inr q.symm
    · rintro (q | q)
      · exact .inl q
      · exact .inr q.symm

theorem mem_insL {out : List Nm} {x y : Nm} : y ∈ insL out x ↔ y ∈ out ∨ y = x := by
  unfold insL
  split
  · rename_i h
    have := (scanK_mem out x out.length (Nat.le_refl _)).1 h
    rw [List.take_length] at this
    constructor
    · exact .inl
    · rintro (q | rfl)
      · exact q
      · exact this
  · rw [List.mem_append, List.mem_append, List.mem_singleton]
    constructor
    · rintro ((q | q) | q)
      · exact .inl (List.mem_of_mem_take q)
      · exact .inr q
      · exact .inl (List.mem_of_mem_drop q)
    · rintro (q | q)
      · rw [← List.take_append_drop (scanK out x out.length).1 out, List.mem_append] at q
        rcases q with q | q
        · exact .inl (.inl q)
        · exact .inr q
      · exact .inl (.inr q)

theorem mem_foldl_insL : ∀ (l out : List Nm) (y : Nm), y ∈ l.foldl insL out ↔ y ∈ out ∨ y ∈ l
  | [], out, y => by simp
  | x :: l, out, y => by
    rw [List.foldl_cons, mem_foldl_insL l, mem_insL, List.mem_cons, or_assoc]

theorem mem_unitsL {l : List Rel} {y : Nm} : y ∈ unitsL l ↔ y ∈ allNames l := by
  unfold unitsL; rw [mem_foldl_insL]; simp

theorem mem_sortNm {l : List Nm} {y : Nm} : y ∈ sortNm l ↔ y ∈ l := List.mem_mergeSort

theorem idxOf_lt_of_mem {xs : List Nm} {x : Nm} (h : x ∈ xs) : ∃ k, xs.idxOf? x = some k := by
  cases e : xs.idxOf? x with
  | some k => exact ⟨k, rfl⟩
  | none => exact absurd h (List.idxOf?_eq_none_iff.1 e)

theorem idx_inj {xs : List Nm} {x y : Nm} (hx : x ∈ xs) (hy : y ∈ xs) (h : idx xs x = idx xs y) : x = y := by
  obtain ⟨a, ha⟩ := idxOf_lt_of_mem hx
  obtain ⟨b, hb⟩ := idxOf_lt_of_mem hy
  unfold idx at h
  rw [ha, hb] at h
  simp only [Option.getD_some] at h
  subst h
  rw [List.idxOf?, List.findIdx?_eq_some_iff_getElem] at ha hb
  obtain ⟨h1, h2, _⟩ := ha
  obtain ⟨_, h4, _⟩ := hb
  have e1 := beq_iff_eq.1 h2
  have e2 := beq_iff_eq.1 h4
  exact e1.symm.trans e2

theorem indexOf_mem {xs : List Nm} {x : Nm} (hx : x ∈ xs) : indexOf xs x = idx xs x := by
  obtain ⟨a, ha⟩ := idxOf_lt_of_mem hx
  simp [indexOf, idx, ha]

theorem nm_inj {a b : Nat} (ha : a < 6) (hb : b < 6) (h : nm a = nm b) : a = b := by
  have : ∀ a < 6, ∀ b < 6, nm a = nm b → a = b := by decide
  exact this a ha b hb h

theorem mk_ne (s : Seen) : (mk s).up ≠ (mk s).lo := by
  intro h
  have h1 : mkA s < 6 := by unfold mkA; omega
  have h2 : mkB s < 6 := by unfold mkB; split <;> omega
  have := nm_inj h1 h2 h
  revert this
  unfold mkA mkB
  split <;> omega

theorem findIdx?_same {α : Type} {p q : α → Bool} : ∀ (l : List α), (∀ x ∈ l, p x = q x) → l.findIdx? p = l.findIdx? q
  | [], _ => rfl
  | x :: l, h => by
    rw [List.findIdx?_cons, List.findIdx?_cons, h x (by simp), findIdx?_same l fun y hy => h y (by simp [hy])]

theorem mem_names_up {l : List Rel} {r : Rel} (h : r ∈ l) : r.up ∈ allNames l := List.mem_flatMap.2 ⟨r, h, by simp⟩
theorem mem_names_lo {l : List Rel} {r : Rel} (h : r ∈ l) : r.lo ∈ allNames l := List.mem_flatMap.2 ⟨r, h, by simp⟩

theorem law_plain (l : List Rel) (order : List Nm) (hne : ∀ r ∈ l, r.up ≠ r.lo) (hu : ∀ y, y ∈ unitsP l ↔ y ∈ allNames l) : lawKeeps l order = true := by
  have e1 : (∀ u ∈ unitsP l, u ∈ order) ↔ (∀ x ∈ unitsL l, x ∈ order) := by
    constructor
    · intro h x hx; exact h x ((hu x).2 (mem_unitsL.1 hx))
    · intro h x hx; exact h x (mem_unitsL.2 ((hu x).1 hx))
  by_cases hd : order.Nodup
  · by_cases hk : ∀ x ∈ unitsL l, x ∈ order
    · have hk' := e1.2 hk
      have e2 : l.findIdx? (badRel order) = l.findIdx? (lawArc order) := by
        refine findIdx?_same l fun r hr => ?_
        have m1 : r.up ∈ order := hk _ (mem_unitsL.2 (mem_names_up hr))
        have m2 : r.lo ∈ order := hk _ (mem_unitsL.2 (mem_names_lo hr))
        unfold badRel lawArc
        rw [indexOf_mem m1, indexOf_mem m2]
        congr 1
        have n : idx order r.up ≠ idx order r.lo := fun h => hne r hr (idx_inj m1 m2 h)
        apply decide_eq_decide.2
        omega
      have hw : want3 order (want2 (unitsL l) order) = 0 := by unfold want3 want2; rw [if_pos hd, if_pos hk]
      have hkp : keepsP l order = match l.findIdx? (lawArc order) with | some i => (i, false, 0) | none => (0, true, 0) := by
        unfold keepsP; rw [if_neg (fun h => h hd), if_neg (fun h => h hk'), e2]
        cases l.findIdx? (lawArc order) <;> rfl
      unfold lawKeeps
      rw [hw, hkp]
      cases l.findIdx? (lawArc order) <;> simp
    · have hk' : ¬ ∀ u ∈ unitsP l, u ∈ order := fun h => hk (e1.1 h)
      have hw : want3 order (want2 (unitsL l) order) = 10 := by unfold want3 want2; rw [if_pos hd, if_neg hk]
      have hkp : keepsP l order = (0, false, 10) := by
        unfold keepsP; rw [if_neg (fun h => h hd), if_pos hk']
      unfold lawKeeps
      rw [hw, hkp]; simp
  · have hw : want3 order (want2 (unitsL l) order) = 9 := by unfold want3; rw [if_neg hd]
    have hkp : keepsP l order = (0, false, 9) := by
      unfold keepsP; rw [if_pos hd]
    unfold lawKeeps
    rw [hw, hkp]; simp

theorem mem_compactUpTo (d : Array Nm) (y : Nm) : ∀ m, y ∈ Lib.compactUpTo d m ↔ ∃ j, j < m ∧ d[j]! = y
  | 0 => by simp [Lib.compactUpTo]
  | m + 1 => by
    rw [Lib.compactUpTo_succ, List.mem_append, mem_compactUpTo d y m]
    constructor
    · rintro (⟨j, h1, h2⟩ | h)
      · exact ⟨j, by omega, h2⟩
      · split at h
        · rw [List.mem_singleton] at h; exact ⟨m, by omega, h.symm⟩
        · cases h
    · rintro ⟨j, h1, h2⟩
      by_cases q : j < m
      · exact .inl ⟨j, q, h2⟩
      · have : j = m := by omega
        subst this
        by_cases hk : Lib.keeps d j = true
        · right; rw [if_pos hk, List.mem_singleton]; exact h2.symm
        · left
          have hk' : ¬ (j = 0 ∨ d[j]! ≠ d[j - 1]!) := by
            intro h; exact hk (by unfold Lib.keeps; exact decide_eq_true h)
          have h0 : j ≠ 0 := fun h => hk' (.inl h)
          have h3 : d[j]! = d[j - 1]! := by
            by_cases e : d[j]! = d[j - 1]!
            · exact e
            · exact absurd (.inr e) hk'
          exact ⟨j - 1, by omega, h3 ▸ h2⟩

theorem mem_compact {zs : List Nm} {y : Nm} : y ∈ Lib.compact zs ↔ y ∈ zs := by
  unfold Lib.compact
  rw [mem_compactUpTo, List.mem_iff_getElem]
  constructor
  · rintro ⟨j, h1, h2⟩
    exact ⟨j, h1, by simpa [h1] using h2⟩
  · rintro ⟨j, h1, h2⟩
    exact ⟨j, h1, by simpa [h1] using h2⟩

theorem mem_unitsP {l : List Rel} {y : Nm} : y ∈ unitsP l ↔ y ∈ allNames l := by
  unfold unitsP; rw [mem_compact, mem_sortNm]

theorem law_true (xs : List Seen) (order : List Nm) : lawKeeps (xs.map mk) order = true := by
  refine law_plain _ _ ?_ fun y => mem_unitsP
  intro r hr
  obtain ⟨s, _, rfl⟩ := List.mem_map.1 hr
  exact mk_ne s

end Go.Proofs.Ytdhbclplondmjaa.C

end

section
/- The two lists of units are one. -/
set_option linter.unusedVariables false
set_option linter.unusedSimpArgs false
namespace Go.Proofs.Ytdhbclplondmjaa.C
open Go.RowKit Go.Sort

theorem nlt_of {x y : Nm} (h : x ≤ y) (hne : x ≠ y) : x < y := by
  rcases Decidable.em (x < y) with q | q
  · exact q
  · exact absurd (List.le_antisymm h (List.not_lt.1 q)) hne

theorem strict_eq : ∀ {a b : List Nm}, a.Pairwise (· < ·) → b.Pairwise (· < ·) → (∀ x, x ∈ a ↔ x ∈ b) → a = b
  | [], [], _, _, _ => rfl
  | [], y :: b, _, _, h => absurd ((h y).2 List.mem_cons_self) (by simp)
  | x :: a, [], _, _, h => absurd ((h x).1 List.mem_cons_self) (by simp)
  | x :: a, y :: b, ha, hb, h => by
    rw [List.pairwise_cons] at ha hb
    have hxy : x = y := by
      rcases List.mem_cons.1 ((h x).1 List.mem_cons_self) with e | e
      · exact e
      · rcases List.mem_cons.1 ((h y).2 List.mem_cons_self) with e' | e'
        · exact e'.symm
        · exact absurd (List.lt_trans (hb.1 x e) (ha.1 y e')) (List.lt_irrefl _)
    subst hxy
    rw [strict_eq ha.2 hb.2 fun z => ?_]
    constructor
    · intro hz
      rcases List.mem_cons.1 ((h z).1 (List.mem_cons_of_mem _ hz)) with e | e
      · subst e; exact absurd (ha.1 z hz) (List.lt_irrefl _)
      · exact e
    · intro hz
      rcases List.mem_cons.1 ((h z).2 (List.mem_cons_of_mem _ hz)) with e | e
      · subst e; exact absurd (hb.1 z hz) (List.lt_irrefl _)
      · exact e

theorem strict_nodup {a : List Nm} (h : a.Pairwise (· < ·)) : a.Nodup := h.imp fun h e => absurd (e ▸ h) (List.lt_irrefl _)

theorem sortNm_sorted (l : List Nm) : (sortNm l).Pairwise (· ≤ ·) := by
  have := List.pairwise_mergeSort (le := fun x y : Nm => decide (x ≤ y)) (fun a b c h1 h2 => by simp only [decide_eq_true_eq] at *; exact List.le_trans h1 h2) (fun a b => by simp only [Bool.or_eq_true, decide_eq_true_eq]; exact List.le_total a b) l
  exact this.imp fun h => by simpa using h

theorem compact_strict {zs : List Nm} (h : zs.Pairwise (· ≤ ·)) : (Lib.compact zs).Pairwise (· < ·) := by
  have hget : ∀ i j, i ≤ j → j < zs.length → zs.toArray[i]! ≤ zs.toArray[j]! := by
    intro i j hij hj
    rcases Nat.eq_or_lt_of_le hij with rfl | q
    · exact List.le_refl _
    · have := List.pairwise_iff_getElem.1 h i j (by omega) hj q
      simpa [hj, show i < zs.length by omega] using this
  have key : ∀ m, m ≤ zs.length → (Lib.compactUpTo zs.toArray m).Pairwise (· < ·) ∧ ∀ y ∈ Lib.compactUpTo zs.toArray m, y ≤ zs.toArray[m - 1]! := by
    intro m
    induction m with
    | zero => intro _; simp [Lib.compactUpTo]
    | succ m ih =>
      intro hm
      obtain ⟨h1, h2⟩ := ih (by omega)
      rw [Lib.compactUpTo_succ]
      have hup : ∀ y ∈ Lib.compactUpTo zs.toArray m, y ≤ zs.toArray[m]! := fun y hy => List.le_trans (h2 y hy) (hget (m - 1) m (by omega) (by omega))
      by_cases hk : Lib.keeps zs.toArray m = true
      · rw [if_pos hk]
        refine ⟨List.pairwise_append.2 ⟨h1, by simp, fun y hy z hz => ?_⟩, fun y hy => ?_⟩
        · rw [List.mem_singleton] at hz
          subst hz
          rcases Nat.eq_zero_or_pos m with q | q
          · subst q; simp [Lib.compactUpTo] at hy
          · have hk' : m = 0 ∨ zs.toArray[m]! ≠ zs.toArray[m - 1]! := of_decide_eq_true hk
            have hne := hk'.resolve_left (by omega)
            have h3 := nlt_of (hget (m - 1) m (by omega) (by omega)) (fun e => hne e.symm)
            exact List.lt_of_le_of_lt (h2 y hy) h3
        · rcases List.mem_append.1 hy with q | q
          · exact hup y q
          · rw [List.mem_singleton] at q; subst q; exact List.le_refl _
      · rw [if_neg hk, List.append_nil]
        exact ⟨h1, hup⟩
  exact (key zs.length (Nat.le_refl _)).1

theorem unitsP_strict (l : List Rel) : (unitsP l).Pairwise (· < ·) := compact_strict (sortNm_sorted _)

theorem scan_at {out : List Nm} {x : Nm} (h : out.Pairwise (· < ·)) : ∀ k, k ≤ out.length → ∀ i (hi : i < out.length), i < k → (i < (scanK out x k).1 ↔ out[i] < x)
  | 0, _, i, _, h0 => by omega
  | k + 1, hk, i, hi, hik => by
    have hg : out.getD k [] = out[k]'(by omega) := by simp [List.getD_eq_getElem?_getD, show k < out.length by omega]
    unfold scanK
    simp only [hg, bytesLess_eq, decide_eq_true_eq]
    by_cases hb : out[k]'(by omega) < x
    · rw [if_pos hb]
      refine ⟨fun _ => ?_, fun _ => hik⟩
      rcases Nat.eq_or_lt_of_le (Nat.le_of_lt_succ hik) with e | e
      · subst e; exact hb
      · exact List.lt_trans (List.pairwise_iff_getElem.1 h i k hi (by omega) e) hb
    · rw [if_neg hb]
      rcases Nat.eq_or_lt_of_le (Nat.le_of_lt_succ hik) with e | e
      · subst e
        have := scanK_le out x i
        exact ⟨fun h => by omega, fun h => absurd h hb⟩
      · exact scan_at h k (by omega) i hi e

theorem insL_strict {out : List Nm} {x : Nm} (h : out.Pairwise (· < ·)) : (insL out x).Pairwise (· < ·) := by
  unfold insL
  by_cases hs : (scanK out x out.length).2 = true
  · rw [if_pos hs]; exact h
  · rw [if_neg hs]
    have hn : x ∉ out := fun hx => hs ((scanK_mem out x out.length (Nat.le_refl _)).2 (by rwa [List.take_length]))
    have hat := scan_at (x := x) h out.length (Nat.le_refl _)
    generalize (scanK out x out.length).1 = k at *
    have h1 : ∀ y ∈ out.take k, y < x := by
      intro y hy
      obtain ⟨i, hi, rfl⟩ := List.mem_iff_getElem.1 hy
      rw [List.length_take] at hi
      rw [List.getElem_take]
      exact (hat i (by omega) (by omega)).1 (by omega)
    have h2 : ∀ y ∈ out.drop k, x < y := by
      intro y hy
      obtain ⟨i, hi, rfl⟩ := List.mem_iff_getElem.1 hy
      rw [List.length_drop] at hi
      rw [List.getElem_drop]
      have hlt := (hat (k + i) (by omega) (by omega))
      have h3 : ¬ out[k + i]'(by omega) < x := fun z => by have := hlt.2 z; omega
      exact nlt_of (List.not_lt.1 h3) (fun e => hn (by rw [e]; exact List.getElem_mem _))
    rw [List.pairwise_append, List.pairwise_append]
    refine ⟨⟨h.sublist (List.take_sublist _ _), by simp, fun a ha b hb => by rw [List.mem_singleton] at hb; subst hb; exact h1 a ha⟩, h.sublist (List.drop_sublist _ _), fun a ha b hb => ?_⟩
    rcases List.mem_append.1 ha with q | q
    · exact List.lt_trans (h1 a q) (h2 b hb)
    · rw [List.mem_singleton] at q; subst q; exact h2 b hb

theorem unitsL_strict (l : List Rel) : (unitsL l).Pairwise (· < ·) := by
  unfold unitsL
  have key : ∀ (xs out : List Nm), out.Pairwise (· < ·) → (xs.foldl insL out).Pairwise (· < ·) := by
    intro xs
    induction xs with
    | nil => intro out h; exact h
    | cons x xs ih => intro out h; exact ih _ (insL_strict h)
  exact key _ _ List.Pairwise.nil

theorem units_eq (l : List Rel) : unitsP l = unitsL l := strict_eq (unitsP_strict l) (unitsL_strict l) fun x => by rw [mem_unitsP, mem_unitsL]

/-! ### Maps, things by the number -/

theorem Rg.mapset {H0 H : Heap} {L : List Th} {Q : St} {cal : CallF} {d : Bool} {ops : Array Oper} {i n : Nat} {is : List Nat} {a : Nat → Value} {l : List (Nat × Value)} {o : Oper} {m k v : Operand} {M j x : Nat} {xs : List Nm} {s : Nm}
    (hM : Mem H0 H L) (ho : ops[i]? = some o) (hg : o.guard = none) (ht : o.dst = none) (hop : o.op = .mapUpdate 74 m k v) (hj : L[j]? = some (.map M (mapE 0 xs))) (hm : ev (mkS n a l) m = .map (some M)) (hk : ev (mkS n a l) k = str s) (hv : ev (mkS n a l) v = nat x) (hn : s ∉ xs) (hi : x = xs.length)
    (k : ∀ H1, Mem H0 H1 (L.set j (.map M (mapE 0 (xs ++ [s])))) → Rg tab cal d ops is (mkS n a l) H1 Q) : Rg tab cal d ops (i :: is) (mkS n a l) H Q := by
  have hb := hM.get_map hj
  refine Rg.opn (v := undef) ho hg ht (by rw [hop]; exact ev_mapset hm hk hv hb hn hi) (by rw [hop]; simp [inPlace]) (k _ (hM.upd hj (fun x hx => hx) rfl rfl))

theorem ev_lookN {s : List Value} {H : Heap} {x k : Operand} {M : Nat} {xs : List Nm} {a : Nm} (hx : ev s x = .map (some M)) (hk : ev s k = str a) (h : H[M]? = some (.map (mapE 0 xs))) : opEval tab s H (.lookup 74 x k false) = some (nat (idx xs a), H) := by
  have := ev_look (x := x) (k := k) false hx hk h
  rw [if_neg (by decide), idx_val] at this
  exact this
theorem ev_lookT {s : List Value} {H : Heap} {x k : Operand} {M : Nat} {xs : List Nm} {a : Nm} (hx : ev s x = .map (some M)) (hk : ev s k = str a) (h : H[M]? = some (.map (mapE 0 xs))) : opEval tab s H (.lookup 74 x k true) = some (.tuple #[nat (idx xs a), .bool (decide (a ∈ xs))], H) := by
  have := ev_look (x := x) (k := k) true hx hk h
  rw [if_pos rfl, idx_val, idx_some] at this
  exact this
theorem ev_lookB {s : List Value} {H : Heap} {x k : Operand} {M : Nat} {xs : List Nm} {a : Nm} {p : Bool} (hp : decide (a ∈ xs) = p) (hx : ev s x = .map (some M)) (hk : ev s k = str a) (h : H[M]? = some (.map (mapE 0 xs))) : opEval tab s H (.lookup 74 x k true) = some (.tuple #[nat (idx xs a), .bool p], H) := by
  rw [← hp]; exact ev_lookT hx hk h
theorem nodup_take {xs : List Nm} (h : xs.Nodup) {k : Nat} (hk : k < xs.length) : xs[k] ∉ xs.take k := by
  intro hm
  obtain ⟨i, hi, e⟩ := List.mem_iff_getElem.1 hm
  rw [List.length_take] at hi
  rw [List.getElem_take] at e
  have := (List.pairwise_iff_getElem.1 h) i k (by omega) hk (by omega)
  exact this e

theorem Mem.addNil {H0 H : Heap} {L : List Th} (h : Mem H0 H L) (sz n : Nat) : Mem H0 H (L ++ List.replicate n (.sl sz (.slice none 0 0) [])) := by
  obtain ⟨he, S, hl, ho, hs⟩ := h
  refine ⟨he, S ++ List.replicate n none, by simp [hl], ho.none, fun j t e => ?_⟩
  rcases Nat.lt_or_ge j L.length with q | q
  · rw [List.getElem?_append_left q] at e
    obtain ⟨x, hx, ht⟩ := hs j t e
    exact ⟨x, by rw [List.getElem?_append_left (by omega)]; exact hx, ht⟩
  · rw [List.getElem?_append_right q, List.getElem?_replicate] at e
    split at e
    · rename_i hlt
      simp only [Option.some.injEq] at e
      subst e
      exact ⟨none, by rw [List.getElem?_append_right (by omega), hl, List.getElem?_replicate, if_pos hlt], by simp, by simp, .inl ⟨rfl, none, .inl rfl, rfl⟩⟩
    · simp at e

def NIL : Value := .slice none 0 0
/-- The lists of arcs under way. -/
def inner (nx : List Value) (n : Nat) (arcs : List Arc) : List Th := (List.range n).map fun i => .sl 3 (nx.getD i NIL) ((nextOf arcs i).map arcC)

theorem inner_start (n : Nat) : List.replicate n (Th.sl 3 (.slice none 0 0) []) = inner (List.replicate n (.slice none 0 0)) n [] := by
  refine List.ext_getElem (by simp [inner]) fun i h1 h2 => ?_
  have hi : i < n := by simpa using h1
  simp [inner, nextOf, NIL, List.getD_eq_getElem?_getD, List.getElem?_replicate, hi]
theorem inner_get {nx : List Value} {n i : Nat} {arcs : List Arc} (h : i < n) (hn : nx.length = n) : (inner nx n arcs)[i]? = some (.sl 3 (nx[i]'(by omega)) ((nextOf arcs i).map arcC)) := by
  have : nx.getD i NIL = nx[i]'(by omega) := by simp [List.getD_eq_getElem?_getD, show i < nx.length by omega]
  simp [inner, h, ← this]
theorem inner_set {nx : List Value} {n : Nat} {arcs : List Arc} {a : Arc} {u : Value} (h : a.lo < n) (hn : nx.length = n) : (inner nx n arcs).set a.lo (.sl 3 u ((nextOf arcs a.lo ++ [a]).map arcC)) = inner (nx.set a.lo u) n (arcs ++ [a]) := by
  refine List.ext_getElem (by simp [inner]) fun i h1 h2 => ?_
  have hi : i < n := by simpa [inner] using h2
  rw [List.getElem_set]
  by_cases e : a.lo = i
  · subst e
    simp [inner, nextOf, List.getD_eq_getElem?_getD, hn, h]
  · rw [if_neg e]
    simp [inner, nextOf, List.getD_eq_getElem?_getD, List.getElem?_set_ne e, e]

def arcsUp (l : List Rel) (k : Nat) : List Arc := ((l.take k).zipIdx.filter fun p => decide (p.1.kind ≠ 4)).map fun p => ⟨p.2, idx (unitsP l) p.1.lo, idx (unitsP l) p.1.up⟩
/-- The arcs of relations. -/
def arcsOf (l : List Rel) : List Arc := arcsUp l l.length

theorem arcsUp_succ {l : List Rel} {k : Nat} (h : k < l.length) : arcsUp l (k + 1) = if l[k].kind = 4 then arcsUp l k else arcsUp l k ++ [⟨k, idx (unitsP l) l[k].lo, idx (unitsP l) l[k].up⟩] := by
  unfold arcsUp
  rw [← List.take_append_getElem h, List.zipIdx_append, List.filter_append, List.map_append]
  by_cases e : l[k].kind = 4
  · simp [e]
  · simp [e, Nat.min_eq_left (Nat.le_of_lt h)]

theorem arcsUp_len (l : List Rel) (k : Nat) : (arcsUp l k).length ≤ l.length := by
  unfold arcsUp
  rw [List.length_map]
  refine Nat.le_trans (List.length_filter_le _ _) ?_
  simp only [List.length_zipIdx, List.length_take]
  omega

theorem idx_lt {xs : List Nm} {x : Nm} (h : x ∈ xs) : idx xs x < xs.length := by
  obtain ⟨k, hk⟩ := idxOf_lt_of_mem h
  unfold idx
  rw [hk]
  rw [List.idxOf?, List.findIdx?_eq_some_iff_getElem] at hk
  exact hk.1

theorem arcs_wf (l : List Rel) : WF (unitsP l).length (arcsOf l) := by
  constructor
  · intro a ha
    obtain ⟨p, hp, rfl⟩ := List.mem_map.1 ha
    have := (List.mem_filter.1 hp).1
    rw [List.take_length] at this
    exact idx_lt (mem_unitsP.2 (mem_names_lo (List.fst_mem_of_mem_zipIdx this)))
  · intro a ha
    obtain ⟨p, hp, rfl⟩ := List.mem_map.1 ha
    have := (List.mem_filter.1 hp).1
    rw [List.take_length] at this
    exact idx_lt (mem_unitsP.2 (mem_names_up (List.fst_mem_of_mem_zipIdx this)))

end Go.Proofs.Ytdhbclplondmjaa.C

end

section
/- Tables of numbers in the memory; one round of the law's 'reach', plain. -/
set_option linter.unusedVariables false
set_option linter.unusedSimpArgs false
namespace Go.Proofs.Ytdhbclplondmjaa.C
open Go.RowKit Go.Sort

/-- The first k rows of a table of n by n. -/
def mat (n : Nat) (m : Nat → Nat → Nat) (k : Nat) : List (List Nat) := (List.range n).map fun c => if c < k then (List.range n).map (m c) else []
theorem mat_len (n : Nat) (m : Nat → Nat → Nat) (k : Nat) : (mat n m k).length = n := by simp [mat]
def rowsT (nv : List Value) (ms : List (List Nat)) : List Th := List.zipWith (fun v m => .sl 1 v (m.map encN)) nv ms
theorem rowsT_len {nv : List Value} {n : Nat} {m : Nat → Nat → Nat} {k : Nat} (h : nv.length = n) : (rowsT nv (mat n m k)).length = n := by simp [rowsT, mat_len, h]

theorem rowsT_get {nv : List Value} {n c k : Nat} {m : Nat → Nat → Nat} (h : nv.length = n) (hc : c < n) (hk : c < k) : (rowsT nv (mat n m k))[c]? = some (.sl 1 (nv[c]'(by omega)) (((List.range n).map (m c)).map encN)) := by
  have h1 : nv[c]? = some (nv[c]'(by omega)) := by simp [show c < nv.length by omega]
  have h2 : (mat n m k)[c]? = some ((List.range n).map (m c)) := by simp [mat, hc, hk]
  simp only [rowsT, List.getElem?_zipWith, h1, h2]

def upd1 (m : Nat → Nat → Nat) (c b v : Nat) : Nat → Nat → Nat := fun c' b' => if c' = c ∧ b' = b then v else m c' b'

theorem row_set {n b v : Nat} {f : Nat → Nat} (hb : b < n) : ((List.range n).map f).set b v = (List.range n).map fun b' => if b' = b then v else f b' := by
  refine List.ext_getElem (by simp) fun i h1 h2 => ?_
  rw [List.getElem_set]
  by_cases e : b = i
  · subst e; simp
  · rw [if_neg e]; simp [show ¬ i = b from fun h => e h.symm]

theorem rowsT_sto {nv : List Value} {n c b v : Nat} {m : Nat → Nat → Nat} (h : nv.length = n) (hc : c < n) (hb : b < n) : (rowsT nv (mat n m n)).set c (.sl 1 (nv[c]'(by omega)) ((((List.range n).map (m c)).set b v).map encN)) = rowsT nv (mat n (upd1 m c b v) n) := by
  refine List.ext_getElem (by simp [rowsT, mat_len]) fun i h1 h2 => ?_
  have hi : i < n := by simpa [rowsT, mat_len, h] using h2
  rw [List.getElem_set]
  by_cases e : c = i
  · subst e
    rw [if_pos rfl, row_set hb]
    simp [rowsT, mat, upd1, hc]
  · rw [if_neg e]
    have : upd1 m c b v i = m i := by funext b'; simp [upd1, show ¬ i = c from fun h => e h.symm]
    simp [rowsT, mat, this]

theorem rowsT_up {nv : List Value} {n c : Nat} {m : Nat → Nat → Nat} {u : Value} (h : nv.length = n) (hc : c < n) {xs : List Nat} (hx : xs = (List.range n).map (m c)) : (rowsT nv (mat n m c)).set c (.sl 1 u (xs.map encN)) = rowsT (nv.set c u) (mat n m (c + 1)) := by
  subst hx
  refine List.ext_getElem (by simp [rowsT, mat_len]) fun i h1 h2 => ?_
  have hi : i < n := by simpa [rowsT, mat_len, h] using h2
  rw [List.getElem_set]
  by_cases e : c = i
  · subst e
    simp [rowsT, mat]
  · rw [if_neg e]
    simp only [rowsT, List.getElem_zipWith, List.getElem_set_ne e, mat, List.getElem_map, List.getElem_range]
    by_cases q : i < c
    · rw [if_pos q, if_pos (by omega)]
    · rw [if_neg q, if_neg (by omega)]

theorem rowsT_nil (n : Nat) (m : Nat → Nat → Nat) : List.replicate n (Th.sl 1 (.slice none 0 0) []) = rowsT (List.replicate n (.slice none 0 0)) (mat n m 0) := by
  refine List.ext_getElem (by simp [rowsT, mat_len]) fun i h1 h2 => ?_
  simp [rowsT, mat]

/-- The first thing takes the place of another one. -/
theorem Mem.mv {H0 H : Heap} {t : Th} {L : List Th} (h : Mem H0 H (t :: L)) (j : Nat) : Mem H0 H (L.set j t) :=
  h.sub (fun i => if i = j then 0 else i + 1) (fun a b e => by
    by_cases p : a = j <;> by_cases q : b = j <;> simp only [p, q, if_true, if_false] at e <;> omega) (fun i x e => by
    by_cases p : i = j
    · subst p
      rw [if_pos rfl]
      have hlt := (List.getElem?_eq_some_iff.1 e).1
      rw [List.getElem?_set_self (by simpa using hlt)] at e
      simpa using e
    · rw [if_neg p]
      rw [List.getElem?_set_ne (fun h => p h.symm)] at e
      simpa using e)
theorem Mem.mid {H0 H : Heap} {A L B : List Th} (h : Mem H0 H (A ++ L ++ B)) : Mem H0 H (A ++ B) :=
  h.sub (fun i => if i < A.length then i else i + L.length) (fun a b e => by
    by_cases p : a < A.length <;> by_cases q : b < A.length <;> simp only [p, q, if_true, if_false] at e <;> omega) (fun i x e => by
    by_cases p : i < A.length
    · rw [if_pos p, List.append_assoc, List.getElem?_append_left p]
      rwa [List.getElem?_append_left p] at e
    · rw [if_neg p, List.append_assoc, List.getElem?_append_right (by omega), List.getElem?_append_right (by omega)]
      rw [List.getElem?_append_right (by omega)] at e
      rw [← e]; congr 1; omega)

/-! ### Rounds -/

def v2 (m m' : Nat → Nat → Nat) (a b c : Nat) : Nat :=
  let v1 := if c = a then max (m' c b) 1 else m' c b
  if 0 < m c a then max v1 (min 8 (m c a + 1)) else v1
def updC (m m' : Nat → Nat → Nat) (a b c0 : Nat) : Nat → Nat → Nat := fun c b' => if c < c0 ∧ b' = b then v2 m m' a b c else m' c b'

theorem updC_zero (m m' : Nat → Nat → Nat) (a b : Nat) : updC m m' a b 0 = m' := by
  funext c b'; simp [updC]
theorem updC_at (m m' : Nat → Nat → Nat) (a b c b' : Nat) : updC m m' a b c c b' = m' c b' := by simp [updC]
theorem updC_succ (m m' : Nat → Nat → Nat) (a b c : Nat) : updC m m' a b (c + 1) = upd1 (updC m m' a b c) c b (v2 m m' a b c) := by
  funext c' b'
  unfold upd1 updC
  by_cases e : c' = c
  · subst e
    by_cases e2 : b' = b
    · simp [e2]
    · simp [e2]
  · by_cases q : c' < c
    · simp [e, q, show c' < c + 1 by omega]
    · simp [e, q, show ¬ c' < c + 1 by omega]
theorem upd1_upd1 (m : Nat → Nat → Nat) (c b v w : Nat) : upd1 (upd1 m c b v) c b w = upd1 m c b w := by
  funext c' b'; unfold upd1; by_cases e : c' = c ∧ b' = b <;> simp [e]
theorem upd1_at (m : Nat → Nat → Nat) (c b v : Nat) : upd1 m c b v c b = v := by simp [upd1]
theorem upd1_same (m : Nat → Nat → Nat) (c b : Nat) : upd1 m c b (m c b) = m := by
  funext c' b'; unfold upd1; by_cases e : c' = c ∧ b' = b
  · rw [if_pos e, e.1, e.2]
  · rw [if_neg e]

section
variable {m m' : Nat → Nat → Nat} {a b c : Nat}
theorem updC_tt (h1 : c = a) (h2 : 0 < m c a) : upd1 (upd1 (updC m m' a b c) c b (max (updC m m' a b c c b) 1)) c b (max (upd1 (updC m m' a b c) c b (max (updC m m' a b c c b) 1) c b) (min 8 (m c a + 1))) = updC m m' a b (c + 1) := by
  rw [upd1_upd1, upd1_at, updC_at, updC_succ]
  congr 1
  simp only [v2, if_pos h1, if_pos h2]
theorem updC_tf (h1 : c = a) (h2 : ¬ 0 < m c a) : upd1 (updC m m' a b c) c b (max (updC m m' a b c c b) 1) = updC m m' a b (c + 1) := by
  rw [updC_at, updC_succ]
  congr 1
  simp only [v2, if_pos h1, if_neg h2]
theorem updC_ft (h1 : ¬ c = a) (h2 : 0 < m c a) : upd1 (updC m m' a b c) c b (max (updC m m' a b c c b) (min 8 (m c a + 1))) = updC m m' a b (c + 1) := by
  rw [updC_at, updC_succ]
  congr 1
  simp only [v2, if_neg h1, if_pos h2]
theorem updC_ff (h1 : ¬ c = a) (h2 : ¬ 0 < m c a) : updC m m' a b c = updC m m' a b (c + 1) := by
  rw [updC_succ]
  have : v2 m m' a b c = updC m m' a b c c b := by rw [updC_at]; simp only [v2, if_neg h1, if_neg h2]
  rw [this, upd1_same]
end

/-- A round so far: these arcs have been looked at. -/
structure Part (m : Nat → Nat → Nat) (ps : List (Nat × Nat)) (m' : Nat → Nat → Nat) : Prop where
  le : ∀ c b, m c b ≤ m' c b
  one : ∀ a b, (a, b) ∈ ps → 1 ≤ m' a b
  more : ∀ c a b, (a, b) ∈ ps → 0 < m c a → m c a + 1 ≤ m' c b
  from_ : ∀ c b, m' c b = m c b ∨ ((c, b) ∈ ps ∧ m' c b = 1) ∨ ∃ a, (a, b) ∈ ps ∧ 0 < m c a ∧ m' c b = m c a + 1

theorem Part.start (m : Nat → Nat → Nat) : Part m [] m := ⟨fun _ _ => Nat.le_refl _, fun _ _ h => by simp at h, fun _ _ _ h => by simp at h, fun _ _ => .inl rfl⟩

theorem v2_ge (m m' : Nat → Nat → Nat) (a b c : Nat) : m' c b ≤ v2 m m' a b c := by
  unfold v2; simp only; split <;> split <;> omega

theorem Part.arc {m m' : Nat → Nat → Nat} {ps : List (Nat × Nat)} {a b n : Nat} (h : Part m ps m') (hm : ∀ c a, m c a ≤ 7) (hn : ∀ c, n ≤ c → ∀ b, m c b = 0) (ha : a < n) : Part m (ps ++ [(a, b)]) (updC m m' a b n) := by
  have ge : ∀ c b', m' c b' ≤ updC m m' a b n c b' := by
    intro c b'
    unfold updC
    split
    · rename_i q; rw [q.2]; exact v2_ge _ _ _ _ _
    · exact Nat.le_refl _
  refine ⟨fun c b' => Nat.le_trans (h.le c b') (ge c b'), fun a' b' hm' => ?_, fun c a' b' hm' h0 => ?_, fun c b' => ?_⟩
  · rcases List.mem_append.1 hm' with q | q
    · exact Nat.le_trans (h.one a' b' q) (ge a' b')
    · simp at q
      obtain ⟨rfl, rfl⟩ := q
      unfold updC
      rw [if_pos ⟨ha, rfl⟩]
      unfold v2; simp only [if_true]; split <;> omega
  · rcases List.mem_append.1 hm' with q | q
    · exact Nat.le_trans (h.more c a' b' q h0) (ge c b')
    · simp at q
      obtain ⟨rfl, rfl⟩ := q
      have hc : c < n := by
        rcases Nat.lt_or_ge c n with z | z
        · exact z
        · rw [hn c z] at h0; omega
      unfold updC
      rw [if_pos ⟨hc, rfl⟩]
      have := hm c a'
      unfold v2; simp only [if_pos h0]; split <;> omega
  · unfold updC
    by_cases q : c < n ∧ b' = b
    · rw [if_pos q]
      obtain ⟨q1, rfl⟩ := q
      have h7 := hm c a
      have hf := h.from_ c b'
      have hle := h.le c b'
      have old : (m' c b' = m c b' ∨ ((c, b') ∈ ps ∧ m' c b' = 1) ∨ ∃ a, (a, b') ∈ ps ∧ 0 < m c a ∧ m' c b' = m c a + 1) → (m' c b' = m c b' ∨ ((c, b') ∈ ps ++ [(a, b')] ∧ m' c b' = 1) ∨ ∃ a1, (a1, b') ∈ ps ++ [(a, b')] ∧ 0 < m c a1 ∧ m' c b' = m c a1 + 1) := by
        rintro (z | ⟨z1, z2⟩ | ⟨a1, z1, z2, z3⟩)
        · exact .inl z
        · exact .inr (.inl ⟨List.mem_append_left _ z1, z2⟩)
        · exact .inr (.inr ⟨a1, List.mem_append_left _ z1, z2, z3⟩)
      have hf' := old hf
      by_cases h0 : 0 < m c a
      · by_cases hca : c = a
        · by_cases hbig : m' c b' ≤ m c a + 1
          · right; right
            refine ⟨a, by simp, h0, ?_⟩
            unfold v2; simp only [if_pos h0, if_pos hca]; omega
          · have : v2 m m' a b' c = m' c b' := by unfold v2; simp only [if_pos h0, if_pos hca]; omega
            rw [this]; exact hf'
        · by_cases hbig : m' c b' ≤ m c a + 1
          · right; right
            refine ⟨a, by simp, h0, ?_⟩
            unfold v2; simp only [if_pos h0, if_neg hca]; omega
          · have : v2 m m' a b' c = m' c b' := by unfold v2; simp only [if_pos h0, if_neg hca]; omega
            rw [this]; exact hf'
      · by_cases hca : c = a
        · by_cases hz : m' c b' = 0
          · right; left
            refine ⟨by simp [hca], ?_⟩
            unfold v2; simp only [if_neg h0, if_pos hca, hz]; omega
          · have : v2 m m' a b' c = m' c b' := by unfold v2; simp only [if_neg h0, if_pos hca]; omega
            rw [this]; exact hf'
        · have : v2 m m' a b' c = m' c b' := by unfold v2; simp only [if_neg h0, if_neg hca]
          rw [this]; exact hf'
    · rw [if_neg q]
      rcases h.from_ c b' with z | ⟨z1, z2⟩ | ⟨a1, z1, z2, z3⟩
      · exact .inl z
      · exact .inr (.inl ⟨List.mem_append_left _ z1, z2⟩)
      · exact .inr (.inr ⟨a1, List.mem_append_left _ z1, z2, z3⟩)

theorem Part.far {m m' : Nat → Nat → Nat} {ps : List (Nat × Nat)} {k : Nat} (h : Part m ps m') (hf : ∀ c b, Far ps k c b (m c b)) : ∀ c b, Far ps (k + 1) c b (m' c b) := by
  intro c b
  refine Far.succ (hf c) (h.le c b) (fun a ha e => by subst e; exact h.one _ _ ha) (fun a ha h0 => h.more c a b ha h0) ?_
  rcases h.from_ c b with z | ⟨z1, z2⟩ | ⟨a, z1, z2, z3⟩
  · exact .inl z
  · exact .inr (.inl ⟨c, z1, rfl, z2⟩)
  · exact .inr (.inr ⟨a, z1, z2, z3⟩)

theorem Far.le {arcs : List (Nat × Nat)} {k c b x : Nat} (h : Far arcs k c b x) : x ≤ k := by
  rcases h with ⟨rfl, _⟩ | ⟨_, h, _⟩ <;> omega

theorem Far.zero {arcs : List (Nat × Nat)} {k c b x : Nat} (h : Far arcs k c b x) {n : Nat} (hn : ∀ p ∈ arcs, p.1 < n) (hc : n ≤ c) : x = 0 := by
  have hw : ∀ j d, W arcs j c d → 1 ≤ j → False := by
    intro j
    induction j with
    | zero => intro d _ h; omega
    | succ j ih =>
      rintro d ⟨a, ha, hm⟩ _
      have h1 : a < n := hn _ hm
      rcases Nat.eq_zero_or_pos j with q | q
      · subst q; have : c = a := ha; omega
      · exact ih a ha q
  rcases h with ⟨h, _⟩ | ⟨h1, h2, h3, _⟩
  · exact h
  · exact (hw _ _ h3 h1).elim

/-! ### Calls of small functions -/
theorem arc_T {k : Nat} (u l : Nm) (H : Heap) (h : ¬ k = 4) : big tab 25 [.agg #[nat k, str u, str l]] H = some (.bool true, H) := by
  rw [arc_runs, decide_eq_true h]
theorem arc_F {k : Nat} (u l : Nm) (H : Heap) (h : k = 4) : big tab 25 [.agg #[nat k, str u, str l]] H = some (.bool false, H) := by
  rw [arc_runs, decide_eq_false (by simpa using h)]
theorem index_mem {H : Heap} {v : Value} {xs : List Nm} {x : Nm} (h : Sl H 1 v (xs.map encS)) (hx : x ∈ xs) (hl : xs.length < 2 ^ 40) : big tab 22 [v, str x] H = some (nat (idx xs x), H) := by
  have := index_runs x (xs := xs) h hl
  rw [indexOf_mem hx] at this
  exact this

end Go.Proofs.Ytdhbclplondmjaa.C

end

section
/- The law's reach, run. -/
set_option linter.unusedVariables false
set_option linter.unusedSimpArgs false
set_option maxRecDepth 100000
set_option maxHeartbeats 4000000
namespace Go.Proofs.Ytdhbclplondmjaa.C
open Go.RowKit Go.Sort

theorem reach_runs {H : Heap} {v : Value} {l : List Rel} (hl : Sl H 3 v (rels l)) (hll : l.length ≤ 2 ^ 16) (hn : (unitsP l).length ≤ 2 ^ 17) :
    ∃ r H1, big tab 14 [v] H = some (r, H1) ∧ Ext H H1 ∧ ∃ (ov : List Value) (mm : Nat → Nat → Nat), Sl H1 1 r (List.map encV ov) ∧ ov.length = (unitsP l).length ∧ (∀ c (h : c < ov.length), Sl H1 1 ov[c] (((List.range (unitsP l).length).map (mm c)).map encN)) ∧ ∀ c b, Far (prs (arcsOf l)) 8 c b (mm c b) := by
  refine big_of_runs rfl rfl rfl ?_
  obtain ⟨z, hz⟩ := startC_mkS Try.f14 [v]
  rw [show startC (14, Try.f14).snd [v] = _ from hz]
  clear hz
  refine Runs.cut (n := 134) (l := [(0, v)]) (Is.of ⟨rfl, rfl, trivial⟩) (fun a0 => ?_)
  refine Runs.seq ?_
  refine Runs.region ?_
  refine Rg.opp (v := .slice none 0 0) rfl rfl rfl rfl rfl ?_
  refine Rg.nil ?_
  refine Runs.seq ?_
  refine Runs.region ?_
  refine Rg.opp (v := v) rfl rfl rfl rfl rfl ?_
  refine Rg.callW rfl rfl rfl rfl (rfl) rfl (lawUnits_runs hl (by omega)) (fun r Hu hP => ?_)
  obtain ⟨heu, p0, hus'⟩ := hP
  rw [← units_eq] at hus'
  have hus : Sl Hu 1 r ((unitsP l).map encS) := hus'.sl (by rw [strs_len]; unfold unk; omega)
  have hM := Mem.start Hu
  refine Rg.opp (v := r) rfl rfl rfl rfl rfl ?_
  refine Rg.nil ?_
  refine Runs.seq ?_
  refine Runs.region ?_
  refine Rg.opp (v := r) rfl rfl rfl rfl rfl ?_
  refine Rg.opp (v := nat ((unitsP l).length)) rfl rfl rfl (ev_lenM (hus.sees hM.ext.sees) rfl rfl) rfl ?_
  refine Rg.make (f := encV) (sz := 1) (m := (unitsP l).length) (.slice none 0 0) hM rfl rfl rfl rfl rfl rfl rfl rfl rfl (by decide) rfl rfl rfl (by show (unitsP l).length * 24 ≤ 2 ^ 40; omega) (by omega) (fun ow0 Hc (hM : Mem Hu Hc ([.sl 1 ow0 (List.map encV (List.replicate ((unitsP l).length) (.slice none 0 0)))])) _ => ?_)
  refine Rg.opp (v := ow0) rfl rfl rfl rfl rfl ?_
  refine Rg.nil ?_
  refine Runs.seq ?_
  refine Runs.seq ?_
  refine Runs.region ?_
  refine Rg.opp (v := nat 0) rfl rfl rfl rfl rfl ?_
  refine Rg.nil ?_
  refine Runs.block ?_
  refine Runs.loop (fun m s Hc => ∃ (i : Nat) (ov : List Value), m = (unitsP l).length - i ∧ Mem Hu Hc ((.sl 1 ow0 (List.map encV ov)) :: (rowsT ov (mat (unitsP l).length (fun _ _ => 0) i))) ∧ (i ≤ (unitsP l).length) ∧ (ov.length = (unitsP l).length) ∧ Is s 134 [(0, v), (3, r), (4, ow0), (5, nat i)]) _
    ⟨0, List.replicate (unitsP l).length (.slice none 0 0), rfl, by have h := hM.addNil 1 (unitsP l).length; rw [rowsT_nil (unitsP l).length (fun _ _ => 0)] at h; exact h, Nat.zero_le _, by simp, Is.of ⟨rfl, rfl, rfl, rfl, rfl, rfl, rfl, rfl, trivial⟩⟩ ?_
  rintro m s Hc ⟨i, ov, rfl, hM, hi, hov, hs⟩
  obtain ⟨a1, rfl⟩ := hs.mk1
  clear hs
  refine Runs.seq ?_
  refine Runs.seq ?_
  refine Runs.region ?_
  refine Rg.opp (v := nat i) rfl rfl rfl rfl rfl ?_
  refine Rg.opp (v := r) rfl rfl rfl rfl rfl ?_
  refine Rg.opp (v := nat ((unitsP l).length)) rfl rfl rfl (ev_lenM (hus.sees hM.ext.sees) rfl rfl) rfl ?_
  by_cases hlt : i < (unitsP l).length
  · skip
    refine Rg.opp (v := .bool true) rfl rfl rfl (ev_ltT rfl rfl (hlt)) rfl ?_
    refine Rg.nil ?_
    refine Runs.cond true rfl (fun _ => ?_) (fun h => by cases h)
    refine Runs.skip ?_
    refine Runs.seq ?_
    refine Runs.block ?_
    refine Runs.region ?_
    refine Rg.opp (v := ow0) rfl rfl rfl rfl rfl ?_
    refine Rg.opp (v := nat i) rfl rfl rfl rfl rfl ?_
    refine Rg.opp (v := r) rfl rfl rfl rfl rfl ?_
    refine Rg.opp (v := nat ((unitsP l).length)) rfl rfl rfl (ev_lenM (hus.sees hM.ext.sees) rfl rfl) rfl ?_
    refine Rg.make (f := encN) (sz := 1) (m := (unitsP l).length) 0 hM rfl rfl rfl rfl rfl rfl rfl rfl rfl (by decide) rfl rfl rfl (by show (unitsP l).length * 8 ≤ 2 ^ 40; omega) (by omega) (fun u Hc (hM : Mem Hu Hc ((.sl 1 u (List.map encN (List.replicate ((unitsP l).length) 0))) :: (.sl 1 ow0 (List.map encV ov)) :: (rowsT ov (mat (unitsP l).length (fun _ _ => 0) i)))) _ => ?_)
    refine Rg.opp (v := ptrAt (sAddr ow0) (i * 1)) rfl rfl rfl (ev_idxM (k := i) (hM.get_sl (j := 1) rfl) rfl rfl (by omega) rfl rfl rfl (by decide)) rfl ?_
    refine Rg.stoM (f := encV) (j := 1) (k := i) u hM rfl rfl rfl rfl rfl rfl rfl (by omega) rfl (hM.get_sl (j := 0) rfl).one.1 rfl rfl (by simp [(hM.get_sl (j := 0) rfl).one.2.1]) (fun Hc (hM : Mem Hu Hc ((.sl 1 u (List.map encN (List.replicate ((unitsP l).length) 0))) :: (.sl 1 ow0 (List.map encV ((ov).set i u))) :: (rowsT ov (mat (unitsP l).length (fun _ _ => 0) i)))) => ?_)
    refine Rg.nil ?_
    refine Runs.region ?_
    refine Rg.opp (v := nat i) rfl rfl rfl rfl rfl ?_
    refine Rg.opp (v := nat (i + 1)) rfl rfl rfl (ev_addN (b := 1) rfl rfl (by omega)) rfl ?_
    refine Rg.opp (v := nat (i + 1)) rfl rfl rfl rfl rfl ?_
    refine Rg.nil ?_
    refine ⟨(unitsP l).length - (i + 1), by omega, i + 1, ov.set i u, rfl, by
      have h := hM.mv (i + 1)
      rw [← rowsT_up hov hlt (xs := List.replicate (unitsP l).length 0) (by rw [List.map_const', List.length_range])]
      exact h, hlt, by simpa using hov, Is.of ⟨rfl, rfl, rfl, rfl, rfl, rfl, rfl, rfl, trivial⟩⟩
  · skip
    replace hM : Mem Hu Hc ((.sl 1 ow0 (List.map encV ov)) :: (rowsT ov (mat (unitsP l).length (fun _ _ => 0) (unitsP l).length))) := by
      have e : i = (unitsP l).length := by omega
      have h := hM
      rw [show rowsT ov (mat (unitsP l).length (fun _ _ => 0) i) = rowsT ov (mat (unitsP l).length (fun _ _ => 0) (unitsP l).length) by rw [e]] at h; exact h
    refine Rg.opp (v := .bool false) rfl rfl rfl (ev_ltF rfl rfl (hlt)) rfl ?_
    refine Rg.nil ?_
    refine Runs.cond false rfl (fun h => by cases h) (fun _ => ?_)
    refine Runs.exit ?_
    refine Runs.seq ?_
    refine Runs.seq ?_
    refine Runs.region ?_
    refine Rg.opp (v := nat 1) rfl rfl rfl rfl rfl ?_
    refine Rg.nil ?_
    refine Runs.block ?_
    refine Runs.loop (fun m s Hc => ∃ (kk : Nat) (ow : Value) (ov : List Value) (mm : Nat → Nat → Nat), m = 8 - kk ∧ Mem Hu Hc ((.sl 1 ow (List.map encV ov)) :: (rowsT ov (mat (unitsP l).length mm (unitsP l).length))) ∧ (kk ≤ 8) ∧ (ov.length = (unitsP l).length) ∧ (∀ c b, Far (prs (arcsOf l)) kk c b (mm c b)) ∧ Is s 134 [(0, v), (3, r), (4, ow), (6, nat (kk + 1))]) _
      ⟨0, ow0, ov, fun _ _ => 0, rfl, hM, by omega, hov, fun c b => .inl ⟨rfl, fun j h1 h2 => by omega⟩, Is.of ⟨rfl, rfl, rfl, rfl, rfl, rfl, rfl, rfl, trivial⟩⟩ ?_
    rintro m s Hc ⟨kk, ow, ov, mm, rfl, hM, hkk, hov, hF, hs⟩
    obtain ⟨a2, rfl⟩ := hs.mk1
    clear hs
    have hm7 : kk < 8 → ∀ c a, mm c a ≤ 7 := fun h c a => by have := (hF c a).le; omega
    have hm0 : ∀ c, (unitsP l).length ≤ c → ∀ b, mm c b = 0 := fun c hc b => (hF c b).zero (fun p hp => by obtain ⟨a, ha, rfl⟩ := List.mem_map.1 hp; exact (arcs_wf l).lo a ha) hc
    refine Runs.seq ?_
    refine Runs.seq ?_
    refine Runs.region ?_
    refine Rg.opp (v := nat (kk + 1)) rfl rfl rfl rfl rfl ?_
    by_cases h8 : kk + 1 ≤ 8
    · skip
      refine Rg.opp (v := .bool true) rfl rfl rfl (ev_leT rfl rfl (h8)) rfl ?_
      refine Rg.nil ?_
      refine Runs.cond true rfl (fun _ => ?_) (fun h => by cases h)
      refine Runs.skip ?_
      refine Runs.seq ?_
      refine Runs.block ?_
      refine Runs.seq ?_
      refine Runs.region ?_
      refine Rg.opp (v := r) rfl rfl rfl rfl rfl ?_
      refine Rg.opp (v := nat ((unitsP l).length)) rfl rfl rfl (ev_lenM (hus.sees hM.ext.sees) rfl rfl) rfl ?_
      refine Rg.make (f := encV) (sz := 1) (m := (unitsP l).length) (.slice none 0 0) hM rfl rfl rfl rfl rfl rfl rfl rfl rfl (by decide) rfl rfl rfl (by show (unitsP l).length * 24 ≤ 2 ^ 40; omega) (by omega) (fun nw0 Hc (hM : Mem Hu Hc ((.sl 1 nw0 (List.map encV (List.replicate ((unitsP l).length) (.slice none 0 0)))) :: (.sl 1 ow (List.map encV ov)) :: (rowsT ov (mat (unitsP l).length mm (unitsP l).length)))) _ => ?_)
      refine Rg.opp (v := nw0) rfl rfl rfl rfl rfl ?_
      refine Rg.nil ?_
      refine Runs.seq ?_
      refine Runs.seq ?_
      refine Runs.region ?_
      refine Rg.opp (v := nat 0) rfl rfl rfl rfl rfl ?_
      refine Rg.nil ?_
      refine Runs.block ?_
      refine Runs.loop (fun m s Hc => ∃ (i : Nat) (nv : List Value), m = (unitsP l).length - i ∧ Mem Hu Hc ((.sl 1 nw0 (List.map encV nv)) :: (.sl 1 ow (List.map encV ov)) :: (rowsT ov (mat (unitsP l).length mm (unitsP l).length) ++ rowsT nv (mat (unitsP l).length mm i))) ∧ (i ≤ (unitsP l).length) ∧ (nv.length = (unitsP l).length) ∧ Is s 134 [(0, v), (3, r), (4, ow), (6, nat (kk + 1)), (7, nw0), (8, nat i)]) _
        ⟨0, List.replicate (unitsP l).length (.slice none 0 0), rfl, by have h := hM.addNil 1 (unitsP l).length; rw [rowsT_nil (unitsP l).length mm] at h; exact h, Nat.zero_le _, by simp, Is.of ⟨rfl, rfl, rfl, rfl, rfl, rfl, rfl, rfl, rfl, rfl, rfl, rfl, trivial⟩⟩ ?_
      rintro m s Hc ⟨i, nv, rfl, hM, hi, hnv, hs⟩
      obtain ⟨a3, rfl⟩ := hs.mk1
      clear hs
      refine Runs.seq ?_
      refine Runs.seq ?_
      refine Runs.region ?_
      refine Rg.opp (v := nat i) rfl rfl rfl rfl rfl ?_
      refine Rg.opp (v := r) rfl rfl rfl rfl rfl ?_
      refine Rg.opp (v := nat ((unitsP l).length)) rfl rfl rfl (ev_lenM (hus.sees hM.ext.sees) rfl rfl) rfl ?_
      by_cases hlt : i < (unitsP l).length
      · skip
        refine Rg.opp (v := .bool true) rfl rfl rfl (ev_ltT rfl rfl (hlt)) rfl ?_
        refine Rg.nil ?_
        refine Runs.cond true rfl (fun _ => ?_) (fun h => by cases h)
        refine Runs.skip ?_
        refine Runs.seq ?_
        refine Runs.block ?_
        refine Runs.region ?_
        refine Rg.opp (v := nw0) rfl rfl rfl rfl rfl ?_
        refine Rg.opp (v := nat i) rfl rfl rfl rfl rfl ?_
        refine Rg.lit (f := encN) (sz := 1) (xs := ([] : List Nat)) hM rfl rfl rfl rfl rfl (by simp) (by simp) (fun u4 Hc (hM : Mem Hu Hc ((.sl 1 u4 (List.map encN (([] : List Nat)))) :: (.sl 1 nw0 (List.map encV nv)) :: (.sl 1 ow (List.map encV ov)) :: (rowsT ov (mat (unitsP l).length mm (unitsP l).length) ++ rowsT nv (mat (unitsP l).length mm i)))) _ => ?_)
        refine Rg.opp (v := ow) rfl rfl rfl rfl rfl ?_
        refine Rg.opp (v := nat i) rfl rfl rfl rfl rfl ?_
        refine Rg.opp (v := ptrAt (sAddr ow) (i * 1)) rfl rfl rfl (ev_idxM (k := i) (hM.get_sl (j := 2) rfl) rfl rfl (by omega) rfl rfl rfl (by decide)) rfl ?_
        refine Rg.opp (v := ov[i]) rfl rfl rfl (ev_ldM (k := i) (hM.get_sl (j := 2) rfl) rfl (by omega) rfl rfl rfl rfl) rfl ?_
        refine Rg.appM (f := encN) (sz := 1) (j := 0) (v := u4) (xs := ([] : List Nat)) (ys := (List.range (unitsP l).length).map (mm i)) hM rfl rfl rfl rfl rfl rfl rfl (hM.get_sl (j := i + 3) (show (rowsT ov (mat (unitsP l).length mm (unitsP l).length) ++ rowsT nv (mat (unitsP l).length mm i))[i]? = _ from (List.getElem?_append_left (by rw [rowsT_len hov]; omega)).trans (rowsT_get hov (by omega) (by omega)))) ⟨rfl, rfl, rfl, by decide⟩ rfl (by simp [oneCell]) (by show (_ + _) * 8 ≤ 2 ^ 40; simp; omega) (by intro e; have := congrArg List.length e; simp only [List.length_map, List.length_range, List.length_nil] at this; omega) (fun u Hc (hM : Mem Hu Hc ((.sl 1 u (List.map encN ((([] : List Nat)) ++ ((List.range (unitsP l).length).map (mm i))))) :: (.sl 1 nw0 (List.map encV nv)) :: (.sl 1 ow (List.map encV ov)) :: (rowsT ov (mat (unitsP l).length mm (unitsP l).length) ++ rowsT nv (mat (unitsP l).length mm i)))) hgr => ?_)
        refine Rg.opp (v := ptrAt (sAddr nw0) (i * 1)) rfl rfl rfl (ev_idxM (k := i) (hM.get_sl (j := 1) rfl) rfl rfl (by omega) rfl rfl rfl (by decide)) rfl ?_
        refine Rg.stoM (f := encV) (j := 1) (k := i) u hM rfl rfl rfl rfl rfl rfl rfl (by omega) rfl hgr.one.1 rfl rfl (by simp [hgr.one.2.1]) (fun Hc (hM : Mem Hu Hc ((.sl 1 u (List.map encN ((([] : List Nat)) ++ ((List.range (unitsP l).length).map (mm i))))) :: (.sl 1 nw0 (List.map encV ((nv).set i u))) :: (.sl 1 ow (List.map encV ov)) :: (rowsT ov (mat (unitsP l).length mm (unitsP l).length) ++ rowsT nv (mat (unitsP l).length mm i)))) => ?_)
        refine Rg.nil ?_
        refine Runs.region ?_
        refine Rg.opp (v := nat i) rfl rfl rfl rfl rfl ?_
        refine Rg.opp (v := nat (i + 1)) rfl rfl rfl (ev_addN (b := 1) rfl rfl (by omega)) rfl ?_
        refine Rg.opp (v := nat (i + 1)) rfl rfl rfl rfl rfl ?_
        refine Rg.nil ?_
        refine ⟨(unitsP l).length - (i + 1), by omega, i + 1, nv.set i u, rfl, by
          have h := hM.mv ((unitsP l).length + i + 2)
          rw [← rowsT_up (c := i) hnv hlt (xs := [] ++ (List.range (unitsP l).length).map (mm i)) (by simp)]
          have e0 : (rowsT ov (mat (unitsP l).length mm (unitsP l).length) ++ rowsT nv (mat (unitsP l).length mm i)).set ((unitsP l).length + i) (.sl 1 u (List.map encN ([] ++ (List.range (unitsP l).length).map (mm i)))) = rowsT ov (mat (unitsP l).length mm (unitsP l).length) ++ (rowsT nv (mat (unitsP l).length mm i)).set i (.sl 1 u (List.map encN ([] ++ (List.range (unitsP l).length).map (mm i)))) := by
            rw [List.set_append_right _ _ (by rw [rowsT_len hov]; omega), rowsT_len hov, Nat.add_sub_cancel_left]
          rw [← e0]
          exact h, hlt, by simpa using hnv, Is.of ⟨rfl, rfl, rfl, rfl, rfl, rfl, rfl, rfl, rfl, rfl, rfl, rfl, trivial⟩⟩
      · skip
        replace hM : Mem Hu Hc ((.sl 1 nw0 (List.map encV nv)) :: (.sl 1 ow (List.map encV ov)) :: (rowsT ov (mat (unitsP l).length mm (unitsP l).length) ++ rowsT nv (mat (unitsP l).length mm (unitsP l).length))) := by
          have e : i = (unitsP l).length := by omega
          have h := hM
          rw [show rowsT nv (mat (unitsP l).length mm i) = rowsT nv (mat (unitsP l).length mm (unitsP l).length) by rw [e]] at h; exact h
        refine Rg.opp (v := .bool false) rfl rfl rfl (ev_ltF rfl rfl (hlt)) rfl ?_
        refine Rg.nil ?_
        refine Runs.cond false rfl (fun h => by cases h) (fun _ => ?_)
        refine Runs.exit ?_
        refine Runs.seq ?_
        refine Runs.seq ?_
        refine Runs.region ?_
        refine Rg.opp (v := nat 0) rfl rfl rfl rfl rfl ?_
        refine Rg.nil ?_
        refine Runs.block ?_
        refine Runs.loop (fun m s Hc => ∃ (i : Nat) (m' : Nat → Nat → Nat), m = l.length - i ∧ Mem Hu Hc ((.sl 1 nw0 (List.map encV nv)) :: (.sl 1 ow (List.map encV ov)) :: (rowsT ov (mat (unitsP l).length mm (unitsP l).length) ++ rowsT nv (mat (unitsP l).length m' (unitsP l).length))) ∧ (i ≤ l.length) ∧ (Part mm (prs (arcsUp l i)) m') ∧ Is s 134 [(0, v), (3, r), (4, ow), (6, nat (kk + 1)), (7, nw0), (9, nat i)]) _
          ⟨0, mm, rfl, hM, Nat.zero_le _, Part.start mm, Is.of ⟨rfl, rfl, rfl, rfl, rfl, rfl, rfl, rfl, rfl, rfl, rfl, rfl, trivial⟩⟩ ?_
        rintro m s Hc ⟨i, m', rfl, hM, hi2, hP, hs⟩
        obtain ⟨a5, rfl⟩ := hs.mk1
        clear hs
        refine Runs.seq ?_
        refine Runs.seq ?_
        refine Runs.region ?_
        refine Rg.opp (v := nat i) rfl rfl rfl rfl rfl ?_
        refine Rg.opp (v := v) rfl rfl rfl rfl rfl ?_
        refine Rg.opp (v := nat l.length) rfl rfl rfl (ev_lenM ((hl.sees heu.sees).sees hM.ext.sees) rfl rfl) rfl ?_
        by_cases hlt : i < l.length
        · skip
          have hlo : idx (unitsP l) l[i].lo < (unitsP l).length := idx_lt (mem_unitsP.2 (mem_names_lo (List.getElem_mem hlt)))
          have hup : idx (unitsP l) l[i].up < (unitsP l).length := idx_lt (mem_unitsP.2 (mem_names_up (List.getElem_mem hlt)))
          refine Rg.opp (v := .bool true) rfl rfl rfl (ev_ltT rfl rfl (hlt)) rfl ?_
          refine Rg.nil ?_
          refine Runs.cond true rfl (fun _ => ?_) (fun h => by cases h)
          refine Runs.skip ?_
          refine Runs.seq ?_
          refine Runs.block ?_
          refine Runs.seq ?_
          refine Runs.seq ?_
          refine Runs.region ?_
          refine Rg.opp (v := v) rfl rfl rfl rfl rfl ?_
          refine Rg.opp (v := nat i) rfl rfl rfl rfl rfl ?_
          refine Rg.opp (v := ptrAt (sAddr v) (i * 3)) rfl rfl rfl (ev_idxM (k := i) ((hl.sees heu.sees).sees hM.ext.sees) rfl rfl (hlt) rfl rfl rfl (by decide)) rfl ?_
          refine Rg.opp (v := .agg (relC (l[i])).toArray) rfl rfl rfl (ev_ldAM (k := i) ((hl.sees heu.sees).sees hM.ext.sees) rfl (hlt) rfl rfl rfl) rfl ?_
          by_cases hkd : l[i].kind = 4
          · skip
            refine Rg.calls (v := .bool false) rfl rfl rfl rfl (rfl) rfl (arc_F _ _ _ hkd) ?_
            refine Rg.opp (v := .bool true) rfl rfl rfl rfl rfl ?_
            refine Rg.nil ?_
            refine Runs.cond true rfl (fun _ => ?_) (fun h => by cases h)
            refine Runs.exit ?_
            refine Runs.region ?_
            refine Rg.opp (v := nat i) rfl rfl rfl rfl rfl ?_
            refine Rg.opp (v := nat (i + 1)) rfl rfl rfl (ev_addN (b := 1) rfl rfl (by omega)) rfl ?_
            refine Rg.opp (v := nat (i + 1)) rfl rfl rfl rfl rfl ?_
            refine Rg.nil ?_
            refine ⟨l.length - (i + 1), by omega, i + 1, m', rfl, hM, hlt, by rw [arcsUp_succ hlt, if_pos hkd]; exact hP, Is.of ⟨rfl, rfl, rfl, rfl, rfl, rfl, rfl, rfl, rfl, rfl, rfl, rfl, trivial⟩⟩
          · skip
            refine Rg.calls (v := .bool true) rfl rfl rfl rfl (rfl) rfl (arc_T _ _ _ hkd) ?_
            refine Rg.opp (v := .bool false) rfl rfl rfl rfl rfl ?_
            refine Rg.nil ?_
            refine Runs.cond false rfl (fun h => by cases h) (fun _ => ?_)
            refine Runs.skip ?_
            refine Runs.seq ?_
            refine Runs.drawn (is := [0, 1, 2, 3, 4, 5, 6, 7, 8, 9, 10, 11, 12, 13, 14, 15]) (by decide +kernel) ?_
            refine Rg.opp (v := r) rfl rfl rfl rfl rfl ?_
            refine Rg.opp (v := v) rfl rfl rfl rfl rfl ?_
            refine Rg.opp (v := nat i) rfl rfl rfl rfl rfl ?_
            refine Rg.opp (v := ptrAt (sAddr v) (i * 3)) rfl rfl rfl (ev_idxM (k := i) ((hl.sees heu.sees).sees hM.ext.sees) rfl rfl (hlt) rfl rfl rfl (by decide)) rfl ?_
            refine Rg.opp (v := ptrAt (sAddr v) (i * 3 + 2)) rfl rfl rfl (ev_fldM (k := i) (m := i * 3) (q := (9, 2)) ((hl.sees heu.sees).sees hM.ext.sees) rfl (hlt) rfl rfl rfl rfl (by decide)) rfl ?_
            refine Rg.opp (v := str (l[i].lo)) rfl rfl rfl (ev_ldfM (k := i) ((hl.sees heu.sees).sees hM.ext.sees) rfl (hlt) rfl rfl rfl rfl) rfl ?_
            refine Rg.calls (v := nat (idx (unitsP l) l[i].lo)) rfl rfl rfl rfl (rfl) rfl (quiet_same (index_mem ((hus.sees hM.ext.sees).sees (Sees.freeze _)) (mem_unitsP.2 (mem_names_lo (List.getElem_mem hlt))) (by omega))) ?_
            refine Rg.opp (v := r) rfl rfl rfl rfl rfl ?_
            refine Rg.opp (v := v) rfl rfl rfl rfl rfl ?_
            refine Rg.opp (v := nat i) rfl rfl rfl rfl rfl ?_
            refine Rg.opp (v := ptrAt (sAddr v) (i * 3)) rfl rfl rfl (ev_idxM (k := i) ((hl.sees heu.sees).sees hM.ext.sees) rfl rfl (hlt) rfl rfl rfl (by decide)) rfl ?_
            refine Rg.opp (v := ptrAt (sAddr v) (i * 3 + 1)) rfl rfl rfl (ev_fldM (k := i) (m := i * 3) (q := (9, 1)) ((hl.sees heu.sees).sees hM.ext.sees) rfl (hlt) rfl rfl rfl rfl (by decide)) rfl ?_
            refine Rg.opp (v := str (l[i].up)) rfl rfl rfl (ev_ldfM (k := i) ((hl.sees heu.sees).sees hM.ext.sees) rfl (hlt) rfl rfl rfl rfl) rfl ?_
            refine Rg.calls (v := nat (idx (unitsP l) l[i].up)) rfl rfl rfl rfl (rfl) rfl (quiet_same (index_mem ((hus.sees hM.ext.sees).sees (Sees.freeze _)) (mem_unitsP.2 (mem_names_up (List.getElem_mem hlt))) (by omega))) ?_
            refine Rg.opp (v := nat (idx (unitsP l) l[i].lo)) rfl rfl rfl rfl rfl ?_
            refine Rg.opp (v := nat (idx (unitsP l) l[i].up)) rfl rfl rfl rfl rfl ?_
            refine Rg.nil ?_
            refine Runs.seq ?_
            refine Runs.region ?_
            refine Rg.opp (v := nat 0) rfl rfl rfl rfl rfl ?_
            refine Rg.nil ?_
            refine Runs.block ?_
            refine Runs.loop (fun m s Hc => ∃ (c : Nat), m = (unitsP l).length - c ∧ Mem Hu Hc ((.sl 1 nw0 (List.map encV nv)) :: (.sl 1 ow (List.map encV ov)) :: (rowsT ov (mat (unitsP l).length mm (unitsP l).length) ++ rowsT nv (mat (unitsP l).length (updC mm m' (idx (unitsP l) l[i].lo) (idx (unitsP l) l[i].up) c) (unitsP l).length))) ∧ (c ≤ (unitsP l).length) ∧ Is s 134 [(0, v), (3, r), (4, ow), (6, nat (kk + 1)), (7, nw0), (9, nat i), (10, nat (idx (unitsP l) l[i].lo)), (11, nat (idx (unitsP l) l[i].up)), (12, nat c)]) _
              ⟨0, rfl, by rw [updC_zero]; exact hM, Nat.zero_le _, Is.of ⟨rfl, rfl, rfl, rfl, rfl, rfl, rfl, rfl, rfl, rfl, rfl, rfl, rfl, rfl, rfl, rfl, rfl, rfl, trivial⟩⟩ ?_
            rintro m s Hc ⟨c, rfl, hM, hc, hs⟩
            obtain ⟨a6, rfl⟩ := hs.mk1
            clear hs
            refine Runs.seq ?_
            refine Runs.seq ?_
            refine Runs.region ?_
            refine Rg.opp (v := nat c) rfl rfl rfl rfl rfl ?_
            refine Rg.opp (v := r) rfl rfl rfl rfl rfl ?_
            refine Rg.opp (v := nat ((unitsP l).length)) rfl rfl rfl (ev_lenM (hus.sees hM.ext.sees) rfl rfl) rfl ?_
            by_cases hc8 : c < (unitsP l).length
            · skip
              refine Rg.opp (v := .bool true) rfl rfl rfl (ev_ltT rfl rfl (hc8)) rfl ?_
              refine Rg.nil ?_
              refine Runs.cond true rfl (fun _ => ?_) (fun h => by cases h)
              refine Runs.skip ?_
              refine Runs.seq ?_
              refine Runs.block ?_
              refine Runs.seq ?_
              refine Runs.seq ?_
              refine Runs.region ?_
              refine Rg.opp (v := nat c) rfl rfl rfl rfl rfl ?_
              refine Rg.opp (v := nat (idx (unitsP l) l[i].lo)) rfl rfl rfl rfl rfl ?_
              by_cases h7 : c = idx (unitsP l) l[i].lo
              · skip
                refine Rg.opp (v := .bool true) rfl rfl rfl (ev_eqT rfl rfl (h7)) rfl ?_
                refine Rg.nil ?_
                refine Runs.cond true rfl (fun _ => ?_) (fun h => by cases h)
                refine Runs.drawn (is := [0, 1, 2, 3, 4, 5, 6, 7, 8, 9, 10, 11, 12, 13, 14]) (by decide +kernel) ?_
                refine Rg.opp (v := nw0) rfl rfl rfl rfl rfl ?_
                refine Rg.opp (v := nat c) rfl rfl rfl rfl rfl ?_
                refine Rg.opp (v := ptrAt (sAddr nw0) (c * 1)) rfl rfl rfl (ev_idxM (k := c) (hM.get_sl (j := 0) rfl) rfl rfl (by omega) rfl rfl rfl (by decide)) rfl ?_
                refine Rg.opp (v := nv[c]) rfl rfl rfl (ev_ldM (k := c) (hM.get_sl (j := 0) rfl) rfl (by omega) rfl rfl rfl rfl) rfl ?_
                refine Rg.opp (v := nat (idx (unitsP l) l[i].up)) rfl rfl rfl rfl rfl ?_
                refine Rg.opp (v := nw0) rfl rfl rfl rfl rfl ?_
                refine Rg.opp (v := nat c) rfl rfl rfl rfl rfl ?_
                refine Rg.opp (v := ptrAt (sAddr nw0) (c * 1)) rfl rfl rfl (ev_idxM (k := c) (hM.get_sl (j := 0) rfl) rfl rfl (by omega) rfl rfl rfl (by decide)) rfl ?_
                refine Rg.opp (v := nv[c]) rfl rfl rfl (ev_ldM (k := c) (hM.get_sl (j := 0) rfl) rfl (by omega) rfl rfl rfl rfl) rfl ?_
                refine Rg.opp (v := nat (idx (unitsP l) l[i].up)) rfl rfl rfl rfl rfl ?_
                refine Rg.opp (v := ptrAt (sAddr (nv[c])) ((idx (unitsP l) l[i].up) * 1)) rfl rfl rfl (ev_idxM (k := idx (unitsP l) l[i].up) (hM.get_sl (j := (unitsP l).length + c + 2) (show (rowsT ov (mat (unitsP l).length mm (unitsP l).length) ++ rowsT nv (mat (unitsP l).length (updC mm m' (idx (unitsP l) l[i].lo) (idx (unitsP l) l[i].up) c) (unitsP l).length))[(unitsP l).length + c]? = _ from (List.getElem?_append_right (by rw [rowsT_len hov]; omega)).trans (by rw [rowsT_len hov, Nat.add_sub_cancel_left]; exact rowsT_get hnv (by omega) (by omega)))) rfl rfl (by simp; omega) rfl rfl rfl (by decide)) rfl ?_
                refine Rg.opp (v := nat ((updC mm m' (idx (unitsP l) l[i].lo) (idx (unitsP l) l[i].up) c) c ((idx (unitsP l) l[i].up)))) rfl rfl rfl (ev_ldM (k := (idx (unitsP l) l[i].up)) (hM.get_sl (j := (unitsP l).length + c + 2) (show (rowsT ov (mat (unitsP l).length mm (unitsP l).length) ++ rowsT nv (mat (unitsP l).length (updC mm m' (idx (unitsP l) l[i].lo) (idx (unitsP l) l[i].up) c) (unitsP l).length))[(unitsP l).length + c]? = _ from (List.getElem?_append_right (by rw [rowsT_len hov]; omega)).trans (by rw [rowsT_len hov, Nat.add_sub_cancel_left]; exact rowsT_get hnv (by omega) (by omega)))) rfl (by simp; omega) (by simp) rfl rfl rfl) rfl ?_
                refine Rg.opp (v := nat (max ((updC mm m' (idx (unitsP l) l[i].lo) (idx (unitsP l) l[i].up) c) c ((idx (unitsP l) l[i].up))) (1))) rfl rfl rfl (ev_maxN (a := (updC mm m' (idx (unitsP l) l[i].lo) (idx (unitsP l) l[i].up) c) c ((idx (unitsP l) l[i].up))) (b := 1) rfl rfl) rfl ?_
                refine Rg.opp (v := ptrAt (sAddr (nv[c])) ((idx (unitsP l) l[i].up) * 1)) rfl rfl rfl (ev_idxM (k := idx (unitsP l) l[i].up) (hM.get_sl (j := (unitsP l).length + c + 2) (show (rowsT ov (mat (unitsP l).length mm (unitsP l).length) ++ rowsT nv (mat (unitsP l).length (updC mm m' (idx (unitsP l) l[i].lo) (idx (unitsP l) l[i].up) c) (unitsP l).length))[(unitsP l).length + c]? = _ from (List.getElem?_append_right (by rw [rowsT_len hov]; omega)).trans (by rw [rowsT_len hov, Nat.add_sub_cancel_left]; exact rowsT_get hnv (by omega) (by omega)))) rfl rfl (by simp; omega) rfl rfl rfl (by decide)) rfl ?_
                refine Rg.stoM (f := encN) (j := (unitsP l).length + c + 2) (k := idx (unitsP l) l[i].up) (max ((updC mm m' (idx (unitsP l) l[i].lo) (idx (unitsP l) l[i].up) c) c ((idx (unitsP l) l[i].up))) (1)) hM rfl rfl rfl rfl (show (rowsT ov (mat (unitsP l).length mm (unitsP l).length) ++ rowsT nv (mat (unitsP l).length (updC mm m' (idx (unitsP l) l[i].lo) (idx (unitsP l) l[i].up) c) (unitsP l).length))[(unitsP l).length + c]? = _ from (List.getElem?_append_right (by rw [rowsT_len hov]; omega)).trans (by rw [rowsT_len hov, Nat.add_sub_cancel_left]; exact rowsT_get hnv (by omega) (by omega))) rfl rfl (by simp; omega) rfl rfl rfl rfl rfl (fun Hc hM => ?_)
                replace hM : Mem Hu Hc ((.sl 1 nw0 (List.map encV nv)) :: (.sl 1 ow (List.map encV ov)) :: (rowsT ov (mat (unitsP l).length mm (unitsP l).length) ++ rowsT nv (mat (unitsP l).length (upd1 (updC mm m' (idx (unitsP l) l[i].lo) (idx (unitsP l) l[i].up) c) c (idx (unitsP l) l[i].up) (max ((updC mm m' (idx (unitsP l) l[i].lo) (idx (unitsP l) l[i].up) c) c ((idx (unitsP l) l[i].up))) (1))) (unitsP l).length))) := by
                  have h0 := hM
                  have e0 : (rowsT ov (mat (unitsP l).length mm (unitsP l).length) ++ rowsT nv (mat (unitsP l).length (updC mm m' (idx (unitsP l) l[i].lo) (idx (unitsP l) l[i].up) c) (unitsP l).length)).set ((unitsP l).length + c) (.sl 1 nv[c] (List.map encN (((List.range (unitsP l).length).map ((updC mm m' (idx (unitsP l) l[i].lo) (idx (unitsP l) l[i].up) c) c)).set (idx (unitsP l) l[i].up) (max ((updC mm m' (idx (unitsP l) l[i].lo) (idx (unitsP l) l[i].up) c) c ((idx (unitsP l) l[i].up))) (1))))) = rowsT ov (mat (unitsP l).length mm (unitsP l).length) ++ rowsT nv (mat (unitsP l).length (upd1 (updC mm m' (idx (unitsP l) l[i].lo) (idx (unitsP l) l[i].up) c) c (idx (unitsP l) l[i].up) (max ((updC mm m' (idx (unitsP l) l[i].lo) (idx (unitsP l) l[i].up) c) c ((idx (unitsP l) l[i].up))) (1))) (unitsP l).length) := by
                    rw [List.set_append_right _ _ (by rw [rowsT_len hov]; omega), rowsT_len hov, Nat.add_sub_cancel_left, rowsT_sto hnv (by omega) (by omega)]
                  rw [← e0]; exact h0
                refine Rg.nil ?_
                refine Runs.seq ?_
                refine Runs.region ?_
                refine Rg.opp (v := ow) rfl rfl rfl rfl rfl ?_
                refine Rg.opp (v := nat c) rfl rfl rfl rfl rfl ?_
                refine Rg.opp (v := ptrAt (sAddr ow) (c * 1)) rfl rfl rfl (ev_idxM (k := c) (hM.get_sl (j := 1) rfl) rfl rfl (by omega) rfl rfl rfl (by decide)) rfl ?_
                refine Rg.opp (v := ov[c]) rfl rfl rfl (ev_ldM (k := c) (hM.get_sl (j := 1) rfl) rfl (by omega) rfl rfl rfl rfl) rfl ?_
                refine Rg.opp (v := nat (idx (unitsP l) l[i].lo)) rfl rfl rfl rfl rfl ?_
                refine Rg.opp (v := ptrAt (sAddr (ov[c])) ((idx (unitsP l) l[i].lo) * 1)) rfl rfl rfl (ev_idxM (k := idx (unitsP l) l[i].lo) (hM.get_sl (j := c + 2) (show (rowsT ov (mat (unitsP l).length mm (unitsP l).length) ++ rowsT nv (mat (unitsP l).length (upd1 (updC mm m' (idx (unitsP l) l[i].lo) (idx (unitsP l) l[i].up) c) c (idx (unitsP l) l[i].up) (max ((updC mm m' (idx (unitsP l) l[i].lo) (idx (unitsP l) l[i].up) c) c ((idx (unitsP l) l[i].up))) (1))) (unitsP l).length))[c]? = _ from (List.getElem?_append_left (by rw [rowsT_len hov]; omega)).trans (rowsT_get hov (by omega) (by omega)))) rfl rfl (by simp; omega) rfl rfl rfl (by decide)) rfl ?_
                refine Rg.opp (v := nat (mm c (idx (unitsP l) l[i].lo))) rfl rfl rfl (ev_ldM (k := (idx (unitsP l) l[i].lo)) (hM.get_sl (j := c + 2) (show (rowsT ov (mat (unitsP l).length mm (unitsP l).length) ++ rowsT nv (mat (unitsP l).length (upd1 (updC mm m' (idx (unitsP l) l[i].lo) (idx (unitsP l) l[i].up) c) c (idx (unitsP l) l[i].up) (max ((updC mm m' (idx (unitsP l) l[i].lo) (idx (unitsP l) l[i].up) c) c ((idx (unitsP l) l[i].up))) (1))) (unitsP l).length))[c]? = _ from (List.getElem?_append_left (by rw [rowsT_len hov]; omega)).trans (rowsT_get hov (by omega) (by omega)))) rfl (by simp; omega) (by simp) rfl rfl rfl) rfl ?_
                by_cases h8 : 0 < mm c (idx (unitsP l) l[i].lo)
                · skip
                  refine Rg.opp (v := .bool true) rfl rfl rfl (ev_gtT rfl rfl (h8)) rfl ?_
                  refine Rg.nil ?_
                  refine Runs.cond true rfl (fun _ => ?_) (fun h => by cases h)
                  refine Runs.drawn (is := [0, 1, 2, 3, 4, 5, 6, 7, 8, 9, 10, 11, 12, 13, 14, 15, 16, 17, 18, 19, 20, 21, 22, 23]) (by decide +kernel) ?_
                  refine Rg.opp (v := nw0) rfl rfl rfl rfl rfl ?_
                  refine Rg.opp (v := nat c) rfl rfl rfl rfl rfl ?_
                  refine Rg.opp (v := ptrAt (sAddr nw0) (c * 1)) rfl rfl rfl (ev_idxM (k := c) (hM.get_sl (j := 0) rfl) rfl rfl (by omega) rfl rfl rfl (by decide)) rfl ?_
                  refine Rg.opp (v := nv[c]) rfl rfl rfl (ev_ldM (k := c) (hM.get_sl (j := 0) rfl) rfl (by omega) rfl rfl rfl rfl) rfl ?_
                  refine Rg.opp (v := nat (idx (unitsP l) l[i].up)) rfl rfl rfl rfl rfl ?_
                  refine Rg.opp (v := nw0) rfl rfl rfl rfl rfl ?_
                  refine Rg.opp (v := nat c) rfl rfl rfl rfl rfl ?_
                  refine Rg.opp (v := ptrAt (sAddr nw0) (c * 1)) rfl rfl rfl (ev_idxM (k := c) (hM.get_sl (j := 0) rfl) rfl rfl (by omega) rfl rfl rfl (by decide)) rfl ?_
                  refine Rg.opp (v := nv[c]) rfl rfl rfl (ev_ldM (k := c) (hM.get_sl (j := 0) rfl) rfl (by omega) rfl rfl rfl rfl) rfl ?_
                  refine Rg.opp (v := nat (idx (unitsP l) l[i].up)) rfl rfl rfl rfl rfl ?_
                  refine Rg.opp (v := ptrAt (sAddr (nv[c])) ((idx (unitsP l) l[i].up) * 1)) rfl rfl rfl (ev_idxM (k := idx (unitsP l) l[i].up) (hM.get_sl (j := (unitsP l).length + c + 2) (show (rowsT ov (mat (unitsP l).length mm (unitsP l).length) ++ rowsT nv (mat (unitsP l).length (upd1 (updC mm m' (idx (unitsP l) l[i].lo) (idx (unitsP l) l[i].up) c) c (idx (unitsP l) l[i].up) (max ((updC mm m' (idx (unitsP l) l[i].lo) (idx (unitsP l) l[i].up) c) c ((idx (unitsP l) l[i].up))) (1))) (unitsP l).length))[(unitsP l).length + c]? = _ from (List.getElem?_append_right (by rw [rowsT_len hov]; omega)).trans (by rw [rowsT_len hov, Nat.add_sub_cancel_left]; exact rowsT_get hnv (by omega) (by omega)))) rfl rfl (by simp; omega) rfl rfl rfl (by decide)) rfl ?_
                  refine Rg.opp (v := nat ((upd1 (updC mm m' (idx (unitsP l) l[i].lo) (idx (unitsP l) l[i].up) c) c (idx (unitsP l) l[i].up) (max ((updC mm m' (idx (unitsP l) l[i].lo) (idx (unitsP l) l[i].up) c) c ((idx (unitsP l) l[i].up))) (1))) c ((idx (unitsP l) l[i].up)))) rfl rfl rfl (ev_ldM (k := (idx (unitsP l) l[i].up)) (hM.get_sl (j := (unitsP l).length + c + 2) (show (rowsT ov (mat (unitsP l).length mm (unitsP l).length) ++ rowsT nv (mat (unitsP l).length (upd1 (updC mm m' (idx (unitsP l) l[i].lo) (idx (unitsP l) l[i].up) c) c (idx (unitsP l) l[i].up) (max ((updC mm m' (idx (unitsP l) l[i].lo) (idx (unitsP l) l[i].up) c) c ((idx (unitsP l) l[i].up))) (1))) (unitsP l).length))[(unitsP l).length + c]? = _ from (List.getElem?_append_right (by rw [rowsT_len hov]; omega)).trans (by rw [rowsT_len hov, Nat.add_sub_cancel_left]; exact rowsT_get hnv (by omega) (by omega)))) rfl (by simp; omega) (by simp) rfl rfl rfl) rfl ?_
                  refine Rg.opp (v := ow) rfl rfl rfl rfl rfl ?_
                  refine Rg.opp (v := nat c) rfl rfl rfl rfl rfl ?_
                  refine Rg.opp (v := ptrAt (sAddr ow) (c * 1)) rfl rfl rfl (ev_idxM (k := c) (hM.get_sl (j := 1) rfl) rfl rfl (by omega) rfl rfl rfl (by decide)) rfl ?_
                  refine Rg.opp (v := ov[c]) rfl rfl rfl (ev_ldM (k := c) (hM.get_sl (j := 1) rfl) rfl (by omega) rfl rfl rfl rfl) rfl ?_
                  refine Rg.opp (v := nat (idx (unitsP l) l[i].lo)) rfl rfl rfl rfl rfl ?_
                  refine Rg.opp (v := ptrAt (sAddr (ov[c])) ((idx (unitsP l) l[i].lo) * 1)) rfl rfl rfl (ev_idxM (k := idx (unitsP l) l[i].lo) (hM.get_sl (j := c + 2) (show (rowsT ov (mat (unitsP l).length mm (unitsP l).length) ++ rowsT nv (mat (unitsP l).length (upd1 (updC mm m' (idx (unitsP l) l[i].lo) (idx (unitsP l) l[i].up) c) c (idx (unitsP l) l[i].up) (max ((updC mm m' (idx (unitsP l) l[i].lo) (idx (unitsP l) l[i].up) c) c ((idx (unitsP l) l[i].up))) (1))) (unitsP l).length))[c]? = _ from (List.getElem?_append_left (by rw [rowsT_len hov]; omega)).trans (rowsT_get hov (by omega) (by omega)))) rfl rfl (by simp; omega) rfl rfl rfl (by decide)) rfl ?_
                  refine Rg.opp (v := nat (mm c (idx (unitsP l) l[i].lo))) rfl rfl rfl (ev_ldM (k := (idx (unitsP l) l[i].lo)) (hM.get_sl (j := c + 2) (show (rowsT ov (mat (unitsP l).length mm (unitsP l).length) ++ rowsT nv (mat (unitsP l).length (upd1 (updC mm m' (idx (unitsP l) l[i].lo) (idx (unitsP l) l[i].up) c) c (idx (unitsP l) l[i].up) (max ((updC mm m' (idx (unitsP l) l[i].lo) (idx (unitsP l) l[i].up) c) c ((idx (unitsP l) l[i].up))) (1))) (unitsP l).length))[c]? = _ from (List.getElem?_append_left (by rw [rowsT_len hov]; omega)).trans (rowsT_get hov (by omega) (by omega)))) rfl (by simp; omega) (by simp) rfl rfl rfl) rfl ?_
                  refine Rg.opp (v := nat (mm c (idx (unitsP l) l[i].lo) + 1)) rfl rfl rfl (ev_addN (b := 1) rfl rfl (by have := hm7 (by omega) c (idx (unitsP l) l[i].lo); omega)) rfl ?_
                  refine Rg.opp (v := nat (min (8) (mm c (idx (unitsP l) l[i].lo) + 1))) rfl rfl rfl (ev_minN (a := 8) (b := mm c (idx (unitsP l) l[i].lo) + 1) rfl rfl) rfl ?_
                  refine Rg.opp (v := nat (max ((upd1 (updC mm m' (idx (unitsP l) l[i].lo) (idx (unitsP l) l[i].up) c) c (idx (unitsP l) l[i].up) (max ((updC mm m' (idx (unitsP l) l[i].lo) (idx (unitsP l) l[i].up) c) c ((idx (unitsP l) l[i].up))) (1))) c ((idx (unitsP l) l[i].up))) (min (8) (mm c (idx (unitsP l) l[i].lo) + 1)))) rfl rfl rfl (ev_maxN (a := (upd1 (updC mm m' (idx (unitsP l) l[i].lo) (idx (unitsP l) l[i].up) c) c (idx (unitsP l) l[i].up) (max ((updC mm m' (idx (unitsP l) l[i].lo) (idx (unitsP l) l[i].up) c) c ((idx (unitsP l) l[i].up))) (1))) c ((idx (unitsP l) l[i].up))) (b := min (8) (mm c (idx (unitsP l) l[i].lo) + 1)) rfl rfl) rfl ?_
                  refine Rg.opp (v := ptrAt (sAddr (nv[c])) ((idx (unitsP l) l[i].up) * 1)) rfl rfl rfl (ev_idxM (k := idx (unitsP l) l[i].up) (hM.get_sl (j := (unitsP l).length + c + 2) (show (rowsT ov (mat (unitsP l).length mm (unitsP l).length) ++ rowsT nv (mat (unitsP l).length (upd1 (updC mm m' (idx (unitsP l) l[i].lo) (idx (unitsP l) l[i].up) c) c (idx (unitsP l) l[i].up) (max ((updC mm m' (idx (unitsP l) l[i].lo) (idx (unitsP l) l[i].up) c) c ((idx (unitsP l) l[i].up))) (1))) (unitsP l).length))[(unitsP l).length + c]? = _ from (List.getElem?_append_right (by rw [rowsT_len hov]; omega)).trans (by rw [rowsT_len hov, Nat.add_sub_cancel_left]; exact rowsT_get hnv (by omega) (by omega)))) rfl rfl (by simp; omega) rfl rfl rfl (by decide)) rfl ?_
                  refine Rg.stoM (f := encN) (j := (unitsP l).length + c + 2) (k := idx (unitsP l) l[i].up) (max ((upd1 (updC mm m' (idx (unitsP l) l[i].lo) (idx (unitsP l) l[i].up) c) c (idx (unitsP l) l[i].up) (max ((updC mm m' (idx (unitsP l) l[i].lo) (idx (unitsP l) l[i].up) c) c ((idx (unitsP l) l[i].up))) (1))) c ((idx (unitsP l) l[i].up))) (min (8) (mm c (idx (unitsP l) l[i].lo) + 1))) hM rfl rfl rfl rfl (show (rowsT ov (mat (unitsP l).length mm (unitsP l).length) ++ rowsT nv (mat (unitsP l).length (upd1 (updC mm m' (idx (unitsP l) l[i].lo) (idx (unitsP l) l[i].up) c) c (idx (unitsP l) l[i].up) (max ((updC mm m' (idx (unitsP l) l[i].lo) (idx (unitsP l) l[i].up) c) c ((idx (unitsP l) l[i].up))) (1))) (unitsP l).length))[(unitsP l).length + c]? = _ from (List.getElem?_append_right (by rw [rowsT_len hov]; omega)).trans (by rw [rowsT_len hov, Nat.add_sub_cancel_left]; exact rowsT_get hnv (by omega) (by omega))) rfl rfl (by simp; omega) rfl rfl rfl rfl rfl (fun Hc hM => ?_)
                  replace hM : Mem Hu Hc ((.sl 1 nw0 (List.map encV nv)) :: (.sl 1 ow (List.map encV ov)) :: (rowsT ov (mat (unitsP l).length mm (unitsP l).length) ++ rowsT nv (mat (unitsP l).length (upd1 (upd1 (updC mm m' (idx (unitsP l) l[i].lo) (idx (unitsP l) l[i].up) c) c (idx (unitsP l) l[i].up) (max ((updC mm m' (idx (unitsP l) l[i].lo) (idx (unitsP l) l[i].up) c) c ((idx (unitsP l) l[i].up))) (1))) c (idx (unitsP l) l[i].up) (max ((upd1 (updC mm m' (idx (unitsP l) l[i].lo) (idx (unitsP l) l[i].up) c) c (idx (unitsP l) l[i].up) (max ((updC mm m' (idx (unitsP l) l[i].lo) (idx (unitsP l) l[i].up) c) c ((idx (unitsP l) l[i].up))) (1))) c ((idx (unitsP l) l[i].up))) (min (8) (mm c (idx (unitsP l) l[i].lo) + 1)))) (unitsP l).length))) := by
                    have h0 := hM
                    have e0 : (rowsT ov (mat (unitsP l).length mm (unitsP l).length) ++ rowsT nv (mat (unitsP l).length (upd1 (updC mm m' (idx (unitsP l) l[i].lo) (idx (unitsP l) l[i].up) c) c (idx (unitsP l) l[i].up) (max ((updC mm m' (idx (unitsP l) l[i].lo) (idx (unitsP l) l[i].up) c) c ((idx (unitsP l) l[i].up))) (1))) (unitsP l).length)).set ((unitsP l).length + c) (.sl 1 nv[c] (List.map encN (((List.range (unitsP l).length).map ((upd1 (updC mm m' (idx (unitsP l) l[i].lo) (idx (unitsP l) l[i].up) c) c (idx (unitsP l) l[i].up) (max ((updC mm m' (idx (unitsP l) l[i].lo) (idx (unitsP l) l[i].up) c) c ((idx (unitsP l) l[i].up))) (1))) c)).set (idx (unitsP l) l[i].up) (max ((upd1 (updC mm m' (idx (unitsP l) l[i].lo) (idx (unitsP l) l[i].up) c) c (idx (unitsP l) l[i].up) (max ((updC mm m' (idx (unitsP l) l[i].lo) (idx (unitsP l) l[i].up) c) c ((idx (unitsP l) l[i].up))) (1))) c ((idx (unitsP l) l[i].up))) (min (8) (mm c (idx (unitsP l) l[i].lo) + 1)))))) = rowsT ov (mat (unitsP l).length mm (unitsP l).length) ++ rowsT nv (mat (unitsP l).length (upd1 (upd1 (updC mm m' (idx (unitsP l) l[i].lo) (idx (unitsP l) l[i].up) c) c (idx (unitsP l) l[i].up) (max ((updC mm m' (idx (unitsP l) l[i].lo) (idx (unitsP l) l[i].up) c) c ((idx (unitsP l) l[i].up))) (1))) c (idx (unitsP l) l[i].up) (max ((upd1 (updC mm m' (idx (unitsP l) l[i].lo) (idx (unitsP l) l[i].up) c) c (idx (unitsP l) l[i].up) (max ((updC mm m' (idx (unitsP l) l[i].lo) (idx (unitsP l) l[i].up) c) c ((idx (unitsP l) l[i].up))) (1))) c ((idx (unitsP l) l[i].up))) (min (8) (mm c (idx (unitsP l) l[i].lo) + 1)))) (unitsP l).length) := by
                      rw [List.set_append_right _ _ (by rw [rowsT_len hov]; omega), rowsT_len hov, Nat.add_sub_cancel_left, rowsT_sto hnv (by omega) (by omega)]
                    rw [← e0]; exact h0
                  refine Rg.nil ?_
                  refine Runs.region ?_
                  refine Rg.opp (v := nat c) rfl rfl rfl rfl rfl ?_
                  refine Rg.opp (v := nat (c + 1)) rfl rfl rfl (ev_addN (b := 1) rfl rfl (by omega)) rfl ?_
                  refine Rg.opp (v := nat (c + 1)) rfl rfl rfl rfl rfl ?_
                  refine Rg.nil ?_
                  refine ⟨(unitsP l).length - (c + 1), by omega, c + 1, rfl, by rw [← updC_tt h7 h8]; exact hM, hc8, Is.of ⟨rfl, rfl, rfl, rfl, rfl, rfl, rfl, rfl, rfl, rfl, rfl, rfl, rfl, rfl, rfl, rfl, rfl, rfl, trivial⟩⟩
                · skip
                  refine Rg.opp (v := .bool false) rfl rfl rfl (ev_gtF rfl rfl (h8)) rfl ?_
                  refine Rg.nil ?_
                  refine Runs.cond false rfl (fun h => by cases h) (fun _ => ?_)
                  refine Runs.skip ?_
                  refine Runs.region ?_
                  refine Rg.opp (v := nat c) rfl rfl rfl rfl rfl ?_
                  refine Rg.opp (v := nat (c + 1)) rfl rfl rfl (ev_addN (b := 1) rfl rfl (by omega)) rfl ?_
                  refine Rg.opp (v := nat (c + 1)) rfl rfl rfl rfl rfl ?_
                  refine Rg.nil ?_
                  refine ⟨(unitsP l).length - (c + 1), by omega, c + 1, rfl, by rw [← updC_tf h7 h8]; exact hM, hc8, Is.of ⟨rfl, rfl, rfl, rfl, rfl, rfl, rfl, rfl, rfl, rfl, rfl, rfl, rfl, rfl, rfl, rfl, rfl, rfl, trivial⟩⟩
              · skip
                refine Rg.opp (v := .bool false) rfl rfl rfl (ev_eqF rfl rfl (h7)) rfl ?_
                refine Rg.nil ?_
                refine Runs.cond false rfl (fun h => by cases h) (fun _ => ?_)
                refine Runs.skip ?_
                refine Runs.seq ?_
                refine Runs.region ?_
                refine Rg.opp (v := ow) rfl rfl rfl rfl rfl ?_
                refine Rg.opp (v := nat c) rfl rfl rfl rfl rfl ?_
                refine Rg.opp (v := ptrAt (sAddr ow) (c * 1)) rfl rfl rfl (ev_idxM (k := c) (hM.get_sl (j := 1) rfl) rfl rfl (by omega) rfl rfl rfl (by decide)) rfl ?_
                refine Rg.opp (v := ov[c]) rfl rfl rfl (ev_ldM (k := c) (hM.get_sl (j := 1) rfl) rfl (by omega) rfl rfl rfl rfl) rfl ?_
                refine Rg.opp (v := nat (idx (unitsP l) l[i].lo)) rfl rfl rfl rfl rfl ?_
                refine Rg.opp (v := ptrAt (sAddr (ov[c])) ((idx (unitsP l) l[i].lo) * 1)) rfl rfl rfl (ev_idxM (k := idx (unitsP l) l[i].lo) (hM.get_sl (j := c + 2) (show (rowsT ov (mat (unitsP l).length mm (unitsP l).length) ++ rowsT nv (mat (unitsP l).length (updC mm m' (idx (unitsP l) l[i].lo) (idx (unitsP l) l[i].up) c) (unitsP l).length))[c]? = _ from (List.getElem?_append_left (by rw [rowsT_len hov]; omega)).trans (rowsT_get hov (by omega) (by omega)))) rfl rfl (by simp; omega) rfl rfl rfl (by decide)) rfl ?_
                refine Rg.opp (v := nat (mm c (idx (unitsP l) l[i].lo))) rfl rfl rfl (ev_ldM (k := (idx (unitsP l) l[i].lo)) (hM.get_sl (j := c + 2) (show (rowsT ov (mat (unitsP l).length mm (unitsP l).length) ++ rowsT nv (mat (unitsP l).length (updC mm m' (idx (unitsP l) l[i].lo) (idx (unitsP l) l[i].up) c) (unitsP l).length))[c]? = _ from (List.getElem?_append_left (by rw [rowsT_len hov]; omega)).trans (rowsT_get hov (by omega) (by omega)))) rfl (by simp; omega) (by simp) rfl rfl rfl) rfl ?_
                by_cases h9 : 0 < mm c (idx (unitsP l) l[i].lo)
                · skip
                  refine Rg.opp (v := .bool true) rfl rfl rfl (ev_gtT rfl rfl (h9)) rfl ?_
                  refine Rg.nil ?_
                  refine Runs.cond true rfl (fun _ => ?_) (fun h => by cases h)
                  refine Runs.drawn (is := [0, 1, 2, 3, 4, 5, 6, 7, 8, 9, 10, 11, 12, 13, 14, 15, 16, 17, 18, 19, 20, 21, 22, 23]) (by decide +kernel) ?_
                  refine Rg.opp (v := nw0) rfl rfl rfl rfl rfl ?_
                  refine Rg.opp (v := nat c) rfl rfl rfl rfl rfl ?_
                  refine Rg.opp (v := ptrAt (sAddr nw0) (c * 1)) rfl rfl rfl (ev_idxM (k := c) (hM.get_sl (j := 0) rfl) rfl rfl (by omega) rfl rfl rfl (by decide)) rfl ?_
                  refine Rg.opp (v := nv[c]) rfl rfl rfl (ev_ldM (k := c) (hM.get_sl (j := 0) rfl) rfl (by omega) rfl rfl rfl rfl) rfl ?_
                  refine Rg.opp (v := nat (idx (unitsP l) l[i].up)) rfl rfl rfl rfl rfl ?_
                  refine Rg.opp (v := nw0) rfl rfl rfl rfl rfl ?_
                  refine Rg.opp (v := nat c) rfl rfl rfl rfl rfl ?_
                  refine Rg.opp (v := ptrAt (sAddr nw0) (c * 1)) rfl rfl rfl (ev_idxM (k := c) (hM.get_sl (j := 0) rfl) rfl rfl (by omega) rfl rfl rfl (by decide)) rfl ?_
                  refine Rg.opp (v := nv[c]) rfl rfl rfl (ev_ldM (k := c) (hM.get_sl (j := 0) rfl) rfl (by omega) rfl rfl rfl rfl) rfl ?_
                  refine Rg.opp (v := nat (idx (unitsP l) l[i].up)) rfl rfl rfl rfl rfl ?_
                  refine Rg.opp (v := ptrAt (sAddr (nv[c])) ((idx (unitsP l) l[i].up) * 1)) rfl rfl rfl (ev_idxM (k := idx (unitsP l) l[i].up) (hM.get_sl (j := (unitsP l).length + c + 2) (show (rowsT ov (mat (unitsP l).length mm (unitsP l).length) ++ rowsT nv (mat (unitsP l).length (updC mm m' (idx (unitsP l) l[i].lo) (idx (unitsP l) l[i].up) c) (unitsP l).length))[(unitsP l).length + c]? = _ from (List.getElem?_append_right (by rw [rowsT_len hov]; omega)).trans (by rw [rowsT_len hov, Nat.add_sub_cancel_left]; exact rowsT_get hnv (by omega) (by omega)))) rfl rfl (by simp; omega) rfl rfl rfl (by decide)) rfl ?_
                  refine Rg.opp (v := nat ((updC mm m' (idx (unitsP l) l[i].lo) (idx (unitsP l) l[i].up) c) c ((idx (unitsP l) l[i].up)))) rfl rfl rfl (ev_ldM (k := (idx (unitsP l) l[i].up)) (hM.get_sl (j := (unitsP l).length + c + 2) (show (rowsT ov (mat (unitsP l).length mm (unitsP l).length) ++ rowsT nv (mat (unitsP l).length (updC mm m' (idx (unitsP l) l[i].lo) (idx (unitsP l) l[i].up) c) (unitsP l).length))[(unitsP l).length + c]? = _ from (List.getElem?_append_right (by rw [rowsT_len hov]; omega)).trans (by rw [rowsT_len hov, Nat.add_sub_cancel_left]; exact rowsT_get hnv (by omega) (by omega)))) rfl (by simp; omega) (by simp) rfl rfl rfl) rfl ?_
                  refine Rg.opp (v := ow) rfl rfl rfl rfl rfl ?_
                  refine Rg.opp (v := nat c) rfl rfl rfl rfl rfl ?_
                  refine Rg.opp (v := ptrAt (sAddr ow) (c * 1)) rfl rfl rfl (ev_idxM (k := c) (hM.get_sl (j := 1) rfl) rfl rfl (by omega) rfl rfl rfl (by decide)) rfl ?_
                  refine Rg.opp (v := ov[c]) rfl rfl rfl (ev_ldM (k := c) (hM.get_sl (j := 1) rfl) rfl (by omega) rfl rfl rfl rfl) rfl ?_
                  refine Rg.opp (v := nat (idx (unitsP l) l[i].lo)) rfl rfl rfl rfl rfl ?_
                  refine Rg.opp (v := ptrAt (sAddr (ov[c])) ((idx (unitsP l) l[i].lo) * 1)) rfl rfl rfl (ev_idxM (k := idx (unitsP l) l[i].lo) (hM.get_sl (j := c + 2) (show (rowsT ov (mat (unitsP l).length mm (unitsP l).length) ++ rowsT nv (mat (unitsP l).length (updC mm m' (idx (unitsP l) l[i].lo) (idx (unitsP l) l[i].up) c) (unitsP l).length))[c]? = _ from (List.getElem?_append_left (by rw [rowsT_len hov]; omega)).trans (rowsT_get hov (by omega) (by omega)))) rfl rfl (by simp; omega) rfl rfl rfl (by decide)) rfl ?_
                  refine Rg.opp (v := nat (mm c (idx (unitsP l) l[i].lo))) rfl rfl rfl (ev_ldM (k := (idx (unitsP l) l[i].lo)) (hM.get_sl (j := c + 2) (show (rowsT ov (mat (unitsP l).length mm (unitsP l).length) ++ rowsT nv (mat (unitsP l).length (updC mm m' (idx (unitsP l) l[i].lo) (idx (unitsP l) l[i].up) c) (unitsP l).length))[c]? = _ from (List.getElem?_append_left (by rw [rowsT_len hov]; omega)).trans (rowsT_get hov (by omega) (by omega)))) rfl (by simp; omega) (by simp) rfl rfl rfl) rfl ?_
                  refine Rg.opp (v := nat (mm c (idx (unitsP l) l[i].lo) + 1)) rfl rfl rfl (ev_addN (b := 1) rfl rfl (by have := hm7 (by omega) c (idx (unitsP l) l[i].lo); omega)) rfl ?_
                  refine Rg.opp (v := nat (min (8) (mm c (idx (unitsP l) l[i].lo) + 1))) rfl rfl rfl (ev_minN (a := 8) (b := mm c (idx (unitsP l) l[i].lo) + 1) rfl rfl) rfl ?_
                  refine Rg.opp (v := nat (max ((updC mm m' (idx (unitsP l) l[i].lo) (idx (unitsP l) l[i].up) c) c ((idx (unitsP l) l[i].up))) (min (8) (mm c (idx (unitsP l) l[i].lo) + 1)))) rfl rfl rfl (ev_maxN (a := (updC mm m' (idx (unitsP l) l[i].lo) (idx (unitsP l) l[i].up) c) c ((idx (unitsP l) l[i].up))) (b := min (8) (mm c (idx (unitsP l) l[i].lo) + 1)) rfl rfl) rfl ?_
                  refine Rg.opp (v := ptrAt (sAddr (nv[c])) ((idx (unitsP l) l[i].up) * 1)) rfl rfl rfl (ev_idxM (k := idx (unitsP l) l[i].up) (hM.get_sl (j := (unitsP l).length + c + 2) (show (rowsT ov (mat (unitsP l).length mm (unitsP l).length) ++ rowsT nv (mat (unitsP l).length (updC mm m' (idx (unitsP l) l[i].lo) (idx (unitsP l) l[i].up) c) (unitsP l).length))[(unitsP l).length + c]? = _ from (List.getElem?_append_right (by rw [rowsT_len hov]; omega)).trans (by rw [rowsT_len hov, Nat.add_sub_cancel_left]; exact rowsT_get hnv (by omega) (by omega)))) rfl rfl (by simp; omega) rfl rfl rfl (by decide)) rfl ?_
                  refine Rg.stoM (f := encN) (j := (unitsP l).length + c + 2) (k := idx (unitsP l) l[i].up) (max ((updC mm m' (idx (unitsP l) l[i].lo) (idx (unitsP l) l[i].up) c) c ((idx (unitsP l) l[i].up))) (min (8) (mm c (idx (unitsP l) l[i].lo) + 1))) hM rfl rfl rfl rfl (show (rowsT ov (mat (unitsP l).length mm (unitsP l).length) ++ rowsT nv (mat (unitsP l).length (updC mm m' (idx (unitsP l) l[i].lo) (idx (unitsP l) l[i].up) c) (unitsP l).length))[(unitsP l).length + c]? = _ from (List.getElem?_append_right (by rw [rowsT_len hov]; omega)).trans (by rw [rowsT_len hov, Nat.add_sub_cancel_left]; exact rowsT_get hnv (by omega) (by omega))) rfl rfl (by simp; omega) rfl rfl rfl rfl rfl (fun Hc hM => ?_)
                  replace hM : Mem Hu Hc ((.sl 1 nw0 (List.map encV nv)) :: (.sl 1 ow (List.map encV ov)) :: (rowsT ov (mat (unitsP l).length mm (unitsP l).length) ++ rowsT nv (mat (unitsP l).length (upd1 (updC mm m' (idx (unitsP l) l[i].lo) (idx (unitsP l) l[i].up) c) c (idx (unitsP l) l[i].up) (max ((updC mm m' (idx (unitsP l) l[i].lo) (idx (unitsP l) l[i].up) c) c ((idx (unitsP l) l[i].up))) (min (8) (mm c (idx (unitsP l) l[i].lo) + 1)))) (unitsP l).length))) := by
                    have h0 := hM
                    have e0 : (rowsT ov (mat (unitsP l).length mm (unitsP l).length) ++ rowsT nv (mat (unitsP l).length (updC mm m' (idx (unitsP l) l[i].lo) (idx (unitsP l) l[i].up) c) (unitsP l).length)).set ((unitsP l).length + c) (.sl 1 nv[c] (List.map encN (((List.range (unitsP l).length).map ((updC mm m' (idx (unitsP l) l[i].lo) (idx (unitsP l) l[i].up) c) c)).set (idx (unitsP l) l[i].up) (max ((updC mm m' (idx (unitsP l) l[i].lo) (idx (unitsP l) l[i].up) c) c ((idx (unitsP l) l[i].up))) (min (8) (mm c (idx (unitsP l) l[i].lo) + 1)))))) = rowsT ov (mat (unitsP l).length mm (unitsP l).length) ++ rowsT nv (mat (unitsP l).length (upd1 (updC mm m' (idx (unitsP l) l[i].lo) (idx (unitsP l) l[i].up) c) c (idx (unitsP l) l[i].up) (max ((updC mm m' (idx (unitsP l) l[i].lo) (idx (unitsP l) l[i].up) c) c ((idx (unitsP l) l[i].up))) (min (8) (mm c (idx (unitsP l) l[i].lo) + 1)))) (unitsP l).length) := by
                      rw [List.set_append_right _ _ (by rw [rowsT_len hov]; omega), rowsT_len hov, Nat.add_sub_cancel_left, rowsT_sto hnv (by omega) (by omega)]
                    rw [← e0]; exact h0
                  refine Rg.nil ?_
                  refine Runs.region ?_
                  refine Rg.opp (v := nat c) rfl rfl rfl rfl rfl ?_
                  refine Rg.opp (v := nat (c + 1)) rfl rfl rfl (ev_addN (b := 1) rfl rfl (by omega)) rfl ?_
                  refine Rg.opp (v := nat (c + 1)) rfl rfl rfl rfl rfl ?_
                  refine Rg.nil ?_
                  refine ⟨(unitsP l).length - (c + 1), by omega, c + 1, rfl, by rw [← updC_ft h7 h9]; exact hM, hc8, Is.of ⟨rfl, rfl, rfl, rfl, rfl, rfl, rfl, rfl, rfl, rfl, rfl, rfl, rfl, rfl, rfl, rfl, rfl, rfl, trivial⟩⟩
                · skip
                  refine Rg.opp (v := .bool false) rfl rfl rfl (ev_gtF rfl rfl (h9)) rfl ?_
                  refine Rg.nil ?_
                  refine Runs.cond false rfl (fun h => by cases h) (fun _ => ?_)
                  refine Runs.skip ?_
                  refine Runs.region ?_
                  refine Rg.opp (v := nat c) rfl rfl rfl rfl rfl ?_
                  refine Rg.opp (v := nat (c + 1)) rfl rfl rfl (ev_addN (b := 1) rfl rfl (by omega)) rfl ?_
                  refine Rg.opp (v := nat (c + 1)) rfl rfl rfl rfl rfl ?_
                  refine Rg.nil ?_
                  refine ⟨(unitsP l).length - (c + 1), by omega, c + 1, rfl, by rw [← updC_ff h7 h9]; exact hM, hc8, Is.of ⟨rfl, rfl, rfl, rfl, rfl, rfl, rfl, rfl, rfl, rfl, rfl, rfl, rfl, rfl, rfl, rfl, rfl, rfl, trivial⟩⟩
            · skip
              have hc : c = (unitsP l).length := by omega
              subst hc
              refine Rg.opp (v := .bool false) rfl rfl rfl (ev_ltF rfl rfl (hc8)) rfl ?_
              refine Rg.nil ?_
              refine Runs.cond false rfl (fun h => by cases h) (fun _ => ?_)
              refine Runs.exit ?_
              refine Runs.region ?_
              refine Rg.opp (v := nat i) rfl rfl rfl rfl rfl ?_
              refine Rg.opp (v := nat (i + 1)) rfl rfl rfl (ev_addN (b := 1) rfl rfl (by omega)) rfl ?_
              refine Rg.opp (v := nat (i + 1)) rfl rfl rfl rfl rfl ?_
              refine Rg.nil ?_
              refine ⟨l.length - (i + 1), by omega, i + 1, updC mm m' (idx (unitsP l) l[i].lo) (idx (unitsP l) l[i].up) ((unitsP l).length), rfl, hM, hlt, by rw [arcsUp_succ hlt, if_neg hkd]; simp only [prs, List.map_append, List.map_cons, List.map_nil]; exact hP.arc (hm7 (by omega)) hm0 (by omega), Is.of ⟨rfl, rfl, rfl, rfl, rfl, rfl, rfl, rfl, rfl, rfl, rfl, rfl, trivial⟩⟩
        · skip
          have hi2 : i = l.length := by omega
          subst hi2
          refine Rg.opp (v := .bool false) rfl rfl rfl (ev_ltF rfl rfl (hlt)) rfl ?_
          refine Rg.nil ?_
          refine Runs.cond false rfl (fun h => by cases h) (fun _ => ?_)
          refine Runs.exit ?_
          refine Runs.region ?_
          refine Rg.opp (v := nw0) rfl rfl rfl rfl rfl ?_
          refine Rg.opp (v := nw0) rfl rfl rfl rfl rfl ?_
          refine Rg.nil ?_
          refine Runs.region ?_
          refine Rg.opp (v := nat (kk + 1)) rfl rfl rfl rfl rfl ?_
          refine Rg.opp (v := nat (kk + 1 + 1)) rfl rfl rfl (ev_addN (b := 1) rfl rfl (by omega)) rfl ?_
          refine Rg.opp (v := nat (kk + 1 + 1)) rfl rfl rfl rfl rfl ?_
          refine Rg.nil ?_
          refine ⟨8 - (kk + 1), by omega, kk + 1, nw0, nv, m', rfl, by have h := Mem.mid (A := [.sl 1 nw0 (nv.map encV)]) (L := .sl 1 ow (ov.map encV) :: rowsT ov (mat (unitsP l).length mm (unitsP l).length)) (B := rowsT nv (mat (unitsP l).length m' (unitsP l).length)) hM; exact h, by omega, hnv, hP.far hF, Is.of ⟨rfl, rfl, rfl, rfl, rfl, rfl, rfl, rfl, trivial⟩⟩
    · skip
      refine Rg.opp (v := .bool false) rfl rfl rfl (ev_leF rfl rfl (h8)) rfl ?_
      refine Rg.nil ?_
      refine Runs.cond false rfl (fun h => by cases h) (fun _ => ?_)
      refine Runs.exit ?_
      refine Runs.seq ?_
      refine Runs.region ?_
      refine Rg.opp (v := ow) rfl rfl rfl rfl rfl ?_
      refine Rg.opp (v := ow) rfl rfl rfl rfl rfl ?_
      refine Rg.nil ?_
      refine Runs.ret ?_
      refine ⟨ow, rfl, ?_⟩
      have hkk : kk = 8 := by omega
      subst hkk
      refine ⟨heu.trans hM.ext, ov, mm, hM.get_sl (j := 0) rfl, hov, fun c hc => hM.get_sl (j := c + 1) (show (rowsT ov (mat (unitsP l).length mm (unitsP l).length))[c]? = _ from rowsT_get hov (by omega) (by omega)), hF⟩

end Go.Proofs.Ytdhbclplondmjaa.C

end
