/- Texts of one's own, laid together: Wj, Wl, X4, X7, Xh, X11 -/
import Derived.Test.YtdhbclplondmjaaQr22
import Derived.Test.YtdhbclplondmjaaQr25
import Derived.Test.YtdhbclplondmjaaQr23
section
/- The law on Keeps, run. -/
set_option linter.unusedVariables false
set_option maxRecDepth 100000
namespace Go.Proofs.Ytdhbclplondmjaa.C
open Go.RowKit Go.Sort

theorem known_is (H : Heap) : big tab 9 [] H = some (.bool true, H) := by
  obtain ⟨v, E, h, rfl⟩ := known_runs
  refine big_ext (T := tab) (f := 9) rfl ?_
  unfold pureB
  simp only [flats, if_true, h]
  rfl

theorem fits_runs {H : Heap} (a : Option Addr) (n c : Nat) : big tab 10 [.slice a n c] H = some (.bool (decide ((n : Int) ≤ 8)), H) :=
  big_some.2 ⟨20, rfl⟩

/-- The law's answer. -/
def want2 (u order : List Nm) : Nat := if ∀ x ∈ u, x ∈ order then 0 else 10
def want3 (order : List Nm) (w : Nat) : Nat := if order.Nodup then w else 9
def lawKeeps (L : List Rel) (order : List Nm) : Bool :=
  let kp := keepsP L order
  let want := want3 order (want2 (unitsL L) order)
  if want ≠ 0 then decide (kp.1 = 0) && (!kp.2.1) && decide (kp.2.2 = want)
  else match L.findIdx? (lawArc order) with
    | some i => decide (kp.2.2 = 0) && decide (kp.1 = i) && !kp.2.1
    | none => decide (kp.2.2 = 0) && decide (kp.1 = 0) && kp.2.1

theorem want2_snoc (u : List Nm) (x : Nm) (order : List Nm) : want2 (u ++ [x]) order = if x ∉ order then 10 else want2 u order := by
  unfold want2
  by_cases q : x ∈ order
  · simp [q, or_imp, forall_and]
  · rw [if_pos q, if_neg]
    intro z
    exact q (z _ (by simp))

theorem indexOf_neg {xs : List Nm} {x : Nm} : indexOf xs x < 0 ↔ x ∉ xs := by
  unfold indexOf
  cases e : xs.idxOf? x with
  | none => simp [List.idxOf?_eq_none_iff.1 e]
  | some k =>
    have : xs.idxOf? x ≠ none := by rw [e]; simp
    rw [ne_eq, List.idxOf?_eq_none_iff] at this
    simp only [this, not_true, iff_false]
    omega

def want4 (order : List Nm) (w k : Nat) : Nat := if ∀ i (h : i < order.length), i < k → ¬ (indexOf order order[i] < (i : Int)) then w else 9

theorem want4_succ {order : List Nm} {w k : Nat} (h : k < order.length) : want4 order w (k + 1) = if indexOf order order[k] < (k : Int) then 9 else want4 order w k := by
  unfold want4
  by_cases q : indexOf order order[k] < (k : Int)
  · rw [if_pos q, if_neg]
    intro z
    exact z k h (by omega) q
  · rw [if_neg q]
    congr 1
    apply propext
    constructor
    · intro z i hi hk; exact z i hi (by omega)
    · intro z i hi hk
      rcases Nat.lt_or_ge i k with r | r
      · exact z i hi r
      · have : i = k := by omega
        subst this; exact q

theorem want4_all {order : List Nm} {w : Nat} : want4 order w order.length = want3 order w := by
  unfold want4 want3
  congr 1
  apply propext
  constructor
  · intro z
    unfold List.Nodup
    rw [List.pairwise_iff_getElem]
    intro i j hi hj hij he
    · revert he
      intro he
      refine z j hj hj ?_
      have hm : order[j] ∈ order := List.getElem_mem hj
      unfold indexOf
      cases e : order.idxOf? order[j] with
      | none => simp; omega
      | some k =>
        rw [List.idxOf?, List.findIdx?_eq_some_iff_getElem] at e
        obtain ⟨hk, h1, h2⟩ := e
        have : k ≤ i := by
          rcases Nat.lt_or_ge i k with r | r
          · have := h2 i r
            simp [he] at this
          · exact r
        simp only
        omega
  · intro z i hi _ q
    unfold indexOf at q
    cases e : order.idxOf? order[i] with
    | none =>
      rw [List.idxOf?_eq_none_iff] at e
      exact e (List.getElem_mem hi)
    | some k =>
      rw [e] at q
      simp only at q
      rw [List.idxOf?, List.findIdx?_eq_some_iff_getElem] at e
      obtain ⟨hk, h1, h2⟩ := e
      unfold List.Nodup at z
      rw [List.pairwise_iff_getElem] at z
      exact z k i hk hi (by omega) (by simpa using h1)

set_option maxHeartbeats 4000000 in
theorem law_runs {H : Heap} {v w : Value} {xs : List Seen} {order : List Nm} (h : Sl H 3 v (seens xs)) (hsm : ∀ s ∈ xs, s.k < 256 ∧ s.u < 256 ∧ s.l < 256) (hxl : xs.length < 2 ^ 60) (ho : Sl H 1 w (strs order)) (hol : order.length < 2 ^ 60) :
    ∃ r H1, big tab 8 [v, w] H = some (r, H1) ∧ (r = .bool true ∨ (xs.length ≤ 8 ∧ r = .bool (lawKeeps (xs.map mk) order))) := by
  have hs0 := h
  have ho0 := ho
  obtain ⟨a, c, rfl, hc, hcs⟩ := h
  obtain ⟨oa, oc, rfl, hoc, hocs⟩ := ho
  simp only [seens_len, strs_len] at *
  refine big_of_runs rfl rfl rfl ?_
  obtain ⟨z, hz⟩ := startC_mkS Try.f8 [.slice a xs.length c, .slice oa order.length oc]
  rw [show startC (8, Try.f8).snd [Value.slice a xs.length c, .slice oa order.length oc] = _ from hz]
  clear hz
  refine Runs.seq (Runs.region ?_)
  repeat refine Rg.opp rfl rfl rfl rfl rfl ?_
  refine Rg.nil ?_
  have early : ∀ a0 : Nat → Value, Runs tab (.seq (.region 2 #[]  false) .ret) (mkS 139 a0 []) H (fun _ _ => True) (fun _ _ _ => True) (fun _ _ => True) := fun a0 => Runs.seq (Runs.region (Rg.nil (Runs.ret trivial)))
  clear early
  by_cases h8 : xs.length ≤ 8
  · by_cases h9 : order.length ≤ 8
    · refine Runs.seq (Runs.seq (Runs.region ?_))
      refine Rg.calls rfl rfl rfl rfl rfl rfl (known_is _) ?_
      refine Rg.opp rfl rfl rfl rfl rfl ?_
      refine Rg.opp rfl rfl rfl rfl rfl ?_
      refine Rg.guards true rfl rfl rfl (fun _ => ⟨_, _, evW_op rfl, rfl, ?_⟩) (fun h => by cases h)
      refine Rg.guards true rfl rfl rfl (fun _ => ⟨_, _, evW_call rfl rfl (fits_runs _ _ _), rfl, ?_⟩) (fun h => by cases h)
      rw [show decide ((xs.length : Int) ≤ 8) = true from decide_eq_true (by omega)]
      refine Rg.guards true rfl rfl rfl (fun _ => ⟨_, _, evW_op rfl, rfl, ?_⟩) (fun h => by cases h)
      refine Rg.opp rfl rfl rfl rfl rfl ?_
      refine Rg.opp rfl rfl rfl rfl rfl ?_
      refine Rg.guards true rfl rfl rfl (fun _ => ⟨_, _, evW_op rfl, rfl, ?_⟩) (fun h => by cases h)
      refine Rg.guards true rfl rfl rfl (fun _ => ⟨_, _, evW_op rfl, rfl, ?_⟩) (fun h => by cases h)
      refine Rg.guards true rfl rfl rfl (fun _ => ⟨_, _, evW_op (ev_gt false rfl rfl (decide_eq_false (by omega))), rfl, ?_⟩) (fun h => by cases h)
      refine Rg.opp rfl rfl rfl rfl rfl ?_
      refine Rg.nil ?_
      refine Runs.cond false rfl (fun h => by cases h) (fun _ => ?_)
      refine Runs.skip ?_
      refine Runs.cut (n := 139) (l := [(0, .slice a xs.length c), (1, .slice oa order.length oc)]) (Is.of ⟨rfl, rfl, rfl, rfl, trivial⟩) (fun a1 => ?_)
      -- no long names, or true
      refine Runs.seq (Runs.seq (Runs.region ?_))
      repeat refine Rg.opp rfl rfl rfl rfl rfl ?_
      refine Rg.nil ?_
      refine Runs.block ?_
      refine Runs.loop (fun m s H1 => H = H1 ∧ ∃ k, k ≤ order.length ∧ m = order.length - k ∧ Is s 139 [(0, .slice a xs.length c), (1, .slice oa order.length oc), (5, nat k)]) _ ⟨rfl, 0, Nat.zero_le _, rfl, Is.of ⟨rfl, rfl, rfl, rfl, rfl, rfl, trivial⟩⟩ ?_
      rintro m s H1 ⟨hH1, k, hk, rfl, hs⟩
      subst hH1
      obtain ⟨a2, rfl⟩ := hs.mk1
      clear hs
      by_cases hlt : k < order.length
      · refine Runs.seq (Runs.seq (Runs.region ?_))
        refine Rg.opp rfl rfl rfl rfl rfl ?_
        refine Rg.opp rfl rfl rfl rfl rfl ?_
        refine Rg.opp rfl rfl rfl rfl rfl ?_
        refine Rg.opp rfl rfl rfl (ev_lt true rfl rfl (by simp; omega)) rfl ?_
        refine Rg.nil ?_
        refine Runs.cond true rfl (fun _ => ?_) (fun h => by cases h)
        refine Runs.skip ?_
        obtain ⟨b, o, rfl, hsz, hr⟩ := hocs.lt (i := k) (by rw [strs_len]; exact hlt)
        have hrk := hr k _ (strs_get hlt)
        refine Runs.seq (Runs.block ?_)
        refine Runs.seq (Runs.region ?_)
        refine Rg.opp rfl rfl rfl rfl rfl ?_
        refine Rg.opp rfl rfl rfl rfl rfl ?_
        refine Rg.opp rfl rfl rfl (ev_at rfl rfl rfl rfl (by decide) hlt) rfl ?_
        refine Rg.opp rfl rfl rfl (ev_load1 rfl rfl hrk rfl) rfl ?_
        refine Rg.opp rfl rfl rfl rfl rfl ?_
        refine Rg.opp rfl rfl rfl (ev_gt _ rfl rfl rfl) rfl ?_
        refine Rg.nil ?_
        refine Runs.cond _ rfl (fun _ => ?_) (fun _ => ?_)
        · refine Runs.seq (Runs.region ?_)
          repeat refine Rg.opp rfl rfl rfl rfl rfl ?_
          refine Rg.nil ?_
          exact Runs.ret ⟨_, rfl, .inl rfl⟩
        · refine Runs.skip ?_
          refine Runs.region ?_
          refine Rg.opp rfl rfl rfl rfl rfl ?_
          refine Rg.opp rfl rfl rfl (ev_addn (b := 1) rfl rfl (by omega)) rfl ?_
          refine Rg.opp rfl rfl rfl rfl rfl ?_
          refine Rg.nil ?_
          exact ⟨order.length - (k + 1), by omega, rfl, k + 1, hlt, rfl, Is.of ⟨rfl, rfl, rfl, rfl, rfl, rfl, trivial⟩⟩
      · refine Runs.seq (Runs.seq (Runs.region ?_))
        refine Rg.opp rfl rfl rfl rfl rfl ?_
        refine Rg.opp rfl rfl rfl rfl rfl ?_
        refine Rg.opp rfl rfl rfl rfl rfl ?_
        refine Rg.opp rfl rfl rfl (ev_lt false rfl rfl (by simp; omega)) rfl ?_
        refine Rg.nil ?_
        refine Runs.cond false rfl (fun h => by cases h) (fun _ => ?_)
        refine Runs.exit ?_
        -- Make, Keeps, units
        obtain ⟨lv, H2, hmk, he2, p, hacc⟩ := make_runs hs0 hsm hxl
        rw [List.take_of_length_le h8] at hacc
        have hsl := hacc.sl (by rw [rels_len]; simp [unk]; omega)
        have hg : ∀ r ∈ xs.map mk, Good r := by
          intro r hr
          obtain ⟨s, _, rfl⟩ := List.mem_map.1 hr
          exact fun K => check_good s K
        have hul : (unitsP (xs.map mk)).length ≤ 60 := by
          have h1 := Lib.compact_length_le (sortNm (allNames (xs.map mk)))
          rw [List.length_mergeSort, allNames_len, List.length_map] at h1
          unfold unitsP; omega
        obtain ⟨kv, H3, hkp, rfl, he3⟩ := keepsP_runs hsl (ho0.sees he2.sees) (by simp; omega) (by omega) hg hul
        obtain ⟨uv, H4, hun, he4, pu, haccu⟩ := lawUnits_runs (hsl.sees he3.sees) (by simp; omega)
        have husl := haccu.sl (by rw [strs_len]; have := foldl_len (allNames (xs.map mk)) []; rw [allNames_len, List.length_map] at this; simp [unitsL, unk] at *; omega)
        have hos4 := hocs.sees (he2.trans (he3.trans he4)).sees
        have hl4 := hsl.sees (he3.trans he4).sees
        obtain ⟨la, lc, rfl, hlc, hlcs⟩ := hl4
        obtain ⟨ua, uc, rfl, huc, hucs⟩ := husl
        rw [rels_len, strs_len] at *
        refine Runs.seq (Runs.region ?_)
        refine Rg.opp rfl rfl rfl rfl rfl ?_
        refine Rg.calls rfl rfl rfl rfl rfl rfl hmk ?_
        refine Rg.opp rfl rfl rfl rfl rfl ?_
        refine Rg.nil ?_
        refine Runs.seq (Runs.region ?_)
        refine Rg.opp rfl rfl rfl rfl rfl ?_
        refine Rg.opp rfl rfl rfl rfl rfl ?_
        refine Rg.calls rfl rfl rfl rfl rfl rfl hkp ?_
        unfold triple
        refine Rg.opp rfl rfl rfl rfl rfl ?_
        refine Rg.opp rfl rfl rfl rfl rfl ?_
        refine Rg.opp rfl rfl rfl rfl rfl ?_
        refine Rg.opp rfl rfl rfl rfl rfl ?_
        refine Rg.opp rfl rfl rfl rfl rfl ?_
        refine Rg.opp rfl rfl rfl rfl rfl ?_
        refine Rg.opp rfl rfl rfl rfl rfl ?_
        refine Rg.nil ?_
        refine Runs.seq (Runs.region ?_)
        refine Rg.opp rfl rfl rfl rfl rfl ?_
        refine Rg.nil ?_
        refine Runs.seq (Runs.region ?_)
        refine Rg.opp rfl rfl rfl rfl rfl ?_
        refine Rg.calls rfl rfl rfl rfl rfl rfl hun ?_
        refine Rg.opp rfl rfl rfl rfl rfl ?_
        refine Rg.nil ?_
        have hfin : ∀ r : Value, r = .bool (lawKeeps (xs.map mk) order) → r = .bool true ∨ xs.length ≤ 8 ∧ r = .bool (lawKeeps (xs.map mk) order) := fun r h => .inr ⟨h8, h⟩
        have hlaw : (if want3 order (want2 (unitsL (xs.map mk)) order) ≠ 0 then decide ((keepsP (xs.map mk) order).1 = 0) && (!(keepsP (xs.map mk) order).2.1) && decide ((keepsP (xs.map mk) order).2.2 = want3 order (want2 (unitsL (xs.map mk)) order))
          else match (xs.map mk).findIdx? (lawArc order) with
            | some i => decide ((keepsP (xs.map mk) order).2.2 = 0) && decide ((keepsP (xs.map mk) order).1 = i) && !(keepsP (xs.map mk) order).2.1
            | none => decide ((keepsP (xs.map mk) order).2.2 = 0) && decide ((keepsP (xs.map mk) order).1 = 0) && (keepsP (xs.map mk) order).2.1) = lawKeeps (xs.map mk) order := rfl
        generalize hf : (keepsP (xs.map mk) order).1 = f at hlaw
        generalize hal : (keepsP (xs.map mk) order).2.1 = al at hlaw
        generalize hee : (keepsP (xs.map mk) order).2.2 = e at hlaw
        refine Runs.cut (n := 139) (l := [(1, .slice oa order.length oc), (6, .slice la (xs.map mk).length lc), (7, nat f), (8, .bool al), (9, nat e), (10, nat 0), (11, .slice ua (unitsL (xs.map mk)).length uc)]) (Is.of ⟨rfl, rfl, rfl, rfl, rfl, rfl, rfl, rfl, rfl, rfl, rfl, rfl, rfl, rfl, trivial⟩) (fun a3 => ?_)
        have hosl : Sl H4 1 (.slice oa order.length oc) (strs order) := ⟨_, _, by rw [strs_len], by rw [strs_len]; exact hoc, hos4⟩
        have hUl : (unitsL (xs.map mk)).length ≤ 16 := by
          have := foldl_len (allNames (xs.map mk)) []
          rw [allNames_len, List.length_map] at this
          simp only [unitsL, List.length_nil] at *
          omega
        generalize hU : unitsL (xs.map mk) = U at *
        -- the units
        refine Runs.seq (Runs.seq (Runs.region ?_))
        refine Rg.opp rfl rfl rfl rfl rfl ?_
        refine Rg.nil ?_
        refine Runs.block ?_
        refine Runs.loop (fun m s H5 => H4 = H5 ∧ ∃ k, k ≤ U.length ∧ m = U.length - k ∧ Is s 139 [(1, .slice oa order.length oc), (6, .slice la (xs.map mk).length lc), (7, nat f), (8, .bool al), (9, nat e), (10, nat (want2 (U.take k) order)), (11, .slice ua U.length uc), (12, nat k)]) _ ⟨rfl, 0, Nat.zero_le _, rfl, Is.of ⟨rfl, rfl, rfl, rfl, rfl, rfl, rfl, rfl, rfl, rfl, rfl, rfl, rfl, rfl, rfl, rfl, trivial⟩⟩ ?_
        rintro m s H5 ⟨hH5, k2, hk2, rfl, hs⟩
        subst hH5
        obtain ⟨a4, rfl⟩ := hs.mk1
        clear hs
        by_cases hlt2 : k2 < U.length
        · refine Runs.seq (Runs.seq (Runs.region ?_))
          refine Rg.opp rfl rfl rfl rfl rfl ?_
          refine Rg.opp rfl rfl rfl rfl rfl ?_
          refine Rg.opp rfl rfl rfl rfl rfl ?_
          refine Rg.opp rfl rfl rfl (ev_lt true rfl rfl (by simp; omega)) rfl ?_
          refine Rg.nil ?_
          refine Runs.cond true rfl (fun _ => ?_) (fun h => by cases h)
          refine Runs.skip ?_
          obtain ⟨b, o, rfl, hsz, hr⟩ := hucs.lt (i := k2) (by rw [strs_len]; exact hlt2)
          have hrk := hr k2 _ (strs_get hlt2)
          have hw : want2 (U.take (k2 + 1)) order = if U[k2] ∉ order then 10 else want2 (U.take k2) order := by
            rw [← List.take_append_getElem hlt2, want2_snoc]
          refine Runs.seq (Runs.block ?_)
          refine Runs.seq (Runs.region ?_)
          refine Rg.opp rfl rfl rfl rfl rfl ?_
          refine Rg.opp rfl rfl rfl rfl rfl ?_
          refine Rg.opp rfl rfl rfl rfl rfl ?_
          refine Rg.opp rfl rfl rfl (ev_at rfl rfl rfl rfl (by decide) hlt2) rfl ?_
          refine Rg.opp rfl rfl rfl (ev_load1 rfl rfl hrk rfl) rfl ?_
          refine Rg.calls rfl rfl rfl rfl rfl rfl (index_runs U[k2] hosl (by omega)) ?_
          refine Rg.opp rfl rfl rfl (ev_lt (decide (U[k2] ∉ order)) rfl rfl (by simp [indexOf_neg])) rfl ?_
          refine Rg.nil ?_
          refine Runs.cond (decide (U[k2] ∉ order)) rfl (fun q => ?_) (fun q => ?_)
          · refine Runs.region ?_
            refine Rg.opp rfl rfl rfl rfl rfl ?_
            refine Rg.nil ?_
            refine Runs.region ?_
            refine Rg.opp rfl rfl rfl rfl rfl ?_
            refine Rg.opp rfl rfl rfl (ev_addn (b := 1) rfl rfl (by omega)) rfl ?_
            refine Rg.opp rfl rfl rfl rfl rfl ?_
            refine Rg.nil ?_
            refine ⟨U.length - (k2 + 1), by omega, rfl, k2 + 1, hlt2, rfl, Is.of ⟨rfl, rfl, rfl, rfl, rfl, rfl, rfl, rfl, rfl, rfl, rfl, ?_, rfl, rfl, rfl, rfl, trivial⟩⟩
            show nat 10 = _
            rw [hw, if_pos (of_decide_eq_true q)]
          · refine Runs.skip ?_
            refine Runs.region ?_
            refine Rg.opp rfl rfl rfl rfl rfl ?_
            refine Rg.opp rfl rfl rfl (ev_addn (b := 1) rfl rfl (by omega)) rfl ?_
            refine Rg.opp rfl rfl rfl rfl rfl ?_
            refine Rg.nil ?_
            refine ⟨U.length - (k2 + 1), by omega, rfl, k2 + 1, hlt2, rfl, Is.of ⟨rfl, rfl, rfl, rfl, rfl, rfl, rfl, rfl, rfl, rfl, rfl, ?_, rfl, rfl, rfl, rfl, trivial⟩⟩
            show nat (want2 (U.take k2) order) = _
            rw [hw, if_neg (of_decide_eq_false q)]
        · refine Runs.seq (Runs.seq (Runs.region ?_))
          refine Rg.opp rfl rfl rfl rfl rfl ?_
          refine Rg.opp rfl rfl rfl rfl rfl ?_
          refine Rg.opp rfl rfl rfl rfl rfl ?_
          refine Rg.opp rfl rfl rfl (ev_lt false rfl rfl (by simp; omega)) rfl ?_
          refine Rg.nil ?_
          refine Runs.cond false rfl (fun h => by cases h) (fun _ => ?_)
          refine Runs.exit ?_
          have hkU : k2 = U.length := by omega
          subst hkU
          rw [List.take_of_length_le (Nat.le_refl _)]
          generalize hw2 : want2 U order = w2 at *
          refine Runs.cut (n := 139) (l := [(1, .slice oa order.length oc), (6, .slice la (xs.map mk).length lc), (7, nat f), (8, .bool al), (9, nat e), (10, nat w2)]) (Is.of ⟨rfl, rfl, rfl, rfl, rfl, rfl, rfl, rfl, rfl, rfl, rfl, rfl, trivial⟩) (fun a5 => ?_)
          refine Runs.seq (Runs.seq (Runs.region ?_))
          refine Rg.opp rfl rfl rfl rfl rfl ?_
          refine Rg.nil ?_
          refine Runs.block ?_
          refine Runs.loop (fun m s H5 => H4 = H5 ∧ ∃ k, k ≤ order.length ∧ m = order.length - k ∧ Is s 139 [(1, .slice oa order.length oc), (6, .slice la (xs.map mk).length lc), (7, nat f), (8, .bool al), (9, nat e), (10, nat (want4 order w2 k)), (13, nat k)]) _ ⟨rfl, 0, Nat.zero_le _, rfl, Is.of ⟨rfl, rfl, rfl, rfl, rfl, rfl, rfl, rfl, rfl, rfl, rfl, (by show nat w2 = nat (want4 order w2 0); rw [want4, if_pos (by intro i h z; omega)]), rfl, rfl, trivial⟩⟩ ?_
          rintro m s H5 ⟨hH5, k3, hk3, rfl, hs⟩
          subst hH5
          obtain ⟨a6, rfl⟩ := hs.mk1
          clear hs
          by_cases hlt3 : k3 < order.length
          · refine Runs.seq (Runs.seq (Runs.region ?_))
            refine Rg.opp rfl rfl rfl rfl rfl ?_
            refine Rg.opp rfl rfl rfl rfl rfl ?_
            refine Rg.opp rfl rfl rfl rfl rfl ?_
            refine Rg.opp rfl rfl rfl (ev_lt true rfl rfl (by simp; omega)) rfl ?_
            refine Rg.nil ?_
            refine Runs.cond true rfl (fun _ => ?_) (fun h => by cases h)
            refine Runs.skip ?_
            obtain ⟨b, o, rfl, hsz, hr⟩ := hos4.lt (i := k3) (by rw [strs_len]; exact hlt3)
            have hrk := hr k3 _ (strs_get hlt3)
            refine Runs.seq (Runs.block ?_)
            refine Runs.seq (Runs.region ?_)
            refine Rg.opp rfl rfl rfl rfl rfl ?_
            refine Rg.opp rfl rfl rfl rfl rfl ?_
            refine Rg.opp rfl rfl rfl rfl rfl ?_
            refine Rg.opp rfl rfl rfl (ev_at rfl rfl rfl rfl (by decide) hlt3) rfl ?_
            refine Rg.opp rfl rfl rfl (ev_load1 rfl rfl hrk rfl) rfl ?_
            refine Rg.calls rfl rfl rfl rfl rfl rfl (index_runs order[k3] hosl (by omega)) ?_
            refine Rg.opp rfl rfl rfl rfl rfl ?_
            refine Rg.opp rfl rfl rfl (ev_lt (decide (indexOf order order[k3] < (k3 : Int))) rfl rfl rfl) rfl ?_
            refine Rg.nil ?_
            refine Runs.cond (decide (indexOf order order[k3] < (k3 : Int))) rfl (fun q => ?_) (fun q => ?_)
            · refine Runs.region ?_
              refine Rg.opp rfl rfl rfl rfl rfl ?_
              refine Rg.nil ?_
              refine Runs.region ?_
              refine Rg.opp rfl rfl rfl rfl rfl ?_
              refine Rg.opp rfl rfl rfl (ev_addn (b := 1) rfl rfl (by omega)) rfl ?_
              refine Rg.opp rfl rfl rfl rfl rfl ?_
              refine Rg.nil ?_
              refine ⟨order.length - (k3 + 1), by omega, rfl, k3 + 1, hlt3, rfl, Is.of ⟨rfl, rfl, rfl, rfl, rfl, rfl, rfl, rfl, rfl, rfl, rfl, ?_, rfl, rfl, trivial⟩⟩
              show nat 9 = _
              rw [want4_succ hlt3, if_pos (of_decide_eq_true q)]
            · refine Runs.skip ?_
              refine Runs.region ?_
              refine Rg.opp rfl rfl rfl rfl rfl ?_
              refine Rg.opp rfl rfl rfl (ev_addn (b := 1) rfl rfl (by omega)) rfl ?_
              refine Rg.opp rfl rfl rfl rfl rfl ?_
              refine Rg.nil ?_
              refine ⟨order.length - (k3 + 1), by omega, rfl, k3 + 1, hlt3, rfl, Is.of ⟨rfl, rfl, rfl, rfl, rfl, rfl, rfl, rfl, rfl, rfl, rfl, ?_, rfl, rfl, trivial⟩⟩
              show nat (want4 order w2 k3) = _
              rw [want4_succ hlt3, if_neg (of_decide_eq_false q)]
          · refine Runs.seq (Runs.seq (Runs.region ?_))
            refine Rg.opp rfl rfl rfl rfl rfl ?_
            refine Rg.opp rfl rfl rfl rfl rfl ?_
            refine Rg.opp rfl rfl rfl rfl rfl ?_
            refine Rg.opp rfl rfl rfl (ev_lt false rfl rfl (by simp; omega)) rfl ?_
            refine Rg.nil ?_
            refine Runs.cond false rfl (fun h => by cases h) (fun _ => ?_)
            refine Runs.exit ?_
            have hko : k3 = order.length := by omega
            subst hko
            rw [want4_all]
            generalize hW : want3 order w2 = W at *
            refine Runs.cut (n := 139) (l := [(1, .slice oa order.length oc), (6, .slice la (xs.map mk).length lc), (7, nat f), (8, .bool al), (9, nat e), (10, nat W)]) (Is.of ⟨rfl, rfl, rfl, rfl, rfl, rfl, rfl, rfl, rfl, rfl, rfl, rfl, trivial⟩) (fun a7 => ?_)
            refine Runs.seq (Runs.seq (Runs.region ?_))
            refine Rg.opp rfl rfl rfl rfl rfl ?_
            by_cases hW0 : W = 0
            · refine Rg.opp rfl rfl rfl (ev_ne false rfl rfl (decide_eq_false (by omega))) rfl ?_
              refine Rg.nil ?_
              refine Runs.cond false rfl (fun h => by cases h) (fun _ => ?_)
              refine Runs.skip ?_
              rw [if_neg (by simp [hW0])] at hlaw
              refine Runs.cut (n := 139) (l := [(1, .slice oa order.length oc), (6, .slice la (xs.map mk).length lc), (7, nat f), (8, .bool al), (9, nat e)]) (Is.of ⟨rfl, rfl, rfl, rfl, rfl, rfl, rfl, rfl, rfl, rfl, trivial⟩) (fun a8 => ?_)
              exact Runs.mono (law_end hosl (by omega) hlcs (by simpa using h8) hlaw a8) (fun s1 H1 h => by obtain ⟨v, h1, h2⟩ := h; exact ⟨v, h1, hfin v h2⟩) (fun _ _ _ h => h.elim) (fun s1 H1 h => by obtain ⟨v, h1, h2⟩ := h; exact ⟨v, h1, hfin v h2⟩)
            · refine Rg.opp rfl rfl rfl (ev_ne true rfl rfl (decide_eq_true (by omega))) rfl ?_
              refine Rg.nil ?_
              refine Runs.cond true rfl (fun _ => ?_) (fun h => by cases h)
              rw [if_pos hW0] at hlaw
              refine Runs.seq (Runs.region ?_)
              refine Rg.opp rfl rfl rfl rfl rfl ?_
              by_cases hf0 : f = 0
              · refine Rg.opp rfl rfl rfl (ev_eq true rfl rfl (decide_eq_true (by omega))) rfl ?_
                refine Rg.opp rfl rfl rfl rfl rfl ?_
                refine Rg.guards true rfl rfl rfl (fun _ => ⟨_, _, evW_op rfl, rfl, ?_⟩) (fun h => by cases h)
                refine Rg.guards true rfl rfl rfl (fun _ => ⟨_, _, evW_op rfl, rfl, ?_⟩) (fun h => by cases h)
                refine Rg.opp rfl rfl rfl rfl rfl ?_
                refine Rg.opp rfl rfl rfl rfl rfl ?_
                cases al with
                | true =>
                  refine Rg.guards false rfl rfl rfl (fun h => by cases h) (fun _ => ?_)
                  refine Rg.guards false rfl rfl rfl (fun h => by cases h) (fun _ => ?_)
                  refine Rg.guards false rfl rfl rfl (fun h => by cases h) (fun _ => ?_)
                  refine Rg.opp rfl rfl rfl rfl rfl ?_
                  refine Rg.opp rfl rfl rfl rfl rfl ?_
                  refine Rg.nil ?_
                  refine Runs.ret ⟨_, rfl, hfin _ ?_⟩
                  rw [← hlaw]
                  simp
                  rfl
                | false =>
                  refine Rg.guards true rfl rfl rfl (fun _ => ⟨_, _, evW_op rfl, rfl, ?_⟩) (fun h => by cases h)
                  refine Rg.guards true rfl rfl rfl (fun _ => ⟨_, _, evW_op rfl, rfl, ?_⟩) (fun h => by cases h)
                  refine Rg.guards true rfl rfl rfl (fun _ => ⟨_, _, evW_op (ev_eq (decide (e = W)) rfl rfl (decide_eq_decide.2 (by omega))), rfl, ?_⟩) (fun h => by cases h)
                  refine Rg.opp rfl rfl rfl rfl rfl ?_
                  refine Rg.opp rfl rfl rfl rfl rfl ?_
                  refine Rg.nil ?_
                  refine Runs.ret ⟨_, rfl, hfin _ ?_⟩
                  rw [← hlaw]
                  simp [hf0]
                  rfl
              · refine Rg.opp rfl rfl rfl (ev_eq false rfl rfl (decide_eq_false (by omega))) rfl ?_
                refine Rg.opp rfl rfl rfl rfl rfl ?_
                refine Rg.guards false rfl rfl rfl (fun h => by cases h) (fun _ => ?_)
                refine Rg.guards false rfl rfl rfl (fun h => by cases h) (fun _ => ?_)
                refine Rg.opp rfl rfl rfl rfl rfl ?_
                refine Rg.opp rfl rfl rfl rfl rfl ?_
                refine Rg.guards false rfl rfl rfl (fun h => by cases h) (fun _ => ?_)
                refine Rg.guards false rfl rfl rfl (fun h => by cases h) (fun _ => ?_)
                refine Rg.guards false rfl rfl rfl (fun h => by cases h) (fun _ => ?_)
                refine Rg.opp rfl rfl rfl rfl rfl ?_
                refine Rg.opp rfl rfl rfl rfl rfl ?_
                refine Rg.nil ?_
                refine Runs.ret ⟨_, rfl, hfin _ ?_⟩
                rw [← hlaw]
                simp [hf0]
                rfl
    · refine Runs.seq (Runs.seq (Runs.region ?_))
      refine Rg.calls rfl rfl rfl rfl rfl rfl (known_is _) ?_
      refine Rg.opp rfl rfl rfl rfl rfl ?_
      refine Rg.opp rfl rfl rfl rfl rfl ?_
      refine Rg.guards true rfl rfl rfl (fun _ => ⟨_, _, evW_op rfl, rfl, ?_⟩) (fun h => by cases h)
      refine Rg.guards true rfl rfl rfl (fun _ => ⟨_, _, evW_call rfl rfl (fits_runs _ _ _), rfl, ?_⟩) (fun h => by cases h)
      rw [show decide ((xs.length : Int) ≤ 8) = true from decide_eq_true (by omega)]
      refine Rg.guards true rfl rfl rfl (fun _ => ⟨_, _, evW_op rfl, rfl, ?_⟩) (fun h => by cases h)
      refine Rg.opp rfl rfl rfl rfl rfl ?_
      refine Rg.opp rfl rfl rfl rfl rfl ?_
      refine Rg.guards true rfl rfl rfl (fun _ => ⟨_, _, evW_op rfl, rfl, ?_⟩) (fun h => by cases h)
      refine Rg.guards true rfl rfl rfl (fun _ => ⟨_, _, evW_op rfl, rfl, ?_⟩) (fun h => by cases h)
      refine Rg.guards true rfl rfl rfl (fun _ => ⟨_, _, evW_op (ev_gt true rfl rfl (decide_eq_true (by omega))), rfl, ?_⟩) (fun h => by cases h)
      refine Rg.opp rfl rfl rfl rfl rfl ?_
      refine Rg.nil ?_
      refine Runs.cond true rfl (fun _ => ?_) (fun h => by cases h)
      refine Runs.seq (Runs.region ?_)
      refine Rg.calls rfl rfl rfl rfl rfl rfl (known_is _) ?_
      refine Rg.opp rfl rfl rfl rfl rfl ?_
      refine Rg.nil ?_
      exact Runs.ret ⟨_, rfl, .inl rfl⟩
  · refine Runs.seq (Runs.seq (Runs.region ?_))
    refine Rg.calls rfl rfl rfl rfl rfl rfl (known_is _) ?_
    refine Rg.opp rfl rfl rfl rfl rfl ?_
    refine Rg.opp rfl rfl rfl rfl rfl ?_
    refine Rg.guards true rfl rfl rfl (fun _ => ⟨_, _, evW_op rfl, rfl, ?_⟩) (fun h => by cases h)
    refine Rg.guards true rfl rfl rfl (fun _ => ⟨_, _, evW_call rfl rfl (fits_runs _ _ _), rfl, ?_⟩) (fun h => by cases h)
    rw [show decide ((xs.length : Int) ≤ 8) = false from decide_eq_false (by omega)]
    refine Rg.guards true rfl rfl rfl (fun _ => ⟨_, _, evW_op rfl, rfl, ?_⟩) (fun h => by cases h)
    refine Rg.opp rfl rfl rfl rfl rfl ?_
    refine Rg.opp rfl rfl rfl rfl rfl ?_
    refine Rg.guards false rfl rfl rfl (fun h => by cases h) (fun _ => ?_)
    refine Rg.guards false rfl rfl rfl (fun h => by cases h) (fun _ => ?_)
    refine Rg.guards false rfl rfl rfl (fun h => by cases h) (fun _ => ?_)
    refine Rg.opp rfl rfl rfl rfl rfl ?_
    refine Rg.nil ?_
    refine Runs.cond true rfl (fun _ => ?_) (fun h => by cases h)
    refine Runs.seq (Runs.region ?_)
    refine Rg.calls rfl rfl rfl rfl rfl rfl (known_is _) ?_
    refine Rg.opp rfl rfl rfl rfl rfl ?_
    refine Rg.nil ?_
    exact Runs.ret ⟨_, rfl, .inl rfl⟩

end Go.Proofs.Ytdhbclplondmjaa.C

end

section
/- The law's own order against the program's, in plain Lean. -/
set_option linter.unusedVariables false
set_option maxRecDepth 100000
namespace Go.Proofs.Ytdhbclplondmjaa.C
open Go.RowKit Go.Sort

theorem scanK_mem (out : List Nm) (x : Nm) : ∀ k, k ≤ out.length → ((scanK out x k).2 = true ↔ x ∈ out.take k)
  | 0, _ => by simp [scanK]
  | k + 1, h => by
    have hk : k < out.length := by omega
    have e : out.getD k [] = out[k] := by simp [List.getD, hk]
    simp only [scanK, Bool.or_eq_true, decide_eq_true_eq]
    rw [scanK_mem out x k (by omega), e, List.take_succ_eq_append_getElem hk, List.mem_append, List.mem_singleton]
    constructor
    · rintro (q | q)
      · exact .inl q
      · exact .inr q.symm
    · rintro (q | q)
      · exact .inl q
      · exact .inr q.symm

theorem mem_insL {out : List Nm} {x y : Nm} : y ∈ insL out x ↔ y ∈ out ∨ y = x := by
  unfold insL
  split
  · rename_i h
    have := (scanK_mem out x out.length (Nat.le_refl _)).1 h
    rw [List.take_length] at this
    constructor
    · exact .inl
    · rintro (q | rfl)
      · exact q
      · exact this
  · rw [List.mem_append, List.mem_append, List.mem_singleton]
    constructor
    · rintro ((q | q) | q)
      · exact .inl (List.mem_of_mem_take q)
      · exact .inr q
      · exact .inl (List.mem_of_mem_drop q)
    · rintro (q | q)
      · rw [← List.take_append_drop (scanK out x out.length).1 out, List.mem_append] at q
        rcases q with q | q
        · exact .inl (.inl q)
        · exact .inr q
      · exact .inl (.inr q)

theorem mem_foldl_insL : ∀ (l out : List Nm) (y : Nm), y ∈ l.foldl insL out ↔ y ∈ out ∨ y ∈ l
  | [], out, y => by simp
  | x :: l, out, y => by
    rw [List.foldl_cons, mem_foldl_insL l, mem_insL, List.mem_cons, or_assoc]

theorem mem_unitsL {l : List Rel} {y : Nm} : y ∈ unitsL l ↔ y ∈ allNames l := by
  unfold unitsL; rw [mem_foldl_insL]; simp

theorem mem_sortNm {l : List Nm} {y : Nm} : y ∈ sortNm l ↔ y ∈ l := List.mem_mergeSort

theorem idxOf_lt_of_mem {xs : List Nm} {x : Nm} (h : x ∈ xs) : ∃ k, xs.idxOf? x = some k := by
  cases e : xs.idxOf? x with
  | some k => exact ⟨k, rfl⟩
  | none => exact absurd h (List.idxOf?_eq_none_iff.1 e)

theorem idx_inj {xs : List Nm} {x y : Nm} (hx : x ∈ xs) (hy : y ∈ xs) (h : idx xs x = idx xs y) : x = y := by
  obtain ⟨a, ha⟩ := idxOf_lt_of_mem hx
  obtain ⟨b, hb⟩ := idxOf_lt_of_mem hy
  unfold idx at h
  rw [ha, hb] at h
  simp only [Option.getD_some] at h
  subst h
  rw [List.idxOf?, List.findIdx?_eq_some_iff_getElem] at ha hb
  obtain ⟨h1, h2, _⟩ := ha
  obtain ⟨_, h4, _⟩ := hb
  have e1 := beq_iff_eq.1 h2
  have e2 := beq_iff_eq.1 h4
  exact e1.symm.trans e2

theorem indexOf_mem {xs : List Nm} {x : Nm} (hx : x ∈ xs) : indexOf xs x = idx xs x := by
  obtain ⟨a, ha⟩ := idxOf_lt_of_mem hx
  simp [indexOf, idx, ha]

theorem nm_inj {a b : Nat} (ha : a < 6) (hb : b < 6) (h : nm a = nm b) : a = b := by
  have : ∀ a < 6, ∀ b < 6, nm a = nm b → a = b := by decide
  exact this a ha b hb h

theorem mk_ne (s : Seen) : (mk s).up ≠ (mk s).lo := by
  intro h
  have h1 : mkA s < 6 := by unfold mkA; omega
  have h2 : mkB s < 6 := by unfold mkB; split <;> omega
  have := nm_inj h1 h2 h
  revert this
  unfold mkA mkB
  split <;> omega

theorem findIdx?_same {α : Type} {p q : α → Bool} : ∀ (l : List α), (∀ x ∈ l, p x = q x) → l.findIdx? p = l.findIdx? q
  | [], _ => rfl
  | x :: l, h => by
    rw [List.findIdx?_cons, List.findIdx?_cons, h x (by simp), findIdx?_same l fun y hy => h y (by simp [hy])]

theorem mem_names_up {l : List Rel} {r : Rel} (h : r ∈ l) : r.up ∈ allNames l := List.mem_flatMap.2 ⟨r, h, by simp⟩
theorem mem_names_lo {l : List Rel} {r : Rel} (h : r ∈ l) : r.lo ∈ allNames l := List.mem_flatMap.2 ⟨r, h, by simp⟩

theorem law_plain (l : List Rel) (order : List Nm) (hne : ∀ r ∈ l, r.up ≠ r.lo) (hu : ∀ y, y ∈ unitsP l ↔ y ∈ allNames l) : lawKeeps l order = true := by
  have e1 : (∀ u ∈ unitsP l, u ∈ order) ↔ (∀ x ∈ unitsL l, x ∈ order) := by
    constructor
    · intro h x hx; exact h x ((hu x).2 (mem_unitsL.1 hx))
    · intro h x hx; exact h x (mem_unitsL.2 ((hu x).1 hx))
  by_cases hd : order.Nodup
  · by_cases hk : ∀ x ∈ unitsL l, x ∈ order
    · have hk' := e1.2 hk
      have e2 : l.findIdx? (badRel order) = l.findIdx? (lawArc order) := by
        refine findIdx?_same l fun r hr => ?_
        have m1 : r.up ∈ order := hk _ (mem_unitsL.2 (mem_names_up hr))
        have m2 : r.lo ∈ order := hk _ (mem_unitsL.2 (mem_names_lo hr))
        unfold badRel lawArc
        rw [indexOf_mem m1, indexOf_mem m2]
        congr 1
        have n : idx order r.up ≠ idx order r.lo := fun h => hne r hr (idx_inj m1 m2 h)
        apply decide_eq_decide.2
        omega
      have hw : want3 order (want2 (unitsL l) order) = 0 := by unfold want3 want2; rw [if_pos hd, if_pos hk]
      have hkp : keepsP l order = match l.findIdx? (lawArc order) with | some i => (i, false, 0) | none => (0, true, 0) := by
        unfold keepsP; rw [if_neg (fun h => h hd), if_neg (fun h => h hk'), e2]
        cases l.findIdx? (lawArc order) <;> rfl
      unfold lawKeeps
      rw [hw, hkp]
      cases l.findIdx? (lawArc order) <;> simp
    · have hk' : ¬ ∀ u ∈ unitsP l, u ∈ order := fun h => hk (e1.1 h)
      have hw : want3 order (want2 (unitsL l) order) = 10 := by unfold want3 want2; rw [if_pos hd, if_neg hk]
      have hkp : keepsP l order = (0, false, 10) := by
        unfold keepsP; rw [if_neg (fun h => h hd), if_pos hk']
      unfold lawKeeps
      rw [hw, hkp]; simp
  · have hw : want3 order (want2 (unitsL l) order) = 9 := by unfold want3; rw [if_neg hd]
    have hkp : keepsP l order = (0, false, 9) := by
      unfold keepsP; rw [if_pos hd]
    unfold lawKeeps
    rw [hw, hkp]; simp

theorem mem_compactUpTo (d : Array Nm) (y : Nm) : ∀ m, y ∈ Lib.compactUpTo d m ↔ ∃ j, j < m ∧ d[j]! = y
  | 0 => by simp [Lib.compactUpTo]
  | m + 1 => by
    rw [Lib.compactUpTo_succ, List.mem_append, mem_compactUpTo d y m]
    constructor
    · rintro (⟨j, h1, h2⟩ | h)
      · exact ⟨j, by omega, h2⟩
      · split at h
        · rw [List.mem_singleton] at h; exact ⟨m, by omega, h.symm⟩
        · cases h
    · rintro ⟨j, h1, h2⟩
      by_cases q : j < m
      · exact .inl ⟨j, q, h2⟩
      · have : j = m := by omega
        subst this
        by_cases hk : Lib.keeps d j = true
        · right; rw [if_pos hk, List.mem_singleton]; exact h2.symm
        · left
          have hk' : ¬ (j = 0 ∨ d[j]! ≠ d[j - 1]!) := by
            intro h; exact hk (by unfold Lib.keeps; exact decide_eq_true h)
          have h0 : j ≠ 0 := fun h => hk' (.inl h)
          have h3 : d[j]! = d[j - 1]! := by
            by_cases e : d[j]! = d[j - 1]!
            · exact e
            · exact absurd (.inr e) hk'
          exact ⟨j - 1, by omega, h3 ▸ h2⟩

theorem mem_compact {zs : List Nm} {y : Nm} : y ∈ Lib.compact zs ↔ y ∈ zs := by
  unfold Lib.compact
  rw [mem_compactUpTo, List.mem_iff_getElem]
  constructor
  · rintro ⟨j, h1, h2⟩
    exact ⟨j, h1, by simpa [h1] using h2⟩
  · rintro ⟨j, h1, h2⟩
    exact ⟨j, h1, by simpa [h1] using h2⟩

theorem mem_unitsP {l : List Rel} {y : Nm} : y ∈ unitsP l ↔ y ∈ allNames l := by
  unfold unitsP; rw [mem_compact, mem_sortNm]

theorem law_true (xs : List Seen) (order : List Nm) : lawKeeps (xs.map mk) order = true := by
  refine law_plain _ _ ?_ fun y => mem_unitsP
  intro r hr
  obtain ⟨s, _, rfl⟩ := List.mem_map.1 hr
  exact mk_ne s

end Go.Proofs.Ytdhbclplondmjaa.C

end

section
/- The two lists of units are one. -/
set_option linter.unusedVariables false
set_option linter.unusedSimpArgs false
namespace Go.Proofs.Ytdhbclplondmjaa.C
open Go.RowKit Go.Sort

theorem nlt_of {x y : Nm} (h : x ≤ y) (hne : x ≠ y) : x < y := by
  rcases Decidable.em (x < y) with q | q
  · exact q
  · exact absurd (List.le_antisymm h (List.not_lt.1 q)) hne

theorem strict_eq : ∀ {a b : List Nm}, a.Pairwise (· < ·) → b.Pairwise (· < ·) → (∀ x, x ∈ a ↔ x ∈ b) → a = b
  | [], [], _, _, _ => rfl
  | [], y :: b, _, _, h => absurd ((h y).2 List.mem_cons_self) (by simp)
  | x :: a, [], _, _, h => absurd ((h x).1 List.mem_cons_self) (by simp)
  | x :: a, y :: b, ha, hb, h => by
    rw [List.pairwise_cons] at ha hb
    have hxy : x = y := by
      rcases List.mem_cons.1 ((h x).1 List.mem_cons_self) with e | e
      · exact e
      · rcases List.mem_cons.1 ((h y).2 List.mem_cons_self) with e' | e'
        · exact e'.symm
        · exact absurd (List.lt_trans (hb.1 x e) (ha.1 y e')) (List.lt_irrefl _)
    subst hxy
    rw [strict_eq ha.2 hb.2 fun z => ?_]
    constructor
    · intro hz
      rcases List.mem_cons.1 ((h z).1 (List.mem_cons_of_mem _ hz)) with e | e
      · subst e; exact absurd (ha.1 z hz) (List.lt_irrefl _)
      · exact e
    · intro hz
      rcases List.mem_cons.1 ((h z).2 (List.mem_cons_of_mem _ hz)) with e | e
      · subst e; exact absurd (hb.1 z hz) (List.lt_irrefl _)
      · exact e

theorem strict_nodup {a : List Nm} (h : a.Pairwise (· < ·)) : a.Nodup := h.imp fun h e => absurd (e ▸ h) (List.lt_irrefl _)

theorem sortNm_sorted (l : List Nm) : (sortNm l).Pairwise (· ≤ ·) := by
  have := List.pairwise_mergeSort (le := fun x y : Nm => decide (x ≤ y)) (fun a b c h1 h2 => by simp only [decide_eq_true_eq] at *; exact List.le_trans h1 h2) (fun a b => by simp only [Bool.or_eq_true, decide_eq_true_eq]; exact List.le_total a b) l
  exact this.imp fun h => by simpa using h

theorem compact_strict {zs : List Nm} (h : zs.Pairwise (· ≤ ·)) : (Lib.compact zs).Pairwise (· < ·) := by
  have hget : ∀ i j, i ≤ j → j < zs.length → zs.toArray[i]! ≤ zs.toArray[j]! := by
    intro i j hij hj
    rcases Nat.eq_or_lt_of_le hij with rfl | q
    · exact List.le_refl _
    · have := List.pairwise_iff_getElem.1 h i j (by omega) hj q
      simpa [hj, show i < zs.length by omega] using this
  have key : ∀ m, m ≤ zs.length → (Lib.compactUpTo zs.toArray m).Pairwise (· < ·) ∧ ∀ y ∈ Lib.compactUpTo zs.toArray m, y ≤ zs.toArray[m - 1]! := by
    intro m
    induction m with
    | zero => intro _; simp [Lib.compactUpTo]
    | succ m ih =>
      intro hm
      obtain ⟨h1, h2⟩ := ih (by omega)
      rw [Lib.compactUpTo_succ]
      have hup : ∀ y ∈ Lib.compactUpTo zs.toArray m, y ≤ zs.toArray[m]! := fun y hy => List.le_trans (h2 y hy) (hget (m - 1) m (by omega) (by omega))
      by_cases hk : Lib.keeps zs.toArray m = true
      · rw [if_pos hk]
        refine ⟨List.pairwise_append.2 ⟨h1, by simp, fun y hy z hz => ?_⟩, fun y hy => ?_⟩
        · rw [List.mem_singleton] at hz
          subst hz
          rcases Nat.eq_zero_or_pos m with q | q
          · subst q; simp [Lib.compactUpTo] at hy
          · have hk' : m = 0 ∨ zs.toArray[m]! ≠ zs.toArray[m - 1]! := of_decide_eq_true hk
            have hne := hk'.resolve_left (by omega)
            have h3 := nlt_of (hget (m - 1) m (by omega) (by omega)) (fun e => hne e.symm)
            exact List.lt_of_le_of_lt (h2 y hy) h3
        · rcases List.mem_append.1 hy with q | q
          · exact hup y q
          · rw [List.mem_singleton] at q; subst q; exact List.le_refl _
      · rw [if_neg hk, List.append_nil]
        exact ⟨h1, hup⟩
  exact (key zs.length (Nat.le_refl _)).1

theorem unitsP_strict (l : List Rel) : (unitsP l).Pairwise (· < ·) := compact_strict (sortNm_sorted _)

theorem scan_at {out : List Nm} {x : Nm} (h : out.Pairwise (· < ·)) : ∀ k, k ≤ out.length → ∀ i (hi : i < out.length), i < k → (i < (scanK out x k).1 ↔ out[i] < x)
  | 0, _, i, _, h0 => by omega
  | k + 1, hk, i, hi, hik => by
    have hg : out.getD k [] = out[k]'(by omega) := by simp [List.getD_eq_getElem?_getD, show k < out.length by omega]
    unfold scanK
    simp only [hg, bytesLess_eq, decide_eq_true_eq]
    by_cases hb : out[k]'(by omega) < x
    · rw [if_pos hb]
      refine ⟨fun _ => ?_, fun _ => hik⟩
      rcases Nat.eq_or_lt_of_le (Nat.le_of_lt_succ hik) with e | e
      · subst e; exact hb
      · exact List.lt_trans (List.pairwise_iff_getElem.1 h i k hi (by omega) e) hb
    · rw [if_neg hb]
      rcases Nat.eq_or_lt_of_le (Nat.le_of_lt_succ hik) with e | e
      · subst e
        have := scanK_le out x i
        exact ⟨fun h => by omega, fun h => absurd h hb⟩
      · exact scan_at h k (by omega) i hi e

theorem insL_strict {out : List Nm} {x : Nm} (h : out.Pairwise (· < ·)) : (insL out x).Pairwise (· < ·) := by
  unfold insL
  by_cases hs : (scanK out x out.length).2 = true
  · rw [if_pos hs]; exact h
  · rw [if_neg hs]
    have hn : x ∉ out := fun hx => hs ((scanK_mem out x out.length (Nat.le_refl _)).2 (by rwa [List.take_length]))
    have hat := scan_at (x := x) h out.length (Nat.le_refl _)
    generalize (scanK out x out.length).1 = k at *
    have h1 : ∀ y ∈ out.take k, y < x := by
      intro y hy
      obtain ⟨i, hi, rfl⟩ := List.mem_iff_getElem.1 hy
      rw [List.length_take] at hi
      rw [List.getElem_take]
      exact (hat i (by omega) (by omega)).1 (by omega)
    have h2 : ∀ y ∈ out.drop k, x < y := by
      intro y hy
      obtain ⟨i, hi, rfl⟩ := List.mem_iff_getElem.1 hy
      rw [List.length_drop] at hi
      rw [List.getElem_drop]
      have hlt := (hat (k + i) (by omega) (by omega))
      have h3 : ¬ out[k + i]'(by omega) < x := fun z => by have := hlt.2 z; omega
      exact nlt_of (List.not_lt.1 h3) (fun e => hn (by rw [e]; exact List.getElem_mem _))
    rw [List.pairwise_append, List.pairwise_append]
    refine ⟨⟨h.sublist (List.take_sublist _ _), by simp, fun a ha b hb => by rw [List.mem_singleton] at hb; subst hb; exact h1 a ha⟩, h.sublist (List.drop_sublist _ _), fun a ha b hb => ?_⟩
    rcases List.mem_append.1 ha with q | q
    · exact List.lt_trans (h1 a q) (h2 b hb)
    · rw [List.mem_singleton] at q; subst q; exact h2 b hb

theorem unitsL_strict (l : List Rel) : (unitsL l).Pairwise (· < ·) := by
  unfold unitsL
  have key : ∀ (xs out : List Nm), out.Pairwise (· < ·) → (xs.foldl insL out).Pairwise (· < ·) := by
    intro xs
    induction xs with
    | nil => intro out h; exact h
    | cons x xs ih => intro out h; exact ih _ (insL_strict h)
  exact key _ _ List.Pairwise.nil

theorem units_eq (l : List Rel) : unitsP l = unitsL l := strict_eq (unitsP_strict l) (unitsL_strict l) fun x => by rw [mem_unitsP, mem_unitsL]

/-! ### Maps, things by the number -/

theorem Rg.mapset {H0 H : Heap} {L : List Th} {Q : St} {cal : CallF} {d : Bool} {ops : Array Oper} {i n : Nat} {is : List Nat} {a : Nat → Value} {l : List (Nat × Value)} {o : Oper} {m k v : Operand} {M j x : Nat} {xs : List Nm} {s : Nm}
    (hM : Mem H0 H L) (ho : ops[i]? = some o) (hg : o.guard = none) (ht : o.dst = none) (hop : o.op = .mapUpdate 74 m k v) (hj : L[j]? = some (.map M (mapE 0 xs))) (hm : ev (mkS n a l) m = .map (some M)) (hk : ev (mkS n a l) k = str s) (hv : ev (mkS n a l) v = nat x) (hn : s ∉ xs) (hi : x = xs.length)
    (k : ∀ H1, Mem H0 H1 (L.set j (.map M (mapE 0 (xs ++ [s])))) → Rg tab cal d ops is (mkS n a l) H1 Q) : Rg tab cal d ops (i :: is) (mkS n a l) H Q := by
  have hb := hM.get_map hj
  refine Rg.opn (v := undef) ho hg ht (by rw [hop]; exact ev_mapset hm hk hv hb hn hi) (by rw [hop]; simp [inPlace]) (k _ (hM.upd hj (fun x hx => hx) rfl rfl))

theorem ev_lookN {s : List Value} {H : Heap} {x k : Operand} {M : Nat} {xs : List Nm} {a : Nm} (hx : ev s x = .map (some M)) (hk : ev s k = str a) (h : H[M]? = some (.map (mapE 0 xs))) : opEval tab s H (.lookup 74 x k false) = some (nat (idx xs a), H) := by
  have := ev_look (x := x) (k := k) false hx hk h
  rw [if_neg (by decide), idx_val] at this
  exact this
theorem ev_lookT {s : List Value} {H : Heap} {x k : Operand} {M : Nat} {xs : List Nm} {a : Nm} (hx : ev s x = .map (some M)) (hk : ev s k = str a) (h : H[M]? = some (.map (mapE 0 xs))) : opEval tab s H (.lookup 74 x k true) = some (.tuple #[nat (idx xs a), .bool (decide (a ∈ xs))], H) := by
  have := ev_look (x := x) (k := k) true hx hk h
  rw [if_pos rfl, idx_val, idx_some] at this
  exact this
theorem ev_lookB {s : List Value} {H : Heap} {x k : Operand} {M : Nat} {xs : List Nm} {a : Nm} {p : Bool} (hp : decide (a ∈ xs) = p) (hx : ev s x = .map (some M)) (hk : ev s k = str a) (h : H[M]? = some (.map (mapE 0 xs))) : opEval tab s H (.lookup 74 x k true) = some (.tuple #[nat (idx xs a), .bool p], H) := by
  rw [← hp]; exact ev_lookT hx hk h
theorem nodup_take {xs : List Nm} (h : xs.Nodup) {k : Nat} (hk : k < xs.length) : xs[k] ∉ xs.take k := by
  intro hm
  obtain ⟨i, hi, e⟩ := List.mem_iff_getElem.1 hm
  rw [List.length_take] at hi
  rw [List.getElem_take] at e
  have := (List.pairwise_iff_getElem.1 h) i k (by omega) hk (by omega)
  exact this e

theorem Mem.addNil {H0 H : Heap} {L : List Th} (h : Mem H0 H L) (sz n : Nat) : Mem H0 H (L ++ List.replicate n (.sl sz (.slice none 0 0) [])) := by
  obtain ⟨he, S, hl, ho, hs⟩ := h
  refine ⟨he, S ++ List.replicate n none, by simp [hl], ho.none, fun j t e => ?_⟩
  rcases Nat.lt_or_ge j L.length with q | q
  · rw [List.getElem?_append_left q] at e
    obtain ⟨x, hx, ht⟩ := hs j t e
    exact ⟨x, by rw [List.getElem?_append_left (by omega)]; exact hx, ht⟩
  · rw [List.getElem?_append_right q, List.getElem?_replicate] at e
    split at e
    · rename_i hlt
      simp only [Option.some.injEq] at e
      subst e
      exact ⟨none, by rw [List.getElem?_append_right (by omega), hl, List.getElem?_replicate, if_pos hlt], by simp, by simp, .inl ⟨rfl, none, .inl rfl, rfl⟩⟩
    · simp at e

def NIL : Value := .slice none 0 0
/-- The lists of arcs under way. -/
def inner (nx : List Value) (n : Nat) (arcs : List Arc) : List Th := (List.range n).map fun i => .sl 3 (nx.getD i NIL) ((nextOf arcs i).map arcC)

theorem inner_start (n : Nat) : List.replicate n (Th.sl 3 (.slice none 0 0) []) = inner (List.replicate n (.slice none 0 0)) n [] := by
  refine List.ext_getElem (by simp [inner]) fun i h1 h2 => ?_
  have hi : i < n := by simpa using h1
  simp [inner, nextOf, NIL, List.getD_eq_getElem?_getD, List.getElem?_replicate, hi]
theorem inner_get {nx : List Value} {n i : Nat} {arcs : List Arc} (h : i < n) (hn : nx.length = n) : (inner nx n arcs)[i]? = some (.sl 3 (nx[i]'(by omega)) ((nextOf arcs i).map arcC)) := by
  have : nx.getD i NIL = nx[i]'(by omega) := by simp [List.getD_eq_getElem?_getD, show i < nx.length by omega]
  simp [inner, h, ← this]
theorem inner_set {nx : List Value} {n : Nat} {arcs : List Arc} {a : Arc} {u : Value} (h : a.lo < n) (hn : nx.length = n) : (inner nx n arcs).set a.lo (.sl 3 u ((nextOf arcs a.lo ++ [a]).map arcC)) = inner (nx.set a.lo u) n (arcs ++ [a]) := by
  refine List.ext_getElem (by simp [inner]) fun i h1 h2 => ?_
  have hi : i < n := by simpa [inner] using h2
  rw [List.getElem_set]
  by_cases e : a.lo = i
  · subst e
    simp [inner, nextOf, List.getD_eq_getElem?_getD, hn, h]
  · rw [if_neg e]
    simp [inner, nextOf, List.getD_eq_getElem?_getD, List.getElem?_set_ne e, e]

def arcsUp (l : List Rel) (k : Nat) : List Arc := ((l.take k).zipIdx.filter fun p => decide (p.1.kind ≠ 4)).map fun p => ⟨p.2, idx (unitsP l) p.1.lo, idx (unitsP l) p.1.up⟩
/-- The arcs of relations. -/
def arcsOf (l : List Rel) : List Arc := arcsUp l l.length

theorem arcsUp_succ {l : List Rel} {k : Nat} (h : k < l.length) : arcsUp l (k + 1) = if l[k].kind = 4 then arcsUp l k else arcsUp l k ++ [⟨k, idx (unitsP l) l[k].lo, idx (unitsP l) l[k].up⟩] := by
  unfold arcsUp
  rw [← List.take_append_getElem h, List.zipIdx_append, List.filter_append, List.map_append]
  by_cases e : l[k].kind = 4
  · simp [e]
  · simp [e, Nat.min_eq_left (Nat.le_of_lt h)]

theorem arcsUp_len (l : List Rel) (k : Nat) : (arcsUp l k).length ≤ l.length := by
  unfold arcsUp
  rw [List.length_map]
  refine Nat.le_trans (List.length_filter_le _ _) ?_
  simp only [List.length_zipIdx, List.length_take]
  omega

theorem idx_lt {xs : List Nm} {x : Nm} (h : x ∈ xs) : idx xs x < xs.length := by
  obtain ⟨k, hk⟩ := idxOf_lt_of_mem h
  unfold idx
  rw [hk]
  rw [List.idxOf?, List.findIdx?_eq_some_iff_getElem] at hk
  exact hk.1

theorem arcs_wf (l : List Rel) : WF (unitsP l).length (arcsOf l) := by
  constructor
  · intro a ha
    obtain ⟨p, hp, rfl⟩ := List.mem_map.1 ha
    have := (List.mem_filter.1 hp).1
    rw [List.take_length] at this
    exact idx_lt (mem_unitsP.2 (mem_names_lo (List.fst_mem_of_mem_zipIdx this)))
  · intro a ha
    obtain ⟨p, hp, rfl⟩ := List.mem_map.1 ha
    have := (List.mem_filter.1 hp).1
    rw [List.take_length] at this
    exact idx_lt (mem_unitsP.2 (mem_names_up (List.fst_mem_of_mem_zipIdx this)))

end Go.Proofs.Ytdhbclplondmjaa.C

end

section
/- Tables of numbers in the memory; one round of the law's 'reach', plain. -/
set_option linter.unusedVariables false
set_option linter.unusedSimpArgs false
namespace Go.Proofs.Ytdhbclplondmjaa.C
open Go.RowKit Go.Sort

/-- The first k rows of a table of n by n. -/
def mat (n : Nat) (m : Nat → Nat → Nat) (k : Nat) : List (List Nat) := (List.range n).map fun c => if c < k then (List.range n).map (m c) else []
theorem mat_len (n : Nat) (m : Nat → Nat → Nat) (k : Nat) : (mat n m k).length = n := by simp [mat]
def rowsT (nv : List Value) (ms : List (List Nat)) : List Th := List.zipWith (fun v m => .sl 1 v (m.map encN)) nv ms
theorem rowsT_len {nv : List Value} {n : Nat} {m : Nat → Nat → Nat} {k : Nat} (h : nv.length = n) : (rowsT nv (mat n m k)).length = n := by simp [rowsT, mat_len, h]

theorem rowsT_get {nv : List Value} {n c k : Nat} {m : Nat → Nat → Nat} (h : nv.length = n) (hc : c < n) (hk : c < k) : (rowsT nv (mat n m k))[c]? = some (.sl 1 (nv[c]'(by omega)) (((List.range n).map (m c)).map encN)) := by
  have h1 : nv[c]? = some (nv[c]'(by omega)) := by simp [show c < nv.length by omega]
  have h2 : (mat n m k)[c]? = some ((List.range n).map (m c)) := by simp [mat, hc, hk]
  simp only [rowsT, List.getElem?_zipWith, h1, h2]

def upd1 (m : Nat → Nat → Nat) (c b v : Nat) : Nat → Nat → Nat := fun c' b' => if c' = c ∧ b' = b then v else m c' b'

theorem row_set {n b v : Nat} {f : Nat → Nat} (hb : b < n) : ((List.range n).map f).set b v = (List.range n).map fun b' => if b' = b then v else f b' := by
  refine List.ext_getElem (by simp) fun i h1 h2 => ?_
  rw [List.getElem_set]
  by_cases e : b = i
  · subst e; simp
  · rw [if_neg e]; simp [show ¬ i = b from fun h => e h.symm]

theorem rowsT_sto {nv : List Value} {n c b v : Nat} {m : Nat → Nat → Nat} (h : nv.length = n) (hc : c < n) (hb : b < n) : (rowsT nv (mat n m n)).set c (.sl 1 (nv[c]'(by omega)) ((((List.range n).map (m c)).set b v).map encN)) = rowsT nv (mat n (upd1 m c b v) n) := by
  refine List.ext_getElem (by simp [rowsT, mat_len]) fun i h1 h2 => ?_
  have hi : i < n := by simpa [rowsT, mat_len, h] using h2
  rw [List.getElem_set]
  by_cases e : c = i
  · subst e
    rw [if_pos rfl, row_set hb]
    simp [rowsT, mat, upd1, hc]
  · rw [if_neg e]
    have : upd1 m c b v i = m i := by funext b'; simp [upd1, show ¬ i = c from fun h => e h.symm]
    simp [rowsT, mat, this]

theorem rowsT_up {nv : List Value} {n c : Nat} {m : Nat → Nat → Nat} {u : Value} (h : nv.length = n) (hc : c < n) {xs : List Nat} (hx : xs = (List.range n).map (m c)) : (rowsT nv (mat n m c)).set c (.sl 1 u (xs.map encN)) = rowsT (nv.set c u) (mat n m (c + 1)) := by
  subst hx
  refine List.ext_getElem (by simp [rowsT, mat_len]) fun i h1 h2 => ?_
  have hi : i < n := by simpa [rowsT, mat_len, h] using h2
  rw [List.getElem_set]
  by_cases e : c = i
  · subst e
    simp [rowsT, mat]
  · rw [if_neg e]
    simp only [rowsT, List.getElem_zipWith, List.getElem_set_ne e, mat, List.getElem_map, List.getElem_range]
    by_cases q : i < c
    · rw [if_pos q, if_pos (by omega)]
    · rw [if_neg q, if_neg (by omega)]

theorem rowsT_nil (n : Nat) (m : Nat → Nat → Nat) : List.replicate n (Th.sl 1 (.slice none 0 0) []) = rowsT (List.replicate n (.slice none 0 0)) (mat n m 0) := by
  refine List.ext_getElem (by simp [rowsT, mat_len]) fun i h1 h2 => ?_
  simp [rowsT, mat]

/-- The first thing takes the place of another one. -/
theorem Mem.mv {H0 H : Heap} {t : Th} {L : List Th} (h : Mem H0 H (t :: L)) (j : Nat) : Mem H0 H (L.set j t) :=
  h.sub (fun i => if i = j then 0 else i + 1) (fun a b e => by
    by_cases p : a = j <;> by_cases q : b = j <;> simp only [p, q, if_true, if_false] at e <;> omega) (fun i x e => by
    by_cases p : i = j
    · subst p
      rw [if_pos rfl]
      have hlt := (List.getElem?_eq_some_iff.1 e).1
      rw [List.getElem?_set_self (by simpa using hlt)] at e
      simpa using e
    · rw [if_neg p]
      rw [List.getElem?_set_ne (fun h => p h.symm)] at e
      simpa using e)
theorem Mem.mid {H0 H : Heap} {A L B : List Th} (h : Mem H0 H (A ++ L ++ B)) : Mem H0 H (A ++ B) :=
  h.sub (fun i => if i < A.length then i else i + L.length) (fun a b e => by
    by_cases p : a < A.length <;> by_cases q : b < A.length <;> simp only [p, q, if_true, if_false] at e <;> omega) (fun i x e => by
    by_cases p : i < A.length
    · rw [if_pos p, List.append_assoc, List.getElem?_append_left p]
      rwa [List.getElem?_append_left p] at e
    · rw [if_neg p, List.append_assoc, List.getElem?_append_right (by omega), List.getElem?_append_right (by omega)]
      rw [List.getElem?_append_right (by omega)] at e
      rw [← e]; congr 1; omega)

/-! ### Rounds -/

def v2 (m m' : Nat → Nat → Nat) (a b c : Nat) : Nat :=
  let v1 := if c = a then max (m' c b) 1 else m' c b
  if 0 < m c a then max v1 (min 8 (m c a + 1)) else v1
def updC (m m' : Nat → Nat → Nat) (a b c0 : Nat) : Nat → Nat → Nat := fun c b' => if c < c0 ∧ b' = b then v2 m m' a b c else m' c b'

theorem updC_zero (m m' : Nat → Nat → Nat) (a b : Nat) : updC m m' a b 0 = m' := by
  funext c b'; simp [updC]
theorem updC_at (m m' : Nat → Nat → Nat) (a b c b' : Nat) : updC m m' a b c c b' = m' c b' := by simp [updC]
theorem updC_succ (m m' : Nat → Nat → Nat) (a b c : Nat) : updC m m' a b (c + 1) = upd1 (updC m m' a b c) c b (v2 m m' a b c) := by
  funext c' b'
  unfold upd1 updC
  by_cases e : c' = c
  · subst e
    by_cases e2 : b' = b
    · simp [e2]
    · simp [e2]
  · by_cases q : c' < c
    · simp [e, q, show c' < c + 1 by omega]
    · simp [e, q, show ¬ c' < c + 1 by omega]
theorem upd1_upd1 (m : Nat → Nat → Nat) (c b v w : Nat) : upd1 (upd1 m c b v) c b w = upd1 m c b w := by
  funext c' b'; unfold upd1; by_cases e : c' = c ∧ b' = b <;> simp [e]
theorem upd1_at (m : Nat → Nat → Nat) (c b v : Nat) : upd1 m c b v c b = v := by simp [upd1]
theorem upd1_same (m : Nat → Nat → Nat) (c b : Nat) : upd1 m c b (m c b) = m := by
  funext c' b'; unfold upd1; by_cases e : c' = c ∧ b' = b
  · rw [if_pos e, e.1, e.2]
  · rw [if_neg e]

section
variable {m m' : Nat → Nat → Nat} {a b c : Nat}
theorem updC_tt (h1 : c = a) (h2 : 0 < m c a) : upd1 (upd1 (updC m m' a b c) c b (max (updC m m' a b c c b) 1)) c b (max (upd1 (updC m m' a b c) c b (max (updC m m' a b c c b) 1) c b) (min 8 (m c a + 1))) = updC m m' a b (c + 1) := by
  rw [upd1_upd1, upd1_at, updC_at, updC_succ]
  congr 1
  simp only [v2, if_pos h1, if_pos h2]
theorem updC_tf (h1 : c = a) (h2 : ¬ 0 < m c a) : upd1 (updC m m' a b c) c b (max (updC m m' a b c c b) 1) = updC m m' a b (c + 1) := by
  rw [updC_at, updC_succ]
  congr 1
  simp only [v2, if_pos h1, if_neg h2]
theorem updC_ft (h1 : ¬ c = a) (h2 : 0 < m c a) : upd1 (updC m m' a b c) c b (max (updC m m' a b c c b) (min 8 (m c a + 1))) = updC m m' a b (c + 1) := by
  rw [updC_at, updC_succ]
  congr 1
  simp only [v2, if_neg h1, if_pos h2]
theorem updC_ff (h1 : ¬ c = a) (h2 : ¬ 0 < m c a) : updC m m' a b c = updC m m' a b (c + 1) := by
  rw [updC_succ]
  have : v2 m m' a b c = updC m m' a b c c b := by rw [updC_at]; simp only [v2, if_neg h1, if_neg h2]
  rw [this, upd1_same]
end

/-- A round so far: these arcs have been looked at. -/
structure Part (m : Nat → Nat → Nat) (ps : List (Nat × Nat)) (m' : Nat → Nat → Nat) : Prop where
  le : ∀ c b, m c b ≤ m' c b
  one : ∀ a b, (a, b) ∈ ps → 1 ≤ m' a b
  more : ∀ c a b, (a, b) ∈ ps → 0 < m c a → m c a + 1 ≤ m' c b
  from_ : ∀ c b, m' c b = m c b ∨ ((c, b) ∈ ps ∧ m' c b = 1) ∨ ∃ a, (a, b) ∈ ps ∧ 0 < m c a ∧ m' c b = m c a + 1

theorem Part.start (m : Nat → Nat → Nat) : Part m [] m := ⟨fun _ _ => Nat.le_refl _, fun _ _ h => by simp at h, fun _ _ _ h => by simp at h, fun _ _ => .inl rfl⟩

theorem v2_ge (m m' : Nat → Nat → Nat) (a b c : Nat) : m' c b ≤ v2 m m' a b c := by
  unfold v2; simp only; split <;> split <;> omega

theorem Part.arc {m m' : Nat → Nat → Nat} {ps : List (Nat × Nat)} {a b n : Nat} (h : Part m ps m') (hm : ∀ c a, m c a ≤ 7) (hn : ∀ c, n ≤ c → ∀ b, m c b = 0) (ha : a < n) : Part m (ps ++ [(a, b)]) (updC m m' a b n) := by
  have ge : ∀ c b', m' c b' ≤ updC m m' a b n c b' := by
    intro c b'
    unfold updC
    split
    · rename_i q; rw [q.2]; exact v2_ge _ _ _ _ _
    · exact Nat.le_refl _
  refine ⟨fun c b' => Nat.le_trans (h.le c b') (ge c b'), fun a' b' hm' => ?_, fun c a' b' hm' h0 => ?_, fun c b' => ?_⟩
  · rcases List.mem_append.1 hm' with q | q
    · exact Nat.le_trans (h.one a' b' q) (ge a' b')
    · simp at q
      obtain ⟨rfl, rfl⟩ := q
      unfold updC
      rw [if_pos ⟨ha, rfl⟩]
      unfold v2; simp only [if_true]; split <;> omega
  · rcases List.mem_append.1 hm' with q | q
    · exact Nat.le_trans (h.more c a' b' q h0) (ge c b')
    · simp at q
      obtain ⟨rfl, rfl⟩ := q
      have hc : c < n := by
        rcases Nat.lt_or_ge c n with z | z
        · exact z
        · rw [hn c z] at h0; omega
      unfold updC
      rw [if_pos ⟨hc, rfl⟩]
      have := hm c a'
      unfold v2; simp only [if_pos h0]; split <;> omega
  · unfold updC
    by_cases q : c < n ∧ b' = b
    · rw [if_pos q]
      obtain ⟨q1, rfl⟩ := q
      have h7 := hm c a
      have hf := h.from_ c b'
      have hle := h.le c b'
      have old : (m' c b' = m c b' ∨ ((c, b') ∈ ps ∧ m' c b' = 1) ∨ ∃ a, (a, b') ∈ ps ∧ 0 < m c a ∧ m' c b' = m c a + 1) → (m' c b' = m c b' ∨ ((c, b') ∈ ps ++ [(a, b')] ∧ m' c b' = 1) ∨ ∃ a1, (a1, b') ∈ ps ++ [(a, b')] ∧ 0 < m c a1 ∧ m' c b' = m c a1 + 1) := by
        rintro (z | ⟨z1, z2⟩ | ⟨a1, z1, z2, z3⟩)
        · exact .inl z
        · exact .inr (.inl ⟨List.mem_append_left _ z1, z2⟩)
        · exact .inr (.inr ⟨a1, List.mem_append_left _ z1, z2, z3⟩)
      have hf' := old hf
      by_cases h0 : 0 < m c a
      · by_cases hca : c = a
        · by_cases hbig : m' c b' ≤ m c a + 1
          · right; right
            refine ⟨a, by simp, h0, ?_⟩
            unfold v2; simp only [if_pos h0, if_pos hca]; omega
          · have : v2 m m' a b' c = m' c b' := by unfold v2; simp only [if_pos h0, if_pos hca]; omega
            rw [this]; exact hf'
        · by_cases hbig : m' c b' ≤ m c a + 1
          · right; right
            refine ⟨a, by simp, h0, ?_⟩
            unfold v2; simp only [if_pos h0, if_neg hca]; omega
          · have : v2 m m' a b' c = m' c b' := by unfold v2; simp only [if_pos h0, if_neg hca]; omega
            rw [this]; exact hf'
      · by_cases hca : c = a
        · by_cases hz : m' c b' = 0
          · right; left
            refine ⟨by simp [hca], ?_⟩
            unfold v2; simp only [if_neg h0, if_pos hca, hz]; omega
          · have : v2 m m' a b' c = m' c b' := by unfold v2; simp only [if_neg h0, if_pos hca]; omega
            rw [this]; exact hf'
        · have : v2 m m' a b' c = m' c b' := by unfold v2; simp only [if_neg h0, if_neg hca]
          rw [this]; exact hf'
    · rw [if_neg q]
      rcases h.from_ c b' with z | ⟨z1, z2⟩ | ⟨a1, z1, z2, z3⟩
      · exact .inl z
      · exact .inr (.inl ⟨List.mem_append_left _ z1, z2⟩)
      · exact .inr (.inr ⟨a1, List.mem_append_left _ z1, z2, z3⟩)

theorem Part.far {m m' : Nat → Nat → Nat} {ps : List (Nat × Nat)} {k : Nat} (h : Part m ps m') (hf : ∀ c b, Far ps k c b (m c b)) : ∀ c b, Far ps (k + 1) c b (m' c b) := by
  intro c b
  refine Far.succ (hf c) (h.le c b) (fun a ha e => by subst e; exact h.one _ _ ha) (fun a ha h0 => h.more c a b ha h0) ?_
  rcases h.from_ c b with z | ⟨z1, z2⟩ | ⟨a, z1, z2, z3⟩
  · exact .inl z
  · exact .inr (.inl ⟨c, z1, rfl, z2⟩)
  · exact .inr (.inr ⟨a, z1, z2, z3⟩)

theorem Far.le {arcs : List (Nat × Nat)} {k c b x : Nat} (h : Far arcs k c b x) : x ≤ k := by
  rcases h with ⟨rfl, _⟩ | ⟨_, h, _⟩ <;> omega

theorem Far.zero {arcs : List (Nat × Nat)} {k c b x : Nat} (h : Far arcs k c b x) {n : Nat} (hn : ∀ p ∈ arcs, p.1 < n) (hc : n ≤ c) : x = 0 := by
  have hw : ∀ j d, W arcs j c d → 1 ≤ j → False := by
    intro j
    induction j with
    | zero => intro d _ h; omega
    | succ j ih =>
      rintro d ⟨a, ha, hm⟩ _
      have h1 : a < n := hn _ hm
      rcases Nat.eq_zero_or_pos j with q | q
      · subst q; have : c = a := ha; omega
      · exact ih a ha q
  rcases h with ⟨h, _⟩ | ⟨h1, h2, h3, _⟩
  · exact h
  · exact (hw _ _ h3 h1).elim

/-! ### Calls of small functions -/
theorem arc_T {k : Nat} (u l : Nm) (H : Heap) (h : ¬ k = 4) : big tab 25 [.agg #[nat k, str u, str l]] H = some (.bool true, H) := by
  rw [arc_runs, decide_eq_true h]
theorem arc_F {k : Nat} (u l : Nm) (H : Heap) (h : k = 4) : big tab 25 [.agg #[nat k, str u, str l]] H = some (.bool false, H) := by
  rw [arc_runs, decide_eq_false (by simpa using h)]
theorem index_mem {H : Heap} {v : Value} {xs : List Nm} {x : Nm} (h : Sl H 1 v (xs.map encS)) (hx : x ∈ xs) (hl : xs.length < 2 ^ 40) : big tab 22 [v, str x] H = some (nat (idx xs x), H) := by
  have := index_runs x (xs := xs) h hl
  rw [indexOf_mem hx] at this
  exact this

end Go.Proofs.Ytdhbclplondmjaa.C

end

section
/- A heap in a list, plain; calls by a pointer's interface. -/
set_option linter.unusedVariables false
set_option linter.unusedSimpArgs false
namespace Go.Proofs.Ytdhbclplondmjaa.C
open Go.RowKit Go.Sort

def swapL (es : List Nat) (i j : Nat) : List Nat := (es.set i (es.getD j 0)).set j (es.getD i 0)
theorem swapL_len (es : List Nat) (i j : Nat) : (swapL es i j).length = es.length := by simp [swapL]

def upF : Nat → List Nat → Nat → List Nat
  | 0, es, _ => es
  | f + 1, es, j => if (j - 1) / 2 = j ∨ ¬ es.getD j 0 < es.getD ((j - 1) / 2) 0 then es else upF f (swapL es ((j - 1) / 2) j) ((j - 1) / 2)
/-- The lesser child. -/
def dj (es : List Nat) (i n : Nat) : Nat := if 2 * i + 1 + 1 < n ∧ es.getD (2 * i + 1 + 1) 0 < es.getD (2 * i + 1) 0 then 2 * i + 1 + 1 else 2 * i + 1
def downF : Nat → List Nat → Nat → Nat → List Nat
  | 0, es, _, _ => es
  | f + 1, es, i, n =>
    if n ≤ 2 * i + 1 then es else
      if ¬ es.getD (dj es i n) 0 < es.getD i 0 then es else downF f (swapL es i (dj es i n)) (dj es i n) n

def pushF (es : List Nat) (x : Nat) : List Nat := upF es.length (es ++ [x]) es.length
def popL (es : List Nat) : List Nat := downF es.length (swapL es 0 (es.length - 1)) 0 (es.length - 1)
def popM (es : List Nat) : Nat := (popL es).getD (es.length - 1) 0
def popR (es : List Nat) : List Nat := (popL es).take (es.length - 1)

theorem upF_len : ∀ (f : Nat) (es : List Nat) (j : Nat), (upF f es j).length = es.length
  | 0, _, _ => rfl
  | f + 1, es, j => by
    unfold upF
    split
    · rfl
    · rw [upF_len, swapL_len]
theorem downF_len : ∀ (f : Nat) (es : List Nat) (i n : Nat), (downF f es i n).length = es.length
  | 0, _, _, _ => rfl
  | f + 1, es, i, n => by
    unfold downF
    split
    · rfl
    · split
      · rfl
      · rw [downF_len, swapL_len]

theorem swapL_perm {es : List Nat} {i j : Nat} (hi : i < es.length) (hj : j < es.length) : (swapL es i j).Perm es := by
  have h1 : es.getD i 0 = es[i] := by simp [List.getD_eq_getElem?_getD, hi]
  have h2 : es.getD j 0 = es[j] := by simp [List.getD_eq_getElem?_getD, hj]
  unfold swapL
  rw [h1, h2]
  refine List.perm_iff_count.2 fun a => ?_
  rw [List.count_set (by simpa using hj), List.count_set hi]
  by_cases e : i = j
  · subst e
    by_cases p : es[i] = a
    · have := List.count_pos_iff.2 (p ▸ List.getElem_mem hi : a ∈ es)
      simp [p]; omega
    · simp [p]
  · rw [List.getElem_set_ne e]
    have c1 : es[i] = a → 0 < es.count a := fun h => List.count_pos_iff.2 (h ▸ List.getElem_mem hi)
    have c2 : es[j] = a → 0 < es.count a := fun h => List.count_pos_iff.2 (h ▸ List.getElem_mem hj)
    have c3 : es[i] = a → es[j] = a → 1 < es.count a := by
      intro h3 h4
      have hd : ∀ (l : List Nat) (i j : Nat) (hi : i < l.length) (hj : j < l.length), i < j → l[i] = a → l[j] = a → 1 < l.count a := by
        intro l i j hi hj hij h5 h6
        have hs : [l[i], l[j]].Sublist l := by
          have h8 : l[i] ∈ l.take (i + 1) := List.mem_iff_getElem.2 ⟨i, by simp; omega, by simp⟩
          have h9 : l[j] ∈ l.drop (i + 1) := List.mem_iff_getElem.2 ⟨j - (i + 1), by simp; omega, by simp [show i + 1 + (j - (i + 1)) = j by omega]⟩
          have := List.Sublist.append (List.singleton_sublist.2 h8) (List.singleton_sublist.2 h9)
          rw [List.take_append_drop] at this
          exact this
        have := hs.count_le a
        simp [h5, h6] at this
        omega
      rcases Nat.lt_trichotomy i j with q | q | q
      · exact hd es i j hi hj q h3 h4
      · exact absurd q e
      · exact hd es j i hj hi q h4 h3
    by_cases p : es[i] = a <;> by_cases q : es[j] = a <;> simp only [p, q, beq_self_eq_true, beq_iff_eq, if_true, if_false] <;> (try have := c1 p) <;> (try have := c2 q) <;> (try have := c3 p q) <;> omega

theorem upF_perm : ∀ (f : Nat) (es : List Nat) (j : Nat), j < es.length → (upF f es j).Perm es
  | 0, _, _, _ => List.Perm.refl _
  | f + 1, es, j, h => by
    unfold upF
    split
    · exact List.Perm.refl _
    · have : (j - 1) / 2 < es.length := by omega
      exact (upF_perm f _ _ (by rw [swapL_len]; exact this)).trans (swapL_perm this h)
theorem downF_perm : ∀ (f : Nat) (es : List Nat) (i n : Nat), i < es.length → n ≤ es.length → (downF f es i n).Perm es
  | 0, _, _, _, _, _ => List.Perm.refl _
  | f + 1, es, i, n, h, hn => by
    unfold downF
    split
    · exact List.Perm.refl _
    · rename_i q
      split
      · exact List.Perm.refl _
      · have hj : dj es i n < es.length := by unfold dj; split <;> omega
        exact (downF_perm f _ _ _ (by rw [swapL_len]; exact hj) (by rw [swapL_len]; exact hn)).trans (swapL_perm h hj)

theorem pushF_perm (es : List Nat) (x : Nat) : (pushF es x).Perm (x :: es) := by
  refine (upF_perm _ _ _ (by simp)).trans ?_
  exact List.perm_append_comm
theorem popF_perm {es : List Nat} (h : es ≠ []) : (popM es :: popR es).Perm es := by
  have hl : 0 < es.length := List.length_pos_iff.2 h
  have hp : (popL es).Perm es := (downF_perm _ _ _ _ (by rw [swapL_len]; exact hl) (by rw [swapL_len]; omega)).trans (swapL_perm hl (by omega))
  have hlen : (popL es).length = es.length := hp.length_eq
  refine List.Perm.trans ?_ hp
  have h1 : popL es = (popL es).take (es.length - 1) ++ [popM es] := by
    have h2 : es.length - 1 < (popL es).length := by omega
    have h3 : popM es = (popL es)[es.length - 1] := by simp [popM, List.getD_eq_getElem?_getD, h2]
    rw [h3, List.take_append_getElem h2, List.take_of_length_le (by omega)]
  unfold popR
  conv => rhs; rw [h1]
  exact (List.perm_append_comm (l₁ := [popM es])).trans (List.Perm.refl _)
theorem pushF_len (es : List Nat) (x : Nat) : (pushF es x).length = es.length + 1 := by rw [(pushF_perm es x).length_eq]; rfl
theorem popR_len (es : List Nat) : (popR es).length = es.length - 1 := by
  unfold popR popL
  rw [List.length_take, downF_len, swapL_len]; omega

theorem getD_get {es : List Nat} {i : Nat} (h : i < es.length) : es.getD i 0 = es[i] := by simp [List.getD_eq_getElem?_getD, h]
theorem swapL_is {es : List Nat} {i j : Nat} (hi : i < es.length) (hj : j < es.length) : (es.set i es[j]).set j es[i] = swapL es i j := by
  unfold swapL; rw [getD_get hi, getD_get hj]

theorem callee_val {T : Tab} {s : List Value} {H : Heap} {ro : Operand} {name : String} {args : Array Operand} {ats : Array TypeId} {t e : TypeId} {g : FuncId} {v u : Value} (hr : ev s ro = .iface t v) (hm : T.meth t name = some (g, some e)) (hl : vLoad T H e v = some u) :
    calleeOf T s H (.call { callee := .invoke ro name, args := args, argTypes := ats }) = some (g, u :: args.toList.map (ev s)) := by
  simp only [calleeOf, hr, hm, hl, Option.map_some]
theorem vload_box {T : Tab} {H : Heap} {p sz : Nat} {u : Value} {own : Bool} {e : TypeId} {i : TI} (h : H[p]? = some (.row sz [u] own true)) (hT : T.T e = some i) (hs : i.size = 1) (hg : i.agg = false) : vLoad T H e (.pointer (some ⟨p, 0, none⟩)) = some u := by
  simp only [vLoad, hT, hg, Option.bind_eq_bind, Option.bind_some, readCells, h, hs]
  rfl

end Go.Proofs.Ytdhbclplondmjaa.C

end

section
/- The program's heap, run. -/
set_option linter.unusedVariables false
set_option linter.unusedSimpArgs false
set_option maxRecDepth 100000
set_option maxHeartbeats 4000000
namespace Go.Proofs.Ytdhbclplondmjaa.C
open Go.RowKit Go.Sort

theorem qlen_runs {H : Heap} {v : Value} {es : List Nat} (h : Sl H 1 v (es.map encN)) : big tab 45 [v] H = some (nat es.length, H) := by
  have goal : ∃ r H1, big tab 45 [v] H = some (r, H1) ∧ r = nat es.length ∧ H1 = H := by
    refine big_of_runs rfl rfl rfl ?_
    obtain ⟨z, hz⟩ := startC_mkS Try.f45 [v]
    rw [show startC (45, Try.f45).snd [v] = _ from hz]
    clear hz
    refine Runs.cut (n := 5) (l := [(0, v)]) (Is.of ⟨rfl, rfl, trivial⟩) (fun a0 => ?_)
    refine Runs.seq ?_
    refine Runs.region ?_
    refine Rg.opp (v := nat 0) rfl rfl rfl rfl rfl ?_
    refine Rg.nil ?_
    refine Runs.seq ?_
    refine Runs.region ?_
    refine Rg.opp (v := v) rfl rfl rfl rfl rfl ?_
    refine Rg.opp (v := nat es.length) rfl rfl rfl (ev_lenM (h) rfl rfl) rfl ?_
    refine Rg.opp (v := nat es.length) rfl rfl rfl rfl rfl ?_
    refine Rg.nil ?_
    refine Runs.ret ?_
    refine ⟨nat es.length, rfl, ?_⟩
    exact ⟨rfl, rfl⟩
  obtain ⟨r, H1, h1, rfl, rfl⟩ := goal
  exact h1

theorem qless_runs {H : Heap} {v : Value} {es : List Nat} {i j : Nat} (h : Sl H 1 v (es.map encN)) (hi : i < es.length) (hj : j < es.length) : big tab 98 [v, nat i, nat j] H = some (.bool (decide (es[i] < es[j])), H) := by
  have goal : ∃ r H1, big tab 98 [v, nat i, nat j] H = some (r, H1) ∧ r = .bool (decide (es[i] < es[j])) ∧ H1 = H := by
    refine big_of_runs rfl rfl rfl ?_
    obtain ⟨z, hz⟩ := startC_mkS Try.f98 [v, nat i, nat j]
    rw [show startC (98, Try.f98).snd [v, nat i, nat j] = _ from hz]
    clear hz
    refine Runs.cut (n := 16) (l := [(0, v), (1, nat i), (2, nat j)]) (Is.of ⟨rfl, rfl, rfl, rfl, rfl, rfl, trivial⟩) (fun a0 => ?_)
    refine Runs.seq ?_
    refine Runs.region ?_
    refine Rg.opp (v := .bool false) rfl rfl rfl rfl rfl ?_
    refine Rg.nil ?_
    refine Runs.seq ?_
    refine Runs.drawn (is := [0, 1, 2, 3, 4, 5, 6, 7, 8, 9]) (by decide +kernel) ?_
    refine Rg.opp (v := v) rfl rfl rfl rfl rfl ?_
    refine Rg.opp (v := nat i) rfl rfl rfl rfl rfl ?_
    refine Rg.opp (v := ptrAt (sAddr v) (i * 1)) rfl rfl rfl (ev_idxM (k := i) (h) rfl rfl (hi) rfl rfl rfl (by decide)) rfl ?_
    refine Rg.opp (v := nat (es[i])) rfl rfl rfl (ev_ldM (k := i) (h) rfl (hi) rfl rfl rfl rfl) rfl ?_
    refine Rg.opp (v := v) rfl rfl rfl rfl rfl ?_
    refine Rg.opp (v := nat j) rfl rfl rfl rfl rfl ?_
    refine Rg.opp (v := ptrAt (sAddr v) (j * 1)) rfl rfl rfl (ev_idxM (k := j) (h) rfl rfl (hj) rfl rfl rfl (by decide)) rfl ?_
    refine Rg.opp (v := nat (es[j])) rfl rfl rfl (ev_ldM (k := j) (h) rfl (hj) rfl rfl rfl rfl) rfl ?_
    by_cases hlt : es[i] < es[j]
    · skip
      refine Rg.opp (v := .bool true) rfl rfl rfl (ev_ltT rfl rfl (hlt)) rfl ?_
      refine Rg.opp (v := .bool true) rfl rfl rfl rfl rfl ?_
      refine Rg.nil ?_
      refine Runs.ret ?_
      refine ⟨.bool true, rfl, ?_⟩
      exact ⟨by rw [decide_eq_true hlt], rfl⟩
    · skip
      refine Rg.opp (v := .bool false) rfl rfl rfl (ev_ltF rfl rfl (hlt)) rfl ?_
      refine Rg.opp (v := .bool false) rfl rfl rfl rfl rfl ?_
      refine Rg.nil ?_
      refine Runs.ret ?_
      refine ⟨.bool false, rfl, ?_⟩
      exact ⟨by rw [decide_eq_false hlt], rfl⟩
  obtain ⟨r, H1, h1, rfl, rfl⟩ := goal
  exact h1
theorem qless_T {H : Heap} {v : Value} {es : List Nat} {i j : Nat} (h : Sl H 1 v (es.map encN)) (hi : i < es.length) (hj : j < es.length) (hl : es.getD i 0 < es.getD j 0) : big tab 98 [v, nat i, nat j] H = some (.bool true, H) := by
  rw [qless_runs h hi hj, decide_eq_true (by rwa [getD_get hi, getD_get hj] at hl)]
theorem qless_F {H : Heap} {v : Value} {es : List Nat} {i j : Nat} (h : Sl H 1 v (es.map encN)) (hi : i < es.length) (hj : j < es.length) (hl : ¬ es.getD i 0 < es.getD j 0) : big tab 98 [v, nat i, nat j] H = some (.bool false, H) := by
  rw [qless_runs h hi hj, decide_eq_false (by rwa [getD_get hi, getD_get hj] at hl)]

theorem qswap_runs {H0 H : Heap} {L : List Th} {v : Value} {es : List Nat} {i j : Nat} (hM : Mem H0 H (.sl 1 v (es.map encN) :: L)) (hi : i < es.length) (hj : j < es.length) :
    ∃ r H1, big tab 101 [v, nat i, nat j] H = some (r, H1) ∧ Mem H0 H1 (.sl 1 v ((swapL es i j).map encN) :: L) := by
  refine big_of_runs rfl rfl rfl ?_
  obtain ⟨z, hz⟩ := startC_mkS Try.f101 [v, nat i, nat j]
  rw [show startC (101, Try.f101).snd [v, nat i, nat j] = _ from hz]
  clear hz
  refine Runs.cut (n := 20) (l := [(0, v), (1, nat i), (2, nat j)]) (Is.of ⟨rfl, rfl, rfl, rfl, rfl, rfl, trivial⟩) (fun a0 => ?_)
  refine Runs.drawn (is := [0, 1, 2, 3, 4, 5, 6, 7, 8, 9, 10, 11, 12, 13, 14, 15]) (by decide +kernel) ?_
  refine Rg.opp (v := v) rfl rfl rfl rfl rfl ?_
  refine Rg.opp (v := nat i) rfl rfl rfl rfl rfl ?_
  refine Rg.opp (v := v) rfl rfl rfl rfl rfl ?_
  refine Rg.opp (v := nat j) rfl rfl rfl rfl rfl ?_
  refine Rg.opp (v := v) rfl rfl rfl rfl rfl ?_
  refine Rg.opp (v := nat j) rfl rfl rfl rfl rfl ?_
  refine Rg.opp (v := ptrAt (sAddr v) (j * 1)) rfl rfl rfl (ev_idxM (k := j) (hM.get_sl (j := 0) rfl) rfl rfl (hj) rfl rfl rfl (by decide)) rfl ?_
  refine Rg.opp (v := nat (es[j])) rfl rfl rfl (ev_ldM (k := j) (hM.get_sl (j := 0) rfl) rfl (hj) rfl rfl rfl rfl) rfl ?_
  refine Rg.opp (v := v) rfl rfl rfl rfl rfl ?_
  refine Rg.opp (v := nat i) rfl rfl rfl rfl rfl ?_
  refine Rg.opp (v := ptrAt (sAddr v) (i * 1)) rfl rfl rfl (ev_idxM (k := i) (hM.get_sl (j := 0) rfl) rfl rfl (hi) rfl rfl rfl (by decide)) rfl ?_
  refine Rg.opp (v := nat (es[i])) rfl rfl rfl (ev_ldM (k := i) (hM.get_sl (j := 0) rfl) rfl (hi) rfl rfl rfl rfl) rfl ?_
  refine Rg.opp (v := ptrAt (sAddr v) (i * 1)) rfl rfl rfl (ev_idxM (k := i) (hM.get_sl (j := 0) rfl) rfl rfl (hi) rfl rfl rfl (by decide)) rfl ?_
  refine Rg.stoM (f := encN) (j := 0) (k := i) (es[j]) hM rfl rfl rfl rfl rfl rfl rfl (hi) rfl rfl rfl rfl rfl (fun Hc (hM : Mem H0 Hc ((.sl 1 v (List.map encN ((es).set i (es[j])))) :: L)) => ?_)
  refine Rg.opp (v := ptrAt (sAddr v) (j * 1)) rfl rfl rfl (ev_idxM (k := j) (hM.get_sl (j := 0) rfl) rfl rfl (by simpa using hj) rfl rfl rfl (by decide)) rfl ?_
  refine Rg.stoM (f := encN) (j := 0) (k := j) (es[i]) hM rfl rfl rfl rfl rfl rfl rfl (by simpa using hj) rfl rfl rfl rfl rfl (fun Hc (hM : Mem H0 Hc ((.sl 1 v (List.map encN (((es).set i (es[j])).set j (es[i])))) :: L)) => ?_)
  refine Rg.nil ?_
  refine ⟨.tuple #[], rfl, ?_⟩
  rw [swapL_is hi hj] at hM
  exact hM

theorem qpush_runs {H0 H : Heap} {L : List Th} {q : Nat} {v : Value} {es : List Nat} {x : Nat} (hM : Mem H0 H (.box q 1 [v] :: .sl 1 v (es.map encN) :: L)) (hl : es.length ≤ 2 ^ 30) :
    ∃ r H1, big tab 100 [.pointer (some ⟨q, 0, none⟩), .iface 3 (nat x)] H = some (r, H1) ∧ ∃ v1, Mem H0 H1 (.box q 1 [v1] :: .sl 1 v1 ((es ++ [x]).map encN) :: L) ∧ Grown v1 := by
  refine big_of_runs rfl rfl rfl ?_
  obtain ⟨z, hz⟩ := startC_mkS Try.f100 [.pointer (some ⟨q, 0, none⟩), .iface 3 (nat x)]
  rw [show startC (100, Try.f100).snd [.pointer (some ⟨q, 0, none⟩), .iface 3 (nat x)] = _ from hz]
  clear hz
  refine Runs.cut (n := 13) (l := [(0, .pointer (some ⟨q, 0, none⟩)), (1, .iface 3 (nat x))]) (Is.of ⟨rfl, rfl, rfl, rfl, trivial⟩) (fun a0 => ?_)
  refine Runs.drawn (is := [1, 2, 3, 4, 5, 6, 7, 0, 8, 9]) (by decide +kernel) ?_
  refine Rg.opp (v := .pointer (some ⟨q, 0, none⟩)) rfl rfl rfl rfl rfl ?_
  refine Rg.opp (v := .pointer (some ⟨q, 0, none⟩)) rfl rfl rfl rfl rfl ?_
  refine Rg.opp (v := v) rfl rfl rfl (ev_ldb (hM.get_box (j := 0) rfl) rfl rfl rfl rfl rfl) rfl ?_
  refine Rg.opp (v := .iface 3 (nat x)) rfl rfl rfl rfl rfl ?_
  refine Rg.opp (v := nat x) rfl rfl rfl rfl rfl ?_
  refine Rg.lit (f := encN) (sz := 1) (xs := [x]) hM rfl rfl rfl rfl rfl (by simp) (by simp) (fun u1 Hc (hM : Mem H0 Hc ((.sl 1 u1 (List.map encN ([x]))) :: (.box q 1 [v]) :: (.sl 1 v (List.map encN es)) :: L)) _ => ?_)
  refine Rg.appM (f := encN) (sz := 1) (j := 2) (v := v) (xs := es) (ys := [x]) hM rfl rfl rfl rfl rfl rfl rfl (hM.get_sl (j := 0) rfl) ⟨rfl, rfl, rfl, by decide⟩ rfl (by simp [oneCell]) (by show (_ + _) * 8 ≤ 2 ^ 40; simp only [List.length_cons, List.length_nil]; omega) (by simp) (fun v1 Hc (hM : Mem H0 Hc ((.sl 1 u1 (List.map encN ([x]))) :: (.box q 1 [v]) :: (.sl 1 v1 (List.map encN (es ++ ([x])))) :: L)) hgv => ?_)
  replace hM : Mem H0 _ ((.box q 1 [v]) :: (.sl 1 v1 (List.map encN (es ++ ([x])))) :: L) := hM.erase 0
  refine Rg.opp (v := .pointer (some ⟨q, 0, none⟩)) rfl rfl rfl rfl rfl ?_
  refine Rg.opp (v := .pointer (some ⟨q, 0, none⟩)) rfl rfl rfl rfl rfl ?_
  refine Rg.stob1 (j := 0) (cs' := [v1]) hM rfl rfl rfl rfl rfl rfl rfl rfl rfl (hgv.one) (Nat.le_of_ble_eq_true rfl) rfl (fun Hc (hM : Mem H0 Hc ((.box q 1 ([v1])) :: (.sl 1 v1 (List.map encN (es ++ ([x])))) :: L)) => ?_)
  refine Rg.nil ?_
  refine ⟨.tuple #[], rfl, ?_⟩
  exact ⟨v1, hM, hgv⟩

theorem qpop_runs {H0 H : Heap} {L : List Th} {q : Nat} {v : Value} {es : List Nat} (hM : Mem H0 H (.box q 1 [v] :: .sl 1 v (es.map encN) :: L)) (hgr : Grown v) (hl : es.length ≤ 2 ^ 30) (hp : 1 ≤ es.length) :
    ∃ r H1, big tab 99 [.pointer (some ⟨q, 0, none⟩)] H = some (r, H1) ∧ r = .iface 3 (nat es[es.length - 1]) ∧ ∃ v1, Mem H0 H1 (.box q 1 [v1] :: .sl 1 v1 ((es.take (es.length - 1)).map encN) :: L) ∧ Grown v1 := by
  refine big_of_runs rfl rfl rfl ?_
  obtain ⟨z, hz⟩ := startC_mkS Try.f99 [.pointer (some ⟨q, 0, none⟩)]
  rw [show startC (99, Try.f99).snd [.pointer (some ⟨q, 0, none⟩)] = _ from hz]
  clear hz
  refine Runs.cut (n := 23) (l := [(0, .pointer (some ⟨q, 0, none⟩))]) (Is.of ⟨rfl, rfl, trivial⟩) (fun a0 => ?_)
  refine Runs.seq ?_
  refine Runs.region ?_
  refine Rg.opp (v := .nilIface) rfl rfl rfl rfl rfl ?_
  refine Rg.nil ?_
  refine Runs.seq ?_
  refine Runs.region ?_
  refine Rg.opp (v := .pointer (some ⟨q, 0, none⟩)) rfl rfl rfl rfl rfl ?_
  refine Rg.opp (v := .pointer (some ⟨q, 0, none⟩)) rfl rfl rfl rfl rfl ?_
  refine Rg.opp (v := v) rfl rfl rfl (ev_ldb (hM.get_box (j := 0) rfl) rfl rfl rfl rfl rfl) rfl ?_
  refine Rg.opp (v := v) rfl rfl rfl rfl rfl ?_
  refine Rg.nil ?_
  refine Runs.seq ?_
  refine Runs.region ?_
  refine Rg.opp (v := v) rfl rfl rfl rfl rfl ?_
  refine Rg.opp (v := v) rfl rfl rfl rfl rfl ?_
  refine Rg.opp (v := nat es.length) rfl rfl rfl (ev_lenM (hM.get_sl (j := 1) rfl) rfl rfl) rfl ?_
  refine Rg.opp (v := nat (es.length - 1)) rfl rfl rfl (ev_subN (a := es.length) (b := 1) rfl rfl (hp) (by omega)) rfl ?_
  refine Rg.opp (v := ptrAt (sAddr v) ((es.length - 1) * 1)) rfl rfl rfl (ev_idxM (k := es.length - 1) (hM.get_sl (j := 1) rfl) rfl rfl (by omega) rfl rfl rfl (by decide)) rfl ?_
  refine Rg.opp (v := nat (es[es.length - 1])) rfl rfl rfl (ev_ldM (k := (es.length - 1)) (hM.get_sl (j := 1) rfl) rfl (by omega) rfl rfl rfl rfl) rfl ?_
  refine Rg.opp (v := nat (es[es.length - 1])) rfl rfl rfl rfl rfl ?_
  refine Rg.nil ?_
  refine Runs.seq ?_
  refine Runs.region ?_
  refine Rg.opp (v := .pointer (some ⟨q, 0, none⟩)) rfl rfl rfl rfl rfl ?_
  refine Rg.opp (v := v) rfl rfl rfl rfl rfl ?_
  refine Rg.opp (v := v) rfl rfl rfl rfl rfl ?_
  refine Rg.opp (v := nat es.length) rfl rfl rfl (ev_lenM (hM.get_sl (j := 1) rfl) rfl rfl) rfl ?_
  refine Rg.opp (v := nat (es.length - 1)) rfl rfl rfl (ev_subN (a := es.length) (b := 1) rfl rfl (hp) (by omega)) rfl ?_
  refine Rg.hiM (f := encN) (j := 1) (m := es.length - 1) hM hgr rfl rfl rfl rfl rfl rfl rfl rfl rfl rfl (by omega) (fun v1 (hM : Mem H0 _ ((.box q 1 [v]) :: (.sl 1 v1 (List.map encN ((es).take (es.length - 1)))) :: L)) hgr => ?_)
  refine Rg.opp (v := .pointer (some ⟨q, 0, none⟩)) rfl rfl rfl rfl rfl ?_
  refine Rg.stob1 (j := 0) (cs' := [v1]) hM rfl rfl rfl rfl rfl rfl rfl rfl rfl (hgr.one) (Nat.le_of_ble_eq_true rfl) rfl (fun Hc (hM : Mem H0 Hc ((.box q 1 ([v1])) :: (.sl 1 v1 (List.map encN ((es).take (es.length - 1)))) :: L)) => ?_)
  refine Rg.nil ?_
  refine Runs.seq ?_
  refine Runs.region ?_
  refine Rg.opp (v := nat (es[es.length - 1])) rfl rfl rfl rfl rfl ?_
  refine Rg.opp (v := .iface 3 (nat (es[es.length - 1]))) rfl rfl rfl rfl rfl ?_
  refine Rg.opp (v := .iface 3 (nat (es[es.length - 1]))) rfl rfl rfl rfl rfl ?_
  refine Rg.nil ?_
  refine Runs.ret ?_
  refine ⟨.iface 3 (nat (es[es.length - 1])), rfl, ?_⟩
  exact ⟨rfl, v1, hM, hgr⟩

theorem up_runs {H0 H : Heap} {L : List Th} {q : Nat} {v : Value} {f0 j0 : Nat} {es0 : List Nat} (hM : Mem H0 H (.box q 1 [v] :: .sl 1 v (es0.map encN) :: L)) (hf0 : j0 ≤ f0) (hj0 : j0 < es0.length) (hl0 : es0.length ≤ 2 ^ 30) :
    ∃ r H1, big tab 55 [.iface 94 (.pointer (some ⟨q, 0, none⟩)), nat j0] H = some (r, H1) ∧ Mem H0 H1 (.box q 1 [v] :: .sl 1 v ((upF f0 es0 j0).map encN) :: L) := by
  refine big_of_runs rfl rfl rfl ?_
  obtain ⟨z, hz⟩ := startC_mkS Try.f55 [.iface 94 (.pointer (some ⟨q, 0, none⟩)), nat j0]
  rw [show startC (55, Try.f55).snd [.iface 94 (.pointer (some ⟨q, 0, none⟩)), nat j0] = _ from hz]
  clear hz
  refine Runs.cut (n := 23) (l := [(0, .iface 94 (.pointer (some ⟨q, 0, none⟩))), (1, nat j0)]) (Is.of ⟨rfl, rfl, rfl, rfl, trivial⟩) (fun a0 => ?_)
  refine Runs.block ?_
  refine Runs.loop (fun m s Hc => ∃ (f : Nat) (j : Nat) (es : List Nat), m = 2 * (j) ∧ Mem H0 Hc ((.box q 1 [v]) :: (.sl 1 v (List.map encN es)) :: L) ∧ (j ≤ f) ∧ (j < es.length) ∧ (es.length ≤ 2 ^ 30) ∧ (upF f es j = upF f0 es0 j0) ∧ Is s 23 [(0, .iface 94 (.pointer (some ⟨q, 0, none⟩))), (1, nat j)]) _
    ⟨f0, j0, es0, rfl, hM, hf0, hj0, hl0, rfl, Is.of ⟨rfl, rfl, rfl, rfl, trivial⟩⟩ ?_
  rintro m s Hc ⟨f, j, es, rfl, hM, hf, hj, hl, hR, hs⟩
  obtain ⟨a1, rfl⟩ := hs.mk1
  clear hs
  refine Runs.block ?_
  refine Runs.seq ?_
  refine Runs.region ?_
  refine Rg.opp (v := nat j) rfl rfl rfl rfl rfl ?_
  by_cases hz : j = 0
  · skip
    refine Rg.opp (v := .int .i64 (-1)) rfl rfl rfl (by subst hz; exact ev_subI (a := 0) (b := 1) rfl rfl (by decide)) rfl ?_
    refine Rg.opp (v := nat 0) rfl rfl rfl rfl rfl ?_
    refine Rg.opp (v := nat 0) rfl rfl rfl rfl rfl ?_
    refine Rg.nil ?_
    refine Runs.seq ?_
    refine Runs.seq ?_
    refine Runs.region ?_
    refine Rg.opp (v := nat 0) rfl rfl rfl rfl rfl ?_
    refine Rg.opp (v := nat j) rfl rfl rfl rfl rfl ?_
    refine Rg.opp (v := .bool true) rfl rfl rfl (ev_eqT (a := 0) (b := j) rfl rfl (hz.symm)) rfl ?_
    refine Rg.opp (v := .bool true) rfl rfl rfl rfl rfl ?_
    refine Rg.guards false rfl rfl rfl (fun h => by cases h) (fun _ => ?_)
    refine Rg.guards false rfl rfl rfl (fun h => by cases h) (fun _ => ?_)
    refine Rg.guards false rfl rfl rfl (fun h => by cases h) (fun _ => ?_)
    refine Rg.guards false rfl rfl rfl (fun h => by cases h) (fun _ => ?_)
    refine Rg.guards false rfl rfl rfl (fun h => by cases h) (fun _ => ?_)
    refine Rg.opp (v := .bool true) rfl rfl rfl rfl rfl ?_
    refine Rg.nil ?_
    refine Runs.cond true rfl (fun _ => ?_) (fun h => by cases h)
    refine Runs.exit ?_
    refine ⟨.tuple #[], rfl, ?_⟩
    have he : es = upF f0 es0 j0 := by
      rw [← hR]
      cases f with
      | zero => rfl
      | succ f => rw [upF, if_pos (.inl (by omega))]
    rw [← he]; exact hM
  · skip
    refine Rg.opp (v := nat (j - 1)) rfl rfl rfl (ev_subN (a := j) (b := 1) rfl rfl (by omega) (by omega)) rfl ?_
    refine Rg.opp (v := nat ((j - 1) / 2)) rfl rfl rfl (ev_divN (a := j - 1) (b := 2) rfl rfl (by omega) (by omega)) rfl ?_
    refine Rg.opp (v := nat ((j - 1) / 2)) rfl rfl rfl rfl rfl ?_
    refine Rg.nil ?_
    refine Runs.seq ?_
    refine Runs.seq ?_
    refine Runs.region ?_
    refine Rg.opp (v := nat ((j - 1) / 2)) rfl rfl rfl rfl rfl ?_
    refine Rg.opp (v := nat j) rfl rfl rfl rfl rfl ?_
    refine Rg.opp (v := .bool false) rfl rfl rfl (ev_eqF (a := (j - 1) / 2) (b := j) rfl rfl (by omega)) rfl ?_
    refine Rg.opp (v := .bool false) rfl rfl rfl rfl rfl ?_
    refine Rg.guards true rfl rfl rfl (fun _ => ⟨.iface 94 (.pointer (some ⟨q, 0, none⟩)), _, evW_op (rfl), rfl, ?_⟩) (fun h => by cases h)
    refine Rg.guards true rfl rfl rfl (fun _ => ⟨nat j, _, evW_op (rfl), rfl, ?_⟩) (fun h => by cases h)
    refine Rg.guards true rfl rfl rfl (fun _ => ⟨nat ((j - 1) / 2), _, evW_op (rfl), rfl, ?_⟩) (fun h => by cases h)
    by_cases hls : es.getD j 0 < es.getD ((j - 1) / 2) 0
    · skip
      obtain ⟨f', rfl⟩ : ∃ f', f = f' + 1 := ⟨f - 1, by omega⟩
      refine Rg.guards true rfl rfl rfl (fun _ => ⟨.bool true, _, evW_call rfl (callee_val rfl rfl (vload_box (hM.get_box (j := 0) rfl) rfl rfl rfl)) (qless_T (hM.get_sl (j := 1) rfl) (hj) (by omega) hls), rfl, ?_⟩) (fun h => by cases h)
      refine Rg.guards true rfl rfl rfl (fun _ => ⟨.bool false, _, evW_op (rfl), rfl, ?_⟩) (fun h => by cases h)
      refine Rg.opp (v := .bool false) rfl rfl rfl rfl rfl ?_
      refine Rg.nil ?_
      refine Runs.cond false rfl (fun h => by cases h) (fun _ => ?_)
      refine Runs.skip ?_
      refine Runs.seq ?_
      refine Runs.region ?_
      refine Rg.opp (v := .iface 94 (.pointer (some ⟨q, 0, none⟩))) rfl rfl rfl rfl rfl ?_
      refine Rg.opp (v := nat ((j - 1) / 2)) rfl rfl rfl rfl rfl ?_
      refine Rg.opp (v := nat j) rfl rfl rfl rfl rfl ?_
      refine Rg.callW rfl rfl rfl rfl (callee_val rfl rfl (vload_box (hM.get_box (j := 0) rfl) rfl rfl rfl)) rfl (qswap_runs (i := (j - 1) / 2) (j := j) hM.swap (by omega) (hj)) (fun r Hc hP => ?_)
      replace hM := hP.swap
      refine Rg.nil ?_
      refine Runs.region ?_
      refine Rg.opp (v := nat ((j - 1) / 2)) rfl rfl rfl rfl rfl ?_
      refine Rg.opp (v := nat ((j - 1) / 2)) rfl rfl rfl rfl rfl ?_
      refine Rg.nil ?_
      refine ⟨2 * ((j - 1) / 2), by omega, f', (j - 1) / 2, swapL es ((j - 1) / 2) j, rfl, hM, by omega, by rw [swapL_len]; omega, by rw [swapL_len]; omega, by rw [← hR, upF, if_neg (fun h => h.elim (fun h => by omega) (fun h => h hls))], Is.of ⟨rfl, rfl, rfl, rfl, trivial⟩⟩
    · skip
      refine Rg.guards true rfl rfl rfl (fun _ => ⟨.bool false, _, evW_call rfl (callee_val rfl rfl (vload_box (hM.get_box (j := 0) rfl) rfl rfl rfl)) (qless_F (hM.get_sl (j := 1) rfl) (hj) (by omega) hls), rfl, ?_⟩) (fun h => by cases h)
      refine Rg.guards true rfl rfl rfl (fun _ => ⟨.bool true, _, evW_op (rfl), rfl, ?_⟩) (fun h => by cases h)
      refine Rg.opp (v := .bool true) rfl rfl rfl rfl rfl ?_
      refine Rg.nil ?_
      refine Runs.cond true rfl (fun _ => ?_) (fun h => by cases h)
      refine Runs.exit ?_
      refine ⟨.tuple #[], rfl, ?_⟩
      have he : es = upF f0 es0 j0 := by
        rw [← hR]
        cases f with
        | zero => rfl
        | succ f => rw [upF, if_pos (.inr hls)]
      rw [← he]; exact hM

theorem down_runs {H0 H : Heap} {L : List Th} {q : Nat} {v : Value} {f0 i0 n : Nat} {es0 : List Nat} (hM : Mem H0 H (.box q 1 [v] :: .sl 1 v (es0.map encN) :: L)) (hf0 : n ≤ f0 + i0) (hi0 : i0 < es0.length) (hn0 : n ≤ es0.length) (hl0 : es0.length ≤ 2 ^ 30) :
    ∃ r H1, big tab 56 [.iface 94 (.pointer (some ⟨q, 0, none⟩)), nat i0, nat n] H = some (r, H1) ∧ Mem H0 H1 (.box q 1 [v] :: .sl 1 v ((downF f0 es0 i0 n).map encN) :: L) := by
  refine big_of_runs rfl rfl rfl ?_
  obtain ⟨z, hz⟩ := startC_mkS Try.f56 [.iface 94 (.pointer (some ⟨q, 0, none⟩)), nat i0, nat n]
  rw [show startC (56, Try.f56).snd [.iface 94 (.pointer (some ⟨q, 0, none⟩)), nat i0, nat n] = _ from hz]
  clear hz
  refine Runs.cut (n := 48) (l := [(0, .iface 94 (.pointer (some ⟨q, 0, none⟩))), (1, nat i0), (2, nat n)]) (Is.of ⟨rfl, rfl, rfl, rfl, rfl, rfl, trivial⟩) (fun a0 => ?_)
  refine Runs.seq ?_
  refine Runs.region ?_
  refine Rg.opp (v := .bool false) rfl rfl rfl rfl rfl ?_
  refine Rg.nil ?_
  refine Runs.seq ?_
  refine Runs.region ?_
  refine Rg.opp (v := nat i0) rfl rfl rfl rfl rfl ?_
  refine Rg.opp (v := nat i0) rfl rfl rfl rfl rfl ?_
  refine Rg.nil ?_
  refine Runs.seq ?_
  refine Runs.block ?_
  refine Runs.loop (fun m s Hc => ∃ (f : Nat) (i : Nat) (es : List Nat), m = n - i ∧ Mem H0 Hc ((.box q 1 [v]) :: (.sl 1 v (List.map encN es)) :: L) ∧ (n ≤ f + i) ∧ (i < es.length) ∧ (n ≤ es.length) ∧ (es.length ≤ 2 ^ 30) ∧ (downF f es i n = downF f0 es0 i0 n) ∧ Is s 48 [(0, .iface 94 (.pointer (some ⟨q, 0, none⟩))), (1, nat i0), (2, nat n), (7, nat i)]) _
    ⟨f0, i0, es0, rfl, hM, hf0, hi0, hn0, hl0, rfl, Is.of ⟨rfl, rfl, rfl, rfl, rfl, rfl, rfl, rfl, trivial⟩⟩ ?_
  rintro m s Hc ⟨f, i, es, rfl, hM, hf, hi, hn, hl, hR, hs⟩
  obtain ⟨a1, rfl⟩ := hs.mk1
  clear hs
  refine Runs.block ?_
  refine Runs.seq ?_
  refine Runs.region ?_
  refine Rg.opp (v := nat i) rfl rfl rfl rfl rfl ?_
  refine Rg.opp (v := nat (2 * i)) rfl rfl rfl (ev_mulN (a := 2) (b := i) rfl rfl (by omega)) rfl ?_
  refine Rg.opp (v := nat (2 * i + 1)) rfl rfl rfl (ev_addN (b := 1) rfl rfl (by omega)) rfl ?_
  refine Rg.opp (v := nat (2 * i + 1)) rfl rfl rfl rfl rfl ?_
  refine Rg.nil ?_
  refine Runs.seq ?_
  refine Runs.seq ?_
  refine Runs.region ?_
  refine Rg.opp (v := nat (2 * i + 1)) rfl rfl rfl rfl rfl ?_
  refine Rg.opp (v := nat n) rfl rfl rfl rfl rfl ?_
  by_cases hbig : n ≤ 2 * i + 1
  · skip
    refine Rg.opp (v := .bool true) rfl rfl rfl (ev_geT rfl rfl (hbig)) rfl ?_
    refine Rg.opp (v := .bool true) rfl rfl rfl rfl rfl ?_
    refine Rg.guards false rfl rfl rfl (fun h => by cases h) (fun _ => ?_)
    refine Rg.guards false rfl rfl rfl (fun h => by cases h) (fun _ => ?_)
    refine Rg.opp (v := .bool true) rfl rfl rfl rfl rfl ?_
    refine Rg.nil ?_
    refine Runs.cond true rfl (fun _ => ?_) (fun h => by cases h)
    refine Runs.exit ?_
    refine Runs.seq ?_
    refine Runs.region ?_
    refine Rg.opp (v := nat i) rfl rfl rfl rfl rfl ?_
    refine Rg.opp (v := nat i0) rfl rfl rfl rfl rfl ?_
    by_cases h2 : i0 < i
    · skip
      refine Rg.opp (v := .bool true) rfl rfl rfl (ev_gtT rfl rfl (h2)) rfl ?_
      refine Rg.opp (v := .bool true) rfl rfl rfl rfl rfl ?_
      refine Rg.nil ?_
      refine Runs.ret ?_
      refine ⟨.bool true, rfl, ?_⟩
      have he : es = downF f0 es0 i0 n := by
        rw [← hR]
        cases f with
        | zero => rfl
        | succ f => rw [downF, if_pos (by omega)]
      rw [← he]; exact hM
    · skip
      refine Rg.opp (v := .bool false) rfl rfl rfl (ev_gtF rfl rfl (h2)) rfl ?_
      refine Rg.opp (v := .bool false) rfl rfl rfl rfl rfl ?_
      refine Rg.nil ?_
      refine Runs.ret ?_
      refine ⟨.bool false, rfl, ?_⟩
      have he : es = downF f0 es0 i0 n := by
        rw [← hR]
        cases f with
        | zero => rfl
        | succ f => rw [downF, if_pos (by omega)]
      rw [← he]; exact hM
  · skip
    obtain ⟨f', rfl⟩ : ∃ f', f = f' + 1 := ⟨f - 1, by omega⟩
    refine Rg.opp (v := .bool false) rfl rfl rfl (ev_geF rfl rfl (hbig)) rfl ?_
    refine Rg.opp (v := .bool false) rfl rfl rfl rfl rfl ?_
    refine Rg.guards true rfl rfl rfl (fun _ => ⟨nat (2 * i + 1), _, evW_op (rfl), rfl, ?_⟩) (fun h => by cases h)
    refine Rg.guards true rfl rfl rfl (fun _ => ⟨.bool false, _, evW_op (ev_ltF (a := 2 * i + 1) (b := 0) rfl rfl (by omega)), rfl, ?_⟩) (fun h => by cases h)
    refine Rg.opp (v := .bool false) rfl rfl rfl rfl rfl ?_
    refine Rg.nil ?_
    refine Runs.cond false rfl (fun h => by cases h) (fun _ => ?_)
    refine Runs.skip ?_
    refine Runs.seq ?_
    refine Runs.region ?_
    refine Rg.opp (v := nat (2 * i + 1)) rfl rfl rfl rfl rfl ?_
    refine Rg.opp (v := nat (2 * i + 1)) rfl rfl rfl rfl rfl ?_
    refine Rg.nil ?_
    refine Runs.seq ?_
    refine Runs.seq ?_
    refine Runs.region ?_
    refine Rg.opp (v := nat (2 * i + 1)) rfl rfl rfl rfl rfl ?_
    refine Rg.opp (v := nat (2 * i + 1 + 1)) rfl rfl rfl (ev_addN (b := 1) rfl rfl (by omega)) rfl ?_
    refine Rg.opp (v := nat (2 * i + 1 + 1)) rfl rfl rfl rfl rfl ?_
    refine Rg.nil ?_
    refine Runs.seq ?_
    refine Runs.region ?_
    refine Rg.opp (v := nat (2 * i + 1 + 1)) rfl rfl rfl rfl rfl ?_
    refine Rg.opp (v := nat n) rfl rfl rfl rfl rfl ?_
    by_cases h2n : 2 * i + 1 + 1 < n
    · skip
      refine Rg.opp (v := .bool true) rfl rfl rfl (ev_ltT rfl rfl (h2n)) rfl ?_
      refine Rg.opp (v := .bool true) rfl rfl rfl rfl rfl ?_
      refine Rg.guards true rfl rfl rfl (fun _ => ⟨.iface 94 (.pointer (some ⟨q, 0, none⟩)), _, evW_op (rfl), rfl, ?_⟩) (fun h => by cases h)
      refine Rg.guards true rfl rfl rfl (fun _ => ⟨nat (2 * i + 1 + 1), _, evW_op (rfl), rfl, ?_⟩) (fun h => by cases h)
      refine Rg.guards true rfl rfl rfl (fun _ => ⟨nat (2 * i + 1), _, evW_op (rfl), rfl, ?_⟩) (fun h => by cases h)
      by_cases hls1 : es.getD (2 * i + 1 + 1) 0 < es.getD (2 * i + 1) 0
      · skip
        refine Rg.guards true rfl rfl rfl (fun _ => ⟨.bool true, _, evW_call rfl (callee_val rfl rfl (vload_box (hM.get_box (j := 0) rfl) rfl rfl rfl)) (qless_T (hM.get_sl (j := 1) rfl) (by omega) (by omega) hls1), rfl, ?_⟩) (fun h => by cases h)
        refine Rg.opp (v := .bool true) rfl rfl rfl rfl rfl ?_
        refine Rg.nil ?_
        refine Runs.cond true rfl (fun _ => ?_) (fun h => by cases h)
        refine Runs.region ?_
        refine Rg.opp (v := nat (2 * i + 1 + 1)) rfl rfl rfl rfl rfl ?_
        refine Rg.opp (v := nat (2 * i + 1 + 1)) rfl rfl rfl rfl rfl ?_
        refine Rg.nil ?_
        refine Runs.seq ?_
        refine Runs.seq ?_
        refine Runs.region ?_
        refine Rg.opp (v := .iface 94 (.pointer (some ⟨q, 0, none⟩))) rfl rfl rfl rfl rfl ?_
        refine Rg.opp (v := nat (2 * i + 1 + 1)) rfl rfl rfl rfl rfl ?_
        refine Rg.opp (v := nat i) rfl rfl rfl rfl rfl ?_
        by_cases hls2 : es.getD (2 * i + 1 + 1) 0 < es.getD i 0
        · skip
          refine Rg.calls (v := .bool true) rfl rfl rfl rfl (callee_val rfl rfl (vload_box (hM.get_box (j := 0) rfl) rfl rfl rfl)) rfl (qless_T (hM.get_sl (j := 1) rfl) (by omega) (by omega) hls2) ?_
          refine Rg.opp (v := .bool false) rfl rfl rfl rfl rfl ?_
          refine Rg.nil ?_
          refine Runs.cond false rfl (fun h => by cases h) (fun _ => ?_)
          refine Runs.skip ?_
          refine Runs.seq ?_
          refine Runs.region ?_
          refine Rg.opp (v := .iface 94 (.pointer (some ⟨q, 0, none⟩))) rfl rfl rfl rfl rfl ?_
          refine Rg.opp (v := nat i) rfl rfl rfl rfl rfl ?_
          refine Rg.opp (v := nat (2 * i + 1 + 1)) rfl rfl rfl rfl rfl ?_
          refine Rg.callW rfl rfl rfl rfl (callee_val rfl rfl (vload_box (hM.get_box (j := 0) rfl) rfl rfl rfl)) rfl (qswap_runs (i := i) (j := 2 * i + 1 + 1) hM.swap (by omega) (by omega)) (fun r Hc hP => ?_)
          replace hM := hP.swap
          refine Rg.nil ?_
          refine Runs.region ?_
          refine Rg.opp (v := nat (2 * i + 1 + 1)) rfl rfl rfl rfl rfl ?_
          refine Rg.opp (v := nat (2 * i + 1 + 1)) rfl rfl rfl rfl rfl ?_
          refine Rg.nil ?_
          refine ⟨n - (2 * i + 1 + 1), by omega, f', 2 * i + 1 + 1, swapL es i (2 * i + 1 + 1), rfl, hM, by omega, by rw [swapL_len]; omega, by rw [swapL_len]; omega, by rw [swapL_len]; omega, by rw [← hR, downF, if_neg (by omega)]; have hdj : dj es i n = 2 * i + 1 + 1 := if_pos ⟨h2n, hls1⟩; rw [hdj, if_neg (fun h => h hls2)], Is.of ⟨rfl, rfl, rfl, rfl, rfl, rfl, rfl, rfl, trivial⟩⟩
        · skip
          refine Rg.calls (v := .bool false) rfl rfl rfl rfl (callee_val rfl rfl (vload_box (hM.get_box (j := 0) rfl) rfl rfl rfl)) rfl (qless_F (hM.get_sl (j := 1) rfl) (by omega) (by omega) hls2) ?_
          refine Rg.opp (v := .bool true) rfl rfl rfl rfl rfl ?_
          refine Rg.nil ?_
          refine Runs.cond true rfl (fun _ => ?_) (fun h => by cases h)
          refine Runs.exit ?_
          refine Runs.seq ?_
          refine Runs.region ?_
          refine Rg.opp (v := nat i) rfl rfl rfl rfl rfl ?_
          refine Rg.opp (v := nat i0) rfl rfl rfl rfl rfl ?_
          by_cases h3 : i0 < i
          · skip
            refine Rg.opp (v := .bool true) rfl rfl rfl (ev_gtT rfl rfl (h3)) rfl ?_
            refine Rg.opp (v := .bool true) rfl rfl rfl rfl rfl ?_
            refine Rg.nil ?_
            refine Runs.ret ?_
            refine ⟨.bool true, rfl, ?_⟩
            have he : es = downF f0 es0 i0 n := by
              rw [← hR, downF, if_neg (by omega)]
              have hdj : dj es i n = 2 * i + 1 + 1 := if_pos ⟨h2n, hls1⟩
              rw [hdj, if_pos hls2]
            rw [← he]; exact hM
          · skip
            refine Rg.opp (v := .bool false) rfl rfl rfl (ev_gtF rfl rfl (h3)) rfl ?_
            refine Rg.opp (v := .bool false) rfl rfl rfl rfl rfl ?_
            refine Rg.nil ?_
            refine Runs.ret ?_
            refine ⟨.bool false, rfl, ?_⟩
            have he : es = downF f0 es0 i0 n := by
              rw [← hR, downF, if_neg (by omega)]
              have hdj : dj es i n = 2 * i + 1 + 1 := if_pos ⟨h2n, hls1⟩
              rw [hdj, if_pos hls2]
            rw [← he]; exact hM
      · skip
        refine Rg.guards true rfl rfl rfl (fun _ => ⟨.bool false, _, evW_call rfl (callee_val rfl rfl (vload_box (hM.get_box (j := 0) rfl) rfl rfl rfl)) (qless_F (hM.get_sl (j := 1) rfl) (by omega) (by omega) hls1), rfl, ?_⟩) (fun h => by cases h)
        refine Rg.opp (v := .bool false) rfl rfl rfl rfl rfl ?_
        refine Rg.nil ?_
        refine Runs.cond false rfl (fun h => by cases h) (fun _ => ?_)
        refine Runs.skip ?_
        refine Runs.seq ?_
        refine Runs.seq ?_
        refine Runs.region ?_
        refine Rg.opp (v := .iface 94 (.pointer (some ⟨q, 0, none⟩))) rfl rfl rfl rfl rfl ?_
        refine Rg.opp (v := nat (2 * i + 1)) rfl rfl rfl rfl rfl ?_
        refine Rg.opp (v := nat i) rfl rfl rfl rfl rfl ?_
        by_cases hls2 : es.getD (2 * i + 1) 0 < es.getD i 0
        · skip
          refine Rg.calls (v := .bool true) rfl rfl rfl rfl (callee_val rfl rfl (vload_box (hM.get_box (j := 0) rfl) rfl rfl rfl)) rfl (qless_T (hM.get_sl (j := 1) rfl) (by omega) (by omega) hls2) ?_
          refine Rg.opp (v := .bool false) rfl rfl rfl rfl rfl ?_
          refine Rg.nil ?_
          refine Runs.cond false rfl (fun h => by cases h) (fun _ => ?_)
          refine Runs.skip ?_
          refine Runs.seq ?_
          refine Runs.region ?_
          refine Rg.opp (v := .iface 94 (.pointer (some ⟨q, 0, none⟩))) rfl rfl rfl rfl rfl ?_
          refine Rg.opp (v := nat i) rfl rfl rfl rfl rfl ?_
          refine Rg.opp (v := nat (2 * i + 1)) rfl rfl rfl rfl rfl ?_
          refine Rg.callW rfl rfl rfl rfl (callee_val rfl rfl (vload_box (hM.get_box (j := 0) rfl) rfl rfl rfl)) rfl (qswap_runs (i := i) (j := 2 * i + 1) hM.swap (by omega) (by omega)) (fun r Hc hP => ?_)
          replace hM := hP.swap
          refine Rg.nil ?_
          refine Runs.region ?_
          refine Rg.opp (v := nat (2 * i + 1)) rfl rfl rfl rfl rfl ?_
          refine Rg.opp (v := nat (2 * i + 1)) rfl rfl rfl rfl rfl ?_
          refine Rg.nil ?_
          refine ⟨n - (2 * i + 1), by omega, f', 2 * i + 1, swapL es i (2 * i + 1), rfl, hM, by omega, by rw [swapL_len]; omega, by rw [swapL_len]; omega, by rw [swapL_len]; omega, by rw [← hR, downF, if_neg (by omega)]; have hdj : dj es i n = 2 * i + 1 := if_neg (fun h => hls1 h.2); rw [hdj, if_neg (fun h => h hls2)], Is.of ⟨rfl, rfl, rfl, rfl, rfl, rfl, rfl, rfl, trivial⟩⟩
        · skip
          refine Rg.calls (v := .bool false) rfl rfl rfl rfl (callee_val rfl rfl (vload_box (hM.get_box (j := 0) rfl) rfl rfl rfl)) rfl (qless_F (hM.get_sl (j := 1) rfl) (by omega) (by omega) hls2) ?_
          refine Rg.opp (v := .bool true) rfl rfl rfl rfl rfl ?_
          refine Rg.nil ?_
          refine Runs.cond true rfl (fun _ => ?_) (fun h => by cases h)
          refine Runs.exit ?_
          refine Runs.seq ?_
          refine Runs.region ?_
          refine Rg.opp (v := nat i) rfl rfl rfl rfl rfl ?_
          refine Rg.opp (v := nat i0) rfl rfl rfl rfl rfl ?_
          by_cases h4 : i0 < i
          · skip
            refine Rg.opp (v := .bool true) rfl rfl rfl (ev_gtT rfl rfl (h4)) rfl ?_
            refine Rg.opp (v := .bool true) rfl rfl rfl rfl rfl ?_
            refine Rg.nil ?_
            refine Runs.ret ?_
            refine ⟨.bool true, rfl, ?_⟩
            have he : es = downF f0 es0 i0 n := by
              rw [← hR, downF, if_neg (by omega)]
              have hdj : dj es i n = 2 * i + 1 := if_neg (fun h => hls1 h.2)
              rw [hdj, if_pos hls2]
            rw [← he]; exact hM
          · skip
            refine Rg.opp (v := .bool false) rfl rfl rfl (ev_gtF rfl rfl (h4)) rfl ?_
            refine Rg.opp (v := .bool false) rfl rfl rfl rfl rfl ?_
            refine Rg.nil ?_
            refine Runs.ret ?_
            refine ⟨.bool false, rfl, ?_⟩
            have he : es = downF f0 es0 i0 n := by
              rw [← hR, downF, if_neg (by omega)]
              have hdj : dj es i n = 2 * i + 1 := if_neg (fun h => hls1 h.2)
              rw [hdj, if_pos hls2]
            rw [← he]; exact hM
    · skip
      refine Rg.opp (v := .bool false) rfl rfl rfl (ev_ltF rfl rfl (h2n)) rfl ?_
      refine Rg.opp (v := .bool false) rfl rfl rfl rfl rfl ?_
      refine Rg.guards false rfl rfl rfl (fun h => by cases h) (fun _ => ?_)
      refine Rg.guards false rfl rfl rfl (fun h => by cases h) (fun _ => ?_)
      refine Rg.guards false rfl rfl rfl (fun h => by cases h) (fun _ => ?_)
      refine Rg.guards false rfl rfl rfl (fun h => by cases h) (fun _ => ?_)
      refine Rg.opp (v := .bool false) rfl rfl rfl rfl rfl ?_
      refine Rg.nil ?_
      refine Runs.cond false rfl (fun h => by cases h) (fun _ => ?_)
      refine Runs.skip ?_
      refine Runs.seq ?_
      refine Runs.seq ?_
      refine Runs.region ?_
      refine Rg.opp (v := .iface 94 (.pointer (some ⟨q, 0, none⟩))) rfl rfl rfl rfl rfl ?_
      refine Rg.opp (v := nat (2 * i + 1)) rfl rfl rfl rfl rfl ?_
      refine Rg.opp (v := nat i) rfl rfl rfl rfl rfl ?_
      by_cases hls2 : es.getD (2 * i + 1) 0 < es.getD i 0
      · skip
        refine Rg.calls (v := .bool true) rfl rfl rfl rfl (callee_val rfl rfl (vload_box (hM.get_box (j := 0) rfl) rfl rfl rfl)) rfl (qless_T (hM.get_sl (j := 1) rfl) (by omega) (by omega) hls2) ?_
        refine Rg.opp (v := .bool false) rfl rfl rfl rfl rfl ?_
        refine Rg.nil ?_
        refine Runs.cond false rfl (fun h => by cases h) (fun _ => ?_)
        refine Runs.skip ?_
        refine Runs.seq ?_
        refine Runs.region ?_
        refine Rg.opp (v := .iface 94 (.pointer (some ⟨q, 0, none⟩))) rfl rfl rfl rfl rfl ?_
        refine Rg.opp (v := nat i) rfl rfl rfl rfl rfl ?_
        refine Rg.opp (v := nat (2 * i + 1)) rfl rfl rfl rfl rfl ?_
        refine Rg.callW rfl rfl rfl rfl (callee_val rfl rfl (vload_box (hM.get_box (j := 0) rfl) rfl rfl rfl)) rfl (qswap_runs (i := i) (j := 2 * i + 1) hM.swap (by omega) (by omega)) (fun r Hc hP => ?_)
        replace hM := hP.swap
        refine Rg.nil ?_
        refine Runs.region ?_
        refine Rg.opp (v := nat (2 * i + 1)) rfl rfl rfl rfl rfl ?_
        refine Rg.opp (v := nat (2 * i + 1)) rfl rfl rfl rfl rfl ?_
        refine Rg.nil ?_
        refine ⟨n - (2 * i + 1), by omega, f', 2 * i + 1, swapL es i (2 * i + 1), rfl, hM, by omega, by rw [swapL_len]; omega, by rw [swapL_len]; omega, by rw [swapL_len]; omega, by rw [← hR, downF, if_neg (by omega)]; have hdj : dj es i n = 2 * i + 1 := if_neg (fun h => h2n h.1); rw [hdj, if_neg (fun h => h hls2)], Is.of ⟨rfl, rfl, rfl, rfl, rfl, rfl, rfl, rfl, trivial⟩⟩
      · skip
        refine Rg.calls (v := .bool false) rfl rfl rfl rfl (callee_val rfl rfl (vload_box (hM.get_box (j := 0) rfl) rfl rfl rfl)) rfl (qless_F (hM.get_sl (j := 1) rfl) (by omega) (by omega) hls2) ?_
        refine Rg.opp (v := .bool true) rfl rfl rfl rfl rfl ?_
        refine Rg.nil ?_
        refine Runs.cond true rfl (fun _ => ?_) (fun h => by cases h)
        refine Runs.exit ?_
        refine Runs.seq ?_
        refine Runs.region ?_
        refine Rg.opp (v := nat i) rfl rfl rfl rfl rfl ?_
        refine Rg.opp (v := nat i0) rfl rfl rfl rfl rfl ?_
        by_cases h5 : i0 < i
        · skip
          refine Rg.opp (v := .bool true) rfl rfl rfl (ev_gtT rfl rfl (h5)) rfl ?_
          refine Rg.opp (v := .bool true) rfl rfl rfl rfl rfl ?_
          refine Rg.nil ?_
          refine Runs.ret ?_
          refine ⟨.bool true, rfl, ?_⟩
          have he : es = downF f0 es0 i0 n := by
            rw [← hR, downF, if_neg (by omega)]
            have hdj : dj es i n = 2 * i + 1 := if_neg (fun h => h2n h.1)
            rw [hdj, if_pos hls2]
          rw [← he]; exact hM
        · skip
          refine Rg.opp (v := .bool false) rfl rfl rfl (ev_gtF rfl rfl (h5)) rfl ?_
          refine Rg.opp (v := .bool false) rfl rfl rfl rfl rfl ?_
          refine Rg.nil ?_
          refine Runs.ret ?_
          refine ⟨.bool false, rfl, ?_⟩
          have he : es = downF f0 es0 i0 n := by
            rw [← hR, downF, if_neg (by omega)]
            have hdj : dj es i n = 2 * i + 1 := if_neg (fun h => h2n h.1)
            rw [hdj, if_pos hls2]
          rw [← he]; exact hM

theorem push_runs {H0 H : Heap} {L : List Th} {q : Nat} {v : Value} {es : List Nat} {x : Nat} (hM : Mem H0 H (.box q 1 [v] :: .sl 1 v (es.map encN) :: L)) (hl : es.length ≤ 2 ^ 20) :
    ∃ r H1, big tab 44 [.iface 94 (.pointer (some ⟨q, 0, none⟩)), .iface 3 (nat x)] H = some (r, H1) ∧ ∃ v1, Mem H0 H1 (.box q 1 [v1] :: .sl 1 v1 ((pushF es x).map encN) :: L) ∧ Grown v1 := by
  refine big_of_runs rfl rfl rfl ?_
  obtain ⟨z, hz⟩ := startC_mkS Try.f44 [.iface 94 (.pointer (some ⟨q, 0, none⟩)), .iface 3 (nat x)]
  rw [show startC (44, Try.f44).snd [.iface 94 (.pointer (some ⟨q, 0, none⟩)), .iface 3 (nat x)] = _ from hz]
  clear hz
  refine Runs.cut (n := 12) (l := [(0, .iface 94 (.pointer (some ⟨q, 0, none⟩))), (1, .iface 3 (nat x))]) (Is.of ⟨rfl, rfl, rfl, rfl, trivial⟩) (fun a0 => ?_)
  refine Runs.seq ?_
  refine Runs.region ?_
  refine Rg.opp (v := .iface 94 (.pointer (some ⟨q, 0, none⟩))) rfl rfl rfl rfl rfl ?_
  refine Rg.opp (v := .iface 3 (nat x)) rfl rfl rfl rfl rfl ?_
  refine Rg.callW rfl rfl rfl rfl (rfl) rfl (qpush_runs (x := x) hM (by omega)) (fun r1 Hc hP => ?_)
  obtain ⟨v1, hM, hgv⟩ := hP
  refine Rg.nil ?_
  refine Runs.region ?_
  refine Rg.opp (v := .iface 94 (.pointer (some ⟨q, 0, none⟩))) rfl rfl rfl rfl rfl ?_
  refine Rg.opp (v := .iface 94 (.pointer (some ⟨q, 0, none⟩))) rfl rfl rfl rfl rfl ?_
  refine Rg.calls (v := nat (es.length + 1)) rfl rfl rfl rfl (callee_val rfl rfl (vload_box (hM.get_box (j := 0) rfl) rfl rfl rfl)) rfl (by have h0 := qlen_runs (hM.get_sl (j := 1) rfl); rw [List.length_append] at h0; exact h0) ?_
  refine Rg.opp (v := nat (es.length + 1 - 1)) rfl rfl rfl (ev_subN (a := es.length + 1) (b := 1) rfl rfl (by omega) (by omega)) rfl ?_
  refine Rg.callW rfl rfl rfl rfl (rfl) rfl (up_runs (f0 := es.length) (j0 := es.length) hM (Nat.le_refl _) (by simp) (by rw [List.length_append]; show es.length + 1 ≤ _; omega)) (fun r2 Hc hP => ?_)
  replace hM := hP
  refine Rg.nil ?_
  refine ⟨.tuple #[], rfl, ?_⟩
  exact ⟨v1, hM, hgv⟩

theorem popL_len (es : List Nat) : (popL es).length = es.length := by unfold popL; rw [downF_len, swapL_len]
theorem popM_is {es : List Nat} (h : 1 ≤ es.length) : (popL es)[(popL es).length - 1]'(by rw [popL_len]; omega) = popM es := by
  have h1 : es.length - 1 < (popL es).length := by rw [popL_len]; omega
  unfold popM
  rw [getD_get h1]
  congr 1
  rw [popL_len]
theorem popR_is (es : List Nat) : (popL es).take ((popL es).length - 1) = popR es := by unfold popR; rw [popL_len]
theorem pop_runs {H0 H : Heap} {L : List Th} {q : Nat} {v : Value} {es : List Nat} (hM : Mem H0 H (.box q 1 [v] :: .sl 1 v (es.map encN) :: L)) (hgr : Grown v) (hl : es.length ≤ 2 ^ 20) (hp : 1 ≤ es.length) :
    ∃ r H1, big tab 46 [.iface 94 (.pointer (some ⟨q, 0, none⟩))] H = some (r, H1) ∧ r = .iface 3 (nat (popM es)) ∧ ∃ v1, Mem H0 H1 (.box q 1 [v1] :: .sl 1 v1 ((popR es).map encN) :: L) ∧ Grown v1 := by
  refine big_of_runs rfl rfl rfl ?_
  obtain ⟨z, hz⟩ := startC_mkS Try.f46 [.iface 94 (.pointer (some ⟨q, 0, none⟩))]
  rw [show startC (46, Try.f46).snd [.iface 94 (.pointer (some ⟨q, 0, none⟩))] = _ from hz]
  clear hz
  refine Runs.cut (n := 15) (l := [(0, .iface 94 (.pointer (some ⟨q, 0, none⟩)))]) (Is.of ⟨rfl, rfl, trivial⟩) (fun a0 => ?_)
  refine Runs.seq ?_
  refine Runs.region ?_
  refine Rg.opp (v := .nilIface) rfl rfl rfl rfl rfl ?_
  refine Rg.nil ?_
  refine Runs.seq ?_
  refine Runs.region ?_
  refine Rg.opp (v := .iface 94 (.pointer (some ⟨q, 0, none⟩))) rfl rfl rfl rfl rfl ?_
  refine Rg.calls (v := nat es.length) rfl rfl rfl rfl (callee_val rfl rfl (vload_box (hM.get_box (j := 0) rfl) rfl rfl rfl)) rfl (qlen_runs (hM.get_sl (j := 1) rfl)) ?_
  refine Rg.opp (v := nat (es.length - 1)) rfl rfl rfl (ev_subN (a := es.length) (b := 1) rfl rfl (hp) (by omega)) rfl ?_
  refine Rg.opp (v := nat (es.length - 1)) rfl rfl rfl rfl rfl ?_
  refine Rg.nil ?_
  refine Runs.seq ?_
  refine Runs.region ?_
  refine Rg.opp (v := .iface 94 (.pointer (some ⟨q, 0, none⟩))) rfl rfl rfl rfl rfl ?_
  refine Rg.opp (v := nat (es.length - 1)) rfl rfl rfl rfl rfl ?_
  refine Rg.callW rfl rfl rfl rfl (callee_val rfl rfl (vload_box (hM.get_box (j := 0) rfl) rfl rfl rfl)) rfl (qswap_runs (i := 0) (j := es.length - 1) hM.swap (by omega) (by omega)) (fun r1 Hc hP => ?_)
  replace hM := hP.swap
  refine Rg.nil ?_
  refine Runs.seq ?_
  refine Runs.region ?_
  refine Rg.opp (v := .iface 94 (.pointer (some ⟨q, 0, none⟩))) rfl rfl rfl rfl rfl ?_
  refine Rg.opp (v := nat (es.length - 1)) rfl rfl rfl rfl rfl ?_
  refine Rg.callW rfl rfl rfl rfl (rfl) rfl (down_runs (f0 := es.length) (i0 := 0) (n := es.length - 1) hM (by omega) (by rw [swapL_len]; omega) (by rw [swapL_len]; omega) (by rw [swapL_len]; omega)) (fun r2 Hc hP => ?_)
  replace hM : Mem H0 Hc (.box q 1 [v] :: .sl 1 v ((popL es).map encN) :: L) := hP
  refine Rg.nil ?_
  refine Runs.seq ?_
  refine Runs.region ?_
  refine Rg.opp (v := .iface 94 (.pointer (some ⟨q, 0, none⟩))) rfl rfl rfl rfl rfl ?_
  refine Rg.callW rfl rfl rfl rfl (rfl) rfl (qpop_runs hM hgr (by rw [popL_len]; omega) (by rw [popL_len]; exact hp)) (fun r3 Hc hP => ?_)
  obtain ⟨hr, v1, hM, hg1⟩ := hP
  rw [show (popL es)[(popL es).length - 1]'(by rw [popL_len]; omega) = popM es from popM_is hp] at hr
  subst hr
  rw [popR_is] at hM
  refine Rg.opp (v := .iface 3 (nat (popM es))) rfl rfl rfl rfl rfl ?_
  refine Rg.nil ?_
  refine Runs.ret ?_
  refine ⟨.iface 3 (nat (popM es)), rfl, ?_⟩
  exact ⟨rfl, v1, hM, hg1⟩


end Go.Proofs.Ytdhbclplondmjaa.C

end
