/- Texts of one's own, laid together: Xe, X21, Xf, X22, X22o, Xg, X24, Xi -/
import Derived.Test.YtdhbclplondmjaaQc28
import Derived.Test.YtdhbclplondmjaaQc27
import Derived.Test.YtdhbclplondmjaaQc23
section
/- A least cycle: what the program's search for one keeps. -/
set_option linter.unusedVariables false
set_option linter.unusedSimpArgs false
namespace Go.Proofs.Ytdhbclplondmjaa.C
open Go.RowKit Go.Sort

/-- A block lies there. -/
def At (H : Heap) (p sz : Nat) (cs : List Value) : Prop := ∃ own, H[p]? = some (.row sz cs own true)
theorem At.sees {H K : Heap} (h : Sees H K) {p sz : Nat} {cs : List Value} (g : At H p sz cs) : At K p sz cs := by
  obtain ⟨o, g⟩ := g
  exact h _ _ _ _ g

theorem quiet_val {f : FuncId} {args : List Value} {H : Heap} {T : Tab} {P : Value → Prop} (h : ∃ r H1, big T f args (H.map Blk.freeze) = some (r, H1) ∧ P r ∧ Ext (H.map Blk.freeze) H1) :
    ∃ r K, quiet (big T) f args H = some (r, K) ∧ P r ∧ Ext H K := by
  obtain ⟨r, H1, h1, h2, h3⟩ := h
  obtain ⟨K, k1, k2, k3, k4⟩ := quiet_some h1 h3
  exact ⟨r, K, k1, h2, k2⟩

/-- Is this an arc to go on by? -/
def prB (a : Arc) (D : Nat → Int) (q : Nat) (b : Arc) : Bool := decide (a.i < b.i) && decide (D b.up = D q - 1)

theorem distF_self (A : List Arc) (to : Nat) : distF A to to = 0 := by
  have := distF_walk (A := A) (to := to) (x := to) (k := 0) rfl
  omega

theorem W.cons {A : List (Nat × Nat)} {k a b c : Nat} (h : (a, b) ∈ A) (w : W A k b c) : W A (k + 1) a c := by
  have h4 : W A 1 a b := ⟨a, rfl, h⟩
  have := h4.trans w
  rw [Nat.add_comm] at this
  exact this

theorem distF_step {A : List Arc} {to : Nat} {b : Arc} (hb : b ∈ A) (h : 0 ≤ distF A to b.up) : 0 ≤ distF A to b.lo ∧ distF A to b.lo ≤ distF A to b.up + 1 := by
  have h1 := distF_some h
  have h2 := distF_walk (W.cons (List.mem_map.2 ⟨b, hb, rfl⟩ : (b.lo, b.up) ∈ prs A) h1)
  omega

theorem distF_next {arcs : List Arc} {a : Arc} {to q : Nat} (h0 : 0 ≤ distF (abv arcs ((a.i : Nat) : Int)) to q) (hq : q ≠ to) :
    1 ≤ distF (abv arcs ((a.i : Nat) : Int)) to q ∧ ∃ k, ∃ h : k < (nextOf arcs q).length, prB a (distF (abv arcs ((a.i : Nat) : Int)) to) q (nextOf arcs q)[k] = true := by
  have h1 := distF_some h0
  have hp : 1 ≤ distF (abv arcs ((a.i : Nat) : Int)) to q := by
    rcases Int.lt_or_le (distF (abv arcs ((a.i : Nat) : Int)) to q) 1 with z | z
    · rw [show (distF (abv arcs ((a.i : Nat) : Int)) to q).toNat = 0 by omega] at h1
      exact absurd h1 hq
    · exact z
  refine ⟨hp, ?_⟩
  rw [show (distF (abv arcs ((a.i : Nat) : Int)) to q).toNat = ((distF (abv arcs ((a.i : Nat) : Int)) to q).toNat - 1) + 1 by omega] at h1
  obtain ⟨y, hy, hw⟩ := h1.head
  obtain ⟨b, hb, e⟩ := List.mem_map.1 hy
  obtain ⟨hb1, hb2⟩ := List.mem_filter.1 hb
  have e1 : b.lo = q := (Prod.mk.inj e).1
  have e2 : b.up = y := (Prod.mk.inj e).2
  obtain ⟨k, hk, hkb⟩ := List.mem_iff_getElem.1 (next_mem.2 ⟨hb1, e1⟩ : b ∈ nextOf arcs q)
  refine ⟨k, hk, ?_⟩
  rw [hkb]
  have h3 := distF_walk hw
  have h4 := distF_step hb (by rw [e2]; exact h3.1)
  rw [e1, e2] at h4
  have hb3 : a.i < b.i := by have := of_decide_eq_true hb2; omega
  unfold prB
  rw [decide_eq_true hb3, e2, decide_eq_true (by omega)]
  rfl

/-- The length of a least cycle through an arc, less one. -/
noncomputable def cd (arcs : List Arc) (a : Arc) : Int := distF (abv arcs (-1)) a.lo a.up

theorem abv_all (arcs : List Arc) : abv arcs (-1) = arcs := by
  unfold abv
  rw [List.filter_eq_self]
  intro a _
  exact decide_eq_true (by omega)

structure LeastUp (arcs : List Arc) (j : Nat) (ls : Int) : Prop where
  nn : 0 ≤ ls
  at' : 0 < ls → ∃ k, ∃ h : k < arcs.length, cd arcs arcs[k] = ls - 1
  le : ∀ k (h : k < arcs.length), k < j → 0 ≤ cd arcs arcs[k] → 0 < ls ∧ ls ≤ cd arcs arcs[k] + 1

theorem LeastUp.start (arcs : List Arc) : LeastUp arcs 0 0 := ⟨by omega, fun h => by omega, fun k h q => by omega⟩
theorem LeastUp.step {arcs : List Arc} {j : Nat} {ls ls1 : Int} (h : LeastUp arcs j ls) (hlt : j < arcs.length)
    (hc : (0 ≤ cd arcs arcs[j] ∧ (ls = 0 ∨ cd arcs arcs[j] + 1 < ls) ∧ ls1 = cd arcs arcs[j] + 1) ∨ (ls1 = ls ∧ (cd arcs arcs[j] < 0 ∨ (ls ≠ 0 ∧ ls ≤ cd arcs arcs[j] + 1)))) : LeastUp arcs (j + 1) ls1 := by
  have hn := h.nn
  refine ⟨by omega, fun hp => ?_, fun k hk hkj hd => ?_⟩
  · rcases hc with ⟨h1, h2, h3⟩ | ⟨h1, h2⟩
    · exact ⟨j, hlt, by omega⟩
    · rw [h1] at hp ⊢; exact h.at' hp
  · rcases Nat.lt_or_ge k j with q | q
    · have := h.le k hk q hd
      omega
    · have e : k = j := by omega
      subst e
      omega

theorem abv_split {arcs : List Arc} {t : Int} : ∀ {k x y : Nat}, W (prs (abv arcs t)) k x y → W (prs (abv arcs (t + 1))) k x y ∨ ∃ a ∈ arcs, ((a.i : Nat) : Int) = t + 1 ∧ ∃ k1 k2, k = k1 + 1 + k2 ∧ W (prs (abv arcs t)) k1 x a.lo ∧ W (prs (abv arcs t)) k2 a.up y
  | 0, x, y, h => .inl h
  | k + 1, x, y, ⟨z, h, hm⟩ => by
    obtain ⟨b, hb, e⟩ := List.mem_map.1 hm
    obtain ⟨hb1, hb2⟩ := List.mem_filter.1 hb
    have hb3 := of_decide_eq_true hb2
    have e1 : b.lo = z := (Prod.mk.inj e).1
    have e2 : b.up = y := (Prod.mk.inj e).2
    by_cases q : ((b.i : Nat) : Int) = t + 1
    · exact .inr ⟨b, hb1, q, k, 0, by omega, by rw [e1]; exact h, by rw [e2]; rfl⟩
    · rcases abv_split h with h1 | ⟨a, ha, hai, k1, k2, hk, w1, w2⟩
      · exact .inl ⟨z, h1, List.mem_map.2 ⟨b, List.mem_filter.2 ⟨hb1, decide_eq_true (by omega)⟩, e⟩⟩
      · exact .inr ⟨a, ha, hai, k1, k2 + 1, by omega, w1, ⟨z, w2, hm⟩⟩

theorem abv_sub {arcs : List Arc} {t : Int} : ∀ {k x y : Nat}, W (prs (abv arcs t)) k x y → W (prs arcs) k x y
  | 0, x, y, h => h
  | k + 1, x, y, ⟨z, h, hm⟩ => ⟨z, abv_sub h, by
    obtain ⟨b, hb, e⟩ := List.mem_map.1 hm
    exact List.mem_map.2 ⟨b, (List.mem_filter.1 hb).1, e⟩⟩

/-- No closed walk is shorter. -/
theorem LeastUp.min {arcs : List Arc} {ls : Int} (h : LeastUp arcs arcs.length ls) {k x : Nat} (hk : 1 ≤ k) (w : W (prs arcs) k x x) : 0 < ls ∧ ls ≤ k := by
  obtain ⟨k, rfl⟩ : ∃ j, k = j + 1 := ⟨k - 1, by omega⟩
  obtain ⟨y, hy, hw⟩ := w.head
  obtain ⟨a, ha, e⟩ := List.mem_map.1 hy
  have e1 : a.lo = x := (Prod.mk.inj e).1
  have e2 : a.up = y := (Prod.mk.inj e).2
  obtain ⟨j, hj, rfl⟩ := List.mem_iff_getElem.1 ha
  have h1 : 0 ≤ cd arcs arcs[j] ∧ cd arcs arcs[j] ≤ k := by
    unfold cd
    rw [abv_all, e1, e2]
    exact distF_walk hw
  have h2 := h.le j hj hj h1.1
  omega

theorem LeastUp.found {arcs : List Arc} {ls : Int} (h : LeastUp arcs arcs.length ls) (hu : ∀ a ∈ arcs, ∀ b ∈ arcs, a.i = b.i → a = b) (hc : Cyc arcs) :
    ls ≠ 0 ∧ ∃ a ∈ arcs, distF (abv arcs ((a.i : Nat) : Int)) a.lo a.up = ls - 1 := by
  obtain ⟨x, k, hk, w⟩ := hc
  have h1 := h.min hk w
  refine ⟨by omega, ?_⟩
  obtain ⟨k0, hk0, he⟩ := h.at' h1.1
  have hP : ∃ x, W (prs (abv arcs (-1))) ls.toNat x x := by
    unfold cd at he
    have hw := distF_some (A := abv arcs (-1)) (to := arcs[k0].lo) (x := arcs[k0].up) (by omega)
    rw [he] at hw
    refine ⟨arcs[k0].lo, ?_⟩
    have := W.cons (List.mem_map.2 ⟨arcs[k0], by rw [abv_all]; exact List.getElem_mem hk0, rfl⟩ : (arcs[k0].lo, arcs[k0].up) ∈ prs (abv arcs (-1))) hw
    rwa [show (ls - 1).toNat + 1 = ls.toNat by omega] at this
  have hT : ∃ t : Int, (∃ x, W (prs (abv arcs t)) ls.toNat x x) ∧ ¬ ∃ x, W (prs (abv arcs (t + 1))) ls.toNat x x := by
    refine Classical.byContradiction fun hno => ?_
    have hall : ∀ m : Nat, ∃ x, W (prs (abv arcs ((m : Int) - 1))) ls.toNat x x := by
      intro m
      induction m with
      | zero => exact hP
      | succ m ih =>
        refine Classical.byContradiction fun q => hno ⟨_, ih, ?_⟩
        rwa [show ((m + 1 : Nat) : Int) - 1 = (m : Int) - 1 + 1 by omega] at q
    have hb : ∃ m : Nat, ∀ a ∈ arcs, a.i < m := by
      clear hall hno hP he hk0 h1 w h hu
      induction arcs with
      | nil => exact ⟨0, by simp⟩
      | cons a l ih =>
        obtain ⟨m, hm⟩ := ih
        refine ⟨m + a.i + 1, fun b hb => ?_⟩
        rcases List.mem_cons.1 hb with e | e
        · rw [e]; omega
        · have := hm b e; omega
    obtain ⟨m, hm⟩ := hb
    obtain ⟨x, hx⟩ := hall (m + 1)
    have e : abv arcs (((m + 1 : Nat) : Int) - 1) = [] := by
      unfold abv
      rw [List.filter_eq_nil_iff]
      intro a ha
      have := hm a ha
      simp only [decide_eq_true_eq]
      omega
    rw [e, show ls.toNat = (ls.toNat - 1) + 1 by omega] at hx
    obtain ⟨_, _, q⟩ := hx
    simp [prs] at q
  obtain ⟨t, ⟨x, hx⟩, hno⟩ := hT
  rcases abv_split hx with q | ⟨a, ha, hai, k1, k2, hk12, w1, w2⟩
  · exact absurd ⟨x, q⟩ hno
  · have w3 : W (prs (abv arcs t)) (k2 + k1) a.up a.lo := w2.trans w1
    rcases abv_split w3 with q | ⟨b, hb, hbi, j1, j2, hj12, v1, v2⟩
    · rw [← hai] at q
      refine ⟨a, ha, ?_⟩
      have d1 := distF_walk q
      have d2 := distF_some d1.1
      have d3 := h.min (k := (distF (abv arcs ((a.i : Nat) : Int)) a.lo a.up).toNat + 1) (by omega) (W.cons (List.mem_map.2 ⟨a, ha, rfl⟩ : (a.lo, a.up) ∈ prs arcs) (abv_sub d2))
      omega
    · have e : a = b := hu a ha b hb (by omega)
      subst e
      have d3 := h.min (k := j1 + 1) (by omega) (W.cons (List.mem_map.2 ⟨a, ha, rfl⟩ : (a.lo, a.up) ∈ prs arcs) (abv_sub v1))
      omega

/-- The way back, as far as it is gone. -/
structure Path (arcs : List Arc) (a : Arc) (D : Nat → Int) (q : Nat) (cs : List Arc) : Prop where
  pos : 0 < cs.length
  fst : cs[0] = a
  mem : ∀ c ∈ cs, c ∈ arcs
  link : ∀ j (h : j + 1 < cs.length), cs[j].up = cs[j + 1].lo
  last : cs[cs.length - 1].up = q
  lo : ∀ j (h : j < cs.length), 1 ≤ j → D cs[j].lo = D a.up + 1 - j
  up : ∀ j (h : j < cs.length), D cs[j].up = D a.up - j
  nn : 0 ≤ D q

theorem Path.start {arcs : List Arc} {a : Arc} {D : Nat → Int} (ha : a ∈ arcs) (h : 0 ≤ D a.up) : Path arcs a D a.up [a] := by
  refine ⟨by simp, rfl, fun c hc => by rw [List.mem_singleton.1 hc]; exact ha, fun j h => by simp at h, rfl, fun j h1 h2 => ?_, fun j h1 => ?_, h⟩
  · simp at h1; omega
  · have : j = 0 := by simpa using h1
    subst this
    show D a.up = _
    omega

theorem Path.step {arcs : List Arc} {a b : Arc} {D : Nat → Int} {q : Nat} {cs : List Arc} (h : Path arcs a D q cs) (hb : b ∈ nextOf arcs q) (hp : prB a D q b = true) (hq : 1 ≤ D q) : Path arcs a D b.up (cs ++ [b]) ∧ D b.up = D q - 1 := by
  obtain ⟨hb1, hb2⟩ := next_mem.1 hb
  have hp2 : D b.up = D q - 1 := by
    unfold prB at hp
    simp only [Bool.and_eq_true, decide_eq_true_eq] at hp
    exact hp.2
  have hpos := h.pos
  have hl := h.up (cs.length - 1) (by omega)
  rw [h.last] at hl
  refine ⟨⟨by simp, ?_, fun c hc => ?_, fun j hj => ?_, ?_, fun j hj h1 => ?_, fun j hj => ?_, by omega⟩, hp2⟩
  · rw [List.getElem_append_left hpos]; exact h.fst
  · rcases List.mem_append.1 hc with e | e
    · exact h.mem c e
    · rw [List.mem_singleton.1 e]; exact hb1
  · simp only [List.length_append, List.length_cons, List.length_nil] at hj
    rw [List.getElem_append_left (by omega : j < cs.length)]
    rcases Nat.lt_or_ge (j + 1) cs.length with z | z
    · rw [List.getElem_append_left z]; exact h.link j z
    · have e : j + 1 = cs.length := by omega
      rw [List.getElem_append_right z]
      simp only [e, Nat.sub_self, List.getElem_cons_zero]
      rw [hb2, ← h.last]
      simp only [← e, Nat.add_sub_cancel]
  · simp
  · simp only [List.length_append, List.length_cons, List.length_nil] at hj
    rcases Nat.lt_or_ge j cs.length with z | z
    · rw [List.getElem_append_left z]; exact h.lo j z h1
    · have e : j = cs.length := by omega
      rw [List.getElem_append_right z]
      simp only [e, Nat.sub_self, List.getElem_cons_zero]
      rw [hb2]; omega
  · simp only [List.length_append, List.length_cons, List.length_nil] at hj
    rcases Nat.lt_or_ge j cs.length with z | z
    · rw [List.getElem_append_left z]; exact h.up j z
    · have e : j = cs.length := by omega
      rw [List.getElem_append_right z]
      simp only [e, Nat.sub_self, List.getElem_cons_zero]
      omega

theorem Dist.ex {arcs : List Arc} {n to : Nat} {above : Int} (wf : WF n arcs) {g : Nat → Int} (h : Dist arcs n to above g) : ∃ g, Dist arcs n to above g ∧ ∀ a ∈ arcs, Calm above g a := by
  generalize hm : wsum g n n = m
  induction m using Nat.strongRecOn generalizing g with
  | _ m ih =>
    by_cases q : ∀ a ∈ arcs, Calm above g a
    · exact ⟨g, h, q⟩
    · obtain ⟨a, ha, hc⟩ : ∃ a, a ∈ arcs ∧ ¬ Calm above g a := Classical.byContradiction fun z => q fun a ha => Classical.byContradiction fun y => z ⟨a, ha, y⟩
      obtain ⟨h1, h2, h3⟩ : above < ((a.i : Nat) : Int) ∧ 0 ≤ g a.up ∧ ¬ (0 ≤ g a.lo ∧ g a.lo ≤ g a.up + 1) := by
        unfold Calm at hc
        refine ⟨Classical.byContradiction fun z => hc fun y => absurd y z, Classical.byContradiction fun z => hc fun _ y => absurd y z, fun z => hc fun _ _ => z⟩
      have hr := h.relax wf ha h1 h2 (by omega)
      exact ih _ (by omega) hr.1 rfl

theorem distF_le {n to : Nat} {arcs : List Arc} (wf : WF n arcs) (hto : to < n) (t : Int) (x : Nat) : distF (abv arcs t) to x ≤ n := by
  obtain ⟨g, hg, hc⟩ := Dist.ex wf (Dist.start (arcs := arcs) (above := t) hto)
  rw [← hg.done hc x]
  rcases Nat.lt_or_ge x n with q | q
  · have := hg.lt x q
    have := knownN_le g n
    omega
  · rcases Int.lt_or_le (g x) 1 with z | z
    · omega
    · have hw := hg.walk x (by omega)
      rw [show (g x).toNat = ((g x).toNat - 1) + 1 by omega] at hw
      obtain ⟨y, hy, _⟩ := hw.head
      obtain ⟨b, hb, e⟩ := List.mem_map.1 hy
      have e1 : b.lo = x := (Prod.mk.inj e).1
      have := wf.lo b (List.mem_filter.1 hb).1
      omega

/-- What a cycle that is given back holds. -/
structure Turn (arcs : List Arc) (n : Nat) (D : Nat → Int) (cs : List Arc) : Prop where
  le : cs.length ≤ n + 1
  pos : 0 < cs.length
  mem : ∀ c ∈ cs, c ∈ arcs
  link : ∀ j (h : j + 1 < cs.length), cs[j].up = cs[j + 1].lo
  wrap : cs[cs.length - 1].up = cs[0].lo
  zero : D cs[0].lo = 0
  lo : ∀ j (h : j < cs.length), 1 ≤ j → D cs[j].lo = cs.length - j
  up : ∀ j (h : j < cs.length), D cs[j].up = cs.length - 1 - j

theorem Path.turn {arcs : List Arc} {a : Arc} {D : Nat → Int} {cs : List Arc} (h : Path arcs a D a.lo cs) (h0 : D a.lo = 0) {n : Nat} (h1 : D a.up ≤ n) : Turn arcs n D cs := by
  have hpos := h.pos
  have hl := h.up (cs.length - 1) (by omega)
  rw [h.last] at hl
  refine ⟨by omega, hpos, h.mem, h.link, by rw [h.last, h.fst], by rw [h.fst]; exact h0, fun j hj h1 => ?_, fun j hj => ?_⟩
  · rw [h.lo j hj h1]; omega
  · rw [h.up j hj]; omega

theorem cyc_of_start {arcs : List Arc} {a : Arc} {t : Int} (ha : a ∈ arcs) (h : 0 ≤ distF (abv arcs t) a.lo a.up) : Cyc arcs :=
  ⟨a.lo, _, by omega, W.cons (List.mem_map.2 ⟨a, ha, rfl⟩ : (a.lo, a.up) ∈ prs arcs) (abv_sub (distF_some h))⟩

/-- The way that is taken first. -/
noncomputable def greedy (arcs : List Arc) (a : Arc) : Nat → Nat → List Nat
  | _, 0 => []
  | q, m + 1 => match (nextOf arcs q).find? (prB a (distF (abv arcs ((a.i : Nat) : Int)) a.lo) q) with
    | some b => b.i :: greedy arcs a b.up m
    | none => []

theorem find_at {α : Type} {p : α → Bool} {xs : List α} {k : Nat} (hk : k < xs.length) (h1 : p xs[k] = true) (h2 : ∀ i (hi : i < xs.length), i < k → p xs[i] = false) : xs.find? p = some xs[k] := by
  rw [List.find?_eq_some_iff_getElem]
  refine ⟨h1, k, hk, rfl, fun j hj => ?_⟩
  rw [h2 j (by omega) hj]; rfl

theorem greedy_step {arcs : List Arc} {a : Arc} {q k : Nat} (hk : k < (nextOf arcs q).length) (h1 : prB a (distF (abv arcs ((a.i : Nat) : Int)) a.lo) q (nextOf arcs q)[k] = true)
    (h2 : ∀ i (hi : i < (nextOf arcs q).length), i < k → prB a (distF (abv arcs ((a.i : Nat) : Int)) a.lo) q (nextOf arcs q)[i] = false)
    (hq : 1 ≤ distF (abv arcs ((a.i : Nat) : Int)) a.lo q) (hd : distF (abv arcs ((a.i : Nat) : Int)) a.lo (nextOf arcs q)[k].up = distF (abv arcs ((a.i : Nat) : Int)) a.lo q - 1) :
    greedy arcs a q (distF (abv arcs ((a.i : Nat) : Int)) a.lo q).toNat = (nextOf arcs q)[k].i :: greedy arcs a (nextOf arcs q)[k].up (distF (abv arcs ((a.i : Nat) : Int)) a.lo (nextOf arcs q)[k].up).toNat := by
  rw [show (distF (abv arcs ((a.i : Nat) : Int)) a.lo q).toNat = (distF (abv arcs ((a.i : Nat) : Int)) a.lo (nextOf arcs q)[k].up).toNat + 1 by omega]
  rw [greedy, find_at hk h1 h2]

def Start (arcs : List Arc) (ls : Int) (a : Arc) : Prop := distF (abv arcs ((a.i : Nat) : Int)) a.lo a.up = ls - 1
/-- The cycle that the program gives back. -/
def FirstC (arcs : List Arc) (c : List Nat) : Prop := ∃ ls : Int, LeastUp arcs arcs.length ls ∧ ls ≠ 0 ∧ ∃ j, ∃ h : j < arcs.length, Start arcs ls arcs[j] ∧ (∀ k (hk : k < arcs.length), k < j → ¬ Start arcs ls arcs[k]) ∧ c = arcs[j].i :: greedy arcs arcs[j] arcs[j].up (ls - 1).toNat

end Go.Proofs.Ytdhbclplondmjaa.C

end

section
/- The program's search for a cycle, run. -/
set_option linter.unusedVariables false
set_option linter.unusedSimpArgs false
set_option maxRecDepth 100000
set_option maxHeartbeats 4000000
namespace Go.Proofs.Ytdhbclplondmjaa.C
open Go.RowKit Go.Sort

theorem arcTest_runs {H : Heap} {pa pd pt q n : Nat} {a b : Arc} {dv : Value} {D : Nat → Int} (ha : At H pa 3 (arcC a)) (hd : At H pd 1 [dv]) (hdv : Sl H 1 dv (List.map encI ((List.range n).map D))) (ht : At H pt 1 [nat q]) (hq : q < n) (hD : ∀ x, -1 ≤ D x ∧ D x ≤ 2 ^ 20) (hbu : b.up < n) :
    ∃ r H1, big tab 50 [.agg (arcC b).toArray, .pointer (some ⟨pa, 0, none⟩), .pointer (some ⟨pd, 0, none⟩), .pointer (some ⟨pt, 0, none⟩)] H = some (r, H1) ∧ r = .bool (prB a D q b) ∧ Ext H H1 := by
  obtain ⟨oa, ha⟩ := ha
  obtain ⟨od, hd⟩ := hd
  obtain ⟨ot, ht⟩ := ht
  have hM := Mem.start H
  refine big_of_runs rfl rfl rfl ?_
  obtain ⟨z, hz⟩ := startC_mkS Try.f50 [.agg (arcC b).toArray, .pointer (some ⟨pa, 0, none⟩), .pointer (some ⟨pd, 0, none⟩), .pointer (some ⟨pt, 0, none⟩)]
  rw [show startC (50, Try.f50).snd [.agg (arcC b).toArray, .pointer (some ⟨pa, 0, none⟩), .pointer (some ⟨pd, 0, none⟩), .pointer (some ⟨pt, 0, none⟩)] = _ from hz]
  clear hz
  refine Runs.cut (n := 24) (l := [(0, .agg (arcC b).toArray), (1, .pointer (some ⟨pa, 0, none⟩)), (2, .pointer (some ⟨pd, 0, none⟩)), (3, .pointer (some ⟨pt, 0, none⟩))]) (Is.of ⟨rfl, rfl, rfl, rfl, rfl, rfl, rfl, rfl, trivial⟩) (fun a0 => ?_)
  refine Runs.seq ?_
  refine Runs.region ?_
  refine Rg.new (v := fun p => .pointer (some ⟨p, 0, none⟩)) (X := .row 3 (arcC b) true true) (th := fun p => .box p 3 (arcC b)) hM rfl rfl rfl rfl rfl rfl (fun _ => rfl) (fun pb Hc hM _ => ?_)
  refine Rg.opp (v := .bool false) rfl rfl rfl rfl rfl ?_
  refine Rg.nil ?_
  refine Runs.seq ?_
  refine Runs.drawn (is := [0, 1, 2, 3, 4, 5, 6, 7, 8, 9, 10, 11, 12, 13, 14, 15, 16, 17, 18]) (by decide +kernel) ?_
  refine Rg.opp (v := .pointer (some ⟨pb, 0, none⟩)) rfl rfl rfl (ev_fld (o := 0) (p := (3, 0)) rfl rfl rfl rfl rfl (by decide)) rfl ?_
  refine Rg.opp (v := nat b.i) rfl rfl rfl (ev_ldb (hM.get_box (j := 0) rfl) rfl rfl rfl rfl rfl) rfl ?_
  refine Rg.opp (v := .pointer (some ⟨pa, 0, none⟩)) rfl rfl rfl (ev_fld (o := 0) (p := (3, 0)) rfl rfl rfl rfl rfl (by decide)) rfl ?_
  refine Rg.opp (v := nat a.i) rfl rfl rfl (ev_ldb (hM.ext.get ha) rfl rfl rfl rfl rfl) rfl ?_
  by_cases hgt : a.i < b.i
  · skip
    refine Rg.opp (v := .bool true) rfl rfl rfl (ev_gtT rfl rfl (hgt)) rfl ?_
    refine Rg.opp (v := .bool true) rfl rfl rfl rfl rfl ?_
    refine Rg.guards true rfl rfl rfl (fun _ => ⟨dv, _, evW_op (ev_ldb (hM.ext.get hd) rfl rfl rfl rfl rfl), rfl, ?_⟩) (fun h => by cases h)
    refine Rg.guards true rfl rfl rfl (fun _ => ⟨.pointer (some ⟨pb, 2, none⟩), _, evW_op (ev_fld (o := 0) (p := (3, 2)) rfl rfl rfl rfl rfl (by decide)), rfl, ?_⟩) (fun h => by cases h)
    refine Rg.guards true rfl rfl rfl (fun _ => ⟨nat b.up, _, evW_op (ev_ldb (hM.get_box (j := 0) rfl) rfl rfl rfl rfl rfl), rfl, ?_⟩) (fun h => by cases h)
    refine Rg.guards true rfl rfl rfl (fun _ => ⟨ptrAt (sAddr dv) (b.up * 1), _, evW_op (ev_idxM (k := b.up) (hdv.sees hM.ext.sees) rfl rfl (by simpa using hbu) rfl rfl rfl (by decide)), rfl, ?_⟩) (fun h => by cases h)
    refine Rg.guards true rfl rfl rfl (fun _ => ⟨.int .i64 (D b.up), _, evW_op (ev_ldM (k := b.up) (hdv.sees hM.ext.sees) rfl (by simpa using hbu) (by simp) rfl rfl rfl), rfl, ?_⟩) (fun h => by cases h)
    refine Rg.guards true rfl rfl rfl (fun _ => ⟨dv, _, evW_op (ev_ldb (hM.ext.get hd) rfl rfl rfl rfl rfl), rfl, ?_⟩) (fun h => by cases h)
    refine Rg.guards true rfl rfl rfl (fun _ => ⟨nat q, _, evW_op (ev_ldb (hM.ext.get ht) rfl rfl rfl rfl rfl), rfl, ?_⟩) (fun h => by cases h)
    refine Rg.guards true rfl rfl rfl (fun _ => ⟨ptrAt (sAddr dv) (q * 1), _, evW_op (ev_idxM (k := q) (hdv.sees hM.ext.sees) rfl rfl (by simpa using hq) rfl rfl rfl (by decide)), rfl, ?_⟩) (fun h => by cases h)
    refine Rg.guards true rfl rfl rfl (fun _ => ⟨.int .i64 (D q), _, evW_op (ev_ldM (k := q) (hdv.sees hM.ext.sees) rfl (by simpa using hq) (by simp) rfl rfl rfl), rfl, ?_⟩) (fun h => by cases h)
    refine Rg.guards true rfl rfl rfl (fun _ => ⟨.int .i64 (D q - 1), _, evW_op (ev_subI (a := D q) (b := 1) rfl rfl (by have := hD q; omega)), rfl, ?_⟩) (fun h => by cases h)
    by_cases heq : D b.up = D q - 1
    · skip
      refine Rg.guards true rfl rfl rfl (fun _ => ⟨.bool true, _, evW_op (ev_ieqT rfl rfl (heq)), rfl, ?_⟩) (fun h => by cases h)
      refine Rg.opp (v := .bool true) rfl rfl rfl rfl rfl ?_
      refine Rg.opp (v := .bool true) rfl rfl rfl rfl rfl ?_
      refine Rg.nil ?_
      refine Runs.ret ?_
      refine ⟨.bool true, rfl, ?_⟩
      refine ⟨?_, hM.ext⟩
      unfold prB
      rw [decide_eq_true (by omega : a.i < b.i), decide_eq_true heq]; rfl
    · skip
      refine Rg.guards true rfl rfl rfl (fun _ => ⟨.bool false, _, evW_op (ev_ieqF rfl rfl (heq)), rfl, ?_⟩) (fun h => by cases h)
      refine Rg.opp (v := .bool false) rfl rfl rfl rfl rfl ?_
      refine Rg.opp (v := .bool false) rfl rfl rfl rfl rfl ?_
      refine Rg.nil ?_
      refine Runs.ret ?_
      refine ⟨.bool false, rfl, ?_⟩
      refine ⟨?_, hM.ext⟩
      unfold prB
      rw [decide_eq_true (by omega : a.i < b.i), decide_eq_false heq]; rfl
  · skip
    refine Rg.opp (v := .bool false) rfl rfl rfl (ev_gtF rfl rfl (hgt)) rfl ?_
    refine Rg.opp (v := .bool false) rfl rfl rfl rfl rfl ?_
    refine Rg.guards false rfl rfl rfl (fun h => by cases h) (fun _ => ?_)
    refine Rg.guards false rfl rfl rfl (fun h => by cases h) (fun _ => ?_)
    refine Rg.guards false rfl rfl rfl (fun h => by cases h) (fun _ => ?_)
    refine Rg.guards false rfl rfl rfl (fun h => by cases h) (fun _ => ?_)
    refine Rg.guards false rfl rfl rfl (fun h => by cases h) (fun _ => ?_)
    refine Rg.guards false rfl rfl rfl (fun h => by cases h) (fun _ => ?_)
    refine Rg.guards false rfl rfl rfl (fun h => by cases h) (fun _ => ?_)
    refine Rg.guards false rfl rfl rfl (fun h => by cases h) (fun _ => ?_)
    refine Rg.guards false rfl rfl rfl (fun h => by cases h) (fun _ => ?_)
    refine Rg.guards false rfl rfl rfl (fun h => by cases h) (fun _ => ?_)
    refine Rg.guards false rfl rfl rfl (fun h => by cases h) (fun _ => ?_)
    refine Rg.opp (v := .bool false) rfl rfl rfl rfl rfl ?_
    refine Rg.opp (v := .bool false) rfl rfl rfl rfl rfl ?_
    refine Rg.nil ?_
    refine Runs.ret ?_
    refine ⟨.bool false, rfl, ?_⟩
    refine ⟨?_, hM.ext⟩
    unfold prB
    rw [decide_eq_false (by omega : ¬ a.i < b.i)]; rfl

theorem indexArc_runs {H : Heap} {pa pd pt q n k0 : Nat} {a : Arc} {dv v : Value} {D : Nat → Int} {xs : List Arc} (hv : Sl H 3 v (List.map arcC xs)) (hxl : xs.length ≤ 2 ^ 20) (ha : At H pa 3 (arcC a)) (hd : At H pd 1 [dv]) (hdv : Sl H 1 dv (List.map encI ((List.range n).map D))) (ht : At H pt 1 [nat q]) (hq : q < n) (hD : ∀ x, -1 ≤ D x ∧ D x ≤ 2 ^ 20) (hup : ∀ b ∈ xs, b.up < n) (hk0 : k0 < xs.length) (hk1 : prB a D q xs[k0] = true) :
    ∃ r H1, big tab 49 [v, .func (.func 50) #[] #[.pointer (some ⟨pa, 0, none⟩), .pointer (some ⟨pd, 0, none⟩), .pointer (some ⟨pt, 0, none⟩)]] H = some (r, H1) ∧ (∃ k, ∃ h : k < xs.length, r = nat k ∧ prB a D q xs[k] = true ∧ ∀ i (hi : i < xs.length), i < k → prB a D q xs[i] = false) ∧ Ext H H1 := by
  have hM := Mem.start H
  refine big_of_runs rfl rfl rfl ?_
  obtain ⟨z, hz⟩ := startC_mkS Try.f49 [v, .func (.func 50) #[] #[.pointer (some ⟨pa, 0, none⟩), .pointer (some ⟨pd, 0, none⟩), .pointer (some ⟨pt, 0, none⟩)]]
  rw [show startC (49, Try.f49).snd [v, .func (.func 50) #[] #[.pointer (some ⟨pa, 0, none⟩), .pointer (some ⟨pd, 0, none⟩), .pointer (some ⟨pt, 0, none⟩)]] = _ from hz]
  clear hz
  refine Runs.cut (n := 19) (l := [(0, v), (1, .func (.func 50) #[] #[.pointer (some ⟨pa, 0, none⟩), .pointer (some ⟨pd, 0, none⟩), .pointer (some ⟨pt, 0, none⟩)])]) (Is.of ⟨rfl, rfl, rfl, rfl, trivial⟩) (fun a0 => ?_)
  refine Runs.seq ?_
  refine Runs.region ?_
  refine Rg.opp (v := nat 0) rfl rfl rfl rfl rfl ?_
  refine Rg.nil ?_
  refine Runs.seq ?_
  refine Runs.seq ?_
  refine Runs.region ?_
  refine Rg.opp (v := v) rfl rfl rfl rfl rfl ?_
  refine Rg.opp (v := nat xs.length) rfl rfl rfl (ev_lenM (hv.sees hM.ext.sees) rfl rfl) rfl ?_
  refine Rg.opp (v := nat 0) rfl rfl rfl rfl rfl ?_
  refine Rg.nil ?_
  refine Runs.block ?_
  refine Runs.loop (fun m s Hc => ∃ (j : Nat), m = xs.length - j ∧ Mem H Hc ([]) ∧ (j ≤ k0) ∧ (∀ k (hk : k < xs.length), k < j → prB a D q xs[k] = false) ∧ Is s 19 [(0, v), (1, .func (.func 50) #[] #[.pointer (some ⟨pa, 0, none⟩), .pointer (some ⟨pd, 0, none⟩), .pointer (some ⟨pt, 0, none⟩)]), (7, nat xs.length), (8, nat j)]) _
    ⟨0, rfl, hM, Nat.zero_le _, fun k hk h => by omega, Is.of ⟨rfl, rfl, rfl, rfl, rfl, rfl, rfl, rfl, trivial⟩⟩ ?_
  rintro m s Hc ⟨j, rfl, hM, hj, hno, hs⟩
  obtain ⟨a1, rfl⟩ := hs.mk1
  clear hs
  refine Runs.seq ?_
  refine Runs.region ?_
  by_cases hlt : j < xs.length
  · skip
    have hbu := hup _ (List.getElem_mem hlt)
    refine Rg.opp (v := .bool true) rfl rfl rfl (ev_ltT rfl rfl (hlt)) rfl ?_
    refine Rg.nil ?_
    refine Runs.seq ?_
    refine Runs.cond true rfl (fun _ => ?_) (fun h => by cases h)
    refine Runs.skip ?_
    refine Runs.seq ?_
    refine Runs.block ?_
    refine Runs.seq ?_
    refine Runs.region ?_
    refine Rg.opp (v := nat j) rfl rfl rfl rfl rfl ?_
    refine Rg.opp (v := nat j) rfl rfl rfl rfl rfl ?_
    refine Rg.nil ?_
    refine Runs.seq ?_
    refine Runs.region ?_
    refine Rg.opp (v := .func (.func 50) #[] #[.pointer (some ⟨pa, 0, none⟩), .pointer (some ⟨pd, 0, none⟩), .pointer (some ⟨pt, 0, none⟩)]) rfl rfl rfl rfl rfl ?_
    refine Rg.opp (v := v) rfl rfl rfl rfl rfl ?_
    refine Rg.opp (v := nat j) rfl rfl rfl rfl rfl ?_
    refine Rg.opp (v := ptrAt (sAddr v) (j * 3)) rfl rfl rfl (ev_idxM (k := j) (hv.sees hM.ext.sees) rfl rfl (hlt) rfl rfl rfl (by decide)) rfl ?_
    refine Rg.opp (v := .agg (arcC (xs[j])).toArray) rfl rfl rfl (ev_ldAM (k := j) (hv.sees hM.ext.sees) rfl (hlt) rfl rfl rfl) rfl ?_
    by_cases hp : prB a D q xs[j] = true
    · skip
      refine Rg.callW rfl rfl rfl rfl (rfl) rfl (arcTest_runs (a := a) (b := xs[j]) (n := n) (D := D) (ha.sees hM.ext.sees) (hd.sees hM.ext.sees) (hdv.sees hM.ext.sees) (ht.sees hM.ext.sees) hq hD hbu) (fun ri Hc hP => ?_)
      obtain ⟨hri, hei⟩ := hP
      rw [hp] at hri
      subst hri
      replace hM := hM.more hei
      refine Rg.nil ?_
      refine Runs.cond true rfl (fun _ => ?_) (fun h => by cases h)
      refine Runs.seq ?_
      refine Runs.region ?_
      refine Rg.opp (v := nat j) rfl rfl rfl rfl rfl ?_
      refine Rg.opp (v := nat j) rfl rfl rfl rfl rfl ?_
      refine Rg.nil ?_
      refine Runs.ret ?_
      refine ⟨nat j, rfl, ?_⟩
      exact ⟨⟨j, hlt, rfl, hp, hno⟩, hM.ext⟩
    · skip
      refine Rg.callW rfl rfl rfl rfl (rfl) rfl (arcTest_runs (a := a) (b := xs[j]) (n := n) (D := D) (ha.sees hM.ext.sees) (hd.sees hM.ext.sees) (hdv.sees hM.ext.sees) (ht.sees hM.ext.sees) hq hD hbu) (fun ri Hc hP => ?_)
      obtain ⟨hri, hei⟩ := hP
      rw [show prB a D q xs[j] = false by simpa using hp] at hri
      subst hri
      replace hM := hM.more hei
      refine Rg.nil ?_
      refine Runs.cond false rfl (fun h => by cases h) (fun _ => ?_)
      refine Runs.skip ?_
      refine Runs.region ?_
      refine Rg.opp (v := nat (j + 1)) rfl rfl rfl (ev_addN (b := 1) rfl rfl (by omega)) rfl ?_
      refine Rg.opp (v := nat (j + 1)) rfl rfl rfl rfl rfl ?_
      refine Rg.nil ?_
      refine ⟨xs.length - (j + 1), by omega, j + 1, rfl, hM, (by
        rcases Nat.lt_or_ge j k0 with z | z
        · exact z
        · have e : j = k0 := by omega
          subst e
          exact absurd hk1 hp), below_succ hno (fun _ => by simpa using hp), Is.of ⟨rfl, rfl, rfl, rfl, rfl, rfl, rfl, rfl, trivial⟩⟩
  · skip
    refine Rg.opp (v := .bool false) rfl rfl rfl (ev_ltF rfl rfl (hlt)) rfl ?_
    refine Rg.nil ?_
    refine Runs.seq ?_
    refine Runs.cond false rfl (fun h => by cases h) (fun _ => ?_)
    refine Runs.exit ?_
    refine Runs.seq ?_
    refine Runs.region ?_
    refine Rg.opp (v := .int .i64 (-1)) rfl rfl rfl rfl rfl ?_
    refine Rg.nil ?_
    refine Runs.ret ?_
    refine ⟨.int .i64 (-1), rfl, ?_⟩
    exact absurd hk0 (by omega)

theorem cycle_runs {H : Heap} {gp : Nat} {names : List Nm} {arcs : List Arc} (hG : GraphAt H gp names arcs) (wf : WF names.length arcs) (hun : ∀ a ∈ arcs, ∀ b ∈ arcs, a.i = b.i → a = b) (hn : names.length ≤ 12) (ha : arcs.length ≤ 2 ^ 20) :
    ∃ r H1, big tab 35 [.pointer (some ⟨gp, 0, none⟩)] H = some (r, H1) ∧ ((r = .slice none 0 0 ∧ ¬ Cyc arcs ∧ Ext H H1) ∨ (∃ cs D, Mem H H1 [.sl 1 r (List.map encN (List.map Arc.i cs))] ∧ Turn arcs names.length D cs ∧ Cyc arcs ∧ FirstC arcs (List.map Arc.i cs))) := by
  obtain ⟨an, aa, ax, M, nx, own, hG⟩ := hG
  have hnl := hG.len
  have hM := Mem.start H
  refine big_of_runs rfl rfl rfl ?_
  obtain ⟨z, hz⟩ := startC_mkS Try.f35 [.pointer (some ⟨gp, 0, none⟩)]
  rw [show startC (35, Try.f35).snd [.pointer (some ⟨gp, 0, none⟩)] = _ from hz]
  clear hz
  refine Runs.cut (n := 118) (l := [(0, .pointer (some ⟨gp, 0, none⟩))]) (Is.of ⟨rfl, rfl, trivial⟩) (fun a0 => ?_)
  refine Runs.seq ?_
  refine Runs.region ?_
  refine Rg.opp (v := .slice none 0 0) rfl rfl rfl rfl rfl ?_
  refine Rg.nil ?_
  refine Runs.seq ?_
  refine Runs.region ?_
  refine Rg.opp (v := nat 0) rfl rfl rfl rfl rfl ?_
  refine Rg.nil ?_
  refine Runs.seq ?_
  refine Runs.seq ?_
  refine Runs.region ?_
  refine Rg.opp (v := .pointer (some ⟨gp, 0, none⟩)) rfl rfl rfl rfl rfl ?_
  refine Rg.opp (v := .pointer (some ⟨gp, 0, none⟩)) rfl rfl rfl rfl rfl ?_
  refine Rg.opp (v := .pointer (some ⟨gp, 2, none⟩)) rfl rfl rfl (ev_fld (o := 0) (p := (73, 2)) rfl rfl rfl rfl rfl (by decide)) rfl ?_
  refine Rg.opp (v := aa) rfl rfl rfl (ev_ldb (hM.ext.get hG.box) rfl rfl rfl rfl rfl) rfl ?_
  refine Rg.opp (v := nat arcs.length) rfl rfl rfl (ev_lenM (hG.harcs.sees hM.ext.sees) rfl rfl) rfl ?_
  refine Rg.opp (v := nat 0) rfl rfl rfl rfl rfl ?_
  refine Rg.nil ?_
  refine Runs.block ?_
  refine Runs.loop (fun m s Hc => ∃ (j : Nat) (ls : Int), m = arcs.length - j ∧ Mem H Hc ([]) ∧ (j ≤ arcs.length) ∧ (LeastUp arcs j ls) ∧ (ls ≤ 2 ^ 21) ∧ Is s 118 [(0, .pointer (some ⟨gp, 0, none⟩)), (3, .int .i64 (ls)), (16, aa), (17, nat arcs.length), (18, nat j)]) _
    ⟨0, 0, rfl, hM, Nat.zero_le _, LeastUp.start arcs, by omega, Is.of ⟨rfl, rfl, rfl, rfl, rfl, rfl, rfl, rfl, rfl, rfl, trivial⟩⟩ ?_
  rintro m s Hc ⟨j, ls, rfl, hM, hj, hL, hlb, hs⟩
  obtain ⟨a1, rfl⟩ := hs.mk1
  clear hs
  refine Runs.seq ?_
  refine Runs.region ?_
  by_cases hlt : j < arcs.length
  · skip
    have hlo := wf.lo _ (List.getElem_mem hlt)
    have hup := wf.up _ (List.getElem_mem hlt)
    have hcd0 := distF_ge (abv arcs (-1)) arcs[j].lo arcs[j].up
    have hcd1 := distF_le wf hlo (-1) arcs[j].up
    refine Rg.opp (v := .bool true) rfl rfl rfl (ev_ltT rfl rfl (hlt)) rfl ?_
    refine Rg.nil ?_
    refine Runs.seq ?_
    refine Runs.cond true rfl (fun _ => ?_) (fun h => by cases h)
    refine Runs.skip ?_
    refine Runs.seq ?_
    refine Runs.block ?_
    refine Runs.seq ?_
    refine Runs.region ?_
    refine Rg.opp (v := ptrAt (sAddr aa) (j * 3)) rfl rfl rfl (ev_idxM (k := j) (hG.harcs.sees hM.ext.sees) rfl rfl (hlt) rfl rfl rfl (by decide)) rfl ?_
    refine Rg.opp (v := .agg (arcC (arcs[j])).toArray) rfl rfl rfl (ev_ldAM (k := j) (hG.harcs.sees hM.ext.sees) rfl (hlt) rfl rfl rfl) rfl ?_
    refine Rg.new (v := fun p => .pointer (some ⟨p, 0, none⟩)) (X := .row 3 [.int .i64 0, .int .i64 0, .int .i64 0] true true) (th := fun p => .box p 3 [.int .i64 0, .int .i64 0, .int .i64 0]) hM rfl rfl rfl rfl rfl rfl (fun _ => rfl) (fun p2 Hc hM _ => ?_)
    refine Rg.stob (j := 0) (cs' := arcC (arcs[j])) hM rfl rfl rfl rfl rfl rfl rfl rfl rfl rfl (Nat.le_of_ble_eq_true rfl) rfl (fun Hc (hM : Mem H Hc ([.box p2 3 (arcC (arcs[j]))])) => ?_)
    refine Rg.nil ?_
    refine Runs.seq ?_
    refine Runs.drawn (is := [0, 1, 2, 3, 4, 5, 6, 7, 8]) (by decide +kernel) ?_
    refine Rg.opp (v := .pointer (some ⟨gp, 0, none⟩)) rfl rfl rfl rfl rfl ?_
    refine Rg.opp (v := .pointer (some ⟨p2, 1, none⟩)) rfl rfl rfl (ev_fld (o := 0) (p := (3, 1)) rfl rfl rfl rfl rfl (by decide)) rfl ?_
    refine Rg.opp (v := nat (arcs[j].lo)) rfl rfl rfl (ev_ldb (hM.get_box (j := 0) rfl) rfl rfl rfl rfl rfl) rfl ?_
    refine Rg.callW rfl rfl rfl rfl (rfl) rfl (quiet_sl (es := fun _ => ((List.range names.length).map (distF (abv arcs (-1)) arcs[j].lo)).map encI) (distances_runs (above := (-1)) (to := arcs[j].lo) (GraphAt.sees (hM.ext.sees.trans (Sees.freeze _)) ⟨_, _, _, _, _, _, hG⟩) wf hlo hn ha)) (fun dv Hk hP => ?_)
    obtain ⟨hek, hdd⟩ := hP
    replace hM := hM.more hek
    refine Rg.opp (v := .pointer (some ⟨p2, 2, none⟩)) rfl rfl rfl (ev_fld (o := 0) (p := (3, 2)) rfl rfl rfl rfl rfl (by decide)) rfl ?_
    refine Rg.opp (v := nat (arcs[j].up)) rfl rfl rfl (ev_ldb (hM.get_box (j := 0) rfl) rfl rfl rfl rfl rfl) rfl ?_
    refine Rg.opp (v := ptrAt (sAddr dv) ((arcs[j].up) * 1)) rfl rfl rfl (ev_idxM (k := arcs[j].up) (hdd) rfl rfl (by simpa using hup) rfl rfl rfl (by decide)) rfl ?_
    refine Rg.opp (v := .int .i64 (distF (abv arcs (-1)) arcs[j].lo arcs[j].up)) rfl rfl rfl (ev_ldM (k := (arcs[j].up)) (hdd) rfl (by simpa using hup) (by simp) rfl rfl rfl) rfl ?_
    refine Rg.opp (v := .int .i64 (distF (abv arcs (-1)) arcs[j].lo arcs[j].up)) rfl rfl rfl rfl rfl ?_
    refine Rg.nil ?_
    refine Runs.seq ?_
    refine Runs.region ?_
    refine Rg.opp (v := .int .i64 (distF (abv arcs (-1)) arcs[j].lo arcs[j].up)) rfl rfl rfl rfl rfl ?_
    by_cases h3 : (0 : Int) ≤ distF (abv arcs (-1)) arcs[j].lo arcs[j].up
    · skip
      refine Rg.opp (v := .bool true) rfl rfl rfl (ev_igeT rfl rfl (h3)) rfl ?_
      refine Rg.opp (v := .bool true) rfl rfl rfl rfl rfl ?_
      refine Rg.guards true rfl rfl rfl (fun _ => ⟨.int .i64 (ls), _, evW_op (rfl), rfl, ?_⟩) (fun h => by cases h)
      by_cases h4 : ls = (0 : Int)
      · skip
        refine Rg.guards true rfl rfl rfl (fun _ => ⟨.bool true, _, evW_op (ev_ieqT rfl rfl (h4)), rfl, ?_⟩) (fun h => by cases h)
        refine Rg.guards true rfl rfl rfl (fun _ => ⟨.bool true, _, evW_op (rfl), rfl, ?_⟩) (fun h => by cases h)
        refine Rg.guards false rfl rfl rfl (fun h => by cases h) (fun _ => ?_)
        refine Rg.guards false rfl rfl rfl (fun h => by cases h) (fun _ => ?_)
        refine Rg.guards false rfl rfl rfl (fun h => by cases h) (fun _ => ?_)
        refine Rg.guards false rfl rfl rfl (fun h => by cases h) (fun _ => ?_)
        refine Rg.guards true rfl rfl rfl (fun _ => ⟨.bool true, _, evW_op (rfl), rfl, ?_⟩) (fun h => by cases h)
        refine Rg.opp (v := .bool true) rfl rfl rfl rfl rfl ?_
        refine Rg.nil ?_
        refine Runs.cond true rfl (fun _ => ?_) (fun h => by cases h)
        refine Runs.region ?_
        refine Rg.opp (v := .int .i64 (distF (abv arcs (-1)) arcs[j].lo arcs[j].up)) rfl rfl rfl rfl rfl ?_
        refine Rg.opp (v := .int .i64 (distF (abv arcs (-1)) arcs[j].lo arcs[j].up + 1)) rfl rfl rfl (ev_addI (a := distF (abv arcs (-1)) arcs[j].lo arcs[j].up) (b := 1) rfl rfl (by omega)) rfl ?_
        refine Rg.opp (v := .int .i64 (distF (abv arcs (-1)) arcs[j].lo arcs[j].up + 1)) rfl rfl rfl rfl rfl ?_
        refine Rg.nil ?_
        refine Runs.region ?_
        refine Rg.opp (v := nat (j + 1)) rfl rfl rfl (ev_addN (b := 1) rfl rfl (by omega)) rfl ?_
        refine Rg.opp (v := nat (j + 1)) rfl rfl rfl rfl rfl ?_
        refine Rg.nil ?_
        refine ⟨arcs.length - (j + 1), by omega, j + 1, cd arcs arcs[j] + 1, rfl, hM.drop 1, hlt, hL.step hlt (by unfold cd; omega), by unfold cd; omega, Is.of ⟨rfl, rfl, rfl, rfl, rfl, rfl, rfl, rfl, rfl, rfl, trivial⟩⟩
      · skip
        refine Rg.guards true rfl rfl rfl (fun _ => ⟨.bool false, _, evW_op (ev_ieqF rfl rfl (h4)), rfl, ?_⟩) (fun h => by cases h)
        refine Rg.guards true rfl rfl rfl (fun _ => ⟨.bool false, _, evW_op (rfl), rfl, ?_⟩) (fun h => by cases h)
        refine Rg.guards true rfl rfl rfl (fun _ => ⟨.int .i64 (distF (abv arcs (-1)) arcs[j].lo arcs[j].up), _, evW_op (rfl), rfl, ?_⟩) (fun h => by cases h)
        refine Rg.guards true rfl rfl rfl (fun _ => ⟨.int .i64 (distF (abv arcs (-1)) arcs[j].lo arcs[j].up + 1), _, evW_op (ev_addI (a := distF (abv arcs (-1)) arcs[j].lo arcs[j].up) (b := 1) rfl rfl (by omega)), rfl, ?_⟩) (fun h => by cases h)
        refine Rg.guards true rfl rfl rfl (fun _ => ⟨.int .i64 (ls), _, evW_op (rfl), rfl, ?_⟩) (fun h => by cases h)
        by_cases h5 : distF (abv arcs (-1)) arcs[j].lo arcs[j].up + 1 < ls
        · skip
          refine Rg.guards true rfl rfl rfl (fun _ => ⟨.bool true, _, evW_op (ev_iltT rfl rfl (h5)), rfl, ?_⟩) (fun h => by cases h)
          refine Rg.guards true rfl rfl rfl (fun _ => ⟨.bool true, _, evW_op (rfl), rfl, ?_⟩) (fun h => by cases h)
          refine Rg.opp (v := .bool true) rfl rfl rfl rfl rfl ?_
          refine Rg.nil ?_
          refine Runs.cond true rfl (fun _ => ?_) (fun h => by cases h)
          refine Runs.region ?_
          refine Rg.opp (v := .int .i64 (distF (abv arcs (-1)) arcs[j].lo arcs[j].up)) rfl rfl rfl rfl rfl ?_
          refine Rg.opp (v := .int .i64 (distF (abv arcs (-1)) arcs[j].lo arcs[j].up + 1)) rfl rfl rfl (ev_addI (a := distF (abv arcs (-1)) arcs[j].lo arcs[j].up) (b := 1) rfl rfl (by omega)) rfl ?_
          refine Rg.opp (v := .int .i64 (distF (abv arcs (-1)) arcs[j].lo arcs[j].up + 1)) rfl rfl rfl rfl rfl ?_
          refine Rg.nil ?_
          refine Runs.region ?_
          refine Rg.opp (v := nat (j + 1)) rfl rfl rfl (ev_addN (b := 1) rfl rfl (by omega)) rfl ?_
          refine Rg.opp (v := nat (j + 1)) rfl rfl rfl rfl rfl ?_
          refine Rg.nil ?_
          refine ⟨arcs.length - (j + 1), by omega, j + 1, cd arcs arcs[j] + 1, rfl, hM.drop 1, hlt, hL.step hlt (by unfold cd; omega), by unfold cd; omega, Is.of ⟨rfl, rfl, rfl, rfl, rfl, rfl, rfl, rfl, rfl, rfl, trivial⟩⟩
        · skip
          refine Rg.guards true rfl rfl rfl (fun _ => ⟨.bool false, _, evW_op (ev_iltF rfl rfl (h5)), rfl, ?_⟩) (fun h => by cases h)
          refine Rg.guards true rfl rfl rfl (fun _ => ⟨.bool false, _, evW_op (rfl), rfl, ?_⟩) (fun h => by cases h)
          refine Rg.opp (v := .bool false) rfl rfl rfl rfl rfl ?_
          refine Rg.nil ?_
          refine Runs.cond false rfl (fun h => by cases h) (fun _ => ?_)
          refine Runs.skip ?_
          refine Runs.region ?_
          refine Rg.opp (v := nat (j + 1)) rfl rfl rfl (ev_addN (b := 1) rfl rfl (by omega)) rfl ?_
          refine Rg.opp (v := nat (j + 1)) rfl rfl rfl rfl rfl ?_
          refine Rg.nil ?_
          refine ⟨arcs.length - (j + 1), by omega, j + 1, ls, rfl, hM.drop 1, hlt, hL.step hlt (by unfold cd; omega), hlb, Is.of ⟨rfl, rfl, rfl, rfl, rfl, rfl, rfl, rfl, rfl, rfl, trivial⟩⟩
    · skip
      refine Rg.opp (v := .bool false) rfl rfl rfl (ev_igeF rfl rfl (h3)) rfl ?_
      refine Rg.opp (v := .bool false) rfl rfl rfl rfl rfl ?_
      refine Rg.guards false rfl rfl rfl (fun h => by cases h) (fun _ => ?_)
      refine Rg.guards false rfl rfl rfl (fun h => by cases h) (fun _ => ?_)
      refine Rg.guards false rfl rfl rfl (fun h => by cases h) (fun _ => ?_)
      refine Rg.guards false rfl rfl rfl (fun h => by cases h) (fun _ => ?_)
      refine Rg.guards false rfl rfl rfl (fun h => by cases h) (fun _ => ?_)
      refine Rg.guards false rfl rfl rfl (fun h => by cases h) (fun _ => ?_)
      refine Rg.guards false rfl rfl rfl (fun h => by cases h) (fun _ => ?_)
      refine Rg.guards false rfl rfl rfl (fun h => by cases h) (fun _ => ?_)
      refine Rg.opp (v := .bool false) rfl rfl rfl rfl rfl ?_
      refine Rg.nil ?_
      refine Runs.cond false rfl (fun h => by cases h) (fun _ => ?_)
      refine Runs.skip ?_
      refine Runs.region ?_
      refine Rg.opp (v := nat (j + 1)) rfl rfl rfl (ev_addN (b := 1) rfl rfl (by omega)) rfl ?_
      refine Rg.opp (v := nat (j + 1)) rfl rfl rfl rfl rfl ?_
      refine Rg.nil ?_
      refine ⟨arcs.length - (j + 1), by omega, j + 1, ls, rfl, hM.drop 1, hlt, hL.step hlt (by unfold cd; omega), hlb, Is.of ⟨rfl, rfl, rfl, rfl, rfl, rfl, rfl, rfl, rfl, rfl, trivial⟩⟩
  · skip
    have hje : j = arcs.length := by omega
    rw [hje] at hL
    clear hje
    refine Rg.opp (v := .bool false) rfl rfl rfl (ev_ltF rfl rfl (hlt)) rfl ?_
    refine Rg.nil ?_
    refine Runs.seq ?_
    refine Runs.cond false rfl (fun h => by cases h) (fun _ => ?_)
    refine Runs.exit ?_
    refine Runs.seq ?_
    refine Runs.seq ?_
    refine Runs.region ?_
    refine Rg.opp (v := .pointer (some ⟨gp, 0, none⟩)) rfl rfl rfl rfl rfl ?_
    refine Rg.opp (v := .pointer (some ⟨gp, 0, none⟩)) rfl rfl rfl rfl rfl ?_
    refine Rg.opp (v := .pointer (some ⟨gp, 2, none⟩)) rfl rfl rfl (ev_fld (o := 0) (p := (73, 2)) rfl rfl rfl rfl rfl (by decide)) rfl ?_
    refine Rg.opp (v := aa) rfl rfl rfl (ev_ldb (hM.ext.get hG.box) rfl rfl rfl rfl rfl) rfl ?_
    refine Rg.opp (v := nat arcs.length) rfl rfl rfl (ev_lenM (hG.harcs.sees hM.ext.sees) rfl rfl) rfl ?_
    refine Rg.opp (v := nat 0) rfl rfl rfl rfl rfl ?_
    refine Rg.nil ?_
    refine Runs.block ?_
    refine Runs.loop (fun m s Hc => ∃ (j : Nat), m = arcs.length - j ∧ Mem H Hc ([]) ∧ (j ≤ arcs.length) ∧ (∀ k (hk : k < arcs.length), k < j → ls = 0 ∨ distF (abv arcs ((arcs[k].i : Nat) : Int)) arcs[k].lo arcs[k].up ≠ ls - 1) ∧ Is s 118 [(0, .pointer (some ⟨gp, 0, none⟩)), (3, .int .i64 (ls)), (48, aa), (49, nat arcs.length), (50, nat j)]) _
      ⟨0, rfl, hM, Nat.zero_le _, fun k hk h => by omega, Is.of ⟨rfl, rfl, rfl, rfl, rfl, rfl, rfl, rfl, rfl, rfl, trivial⟩⟩ ?_
    rintro m s Hc ⟨j, rfl, hM, hj, hno, hs⟩
    obtain ⟨a6, rfl⟩ := hs.mk1
    clear hs
    refine Runs.seq ?_
    refine Runs.region ?_
    by_cases hlt : j < arcs.length
    · skip
      have hlo := wf.lo _ (List.getElem_mem hlt)
      have hup := wf.up _ (List.getElem_mem hlt)
      have hDb : ∀ x, -1 ≤ distF (abv arcs ((arcs[j].i : Nat) : Int)) arcs[j].lo x ∧ distF (abv arcs ((arcs[j].i : Nat) : Int)) arcs[j].lo x ≤ 2 ^ 20 := fun x => ⟨distF_ge _ _ _, by have := distF_le wf hlo ((arcs[j].i : Nat) : Int) x; omega⟩
      have hb1 := hDb arcs[j].up
      have hlsn := hL.nn
      refine Rg.opp (v := .bool true) rfl rfl rfl (ev_ltT rfl rfl (hlt)) rfl ?_
      refine Rg.nil ?_
      refine Runs.seq ?_
      refine Runs.cond true rfl (fun _ => ?_) (fun h => by cases h)
      refine Runs.skip ?_
      refine Runs.seq ?_
      refine Runs.block ?_
      refine Runs.seq ?_
      refine Runs.region ?_
      refine Rg.opp (v := ptrAt (sAddr aa) (j * 3)) rfl rfl rfl (ev_idxM (k := j) (hG.harcs.sees hM.ext.sees) rfl rfl (hlt) rfl rfl rfl (by decide)) rfl ?_
      refine Rg.opp (v := .agg (arcC (arcs[j])).toArray) rfl rfl rfl (ev_ldAM (k := j) (hG.harcs.sees hM.ext.sees) rfl (hlt) rfl rfl rfl) rfl ?_
      refine Rg.new (v := fun p => .pointer (some ⟨p, 0, none⟩)) (X := .row 3 [.int .i64 0, .int .i64 0, .int .i64 0] true true) (th := fun p => .box p 3 [.int .i64 0, .int .i64 0, .int .i64 0]) hM rfl rfl rfl rfl rfl rfl (fun _ => rfl) (fun pa Hc hM _ => ?_)
      refine Rg.stob (j := 0) (cs' := arcC (arcs[j])) hM rfl rfl rfl rfl rfl rfl rfl rfl rfl rfl (Nat.le_of_ble_eq_true rfl) rfl (fun Hc (hM : Mem H Hc ([.box pa 3 (arcC (arcs[j]))])) => ?_)
      refine Rg.nil ?_
      refine Runs.seq ?_
      refine Runs.region ?_
      refine Rg.opp (v := .pointer (some ⟨gp, 0, none⟩)) rfl rfl rfl rfl rfl ?_
      refine Rg.opp (v := .pointer (some ⟨pa, 1, none⟩)) rfl rfl rfl (ev_fld (o := 0) (p := (3, 1)) rfl rfl rfl rfl rfl (by decide)) rfl ?_
      refine Rg.opp (v := nat (arcs[j].lo)) rfl rfl rfl (ev_ldb (hM.get_box (j := 0) rfl) rfl rfl rfl rfl rfl) rfl ?_
      refine Rg.opp (v := .pointer (some ⟨pa, 0, none⟩)) rfl rfl rfl (ev_fld (o := 0) (p := (3, 0)) rfl rfl rfl rfl rfl (by decide)) rfl ?_
      refine Rg.opp (v := nat (arcs[j].i)) rfl rfl rfl (ev_ldb (hM.get_box (j := 0) rfl) rfl rfl rfl rfl rfl) rfl ?_
      refine Rg.callW rfl rfl rfl rfl (rfl) rfl (distances_runs (above := ((arcs[j].i : Nat) : Int)) (to := arcs[j].lo) (GraphAt.sees hM.ext.sees ⟨_, _, _, _, _, _, hG⟩) wf hlo hn ha) (fun dv Hk hP => ?_)
      have hek := hP.ext
      have hdd := hP.get_sl (j := 0) rfl
      have hpa := (hM.more hek).get_box (j := 0) rfl
      replace hek := hM.ext.trans hek
      obtain ⟨own1, hGk⟩ := hG.sees hek.sees
      have hM := Mem.start Hk
      refine Rg.new (v := fun p => .pointer (some ⟨p, 0, none⟩)) (X := .row 1 [.slice none 0 0] true true) (th := fun p => .box p 1 [.slice none 0 0]) hM rfl rfl rfl rfl rfl rfl (fun _ => rfl) (fun pd Hc hM _ => ?_)
      refine Rg.stob1 (j := 0) (cs' := [dv]) hM rfl rfl rfl rfl rfl rfl rfl rfl rfl ((hdd.sees hM.ext.sees).one) (Nat.le_of_ble_eq_true rfl) rfl (fun Hc (hM : Mem Hk Hc ([.box pd 1 ([dv])])) => ?_)
      refine Rg.nil ?_
      refine Runs.seq ?_
      refine Runs.seq ?_
      refine Runs.region ?_
      refine Rg.opp (v := .int .i64 (ls)) rfl rfl rfl rfl rfl ?_
      by_cases h7 : ls = (0 : Int)
      · skip
        refine Rg.opp (v := .bool true) rfl rfl rfl (ev_ieqT rfl rfl (h7)) rfl ?_
        refine Rg.opp (v := .bool true) rfl rfl rfl rfl rfl ?_
        refine Rg.guards false rfl rfl rfl (fun h => by cases h) (fun _ => ?_)
        refine Rg.guards false rfl rfl rfl (fun h => by cases h) (fun _ => ?_)
        refine Rg.guards false rfl rfl rfl (fun h => by cases h) (fun _ => ?_)
        refine Rg.guards false rfl rfl rfl (fun h => by cases h) (fun _ => ?_)
        refine Rg.guards false rfl rfl rfl (fun h => by cases h) (fun _ => ?_)
        refine Rg.guards false rfl rfl rfl (fun h => by cases h) (fun _ => ?_)
        refine Rg.guards false rfl rfl rfl (fun h => by cases h) (fun _ => ?_)
        refine Rg.guards false rfl rfl rfl (fun h => by cases h) (fun _ => ?_)
        refine Rg.opp (v := .bool true) rfl rfl rfl rfl rfl ?_
        refine Rg.nil ?_
        refine Runs.cond true rfl (fun _ => ?_) (fun h => by cases h)
        refine Runs.exit ?_
        refine Runs.region ?_
        refine Rg.opp (v := nat (j + 1)) rfl rfl rfl (ev_addN (b := 1) rfl rfl (by omega)) rfl ?_
        refine Rg.opp (v := nat (j + 1)) rfl rfl rfl rfl rfl ?_
        refine Rg.nil ?_
        refine ⟨arcs.length - (j + 1), by omega, j + 1, rfl, (Mem.start H).more (hek.trans hM.ext), hlt, fun k hk hkj => by
          rcases Nat.lt_or_ge k j with z | z
          · exact hno k hk z
          · have e : k = j := by omega
            subst e
            omega, Is.of ⟨rfl, rfl, rfl, rfl, rfl, rfl, rfl, rfl, rfl, rfl, trivial⟩⟩
      · skip
        refine Rg.opp (v := .bool false) rfl rfl rfl (ev_ieqF rfl rfl (h7)) rfl ?_
        refine Rg.opp (v := .bool false) rfl rfl rfl rfl rfl ?_
        refine Rg.guards true rfl rfl rfl (fun _ => ⟨dv, _, evW_op (ev_ldb (hM.get_box (j := 0) rfl) rfl rfl rfl rfl rfl), rfl, ?_⟩) (fun h => by cases h)
        refine Rg.guards true rfl rfl rfl (fun _ => ⟨.pointer (some ⟨pa, 2, none⟩), _, evW_op (ev_fld (o := 0) (p := (3, 2)) rfl rfl rfl rfl rfl (by decide)), rfl, ?_⟩) (fun h => by cases h)
        refine Rg.guards true rfl rfl rfl (fun _ => ⟨nat (arcs[j].up), _, evW_op (ev_ldb (hM.ext.get hpa) rfl rfl rfl rfl rfl), rfl, ?_⟩) (fun h => by cases h)
        refine Rg.guards true rfl rfl rfl (fun _ => ⟨ptrAt (sAddr dv) ((arcs[j].up) * 1), _, evW_op (ev_idxM (k := arcs[j].up) (hdd.sees hM.ext.sees) rfl rfl (by simpa using hup) rfl rfl rfl (by decide)), rfl, ?_⟩) (fun h => by cases h)
        refine Rg.guards true rfl rfl rfl (fun _ => ⟨.int .i64 (distF (abv arcs ((arcs[j].i : Nat) : Int)) arcs[j].lo arcs[j].up), _, evW_op (ev_ldM (k := (arcs[j].up)) (hdd.sees hM.ext.sees) rfl (by simpa using hup) (by simp) rfl rfl rfl), rfl, ?_⟩) (fun h => by cases h)
        refine Rg.guards true rfl rfl rfl (fun _ => ⟨.int .i64 (ls), _, evW_op (rfl), rfl, ?_⟩) (fun h => by cases h)
        refine Rg.guards true rfl rfl rfl (fun _ => ⟨.int .i64 (ls - 1), _, evW_op (ev_subI (a := ls) (b := 1) rfl rfl (by have := hL.nn; omega)), rfl, ?_⟩) (fun h => by cases h)
        by_cases h8 : distF (abv arcs ((arcs[j].i : Nat) : Int)) arcs[j].lo arcs[j].up = ls - 1
        · skip
          refine Rg.guards true rfl rfl rfl (fun _ => ⟨.bool false, _, evW_op (ev_ineF rfl rfl (h8)), rfl, ?_⟩) (fun h => by cases h)
          refine Rg.opp (v := .bool false) rfl rfl rfl rfl rfl ?_
          refine Rg.nil ?_
          refine Runs.cond false rfl (fun h => by cases h) (fun _ => ?_)
          refine Runs.skip ?_
          refine Runs.seq ?_
          refine Runs.region ?_
          refine Rg.opp (v := .pointer (some ⟨pa, 0, none⟩)) rfl rfl rfl (ev_fld (o := 0) (p := (3, 0)) rfl rfl rfl rfl rfl (by decide)) rfl ?_
          refine Rg.opp (v := nat (arcs[j].i)) rfl rfl rfl (ev_ldb (hM.ext.get hpa) rfl rfl rfl rfl rfl) rfl ?_
          refine Rg.lit (f := encN) (sz := 1) (xs := [arcs[j].i]) hM rfl rfl rfl rfl rfl (by simp) (by simp) (fun u9 Hc (hM : Mem Hk Hc ([.sl 1 u9 (List.map encN ([arcs[j].i])), .box pd 1 ([dv])])) _ => ?_)
          refine Rg.opp (v := u9) rfl rfl rfl rfl rfl ?_
          refine Rg.nil ?_
          refine Runs.seq ?_
          refine Runs.seq ?_
          refine Runs.region ?_
          refine Rg.opp (v := .pointer (some ⟨pa, 2, none⟩)) rfl rfl rfl (ev_fld (o := 0) (p := (3, 2)) rfl rfl rfl rfl rfl (by decide)) rfl ?_
          refine Rg.opp (v := nat (arcs[j].up)) rfl rfl rfl (ev_ldb (hM.ext.get hpa) rfl rfl rfl rfl rfl) rfl ?_
          refine Rg.new (v := fun p => .pointer (some ⟨p, 0, none⟩)) (X := .row 1 [.int .i64 0] true true) (th := fun p => .box p 1 [.int .i64 0]) hM rfl rfl rfl rfl rfl rfl (fun _ => rfl) (fun p10 Hc hM _ => ?_)
          refine Rg.stob (j := 0) (cs' := [nat (arcs[j].up)]) hM rfl rfl rfl rfl rfl rfl rfl rfl rfl rfl (Nat.le_of_ble_eq_true rfl) rfl (fun Hc (hM : Mem Hk Hc ([.box p10 1 ([nat (arcs[j].up)]), .sl 1 u9 (List.map encN ([arcs[j].i])), .box pd 1 ([dv])])) => ?_)
          refine Rg.nil ?_
          refine Runs.block ?_
          refine Runs.loop (fun m s Hc => ∃ (q : Nat) (pt : Nat) (ov : Value) (cs : List Arc), m = (distF (abv arcs ((arcs[j].i : Nat) : Int)) arcs[j].lo q).toNat ∧ Mem Hk Hc ([.box pt 1 [nat q], .sl 1 ov (List.map encN (List.map Arc.i cs)), .box pd 1 ([dv])]) ∧ (q < names.length) ∧ (Path arcs arcs[j] (distF (abv arcs ((arcs[j].i : Nat) : Int)) arcs[j].lo) q cs) ∧ (List.map Arc.i cs ++ greedy arcs arcs[j] q (distF (abv arcs ((arcs[j].i : Nat) : Int)) arcs[j].lo q).toNat = arcs[j].i :: greedy arcs arcs[j] arcs[j].up (distF (abv arcs ((arcs[j].i : Nat) : Int)) arcs[j].lo arcs[j].up).toNat) ∧ Is s 118 [(0, .pointer (some ⟨gp, 0, none⟩)), (8, .pointer (some ⟨pa, 0, none⟩)), (9, .pointer (some ⟨pd, 0, none⟩)), (10, ov), (11, .pointer (some ⟨pt, 0, none⟩))]) _
            ⟨arcs[j].up, p10, u9, [arcs[j]], rfl, hM, hup, Path.start (List.getElem_mem hlt) (by omega), rfl, Is.of ⟨rfl, rfl, rfl, rfl, rfl, rfl, rfl, rfl, rfl, rfl, trivial⟩⟩ ?_
          rintro m s Hc ⟨q, pt, ov, cs, rfl, hM, hq, hpath, hgy, hs⟩
          obtain ⟨a11, rfl⟩ := hs.mk1
          clear hs
          have hpl : cs.length ≤ 2 ^ 30 := by have h1 := hpath.up (cs.length - 1) (by have := hpath.pos; omega); rw [hpath.last] at h1; have h2 := hpath.nn; have h3 := hDb arcs[j].up; have := hpath.pos; omega
          refine Runs.seq ?_
          refine Runs.seq ?_
          refine Runs.region ?_
          refine Rg.opp (v := nat q) rfl rfl rfl (ev_ldb (hM.get_box (j := 0) rfl) rfl rfl rfl rfl rfl) rfl ?_
          refine Rg.opp (v := .pointer (some ⟨pa, 1, none⟩)) rfl rfl rfl (ev_fld (o := 0) (p := (3, 1)) rfl rfl rfl rfl rfl (by decide)) rfl ?_
          refine Rg.opp (v := nat (arcs[j].lo)) rfl rfl rfl (ev_ldb (hM.ext.get hpa) rfl rfl rfl rfl rfl) rfl ?_
          by_cases hne : q = arcs[j].lo
          · skip
            refine Rg.opp (v := .bool false) rfl rfl rfl (ev_neF rfl rfl (hne)) rfl ?_
            refine Rg.nil ?_
            refine Runs.cond false rfl (fun h => by cases h) (fun _ => ?_)
            refine Runs.exit ?_
            refine Runs.seq ?_
            refine Runs.region ?_
            refine Rg.opp (v := ov) rfl rfl rfl rfl rfl ?_
            refine Rg.opp (v := ov) rfl rfl rfl rfl rfl ?_
            refine Rg.nil ?_
            refine Runs.ret ?_
            refine ⟨ov, rfl, ?_⟩
            subst hne
            refine .inr ⟨cs, _, ((Mem.start H).more hek).under ((hM.erase 0).erase 1), hpath.turn (distF_self _ _) (distF_le wf hlo _ _), cyc_of_start (t := ((arcs[j].i : Nat) : Int)) (List.getElem_mem hlt) (by omega), ls, hL, by omega, j, hlt, by unfold Start; omega, fun k hk hkj hs => by rcases hno k hk hkj with h | h; exact absurd h (by omega); exact h hs, ?_⟩
            rw [distF_self, show (0 : Int).toNat = 0 from rfl, greedy, List.append_nil] at hgy
            rw [hgy]
            congr 2
            omega
          · skip
            obtain ⟨hq1, k0, hk0, hk1⟩ := distF_next hpath.nn hne
            have h2i : q < nx.length := by omega
            have hnlen := next_len arcs q
            refine Rg.opp (v := .bool true) rfl rfl rfl (ev_neT rfl rfl (hne)) rfl ?_
            refine Rg.nil ?_
            refine Runs.cond true rfl (fun _ => ?_) (fun h => by cases h)
            refine Runs.skip ?_
            refine Runs.seq ?_
            refine Runs.block ?_
            refine Runs.seq ?_
            refine Runs.drawn (is := [0, 1, 2, 3, 4, 5, 6, 7, 8, 9]) (by decide +kernel) ?_
            refine Rg.opp (v := .pointer (some ⟨gp, 0, none⟩)) rfl rfl rfl rfl rfl ?_
            refine Rg.opp (v := .pointer (some ⟨gp, 0, none⟩)) rfl rfl rfl rfl rfl ?_
            refine Rg.opp (v := .pointer (some ⟨gp, 3, none⟩)) rfl rfl rfl (ev_fld (o := 0) (p := (75, 3)) rfl rfl rfl rfl rfl (by decide)) rfl ?_
            refine Rg.opp (v := ax) rfl rfl rfl (ev_ldb (hM.ext.get hGk.box) rfl rfl rfl rfl rfl) rfl ?_
            refine Rg.opp (v := nat q) rfl rfl rfl (ev_ldb (hM.get_box (j := 0) rfl) rfl rfl rfl rfl rfl) rfl ?_
            refine Rg.opp (v := ptrAt (sAddr ax) (q * 1)) rfl rfl rfl (ev_idxM (k := q) (hGk.hnext.sees hM.ext.sees) rfl rfl (by omega) rfl rfl rfl (by decide)) rfl ?_
            refine Rg.opp (v := nx[q]) rfl rfl rfl (ev_ldM (k := q) (hGk.hnext.sees hM.ext.sees) rfl (by omega) rfl rfl rfl rfl) rfl ?_
            refine Rg.opp (v := .func (.func 50) #[] #[.pointer (some ⟨pa, 0, none⟩), .pointer (some ⟨pd, 0, none⟩), .pointer (some ⟨pt, 0, none⟩)]) rfl rfl rfl rfl rfl ?_
            refine Rg.callW rfl rfl rfl rfl (rfl) rfl (quiet_val (P := fun r => ∃ k, ∃ h : k < (nextOf arcs q).length, r = nat k ∧ prB arcs[j] (distF (abv arcs ((arcs[j].i : Nat) : Int)) arcs[j].lo) q (nextOf arcs q)[k] = true ∧ ∀ i (hi : i < (nextOf arcs q).length), i < k → prB arcs[j] (distF (abv arcs ((arcs[j].i : Nat) : Int)) arcs[j].lo) q (nextOf arcs q)[i] = false) (indexArc_runs (n := names.length) (((hGk.each q h2i).sees hM.ext.sees).sees (Sees.freeze _)) (by omega) (At.sees (hM.ext.sees.trans (Sees.freeze _)) ⟨_, hpa⟩) (At.sees (Sees.freeze _) ⟨_, hM.get_box (j := 2) rfl⟩) (hdd.sees (hM.ext.sees.trans (Sees.freeze _))) (At.sees (Sees.freeze _) ⟨_, hM.get_box (j := 0) rfl⟩) hq hDb (fun b hb => wf.up _ (next_mem.1 hb).1) hk0 hk1)) (fun ri Hj hP => ?_)
            obtain ⟨⟨k, hk, rfl, hkp, hkf⟩, hek⟩ := hP
            replace hM := hM.more hek
            have hbu : (nextOf arcs q)[k].up < names.length := wf.up _ (next_mem.1 (List.getElem_mem hk)).1
            have hstep := hpath.step (List.getElem_mem hk) hkp hq1
            have hst2 := hstep.2
            refine Rg.opp (v := nat k) rfl rfl rfl rfl rfl ?_
            refine Rg.nil ?_
            refine Runs.seq ?_
            refine Runs.drawn (is := [0, 1, 2, 3, 4, 5, 6, 7, 8, 9, 10, 11, 12, 13, 14]) (by decide +kernel) ?_
            refine Rg.opp (v := ov) rfl rfl rfl rfl rfl ?_
            refine Rg.opp (v := .pointer (some ⟨gp, 0, none⟩)) rfl rfl rfl rfl rfl ?_
            refine Rg.opp (v := .pointer (some ⟨gp, 0, none⟩)) rfl rfl rfl rfl rfl ?_
            refine Rg.opp (v := .pointer (some ⟨gp, 3, none⟩)) rfl rfl rfl (ev_fld (o := 0) (p := (75, 3)) rfl rfl rfl rfl rfl (by decide)) rfl ?_
            refine Rg.opp (v := ax) rfl rfl rfl (ev_ldb (hM.ext.get hGk.box) rfl rfl rfl rfl rfl) rfl ?_
            refine Rg.opp (v := nat q) rfl rfl rfl (ev_ldb (hM.get_box (j := 0) rfl) rfl rfl rfl rfl rfl) rfl ?_
            refine Rg.opp (v := ptrAt (sAddr ax) (q * 1)) rfl rfl rfl (ev_idxM (k := q) (hGk.hnext.sees hM.ext.sees) rfl rfl (by omega) rfl rfl rfl (by decide)) rfl ?_
            refine Rg.opp (v := nx[q]) rfl rfl rfl (ev_ldM (k := q) (hGk.hnext.sees hM.ext.sees) rfl (by omega) rfl rfl rfl rfl) rfl ?_
            refine Rg.opp (v := nat k) rfl rfl rfl rfl rfl ?_
            refine Rg.opp (v := ptrAt (sAddr (nx[q])) (k * 3)) rfl rfl rfl (ev_idxM (k := k) ((hGk.each q (by have := hGk.len; omega)).sees hM.ext.sees) rfl rfl (hk) rfl rfl rfl (by decide)) rfl ?_
            refine Rg.opp (v := ptrAt (sAddr (nx[q])) (k * 3 + 0)) rfl rfl rfl (ev_fldM (k := k) (m := k * 3) (q := (3, 0)) ((hGk.each q (by have := hGk.len; omega)).sees hM.ext.sees) rfl (hk) rfl rfl rfl rfl (by decide)) rfl ?_
            refine Rg.opp (v := nat ((nextOf arcs q)[k].i)) rfl rfl rfl (ev_ldfM (k := k) ((hGk.each q (by have := hGk.len; omega)).sees hM.ext.sees) rfl (hk) rfl rfl rfl rfl) rfl ?_
            refine Rg.lit (f := encN) (sz := 1) (xs := [(nextOf arcs q)[k].i]) hM rfl rfl rfl rfl rfl (by simp) (by simp) (fun u12 Hc (hM : Mem Hk Hc ([.sl 1 u12 (List.map encN ([(nextOf arcs q)[k].i])), .box pt 1 [nat q], .sl 1 ov (List.map encN (List.map Arc.i cs)), .box pd 1 ([dv])])) _ => ?_)
            refine Rg.appM (f := encN) (sz := 1) (j := 2) (v := ov) (xs := List.map Arc.i cs) (ys := [(nextOf arcs q)[k].i]) hM rfl rfl rfl rfl rfl rfl rfl (hM.get_sl (j := 0) rfl) ⟨rfl, rfl, rfl, by decide⟩ rfl (by simp [oneCell]) (by show (_ + _) * 8 ≤ 2 ^ 40; simp only [List.length_map, List.length_cons, List.length_nil]; omega) (by simp) (fun ov1 Hc (hM : Mem Hk Hc ([.sl 1 u12 (List.map encN ([(nextOf arcs q)[k].i])), .box pt 1 [nat q], .sl 1 ov1 (List.map encN ((List.map Arc.i cs) ++ ([(nextOf arcs q)[k].i]))), .box pd 1 ([dv])])) hgr => ?_)
            replace hM : Mem Hk _ ([.box pt 1 [nat q], .sl 1 ov1 (List.map encN ((List.map Arc.i cs) ++ ([(nextOf arcs q)[k].i]))), .box pd 1 ([dv])]) := hM.erase 0
            refine Rg.opp (v := ov1) rfl rfl rfl rfl rfl ?_
            refine Rg.nil ?_
            refine Runs.drawn (is := [0, 1, 2, 3, 4, 5, 6, 7, 8, 9, 10, 11]) (by decide +kernel) ?_
            refine Rg.opp (v := .pointer (some ⟨gp, 0, none⟩)) rfl rfl rfl rfl rfl ?_
            refine Rg.opp (v := .pointer (some ⟨gp, 0, none⟩)) rfl rfl rfl rfl rfl ?_
            refine Rg.opp (v := .pointer (some ⟨gp, 3, none⟩)) rfl rfl rfl (ev_fld (o := 0) (p := (75, 3)) rfl rfl rfl rfl rfl (by decide)) rfl ?_
            refine Rg.opp (v := ax) rfl rfl rfl (ev_ldb (hM.ext.get hGk.box) rfl rfl rfl rfl rfl) rfl ?_
            refine Rg.opp (v := nat q) rfl rfl rfl (ev_ldb (hM.get_box (j := 0) rfl) rfl rfl rfl rfl rfl) rfl ?_
            refine Rg.opp (v := ptrAt (sAddr ax) (q * 1)) rfl rfl rfl (ev_idxM (k := q) (hGk.hnext.sees hM.ext.sees) rfl rfl (by omega) rfl rfl rfl (by decide)) rfl ?_
            refine Rg.opp (v := nx[q]) rfl rfl rfl (ev_ldM (k := q) (hGk.hnext.sees hM.ext.sees) rfl (by omega) rfl rfl rfl rfl) rfl ?_
            refine Rg.opp (v := nat k) rfl rfl rfl rfl rfl ?_
            refine Rg.opp (v := ptrAt (sAddr (nx[q])) (k * 3)) rfl rfl rfl (ev_idxM (k := k) ((hGk.each q (by have := hGk.len; omega)).sees hM.ext.sees) rfl rfl (hk) rfl rfl rfl (by decide)) rfl ?_
            refine Rg.opp (v := ptrAt (sAddr (nx[q])) (k * 3 + 2)) rfl rfl rfl (ev_fldM (k := k) (m := k * 3) (q := (3, 2)) ((hGk.each q (by have := hGk.len; omega)).sees hM.ext.sees) rfl (hk) rfl rfl rfl rfl (by decide)) rfl ?_
            refine Rg.opp (v := nat ((nextOf arcs q)[k].up)) rfl rfl rfl (ev_ldfM (k := k) ((hGk.each q (by have := hGk.len; omega)).sees hM.ext.sees) rfl (hk) rfl rfl rfl rfl) rfl ?_
            refine Rg.stob (j := 0) (cs' := [nat ((nextOf arcs q)[k].up)]) hM rfl rfl rfl rfl rfl rfl rfl rfl rfl rfl (Nat.le_of_ble_eq_true rfl) rfl (fun Hc (hM : Mem Hk Hc ([.box pt 1 ([nat ((nextOf arcs q)[k].up)]), .sl 1 ov1 (List.map encN ((List.map Arc.i cs) ++ ([(nextOf arcs q)[k].i]))), .box pd 1 ([dv])])) => ?_)
            refine Rg.nil ?_
            refine Runs.seq ?_
            refine Runs.region ?_
            refine Rg.opp (v := nat ((nextOf arcs q)[k].up)) rfl rfl rfl (ev_ldb (hM.get_box (j := 0) rfl) rfl rfl rfl rfl rfl) rfl ?_
            refine Rg.nil ?_
            refine Runs.region ?_
            refine Rg.new (v := fun p => .pointer (some ⟨p, 0, none⟩)) (X := .row 1 [.int .i64 0] true true) (th := fun p => .box p 1 [.int .i64 0]) hM rfl rfl rfl rfl rfl rfl (fun _ => rfl) (fun p13 Hc hM _ => ?_)
            refine Rg.stob (j := 0) (cs' := [nat ((nextOf arcs q)[k].up)]) hM rfl rfl rfl rfl rfl rfl rfl rfl rfl rfl (Nat.le_of_ble_eq_true rfl) rfl (fun Hc (hM : Mem Hk Hc ([.box p13 1 ([nat ((nextOf arcs q)[k].up)]), .box pt 1 ([nat ((nextOf arcs q)[k].up)]), .sl 1 ov1 (List.map encN ((List.map Arc.i cs) ++ ([(nextOf arcs q)[k].i]))), .box pd 1 ([dv])])) => ?_)
            refine Rg.nil ?_
            refine ⟨(distF (abv arcs ((arcs[j].i : Nat) : Int)) arcs[j].lo ((nextOf arcs q)[k].up)).toNat, by omega, (nextOf arcs q)[k].up, p13, ov1, cs ++ [(nextOf arcs q)[k]], rfl, by rw [List.map_append]; exact hM.erase 1, hbu, hstep.1, (by rw [List.map_append, List.append_assoc, ← hgy, greedy_step hk hkp hkf hq1 hst2]; rfl), Is.of ⟨rfl, rfl, rfl, rfl, rfl, rfl, rfl, rfl, rfl, rfl, trivial⟩⟩
        · skip
          refine Rg.guards true rfl rfl rfl (fun _ => ⟨.bool true, _, evW_op (ev_ineT rfl rfl (h8)), rfl, ?_⟩) (fun h => by cases h)
          refine Rg.opp (v := .bool true) rfl rfl rfl rfl rfl ?_
          refine Rg.nil ?_
          refine Runs.cond true rfl (fun _ => ?_) (fun h => by cases h)
          refine Runs.exit ?_
          refine Runs.region ?_
          refine Rg.opp (v := nat (j + 1)) rfl rfl rfl (ev_addN (b := 1) rfl rfl (by omega)) rfl ?_
          refine Rg.opp (v := nat (j + 1)) rfl rfl rfl rfl rfl ?_
          refine Rg.nil ?_
          refine ⟨arcs.length - (j + 1), by omega, j + 1, rfl, (Mem.start H).more (hek.trans hM.ext), hlt, fun k hk hkj => by
            rcases Nat.lt_or_ge k j with z | z
            · exact hno k hk z
            · have e : k = j := by omega
              subst e
              omega, Is.of ⟨rfl, rfl, rfl, rfl, rfl, rfl, rfl, rfl, rfl, rfl, trivial⟩⟩
    · skip
      refine Rg.opp (v := .bool false) rfl rfl rfl (ev_ltF rfl rfl (hlt)) rfl ?_
      refine Rg.nil ?_
      refine Runs.seq ?_
      refine Runs.cond false rfl (fun h => by cases h) (fun _ => ?_)
      refine Runs.exit ?_
      refine Runs.seq ?_
      refine Runs.region ?_
      refine Rg.opp (v := .slice none 0 0) rfl rfl rfl rfl rfl ?_
      refine Rg.nil ?_
      refine Runs.ret ?_
      refine ⟨.slice none 0 0, rfl, ?_⟩
      refine .inl ⟨rfl, fun hc => ?_, hM.ext⟩
      obtain ⟨h1, a, h2, h3⟩ := hL.found hun hc
      obtain ⟨k, hk, rfl⟩ := List.mem_iff_getElem.1 h2
      rcases hno k hk (by omega) with h4 | h4
      · exact h1 h4
      · exact h4 h3


end Go.Proofs.Ytdhbclplondmjaa.C

end

section
/- What is left of a least cycle without one of its relations goes nowhere round. -/
set_option linter.unusedVariables false
set_option linter.unusedSimpArgs false
namespace Go.Proofs.Ytdhbclplondmjaa.C
open Go.RowKit Go.Sort

theorem ev_neNil {T : Tab} {s : List Value} {H K : Heap} {t t2 : TypeId} {x y : Operand} {v : Value} {i : TI} {e : TypeId} {sz : Nat} {es : List (List Value)} (h : Sl K sz v es) (hne : es ≠ []) (hx : ev s x = v) (hy : ev s y = .slice none 0 0) (hT : T.T t = some i) (hd : i.desc = .slice e) :
    opEval T s H (.binOp .neq t x y t2) = some (.bool true, H) := by
  obtain ⟨a, c, rfl, _, hc⟩ := h
  rcases hc with rfl | ⟨b, o, rfl, _, _⟩
  · exact absurd rfl hne
  · simp [opEval, binOp, hx, hy, hT, hd, nilEq]

theorem arcs_one (l : List Rel) : ∀ a ∈ arcsOf l, ∀ b ∈ arcsOf l, a.i = b.i → a = b := by
  intro a ha b hb e
  obtain ⟨j, h, _, _, rfl⟩ := arcs_mem.1 ha
  obtain ⟨k, h', _, _, rfl⟩ := arcs_mem.1 hb
  have : j = k := e
  subst this
  rfl

theorem arc_at {l : List Rel} {a : Arc} (ha : a ∈ arcsOf l) : ∃ h : a.i < l.length, a.lo = idx (unitsP l) l[a.i].lo ∧ a.up = idx (unitsP l) l[a.i].up := by
  obtain ⟨j, h, _, _, rfl⟩ := arcs_mem.1 ha
  exact ⟨h, rfl, rfl⟩

theorem lo_unit {l : List Rel} {k : Nat} (h : k < l.length) : l[k].lo ∈ unitsP l := mem_unitsP.2 (mem_names_lo (List.getElem_mem h))
theorem up_unit {l : List Rel} {k : Nat} (h : k < l.length) : l[k].up ∈ unitsP l := mem_unitsP.2 (mem_names_up (List.getElem_mem h))

theorem Turn.next {arcs : List Arc} {n : Nat} {D : Nat → Int} {cs : List Arc} (h : Turn arcs n D cs) {i : Nat} (hi : i < cs.length) : ∃ h2 : (i + 1) % cs.length < cs.length, cs[i].up = (cs[(i + 1) % cs.length]).lo := by
  have hp := h.pos
  refine ⟨Nat.mod_lt _ hp, ?_⟩
  rcases Nat.lt_or_ge (i + 1) cs.length with q | q
  · have e : (i + 1) % cs.length = i + 1 := Nat.mod_eq_of_lt q
    simp only [e]
    exact h.link i q
  · have e0 : i + 1 = cs.length := by omega
    have e : (i + 1) % cs.length = 0 := by rw [e0, Nat.mod_self]
    simp only [e]
    have hw := h.wrap
    have : i = cs.length - 1 := by omega
    simp only [this]
    exact hw

theorem getD_idx {xs : List Nm} {x : Nm} (h : x ∈ xs) : xs.getD (idx xs x) [] = x := by
  obtain ⟨a, ha⟩ := idxOf_lt_of_mem h
  unfold idx
  rw [ha]
  have := List.findIdx?_eq_some_iff_getElem.1 ha
  obtain ⟨h1, h2, _⟩ := this
  simp only [Option.getD_some, List.getD_eq_getElem?_getD, List.getElem?_eq_getElem h1]
  simpa using h2

/-- Next to a relation of the cycle lies the next. -/
theorem Turn.names {l : List Rel} {n : Nat} {D : Nat → Int} {cs : List Arc} (h : Turn (arcsOf l) n D cs) {i : Nat} (hi : i < cs.length) :
    ∃ h1 : cs[i].i < l.length, ∃ h2 : (i + 1) % cs.length < cs.length, ∃ h3 : (cs[(i + 1) % cs.length]).i < l.length, l[cs[i].i].up = l[(cs[(i + 1) % cs.length]).i].lo := by
  obtain ⟨h1, a1, a2⟩ := arc_at (h.mem _ (List.getElem_mem hi))
  obtain ⟨h2, hl⟩ := h.next hi
  obtain ⟨h3, b1, b2⟩ := arc_at (h.mem _ (List.getElem_mem h2))
  refine ⟨h1, h2, h3, idx_inj (up_unit h1) (lo_unit h3) ?_⟩
  rw [← a2, ← b1]; exact hl

theorem Turn.two {l : List Rel} {n : Nat} {D : Nat → Int} {cs : List Arc} (h : Turn (arcsOf l) n D cs) (hne : ∀ r ∈ l, r.up ≠ r.lo) : 2 ≤ cs.length := by
  have hp := h.pos
  rcases Nat.lt_or_ge 1 cs.length with q | q
  · exact q
  · have h1 : cs.length = 1 := by omega
    have hw := h.wrap
    simp only [h1, Nat.sub_self] at hw
    obtain ⟨h2, a1, a2⟩ := arc_at (h.mem _ (List.getElem_mem hp))
    rw [a1, a2] at hw
    exact absurd (idx_inj (up_unit h2) (lo_unit h2) hw) (hne _ (List.getElem_mem h2))

def relAt (l : List Rel) (cs : List Arc) (k : Nat) : Rel := l.getD (cs.getD k ⟨0, 0, 0⟩).i ⟨0, [], []⟩
/-- The relations of a cycle but one, up to a place. -/
def restUp (l : List Rel) (cs : List Arc) (i : Nat) : Nat → List Rel
  | 0 => []
  | k + 1 => if k = i then restUp l cs i k else restUp l cs i k ++ [relAt l cs k]

theorem rest_mem {l : List Rel} {cs : List Arc} {i : Nat} {r : Rel} : ∀ {k : Nat}, r ∈ restUp l cs i k → ∃ j, j < k ∧ j ≠ i ∧ r = relAt l cs j
  | 0, h => by simp [restUp] at h
  | k + 1, h => by
    unfold restUp at h
    split at h
    · obtain ⟨j, h1, h2⟩ := rest_mem h
      exact ⟨j, by omega, h2⟩
    · rename_i hk
      rcases List.mem_append.1 h with h | h
      · obtain ⟨j, h1, h2⟩ := rest_mem h
        exact ⟨j, by omega, h2⟩
      · exact ⟨k, by omega, hk, by simpa using h⟩
theorem rest_len {l : List Rel} {cs : List Arc} {i : Nat} : ∀ {k : Nat}, (restUp l cs i k).length ≤ k
  | 0 => by simp [restUp]
  | k + 1 => by
    unfold restUp
    have := rest_len (l := l) (cs := cs) (i := i) (k := k)
    split
    · omega
    · simp only [List.length_append, List.length_cons, List.length_nil]; omega

theorem relAt_eq {l : List Rel} {cs : List Arc} {k : Nat} (hk : k < cs.length) (h : cs[k].i < l.length) : relAt l cs k = l[cs[k].i] := by
  unfold relAt
  simp only [List.getD_eq_getElem?_getD, List.getElem?_eq_getElem hk, Option.getD_some, List.getElem?_eq_getElem h]

theorem Turn.rest_sub {l : List Rel} {n : Nat} {D : Nat → Int} {cs : List Arc} (h : Turn (arcsOf l) n D cs) {i : Nat} : ∀ r ∈ restUp l cs i cs.length, r ∈ l := by
  intro r hr
  obtain ⟨j, hj, _, rfl⟩ := rest_mem hr
  obtain ⟨h1, _⟩ := arc_at (h.mem _ (List.getElem_mem hj))
  rw [relAt_eq hj h1]
  exact List.getElem_mem h1

theorem Seenly.sub {l m : List Rel} (h : Seenly l) (hm : ∀ r ∈ m, r ∈ l) (hl : m.length ≤ 8) : Seenly m :=
  ⟨hl, fun r hr => h.good r (hm r hr), fun r hr => h.six r (hm r hr), fun r hr => h.ne r (hm r hr)⟩

/-- How far an end is on, without one relation. -/
def wayOn (m i : Nat) (d : Int) : Int := if 1 ≤ i then (if (m : Int) - i ≤ d then d else d + m) else d

theorem Turn.rest_acyc {l : List Rel} {n : Nat} {D : Nat → Int} {cs : List Arc} (h : Turn (arcsOf l) n D cs) {i : Nat} (hi : i < cs.length) : ¬ Cyc (arcsOf (restUp l cs i cs.length)) := by
  intro hc
  obtain ⟨x, k, hk, w⟩ := hc
  have hg := W.grows (f := fun x => (3 * (cs.length : Int) - wayOn cs.length i (D (idx (unitsP l) ((unitsP (restUp l cs i cs.length)).getD x [])))).toNat) ?_ w
  · omega
  · intro p hp
    obtain ⟨b, hb, rfl⟩ := List.mem_map.1 hp
    obtain ⟨j, hj, _, _, rfl⟩ := arcs_mem.1 hb
    obtain ⟨q, hq, hqi, he⟩ := rest_mem (List.getElem_mem hj)
    obtain ⟨h1, a1, a2⟩ := arc_at (h.mem _ (List.getElem_mem hq))
    rw [relAt_eq hq h1] at he
    have hlo : (unitsP (restUp l cs i cs.length)).getD (idx (unitsP (restUp l cs i cs.length)) (restUp l cs i cs.length)[j].lo) [] = l[cs[q].i].lo := by
      rw [getD_idx (lo_unit hj), he]
    have hup : (unitsP (restUp l cs i cs.length)).getD (idx (unitsP (restUp l cs i cs.length)) (restUp l cs i cs.length)[j].up) [] = l[cs[q].i].up := by
      rw [getD_idx (up_unit hj), he]
    simp only [hlo, hup]
    rw [← a1, ← a2]
    have d2 := h.up q hq
    rcases Nat.eq_zero_or_pos q with z | z
    · subst z
      have d1 := h.zero
      rw [d1, d2]
      unfold wayOn
      repeat' split
      all_goals omega
    · have d1 := h.lo q hq z
      rw [d1, d2]
      unfold wayOn
      repeat' split
      all_goals omega

end Go.Proofs.Ytdhbclplondmjaa.C

end

section
/- Cycle, run. -/
set_option linter.unusedVariables false
set_option linter.unusedSimpArgs false
set_option maxRecDepth 100000
set_option maxHeartbeats 4000000
namespace Go.Proofs.Ytdhbclplondmjaa.C
open Go.RowKit Go.Sort

theorem cycle_T {H : Heap} {gp : Nat} {names : List Nm} {arcs : List Arc} (hG : GraphAt H gp names arcs) (wf : WF names.length arcs) (hun : ∀ a ∈ arcs, ∀ b ∈ arcs, a.i = b.i → a = b) (hn : names.length ≤ 12) (ha : arcs.length ≤ 2 ^ 20) (hc : Cyc arcs) :
    ∃ r H1, big tab 35 [.pointer (some ⟨gp, 0, none⟩)] H = some (r, H1) ∧ ∃ cs D, Mem H H1 [.sl 1 r (List.map encN (List.map Arc.i cs))] ∧ Turn arcs names.length D cs ∧ FirstC arcs (List.map Arc.i cs) := by
  obtain ⟨r, H1, h1, ⟨_, h2, _⟩ | ⟨cs, D, h2, h3, _, h4⟩⟩ := cycle_runs hG wf hun hn ha
  · exact absurd hc h2
  · exact ⟨r, H1, h1, cs, D, h2, h3, h4⟩
theorem cycle_F {H : Heap} {gp : Nat} {names : List Nm} {arcs : List Arc} (hG : GraphAt H gp names arcs) (wf : WF names.length arcs) (hun : ∀ a ∈ arcs, ∀ b ∈ arcs, a.i = b.i → a = b) (hn : names.length ≤ 12) (ha : arcs.length ≤ 2 ^ 20) (hc : ¬ Cyc arcs) :
    ∃ r H1, big tab 35 [.pointer (some ⟨gp, 0, none⟩)] H = some (r, H1) ∧ r = .slice none 0 0 ∧ Ext H H1 := by
  obtain ⟨r, H1, h1, ⟨h2, _, h3⟩ | ⟨_, _, _, _, h2, _⟩⟩ := cycle_runs hG wf hun hn ha
  · exact ⟨r, H1, h1, h2, h3⟩
  · exact absurd h2 hc

theorem cycleS_T {H : Heap} {v : Value} {l : List Rel} (hl : Sl H 3 v (rels l)) (hll : l.length ≤ 200) (hg : ∀ r ∈ l, Good r) (hu : (unitsP l).length ≤ 12) (hc : Cyc (arcsOf l)) :
    ∃ r H1, big tab 16 [v] H = some (r, H1) ∧ ∃ cv cs D, r = .tuple #[cv, .bool true, nat 0] ∧ Mem H H1 [.sl 1 cv (List.map encN (List.map Arc.i cs))] ∧ Turn (arcsOf l) (unitsP l).length D cs ∧ FirstC (arcsOf l) (List.map Arc.i cs) := by
  refine big_of_runs rfl rfl rfl ?_
  obtain ⟨z, hz⟩ := startC_mkS Try.f16 [v]
  rw [show startC (16, Try.f16).snd [v] = _ from hz]
  clear hz
  refine Runs.cut (n := 18) (l := [(0, v)]) (Is.of ⟨rfl, rfl, trivial⟩) (fun a0 => ?_)
  refine Runs.seq ?_
  refine Runs.region ?_
  refine Rg.opp (v := .slice none 0 0) rfl rfl rfl rfl rfl ?_
  refine Rg.opp (v := .bool false) rfl rfl rfl rfl rfl ?_
  refine Rg.opp (v := nat 0) rfl rfl rfl rfl rfl ?_
  refine Rg.nil ?_
  refine Runs.seq ?_
  refine Runs.seq ?_
  refine Runs.region ?_
  refine Rg.opp (v := v) rfl rfl rfl rfl rfl ?_
  refine Rg.callW rfl rfl rfl rfl (rfl) rfl (checkP_runs hl hll hg (by omega)) (fun rc Hk hP => ?_)
  obtain ⟨rfl, hec⟩ := hP
  have hM := Mem.start Hk
  refine Rg.opp (v := nat 0) rfl rfl rfl rfl rfl ?_
  refine Rg.nil ?_
  refine Runs.seq ?_
  refine Runs.region ?_
  refine Rg.opp (v := nat 0) rfl rfl rfl rfl rfl ?_
  refine Rg.opp (v := .bool false) rfl rfl rfl (ev_neF rfl rfl (by decide)) rfl ?_
  refine Rg.nil ?_
  refine Runs.cond false rfl (fun h => by cases h) (fun _ => ?_)
  refine Runs.skip ?_
  refine Runs.seq ?_
  refine Runs.region ?_
  refine Rg.opp (v := v) rfl rfl rfl rfl rfl ?_
  refine Rg.callW rfl rfl rfl rfl (rfl) rfl (build_runs (hl.sees hec.sees) (by omega) (by omega)) (fun rb Hb hP => ?_)
  obtain ⟨heb, gp, an, aa, ax, M, nx, own, rfl, hG, hmap⟩ := hP
  have hM := Mem.start Hb
  refine Rg.callW rfl rfl rfl rfl (rfl) rfl (cycle_T ⟨_, _, _, _, _, _, hG⟩ (arcs_wf l) (arcs_one l) hu (by have := arcsUp_len l l.length; show (arcsUp l l.length).length ≤ _; omega) hc) (fun cv Hc hP => ?_)
  obtain ⟨cs, D, hM, hT, hFC⟩ := hP
  refine Rg.opp (v := cv) rfl rfl rfl rfl rfl ?_
  refine Rg.nil ?_
  refine Runs.seq ?_
  refine Runs.region ?_
  refine Rg.opp (v := cv) rfl rfl rfl rfl rfl ?_
  refine Rg.opp (v := cv) rfl rfl rfl rfl rfl ?_
  refine Rg.opp (v := .bool true) rfl rfl rfl (ev_neNil (hM.get_sl (j := 0) rfl) (by intro h; have h1 := hT.pos; have h2 := congrArg List.length h; simp only [List.length_map, List.length_nil] at h2; omega) rfl rfl rfl rfl) rfl ?_
  refine Rg.opp (v := cv) rfl rfl rfl rfl rfl ?_
  refine Rg.opp (v := .bool true) rfl rfl rfl rfl rfl ?_
  refine Rg.opp (v := nat 0) rfl rfl rfl rfl rfl ?_
  refine Rg.nil ?_
  refine Runs.ret ?_
  refine ⟨.tuple #[cv, .bool true, nat 0], rfl, ?_⟩
  exact ⟨cv, cs, D, rfl, ((Mem.start H).more (hec.trans heb)).under hM, hT, hFC⟩

theorem cycleS_F {H : Heap} {v : Value} {l : List Rel} (hl : Sl H 3 v (rels l)) (hll : l.length ≤ 200) (hg : ∀ r ∈ l, Good r) (hu : (unitsP l).length ≤ 12) (hc : ¬ Cyc (arcsOf l)) :
    ∃ r H1, big tab 16 [v] H = some (r, H1) ∧ r = .tuple #[.slice none 0 0, .bool false, nat 0] ∧ Ext H H1 := by
  refine big_of_runs rfl rfl rfl ?_
  obtain ⟨z, hz⟩ := startC_mkS Try.f16 [v]
  rw [show startC (16, Try.f16).snd [v] = _ from hz]
  clear hz
  refine Runs.cut (n := 18) (l := [(0, v)]) (Is.of ⟨rfl, rfl, trivial⟩) (fun a0 => ?_)
  refine Runs.seq ?_
  refine Runs.region ?_
  refine Rg.opp (v := .slice none 0 0) rfl rfl rfl rfl rfl ?_
  refine Rg.opp (v := .bool false) rfl rfl rfl rfl rfl ?_
  refine Rg.opp (v := nat 0) rfl rfl rfl rfl rfl ?_
  refine Rg.nil ?_
  refine Runs.seq ?_
  refine Runs.seq ?_
  refine Runs.region ?_
  refine Rg.opp (v := v) rfl rfl rfl rfl rfl ?_
  refine Rg.callW rfl rfl rfl rfl (rfl) rfl (checkP_runs hl hll hg (by omega)) (fun rc Hk hP => ?_)
  obtain ⟨rfl, hec⟩ := hP
  have hM := Mem.start Hk
  refine Rg.opp (v := nat 0) rfl rfl rfl rfl rfl ?_
  refine Rg.nil ?_
  refine Runs.seq ?_
  refine Runs.region ?_
  refine Rg.opp (v := nat 0) rfl rfl rfl rfl rfl ?_
  refine Rg.opp (v := .bool false) rfl rfl rfl (ev_neF rfl rfl (by decide)) rfl ?_
  refine Rg.nil ?_
  refine Runs.cond false rfl (fun h => by cases h) (fun _ => ?_)
  refine Runs.skip ?_
  refine Runs.seq ?_
  refine Runs.region ?_
  refine Rg.opp (v := v) rfl rfl rfl rfl rfl ?_
  refine Rg.callW rfl rfl rfl rfl (rfl) rfl (build_runs (hl.sees hec.sees) (by omega) (by omega)) (fun rb Hb hP => ?_)
  obtain ⟨heb, gp, an, aa, ax, M, nx, own, rfl, hG, hmap⟩ := hP
  have hM := Mem.start Hb
  refine Rg.callW rfl rfl rfl rfl (rfl) rfl (cycle_F ⟨_, _, _, _, _, _, hG⟩ (arcs_wf l) (arcs_one l) hu (by have := arcsUp_len l l.length; show (arcsUp l l.length).length ≤ _; omega) hc) (fun cv Hc hP => ?_)
  obtain ⟨rfl, he⟩ := hP
  have hM := (Mem.start Hb).more he
  refine Rg.opp (v := .slice none 0 0) rfl rfl rfl rfl rfl ?_
  refine Rg.nil ?_
  refine Runs.seq ?_
  refine Runs.region ?_
  refine Rg.opp (v := .slice none 0 0) rfl rfl rfl rfl rfl ?_
  refine Rg.opp (v := .slice none 0 0) rfl rfl rfl rfl rfl ?_
  refine Rg.opp (v := .bool false) rfl rfl rfl rfl rfl ?_
  refine Rg.opp (v := .slice none 0 0) rfl rfl rfl rfl rfl ?_
  refine Rg.opp (v := .bool false) rfl rfl rfl rfl rfl ?_
  refine Rg.opp (v := nat 0) rfl rfl rfl rfl rfl ?_
  refine Rg.nil ?_
  refine Runs.ret ?_
  refine ⟨.tuple #[.slice none 0 0, .bool false, nat 0], rfl, ?_⟩
  exact ⟨rfl, hec.trans (heb.trans hM.ext)⟩


end Go.Proofs.Ytdhbclplondmjaa.C

end

section
/- Order, run. -/
set_option linter.unusedVariables false
set_option linter.unusedSimpArgs false
set_option maxRecDepth 100000
set_option maxHeartbeats 4000000
namespace Go.Proofs.Ytdhbclplondmjaa.C
open Go.RowKit Go.Sort

theorem nameO_runs {H : Heap} {gp : Nat} {v : Value} {o : List Nat} {names : List Nm} {arcs : List Arc} (hG : GraphAt H gp names arcs) (hv : Sl H 1 v (List.map encN o)) (ho : ∀ x ∈ o, x < names.length) (hol : o.length ≤ 2 ^ 20) :
    ∃ r H1, big tab 36 [.pointer (some ⟨gp, 0, none⟩), v] H = some (r, H1) ∧ Mem H H1 [.sl 1 r (List.map encS (List.map (fun x => names.getD x []) o))] := by
  obtain ⟨an, aa, ax, M, nx, own, hG⟩ := hG
  have hM := Mem.start H
  refine big_of_runs rfl rfl rfl ?_
  obtain ⟨z, hz⟩ := startC_mkS Try.f36 [.pointer (some ⟨gp, 0, none⟩), v]
  rw [show startC (36, Try.f36).snd [.pointer (some ⟨gp, 0, none⟩), v] = _ from hz]
  clear hz
  refine Runs.cut (n := 26) (l := [(0, .pointer (some ⟨gp, 0, none⟩)), (1, v)]) (Is.of ⟨rfl, rfl, rfl, rfl, trivial⟩) (fun a0 => ?_)
  refine Runs.seq ?_
  refine Runs.region ?_
  refine Rg.opp (v := .slice none 0 0) rfl rfl rfl rfl rfl ?_
  refine Rg.nil ?_
  refine Runs.seq ?_
  refine Runs.region ?_
  refine Rg.opp (v := .slice none 0 0) rfl rfl rfl rfl rfl ?_
  refine Rg.nil ?_
  refine Runs.seq ?_
  refine Runs.seq ?_
  refine Runs.region ?_
  refine Rg.opp (v := v) rfl rfl rfl rfl rfl ?_
  refine Rg.opp (v := nat o.length) rfl rfl rfl (ev_lenM (hv.sees hM.ext.sees) rfl rfl) rfl ?_
  refine Rg.opp (v := nat 0) rfl rfl rfl rfl rfl ?_
  refine Rg.nil ?_
  refine Runs.block ?_
  refine Runs.loop (fun m s Hc => ∃ (j : Nat) (ov : Value), m = o.length - j ∧ Mem H Hc ([.sl 1 ov (List.map encS (List.map (fun x => names.getD x []) (o.take j)))]) ∧ (j ≤ o.length) ∧ Is s 26 [(0, .pointer (some ⟨gp, 0, none⟩)), (5, ov), (8, v), (9, nat o.length), (10, nat j)]) _
    ⟨0, .slice none 0 0, rfl, by rw [List.take_zero]; exact hM.nilSl 1, Nat.zero_le _, Is.of ⟨rfl, rfl, rfl, rfl, rfl, rfl, rfl, rfl, rfl, rfl, trivial⟩⟩ ?_
  rintro m s Hc ⟨j, ov, rfl, hM, hj, hs⟩
  obtain ⟨a1, rfl⟩ := hs.mk1
  clear hs
  refine Runs.seq ?_
  refine Runs.region ?_
  by_cases hlt : j < o.length
  · skip
    have hon := ho _ (List.getElem_mem hlt)
    have htl : (o.take j).length ≤ j := by rw [List.length_take]; omega
    refine Rg.opp (v := .bool true) rfl rfl rfl (ev_ltT rfl rfl (hlt)) rfl ?_
    refine Rg.nil ?_
    refine Runs.seq ?_
    refine Runs.cond true rfl (fun _ => ?_) (fun h => by cases h)
    refine Runs.skip ?_
    refine Runs.seq ?_
    refine Runs.block ?_
    refine Runs.seq ?_
    refine Runs.region ?_
    refine Rg.opp (v := ptrAt (sAddr v) (j * 1)) rfl rfl rfl (ev_idxM (k := j) (hv.sees hM.ext.sees) rfl rfl (hlt) rfl rfl rfl (by decide)) rfl ?_
    refine Rg.opp (v := nat (o[j])) rfl rfl rfl (ev_ldM (k := j) (hv.sees hM.ext.sees) rfl (hlt) rfl rfl rfl rfl) rfl ?_
    refine Rg.opp (v := nat (o[j])) rfl rfl rfl rfl rfl ?_
    refine Rg.nil ?_
    refine Runs.region ?_
    refine Rg.opp (v := ov) rfl rfl rfl rfl rfl ?_
    refine Rg.opp (v := .pointer (some ⟨gp, 0, none⟩)) rfl rfl rfl rfl rfl ?_
    refine Rg.opp (v := .pointer (some ⟨gp, 0, none⟩)) rfl rfl rfl rfl rfl ?_
    refine Rg.opp (v := .pointer (some ⟨gp, 0, none⟩)) rfl rfl rfl (ev_fld (o := 0) (p := (37, 0)) rfl rfl rfl rfl rfl (by decide)) rfl ?_
    refine Rg.opp (v := an) rfl rfl rfl (ev_ldb (hM.ext.get hG.box) rfl rfl rfl rfl rfl) rfl ?_
    refine Rg.opp (v := nat (o[j])) rfl rfl rfl rfl rfl ?_
    refine Rg.opp (v := ptrAt (sAddr an) ((o[j]) * 1)) rfl rfl rfl (ev_idxM (k := o[j]) (hG.hnames.sees hM.ext.sees) rfl rfl (hon) rfl rfl rfl (by decide)) rfl ?_
    refine Rg.opp (v := str (names.getD o[j] [])) rfl rfl rfl (ev_ldM (k := (o[j])) (hG.hnames.sees hM.ext.sees) rfl (hon) (encS_getD hon) rfl rfl rfl) rfl ?_
    refine Rg.lit (f := encS) (sz := 1) (xs := [names.getD o[j] []]) hM rfl rfl rfl rfl rfl (by simp) (by simp) (fun u2 Hc (hM : Mem H Hc ([.sl 1 u2 (List.map encS ([names.getD o[j] []])), .sl 1 ov (List.map encS (List.map (fun x => names.getD x []) (o.take j)))])) _ => ?_)
    refine Rg.appM (f := encS) (sz := 1) (j := 1) (v := ov) (xs := List.map (fun x => names.getD x []) (o.take j)) (ys := [names.getD o[j] []]) hM rfl rfl rfl rfl rfl rfl rfl (hM.get_sl (j := 0) rfl) ⟨rfl, rfl, rfl, by decide⟩ rfl (by simp [oneCell]) (by show (_ + _) * 16 ≤ 2 ^ 40; simp only [List.length_map, List.length_cons, List.length_nil]; omega) (by simp) (fun ov1 Hc (hM : Mem H Hc ([.sl 1 u2 (List.map encS ([names.getD o[j] []])), .sl 1 ov1 (List.map encS ((List.map (fun x => names.getD x []) (o.take j)) ++ ([names.getD o[j] []])))])) hgr => ?_)
    replace hM : Mem H _ ([.sl 1 ov1 (List.map encS ((List.map (fun x => names.getD x []) (o.take j)) ++ ([names.getD o[j] []])))]) := hM.erase 0
    refine Rg.opp (v := ov1) rfl rfl rfl rfl rfl ?_
    refine Rg.nil ?_
    refine Runs.region ?_
    refine Rg.opp (v := nat (j + 1)) rfl rfl rfl (ev_addN (b := 1) rfl rfl (by omega)) rfl ?_
    refine Rg.opp (v := nat (j + 1)) rfl rfl rfl rfl rfl ?_
    refine Rg.nil ?_
    refine ⟨o.length - (j + 1), by omega, j + 1, ov1, rfl, by rw [← List.take_append_getElem hlt, List.map_append]; exact hM, hlt, Is.of ⟨rfl, rfl, rfl, rfl, rfl, rfl, rfl, rfl, rfl, rfl, trivial⟩⟩
  · skip
    refine Rg.opp (v := .bool false) rfl rfl rfl (ev_ltF rfl rfl (hlt)) rfl ?_
    refine Rg.nil ?_
    refine Runs.seq ?_
    refine Runs.cond false rfl (fun h => by cases h) (fun _ => ?_)
    refine Runs.exit ?_
    refine Runs.seq ?_
    refine Runs.region ?_
    refine Rg.opp (v := ov) rfl rfl rfl rfl rfl ?_
    refine Rg.opp (v := ov) rfl rfl rfl rfl rfl ?_
    refine Rg.nil ?_
    refine Runs.ret ?_
    refine ⟨ov, rfl, ?_⟩
    have hje : j = o.length := by omega
    rw [hje, List.take_length] at hM
    exact hM

theorem order_T {H : Heap} {v : Value} {l : List Rel} (hl : Sl H 3 v (rels l)) (hll : l.length ≤ 200) (hg : ∀ r ∈ l, Good r) (hu : (unitsP l).length ≤ 60) (hc : cycB (arcsOf l) = true) :
    ∃ r H1, big tab 17 [v] H = some (r, H1) ∧ r = .tuple #[.slice none 0 0, nat 27] ∧ Ext H H1 := by
  refine big_of_runs rfl rfl rfl ?_
  obtain ⟨z, hz⟩ := startC_mkS Try.f17 [v]
  rw [show startC (17, Try.f17).snd [v] = _ from hz]
  clear hz
  refine Runs.cut (n := 25) (l := [(0, v)]) (Is.of ⟨rfl, rfl, trivial⟩) (fun a0 => ?_)
  refine Runs.seq ?_
  refine Runs.region ?_
  refine Rg.opp (v := .slice none 0 0) rfl rfl rfl rfl rfl ?_
  refine Rg.opp (v := nat 0) rfl rfl rfl rfl rfl ?_
  refine Rg.nil ?_
  refine Runs.seq ?_
  refine Runs.seq ?_
  refine Runs.region ?_
  refine Rg.opp (v := v) rfl rfl rfl rfl rfl ?_
  refine Rg.callW rfl rfl rfl rfl (rfl) rfl (checkP_runs hl hll hg (by omega)) (fun rc Hk hP => ?_)
  obtain ⟨rfl, hec⟩ := hP
  have hM := Mem.start Hk
  refine Rg.opp (v := nat 0) rfl rfl rfl rfl rfl ?_
  refine Rg.nil ?_
  refine Runs.seq ?_
  refine Runs.region ?_
  refine Rg.opp (v := nat 0) rfl rfl rfl rfl rfl ?_
  refine Rg.opp (v := .bool false) rfl rfl rfl (ev_neF rfl rfl (by decide)) rfl ?_
  refine Rg.nil ?_
  refine Runs.cond false rfl (fun h => by cases h) (fun _ => ?_)
  refine Runs.skip ?_
  refine Runs.seq ?_
  refine Runs.region ?_
  refine Rg.opp (v := v) rfl rfl rfl rfl rfl ?_
  refine Rg.callW rfl rfl rfl rfl (rfl) rfl (build_runs (hl.sees hec.sees) (by omega) (by omega)) (fun rb Hb hP => ?_)
  obtain ⟨heb, gp, an, aa, ax, M, nx, own, rfl, hG, hmap⟩ := hP
  have hM := Mem.start Hb
  refine Rg.opp (v := .pointer (some ⟨gp, 0, none⟩)) rfl rfl rfl rfl rfl ?_
  refine Rg.nil ?_
  refine Runs.seq ?_
  refine Runs.region ?_
  refine Rg.opp (v := .pointer (some ⟨gp, 0, none⟩)) rfl rfl rfl rfl rfl ?_
  refine Rg.callW rfl rfl rfl rfl (rfl) rfl (sorted_runs ⟨_, _, _, _, _, _, hG⟩ (arcs_wf l) (by omega) (by have := arcsUp_len l l.length; show (arcsUp l l.length).length ≤ _; omega)) (fun rs Hs hP => ?_)
  obtain ⟨so, o, hr, hMs, hK⟩ := hP
  rw [kahn_ok (arcs_wf l) hK, hc] at hr
  subst hr
  have hes := hMs.ext
  have hos := hMs.get_sl (j := 0) rfl
  have hM := Mem.start Hs
  refine Rg.opp (v := .tuple #[so, .bool false]) rfl rfl rfl rfl rfl ?_
  refine Rg.opp (v := so) rfl rfl rfl rfl rfl ?_
  refine Rg.opp (v := .bool false) rfl rfl rfl rfl rfl ?_
  refine Rg.opp (v := so) rfl rfl rfl rfl rfl ?_
  refine Rg.opp (v := .bool false) rfl rfl rfl rfl rfl ?_
  refine Rg.nil ?_
  refine Runs.seq ?_
  refine Runs.seq ?_
  refine Runs.region ?_
  refine Rg.opp (v := .bool false) rfl rfl rfl rfl rfl ?_
  refine Rg.opp (v := .bool true) rfl rfl rfl rfl rfl ?_
  refine Rg.nil ?_
  refine Runs.cond true rfl (fun _ => ?_) (fun h => by cases h)
  refine Runs.seq ?_
  refine Runs.region ?_
  refine Rg.opp (v := .slice none 0 0) rfl rfl rfl rfl rfl ?_
  refine Rg.opp (v := nat 27) rfl rfl rfl rfl rfl ?_
  refine Rg.nil ?_
  refine Runs.ret ?_
  refine ⟨.tuple #[.slice none 0 0, nat 27], rfl, ?_⟩
  exact ⟨rfl, hec.trans (heb.trans (hes.trans hM.ext))⟩

theorem order_F {H : Heap} {v : Value} {l : List Rel} (hl : Sl H 3 v (rels l)) (hll : l.length ≤ 200) (hg : ∀ r ∈ l, Good r) (hu : (unitsP l).length ≤ 60) (hc : cycB (arcsOf l) = false) :
    ∃ r H1, big tab 17 [v] H = some (r, H1) ∧ ∃ ov o, r = .tuple #[ov, nat 0] ∧ Mem H H1 [.sl 1 ov (List.map encS (List.map (fun x => (unitsP l).getD x []) o))] ∧ Kahn (arcsOf l) (unitsP l).length o [] := by
  refine big_of_runs rfl rfl rfl ?_
  obtain ⟨z, hz⟩ := startC_mkS Try.f17 [v]
  rw [show startC (17, Try.f17).snd [v] = _ from hz]
  clear hz
  refine Runs.cut (n := 25) (l := [(0, v)]) (Is.of ⟨rfl, rfl, trivial⟩) (fun a0 => ?_)
  refine Runs.seq ?_
  refine Runs.region ?_
  refine Rg.opp (v := .slice none 0 0) rfl rfl rfl rfl rfl ?_
  refine Rg.opp (v := nat 0) rfl rfl rfl rfl rfl ?_
  refine Rg.nil ?_
  refine Runs.seq ?_
  refine Runs.seq ?_
  refine Runs.region ?_
  refine Rg.opp (v := v) rfl rfl rfl rfl rfl ?_
  refine Rg.callW rfl rfl rfl rfl (rfl) rfl (checkP_runs hl hll hg (by omega)) (fun rc Hk hP => ?_)
  obtain ⟨rfl, hec⟩ := hP
  have hM := Mem.start Hk
  refine Rg.opp (v := nat 0) rfl rfl rfl rfl rfl ?_
  refine Rg.nil ?_
  refine Runs.seq ?_
  refine Runs.region ?_
  refine Rg.opp (v := nat 0) rfl rfl rfl rfl rfl ?_
  refine Rg.opp (v := .bool false) rfl rfl rfl (ev_neF rfl rfl (by decide)) rfl ?_
  refine Rg.nil ?_
  refine Runs.cond false rfl (fun h => by cases h) (fun _ => ?_)
  refine Runs.skip ?_
  refine Runs.seq ?_
  refine Runs.region ?_
  refine Rg.opp (v := v) rfl rfl rfl rfl rfl ?_
  refine Rg.callW rfl rfl rfl rfl (rfl) rfl (build_runs (hl.sees hec.sees) (by omega) (by omega)) (fun rb Hb hP => ?_)
  obtain ⟨heb, gp, an, aa, ax, M, nx, own, rfl, hG, hmap⟩ := hP
  have hM := Mem.start Hb
  refine Rg.opp (v := .pointer (some ⟨gp, 0, none⟩)) rfl rfl rfl rfl rfl ?_
  refine Rg.nil ?_
  refine Runs.seq ?_
  refine Runs.region ?_
  refine Rg.opp (v := .pointer (some ⟨gp, 0, none⟩)) rfl rfl rfl rfl rfl ?_
  refine Rg.callW rfl rfl rfl rfl (rfl) rfl (sorted_runs ⟨_, _, _, _, _, _, hG⟩ (arcs_wf l) (by omega) (by have := arcsUp_len l l.length; show (arcsUp l l.length).length ≤ _; omega)) (fun rs Hs hP => ?_)
  obtain ⟨so, o, hr, hMs, hK⟩ := hP
  rw [kahn_ok (arcs_wf l) hK, hc] at hr
  subst hr
  have hes := hMs.ext
  have hos := hMs.get_sl (j := 0) rfl
  have hM := Mem.start Hs
  refine Rg.opp (v := .tuple #[so, .bool true]) rfl rfl rfl rfl rfl ?_
  refine Rg.opp (v := so) rfl rfl rfl rfl rfl ?_
  refine Rg.opp (v := .bool true) rfl rfl rfl rfl rfl ?_
  refine Rg.opp (v := so) rfl rfl rfl rfl rfl ?_
  refine Rg.opp (v := .bool true) rfl rfl rfl rfl rfl ?_
  refine Rg.nil ?_
  refine Runs.seq ?_
  refine Runs.seq ?_
  refine Runs.region ?_
  refine Rg.opp (v := .bool true) rfl rfl rfl rfl rfl ?_
  refine Rg.opp (v := .bool false) rfl rfl rfl rfl rfl ?_
  refine Rg.nil ?_
  refine Runs.cond false rfl (fun h => by cases h) (fun _ => ?_)
  refine Runs.skip ?_
  refine Runs.seq ?_
  refine Runs.region ?_
  refine Rg.opp (v := .pointer (some ⟨gp, 0, none⟩)) rfl rfl rfl rfl rfl ?_
  refine Rg.opp (v := so) rfl rfl rfl rfl rfl ?_
  refine Rg.callW rfl rfl rfl rfl (rfl) rfl (nameO_runs (GraphAt.sees (hes.trans hM.ext).sees ⟨_, _, _, _, _, _, hG⟩) (hos.sees hM.ext.sees) (fun x hx => hK.lt x (by simpa using hx)) (by have := hK.len; omega)) (fun nv Hn hP => ?_)
  refine Rg.opp (v := nv) rfl rfl rfl rfl rfl ?_
  refine Rg.opp (v := nat 0) rfl rfl rfl rfl rfl ?_
  refine Rg.nil ?_
  refine Runs.ret ?_
  refine ⟨.tuple #[nv, nat 0], rfl, ?_⟩
  exact ⟨nv, o, rfl, ((Mem.start H).more (hec.trans (heb.trans hes))).under hP, hK⟩


end Go.Proofs.Ytdhbclplondmjaa.C

end

section
/- Prefixes of a list that came in; the law's search for a cycle, plain. -/
set_option linter.unusedVariables false
set_option linter.unusedSimpArgs false
namespace Go.Proofs.Ytdhbclplondmjaa.C
open Go.RowKit Go.Sort

theorem Sl.prefix {T : Tab} {H : Heap} {v : Value} {es : List (List Value)} {m : Nat} {ty e : TypeId} {ei : TI} (h : Sl H ei.size v es) (hd : T.d ty = some (.slice e)) (he : T.T e = some ei) (h1 : 1 ≤ m) (hm : m ≤ es.length) :
    ∃ u, sliceVal T H ty v none (some (nat m)) none = some u ∧ Sl H ei.size u (es.take m) := by
  obtain ⟨a, c, rfl, hc, hcells⟩ := h
  rcases hcells with rfl | ⟨b, o, rfl, hsz, hr⟩
  · simp at hm; omega
  have hl : (es.take m).length = m := by rw [List.length_take]; omega
  have hb : bnd (nat m) (if c = unk then es.length else c) = some m := by
    have : (0 : Int) ≤ (m : Nat) ∧ ((m : Nat) : Int) ≤ ((if c = unk then es.length else c : Nat) : Int) := ⟨by omega, by split <;> omega⟩
    simp only [bnd, nat, if_pos this, Int.toNat_natCast]
  refine ⟨.slice (some ⟨b, o, none⟩) m (if c = unk then unk else c), ?_, some ⟨b, o, none⟩, (if c = unk then unk else c), by rw [hl], by rw [hl]; split <;> omega, .inr ⟨b, o, rfl, hsz, fun i x hx => ?_⟩⟩
  · have h0 : ¬ (c = 0 ∧ c ≠ unk) := by omega
    simp only [sliceVal, hd, he, Option.bind_some, hb, cutSlice, if_neg h0, hsz, if_true, Nat.zero_mul, Nat.add_zero, Nat.sub_zero]
  · rw [List.getElem?_take] at hx
    split at hx
    · exact hr i x hx
    · cases hx

theorem rels_prefix {H : Heap} {v : Value} {l : List Rel} {m : Nat} (h : Sl H 3 v (rels l)) (h1 : 1 ≤ m) (hm : m ≤ l.length) :
    ∃ u, sliceVal tab H 25 v none (some (nat m)) none = some u ∧ Sl H 3 u (rels (l.take m)) := by
  obtain ⟨ei, hei, hes⟩ : ∃ ei, tab.T 41 = some ei ∧ ei.size = 3 := ⟨_, rfl, rfl⟩
  rw [← hes] at h
  obtain ⟨u, h2, h3⟩ := Sl.prefix (T := tab) (ty := 25) (e := 41) h rfl hei h1 (by simpa [rels] using hm)
  rw [hes] at h3
  refine ⟨u, h2, ?_⟩
  unfold rels at h3 ⊢
  rw [List.map_take]; exact h3

theorem Seenly.take {l : List Rel} (h : Seenly l) (m : Nat) : Seenly (l.take m) :=
  h.sub (fun r hr => List.mem_of_mem_take hr) (by rw [List.length_take]; have := h.len; omega)

theorem W.map {A B : List (Nat × Nat)} {g : Nat → Nat} (h : ∀ p ∈ A, (g p.1, g p.2) ∈ B) : ∀ {k a b : Nat}, W A k a b → W B k (g a) (g b)
  | 0, a, b, w => by cases w; rfl
  | k + 1, a, b, ⟨c, w, hm⟩ => ⟨g c, W.map h w, h _ hm⟩

/-- What goes round within goes round. -/
theorem cyc_sub {l m : List Rel} (h : ∀ r ∈ m, r ∈ l) (hc : Cyc (arcsOf m)) : Cyc (arcsOf l) := by
  obtain ⟨x, k, hk, w⟩ := hc
  refine ⟨_, k, hk, W.map (g := fun x => idx (unitsP l) ((unitsP m).getD x [])) ?_ w⟩
  intro p hp
  obtain ⟨b, hb, rfl⟩ := List.mem_map.1 hp
  obtain ⟨j, hj, _, hk4, rfl⟩ := arcs_mem.1 hb
  simp only [getD_idx (lo_unit hj), getD_idx (up_unit hj)]
  obtain ⟨q, hq, he⟩ := List.mem_iff_getElem.1 (h _ (List.getElem_mem hj))
  rw [← he] at hk4 ⊢
  exact List.mem_map.2 ⟨_, arcs_mem.2 ⟨q, hq, hq, hk4, rfl⟩, rfl⟩

theorem cyc_take {l : List Rel} {m : Nat} (hc : ¬ Cyc (arcsOf l)) : cycB (arcsOf (l.take m)) = false :=
  cycB_not.2 fun h => hc (cyc_sub (fun r hr => List.mem_of_mem_take hr) h)

theorem cyc_first {l : List Rel} (hc : Cyc (arcsOf l)) : ∃ i, i < l.length ∧ cycB (arcsOf (l.take (i + 1))) = true ∧ ∀ k, k < i → cycB (arcsOf (l.take (k + 1))) = false := by
  have hl : 0 < l.length := by
    cases l with
    | nil => obtain ⟨x, k, hk, w⟩ := hc; obtain ⟨k, rfl⟩ : ∃ j, k = j + 1 := ⟨k - 1, by omega⟩; obtain ⟨_, _, q⟩ := w; simp [arcsOf, arcsUp, prs] at q
    | cons a l => simp
  obtain ⟨i, hi, hm⟩ := least_of (P := fun i => cycB (arcsOf (l.take (i + 1))) = true) ⟨l.length - 1, by
    rw [show l.length - 1 + 1 = l.length by omega, List.take_length]; exact cycB_iff.2 hc⟩
  have h1 := hm (l.length - 1) (by rw [show l.length - 1 + 1 = l.length by omega, List.take_length]; exact cycB_iff.2 hc)
  refine ⟨i, by omega, hi, fun k hk => ?_⟩
  cases z : cycB (arcsOf (l.take (k + 1))) with
  | false => rfl
  | true => have := hm k z; omega

end Go.Proofs.Ytdhbclplondmjaa.C

end

section
/- First, run. -/
set_option linter.unusedVariables false
set_option linter.unusedSimpArgs false
set_option maxRecDepth 100000
set_option maxHeartbeats 4000000
namespace Go.Proofs.Ytdhbclplondmjaa.C
open Go.RowKit Go.Sort

theorem first_T {H : Heap} {v : Value} {l : List Rel} (hl : Sl H 3 v (rels l)) (sly : Seenly l) {i0 : Nat} (hi0 : i0 < l.length) (hc : cycB (arcsOf (l.take (i0 + 1))) = true) (hno : ∀ k, k < i0 → cycB (arcsOf (l.take (k + 1))) = false) :
    ∃ r H1, big tab 18 [v] H = some (r, H1) ∧ r = .tuple #[nat i0, .bool true, nat 0] ∧ Ext H H1 := by
  have hll := sly.len
  have hlu := sly.units
  refine big_of_runs rfl rfl rfl ?_
  obtain ⟨z, hz⟩ := startC_mkS Try.f18 [v]
  rw [show startC (18, Try.f18).snd [v] = _ from hz]
  clear hz
  refine Runs.cut (n := 32) (l := [(0, v)]) (Is.of ⟨rfl, rfl, trivial⟩) (fun a0 => ?_)
  refine Runs.seq ?_
  refine Runs.region ?_
  refine Rg.opp (v := nat 0) rfl rfl rfl rfl rfl ?_
  refine Rg.opp (v := .bool false) rfl rfl rfl rfl rfl ?_
  refine Rg.opp (v := nat 0) rfl rfl rfl rfl rfl ?_
  refine Rg.nil ?_
  refine Runs.seq ?_
  refine Runs.seq ?_
  refine Runs.region ?_
  refine Rg.opp (v := v) rfl rfl rfl rfl rfl ?_
  refine Rg.callW rfl rfl rfl rfl (rfl) rfl (checkP_runs hl (by omega) sly.good (by omega)) (fun rc Hk hP => ?_)
  obtain ⟨rfl, hec⟩ := hP
  have hM := Mem.start Hk
  refine Rg.opp (v := nat 0) rfl rfl rfl rfl rfl ?_
  refine Rg.nil ?_
  refine Runs.seq ?_
  refine Runs.region ?_
  refine Rg.opp (v := nat 0) rfl rfl rfl rfl rfl ?_
  refine Rg.opp (v := .bool false) rfl rfl rfl (ev_neF rfl rfl (by decide)) rfl ?_
  refine Rg.nil ?_
  refine Runs.cond false rfl (fun h => by cases h) (fun _ => ?_)
  refine Runs.skip ?_
  refine Runs.seq ?_
  refine Runs.seq ?_
  refine Runs.region ?_
  refine Rg.opp (v := v) rfl rfl rfl rfl rfl ?_
  refine Rg.opp (v := nat l.length) rfl rfl rfl (ev_lenM (hl.sees (hec.trans hM.ext).sees) rfl rfl) rfl ?_
  refine Rg.opp (v := nat 0) rfl rfl rfl rfl rfl ?_
  refine Rg.nil ?_
  refine Runs.block ?_
  refine Runs.loop (fun m s Hc => ∃ (j : Nat), m = l.length - j ∧ Mem Hk Hc ([]) ∧ (j ≤ i0) ∧ Is s 32 [(0, v), (15, nat l.length), (16, nat j)]) _
    ⟨0, rfl, hM, Nat.zero_le _, Is.of ⟨rfl, rfl, rfl, rfl, rfl, rfl, trivial⟩⟩ ?_
  rintro m s Hc ⟨j, rfl, hM, hj, hs⟩
  obtain ⟨a1, rfl⟩ := hs.mk1
  clear hs
  refine Runs.seq ?_
  refine Runs.region ?_
  refine Rg.opp (v := .bool true) rfl rfl rfl (ev_ltT (a := j) (b := l.length) rfl rfl (by omega)) rfl ?_
  refine Rg.nil ?_
  refine Runs.seq ?_
  refine Runs.cond true rfl (fun _ => ?_) (fun h => by cases h)
  refine Runs.skip ?_
  refine Runs.seq ?_
  refine Runs.block ?_
  refine Runs.seq ?_
  refine Runs.region ?_
  refine Rg.opp (v := nat j) rfl rfl rfl rfl rfl ?_
  refine Rg.opp (v := nat j) rfl rfl rfl rfl rfl ?_
  refine Rg.nil ?_
  refine Runs.seq ?_
  refine Runs.region ?_
  refine Rg.opp (v := v) rfl rfl rfl rfl rfl ?_
  refine Rg.opp (v := nat j) rfl rfl rfl rfl rfl ?_
  refine Rg.opp (v := nat (j + 1)) rfl rfl rfl (ev_addN (b := 1) rfl rfl (by omega)) rfl ?_
  obtain ⟨pv, hpv, hps⟩ := rels_prefix (hl.sees (hec.trans hM.ext).sees) (m := j + 1) (by omega) (by omega)
  have hsp := sly.take (j + 1)
  have hspl := hsp.len
  have hspu := hsp.units
  refine Rg.opp (v := pv) rfl rfl rfl (ev_slice rfl hpv) rfl ?_
  refine Rg.callW rfl rfl rfl rfl (rfl) rfl (build_runs hps (by omega) (by omega)) (fun rb Hb hP => ?_)
  obtain ⟨heb, gp, an, aa, ax, M, nx, own, rfl, hG, hmap⟩ := hP
  have heb := hM.ext.trans heb
  have hM := Mem.start Hb
  by_cases hji : j = i0
  · skip
    have hcj : cycB (arcsOf (l.take (j + 1))) = true := by rw [hji]; exact hc
    refine Rg.callW rfl rfl rfl rfl (rfl) rfl (sorted_runs ⟨_, _, _, _, _, _, hG⟩ (arcs_wf _) (by omega) (by have := arcsUp_len (l.take (j + 1)) (l.take (j + 1)).length; show (arcsUp (l.take (j + 1)) (l.take (j + 1)).length).length ≤ _; omega)) (fun rs Hs hP => ?_)
    obtain ⟨so, o, hr, hMs, hK⟩ := hP
    rw [kahn_ok (arcs_wf _) hK, hcj] at hr
    subst hr
    have hes := hMs.ext
    replace hM := hM.more hes
    refine Rg.opp (v := .tuple #[so, .bool false]) rfl rfl rfl rfl rfl ?_
    refine Rg.opp (v := so) rfl rfl rfl rfl rfl ?_
    refine Rg.opp (v := .bool false) rfl rfl rfl rfl rfl ?_
    refine Rg.opp (v := so) rfl rfl rfl rfl rfl ?_
    refine Rg.opp (v := .bool false) rfl rfl rfl rfl rfl ?_
    refine Rg.nil ?_
    refine Runs.seq ?_
    refine Runs.region ?_
    refine Rg.opp (v := .bool false) rfl rfl rfl rfl rfl ?_
    refine Rg.opp (v := .bool true) rfl rfl rfl rfl rfl ?_
    refine Rg.nil ?_
    refine Runs.cond true rfl (fun _ => ?_) (fun h => by cases h)
    refine Runs.seq ?_
    refine Runs.region ?_
    refine Rg.opp (v := nat j) rfl rfl rfl rfl rfl ?_
    refine Rg.opp (v := nat j) rfl rfl rfl rfl rfl ?_
    refine Rg.opp (v := .bool true) rfl rfl rfl rfl rfl ?_
    refine Rg.opp (v := nat 0) rfl rfl rfl rfl rfl ?_
    refine Rg.nil ?_
    refine Runs.ret ?_
    refine ⟨.tuple #[nat j, .bool true, nat 0], rfl, ?_⟩
    exact ⟨by rw [hji], hec.trans (heb.trans hM.ext)⟩
  · skip
    have hcj : cycB (arcsOf (l.take (j + 1))) = false := hno j (by omega)
    refine Rg.callW rfl rfl rfl rfl (rfl) rfl (sorted_runs ⟨_, _, _, _, _, _, hG⟩ (arcs_wf _) (by omega) (by have := arcsUp_len (l.take (j + 1)) (l.take (j + 1)).length; show (arcsUp (l.take (j + 1)) (l.take (j + 1)).length).length ≤ _; omega)) (fun rs Hs hP => ?_)
    obtain ⟨so, o, hr, hMs, hK⟩ := hP
    rw [kahn_ok (arcs_wf _) hK, hcj] at hr
    subst hr
    have hes := hMs.ext
    replace hM := hM.more hes
    refine Rg.opp (v := .tuple #[so, .bool true]) rfl rfl rfl rfl rfl ?_
    refine Rg.opp (v := so) rfl rfl rfl rfl rfl ?_
    refine Rg.opp (v := .bool true) rfl rfl rfl rfl rfl ?_
    refine Rg.opp (v := so) rfl rfl rfl rfl rfl ?_
    refine Rg.opp (v := .bool true) rfl rfl rfl rfl rfl ?_
    refine Rg.nil ?_
    refine Runs.seq ?_
    refine Runs.region ?_
    refine Rg.opp (v := .bool true) rfl rfl rfl rfl rfl ?_
    refine Rg.opp (v := .bool false) rfl rfl rfl rfl rfl ?_
    refine Rg.nil ?_
    refine Runs.cond false rfl (fun h => by cases h) (fun _ => ?_)
    refine Runs.skip ?_
    refine Runs.region ?_
    refine Rg.opp (v := nat (j + 1)) rfl rfl rfl (ev_addN (b := 1) rfl rfl (by omega)) rfl ?_
    refine Rg.opp (v := nat (j + 1)) rfl rfl rfl rfl rfl ?_
    refine Rg.nil ?_
    refine ⟨l.length - (j + 1), by omega, j + 1, rfl, (Mem.start Hk).more (heb.trans hM.ext), (by omega), Is.of ⟨rfl, rfl, rfl, rfl, rfl, rfl, trivial⟩⟩

theorem first_F {H : Heap} {v : Value} {l : List Rel} (hl : Sl H 3 v (rels l)) (sly : Seenly l) (hno : ∀ k, k < l.length → cycB (arcsOf (l.take (k + 1))) = false) :
    ∃ r H1, big tab 18 [v] H = some (r, H1) ∧ r = .tuple #[nat 0, .bool false, nat 0] ∧ Ext H H1 := by
  have hll := sly.len
  have hlu := sly.units
  refine big_of_runs rfl rfl rfl ?_
  obtain ⟨z, hz⟩ := startC_mkS Try.f18 [v]
  rw [show startC (18, Try.f18).snd [v] = _ from hz]
  clear hz
  refine Runs.cut (n := 32) (l := [(0, v)]) (Is.of ⟨rfl, rfl, trivial⟩) (fun a0 => ?_)
  refine Runs.seq ?_
  refine Runs.region ?_
  refine Rg.opp (v := nat 0) rfl rfl rfl rfl rfl ?_
  refine Rg.opp (v := .bool false) rfl rfl rfl rfl rfl ?_
  refine Rg.opp (v := nat 0) rfl rfl rfl rfl rfl ?_
  refine Rg.nil ?_
  refine Runs.seq ?_
  refine Runs.seq ?_
  refine Runs.region ?_
  refine Rg.opp (v := v) rfl rfl rfl rfl rfl ?_
  refine Rg.callW rfl rfl rfl rfl (rfl) rfl (checkP_runs hl (by omega) sly.good (by omega)) (fun rc Hk hP => ?_)
  obtain ⟨rfl, hec⟩ := hP
  have hM := Mem.start Hk
  refine Rg.opp (v := nat 0) rfl rfl rfl rfl rfl ?_
  refine Rg.nil ?_
  refine Runs.seq ?_
  refine Runs.region ?_
  refine Rg.opp (v := nat 0) rfl rfl rfl rfl rfl ?_
  refine Rg.opp (v := .bool false) rfl rfl rfl (ev_neF rfl rfl (by decide)) rfl ?_
  refine Rg.nil ?_
  refine Runs.cond false rfl (fun h => by cases h) (fun _ => ?_)
  refine Runs.skip ?_
  refine Runs.seq ?_
  refine Runs.seq ?_
  refine Runs.region ?_
  refine Rg.opp (v := v) rfl rfl rfl rfl rfl ?_
  refine Rg.opp (v := nat l.length) rfl rfl rfl (ev_lenM (hl.sees (hec.trans hM.ext).sees) rfl rfl) rfl ?_
  refine Rg.opp (v := nat 0) rfl rfl rfl rfl rfl ?_
  refine Rg.nil ?_
  refine Runs.block ?_
  refine Runs.loop (fun m s Hc => ∃ (j : Nat), m = l.length - j ∧ Mem Hk Hc ([]) ∧ (j ≤ l.length) ∧ Is s 32 [(0, v), (15, nat l.length), (16, nat j)]) _
    ⟨0, rfl, hM, Nat.zero_le _, Is.of ⟨rfl, rfl, rfl, rfl, rfl, rfl, trivial⟩⟩ ?_
  rintro m s Hc ⟨j, rfl, hM, hj, hs⟩
  obtain ⟨a1, rfl⟩ := hs.mk1
  clear hs
  refine Runs.seq ?_
  refine Runs.region ?_
  by_cases hlt : j < l.length
  · skip
    refine Rg.opp (v := .bool true) rfl rfl rfl (ev_ltT rfl rfl (hlt)) rfl ?_
    refine Rg.nil ?_
    refine Runs.seq ?_
    refine Runs.cond true rfl (fun _ => ?_) (fun h => by cases h)
    refine Runs.skip ?_
    refine Runs.seq ?_
    refine Runs.block ?_
    refine Runs.seq ?_
    refine Runs.region ?_
    refine Rg.opp (v := nat j) rfl rfl rfl rfl rfl ?_
    refine Rg.opp (v := nat j) rfl rfl rfl rfl rfl ?_
    refine Rg.nil ?_
    refine Runs.seq ?_
    refine Runs.region ?_
    refine Rg.opp (v := v) rfl rfl rfl rfl rfl ?_
    refine Rg.opp (v := nat j) rfl rfl rfl rfl rfl ?_
    refine Rg.opp (v := nat (j + 1)) rfl rfl rfl (ev_addN (b := 1) rfl rfl (by omega)) rfl ?_
    obtain ⟨pv, hpv, hps⟩ := rels_prefix (hl.sees (hec.trans hM.ext).sees) (m := j + 1) (by omega) (by omega)
    have hsp := sly.take (j + 1)
    have hspl := hsp.len
    have hspu := hsp.units
    refine Rg.opp (v := pv) rfl rfl rfl (ev_slice rfl hpv) rfl ?_
    refine Rg.callW rfl rfl rfl rfl (rfl) rfl (build_runs hps (by omega) (by omega)) (fun rb Hb hP => ?_)
    obtain ⟨heb, gp, an, aa, ax, M, nx, own, rfl, hG, hmap⟩ := hP
    have heb := hM.ext.trans heb
    have hM := Mem.start Hb
    have hcj : cycB (arcsOf (l.take (j + 1))) = false := hno j (by omega)
    refine Rg.callW rfl rfl rfl rfl (rfl) rfl (sorted_runs ⟨_, _, _, _, _, _, hG⟩ (arcs_wf _) (by omega) (by have := arcsUp_len (l.take (j + 1)) (l.take (j + 1)).length; show (arcsUp (l.take (j + 1)) (l.take (j + 1)).length).length ≤ _; omega)) (fun rs Hs hP => ?_)
    obtain ⟨so, o, hr, hMs, hK⟩ := hP
    rw [kahn_ok (arcs_wf _) hK, hcj] at hr
    subst hr
    have hes := hMs.ext
    replace hM := hM.more hes
    refine Rg.opp (v := .tuple #[so, .bool true]) rfl rfl rfl rfl rfl ?_
    refine Rg.opp (v := so) rfl rfl rfl rfl rfl ?_
    refine Rg.opp (v := .bool true) rfl rfl rfl rfl rfl ?_
    refine Rg.opp (v := so) rfl rfl rfl rfl rfl ?_
    refine Rg.opp (v := .bool true) rfl rfl rfl rfl rfl ?_
    refine Rg.nil ?_
    refine Runs.seq ?_
    refine Runs.region ?_
    refine Rg.opp (v := .bool true) rfl rfl rfl rfl rfl ?_
    refine Rg.opp (v := .bool false) rfl rfl rfl rfl rfl ?_
    refine Rg.nil ?_
    refine Runs.cond false rfl (fun h => by cases h) (fun _ => ?_)
    refine Runs.skip ?_
    refine Runs.region ?_
    refine Rg.opp (v := nat (j + 1)) rfl rfl rfl (ev_addN (b := 1) rfl rfl (by omega)) rfl ?_
    refine Rg.opp (v := nat (j + 1)) rfl rfl rfl rfl rfl ?_
    refine Rg.nil ?_
    refine ⟨l.length - (j + 1), by omega, j + 1, rfl, (Mem.start Hk).more (heb.trans hM.ext), (by omega), Is.of ⟨rfl, rfl, rfl, rfl, rfl, rfl, trivial⟩⟩
  · skip
    refine Rg.opp (v := .bool false) rfl rfl rfl (ev_ltF rfl rfl (hlt)) rfl ?_
    refine Rg.nil ?_
    refine Runs.seq ?_
    refine Runs.cond false rfl (fun h => by cases h) (fun _ => ?_)
    refine Runs.exit ?_
    refine Runs.seq ?_
    refine Runs.region ?_
    refine Rg.opp (v := nat 0) rfl rfl rfl rfl rfl ?_
    refine Rg.opp (v := .bool false) rfl rfl rfl rfl rfl ?_
    refine Rg.opp (v := nat 0) rfl rfl rfl rfl rfl ?_
    refine Rg.nil ?_
    refine Runs.ret ?_
    refine ⟨.tuple #[nat 0, .bool false, nat 0], rfl, ?_⟩
    exact ⟨rfl, hec.trans hM.ext⟩


end Go.Proofs.Ytdhbclplondmjaa.C

end

section
/- The law's search for a cycle, plain. -/
set_option linter.unusedVariables false
set_option linter.unusedSimpArgs false
namespace Go.Proofs.Ytdhbclplondmjaa.C
open Go.RowKit Go.Sort

/-- The way from an arc to one's greater in number, any. -/
structure Trail (arcs : List Arc) (a : Arc) (q : Nat) (cs : List Arc) : Prop where
  pos : 0 < cs.length
  fst : cs[0] = a
  mem : ∀ c ∈ cs, c ∈ arcs
  link : ∀ j (h : j + 1 < cs.length), cs[j].up = cs[j + 1].lo
  last : cs[cs.length - 1].up = q

theorem Trail.one {arcs : List Arc} {a : Arc} (ha : a ∈ arcs) : Trail arcs a a.up [a] :=
  ⟨by simp, rfl, fun c hc => by rw [List.mem_singleton.1 hc]; exact ha, fun j h => by simp at h, rfl⟩

theorem Trail.step {arcs : List Arc} {a b : Arc} {q : Nat} {cs : List Arc} (h : Trail arcs a q cs) (hb : b ∈ arcs) (hq : b.lo = q) : Trail arcs a b.up (cs ++ [b]) := by
  have hpos := h.pos
  refine ⟨by simp, ?_, fun c hc => ?_, fun j hj => ?_, by simp⟩
  · rw [List.getElem_append_left hpos]; exact h.fst
  · rcases List.mem_append.1 hc with e | e
    · exact h.mem c e
    · rw [List.mem_singleton.1 e]; exact hb
  · simp only [List.length_append, List.length_cons, List.length_nil] at hj
    rw [List.getElem_append_left (by omega : j < cs.length)]
    rcases Nat.lt_or_ge (j + 1) cs.length with z | z
    · rw [List.getElem_append_left z]; exact h.link j z
    · have e : j + 1 = cs.length := by omega
      rw [List.getElem_append_right z]
      simp only [e, Nat.sub_self, List.getElem_cons_zero]
      rw [hq, ← h.last]
      simp only [← e, Nat.add_sub_cancel]

theorem Trail.walk {arcs : List Arc} {a : Arc} {q : Nat} {cs : List Arc} (h : Trail arcs a q cs) : ∀ {d : Nat} (hd : d < cs.length), W (prs arcs) (d + 1) (cs[cs.length - 1 - d]'(by omega)).lo q
  | 0, hd => by
    have hm := h.mem _ (List.getElem_mem (show cs.length - 1 - 0 < cs.length by omega))
    exact ⟨_, rfl, List.mem_map.2 ⟨_, hm, by rw [show (cs[cs.length - 1 - 0]'(by omega)).up = q from h.last]⟩⟩
  | d + 1, hd => by
    have w := h.walk (d := d) (by omega)
    have hm := h.mem _ (List.getElem_mem (show cs.length - 1 - (d + 1) < cs.length by omega))
    have hl := h.link (cs.length - 1 - (d + 1)) (by omega)
    have e : cs.length - 1 - (d + 1) + 1 = cs.length - 1 - d := by omega
    simp only [e] at hl
    rw [← hl] at w
    exact W.cons (List.mem_map.2 ⟨_, hm, rfl⟩) w

/-- No closed walk is shorter than n. -/
def NoLess (arcs : List Arc) (n : Nat) : Prop := ∀ m x, 1 ≤ m → W (prs arcs) m x x → n ≤ m

theorem Trail.fresh {arcs : List Arc} {a : Arc} {q n : Nat} {cs : List Arc} (h : Trail arcs a q cs) (hn : NoLess arcs n) (hl : cs.length < n) {j : Nat} (hj : j < cs.length) : cs[j].lo ≠ q := by
  intro e
  have w := h.walk (d := cs.length - 1 - j) (by omega)
  have e2 : cs.length - 1 - (cs.length - 1 - j) = j := by omega
  simp only [e2, e] at w
  have := hn _ _ (by omega) w
  omega

theorem Trail.far {arcs : List Arc} {a : Arc} {q n : Nat} {cs : List Arc} (h : Trail arcs a q cs) (hn : NoLess arcs n) (t : Int) (hd : 0 ≤ distF (abv arcs t) a.lo q) : (n : Int) ≤ cs.length + distF (abv arcs t) a.lo q := by
  have hp := h.pos
  have w := h.walk (d := cs.length - 1) (by omega)
  have e2 : cs.length - 1 - (cs.length - 1) = 0 := by omega
  simp only [e2, h.fst] at w
  have := hn _ _ (by omega) (w.trans (abv_sub (distF_some hd)))
  omega

theorem distF_zero {A : List Arc} {to q : Nat} : distF A to q = 0 ↔ q = to := by
  constructor
  · intro h
    have := distF_some (A := A) (to := to) (x := q) (by omega)
    rw [h] at this
    exact this
  · rintro rfl; exact distF_self _ _

theorem arcsUp_sorted (l : List Rel) : ∀ {k : Nat}, k ≤ l.length → (arcsUp l k).Pairwise fun a b => a.i < b.i
  | 0, _ => by simp [arcsUp]
  | k + 1, h => by
    rw [arcsUp_succ (show k < l.length by omega)]
    have ih := arcsUp_sorted l (k := k) (by omega)
    split
    · exact ih
    · refine List.pairwise_append.2 ⟨ih, by simp, fun x hx y hy => ?_⟩
      obtain ⟨j, _, hj, _, rfl⟩ := arcs_mem.1 hx
      rw [List.mem_singleton.1 hy]
      exact hj

theorem find_sorted {xs : List Arc} {p : Arc → Bool} {b : Arc} (hs : xs.Pairwise fun a b => a.i < b.i) (hb : b ∈ xs) (hp : p b = true) (hn : ∀ c ∈ xs, c.i < b.i → p c = false) : xs.find? p = some b := by
  induction xs with
  | nil => cases hb
  | cons x xs ih =>
    rw [List.pairwise_cons] at hs
    rcases List.mem_cons.1 hb with e | e
    · subst e; rw [List.find?_cons_of_pos hp]
    · rw [List.find?_cons_of_neg (by rw [hn x (by simp) (hs.1 b e)]; simp)]
      exact ih hs.2 e fun c hc => hn c (List.mem_cons_of_mem _ hc)

/-- What the law's search answers. -/
noncomputable def closeR (arcs : List Arc) (a : Arc) (q n : Nat) (cs : List Arc) : List Nat :=
  if distF (abv arcs ((a.i : Nat) : Int)) a.lo q = (n : Int) - cs.length then List.map Arc.i cs ++ greedy arcs a q (n - cs.length) else []

theorem closeR_end_T {arcs : List Arc} {a : Arc} {n : Nat} {cs : List Arc} (h : cs.length = n) : closeR arcs a a.lo n cs = List.map Arc.i cs := by
  unfold closeR
  rw [if_pos (by rw [distF_self]; omega), h, Nat.sub_self, greedy, List.append_nil]
theorem closeR_end_F {arcs : List Arc} {a : Arc} {q n : Nat} {cs : List Arc} (h : cs.length = n) (hq : q ≠ a.lo) : closeR arcs a q n cs = [] := by
  unfold closeR
  rw [if_neg]
  intro e
  exact hq ((distF_zero (A := abv arcs ((a.i : Nat) : Int))).1 (by omega))

theorem closeR_step {l : List Rel} {a b : Arc} {q n : Nat} {cs : List Arc} (h : Trail (arcsOf l) a q cs) (hn : NoLess (arcsOf l) n) (hl : cs.length < n) (hb : b ∈ nextOf (arcsOf l) q) (hi : a.i < b.i)
    (hno : ∀ c ∈ nextOf (arcsOf l) q, a.i < c.i → c.i < b.i → closeR (arcsOf l) a c.up n (cs ++ [c]) = []) (hne : closeR (arcsOf l) a b.up n (cs ++ [b]) ≠ []) :
    closeR (arcsOf l) a b.up n (cs ++ [b]) = closeR (arcsOf l) a q n cs := by
  obtain ⟨hb1, hb2⟩ := next_mem.1 hb
  have h1 : distF (abv (arcsOf l) ((a.i : Nat) : Int)) a.lo b.up = (n : Int) - (cs.length + 1) := by
    unfold closeR at hne
    split at hne
    · rename_i e
      simpa using e
    · exact absurd rfl hne
  have h2 := distF_step (A := abv (arcsOf l) ((a.i : Nat) : Int)) (to := a.lo) (b := b) (List.mem_filter.2 ⟨hb1, decide_eq_true (by omega)⟩) (by omega)
  rw [hb2] at h2
  have h3 := h.far hn _ h2.1
  have h4 : distF (abv (arcsOf l) ((a.i : Nat) : Int)) a.lo q = (n : Int) - cs.length := by omega
  have hf : (nextOf (arcsOf l) q).find? (prB a (distF (abv (arcsOf l) ((a.i : Nat) : Int)) a.lo) q) = some b := by
    refine find_sorted ((arcsUp_sorted l (Nat.le_refl _)).sublist List.filter_sublist) hb ?_ fun c hc hcb => ?_
    · unfold prB; rw [decide_eq_true hi, decide_eq_true (by omega)]; rfl
    · cases z : prB a (distF (abv (arcsOf l) ((a.i : Nat) : Int)) a.lo) q c with
      | false => rfl
      | true =>
        unfold prB at z
        simp only [Bool.and_eq_true, decide_eq_true_eq] at z
        have := hno c hc z.1 hcb
        unfold closeR at this
        rw [if_pos (by simp only [List.length_append, List.length_cons, List.length_nil]; omega)] at this
        simp at this
  unfold closeR
  rw [if_pos (by simpa using h1), if_pos h4, List.map_append, List.append_assoc]
  congr 1
  rw [show n - cs.length = n - (cs ++ [b]).length + 1 by simp only [List.length_append, List.length_cons, List.length_nil]; omega, greedy, hf]
  rfl

theorem closeR_none {l : List Rel} {a : Arc} {q n : Nat} {cs : List Arc} (hl : cs.length < n) (hno : ∀ c ∈ nextOf (arcsOf l) q, a.i < c.i → closeR (arcsOf l) a c.up n (cs ++ [c]) = []) : closeR (arcsOf l) a q n cs = [] := by
  unfold closeR
  split
  · rename_i h
    obtain ⟨h1, k, hk, hp⟩ := distF_next (arcs := arcsOf l) (a := a) (to := a.lo) (q := q) (by omega) (fun e => by rw [e, distF_self] at h; omega)
    unfold prB at hp
    simp only [Bool.and_eq_true, decide_eq_true_eq] at hp
    have := hno _ (List.getElem_mem hk) hp.1
    unfold closeR at this
    rw [if_pos (by simp only [List.length_append, List.length_cons, List.length_nil]; omega)] at this
    simp at this
  · rfl

end Go.Proofs.Ytdhbclplondmjaa.C

end
