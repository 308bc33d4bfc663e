/- Names and relations in the memory; the law's own functions on them. -/
import Derived.Test.YtdhbclplondmjaaWTab2
set_option linter.unusedVariables false
set_option maxRecDepth 100000
namespace Go.Proofs.Ytdhbclplondmjaa.C
open Go.RowKit

abbrev Nm := List UInt8
abbrev str (x : Nm) : Value := .string ⟨x.toArray⟩
abbrev nat (k : Nat) : Value := .int .i64 (k : Int)

def strs (xs : List Nm) : List (List Value) := xs.map fun x => [str x]
theorem strs_len (xs : List Nm) : (strs xs).length = xs.length := by simp [strs]
theorem strs_get {xs : List Nm} {k : Nat} (h : k < xs.length) : (strs xs)[k]? = some [str xs[k]] := by simp [strs, h]
theorem strs_sz (xs : List Nm) : ∀ e ∈ strs xs, e.length = 1 := by simp [strs]

/-- A relation. -/
structure Rel where
  kind : Nat
  up : Nm
  lo : Nm

abbrev relC (r : Rel) : List Value := [nat r.kind, str r.up, str r.lo]
def rels (l : List Rel) : List (List Value) := l.map relC
theorem rels_len (l : List Rel) : (rels l).length = l.length := by simp [rels]
theorem rels_get {l : List Rel} {k : Nat} (h : k < l.length) : (rels l)[k]? = some (relC l[k]) := by simp [rels, h]
theorem rels_sz (l : List Rel) : ∀ e ∈ rels l, e.length = 3 := by simp [rels]

theorem str_eq {x y : Nm} : ((ByteArray.mk x.toArray).toList == (ByteArray.mk y.toArray).toList) = decide (x = y) := by
  rw [ByteArray.toList_mk, ByteArray.toList_mk]; by_cases h : x = y <;> simp [h]

/-- The index of a name, or -1. -/
def indexOf (xs : List Nm) (x : Nm) : Int := match xs.idxOf? x with | some k => k | none => -1

theorem indexOf_at {xs : List Nm} {x : Nm} {k : Nat} (h : k < xs.length) (hx : xs[k] = x) (hne : ∀ i (hi : i < k) (hk : i < xs.length), xs[i] ≠ x) : indexOf xs x = k := by
  have : xs.idxOf? x = some k := by
    rw [List.idxOf?, List.findIdx?_eq_some_iff_getElem]
    exact ⟨h, by simpa using hx, fun i hi => by simpa using hne i hi (by omega)⟩
  simp [indexOf, this]

theorem indexOf_none {xs : List Nm} {x : Nm} (hne : ∀ i (hk : i < xs.length), xs[i] ≠ x) : indexOf xs x = -1 := by
  have : xs.idxOf? x = none := by
    rw [List.idxOf?_eq_none_iff]
    intro h
    obtain ⟨i, hi, e⟩ := List.mem_iff_getElem.1 h
    exact hne i hi e
  simp [indexOf, this]

theorem index_runs {H : Heap} {v : Value} {xs : List Nm} (x : Nm) (h : Sl H 1 v (strs xs)) (hx : xs.length < 2 ^ 40) :
    big tab 22 [v, str x] H = some (.int .i64 (indexOf xs x), H) := by
  obtain ⟨a, c, rfl, hc, hcs⟩ := h
  rw [strs_len] at *
  have goal : ∃ r H1, big tab 22 [.slice a xs.length c, str x] H = some (r, H1) ∧ H1 = H ∧ r = .int .i64 (indexOf xs x) := by
    refine big_of_runs rfl rfl rfl ?_
    obtain ⟨z, hz⟩ := startC_mkS Try.f22 [.slice a xs.length c, str x]
    rw [show startC (22, Try.f22).snd [Value.slice a xs.length c, str x] = _ from hz]
    refine Runs.seq (Runs.region ?_)
    repeat refine Rg.opp rfl rfl rfl rfl rfl ?_
    refine Rg.nil ?_
    refine Runs.seq (Runs.seq (Runs.region ?_))
    repeat refine Rg.opp rfl rfl rfl rfl rfl ?_
    refine Rg.nil ?_
    refine Runs.block ?_
    refine Runs.loop (fun m s H1 => H1 = H ∧ ∃ k, k ≤ xs.length ∧ m = xs.length - k ∧ (∀ i (hi : i < k) (hk : i < xs.length), xs[i] ≠ x) ∧ Is s 19 [(0, .slice a xs.length c), (1, str x), (5, nat k)]) _ ⟨rfl, 0, Nat.zero_le _, rfl, by intro i hi; omega, Is.of ⟨rfl, rfl, rfl, rfl, rfl, rfl, trivial⟩⟩ ?_
    rintro m s _ ⟨rfl, k, hk, rfl, hne, hs⟩
    obtain ⟨a0, rfl⟩ := hs.mk1
    refine Runs.seq (Runs.seq (Runs.region ?_))
    repeat refine Rg.opp rfl rfl rfl rfl rfl ?_
    refine Rg.nil ?_
    refine Runs.cond _ rfl (fun hlt => ?_) (fun hlt => ?_)
    · refine Runs.skip ?_
      have hlt : k < xs.length := by have := of_decide_eq_true hlt; omega
      obtain ⟨b, o, rfl, hsz, hr⟩ := hcs.lt (i := k) (by rw [strs_len]; exact hlt)
      refine Runs.seq (Runs.block ?_)
      refine Runs.seq (Runs.region ?_)
      repeat refine Rg.opp rfl rfl rfl rfl rfl ?_
      refine Rg.opp rfl rfl rfl (ev_at rfl rfl rfl rfl (by decide) hlt) rfl ?_
      refine Rg.opp rfl rfl rfl (ev_load1 rfl rfl (hr k _ (strs_get hlt)) rfl) rfl ?_
      repeat refine Rg.opp rfl rfl rfl rfl rfl ?_
      refine Rg.nil ?_
      refine Runs.cond _ rfl (fun heq => ?_) (fun heq => ?_)
      · refine Runs.seq (Runs.region ?_)
        repeat refine Rg.opp rfl rfl rfl rfl rfl ?_
        refine Rg.nil ?_
        refine Runs.ret ⟨_, rfl, rfl, ?_⟩
        rw [indexOf_at hlt (by simpa using heq) hne]; rfl
      · refine Runs.skip ?_
        refine Runs.region ?_
        repeat refine Rg.opp rfl rfl rfl rfl rfl ?_
        refine Rg.nil ?_
        refine ⟨xs.length - (k + 1), by omega, rfl, k + 1, hlt, rfl, ?_, Is.of ⟨rfl, rfl, rfl, rfl, rfl, congrArg (Value.int .i64) (wrap_succ (by omega)), trivial⟩⟩
        intro i hi hk2
        rcases Nat.lt_or_ge i k with q | q
        · exact hne i q hk2
        · have : i = k := by omega
          subst this; simpa using heq
    · refine Runs.exit ?_
      refine Runs.seq (Runs.region ?_)
      repeat refine Rg.opp rfl rfl rfl rfl rfl ?_
      refine Rg.nil ?_
      refine Runs.ret ⟨_, rfl, rfl, ?_⟩
      have : k = xs.length := by have := of_decide_eq_false hlt; omega
      rw [indexOf_none fun i hi => hne i (by omega) hi]; rfl
  obtain ⟨r, H1, h1, rfl, rfl⟩ := goal
  exact h1

/-! ### Functions of plain values -/

theorem arc_runs (k : Nat) (u l : Nm) (H : Heap) : big tab 25 [.agg #[nat k, str u, str l]] H = some (.bool (decide (k ≠ 4)), H) := by
  refine big_ext (T := tab) (f := 25) rfl ?_
  have h : callC tab0 20 25 [.agg #[nat k, str u, str l]] [] = some (.bool ((k : Int) != 4), [.row 3 [nat k, str u, str l] true true]) := rfl
  have e : ((k : Int) != 4) = decide (k ≠ 4) := by
    by_cases q : k = 4
    · subst q; rfl
    · have : (k : Int) ≠ 4 := by omega
      simp [q, this]
  rw [e] at h
  exact pureB_is 20 rfl h rfl H

/-- The names of the units. -/
def nm (i : Nat) : Nm := [65 + UInt8.ofNat i]

theorem name_runs (i : Nat) (hi : i < 6) (H : Heap) : big tab 30 [nat i] H = some (str (nm i), H) := by
  refine big_ext (T := tab) (f := 30) rfl ?_
  have : ∃ E, callC tab0 20 30 [nat i] [] = some (str (nm i), E) := by
    match i, hi with
    | 0, _ => exact ⟨_, rfl⟩
    | 1, _ => exact ⟨_, rfl⟩
    | 2, _ => exact ⟨_, rfl⟩
    | 3, _ => exact ⟨_, rfl⟩
    | 4, _ => exact ⟨_, rfl⟩
    | 5, _ => exact ⟨_, rfl⟩
  obtain ⟨E, h⟩ := this
  exact pureB_is 20 rfl h rfl H

end Go.Proofs.Ytdhbclplondmjaa.C
