/- Texts of one's own, laid together: Wb -/
import Derived.Test.YtdhbclplondmjaaQo09
/- The law's comparisons of lists. -/
set_option linter.unusedVariables false
set_option maxRecDepth 100000
namespace Go.Proofs.Ytdhbclplondmjaa.C
open Go.RowKit

def ints (xs : List Int) : List (List Value) := xs.map fun x => [.int .i64 x]
theorem ints_len (xs : List Int) : (ints xs).length = xs.length := by simp [ints]
theorem ints_get {xs : List Int} {k : Nat} (h : k < xs.length) : (ints xs)[k]? = some [.int .i64 xs[k]] := by simp [ints, h]
theorem ints_sz (xs : List Int) : ∀ e ∈ ints xs, e.length = 1 := by simp [ints]

theorem sameInts_runs {ext : FuncId → Option ExtF} (hext : ext 15 = none) {H : Heap} {v1 v2 : Value} {xs ys : List Int} (h1 : Sl H 1 v1 (ints xs)) (h2 : Sl H 1 v2 (ints ys)) (hx : xs.length < 2 ^ 40) :
    big (tabE ext) 15 [v1, v2] H = some (.bool (decide (xs = ys)), H) := by
  obtain ⟨a, c, rfl, hc, hcs⟩ := h1
  obtain ⟨a', c', rfl, hc', hcs'⟩ := h2
  simp only [ints_len] at *
  have goal : ∃ r H1, big (tabE ext) 15 [.slice a xs.length c, .slice a' ys.length c'] H = some (r, H1) ∧ H1 = H ∧ r = .bool (decide (xs = ys)) := by
    refine big_of_runs hext rfl rfl ?_
    obtain ⟨z, hz⟩ := startC_mkS Try.f15 [.slice a xs.length c, .slice a' ys.length c']
    rw [show startC (15, Try.f15).snd [Value.slice a xs.length c, .slice a' ys.length c'] = _ from hz]
    refine Runs.seq (Runs.region ?_)
    repeat refine Rg.opp rfl rfl rfl rfl rfl ?_
    refine Rg.nil ?_
    refine Runs.seq (Runs.seq (Runs.region ?_))
    repeat refine Rg.opp rfl rfl rfl rfl rfl ?_
    refine Rg.nil ?_
    refine Runs.cond _ rfl (fun hne => ?_) (fun heq => ?_)
    · refine Runs.seq (Runs.region ?_)
      repeat refine Rg.opp rfl rfl rfl rfl rfl ?_
      refine Rg.nil ?_
      refine Runs.ret ⟨_, rfl, rfl, ?_⟩
      have hne : xs ≠ ys := by
        rintro rfl
        simp at hne
      simp only [hne, decide_false]
      rfl
    · have hlen : xs.length = ys.length := by
        have := of_decide_eq_false (p := ¬ ((xs.length : Int) = ys.length)) (by simpa using heq)
        omega
      refine Runs.skip ?_
      refine Runs.seq (Runs.seq (Runs.region ?_))
      repeat refine Rg.opp rfl rfl rfl rfl rfl ?_
      refine Rg.nil ?_
      refine Runs.block ?_
      refine Runs.loop (fun m s H1 => H1 = H ∧ ∃ k, k ≤ xs.length ∧ m = xs.length - k ∧ (∀ i (hi : i < k) (hk : i < xs.length), xs[i] = ys[i]'(by omega)) ∧ Is s 26 [(0, .slice a xs.length c), (1, .slice a' ys.length c'), (5, nat k)]) _ ⟨rfl, 0, Nat.zero_le _, rfl, by intro i hi; omega, Is.of ⟨rfl, rfl, rfl, rfl, rfl, rfl, trivial⟩⟩ ?_
      rintro m s _ ⟨rfl, k, hk, rfl, hsame, hs⟩
      obtain ⟨a0, rfl⟩ := hs.mk1
      refine Runs.seq (Runs.seq (Runs.region ?_))
      repeat refine Rg.opp rfl rfl rfl rfl rfl ?_
      refine Rg.nil ?_
      refine Runs.cond _ rfl (fun hlt => ?_) (fun hlt => ?_)
      · refine Runs.skip ?_
        have hlt : k < xs.length := by have := of_decide_eq_true hlt; omega
        have hlt' : k < ys.length := by omega
        obtain ⟨b, o, rfl, hsz, hr⟩ := hcs.lt (i := k) (by rw [ints_len]; exact hlt)
        obtain ⟨b', o', rfl, hsz', hr'⟩ := hcs'.lt (i := k) (by rw [ints_len]; exact hlt')
        refine Runs.seq (Runs.block ?_)
        refine Runs.seq (Runs.drawn (is := [0, 1, 2, 3, 4, 5, 6, 7, 8]) (by decide +kernel) ?_)
        repeat refine Rg.opp rfl rfl rfl rfl rfl ?_
        refine Rg.opp rfl rfl rfl (ev_at rfl rfl rfl rfl (by decide) hlt) rfl ?_
        refine Rg.opp rfl rfl rfl (ev_load1 rfl rfl (hr k _ (ints_get hlt)) rfl) rfl ?_
        repeat refine Rg.opp rfl rfl rfl rfl rfl ?_
        refine Rg.opp rfl rfl rfl (ev_at rfl rfl rfl rfl (by decide) hlt') rfl ?_
        refine Rg.opp rfl rfl rfl (ev_load1 rfl rfl (hr' k _ (ints_get hlt')) rfl) rfl ?_
        repeat refine Rg.opp rfl rfl rfl rfl rfl ?_
        refine Rg.nil ?_
        refine Runs.cond _ rfl (fun hne => ?_) (fun hne => ?_)
        · refine Runs.seq (Runs.region ?_)
          repeat refine Rg.opp rfl rfl rfl rfl rfl ?_
          refine Rg.nil ?_
          refine Runs.ret ⟨_, rfl, rfl, ?_⟩
          have hne : xs ≠ ys := by
            rintro rfl
            simp at hne
          simp only [hne, decide_false]
          rfl
        · refine Runs.skip ?_
          refine Runs.region ?_
          repeat refine Rg.opp rfl rfl rfl rfl rfl ?_
          refine Rg.nil ?_
          refine ⟨xs.length - (k + 1), by omega, rfl, k + 1, hlt, rfl, ?_, Is.of ⟨rfl, rfl, rfl, rfl, rfl, congrArg (Value.int .i64) (wrap_succ (by omega)), trivial⟩⟩
          intro i hi hk2
          rcases Nat.lt_or_ge i k with q | q
          · exact hsame i q hk2
          · have : i = k := by omega
            subst this; simpa using hne
      · refine Runs.exit ?_
        refine Runs.seq (Runs.region ?_)
        repeat refine Rg.opp rfl rfl rfl rfl rfl ?_
        refine Rg.nil ?_
        refine Runs.ret ⟨_, rfl, rfl, ?_⟩
        have : k = xs.length := by have := of_decide_eq_false hlt; omega
        have heq : xs = ys := List.ext_getElem hlen fun i h1 h2 => hsame i (by omega) h1
        simp only [heq, decide_true]
        rfl
  obtain ⟨r, H1, h1, rfl, rfl⟩ := goal
  exact h1

theorem sameNames_runs {ext : FuncId → Option ExtF} (hext : ext 29 = none) {H : Heap} {v1 v2 : Value} {xs ys : List Nm} (h1 : Sl H 1 v1 (strs xs)) (h2 : Sl H 1 v2 (strs ys)) (hx : xs.length < 2 ^ 40) :
    big (tabE ext) 29 [v1, v2] H = some (.bool (decide (xs = ys)), H) := by
  obtain ⟨a, c, rfl, hc, hcs⟩ := h1
  obtain ⟨a', c', rfl, hc', hcs'⟩ := h2
  simp only [strs_len] at *
  have goal : ∃ r H1, big (tabE ext) 29 [.slice a xs.length c, .slice a' ys.length c'] H = some (r, H1) ∧ H1 = H ∧ r = .bool (decide (xs = ys)) := by
    refine big_of_runs hext rfl rfl ?_
    obtain ⟨z, hz⟩ := startC_mkS Try.f29 [.slice a xs.length c, .slice a' ys.length c']
    rw [show startC (29, Try.f29).snd [Value.slice a xs.length c, .slice a' ys.length c'] = _ from hz]
    refine Runs.seq (Runs.region ?_)
    repeat refine Rg.opp rfl rfl rfl rfl rfl ?_
    refine Rg.nil ?_
    refine Runs.seq (Runs.seq (Runs.region ?_))
    repeat refine Rg.opp rfl rfl rfl rfl rfl ?_
    refine Rg.nil ?_
    refine Runs.cond _ rfl (fun hne => ?_) (fun heq => ?_)
    · refine Runs.seq (Runs.region ?_)
      repeat refine Rg.opp rfl rfl rfl rfl rfl ?_
      refine Rg.nil ?_
      refine Runs.ret ⟨_, rfl, rfl, ?_⟩
      have hne : xs ≠ ys := by
        rintro rfl
        simp at hne
      simp only [hne, decide_false]
      rfl
    · have hlen : xs.length = ys.length := by
        have := of_decide_eq_false (p := ¬ ((xs.length : Int) = ys.length)) (by simpa using heq)
        omega
      refine Runs.skip ?_
      refine Runs.seq (Runs.seq (Runs.region ?_))
      repeat refine Rg.opp rfl rfl rfl rfl rfl ?_
      refine Rg.nil ?_
      refine Runs.block ?_
      refine Runs.loop (fun m s H1 => H1 = H ∧ ∃ k, k ≤ xs.length ∧ m = xs.length - k ∧ (∀ i (hi : i < k) (hk : i < xs.length), xs[i] = ys[i]'(by omega)) ∧ Is s 26 [(0, .slice a xs.length c), (1, .slice a' ys.length c'), (5, nat k)]) _ ⟨rfl, 0, Nat.zero_le _, rfl, by intro i hi; omega, Is.of ⟨rfl, rfl, rfl, rfl, rfl, rfl, trivial⟩⟩ ?_
      rintro m s _ ⟨rfl, k, hk, rfl, hsame, hs⟩
      obtain ⟨a0, rfl⟩ := hs.mk1
      refine Runs.seq (Runs.seq (Runs.region ?_))
      repeat refine Rg.opp rfl rfl rfl rfl rfl ?_
      refine Rg.nil ?_
      refine Runs.cond _ rfl (fun hlt => ?_) (fun hlt => ?_)
      · refine Runs.skip ?_
        have hlt : k < xs.length := by have := of_decide_eq_true hlt; omega
        have hlt' : k < ys.length := by omega
        obtain ⟨b, o, rfl, hsz, hr⟩ := hcs.lt (i := k) (by rw [strs_len]; exact hlt)
        obtain ⟨b', o', rfl, hsz', hr'⟩ := hcs'.lt (i := k) (by rw [strs_len]; exact hlt')
        refine Runs.seq (Runs.block ?_)
        refine Runs.seq (Runs.drawn (is := [0, 1, 2, 3, 4, 5, 6, 7, 8]) (by decide +kernel) ?_)
        repeat refine Rg.opp rfl rfl rfl rfl rfl ?_
        refine Rg.opp rfl rfl rfl (ev_at rfl rfl rfl rfl (by decide) hlt) rfl ?_
        refine Rg.opp rfl rfl rfl (ev_load1 rfl rfl (hr k _ (strs_get hlt)) rfl) rfl ?_
        repeat refine Rg.opp rfl rfl rfl rfl rfl ?_
        refine Rg.opp rfl rfl rfl (ev_at rfl rfl rfl rfl (by decide) hlt') rfl ?_
        refine Rg.opp rfl rfl rfl (ev_load1 rfl rfl (hr' k _ (strs_get hlt')) rfl) rfl ?_
        repeat refine Rg.opp rfl rfl rfl rfl rfl ?_
        refine Rg.nil ?_
        refine Runs.cond _ rfl (fun hne => ?_) (fun hne => ?_)
        · refine Runs.seq (Runs.region ?_)
          repeat refine Rg.opp rfl rfl rfl rfl rfl ?_
          refine Rg.nil ?_
          refine Runs.ret ⟨_, rfl, rfl, ?_⟩
          have hne : xs ≠ ys := by
            rintro rfl
            simp at hne
          simp only [hne, decide_false]
          rfl
        · refine Runs.skip ?_
          refine Runs.region ?_
          repeat refine Rg.opp rfl rfl rfl rfl rfl ?_
          refine Rg.nil ?_
          refine ⟨xs.length - (k + 1), by omega, rfl, k + 1, hlt, rfl, ?_, Is.of ⟨rfl, rfl, rfl, rfl, rfl, congrArg (Value.int .i64) (wrap_succ (by omega)), trivial⟩⟩
          intro i hi hk2
          rcases Nat.lt_or_ge i k with q | q
          · exact hsame i q hk2
          · have : i = k := by omega
            subst this; simpa using hne
      · refine Runs.exit ?_
        refine Runs.seq (Runs.region ?_)
        repeat refine Rg.opp rfl rfl rfl rfl rfl ?_
        refine Rg.nil ?_
        refine Runs.ret ⟨_, rfl, rfl, ?_⟩
        have : k = xs.length := by have := of_decide_eq_false hlt; omega
        have heq : xs = ys := List.ext_getElem hlen fun i h1 h2 => hsame i (by omega) h1
        simp only [heq, decide_true]
        rfl
  obtain ⟨r, H1, h1, rfl, rfl⟩ := goal
  exact h1

end Go.Proofs.Ytdhbclplondmjaa.C
