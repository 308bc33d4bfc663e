/- Texts of one's own, laid together: Wb, X1, X2, X3 -/
import Derived.Test.YtdhbclplondmjaaQc22
import Derived.Test.YtdhbclplondmjaaQc16
import Derived.Test.YtdhbclplondmjaaQc00
section
/- The law's comparisons of lists. -/
set_option linter.unusedVariables false
set_option maxRecDepth 100000
namespace Go.Proofs.Ytdhbclplondmjaa.C
open Go.RowKit

def ints (xs : List Int) : List (List Value) := xs.map fun x => [.int .i64 x]
theorem ints_len (xs : List Int) : (ints xs).length = xs.length := by simp [ints]
theorem ints_get {xs : List Int} {k : Nat} (h : k < xs.length) : (ints xs)[k]? = some [.int .i64 xs[k]] := by simp [ints, h]
theorem ints_sz (xs : List Int) : ∀ e ∈ ints xs, e.length = 1 := by simp [ints]

theorem sameInts_runs {ext : FuncId → Option ExtF} (hext : ext 15 = none) {H : Heap} {v1 v2 : Value} {xs ys : List Int} (h1 : Sl H 1 v1 (ints xs)) (h2 : Sl H 1 v2 (ints ys)) (hx : xs.length < 2 ^ 40) :
    big (tabE ext) 15 [v1, v2] H = some (.bool (decide (xs = ys)), H) := by
  obtain ⟨a, c, rfl, hc, hcs⟩ := h1
  obtain ⟨a', c', rfl, hc', hcs'⟩ := h2
  simp only [ints_len] at *
  have goal : ∃ r H1, big (tabE ext) 15 [.slice a xs.length c, .slice a' ys.length c'] H = some (r, H1) ∧ H1 = H ∧ r = .bool (decide (xs = ys)) := by
    refine big_of_runs hext rfl rfl ?_
    obtain ⟨z, hz⟩ := startC_mkS Try.f15 [.slice a xs.length c, .slice a' ys.length c']
    rw [show startC (15, Try.f15).snd [Value.slice a xs.length c, .slice a' ys.length c'] = _ from hz]
    refine Runs.seq (Runs.region ?_)
    repeat refine Rg.opp rfl rfl rfl rfl rfl ?_
    refine Rg.nil ?_
    refine Runs.seq (Runs.seq (Runs.region ?_))
    repeat refine Rg.opp rfl rfl rfl rfl rfl ?_
    refine Rg.nil ?_
    refine Runs.cond _ rfl (fun hne => ?_) (fun heq => ?_)
    · refine Runs.seq (Runs.region ?_)
      repeat refine Rg.opp rfl rfl rfl rfl rfl ?_
      refine Rg.nil ?_
      refine Runs.ret ⟨_, rfl, rfl, ?_⟩
      have hne : xs ≠ ys := by
        rintro rfl
        simp at hne
      simp only [hne, decide_false]
      rfl
    · have hlen : xs.length = ys.length := by
        have := of_decide_eq_false (p := ¬ ((xs.length : Int) = ys.length)) (by simpa using heq)
        omega
      refine Runs.skip ?_
      refine Runs.seq (Runs.seq (Runs.region ?_))
      repeat refine Rg.opp rfl rfl rfl rfl rfl ?_
      refine Rg.nil ?_
      refine Runs.block ?_
      refine Runs.loop (fun m s H1 => H1 = H ∧ ∃ k, k ≤ xs.length ∧ m = xs.length - k ∧ (∀ i (hi : i < k) (hk : i < xs.length), xs[i] = ys[i]'(by omega)) ∧ Is s 26 [(0, .slice a xs.length c), (1, .slice a' ys.length c'), (5, nat k)]) _ ⟨rfl, 0, Nat.zero_le _, rfl, by intro i hi; omega, Is.of ⟨rfl, rfl, rfl, rfl, rfl, rfl, trivial⟩⟩ ?_
      rintro m s _ ⟨rfl, k, hk, rfl, hsame, hs⟩
      obtain ⟨a0, rfl⟩ := hs.mk1
      refine Runs.seq (Runs.seq (Runs.region ?_))
      repeat refine Rg.opp rfl rfl rfl rfl rfl ?_
      refine Rg.nil ?_
      refine Runs.cond _ rfl (fun hlt => ?_) (fun hlt => ?_)
      · refine Runs.skip ?_
        have hlt : k < xs.length := by have := of_decide_eq_true hlt; omega
        have hlt' : k < ys.length := by omega
        obtain ⟨b, o, rfl, hsz, hr⟩ := hcs.lt (i := k) (by rw [ints_len]; exact hlt)
        obtain ⟨b', o', rfl, hsz', hr'⟩ := hcs'.lt (i := k) (by rw [ints_len]; exact hlt')
        refine Runs.seq (Runs.block ?_)
        refine Runs.seq (Runs.drawn (is := [0, 1, 2, 3, 4, 5, 6, 7, 8]) (by decide +kernel) ?_)
        repeat refine Rg.opp rfl rfl rfl rfl rfl ?_
        refine Rg.opp rfl rfl rfl (ev_at rfl rfl rfl rfl (by decide) hlt) rfl ?_
        refine Rg.opp rfl rfl rfl (ev_load1 rfl rfl (hr k _ (ints_get hlt)) rfl) rfl ?_
        repeat refine Rg.opp rfl rfl rfl rfl rfl ?_
        refine Rg.opp rfl rfl rfl (ev_at rfl rfl rfl rfl (by decide) hlt') rfl ?_
        refine Rg.opp rfl rfl rfl (ev_load1 rfl rfl (hr' k _ (ints_get hlt')) rfl) rfl ?_
        repeat refine Rg.opp rfl rfl rfl rfl rfl ?_
        refine Rg.nil ?_
        refine Runs.cond _ rfl (fun hne => ?_) (fun hne => ?_)
        · refine Runs.seq (Runs.region ?_)
          repeat refine Rg.opp rfl rfl rfl rfl rfl ?_
          refine Rg.nil ?_
          refine Runs.ret ⟨_, rfl, rfl, ?_⟩
          have hne : xs ≠ ys := by
            rintro rfl
            simp at hne
          simp only [hne, decide_false]
          rfl
        · refine Runs.skip ?_
          refine Runs.region ?_
          repeat refine Rg.opp rfl rfl rfl rfl rfl ?_
          refine Rg.nil ?_
          refine ⟨xs.length - (k + 1), by omega, rfl, k + 1, hlt, rfl, ?_, Is.of ⟨rfl, rfl, rfl, rfl, rfl, congrArg (Value.int .i64) (wrap_succ (by omega)), trivial⟩⟩
          intro i hi hk2
          rcases Nat.lt_or_ge i k with q | q
          · exact hsame i q hk2
          · have : i = k := by omega
            subst this; simpa using hne
      · refine Runs.exit ?_
        refine Runs.seq (Runs.region ?_)
        repeat refine Rg.opp rfl rfl rfl rfl rfl ?_
        refine Rg.nil ?_
        refine Runs.ret ⟨_, rfl, rfl, ?_⟩
        have : k = xs.length := by have := of_decide_eq_false hlt; omega
        have heq : xs = ys := List.ext_getElem hlen fun i h1 h2 => hsame i (by omega) h1
        simp only [heq, decide_true]
        rfl
  obtain ⟨r, H1, h1, rfl, rfl⟩ := goal
  exact h1

theorem sameNames_runs {ext : FuncId → Option ExtF} (hext : ext 29 = none) {H : Heap} {v1 v2 : Value} {xs ys : List Nm} (h1 : Sl H 1 v1 (strs xs)) (h2 : Sl H 1 v2 (strs ys)) (hx : xs.length < 2 ^ 40) :
    big (tabE ext) 29 [v1, v2] H = some (.bool (decide (xs = ys)), H) := by
  obtain ⟨a, c, rfl, hc, hcs⟩ := h1
  obtain ⟨a', c', rfl, hc', hcs'⟩ := h2
  simp only [strs_len] at *
  have goal : ∃ r H1, big (tabE ext) 29 [.slice a xs.length c, .slice a' ys.length c'] H = some (r, H1) ∧ H1 = H ∧ r = .bool (decide (xs = ys)) := by
    refine big_of_runs hext rfl rfl ?_
    obtain ⟨z, hz⟩ := startC_mkS Try.f29 [.slice a xs.length c, .slice a' ys.length c']
    rw [show startC (29, Try.f29).snd [Value.slice a xs.length c, .slice a' ys.length c'] = _ from hz]
    refine Runs.seq (Runs.region ?_)
    repeat refine Rg.opp rfl rfl rfl rfl rfl ?_
    refine Rg.nil ?_
    refine Runs.seq (Runs.seq (Runs.region ?_))
    repeat refine Rg.opp rfl rfl rfl rfl rfl ?_
    refine Rg.nil ?_
    refine Runs.cond _ rfl (fun hne => ?_) (fun heq => ?_)
    · refine Runs.seq (Runs.region ?_)
      repeat refine Rg.opp rfl rfl rfl rfl rfl ?_
      refine Rg.nil ?_
      refine Runs.ret ⟨_, rfl, rfl, ?_⟩
      have hne : xs ≠ ys := by
        rintro rfl
        simp at hne
      simp only [hne, decide_false]
      rfl
    · have hlen : xs.length = ys.length := by
        have := of_decide_eq_false (p := ¬ ((xs.length : Int) = ys.length)) (by simpa using heq)
        omega
      refine Runs.skip ?_
      refine Runs.seq (Runs.seq (Runs.region ?_))
      repeat refine Rg.opp rfl rfl rfl rfl rfl ?_
      refine Rg.nil ?_
      refine Runs.block ?_
      refine Runs.loop (fun m s H1 => H1 = H ∧ ∃ k, k ≤ xs.length ∧ m = xs.length - k ∧ (∀ i (hi : i < k) (hk : i < xs.length), xs[i] = ys[i]'(by omega)) ∧ Is s 26 [(0, .slice a xs.length c), (1, .slice a' ys.length c'), (5, nat k)]) _ ⟨rfl, 0, Nat.zero_le _, rfl, by intro i hi; omega, Is.of ⟨rfl, rfl, rfl, rfl, rfl, rfl, trivial⟩⟩ ?_
      rintro m s _ ⟨rfl, k, hk, rfl, hsame, hs⟩
      obtain ⟨a0, rfl⟩ := hs.mk1
      refine Runs.seq (Runs.seq (Runs.region ?_))
      repeat refine Rg.opp rfl rfl rfl rfl rfl ?_
      refine Rg.nil ?_
      refine Runs.cond _ rfl (fun hlt => ?_) (fun hlt => ?_)
      · refine Runs.skip ?_
        have hlt : k < xs.length := by have := of_decide_eq_true hlt; omega
        have hlt' : k < ys.length := by omega
        obtain ⟨b, o, rfl, hsz, hr⟩ := hcs.lt (i := k) (by rw [strs_len]; exact hlt)
        obtain ⟨b', o', rfl, hsz', hr'⟩ := hcs'.lt (i := k) (by rw [strs_len]; exact hlt')
        refine Runs.seq (Runs.block ?_)
        refine Runs.seq (Runs.drawn (is := [0, 1, 2, 3, 4, 5, 6, 7, 8]) (by decide +kernel) ?_)
        repeat refine Rg.opp rfl rfl rfl rfl rfl ?_
        refine Rg.opp rfl rfl rfl (ev_at rfl rfl rfl rfl (by decide) hlt) rfl ?_
        refine Rg.opp rfl rfl rfl (ev_load1 rfl rfl (hr k _ (strs_get hlt)) rfl) rfl ?_
        repeat refine Rg.opp rfl rfl rfl rfl rfl ?_
        refine Rg.opp rfl rfl rfl (ev_at rfl rfl rfl rfl (by decide) hlt') rfl ?_
        refine Rg.opp rfl rfl rfl (ev_load1 rfl rfl (hr' k _ (strs_get hlt')) rfl) rfl ?_
        repeat refine Rg.opp rfl rfl rfl rfl rfl ?_
        refine Rg.nil ?_
        refine Runs.cond _ rfl (fun hne => ?_) (fun hne => ?_)
        · refine Runs.seq (Runs.region ?_)
          repeat refine Rg.opp rfl rfl rfl rfl rfl ?_
          refine Rg.nil ?_
          refine Runs.ret ⟨_, rfl, rfl, ?_⟩
          have hne : xs ≠ ys := by
            rintro rfl
            simp at hne
          simp only [hne, decide_false]
          rfl
        · refine Runs.skip ?_
          refine Runs.region ?_
          repeat refine Rg.opp rfl rfl rfl rfl rfl ?_
          refine Rg.nil ?_
          refine ⟨xs.length - (k + 1), by omega, rfl, k + 1, hlt, rfl, ?_, Is.of ⟨rfl, rfl, rfl, rfl, rfl, congrArg (Value.int .i64) (wrap_succ (by omega)), trivial⟩⟩
          intro i hi hk2
          rcases Nat.lt_or_ge i k with q | q
          · exact hsame i q hk2
          · have : i = k := by omega
            subst this; simpa using hne
      · refine Runs.exit ?_
        refine Runs.seq (Runs.region ?_)
        repeat refine Rg.opp rfl rfl rfl rfl rfl ?_
        refine Rg.nil ?_
        refine Runs.ret ⟨_, rfl, rfl, ?_⟩
        have : k = xs.length := by have := of_decide_eq_false hlt; omega
        have heq : xs = ys := List.ext_getElem hlen fun i h1 h2 => hsame i (by omega) h1
        simp only [heq, decide_true]
        rfl
  obtain ⟨r, H1, h1, rfl, rfl⟩ := goal
  exact h1

end Go.Proofs.Ytdhbclplondmjaa.C

end

section
/- Operations by what they ask, over typed lists. -/
set_option linter.unusedVariables false
set_option linter.unusedSimpArgs false
namespace Go.Proofs.Ytdhbclplondmjaa.C
open Go.RowKit Go.IntWalk

abbrev encN (x : Nat) : List Value := [nat x]
abbrev encI (x : Int) : List Value := [.int .i64 x]
abbrev encB (x : Bool) : List Value := [.bool x]
abbrev encS (x : Nm) : List Value := [str x]
abbrev encV (x : Value) : List Value := [x]

theorem map_get {α : Type} {f : α → List Value} {xs : List α} {k : Nat} (h : k < xs.length) : (xs.map f)[k]? = some (f xs[k]) := by simp [h]

section
variable {T : Tab} {s : List Value} {H H0 : Heap} {L : List Th} {α : Type} {f : α → List Value} {xs : List α} {sz k : Nat} {v : Value}

theorem ev_lenM {t e : TypeId} {x : Operand} (h : Sl H sz v (xs.map f)) (hx : ev s x = v) (hd : T.d t = some (.slice e)) : opEval T s H (.call { callee := .builtin .len, args := #[x], argTypes := #[t] }) = some (nat xs.length, H) := by
  have := ev_len h hx hd
  rwa [List.length_map] at this

theorem ev_idxM {t e : TypeId} {ei : TI} {x i : Operand} (h : Sl H sz v (xs.map f)) (hx : ev s x = v) (hi : ev s i = nat k) (hk : k < xs.length) (hd : T.d t = some (.slice e)) (he : T.T e = some ei) (hs : ei.size = sz) (hp : 0 < sz) :
    opEval T s H (.indexAddr t x i) = some (ptrAt (sAddr v) (k * sz), H) := ev_idx h hx hi (by simpa using hk) hd he hs hp

theorem ev_ldM {u : Value} {t : TypeId} {a : Operand} {i : TI} (h : Sl H sz v (xs.map f)) (ha : ev s a = ptrAt (sAddr v) (k * sz)) (hk : k < xs.length) (hf : f xs[k] = [u]) (hT : T.T t = some i) (hs : i.size = sz) (hg : i.agg = false) : opEval T s H (.load t a) = some (u, H) :=
  ev_ld1 h ha (by rw [map_get hk, hf]) hT hs hg
theorem ev_ldAM {t : TypeId} {a : Operand} {i : TI} (h : Sl H sz v (xs.map f)) (ha : ev s a = ptrAt (sAddr v) (k * sz)) (hk : k < xs.length) (hT : T.T t = some i) (hs : i.size = sz) (hg : i.agg = true) : opEval T s H (.load t a) = some (.agg (f xs[k]).toArray, H) :=
  ev_ldA h ha (map_get hk) hT hs hg
theorem ev_ldfM {u : Value} {g : Nat} {t : TypeId} {a : Operand} {i : TI} (h : Sl H sz v (xs.map f)) (ha : ev s a = ptrAt (sAddr v) (k * sz + g)) (hk : k < xs.length) (hf : (f xs[k])[g]? = some u) (hT : T.T t = some i) (hs : i.size = 1) (hg : i.agg = false) : opEval T s H (.load t a) = some (u, H) :=
  ev_ldf h ha (map_get hk) hf hT hs hg
theorem ev_fldM {g m : Nat} {t : TypeId} {x : Operand} {fs : List (TypeId × Nat)} {q : TypeId × Nat} {i ki : TI} (h : Sl H sz v (xs.map f)) (hx : ev s x = ptrAt (sAddr v) m) (hk : k < xs.length) (hT : T.T t = some i) (hd : i.desc = .struct fs) (hf : fs[g]? = some q) (hq : T.T q.1 = some ki) (hp : 0 < ki.size) :
    opEval T s H (.fieldAddr t x g) = some (ptrAt (sAddr v) (m + q.2), H) := ev_fldS h hx (by simpa using hk : k < (xs.map f).length) hT hd hf hq hp

/-! ints -/

theorem ev_addN {t t2 : TypeId} {x y : Operand} {a b : Nat} (hx : ev s x = nat a) (hy : ev s y = nat b) (hb : a + b < 2 ^ 62) : opEval T s H (.binOp .add t x y t2) = some (nat (a + b), H) := ev_addn hx hy hb
theorem ev_subN {t t2 : TypeId} {x y : Operand} {a b : Nat} (hx : ev s x = nat a) (hy : ev s y = nat b) (hb : b ≤ a) (ha : a < 2 ^ 62) : opEval T s H (.binOp .sub t x y t2) = some (nat (a - b), H) := by
  refine ev_bin hx hy (by decide) ?_
  simp only [binInt]
  rw [show ((a : Int) - (b : Int)) = ((a - b : Nat) : Int) by omega, wrap_nat (by omega)]
theorem ev_addI {t t2 : TypeId} {x y : Operand} {a b : Int} (hx : ev s x = .int .i64 a) (hy : ev s y = .int .i64 b) (hb : -(2 ^ 62) ≤ a + b ∧ a + b < 2 ^ 62) : opEval T s H (.binOp .add t x y t2) = some (.int .i64 (a + b), H) := by
  refine ev_bin hx hy (by decide) ?_
  simp only [binInt]
  rw [i64_in _ (by omega)]
theorem ev_subI {t t2 : TypeId} {x y : Operand} {a b : Int} (hx : ev s x = .int .i64 a) (hy : ev s y = .int .i64 b) (hb : -(2 ^ 62) ≤ a - b ∧ a - b < 2 ^ 62) : opEval T s H (.binOp .sub t x y t2) = some (.int .i64 (a - b), H) := by
  refine ev_bin hx hy (by decide) ?_
  simp only [binInt]
  rw [i64_in _ (by omega)]
theorem ev_mulN {t t2 : TypeId} {x y : Operand} {a b : Nat} (hx : ev s x = nat a) (hy : ev s y = nat b) (hb : a * b < 2 ^ 62) : opEval T s H (.binOp .mul t x y t2) = some (nat (a * b), H) := by
  refine ev_bin hx hy (by decide) ?_
  simp only [binInt]
  rw [show ((a : Int) * (b : Int)) = ((a * b : Nat) : Int) by simp, wrap_nat hb]
theorem ev_divN {t t2 : TypeId} {x y : Operand} {a b : Nat} (hx : ev s x = nat a) (hy : ev s y = nat b) (hb : b ≠ 0) (ha : a < 2 ^ 62) : opEval T s H (.binOp .quo t x y t2) = some (nat (a / b), H) := by
  refine ev_bin hx hy (by decide) ?_
  have : (b : Int) ≠ 0 := by omega
  simp only [binInt, if_neg this]
  rw [show (Int.tdiv (a : Int) (b : Int)) = ((a / b : Nat) : Int) from rfl, wrap_nat (Nat.lt_of_le_of_lt (Nat.div_le_self _ _) ha)]

theorem ev_ltT {t t2 : TypeId} {x y : Operand} {a b : Nat} (hx : ev s x = nat a) (hy : ev s y = nat b) (h : a < b) : opEval T s H (.binOp .lss t x y t2) = some (.bool true, H) := ev_lt true hx hy (decide_eq_true (by omega))
theorem ev_ltF {t t2 : TypeId} {x y : Operand} {a b : Nat} (hx : ev s x = nat a) (hy : ev s y = nat b) (h : ¬ a < b) : opEval T s H (.binOp .lss t x y t2) = some (.bool false, H) := ev_lt false hx hy (decide_eq_false (by omega))
theorem ev_leT {t t2 : TypeId} {x y : Operand} {a b : Nat} (hx : ev s x = nat a) (hy : ev s y = nat b) (h : a ≤ b) : opEval T s H (.binOp .leq t x y t2) = some (.bool true, H) := ev_leq true hx hy (decide_eq_true (by omega))
theorem ev_leF {t t2 : TypeId} {x y : Operand} {a b : Nat} (hx : ev s x = nat a) (hy : ev s y = nat b) (h : ¬ a ≤ b) : opEval T s H (.binOp .leq t x y t2) = some (.bool false, H) := ev_leq false hx hy (decide_eq_false (by omega))
theorem ev_gtT {t t2 : TypeId} {x y : Operand} {a b : Nat} (hx : ev s x = nat a) (hy : ev s y = nat b) (h : b < a) : opEval T s H (.binOp .gtr t x y t2) = some (.bool true, H) := ev_gt true hx hy (decide_eq_true (by omega))
theorem ev_gtF {t t2 : TypeId} {x y : Operand} {a b : Nat} (hx : ev s x = nat a) (hy : ev s y = nat b) (h : ¬ b < a) : opEval T s H (.binOp .gtr t x y t2) = some (.bool false, H) := ev_gt false hx hy (decide_eq_false (by omega))
theorem ev_geT {t t2 : TypeId} {x y : Operand} {a b : Nat} (hx : ev s x = nat a) (hy : ev s y = nat b) (h : b ≤ a) : opEval T s H (.binOp .geq t x y t2) = some (.bool true, H) := ev_bin hx hy (by decide) (by simp [binInt]; omega)
theorem ev_geF {t t2 : TypeId} {x y : Operand} {a b : Nat} (hx : ev s x = nat a) (hy : ev s y = nat b) (h : ¬ b ≤ a) : opEval T s H (.binOp .geq t x y t2) = some (.bool false, H) := ev_bin hx hy (by decide) (by simp [binInt]; omega)
theorem ev_eqT {t t2 : TypeId} {x y : Operand} {a b : Nat} (hx : ev s x = nat a) (hy : ev s y = nat b) (h : a = b) : opEval T s H (.binOp .eql t x y t2) = some (.bool true, H) := ev_eq true hx hy (decide_eq_true (by omega))
theorem ev_eqF {t t2 : TypeId} {x y : Operand} {a b : Nat} (hx : ev s x = nat a) (hy : ev s y = nat b) (h : ¬ a = b) : opEval T s H (.binOp .eql t x y t2) = some (.bool false, H) := ev_eq false hx hy (decide_eq_false (by omega))
theorem ev_neT {t t2 : TypeId} {x y : Operand} {a b : Nat} (hx : ev s x = nat a) (hy : ev s y = nat b) (h : ¬ a = b) : opEval T s H (.binOp .neq t x y t2) = some (.bool true, H) := ev_ne true hx hy (decide_eq_true (by omega))
theorem ev_neF {t t2 : TypeId} {x y : Operand} {a b : Nat} (hx : ev s x = nat a) (hy : ev s y = nat b) (h : a = b) : opEval T s H (.binOp .neq t x y t2) = some (.bool false, H) := ev_ne false hx hy (decide_eq_false (by omega))
/-- The same over integers: the truth is given. -/
theorem ev_iltT {t t2 : TypeId} {x y : Operand} {a b : Int} (hx : ev s x = .int .i64 a) (hy : ev s y = .int .i64 b) (h : a < b) : opEval T s H (.binOp .lss t x y t2) = some (.bool true, H) := ev_lt true hx hy (decide_eq_true h)
theorem ev_iltF {t t2 : TypeId} {x y : Operand} {a b : Int} (hx : ev s x = .int .i64 a) (hy : ev s y = .int .i64 b) (h : ¬ a < b) : opEval T s H (.binOp .lss t x y t2) = some (.bool false, H) := ev_lt false hx hy (decide_eq_false h)
theorem ev_igtT {t t2 : TypeId} {x y : Operand} {a b : Int} (hx : ev s x = .int .i64 a) (hy : ev s y = .int .i64 b) (h : b < a) : opEval T s H (.binOp .gtr t x y t2) = some (.bool true, H) := ev_gt true hx hy (decide_eq_true h)
theorem ev_igtF {t t2 : TypeId} {x y : Operand} {a b : Int} (hx : ev s x = .int .i64 a) (hy : ev s y = .int .i64 b) (h : ¬ b < a) : opEval T s H (.binOp .gtr t x y t2) = some (.bool false, H) := ev_gt false hx hy (decide_eq_false h)
theorem ev_igeT {t t2 : TypeId} {x y : Operand} {a b : Int} (hx : ev s x = .int .i64 a) (hy : ev s y = .int .i64 b) (h : b ≤ a) : opEval T s H (.binOp .geq t x y t2) = some (.bool true, H) := ev_bin hx hy (by decide) (by simp [binInt]; omega)
theorem ev_igeF {t t2 : TypeId} {x y : Operand} {a b : Int} (hx : ev s x = .int .i64 a) (hy : ev s y = .int .i64 b) (h : ¬ b ≤ a) : opEval T s H (.binOp .geq t x y t2) = some (.bool false, H) := ev_bin hx hy (by decide) (by simp [binInt]; omega)
theorem ev_ileT {t t2 : TypeId} {x y : Operand} {a b : Int} (hx : ev s x = .int .i64 a) (hy : ev s y = .int .i64 b) (h : a ≤ b) : opEval T s H (.binOp .leq t x y t2) = some (.bool true, H) := ev_leq true hx hy (decide_eq_true h)
theorem ev_ileF {t t2 : TypeId} {x y : Operand} {a b : Int} (hx : ev s x = .int .i64 a) (hy : ev s y = .int .i64 b) (h : ¬ a ≤ b) : opEval T s H (.binOp .leq t x y t2) = some (.bool false, H) := ev_leq false hx hy (decide_eq_false h)
theorem ev_ieqT {t t2 : TypeId} {x y : Operand} {a b : Int} (hx : ev s x = .int .i64 a) (hy : ev s y = .int .i64 b) (h : a = b) : opEval T s H (.binOp .eql t x y t2) = some (.bool true, H) := ev_eq true hx hy (decide_eq_true h)
theorem ev_ieqF {t t2 : TypeId} {x y : Operand} {a b : Int} (hx : ev s x = .int .i64 a) (hy : ev s y = .int .i64 b) (h : ¬ a = b) : opEval T s H (.binOp .eql t x y t2) = some (.bool false, H) := ev_eq false hx hy (decide_eq_false h)
theorem ev_ineT {t t2 : TypeId} {x y : Operand} {a b : Int} (hx : ev s x = .int .i64 a) (hy : ev s y = .int .i64 b) (h : ¬ a = b) : opEval T s H (.binOp .neq t x y t2) = some (.bool true, H) := ev_ne true hx hy (decide_eq_true h)
theorem ev_ineF {t t2 : TypeId} {x y : Operand} {a b : Int} (hx : ev s x = .int .i64 a) (hy : ev s y = .int .i64 b) (h : a = b) : opEval T s H (.binOp .neq t x y t2) = some (.bool false, H) := ev_ne false hx hy (decide_eq_false (by simp [h]))

theorem ev_maxN {x y : Operand} {t : TypeId} {a b : Nat} (hx : ev s x = nat a) (hy : ev s y = nat b) : opEval T s H (.call { callee := .builtin .max, args := #[x, y], argTypes := #[t, t] }) = some (nat (max a b), H) := by
  have : (if (b : Int) > a then (b : Int) else a) = ((max a b : Nat) : Int) := by split <;> omega
  simp only [opEval, vBuiltin, List.map_cons, List.map_nil, hx, hy, this]
theorem ev_minN {x y : Operand} {t : TypeId} {a b : Nat} (hx : ev s x = nat a) (hy : ev s y = nat b) : opEval T s H (.call { callee := .builtin .min, args := #[x, y], argTypes := #[t, t] }) = some (nat (min a b), H) := by
  have : (if (b : Int) < a then (b : Int) else a) = ((min a b : Nat) : Int) := by split <;> omega
  simp only [opEval, vBuiltin, List.map_cons, List.map_nil, hx, hy, this]
theorem ev_minI {x y : Operand} {t : TypeId} {a b : Int} (hx : ev s x = .int .i64 a) (hy : ev s y = .int .i64 b) : opEval T s H (.call { callee := .builtin .min, args := #[x, y], argTypes := #[t, t] }) = some (.int .i64 (min a b), H) := by
  have : (if (b : Int) < a then (b : Int) else a) = min a b := by split <;> omega
  simp only [opEval, vBuiltin, List.map_cons, List.map_nil, hx, hy, this]

theorem rep_cells (z : List Value) : ∀ n : Nat, repCells z n = (List.replicate n z).flatten
  | 0 => rfl
  | n + 1 => by simp [repCells, rep_cells z n, List.replicate_succ]

theorem ev_make {t e : TypeId} {i ei : TI} {x y : Operand} {n : Nat} (hx : ev s x = nat n) (hy : ev s y = nat n) (hT : T.T t = some i) (hd : i.desc = .slice e) (he : T.T e = some ei) (hp : 0 < ei.size) (hb : n * ei.bytes ≤ 2 ^ 40) (hn : n ≤ 2 ^ 40) :
    opEval T s H (.makeSlice t x y) = some (.slice (some ⟨H.length, 0, none⟩) n n, H ++ [.row ei.size (List.replicate n (cellsOf ei.zero)).flatten true true]) := by
  have : (0 : Int) ≤ (n : Int) ∧ (n : Int) ≤ (n : Int) ∧ (n : Int) * (ei.bytes : Int) ≤ 2 ^ 40 ∧ 0 < ei.size ∧ (n : Int) ≤ 2 ^ 40 := ⟨by omega, by omega, by exact_mod_cast hb, hp, by omega⟩
  simp only [opEval, vMakeSlice, hT, hd, hx, hy, he, Option.bind_eq_bind, Option.bind_some, if_pos this, rep_cells, Int.toNat_natCast]

theorem slo_row {p : Nat} {es : List (List Value)} (hs : ∀ e ∈ es, e.length = sz) (hn : es.length ≤ 2 ^ 40) : Slo sz (.slice (some ⟨p, 0, none⟩) es.length es.length) es (some (p, .row sz es.flatten true true)) := by
  refine ⟨hs, hn, ?_⟩
  by_cases h : es = []
  · subst h; exact .inl ⟨rfl, _, .inr ⟨_, _, rfl⟩, rfl⟩
  · exact .inr ⟨p, 0, _, _, rfl, rfl, .inr ⟨rfl, h⟩, by rw [flat_len hs]; omega, by rw [List.drop_zero, ← flat_len hs, List.take_length]⟩
end

section
variable {T : Tab} {H0 H : Heap} {L : List Th} {α : Type} {f : α → List Value} {Q : St} {cal : CallF} {d : Bool} {ops : Array Oper} {i n t : Nat} {is : List Nat} {a : Nat → Value} {l : List (Nat × Value)} {o : Oper}

/-- 'make' of a slice. -/
theorem Rg.make {ty e : TypeId} {ii ei : TI} {x y : Operand} {m sz : Nat} (x0 : α) (hM : Mem H0 H L) (ho : ops[i]? = some o) (hg : o.guard = none) (ht : o.dst = some t) (hop : o.op = .makeSlice ty x y) (hx : ev (mkS n a l) x = nat m) (hy : ev (mkS n a l) y = nat m) (hT : T.T ty = some ii) (hd : ii.desc = .slice e) (he : T.T e = some ei) (hp : 0 < ei.size) (hs : ei.size = sz) (hz : cellsOf ei.zero = f x0) (hz1 : (f x0).length = sz) (hb : m * ei.bytes ≤ 2 ^ 40) (hm : m ≤ 2 ^ 40)
    (k : ∀ u H1, Mem H0 H1 (.sl sz u ((List.replicate m x0).map f) :: L) → Ext H H1 → Rg T cal d ops is (mkS n a ((t, u) :: l)) H1 Q) : Rg T cal d ops (i :: is) (mkS n a l) H Q := by
  have key := slo_row (p := H.length) (sz := sz) (es := List.replicate m (f x0)) (by intro e he; rw [List.eq_of_mem_replicate he]; exact hz1) (by simpa using hm)
  simp only [List.length_replicate] at key
  rw [← hz] at key
  refine Rg.mkSl hM ho hg ht (sz := sz) (es := (List.replicate m x0).map f) (by rw [hop]; exact ev_make hx hy hT hd he hp hb hm) (by rw [hop]; simp [inPlace]) rfl ?_ k
  rw [List.map_replicate, ← hz, hs]
  exact key

/-- A slice that is written out. -/
theorem Rg.lit {ty : TypeId} {parts : Array (Nat × Operand)} {m sz : Nat} {xs : List α} (hM : Mem H0 H L) (ho : ops[i]? = some o) (hg : o.guard = none) (ht : o.dst = some t) (hop : o.op = .buildSlice ty m parts) (he : opEval T (mkS n a l) H (.buildSlice ty m parts) = some (.slice (some ⟨H.length, 0, none⟩) (xs.map f).length (xs.map f).length, H ++ [.row sz (xs.map f).flatten true true])) (hs : ∀ e ∈ xs.map f, e.length = sz) (hn : (xs.map f).length ≤ 2 ^ 40)
    (k : ∀ u H1, Mem H0 H1 (.sl sz u (xs.map f) :: L) → Ext H H1 → Rg T cal d ops is (mkS n a ((t, u) :: l)) H1 Q) : Rg T cal d ops (i :: is) (mkS n a l) H Q :=
  Rg.mkSl hM ho hg ht (by rw [hop]; exact he) (by rw [hop]; simp [inPlace]) rfl (slo_row hs hn) k

theorem Rg.stoM {ty : TypeId} {oa ov : Operand} {ti : TI} {j sz k : Nat} {xs : List α} {v u : Value} (y : α) (hM : Mem H0 H L) (ho : ops[i]? = some o) (hg : o.guard = none) (ht : o.dst = none) (hop : o.op = .store ty oa ov) (hj : L[j]? = some (.sl sz v (xs.map f))) (ha : ev (mkS n a l) oa = ptrAt (sAddr v) (k * sz)) (hv : ev (mkS n a l) ov = u)
    (hk : k < xs.length) (hT : T.T ty = some ti) (hc : cellsOf u = f y) (hl : (f y).length = sz) (hs : ti.size = sz) (h1 : (f y).all oneCell = true) (k : ∀ H1, Mem H0 H1 (L.set j (.sl sz v ((xs.set k y).map f))) → Rg T cal d ops is (mkS n a l) H1 Q) : Rg T cal d ops (i :: is) (mkS n a l) H Q :=
  Rg.stoe hM ho hg ht hop hj ha hv (by simpa using hk) hT (by rw [hc]; exact hl) hs (by rw [hc]; exact h1) (by rw [hc, List.map_set]) k

theorem Rg.appM {ty e : TypeId} {ii ei : TI} {x y : Operand} {j sz : Nat} {v w : Value} {xs ys : List α} (hM : Mem H0 H L) (ho : ops[i]? = some o) (hg : o.guard = none) (ht : o.dst = some t) (hop : o.op = .call { callee := .builtin .append, args := #[x, y], argTypes := #[ty, ty] })
    (hj : L[j]? = some (.sl sz v (xs.map f))) (hx : ev (mkS n a l) x = v) (hy : ev (mkS n a l) y = w) (hw : Sl H sz w (ys.map f)) (hT : SliceTy T ty e ii ei) (hsz : ei.size = sz) (h1 : ∀ y ∈ ys, (f y).length = sz ∧ (f y).all oneCell = true) (hb : (xs.length + ys.length) * ei.bytes ≤ 2 ^ 40) (hne : ys ≠ [])
    (k : ∀ u H1, Mem H0 H1 (L.set j (.sl sz u ((xs ++ ys).map f))) → Grown u → Rg T cal d ops is (mkS n a ((t, u) :: l)) H1 Q) : Rg T cal d ops (i :: is) (mkS n a l) H Q :=
  Rg.app hM ho hg ht hop hj hx hy hw hT hsz (by intro e he; obtain ⟨y, hy, rfl⟩ := List.mem_map.1 he; exact h1 y hy) (by simpa using hb) (by simpa using hne) (by rw [← List.map_append]; exact k)

theorem Rg.loM {ty e : TypeId} {ei : TI} {x lo : Operand} {j sz m : Nat} {v : Value} {xs : List α} (hM : Mem H0 H L) (ho : ops[i]? = some o) (hg : o.guard = none) (ht : o.dst = some t) (hop : o.op = .slice ty x (some lo) none none) (hj : L[j]? = some (.sl sz v (xs.map f))) (hx : ev (mkS n a l) x = v) (hlo : ev (mkS n a l) lo = nat m) (hd : T.d ty = some (.slice e)) (he : T.T e = some ei) (hs : ei.size = sz) (hm : m ≤ xs.length)
    (k : ∀ u, Mem H0 H (L.set j (.sl sz u ((xs.drop m).map f))) → (Grown v → Grown u) → Rg T cal d ops is (mkS n a ((t, u) :: l)) H Q) : Rg T cal d ops (i :: is) (mkS n a l) H Q := by
  obtain ⟨u, h1, h2, h3⟩ := hM.cutLo (ik := .i64) hj hd he hs (k := m) (by simpa using hm)
  rw [← List.map_drop] at h2
  refine Rg.opp ho hg ht (v := u) (H1 := H) ?_ (by rw [hop]; simp [inPlace]) (k u h2 h3)
  rw [hop]
  refine ev_slice hx ?_
  simp only [Option.map_some, Option.map_none, hlo]
  exact h1
theorem Rg.hiM {ty e : TypeId} {ei : TI} {x hi : Operand} {j sz m : Nat} {v : Value} {xs : List α} (hM : Mem H0 H L) (hgr : Grown v) (ho : ops[i]? = some o) (hg : o.guard = none) (ht : o.dst = some t) (hop : o.op = .slice ty x none (some hi) none) (hj : L[j]? = some (.sl sz v (xs.map f))) (hx : ev (mkS n a l) x = v) (hhi : ev (mkS n a l) hi = nat m) (hd : T.d ty = some (.slice e)) (he : T.T e = some ei) (hs : ei.size = sz) (hm : m ≤ xs.length)
    (k : ∀ u, Mem H0 H (L.set j (.sl sz u ((xs.take m).map f))) → Grown u → Rg T cal d ops is (mkS n a ((t, u) :: l)) H Q) : Rg T cal d ops (i :: is) (mkS n a l) H Q := by
  obtain ⟨u, h1, h2, h3⟩ := hM.cutHi (ik := .i64) hj hgr hd he hs (k := m) (by simpa using hm)
  rw [← List.map_take] at h2
  refine Rg.opp ho hg ht (v := u) (H1 := H) ?_ (by rw [hop]; simp [inPlace]) (k u h2 h3)
  rw [hop]
  refine ev_slice hx ?_
  simp only [Option.map_some, Option.map_none, hhi]
  exact h1
end

end Go.Proofs.Ytdhbclplondmjaa.C

end

section
/- Graphs in the memory; a search in breadth, plain. -/
set_option linter.unusedVariables false
set_option linter.unusedSimpArgs false
namespace Go.Proofs.Ytdhbclplondmjaa.C
open Go.RowKit

structure Arc where
  i : Nat
  lo : Nat
  up : Nat

abbrev arcC (a : Arc) : List Value := [nat a.i, nat a.lo, nat a.up]
def nextOf (arcs : List Arc) (i : Nat) : List Arc := arcs.filter fun a => decide (a.lo = i)
def prs (arcs : List Arc) : List (Nat × Nat) := arcs.map fun a => (a.lo, a.up)

structure WF (n : Nat) (arcs : List Arc) : Prop where
  lo : ∀ a ∈ arcs, a.lo < n
  up : ∀ a ∈ arcs, a.up < n

theorem next_mem {arcs : List Arc} {i : Nat} {a : Arc} : a ∈ nextOf arcs i ↔ a ∈ arcs ∧ a.lo = i := by simp [nextOf]
theorem next_len (arcs : List Arc) (i : Nat) : (nextOf arcs i).length ≤ arcs.length := List.length_filter_le _ _

theorem Ext.get {H K : Heap} (h : Ext H K) {b : Nat} {X : Blk} (e : H[b]? = some X) : K[b]? = some X := (h.old b (List.getElem?_eq_some_iff.1 e).1).trans e

/-- The graph of these names and arcs lies at gp. -/
structure GraphIs (H : Heap) (gp : Nat) (names : List Nm) (arcs : List Arc) (an aa ax : Value) (M : Nat) (nx : List Value) (own : Bool) : Prop where
  box : H[gp]? = some (.row 4 [an, .map (some M), aa, ax] own true)
  hnames : Sl H 1 an (names.map encS)
  harcs : Sl H 3 aa (arcs.map arcC)
  hnext : Sl H 1 ax (nx.map encV)
  len : nx.length = names.length
  each : ∀ i (h : i < nx.length), Sl H 3 nx[i] ((nextOf arcs i).map arcC)

def GraphAt (H : Heap) (gp : Nat) (names : List Nm) (arcs : List Arc) : Prop := ∃ an aa ax M nx own, GraphIs H gp names arcs an aa ax M nx own

theorem GraphIs.sees {H K : Heap} (h : Sees H K) {gp : Nat} {names : List Nm} {arcs : List Arc} {an aa ax : Value} {M : Nat} {nx : List Value} {own : Bool} (g : GraphIs H gp names arcs an aa ax M nx own) : ∃ own1, GraphIs K gp names arcs an aa ax M nx own1 := by
  obtain ⟨o, ho⟩ := h _ _ _ _ g.box
  exact ⟨o, ho, g.hnames.sees h, g.harcs.sees h, g.hnext.sees h, g.len, fun i hi => (g.each i hi).sees h⟩
theorem GraphAt.sees {H K : Heap} (h : Sees H K) {gp : Nat} {names : List Nm} {arcs : List Arc} (g : GraphAt H gp names arcs) : GraphAt K gp names arcs := by
  obtain ⟨an, aa, ax, M, nx, own, g⟩ := g
  obtain ⟨o, g⟩ := g.sees h
  exact ⟨an, aa, ax, M, nx, o, g⟩

/-! ### A search in breadth -/

def stepArc (s : List Bool × List Nat) (a : Arc) : List Bool × List Nat := if s.1.getD a.up false then s else (s.1.set a.up true, s.2 ++ [a.up])
def bfsIn (ys : List Arc) (s : List Bool × List Nat) (j : Nat) : List Bool × List Nat := (ys.take j).foldl stepArc s

theorem bfsIn_succ {ys : List Arc} {s : List Bool × List Nat} {j : Nat} (h : j < ys.length) : bfsIn ys s (j + 1) = stepArc (bfsIn ys s j) ys[j] := by
  unfold bfsIn
  rw [← List.take_append_getElem h, List.foldl_append]
  rfl
theorem bfsIn_zero {ys : List Arc} {s : List Bool × List Nat} : bfsIn ys s 0 = s := rfl

theorem bfsIn_len {ys : List Arc} {s : List Bool × List Nat} : ∀ {j : Nat}, j ≤ ys.length → (bfsIn ys s j).1.length = s.1.length ∧ (bfsIn ys s j).2.length ≤ s.2.length + j
  | 0, _ => ⟨rfl, Nat.le_refl _⟩
  | j + 1, h => by
    obtain ⟨h1, h2⟩ := bfsIn_len (s := s) (Nat.le_of_succ_le h)
    rw [bfsIn_succ h]
    unfold stepArc
    split
    · exact ⟨h1, by omega⟩
    · simp; omega

/-- There is a way of one arc at least. -/
def Rch (arcs : List Arc) (a b : Nat) : Prop := ∃ n, 1 ≤ n ∧ W (prs arcs) n a b

structure Bfs (arcs : List Arc) (n src : Nat) (xs : List Bool) (q : List Nat) : Prop where
  len : xs.length = n
  lt : ∀ x ∈ q, x < n
  sound : ∀ k, xs.getD k false = true → Rch arcs src k
  qs : ∀ x ∈ q, x = src ∨ xs.getD x false = true
  full : ∀ x, (x = src ∨ xs.getD x false = true) → x ∈ q ∨ ∀ a ∈ arcs, a.lo = x → xs.getD a.up false = true

theorem count_set {xs : List Bool} {k : Nat} (h : k < xs.length) (hf : xs.getD k false = false) : (xs.set k true).count false + 1 = xs.count false := by
  induction xs generalizing k with
  | nil => simp at h
  | cons x xs ih =>
    cases k with
    | zero =>
      simp at hf; subst hf
      simp [List.count_cons]
    | succ k =>
      have := ih (k := k) (by simpa using h) (by simpa using hf)
      simp only [List.set_cons_succ, List.count_cons]
      omega

theorem getD_set {xs : List Bool} {k i : Nat} (h : k < xs.length) : (xs.set k true).getD i false = if i = k then true else xs.getD i false := by
  simp only [List.getD_eq_getElem?_getD, List.getElem?_set]
  by_cases e : k = i
  · subst e; simp [h]
  · rw [if_neg e, if_neg (fun h => e h.symm)]

theorem Bfs.start {arcs : List Arc} {n src : Nat} (h : src < n) : Bfs arcs n src (List.replicate n false) [src] := by
  have hf : ∀ k, (List.replicate n false).getD k false = false := fun k => by
    rw [List.getD_eq_getElem?_getD, List.getElem?_replicate]; split <;> rfl
  refine ⟨by simp, by simpa using h, (fun k hk => by rw [hf] at hk; cases hk), by simp, fun x hx => ?_⟩
  rcases hx with rfl | hx
  · exact .inl (by simp)
  · rw [hf] at hx; cases hx

/-- One unit's arcs. -/
theorem Bfs.step {arcs : List Arc} {n src i : Nat} {xs : List Bool} {q : List Nat} (wf : WF n arcs) (h : Bfs arcs n src xs (i :: q)) {ys : List Arc} (hys : ∀ a, a ∈ ys ↔ a ∈ arcs ∧ a.lo = i) :
    Bfs arcs n src (bfsIn ys (xs, q) ys.length).1 (bfsIn ys (xs, q) ys.length).2 ∧ (bfsIn ys (xs, q) ys.length).2.length + 2 * (bfsIn ys (xs, q) ys.length).1.count false ≤ q.length + 2 * xs.count false ∧ (bfsIn ys (xs, q) ys.length).2.length + (bfsIn ys (xs, q) ys.length).1.count false = q.length + xs.count false := by
  have key : ∀ j, j ≤ ys.length → let s := bfsIn ys (xs, q) j
      s.1.length = n ∧ (∀ x ∈ s.2, x < n) ∧ (∀ k, s.1.getD k false = true → Rch arcs src k) ∧ (∀ x ∈ s.2, x = src ∨ s.1.getD x false = true) ∧
      (∀ k, xs.getD k false = true → s.1.getD k false = true) ∧ (∀ k, s.1.getD k false = true → xs.getD k false = true ∨ k ∈ s.2) ∧ (∀ k ∈ q, k ∈ s.2) ∧ (∀ k (hk : k < ys.length), k < j → s.1.getD ys[k].up false = true) ∧
      s.2.length + 2 * s.1.count false ≤ q.length + 2 * xs.count false ∧ s.2.length + s.1.count false = q.length + xs.count false := by
    intro j
    induction j with
    | zero =>
      intro _
      refine ⟨h.len, fun x hx => h.lt x (List.mem_cons_of_mem _ hx), h.sound, fun x hx => h.qs x (List.mem_cons_of_mem _ hx), fun k hk => hk, fun k hk => .inl hk, fun k hk => hk, fun k hk h0 => by omega, Nat.le_refl _, rfl⟩
    | succ j ih =>
      intro hj
      obtain ⟨h1, h2, h3, h4, h5, h6, h7, h8, h9, h10⟩ := ih (by omega)
      have hlt : j < ys.length := by omega
      have hmem := (hys _).1 (List.getElem_mem hlt)
      have hup := wf.up _ hmem.1
      show let s := bfsIn ys (xs, q) (j + 1); _
      rw [bfsIn_succ hlt]
      generalize bfsIn ys (xs, q) j = s at *
      obtain ⟨zs, r⟩ := s
      simp only at h1 h2 h3 h4 h5 h6 h7 h8 h9 h10
      unfold stepArc
      by_cases hb : zs.getD ys[j].up false = true
      · simp only [hb, if_true]
        refine ⟨h1, h2, h3, h4, h5, h6, h7, fun k hk hkj => ?_, h9, h10⟩
        rcases Nat.lt_or_ge k j with z | z
        · exact h8 k hk z
        · have : k = j := by omega
          subst this; exact hb
      · have hb' : zs.getD ys[j].up false = false := by simpa using hb
        simp only [hb', Bool.false_eq_true, if_false]
        have hl : ys[j].up < zs.length := by omega
        have hrch : Rch arcs src ys[j].up := by
          have h0 := h.qs i List.mem_cons_self
          have harc : (i, ys[j].up) ∈ prs arcs := List.mem_map.2 ⟨ys[j], hmem.1, by rw [hmem.2]⟩
          rcases h0 with rfl | h0
          · exact ⟨1, Nat.le_refl _, i, rfl, harc⟩
          · obtain ⟨m, hm, hw⟩ := h.sound i h0
            exact ⟨m + 1, by omega, i, hw, harc⟩
        refine ⟨by simpa using h1, fun x hx => ?_, fun k hk => ?_, fun x hx => ?_, fun k hk => ?_, fun k hk => ?_, fun k hk => ?_, fun k hk hkj => ?_, ?_, ?_⟩
        · rcases List.mem_append.1 hx with z | z
          · exact h2 x z
          · simp at z; rw [z]; exact hup
        · rw [getD_set hl] at hk
          split at hk
          · rename_i e; rw [e]; exact hrch
          · exact h3 k hk
        · rw [getD_set hl]
          rcases List.mem_append.1 hx with z | z
          · rcases h4 x z with e | e
            · exact .inl e
            · right; split
              · rfl
              · exact e
          · simp at z; right; rw [if_pos z]
        · rw [getD_set hl]; split
          · rfl
          · exact h5 k hk
        · rw [getD_set hl] at hk
          split at hk
          · rename_i e; right; rw [e]; simp
          · rcases h6 k hk with e | e
            · exact .inl e
            · exact .inr (List.mem_append_left _ e)
        · exact List.mem_append_left _ (h7 k hk)
        · rw [getD_set hl]; split
          · rfl
          · rename_i hne
            rcases Nat.lt_or_ge k j with z | z
            · exact h8 k hk z
            · have : k = j := by omega
              subst this; exact absurd rfl hne
        · have := count_set hl hb'
          simp only [List.length_append, List.length_cons, List.length_nil]; omega
        · have := count_set hl hb'
          simp only [List.length_append, List.length_cons, List.length_nil]; omega
  obtain ⟨h1, h2, h3, h4, h5, h6, h7, h8, h9, h10⟩ := key ys.length (Nat.le_refl _)
  refine ⟨⟨h1, h2, h3, h4, fun x hx => ?_⟩, h9, h10⟩
  have fin : x = i → ∀ a ∈ arcs, a.lo = x → (bfsIn ys (xs, q) ys.length).1.getD a.up false = true := by
    rintro rfl a ha hlo
    obtain ⟨k, hk, e⟩ := List.mem_iff_getElem.1 ((hys a).2 ⟨ha, hlo⟩)
    have := h8 k hk hk
    rw [e] at this; exact this
  have old : (x = src ∨ xs.getD x false = true) → x ∈ (bfsIn ys (xs, q) ys.length).2 ∨ ∀ a ∈ arcs, a.lo = x → (bfsIn ys (xs, q) ys.length).1.getD a.up false = true := by
    intro hx
    rcases h.full x hx with z | z
    · rcases List.mem_cons.1 z with z | z
      · exact .inr (fin z)
      · exact .inl (h7 x z)
    · exact .inr fun a ha hlo => h5 _ (z a ha hlo)
  rcases hx with hx | hx
  · exact old (.inl hx)
  · rcases h6 x hx with z | z
    · exact old (.inr z)
    · exact .inl z

open Classical in
noncomputable def rchB (arcs : List Arc) (a b : Nat) : Bool := decide (Rch arcs a b)
theorem rchB_iff {arcs : List Arc} {a b : Nat} : rchB arcs a b = true ↔ Rch arcs a b := by unfold rchB; simp
noncomputable def reachB (arcs : List Arc) (n src : Nat) : List Bool := (List.range n).map (rchB arcs src)
theorem reachB_len (arcs : List Arc) (n src : Nat) : (reachB arcs n src).length = n := by simp [reachB]
theorem reachB_get {arcs : List Arc} {n src k : Nat} (h : k < (reachB arcs n src).length) : (reachB arcs n src)[k] = rchB arcs src k := by simp [reachB]

theorem Bfs.done {arcs : List Arc} {n src : Nat} {xs : List Bool} (h : Bfs arcs n src xs []) : xs = reachB arcs n src := by
  have hall : ∀ m a, W (prs arcs) m src a → (m = 0 ∧ a = src) ∨ xs.getD a false = true := by
    intro m
    induction m with
    | zero => intro a hw; exact .inl ⟨rfl, hw.symm⟩
    | succ m ih =>
      rintro a ⟨b, hb, hm⟩
      obtain ⟨c, hc, e⟩ := List.mem_map.1 hm
      have hx : b = src ∨ xs.getD b false = true := by
        rcases ih b hb with z | z
        · exact .inl z.2
        · exact .inr z
      have := (h.full b hx).resolve_left (by simp) c hc (by simpa using (Prod.mk.inj e).1)
      right
      rw [← (Prod.mk.inj e).2]; exact this
  refine List.ext_getElem (by simp [reachB, h.len]) fun k h1 h2 => ?_
  simp only [reachB, List.getElem_map, List.getElem_range]
  have e : xs.getD k false = xs[k] := by simp [List.getD_eq_getElem?_getD, h1]
  by_cases q : Rch arcs src k
  · obtain ⟨m, hm, hw⟩ := q
    have := (hall m k hw).resolve_left (by omega)
    rw [← e, this]; symm; exact rchB_iff.2 ⟨m, hm, hw⟩
  · have q' : rchB arcs src k = false := by
      cases z : rchB arcs src k with
      | false => rfl
      | true => exact absurd (rchB_iff.1 z) q
    rw [q']
    cases hb : xs[k] with
    | false => rfl
    | true => exact absurd (h.sound k (by rw [e, hb])) q

theorem count_le (xs : List Bool) : xs.count false ≤ xs.length := List.count_le_length

end Go.Proofs.Ytdhbclplondmjaa.C

end

section
/- The program's search in breadth, run. -/
set_option linter.unusedVariables false
set_option linter.unusedSimpArgs false
set_option maxRecDepth 100000
set_option maxHeartbeats 4000000
namespace Go.Proofs.Ytdhbclplondmjaa.C
open Go.RowKit Go.Sort

theorem reached_runs {H : Heap} {gp src : Nat} {names : List Nm} {arcs : List Arc} (hG : GraphAt H gp names arcs) (wf : WF names.length arcs) (hs : src < names.length) (hn : names.length ≤ 2 ^ 20) (ha : arcs.length ≤ 2 ^ 20) :
    ∃ r H1, big tab 38 [.pointer (some ⟨gp, 0, none⟩), nat src] H = some (r, H1) ∧ Mem H H1 [.sl 1 r ((reachB arcs names.length src).map encB)] := by
  obtain ⟨an, aa, ax, M, nx, own, hG⟩ := hG
  have hnl := hG.len
  have hM := Mem.start H
  refine big_of_runs rfl rfl rfl ?_
  obtain ⟨z, hz⟩ := startC_mkS Try.f38 [.pointer (some ⟨gp, 0, none⟩), nat src]
  rw [show startC (38, Try.f38).snd [.pointer (some ⟨gp, 0, none⟩), nat src] = _ from hz]
  clear hz
  refine Runs.cut (n := 55) (l := [(0, .pointer (some ⟨gp, 0, none⟩)), (1, nat src)]) (Is.of ⟨rfl, rfl, rfl, rfl, trivial⟩) (fun a0 => ?_)
  refine Runs.seq ?_
  refine Runs.region ?_
  refine Rg.opp (v := .slice none 0 0) rfl rfl rfl rfl rfl ?_
  refine Rg.nil ?_
  refine Runs.seq ?_
  refine Runs.region ?_
  refine Rg.opp (v := .pointer (some ⟨gp, 0, none⟩)) rfl rfl rfl rfl rfl ?_
  refine Rg.opp (v := .pointer (some ⟨gp, 0, none⟩)) rfl rfl rfl rfl rfl ?_
  refine Rg.opp (v := .pointer (some ⟨gp, 0, none⟩)) rfl rfl rfl (ev_fld (o := 0) (p := (37, 0)) rfl rfl rfl rfl rfl (by decide)) rfl ?_
  refine Rg.opp (v := an) rfl rfl rfl (ev_ldb (hM.ext.get hG.box) rfl rfl rfl rfl rfl) rfl ?_
  refine Rg.opp (v := nat names.length) rfl rfl rfl (ev_lenM (hG.hnames.sees hM.ext.sees) rfl rfl) rfl ?_
  refine Rg.make (f := encB) (sz := 1) (m := names.length) false hM rfl rfl rfl rfl rfl rfl rfl rfl rfl (by decide) rfl rfl rfl (by show names.length * 1 ≤ 2 ^ 40; omega) (by omega) (fun u5 Hc (hM : Mem H Hc ([.sl 1 u5 (List.map encB (List.replicate names.length false))])) _ => ?_)
  refine Rg.opp (v := u5) rfl rfl rfl rfl rfl ?_
  refine Rg.nil ?_
  refine Runs.seq ?_
  refine Runs.region ?_
  refine Rg.opp (v := nat src) rfl rfl rfl rfl rfl ?_
  refine Rg.lit (f := encN) (sz := 1) (xs := [src]) hM rfl rfl rfl rfl rfl (by simp) (by simp) (fun u1 Hc (hM : Mem H Hc ([.sl 1 u1 (List.map encN ([src])), .sl 1 u5 (List.map encB (List.replicate names.length false))])) _ => ?_)
  refine Rg.opp (v := u1) rfl rfl rfl rfl rfl ?_
  refine Rg.nil ?_
  refine Runs.seq ?_
  refine Runs.block ?_
  have hrep : (List.replicate names.length false).count false = names.length := by simp
  refine Runs.loop (fun m s Hc => ∃ (w : Value) (q : List Nat) (xs : List Bool), m = q.length + 2 * xs.count false ∧ Mem H Hc ([.sl 1 w (List.map encN q), .sl 1 u5 (List.map encB xs)]) ∧ (Bfs arcs names.length src xs q) ∧ (q.length + xs.count false ≤ names.length + 1) ∧ Is s 55 [(0, .pointer (some ⟨gp, 0, none⟩)), (5, u5), (6, w)]) _
    ⟨u1, [src], List.replicate names.length false, rfl, hM, Bfs.start hs, by rw [hrep]; simp; omega, Is.of ⟨rfl, rfl, rfl, rfl, rfl, rfl, trivial⟩⟩ ?_
  rintro m s Hc ⟨w, q, xs, rfl, hM, hB, hql, hs⟩
  obtain ⟨a2, rfl⟩ := hs.mk1
  clear hs
  refine Runs.seq ?_
  refine Runs.seq ?_
  refine Runs.region ?_
  refine Rg.opp (v := w) rfl rfl rfl rfl rfl ?_
  refine Rg.opp (v := nat q.length) rfl rfl rfl (ev_lenM (hM.get_sl (j := 0) rfl) rfl rfl) rfl ?_
  by_cases hpos : 0 < q.length
  · skip
    obtain ⟨i, q', rfl⟩ : ∃ i q', q = i :: q' := by
      cases q with
      | nil => simp at hpos
      | cons i q' => exact ⟨i, q', rfl⟩
    have hi : i < names.length := hB.lt i List.mem_cons_self
    have hil := hB.len
    have hcl := count_le xs
    refine Rg.opp (v := .bool true) rfl rfl rfl (ev_gtT rfl rfl (hpos)) rfl ?_
    refine Rg.nil ?_
    refine Runs.cond true rfl (fun _ => ?_) (fun h => by cases h)
    refine Runs.skip ?_
    refine Runs.block ?_
    refine Runs.seq ?_
    refine Runs.region ?_
    refine Rg.opp (v := w) rfl rfl rfl rfl rfl ?_
    refine Rg.opp (v := ptrAt (sAddr w) (0 * 1)) rfl rfl rfl (ev_idxM (k := 0) (hM.get_sl (j := 0) rfl) rfl rfl (by simp) rfl rfl rfl (by decide)) rfl ?_
    refine Rg.opp (v := nat i) rfl rfl rfl (ev_ldM (k := 0) (hM.get_sl (j := 0) rfl) rfl (by simp) rfl rfl rfl rfl) rfl ?_
    refine Rg.opp (v := nat i) rfl rfl rfl rfl rfl ?_
    refine Rg.nil ?_
    refine Runs.seq ?_
    refine Runs.region ?_
    refine Rg.opp (v := w) rfl rfl rfl rfl rfl ?_
    refine Rg.loM (f := encN) (j := 0) (m := 1) hM rfl rfl rfl rfl rfl rfl rfl rfl rfl rfl (by simp) (fun w0 (hM : Mem H Hc ([.sl 1 w0 (List.map encN ((i :: q').drop 1)), .sl 1 u5 (List.map encB xs)])) hgr' => ?_)
    replace hM : Mem H Hc ([.sl 1 w0 (List.map encN q'), .sl 1 u5 (List.map encB xs)]) := hM
    refine Rg.opp (v := w0) rfl rfl rfl rfl rfl ?_
    refine Rg.nil ?_
    refine Runs.seq ?_
    refine Runs.region ?_
    refine Rg.opp (v := .pointer (some ⟨gp, 0, none⟩)) rfl rfl rfl rfl rfl ?_
    refine Rg.opp (v := .pointer (some ⟨gp, 0, none⟩)) rfl rfl rfl rfl rfl ?_
    refine Rg.opp (v := .pointer (some ⟨gp, 3, none⟩)) rfl rfl rfl (ev_fld (o := 0) (p := (75, 3)) rfl rfl rfl rfl rfl (by decide)) rfl ?_
    refine Rg.opp (v := ax) rfl rfl rfl (ev_ldb (hM.ext.get hG.box) rfl rfl rfl rfl rfl) rfl ?_
    refine Rg.opp (v := nat i) rfl rfl rfl rfl rfl ?_
    refine Rg.opp (v := ptrAt (sAddr ax) (i * 1)) rfl rfl rfl (ev_idxM (k := i) (hG.hnext.sees hM.ext.sees) rfl rfl (by have := hG.len; omega) rfl rfl rfl (by decide)) rfl ?_
    refine Rg.opp (v := nx[i]) rfl rfl rfl (ev_ldM (k := i) (hG.hnext.sees hM.ext.sees) rfl (by have := hG.len; omega) rfl rfl rfl rfl) rfl ?_
    refine Rg.opp (v := nat ((nextOf arcs i).length)) rfl rfl rfl (ev_lenM ((hG.each i (by have := hG.len; omega)).sees hM.ext.sees) rfl rfl) rfl ?_
    refine Rg.opp (v := nat 0) rfl rfl rfl rfl rfl ?_
    refine Rg.nil ?_
    refine Runs.block ?_
    refine Runs.loop (fun m s Hc => ∃ (j : Nat) (w1 : Value) (q1 : List Nat) (xs1 : List Bool), m = (nextOf arcs i).length - j ∧ Mem H Hc ([.sl 1 w1 (List.map encN q1), .sl 1 u5 (List.map encB xs1)]) ∧ (j ≤ (nextOf arcs i).length) ∧ (bfsIn (nextOf arcs i) (xs, q') j = (xs1, q1)) ∧ Is s 55 [(0, .pointer (some ⟨gp, 0, none⟩)), (5, u5), (6, w1), (32, nx[i]), (33, nat ((nextOf arcs i).length)), (34, nat j)]) _
      ⟨0, w0, q', xs, rfl, hM, Nat.zero_le _, rfl, Is.of ⟨rfl, rfl, rfl, rfl, rfl, rfl, rfl, rfl, rfl, rfl, rfl, rfl, trivial⟩⟩ ?_
    rintro m s Hc ⟨j, w1, q1, xs1, rfl, hM, hj, hR, hs⟩
    obtain ⟨a3, rfl⟩ := hs.mk1
    clear hs
    have hlen := bfsIn_len (s := (xs, q')) hj
    rw [hR] at hlen
    have hyl := next_len arcs i
    refine Runs.seq ?_
    refine Runs.region ?_
    by_cases hlt : j < (nextOf arcs i).length
    · skip
      have hup : (nextOf arcs i)[j].up < names.length := wf.up _ (next_mem.1 (List.getElem_mem hlt)).1
      have hx1 : (nextOf arcs i)[j].up < xs1.length := by have := hlen.1; simp only at this; omega
      have hgd : xs1.getD (nextOf arcs i)[j].up false = xs1[(nextOf arcs i)[j].up] := by simp [List.getD_eq_getElem?_getD, hx1]
      refine Rg.opp (v := .bool true) rfl rfl rfl (ev_ltT rfl rfl (hlt)) rfl ?_
      refine Rg.nil ?_
      refine Runs.seq ?_
      refine Runs.cond true rfl (fun _ => ?_) (fun h => by cases h)
      refine Runs.skip ?_
      refine Runs.seq ?_
      refine Runs.block ?_
      refine Runs.seq ?_
      refine Runs.region ?_
      refine Rg.opp (v := ptrAt (sAddr (nx[i])) (j * 3)) rfl rfl rfl (ev_idxM (k := j) ((hG.each i (by have := hG.len; omega)).sees hM.ext.sees) rfl rfl (hlt) rfl rfl rfl (by decide)) rfl ?_
      refine Rg.opp (v := .agg (arcC ((nextOf arcs i)[j])).toArray) rfl rfl rfl (ev_ldAM (k := j) ((hG.each i (by have := hG.len; omega)).sees hM.ext.sees) rfl (hlt) rfl rfl rfl) rfl ?_
      refine Rg.new (v := fun p => .pointer (some ⟨p, 0, none⟩)) (X := .row 3 [.int .i64 0, .int .i64 0, .int .i64 0] true true) (th := fun p => .box p 3 [.int .i64 0, .int .i64 0, .int .i64 0]) hM rfl rfl rfl rfl rfl rfl (fun _ => rfl) (fun p4 Hc hM _ => ?_)
      refine Rg.stob (j := 0) (cs' := arcC ((nextOf arcs i)[j])) hM rfl rfl rfl rfl rfl rfl rfl rfl rfl rfl (Nat.le_of_ble_eq_true rfl) rfl (fun Hc (hM : Mem H Hc ([.box p4 3 (arcC ((nextOf arcs i)[j])), .sl 1 w1 (List.map encN q1), .sl 1 u5 (List.map encB xs1)])) => ?_)
      refine Rg.nil ?_
      refine Runs.seq ?_
      refine Runs.region ?_
      refine Rg.opp (v := u5) rfl rfl rfl rfl rfl ?_
      refine Rg.opp (v := .pointer (some ⟨p4, 2, none⟩)) rfl rfl rfl (ev_fld (o := 0) (p := (3, 2)) rfl rfl rfl rfl rfl (by decide)) rfl ?_
      refine Rg.opp (v := nat ((nextOf arcs i)[j].up)) rfl rfl rfl (ev_ldb (hM.get_box (j := 0) rfl) rfl rfl rfl rfl rfl) rfl ?_
      refine Rg.opp (v := ptrAt (sAddr u5) (((nextOf arcs i)[j].up) * 1)) rfl rfl rfl (ev_idxM (k := (nextOf arcs i)[j].up) (hM.get_sl (j := 2) rfl) rfl rfl (hx1) rfl rfl rfl (by decide)) rfl ?_
      refine Rg.opp (v := .bool (xs1[(nextOf arcs i)[j].up])) rfl rfl rfl (ev_ldM (k := ((nextOf arcs i)[j].up)) (hM.get_sl (j := 2) rfl) rfl (hx1) rfl rfl rfl rfl) rfl ?_
      refine Rg.opp (v := .bool (!(xs1[(nextOf arcs i)[j].up]))) rfl rfl rfl rfl rfl ?_
      refine Rg.nil ?_
      refine Runs.cond (!(xs1[(nextOf arcs i)[j].up])) rfl (fun h5 => ?_) (fun h5 => ?_)
      · skip
        refine Runs.seq ?_
        refine Runs.region ?_
        refine Rg.opp (v := u5) rfl rfl rfl rfl rfl ?_
        refine Rg.opp (v := .pointer (some ⟨p4, 2, none⟩)) rfl rfl rfl (ev_fld (o := 0) (p := (3, 2)) rfl rfl rfl rfl rfl (by decide)) rfl ?_
        refine Rg.opp (v := nat ((nextOf arcs i)[j].up)) rfl rfl rfl (ev_ldb (hM.get_box (j := 0) rfl) rfl rfl rfl rfl rfl) rfl ?_
        refine Rg.opp (v := ptrAt (sAddr u5) (((nextOf arcs i)[j].up) * 1)) rfl rfl rfl (ev_idxM (k := (nextOf arcs i)[j].up) (hM.get_sl (j := 2) rfl) rfl rfl (hx1) rfl rfl rfl (by decide)) rfl ?_
        refine Rg.stoM (f := encB) (j := 2) (k := ((nextOf arcs i)[j].up)) true hM rfl rfl rfl rfl rfl rfl rfl (hx1) rfl rfl rfl rfl rfl (fun Hc (hM : Mem H Hc ([.box p4 3 (arcC ((nextOf arcs i)[j])), .sl 1 w1 (List.map encN q1), .sl 1 u5 (List.map encB ((xs1).set (((nextOf arcs i)[j].up)) true))])) => ?_)
        refine Rg.nil ?_
        refine Runs.region ?_
        refine Rg.opp (v := w1) rfl rfl rfl rfl rfl ?_
        refine Rg.opp (v := .pointer (some ⟨p4, 2, none⟩)) rfl rfl rfl (ev_fld (o := 0) (p := (3, 2)) rfl rfl rfl rfl rfl (by decide)) rfl ?_
        refine Rg.opp (v := nat ((nextOf arcs i)[j].up)) rfl rfl rfl (ev_ldb (hM.get_box (j := 0) rfl) rfl rfl rfl rfl rfl) rfl ?_
        refine Rg.lit (f := encN) (sz := 1) (xs := [(nextOf arcs i)[j].up]) hM rfl rfl rfl rfl rfl (by simp) (by simp) (fun u6 Hc (hM : Mem H Hc ([.sl 1 u6 (List.map encN ([(nextOf arcs i)[j].up])), .box p4 3 (arcC ((nextOf arcs i)[j])), .sl 1 w1 (List.map encN q1), .sl 1 u5 (List.map encB ((xs1).set (((nextOf arcs i)[j].up)) true))])) _ => ?_)
        refine Rg.appM (f := encN) (sz := 1) (j := 2) (v := w1) (xs := q1) (ys := [(nextOf arcs i)[j].up]) hM rfl rfl rfl rfl rfl rfl rfl (hM.get_sl (j := 0) rfl) ⟨rfl, rfl, rfl, by decide⟩ rfl (by simp [oneCell]) (by show (q1.length + 1) * 8 ≤ 2 ^ 40; have := hlen.2; simp only [List.length_cons] at this hql; omega) (by simp) (fun w2 Hc (hM : Mem H Hc ([.sl 1 u6 (List.map encN ([(nextOf arcs i)[j].up])), .box p4 3 (arcC ((nextOf arcs i)[j])), .sl 1 w2 (List.map encN (q1 ++ ([(nextOf arcs i)[j].up]))), .sl 1 u5 (List.map encB ((xs1).set (((nextOf arcs i)[j].up)) true))])) hgr => ?_)
        replace hM : Mem H Hc ([.box p4 3 (arcC ((nextOf arcs i)[j])), .sl 1 w2 (List.map encN (q1 ++ ([(nextOf arcs i)[j].up]))), .sl 1 u5 (List.map encB ((xs1).set (((nextOf arcs i)[j].up)) true))]) := hM.erase 0
        refine Rg.opp (v := w2) rfl rfl rfl rfl rfl ?_
        refine Rg.nil ?_
        refine Runs.region ?_
        refine Rg.opp (v := nat (j + 1)) rfl rfl rfl (ev_addN (b := 1) rfl rfl (by omega)) rfl ?_
        refine Rg.opp (v := nat (j + 1)) rfl rfl rfl rfl rfl ?_
        refine Rg.nil ?_
        refine ⟨(nextOf arcs i).length - (j + 1), by omega, j + 1, w2, q1 ++ [(nextOf arcs i)[j].up], xs1.set (nextOf arcs i)[j].up true, rfl, hM.tail, hlt, by rw [bfsIn_succ hlt, hR]; simp only [stepArc, hgd]; rw [if_neg (by simpa using h5)], Is.of ⟨rfl, rfl, rfl, rfl, rfl, rfl, rfl, rfl, rfl, rfl, rfl, rfl, trivial⟩⟩
      · skip
        refine Runs.skip ?_
        refine Runs.region ?_
        refine Rg.opp (v := nat (j + 1)) rfl rfl rfl (ev_addN (b := 1) rfl rfl (by omega)) rfl ?_
        refine Rg.opp (v := nat (j + 1)) rfl rfl rfl rfl rfl ?_
        refine Rg.nil ?_
        refine ⟨(nextOf arcs i).length - (j + 1), by omega, j + 1, w1, q1, xs1, rfl, hM.tail, hlt, by rw [bfsIn_succ hlt, hR]; simp only [stepArc, hgd]; rw [if_pos (by simpa using h5)], Is.of ⟨rfl, rfl, rfl, rfl, rfl, rfl, rfl, rfl, rfl, rfl, rfl, rfl, trivial⟩⟩
    · skip
      have hje : j = (nextOf arcs i).length := by omega
      subst hje
      have hst := hB.step wf (ys := nextOf arcs i) (fun a => next_mem)
      rw [hR] at hst
      simp only [List.length_cons] at hst hql ⊢
      refine Rg.opp (v := .bool false) rfl rfl rfl (ev_ltF rfl rfl (hlt)) rfl ?_
      refine Rg.nil ?_
      refine Runs.seq ?_
      refine Runs.cond false rfl (fun h => by cases h) (fun _ => ?_)
      refine Runs.exit ?_
      refine ⟨q1.length + 2 * xs1.count false, by have := hst.2.1; omega, w1, q1, xs1, rfl, hM, hst.1, by have := hst.2.2; omega, Is.of ⟨rfl, rfl, rfl, rfl, rfl, rfl, trivial⟩⟩
  · skip
    refine Rg.opp (v := .bool false) rfl rfl rfl (ev_gtF rfl rfl (hpos)) rfl ?_
    refine Rg.nil ?_
    refine Runs.cond false rfl (fun h => by cases h) (fun _ => ?_)
    refine Runs.exit ?_
    refine Runs.seq ?_
    refine Runs.region ?_
    refine Rg.opp (v := u5) rfl rfl rfl rfl rfl ?_
    refine Rg.opp (v := u5) rfl rfl rfl rfl rfl ?_
    refine Rg.nil ?_
    refine Runs.ret ?_
    refine ⟨u5, rfl, ?_⟩
    have hq : q = [] := by
      cases q with
      | nil => rfl
      | cons i q => simp at hpos
    subst hq
    rw [← hB.done]
    exact hM.tail

end Go.Proofs.Ytdhbclplondmjaa.C

end
