/- Texts of one's own, laid together: Wp -/
section
/- Walks over arcs: plain. -/
set_option linter.unusedSimpArgs false
namespace Go.Proofs.Ytdhbclplondmjaa.C

/-- A walk of n arcs. -/
def W (arcs : List (Nat × Nat)) : Nat → Nat → Nat → Prop
  | 0, c, b => c = b
  | n + 1, c, b => ∃ a, W arcs n c a ∧ (a, b) ∈ arcs

theorem W.trans {arcs : List (Nat × Nat)} {m n a b c : Nat} (h : W arcs m a b) (k : W arcs n b c) : W arcs (m + n) a c := by
  induction n generalizing c with
  | zero => cases k; exact h
  | succ n ih =>
    obtain ⟨d, h1, h2⟩ := k
    exact ⟨d, ih h1, h2⟩

theorem nodup_le : ∀ (N : Nat) (l : List Nat), l.Nodup → (∀ x ∈ l, x < N) → l.length ≤ N
  | 0, [], _, _ => Nat.le_refl _
  | 0, x :: l, _, h => absurd (h x (by simp)) (by omega)
  | N + 1, l, hd, h => by
    by_cases hm : N ∈ l
    · have h1 := nodup_le N (l.erase N) (hd.erase N) fun x hx => by
        have h2 := (hd.mem_erase_iff).1 hx
        have := h x h2.2
        have := h2.1
        omega
      rw [List.length_erase_of_mem hm] at h1
      omega
    · have h1 := nodup_le N l hd fun x hx => by
        have h2 := h x hx
        have h3 : x ≠ N := fun e => hm (e ▸ hx)
        omega
      omega

/-- The places of a walk. -/
theorem W.places {arcs : List (Nat × Nat)} : ∀ {n c b : Nat}, W arcs n c b → ∃ v : Nat → Nat, v 0 = c ∧ v n = b ∧ ∀ i, i < n → (v i, v (i + 1)) ∈ arcs
  | 0, c, b, h => ⟨fun _ => c, rfl, h, fun i hi => by omega⟩
  | n + 1, c, b, ⟨a, h, k⟩ => by
    obtain ⟨v, h1, h2, h3⟩ := W.places h
    refine ⟨fun i => if i ≤ n then v i else b, by simp [h1], if_neg (by omega), fun i hi => ?_⟩
    by_cases q : i < n
    · have e1 : i ≤ n := by omega
      have e2 : i + 1 ≤ n := by omega
      simp only [e1, e2, if_true]; exact h3 i q
    · have : i = n := by omega
      subst this
      have e1 : ¬ (i + 1 ≤ i) := by omega
      simp only [Nat.le_refl, e1, if_true, if_false, h2]; exact k

theorem W.of_places {arcs : List (Nat × Nat)} {v : Nat → Nat} {i : Nat} : ∀ {n : Nat}, (∀ k, i ≤ k → k < i + n → (v k, v (k + 1)) ∈ arcs) → W arcs n (v i) (v (i + n))
  | 0, _ => rfl
  | n + 1, h => ⟨v (i + n), W.of_places fun k h1 h2 => h k h1 (by omega), h (i + n) (by omega) (by omega)⟩

theorem map_nodup {n : Nat} {f : Nat → Nat} (h : ∀ i j, i < j → j < n → f i ≠ f j) : ((List.range n).map f).Nodup := by
  induction n with
  | zero => simp
  | succ n ih =>
    rw [List.range_succ, List.map_append, List.nodup_append]
    refine ⟨ih fun i j h1 h2 => h i j h1 (by omega), by simp, ?_⟩
    intro x hx y hy
    obtain ⟨i, hi, rfl⟩ := List.mem_map.1 hx
    simp at hy
    subst hy
    exact h i n (List.mem_range.1 hi) (by omega)

/-- A walk need not be longer than there are places. -/
theorem W.short {arcs : List (Nat × Nat)} {N : Nat} (hN : ∀ p ∈ arcs, p.2 < N) : ∀ (n : Nat) {c b : Nat}, 1 ≤ n → W arcs n c b → ∃ m, 1 ≤ m ∧ m ≤ N ∧ W arcs m c b := by
  intro n
  induction n using Nat.strongRecOn with
  | _ n ih =>
    intro c b hn h
    by_cases q : n ≤ N
    · exact ⟨n, hn, q, h⟩
    · obtain ⟨v, h1, h2, h3⟩ := h.places
      have hex : ∃ i j, i < j ∧ j < n ∧ v (i + 1) = v (j + 1) := by
        refine Classical.byContradiction fun hno => ?_
        have hd : ((List.range n).map fun i => v (i + 1)).Nodup := map_nodup fun i j hi hj e => hno ⟨i, j, hi, hj, e⟩
        have := nodup_le N _ hd fun x hx => by
          obtain ⟨i, hi, rfl⟩ := List.mem_map.1 hx
          exact hN _ (h3 i (List.mem_range.1 hi))
        simp at this
        omega
      obtain ⟨i, j, hij, hj, e⟩ := hex
      have w1 : W arcs (i + 1) (v 0) (v (0 + (i + 1))) := W.of_places fun k _ hk => h3 k (by omega)
      have w2 : W arcs (n - (j + 1)) (v (j + 1)) (v (j + 1 + (n - (j + 1)))) := W.of_places fun k _ hk => h3 k (by omega)
      rw [show j + 1 + (n - (j + 1)) = n by omega, h2, ← e] at w2
      rw [Nat.zero_add, h1] at w1
      have w := w1.trans w2
      exact ih (i + 1 + (n - (j + 1))) (by omega) (by omega) w

/-- The longest walk of at most k arcs; 0 without one. -/
def Far (arcs : List (Nat × Nat)) (k c b x : Nat) : Prop :=
  (x = 0 ∧ ∀ n, 1 ≤ n → n ≤ k → ¬ W arcs n c b) ∨ (1 ≤ x ∧ x ≤ k ∧ W arcs x c b ∧ ∀ n, n ≤ k → W arcs n c b → n ≤ x)

theorem Far.pos {arcs : List (Nat × Nat)} {k c b x : Nat} (h : Far arcs k c b x) : 0 < x ↔ ∃ n, 1 ≤ n ∧ n ≤ k ∧ W arcs n c b := by
  rcases h with ⟨rfl, h⟩ | ⟨h1, h2, h3, _⟩
  · exact ⟨fun h0 => absurd h0 (by omega), fun ⟨n, a, b, w⟩ => absurd w (h n a b)⟩
  · exact ⟨fun _ => ⟨x, h1, h2, h3⟩, fun _ => by omega⟩

/-- One round of the law's 'reach'. -/
theorem Far.succ {arcs : List (Nat × Nat)} {k c b : Nat} {f : Nat → Nat} {y : Nat} (hf : ∀ a, Far arcs k c a (f a))
    (h1 : f b ≤ y) (h2 : ∀ a, (a, b) ∈ arcs → c = a → 1 ≤ y) (h3 : ∀ a, (a, b) ∈ arcs → 0 < f a → f a + 1 ≤ y)
    (h4 : y = f b ∨ (∃ a, (a, b) ∈ arcs ∧ c = a ∧ y = 1) ∨ ∃ a, (a, b) ∈ arcs ∧ 0 < f a ∧ y = f a + 1) : Far arcs (k + 1) c b y := by
  have up : ∀ n, n ≤ k + 1 → W arcs n c b → 1 ≤ n → n ≤ y := by
    intro n hn hw h0
    match n, hw with
    | 1, ⟨a, hz, ha⟩ => exact h2 a ha hz
    | n + 2, ⟨a, hz, ha⟩ =>
      rcases hf a with ⟨_, e⟩ | ⟨e1, e2, e3, e4⟩
      · exact absurd hz (e (n + 1) (by omega) (by omega))
      · have := e4 (n + 1) (by omega) hz
        have := h3 a ha (by omega)
        omega
  rcases Nat.eq_zero_or_pos y with q | q
  · exact .inl ⟨q, fun n hn1 hn2 hw => by have := up n hn2 hw hn1; omega⟩
  · refine .inr ⟨q, ?_, ?_, fun n hn hw => ?_⟩
    · rcases h4 with rfl | ⟨a, _, _, rfl⟩ | ⟨a, _, _, rfl⟩
      · rcases hf b with ⟨e, _⟩ | ⟨_, e, _⟩ <;> omega
      · omega
      · rcases hf a with ⟨e, _⟩ | ⟨_, e, _⟩ <;> omega
    · rcases h4 with rfl | ⟨a, ha, rfl, rfl⟩ | ⟨a, ha, hp, rfl⟩
      · rcases hf b with ⟨e, _⟩ | ⟨_, _, e, _⟩
        · omega
        · exact e
      · exact ⟨c, rfl, ha⟩
      · rcases hf a with ⟨e, _⟩ | ⟨_, _, e, _⟩
        · omega
        · exact ⟨a, e, ha⟩
    · rcases Nat.eq_zero_or_pos n with z | z
      · omega
      · exact up n hn hw z

end Go.Proofs.Ytdhbclplondmjaa.C

end
