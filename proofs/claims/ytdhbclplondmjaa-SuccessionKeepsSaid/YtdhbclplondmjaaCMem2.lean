/- More of the abstract memory: a store, a block that dies, a machine's block that another abstract block takes over, maps. -/
import Derived.Test.YtdhbclplondmjaaCMem
set_option linter.unusedVariables false
set_option linter.unusedSimpArgs false
namespace Go.Proofs.Ytdhbclplondmjaa.C
open Go.RowKit

variable {base : Nat} {F : Nat → Prop} {μ : Mu} {H : Heap} {w : World}

theorem HR.mine_lt (h : HR base F μ H w) {b : Nat} {k : Blk} {l : Loc} (hb : H[b]? = some k) (hk : k.mine = true) (hl : μ b = some l) : l.blk < w.heap.size ∧ base ≤ l.blk ∧ ¬ F l.blk := by
  cases k with
  | row sz cs own live =>
    simp [Blk.mine] at hk
    obtain ⟨rfl, rfl⟩ := hk
    obtain ⟨_, a, c, d⟩ := h.own b sz cs l hb hl
    exact ⟨d.lt, a, c⟩
  | map es =>
    obtain ⟨a, c, d⟩ := h.maps b es l hb hl
    exact ⟨d.lt, a, c⟩

/-- A write into a machine's block that no live block has. -/
theorem HR.elsewhere (h : HR base F μ H w) {p : Addr} (u : Value) (hb : base ≤ p.block) (hf : ¬ F p.block)
    (hno : ∀ b k l, H[b]? = some k → k.mine = true → μ b = some l → l.blk ≠ p.block) : HR base F μ H (w.setCell p u) where
  own b sz cs l hb' hl := let ⟨a, c, d, e⟩ := h.own b sz cs l hb' hl; ⟨a, c, d, e.mono (MuLe.refl _) (Below.heap_setCell w p u _ (hno b _ l hb' rfl hl))⟩
  ro b sz cs l hb' hl := let ⟨a, c, d⟩ := h.ro b sz cs l hb' hl
    ⟨a, c, fun i v hv => let ⟨v', x, y⟩ := d i v hv; ⟨v', (cell_of_heap (Below.heap_setCell w p u _ (by simp; omega))).trans x, y⟩⟩
  maps b es l hb' hl := let ⟨a, c, d⟩ := h.maps b es l hb' hl; ⟨a, c, d.mono (MuLe.refl _) (Below.heap_setCell w p u _ (hno b _ l hb' rfl hl))⟩
  inj := h.inj
  far k hk := by simpa [World.setCell] using h.far k hk
  base_le := by simpa [World.setCell] using h.base_le

/-- A block dies: nothing is said of it any more. -/
theorem HR.kill (h : HR base F μ H w) (b0 : Nat) {sz : Nat} {cs : List Value} {own : Bool} (h0 : H[b0]? = some (.row sz cs own true)) : HR base F μ (H.set b0 (.row sz cs own false)) w := by
  have key : ∀ {b : Nat} {x : Blk}, (H.set b0 (.row sz cs own false))[b]? = some x → (b = b0 ∧ x = .row sz cs own false) ∨ (b ≠ b0 ∧ H[b]? = some x) := by
    intro b x hx
    rw [List.getElem?_set] at hx
    by_cases e : b0 = b
    · subst e; rw [if_pos rfl] at hx; split at hx <;> simp at hx; exact .inl ⟨rfl, hx.symm⟩
    · rw [if_neg e] at hx; exact .inr ⟨fun q => e q.symm, hx⟩
  refine ⟨?_, ?_, ?_, ?_, h.far, h.base_le⟩
  · intro b sz' cs' l hb hl
    rcases key hb with ⟨rfl, hx⟩ | ⟨_, hb⟩
    · simp at hx
    · exact h.own b sz' cs' l hb hl
  · intro b sz' cs' l hb hl
    rcases key hb with ⟨rfl, hx⟩ | ⟨_, hb⟩
    · simp at hx
    · exact h.ro b sz' cs' l hb hl
  · intro b es l hb hl
    rcases key hb with ⟨rfl, hx⟩ | ⟨_, hb⟩
    · simp at hx
    · exact h.maps b es l hb hl
  · intro b b' k k' l l' hb hb' hk hk' hne hl hl'
    rcases key hb with ⟨rfl, rfl⟩ | ⟨_, hb⟩
    · simp [Blk.mine] at hk
    · rcases key hb' with ⟨rfl, rfl⟩ | ⟨_, hb'⟩
      · simp [Blk.mine] at hk'
      · exact h.inj b b' k k' l l' hb hb' hk hk' hne hl hl'

/-- A machine's block that no live block has is taken over by a new abstract block. -/
theorem HR.adopt (h : HR base F μ H w) (hfree : μ H.length = none) (x : Blk) (l0 : Loc) (hb0 : base ≤ l0.blk) (hf0 : ¬ F l0.blk)
    (hno : ∀ b k l, H[b]? = some k → k.mine = true → μ b = some l → l.blk ≠ l0.blk)
    (hx : (∃ cs, x = .row l0.sz cs true true ∧ RowAt (μ.set H.length l0) w l0 cs) ∨ (∃ es, x = .map es ∧ MapAt (μ.set H.length l0) w l0 es)) :
    HR base F (μ.set H.length l0) (H ++ [x]) w := by
  have hm : MuLe μ (μ.set H.length l0) := Mu.le_set hfree
  have key : ∀ {b : Nat} {y : Blk} {l : Loc}, (H ++ [x])[b]? = some y → (μ.set H.length l0) b = some l → (b = H.length ∧ y = x ∧ l = l0) ∨ (b ≠ H.length ∧ H[b]? = some y ∧ μ b = some l) := by
    intro b y l hb hl
    rw [getElem?_snoc] at hb
    by_cases e : b = H.length
    · subst e; rw [if_pos rfl] at hb; rw [Mu.set_same] at hl; simp at hb hl; exact .inl ⟨rfl, hb.symm, hl.symm⟩
    · rw [if_neg e] at hb; rw [Mu.set_ne _ _ e] at hl; exact .inr ⟨e, hb, hl⟩
  refine ⟨?_, ?_, ?_, ?_, h.far, h.base_le⟩
  · intro b sz' cs' l hb hl
    rcases key hb hl with ⟨rfl, hy, rfl⟩ | ⟨hne, hb, hl⟩
    · rcases hx with ⟨cs, rfl, hr⟩ | ⟨es, rfl, _⟩
      · simp only [Blk.row.injEq, and_true] at hy
        obtain ⟨rfl, rfl⟩ := hy
        exact ⟨rfl, hb0, hf0, hr⟩
      · simp at hy
    · obtain ⟨a, c, d, g⟩ := h.own b sz' cs' l hb hl
      exact ⟨a, c, d, g.mono hm rfl⟩
  · intro b sz' cs' l hb hl
    rcases key hb hl with ⟨rfl, hy, rfl⟩ | ⟨hne, hb, hl⟩
    · rcases hx with ⟨cs, rfl, hr⟩ | ⟨es, rfl, _⟩ <;> simp at hy
    · obtain ⟨a, c, d⟩ := h.ro b sz' cs' l hb hl
      exact ⟨a, c, fun i v hv => let ⟨v', p, q⟩ := d i v hv; ⟨v', p, q.mono hm⟩⟩
  · intro b es' l hb hl
    rcases key hb hl with ⟨rfl, hy, rfl⟩ | ⟨hne, hb, hl⟩
    · rcases hx with ⟨cs, rfl, hr⟩ | ⟨es, rfl, hr⟩
      · simp at hy
      · simp only [Blk.map.injEq] at hy
        subst hy
        exact ⟨hb0, hf0, hr⟩
    · obtain ⟨a, c, d⟩ := h.maps b es' l hb hl
      exact ⟨a, c, d.mono hm rfl⟩
  · intro b b' k k' l l' hb hb' hk hk' hne hl hl'
    rcases key hb hl with ⟨rfl, rfl, rfl⟩ | ⟨h1, hb2, hl2⟩ <;> rcases key hb' hl' with ⟨rfl, rfl, rfl⟩ | ⟨h2, hb3, hl3⟩
    · exact absurd rfl hne
    · exact (hno b' k' l' hb3 hk' hl3).symm
    · exact hno b k l hb2 hk hl2
    · exact h.inj b b' k k' l l' hb2 hb3 hk hk' hne hl2 hl3

/-- A store into a live row of one's own. -/
theorem HR.store (h : HR base F μ H w) {b sz : Nat} {cs : List Value} {l : Loc} (hb : H[b]? = some (.row sz cs true true)) (hl : μ b = some l) (i : Nat) (hi : i < cs.length) {v v' : Value} (hv : VR μ v v') :
    HR base F μ (H.set b (.row sz (cs.set i v) true true)) (w.setCell ⟨l.blk, l.sh + i, none⟩ v') := by
  obtain ⟨e1, e2, e3, arr, e, fr, g1, g2, g3, g4⟩ := h.own b sz cs l hb hl
  obtain ⟨v0, hv0, _⟩ := g4 i cs[i] (by simp [hi])
  have hlt : l.sh + i < arr.size := (Array.getElem?_eq_some_iff.1 hv0).1
  have hnew : (w.setCell ⟨l.blk, l.sh + i, none⟩ v').heap[l.blk]? = some (.cells (arr.setIfInBounds (l.sh + i) v') e fr) := by
    simp [World.setCell, Array.getElem?_modify, g1]
  have hother : ∀ k, k ≠ l.blk → (w.setCell ⟨l.blk, l.sh + i, none⟩ v').heap[k]? = w.heap[k]? := fun k hk => Below.heap_setCell w _ v' k hk
  have hblt : b < H.length := (List.getElem?_eq_some_iff.1 hb).1
  have key : ∀ {c : Nat} {x : Blk}, (H.set b (.row sz (cs.set i v) true true))[c]? = some x → (c = b ∧ x = .row sz (cs.set i v) true true) ∨ (c ≠ b ∧ H[c]? = some x) := by
    intro c x hx
    rw [List.getElem?_set] at hx
    by_cases e : b = c
    · subst e; rw [if_pos rfl, if_pos hblt] at hx; simp at hx; exact .inl ⟨rfl, hx.symm⟩
    · rw [if_neg e] at hx; exact .inr ⟨fun q => e q.symm, hx⟩
  refine ⟨?_, ?_, ?_, ?_, ?_, ?_⟩
  · intro c sz' cs' l' hc hl'
    rcases key hc with ⟨rfl, hx⟩ | ⟨hne, hc⟩
    · simp only [Blk.row.injEq, and_true] at hx
      obtain ⟨rfl, rfl⟩ := hx
      rw [hl] at hl'; simp at hl'; subst hl'
      refine ⟨e1, e2, e3, _, e, fr, hnew, by simpa using g2, by simpa using g3, fun j u hu => ?_⟩
      rw [List.getElem?_set] at hu
      by_cases q : i = j
      · subst q
        rw [if_pos rfl, if_pos hi] at hu
        simp at hu; subst hu
        exact ⟨v', by simp [hlt], hv⟩
      · rw [if_neg q] at hu
        obtain ⟨u', x, y⟩ := g4 j u hu
        exact ⟨u', by rw [Array.getElem?_setIfInBounds_ne (by omega)]; exact x, y⟩
    · obtain ⟨a, c1, d, g⟩ := h.own c sz' cs' l' hc hl'
      exact ⟨a, c1, d, g.mono (MuLe.refl _) (hother _ (h.inj c b _ _ l' l hc hb rfl rfl hne hl' hl))⟩
  · intro c sz' cs' l' hc hl'
    rcases key hc with ⟨rfl, hx⟩ | ⟨hne, hc⟩
    · simp at hx
    · obtain ⟨a, c1, d⟩ := h.ro c sz' cs' l' hc hl'
      exact ⟨a, c1, fun j u hu => let ⟨u', x, y⟩ := d j u hu; ⟨u', (cell_of_heap (hother _ (by simp; omega))).trans x, y⟩⟩
  · intro c es l' hc hl'
    rcases key hc with ⟨rfl, hx⟩ | ⟨hne, hc⟩
    · simp at hx
    · obtain ⟨a, c1, d⟩ := h.maps c es l' hc hl'
      exact ⟨a, c1, d.mono (MuLe.refl _) (hother _ (h.inj c b _ _ l' l hc hb rfl rfl hne hl' hl))⟩
  · intro c c' k k' m m' hc hc' hk hk' hne hm hm'
    rcases key hc with ⟨rfl, rfl⟩ | ⟨h1, hc2⟩ <;> rcases key hc' with ⟨rfl, rfl⟩ | ⟨h2, hc3⟩
    · exact absurd rfl hne
    · exact h.inj _ c' _ k' m m' hb hc3 rfl hk' hne hm hm'
    · exact h.inj c _ k _ m m' hc2 hb hk rfl hne hm hm'
    · exact h.inj c c' k k' m m' hc2 hc3 hk hk' hne hm hm'
  · intro k hk; simpa [World.setCell] using h.far k hk
  · simpa [World.setCell] using h.base_le

end Go.Proofs.Ytdhbclplondmjaa.C
