/- Texts of one's own, laid together: CW4, CW5, CW6, CW7 -/
import Derived.Test.YtdhbclplondmjaaQc15
section
/- Blocks that the call owns: slots. -/
set_option linter.unusedVariables false
set_option linter.unusedSimpArgs false
namespace Go.Proofs.Ytdhbclplondmjaa.C
open Go.RowKit
variable {T : Tab}

/-- A slot: no block yet, or a block and what it holds. -/
abbrev OSlots := List (Option (Nat × Blk))

structure Own (lo : Nat) (H : Heap) (S : OSlots) : Prop where
  at_ : ∀ (j p : Nat) (X : Blk), S[j]? = some (some (p, X)) → lo ≤ p ∧ H[p]? = some X
  inj : ∀ (i j p : Nat) (X : Blk) (q : Nat) (Y : Blk), S[i]? = some (some (p, X)) → S[j]? = some (some (q, Y)) → i ≠ j → p ≠ q

variable {lo : Nat} {H : Heap} {S : OSlots}

theorem Own.nil (lo : Nat) (H : Heap) : Own lo H [] := ⟨fun _ _ _ h => by simp at h, fun _ _ _ _ _ _ h => by simp at h⟩
theorem Own.lt (o : Own lo H S) {j p : Nat} {X : Blk} (h : S[j]? = some (some (p, X))) : p < H.length := (List.getElem?_eq_some_iff.1 (o.at_ j p X h).2).1
theorem Own.get (o : Own lo H S) {j p : Nat} {X : Blk} (h : S[j]? = some (some (p, X))) : H[p]? = some X := (o.at_ j p X h).2
theorem Own.lo_le (o : Own lo H S) {j p : Nat} {X : Blk} (h : S[j]? = some (some (p, X))) : lo ≤ p := (o.at_ j p X h).1

theorem Own.of {H' : Heap} {S' : OSlots} (o : Own lo H S) (f : Nat → Nat) (hf : ∀ j p X, S'[j]? = some (some (p, X)) → S[f j]? = some (some (p, X)) ∧ H'[p]? = H[p]?) (hi : ∀ i j, f i = f j → i = j) : Own lo H' S' where
  at_ j p X h := by
    obtain ⟨h1, h2⟩ := hf j p X h
    exact ⟨(o.at_ _ p X h1).1, h2.trans (o.at_ _ p X h1).2⟩
  inj i j p X q Y h1 h2 hne := o.inj (f i) (f j) p X q Y (hf i p X h1).1 (hf j q Y h2).1 (fun e => hne (hi i j e))

/-- A new block that nobody asks for. -/
theorem Own.snoc (o : Own lo H S) (X : Blk) : Own lo (H ++ [X]) S :=
  o.of id (fun j p Y h => ⟨h, by rw [List.getElem?_append_left (o.lt h)]⟩) (fun _ _ h => h)

theorem Own.drop (o : Own lo H S) (n : Nat) : Own lo H (S.drop n) :=
  o.of (fun j => n + j) (fun j p Y h => ⟨by rw [List.getElem?_drop] at h; exact h, rfl⟩) (fun _ _ h => by omega)
theorem Own.take (o : Own lo H S) (n : Nat) : Own lo H (S.take n) :=
  o.of id (fun j p Y h => by
    rw [List.getElem?_take] at h
    split at h
    · exact ⟨h, rfl⟩
    · cases h) (fun _ _ h => h)

theorem Own.set_same {j p : Nat} {X Y : Blk} (o : Own lo H S) (h : S[j]? = some (some (p, X))) : Own lo (H.set p Y) (S.set j (some (p, Y))) where
  at_ i q Z hz := by
    by_cases e : j = i
    · subst e
      rw [List.getElem?_set_self (List.getElem?_eq_some_iff.1 h).1] at hz
      simp only [Option.some.injEq, Prod.mk.injEq] at hz
      obtain ⟨rfl, rfl⟩ := hz
      exact ⟨o.lo_le h, by rw [List.getElem?_set_self (o.lt h)]⟩
    · rw [List.getElem?_set_ne e] at hz
      have := o.inj j i p X q Z h hz e
      exact ⟨o.lo_le hz, by rw [List.getElem?_set_ne this]; exact o.get hz⟩
  inj i k q Z r V h1 h2 hne := by
    have key : ∀ (i q : Nat) (Z : Blk), (S.set j (some (p, Y)))[i]? = some (some (q, Z)) → ∃ Z', S[i]? = some (some (q, Z')) := by
      intro i q Z hz
      by_cases e : j = i
      · subst e
        rw [List.getElem?_set_self (List.getElem?_eq_some_iff.1 h).1] at hz
        simp only [Option.some.injEq, Prod.mk.injEq] at hz
        obtain ⟨rfl, rfl⟩ := hz
        exact ⟨X, h⟩
      · rw [List.getElem?_set_ne e] at hz; exact ⟨Z, hz⟩
    obtain ⟨Z', z1⟩ := key i q Z h1
    obtain ⟨V', v1⟩ := key k r V h2
    exact o.inj i k q Z' r V' z1 v1 hne

/-- The block of a slot is a new one; the slots' other blocks are as they were. -/
theorem Own.put {H' : Heap} {j p : Nat} {X : Blk} (o : Own lo H S) (hj : j < S.length) (hlo : lo ≤ p) (hp : H'[p]? = some X)
    (hs : ∀ i q Y, i ≠ j → S[i]? = some (some (q, Y)) → q ≠ p ∧ H'[q]? = some Y) : Own lo H' (S.set j (some (p, X))) where
  at_ i q Z hz := by
    by_cases e : j = i
    · subst e
      rw [List.getElem?_set_self hj] at hz
      simp only [Option.some.injEq, Prod.mk.injEq] at hz
      obtain ⟨rfl, rfl⟩ := hz
      exact ⟨hlo, hp⟩
    · rw [List.getElem?_set_ne e] at hz
      exact ⟨o.lo_le hz, (hs i q Z (fun h => e h.symm) hz).2⟩
  inj i k q Z r V h1 h2 hne := by
    by_cases e1 : j = i
    · subst e1
      rw [List.getElem?_set_self hj] at h1
      simp only [Option.some.injEq, Prod.mk.injEq] at h1
      obtain ⟨rfl, rfl⟩ := h1
      rw [List.getElem?_set_ne hne] at h2
      exact fun e => (hs k r V (fun h => hne h.symm) h2).1 e.symm
    · rw [List.getElem?_set_ne e1] at h1
      by_cases e2 : j = k
      · subst e2
        rw [List.getElem?_set_self hj] at h2
        simp only [Option.some.injEq, Prod.mk.injEq] at h2
        obtain ⟨rfl, rfl⟩ := h2
        exact (hs i q Z (fun h => e1 h.symm) h1).1
      · rw [List.getElem?_set_ne e2] at h2
        exact o.inj i k q Z r V h1 h2 hne

theorem Own.new {j : Nat} (o : Own lo H S) (hj : j < S.length) (hlo : lo ≤ H.length) (X : Blk) : Own lo (H ++ [X]) (S.set j (some (H.length, X))) :=
  o.put hj hlo List.getElem?_concat_length fun i q Y _ h => by
    have := o.lt h
    exact ⟨by omega, by rw [List.getElem?_append_left this]; exact o.get h⟩

theorem Own.none {n : Nat} (o : Own lo H S) : Own lo H (S ++ List.replicate n none) :=
  o.of id (fun j p Y h => by
    rcases Nat.lt_or_ge j S.length with q | q
    · rw [List.getElem?_append_left q] at h; exact ⟨h, rfl⟩
    · rw [List.getElem?_append_right q, List.getElem?_replicate] at h
      split at h <;> simp at h) (fun _ _ h => h)

theorem Own.push (o : Own lo H S) (hlo : lo ≤ H.length) (X : Blk) : Own lo (H ++ [X]) (S ++ [some (H.length, X)]) := by
  have := (o.none (n := 1)).new (j := S.length) (by simp) hlo X
  rw [show S ++ List.replicate 1 Option.none = S ++ [Option.none] from rfl, List.set_append_right _ _ (Nat.le_refl _)] at this
  simpa using this

/-- A slice under way whose block is a slot's. -/
def AccS (S : OSlots) (j sz : Nat) (v : Value) (es : List (List Value)) : Prop :=
  (∀ e ∈ es, e.length = sz) ∧ ((es = [] ∧ v = .slice none 0 0 ∧ S[j]? = some none) ∨ ∃ p, v = .slice (some ⟨p, 0, none⟩) es.length unk ∧ S[j]? = some (some (p, .row sz es.flatten true true)))

theorem AccS.nil {j sz : Nat} (h : S[j]? = some none) : AccS S j sz (.slice none 0 0) [] := ⟨by simp, .inl ⟨rfl, rfl, h⟩⟩
theorem AccS.set_ne {j i sz : Nat} {v : Value} {es : List (List Value)} {x : Option (Nat × Blk)} (h : AccS S j sz v es) (hne : i ≠ j) : AccS (S.set i x) j sz v es := by
  obtain ⟨h1, h2⟩ := h
  refine ⟨h1, ?_⟩
  rw [List.getElem?_set_ne hne]
  exact h2
theorem AccS.sl {j sz : Nat} {v : Value} {es : List (List Value)} (h : AccS S j sz v es) (o : Own lo H S) (hl : es.length ≤ unk) : Sl H sz v es := by
  obtain ⟨hs, ⟨rfl, rfl, _⟩ | ⟨p, rfl, h1⟩⟩ := h
  · exact Sl.nil _ _
  · exact ⟨_, _, rfl, hl, Cells.row hs (o.get h1)⟩

theorem own_app {t e : TypeId} {i ei : TI} (ty : SliceTy T t e i ei) {j : Nat} {v : Value} {es xs : List (List Value)} {a2 : Option Addr} {c2 : Nat} (o : Own lo H S) (h : AccS S j ei.size v es)
    (hsrc : srcCells H a2 xs.length ei.size = some xs.flatten) (hx : ∀ e ∈ xs, e.length = ei.size ∧ e.all oneCell = true) (hb : (es.length + xs.length) * ei.bytes ≤ 2 ^ 40) (hn : es.length + xs.length ≤ 2 ^ 40) (hlo : lo ≤ H.length) (hne : xs ≠ []) :
    ∃ v1 H1 p1, vAppend T H t v (.slice a2 xs.length c2) = some (v1, H1) ∧ Own lo H1 (S.set j (some (p1, .row ei.size (es ++ xs).flatten true true))) ∧
      AccS (S.set j (some (p1, .row ei.size (es ++ xs).flatten true true))) j ei.size v1 (es ++ xs) ∧ H.length ≤ H1.length ∧ (∀ H0 : Heap, H0.length = lo → Ext H0 H → Ext H0 H1) := by
  obtain ⟨hs, hv⟩ := h
  have hj : j < S.length := by
    rcases hv with ⟨_, _, h⟩ | ⟨_, _, h⟩ <;> exact (List.getElem?_eq_some_iff.1 h).1
  obtain ⟨p, hacc, hp⟩ : ∃ p, Acc H lo ei.size v es p ∧ ∀ i q Y, i ≠ j → S[i]? = some (some (q, Y)) → q ≠ p := by
    rcases hv with ⟨rfl, rfl, _⟩ | ⟨p, rfl, h1⟩
    · exact ⟨H.length, Acc.nil _ _ _ _, fun i q Y _ h => by have := o.lt h; omega⟩
    · exact ⟨p, ⟨hs, .inr ⟨rfl, o.lo_le h1, o.get h1⟩⟩, fun i q Y hi h => o.inj i j q Y p _ h h1 hi⟩
  obtain ⟨v1, H1, p1, r1, r2, r3⟩ := push_app ty hacc hsrc hx hb hn hlo (c2 := c2)
  obtain ⟨q1, ⟨q2, _⟩ | ⟨q2, q3, q4⟩⟩ := r2
  · simp [hne] at q2
  · have own := o.put (X := .row ei.size (es ++ xs).flatten true true) hj q3 q4 (fun i q Y hi h => by
      have h1 := o.lt h
      have h2 := hp i q Y hi h
      refine ⟨?_, by rw [r3.same q h1 (.inr h2)]; exact o.get h⟩
      rcases r3.at_ with e | e
      · rw [e]; exact h2
      · omega)
    exact ⟨v1, H1, p1, r1, own, ⟨q1, .inr ⟨p1, q2, List.getElem?_set_self hj⟩⟩, r3.len, r3.ext⟩

/-- One cell is read. -/
theorem read_cell {p k sz : Nat} {cs : List Value} {own : Bool} {v : Value} (h : H[p]? = some (.row sz cs own true)) (hk : cs[k]? = some v) : readCells H p k 1 = some [v] := by
  have hlt := (List.getElem?_eq_some_iff.1 hk).1
  simp only [readCells, h]
  rw [if_pos (by omega)]
  congr 1
  rw [List.drop_eq_getElem_cons hlt, List.take_succ_cons, List.take_zero]
  rw [List.getElem?_eq_getElem hlt] at hk
  simpa using hk

/-- One cell is set. -/
theorem ev_store1 {s : List Value} {t : TypeId} {a v : Operand} {i : TI} {p k sz : Nat} {cs : List Value} {u : Value} (ha : ev s a = .pointer (some ⟨p, k, none⟩)) (hv : ev s v = u) (hT : T.T t = some i) (hi : i.size = 1) (hc : cellsOf u = [u]) (h1 : oneCell u = true)
    (hb : H[p]? = some (.row sz cs true true)) (hk : k < cs.length) : opEval T s H (.store t a v) = some (undef, H.set p (.row sz (cs.set k u) true true)) := by
  have h2 : k + 1 ≤ cs.length := hk
  simp only [opEval, vStore, hT, ha, hv, Option.bind_eq_bind, Option.bind_some, hc, hi, List.length_cons, List.length_nil, Nat.zero_add, if_true, writeCells, List.all_cons, List.all_nil, h1, Bool.and_self, hb, h2, setCells, Option.map_some]

end Go.Proofs.Ytdhbclplondmjaa.C

end

section
/- Memory as a list of things that the call owns. -/
set_option linter.unusedVariables false
set_option linter.unusedSimpArgs false
namespace Go.Proofs.Ytdhbclplondmjaa.C
open Go.RowKit
variable {T : Tab}

/-- What a call owns: a slice with its elements, a variable with its cells, a map. -/
inductive Th where
  | sl (sz : Nat) (v : Value) (es : List (List Value))
  | box (p sz : Nat) (cs : List Value)
  | map (m : Nat) (es : List (Value × Value))

def plainA (a : Option Addr) : Prop := a = none ∨ ∃ b o, a = some ⟨b, o, none⟩

/-- A slice whose cells lie in a block of one's own, or that has none. -/
def Slo (sz : Nat) (v : Value) (es : List (List Value)) (x : Option (Nat × Blk)) : Prop :=
  (∀ e ∈ es, e.length = sz) ∧ es.length ≤ 2 ^ 40 ∧
    ((es = [] ∧ ∃ a, plainA a ∧ v = .slice a 0 0) ∨
      ∃ p o c cs, x = some (p, .row sz cs true true) ∧ v = .slice (some ⟨p, o, none⟩) es.length c ∧ (c = unk ∨ (c = es.length ∧ es ≠ [])) ∧ o + es.length * sz ≤ cs.length ∧ (cs.drop o).take (es.length * sz) = es.flatten)

def Th.Is : Th → Option (Nat × Blk) → Prop
  | .sl sz v es, x => Slo sz v es x
  | .box p sz cs, x => x = some (p, .row sz cs true true)
  | .map m es, x => x = some (m, .map es)

structure Mem (H0 H : Heap) (L : List Th) : Prop where
  ext : Ext H0 H
  own : ∃ S : OSlots, S.length = L.length ∧ Own H0.length H S ∧ ∀ (j : Nat) (t : Th), L[j]? = some t → ∃ x, S[j]? = some x ∧ t.Is x

variable {H0 H H1 : Heap} {L L1 : List Th}

theorem Mem.start (H : Heap) : Mem H H [] := ⟨Ext.refl _, [], rfl, Own.nil _ _, fun j t h => by simp at h⟩

theorem Mem.sub (h : Mem H0 H L) (f : Nat → Nat) (hi : ∀ i j, f i = f j → i = j) (hf : ∀ j t, L1[j]? = some t → L[f j]? = some t) : Mem H0 H L1 := by
  obtain ⟨he, S, hl, ho, hs⟩ := h
  refine ⟨he, (List.range L1.length).map (fun j => S.getD (f j) none), by simp, ?_, ?_⟩
  · refine ho.of f ?_ hi
    intro j p X h
    rw [List.getElem?_map, Option.map_eq_some_iff] at h
    obtain ⟨k, hk, h⟩ := h
    have hj := (List.getElem?_eq_some_iff.1 hk).1
    have hkj : k = j := by rw [List.getElem?_range (by simpa using hj)] at hk; simpa using hk.symm
    subst hkj
    refine ⟨?_, rfl⟩
    rw [List.getD_eq_getElem?_getD] at h
    cases e : S[f k]? with
    | none => rw [e] at h; simp at h
    | some y => rw [e] at h; simp at h; rw [h]
  · intro j t h
    have hj := (List.getElem?_eq_some_iff.1 h).1
    obtain ⟨x, hx, ht⟩ := hs _ _ (hf j t h)
    exact ⟨x, by rw [List.getElem?_map, List.getElem?_range hj]; simp [List.getD_eq_getElem?_getD, hx], ht⟩

theorem Mem.drop (h : Mem H0 H L) (n : Nat) : Mem H0 H (L.drop n) :=
  h.sub (fun j => n + j) (fun i j e => by omega) (fun j t e => by rw [List.getElem?_drop] at e; exact e)
theorem Mem.tail {t : Th} (h : Mem H0 H (t :: L)) : Mem H0 H L := h.drop 1
theorem Mem.erase (h : Mem H0 H L) (n : Nat) : Mem H0 H (L.eraseIdx n) :=
  h.sub (fun j => if j < n then j else j + 1) (fun i j e => by
    by_cases a : i < n <;> by_cases b : j < n <;> simp only [a, b, if_true, if_false] at e <;> omega) (fun j t e => by
    rw [List.getElem?_eraseIdx] at e
    by_cases q : j < n
    · rw [if_pos q] at e ⊢; exact e
    · rw [if_neg q] at e ⊢; exact e)
theorem Mem.swap {a b : Th} (h : Mem H0 H (a :: b :: L)) : Mem H0 H (b :: a :: L) :=
  h.sub (fun j => if j = 0 then 1 else if j = 1 then 0 else j) (fun i j e => by
    repeat' split at e
    all_goals omega) (fun j t e => by
    match j with
    | 0 => exact e
    | 1 => exact e
    | j + 2 => exact e)

theorem Mem.get_box (h : Mem H0 H L) {j p sz : Nat} {cs : List Value} (e : L[j]? = some (.box p sz cs)) : H[p]? = some (.row sz cs true true) := by
  obtain ⟨he, S, hl, ho, hs⟩ := h
  obtain ⟨x, hx, ht⟩ := hs _ _ e
  cases ht
  exact ho.get hx
theorem Mem.get_map (h : Mem H0 H L) {j m : Nat} {es : List (Value × Value)} (e : L[j]? = some (.map m es)) : H[m]? = some (.map es) := by
  obtain ⟨he, S, hl, ho, hs⟩ := h
  obtain ⟨x, hx, ht⟩ := hs _ _ e
  cases ht
  exact ho.get hx

theorem Slo.len {sz : Nat} {v : Value} {es : List (List Value)} {x : Option (Nat × Blk)} (h : Slo sz v es x) : es.length ≤ 2 ^ 40 := h.2.1

theorem cells_of {p o sz : Nat} {cs : List Value} {es : List (List Value)} {own : Bool} (hs : ∀ e ∈ es, e.length = sz) (hb : H[p]? = some (.row sz cs own true)) (h1 : o + es.length * sz ≤ cs.length) (h2 : (cs.drop o).take (es.length * sz) = es.flatten) : Cells H sz (some ⟨p, o, none⟩) es := by
  refine .inr ⟨p, o, rfl, by simp [szAt, hb], fun i e he => ?_⟩
  obtain ⟨g1, g2⟩ := flat_get hs he
  rw [← h2] at g1 g2
  have hi := (List.getElem?_eq_some_iff.1 he).1
  have hle : (i + 1) * sz ≤ es.length * sz := Nat.mul_le_mul_right _ hi
  rw [Nat.succ_mul] at hle
  simp only [readCells, hb]
  rw [if_pos (by omega)]
  rw [List.drop_take, List.take_take, List.drop_drop, Nat.min_eq_left (by omega)] at g2
  rw [g2]

theorem Mem.get_sl (h : Mem H0 H L) {j sz : Nat} {v : Value} {es : List (List Value)} (e : L[j]? = some (.sl sz v es)) : Sl H sz v es := by
  obtain ⟨he, S, hl, ho, hs⟩ := h
  obtain ⟨x, hx, h1, h2, ⟨rfl, a, ha, rfl⟩ | ⟨p, o, c, cs, rfl, rfl, h3, h4, h5⟩⟩ := hs _ _ e
  · exact ⟨a, 0, rfl, Nat.le_refl _, .inl rfl⟩
  · refine ⟨_, c, rfl, ?_, cells_of h1 (ho.get hx) h4 h5⟩
    rcases h3 with rfl | ⟨rfl, _⟩
    · unfold unk; omega
    · exact Nat.le_refl _
theorem Mem.len_sl (h : Mem H0 H L) {j sz : Nat} {v : Value} {es : List (List Value)} (e : L[j]? = some (.sl sz v es)) : es.length ≤ 2 ^ 40 := by
  obtain ⟨he, S, hl, ho, hs⟩ := h
  obtain ⟨x, hx, h1, h2, _⟩ := hs _ _ e
  exact h2

/-- A new block. -/
theorem Mem.new (h : Mem H0 H L) {X : Blk} (hX : X.left = X) {t : Th} (ht : t.Is (some (H.length, X))) : Mem H0 (H ++ [X]) (t :: L) := by
  obtain ⟨he, S, hl, ho, hs⟩ := h
  have hp := ho.push he.len X
  refine ⟨he.snoc hX, some (H.length, X) :: S, by simp [hl], ?_, ?_⟩
  · refine hp.of (fun j => if j = 0 then S.length else j - 1 + (if j - 1 < S.length then 0 else 2)) ?_ ?_
    · intro j p Y hj
      cases j with
      | zero => simp at hj; simp [hj]
      | succ j =>
        simp only [List.getElem?_cons_succ] at hj
        have := (List.getElem?_eq_some_iff.1 hj).1
        simp only [Nat.add_one_ne_zero, if_false, Nat.add_sub_cancel, this, if_true, Nat.add_zero]
        exact ⟨by rw [List.getElem?_append_left this]; exact hj, trivial⟩
    · intro i j e
      by_cases a : i = 0 <;> by_cases b : j = 0 <;> by_cases c : i - 1 < S.length <;> by_cases d : j - 1 < S.length <;> simp only [a, b, c, d, if_true, if_false] at e <;> omega
  · intro j t' h'
    cases j with
    | zero => simp at h'; subst h'; exact ⟨_, rfl, ht⟩
    | succ j => exact hs j t' (by simpa using h')

/-- The block of a thing is written. -/
theorem Mem.upd (h : Mem H0 H L) {j : Nat} {t t' : Th} {p : Nat} {X Y : Blk} (hj : L[j]? = some t) (hx : ∀ x, t.Is x → x = some (p, X)) (hY : Y.left = Y) (ht : t'.Is (some (p, Y))) : Mem H0 (H.set p Y) (L.set j t') := by
  obtain ⟨he, S, hl, ho, hs⟩ := h
  obtain ⟨x, hxj, hi⟩ := hs _ _ hj
  have := hx x hi
  subst this
  refine ⟨he.set hY (ho.lo_le hxj), S.set j (some (p, Y)), by simp [hl], ho.set_same hxj, ?_⟩
  intro i t1 h1
  by_cases e : j = i
  · subst e
    have hlt : j < L.length := (List.getElem?_eq_some_iff.1 hj).1
    rw [List.getElem?_set_self hlt] at h1
    simp only [Option.some.injEq] at h1
    subst h1
    exact ⟨_, List.getElem?_set_self (by omega), ht⟩
  · rw [List.getElem?_set_ne e] at h1
    rw [List.getElem?_set_ne e]
    exact hs i t1 h1

/-- A call's own things, made by one that it has called. -/
theorem Mem.under (h : Mem H0 H L) (k : Mem H H1 L1) : Mem H0 H1 (L1 ++ L) := by
  obtain ⟨he, S, hl, ho, hs⟩ := h
  obtain ⟨he1, S1, hl1, ho1, hs1⟩ := k
  refine ⟨he.trans he1, S1 ++ S, by simp [hl, hl1], ⟨?_, ?_⟩, ?_⟩
  · intro j p X h
    rcases Nat.lt_or_ge j S1.length with q | q
    · rw [List.getElem?_append_left q] at h
      exact ⟨Nat.le_trans he.len (ho1.lo_le h), ho1.get h⟩
    · rw [List.getElem?_append_right q] at h
      exact ⟨ho.lo_le h, by rw [he1.old p (ho.lt h)]; exact ho.get h⟩
  · intro i j p X q Y h1 h2 hne
    rcases Nat.lt_or_ge i S1.length with a | a <;> rcases Nat.lt_or_ge j S1.length with b | b
    · rw [List.getElem?_append_left a] at h1; rw [List.getElem?_append_left b] at h2; exact ho1.inj i j p X q Y h1 h2 hne
    · rw [List.getElem?_append_left a] at h1; rw [List.getElem?_append_right b] at h2
      have := ho1.lo_le h1; have := ho.lt h2; omega
    · rw [List.getElem?_append_right a] at h1; rw [List.getElem?_append_left b] at h2
      have := ho1.lo_le h2; have := ho.lt h1; omega
    · rw [List.getElem?_append_right a] at h1; rw [List.getElem?_append_right b] at h2
      exact ho.inj _ _ p X q Y h1 h2 (by omega)
  · intro j t h
    rcases Nat.lt_or_ge j L1.length with q | q
    · rw [List.getElem?_append_left q] at h
      obtain ⟨x, hx, ht⟩ := hs1 j t h
      exact ⟨x, by rw [List.getElem?_append_left (by omega)]; exact hx, ht⟩
    · rw [List.getElem?_append_right q] at h
      obtain ⟨x, hx, ht⟩ := hs _ t h
      exact ⟨x, by rw [List.getElem?_append_right (by omega), hl1]; exact hx, ht⟩

/-- Another memory in which nothing that counts has changed. -/
theorem Mem.more (h : Mem H0 H L) (k : Ext H H1) : Mem H0 H1 L := by
  have := h.under (L1 := []) ⟨k, [], rfl, Own.nil _ _, fun j t h => by simp at h⟩
  simpa using this

/-- A slice that has room only in a block of its own. -/
def Grown (v : Value) : Prop := ∃ a n c, v = .slice a n c ∧ (c = unk ∨ (c = 0 ∧ n = 0))

theorem Grown.nil : Grown (.slice none 0 0) := ⟨none, 0, 0, rfl, .inr ⟨rfl, rfl⟩⟩

theorem Mem.nilSl (h : Mem H0 H L) (sz : Nat) : Mem H0 H (.sl sz (.slice none 0 0) [] :: L) := by
  obtain ⟨he, S, hl, ho, hs⟩ := h
  refine ⟨he, none :: S, by simp [hl], ⟨?_, ?_⟩, ?_⟩
  · intro j p X h
    cases j with
    | zero => simp at h
    | succ j => exact ho.at_ j p X (by simpa using h)
  · intro i j p X q Y h1 h2 hne
    cases i with
    | zero => simp at h1
    | succ i =>
      cases j with
      | zero => simp at h2
      | succ j => exact ho.inj i j p X q Y (by simpa using h1) (by simpa using h2) (by omega)
  · intro j t h
    cases j with
    | zero => simp at h; subst h; exact ⟨none, rfl, by simp, by simp, .inl ⟨rfl, none, .inl rfl, rfl⟩⟩
    | succ j => exact hs j t (by simpa using h)

def sAddr : Value → Option Addr
  | .slice a _ _ => a
  | _ => none
def ptrAt (a : Option Addr) (k : Nat) : Value :=
  match a with
  | some ⟨b, o, none⟩ => .pointer (some ⟨b, o + k, none⟩)
  | _ => undef

theorem Sl.addr {sz : Nat} {v : Value} {es : List (List Value)} (h : Sl H sz v es) {k : Nat} (hk : k < es.length) : ∃ b o, sAddr v = some ⟨b, o, none⟩ ∧ ∀ i e, es[i]? = some e → readCells H b (o + i * sz) sz = some e := by
  obtain ⟨a, c, rfl, hc, h1⟩ := h
  obtain ⟨b, o, rfl, _, h2⟩ := h1.lt hk
  exact ⟨b, o, rfl, h2⟩

section
variable {s : List Value}

theorem ev_idx {sz k : Nat} {v : Value} {es : List (List Value)} {t e : TypeId} {ei : TI} {x i : Operand} {ik : IntKind} (h : Sl H sz v es) (hx : ev s x = v) (hi : ev s i = .int ik (k : Nat)) (hk : k < es.length) (hd : T.d t = some (.slice e)) (he : T.T e = some ei) (hs : ei.size = sz) (hp : 0 < sz) :
    opEval T s H (.indexAddr t x i) = some (ptrAt (sAddr v) (k * sz), H) := by
  obtain ⟨b, o, ha, _⟩ := h.addr hk
  obtain ⟨a, c, rfl, hc, h1⟩ := h
  simp only [sAddr] at ha
  subst ha hs
  have : (0 : Int) ≤ (k : Int) ∧ (k : Int) < (es.length : Int) ∧ 0 < ei.size := ⟨by omega, by omega, hp⟩
  simp only [opEval, indexAddr, hx, hi, hd, he, if_pos this, Option.map_some, Int.toNat_natCast, ptrAt, sAddr]

theorem ev_len {sz : Nat} {v : Value} {es : List (List Value)} {t e : TypeId} {x : Operand} (h : Sl H sz v es) (hx : ev s x = v) (hd : T.d t = some (.slice e)) : opEval T s H (.call { callee := .builtin .len, args := #[x], argTypes := #[t] }) = some (.int .i64 (es.length : Nat), H) := by
  obtain ⟨a, c, rfl, hc, h1⟩ := h
  simp only [opEval, vBuiltin, List.map_cons, List.map_nil, hx, vLen, hd, Option.map_some]

theorem ev_ld1 {sz k : Nat} {v u : Value} {es : List (List Value)} {t : TypeId} {a : Operand} {i : TI} (h : Sl H sz v es) (ha : ev s a = ptrAt (sAddr v) (k * sz)) (hk : es[k]? = some [u]) (hT : T.T t = some i) (hs : i.size = sz) (hg : i.agg = false) : opEval T s H (.load t a) = some (u, H) := by
  obtain ⟨b, o, hv, h1⟩ := h.addr (List.getElem?_eq_some_iff.1 hk).1
  rw [hv] at ha
  subst hs
  exact ev_load1 ha hT (h1 k _ hk) hg
theorem ev_ldA {sz k : Nat} {v : Value} {cs : List Value} {es : List (List Value)} {t : TypeId} {a : Operand} {i : TI} (h : Sl H sz v es) (ha : ev s a = ptrAt (sAddr v) (k * sz)) (hk : es[k]? = some cs) (hT : T.T t = some i) (hs : i.size = sz) (hg : i.agg = true) : opEval T s H (.load t a) = some (.agg cs.toArray, H) := by
  obtain ⟨b, o, hv, h1⟩ := h.addr (List.getElem?_eq_some_iff.1 hk).1
  rw [hv] at ha
  subst hs
  exact ev_loadA ha hT (h1 k _ hk) hg

theorem read_field {b o sz f : Nat} {cs : List Value} {u : Value} (h : readCells H b o sz = some cs) (hf : cs[f]? = some u) : readCells H b (o + f) 1 = some [u] := by
  unfold readCells at *
  split at h
  · rename_i sz1 c own hb
    split at h
    · rename_i hle
      simp only [Option.some.injEq] at h
      subst h
      have hlt := (List.getElem?_eq_some_iff.1 hf).1
      rw [List.getElem?_take, List.getElem?_drop] at hf
      split at hf
      · rename_i hlt2
        rw [if_pos (by omega)]
        congr 1
        have h3 := (List.getElem?_eq_some_iff.1 hf).1
        rw [List.drop_eq_getElem_cons h3, List.take_succ_cons, List.take_zero]
        rw [List.getElem?_eq_getElem h3] at hf
        simpa using hf
      · simp at hf
    · simp at h
  · simp at h

theorem ev_ldf {sz k f : Nat} {v u : Value} {es : List (List Value)} {cs : List Value} {t : TypeId} {a : Operand} {i : TI} (h : Sl H sz v es) (ha : ev s a = ptrAt (sAddr v) (k * sz + f)) (hk : es[k]? = some cs) (hf : cs[f]? = some u) (hT : T.T t = some i) (hs : i.size = 1) (hg : i.agg = false) : opEval T s H (.load t a) = some (u, H) := by
  obtain ⟨b, o, hv, h1⟩ := h.addr (List.getElem?_eq_some_iff.1 hk).1
  rw [hv] at ha
  have := read_field (h1 k _ hk) hf
  refine ev_load1 (b := b) (o := o + (k * sz + f)) ha hT ?_ hg
  rw [hs, ← Nat.add_assoc]; exact this

theorem ev_fldS {sz k f m : Nat} {v : Value} {es : List (List Value)} {t : TypeId} {x : Operand} {fs : List (TypeId × Nat)} {q : TypeId × Nat} {i ki : TI} (h : Sl H sz v es) (hx : ev s x = ptrAt (sAddr v) m) (hk : k < es.length) (hT : T.T t = some i) (hd : i.desc = .struct fs) (hf : fs[f]? = some q) (hq : T.T q.1 = some ki) (hp : 0 < ki.size) :
    opEval T s H (.fieldAddr t x f) = some (ptrAt (sAddr v) (m + q.2), H) := by
  obtain ⟨b, o, hv, h1⟩ := h.addr hk
  rw [hv] at hx ⊢
  have hx' : ev s x = .pointer (some ⟨b, o + m, none⟩) := hx
  simp only [opEval, vFieldAddr, hT, hd, hx', hf, hq, Option.bind_eq_bind, Option.bind_some, hp, if_true, Option.map_some, ptrAt, Nat.add_assoc]

/-- A variable's cell. -/
theorem ev_ldb {p k sz : Nat} {cs : List Value} {own : Bool} {u : Value} {t : TypeId} {a : Operand} {i : TI} (h : H[p]? = some (.row sz cs own true)) (ha : ev s a = .pointer (some ⟨p, k, none⟩)) (hk : cs[k]? = some u) (hT : T.T t = some i) (hs : i.size = 1) (hg : i.agg = false) : opEval T s H (.load t a) = some (u, H) := by
  refine ev_load1 ha hT ?_ hg
  rw [hs]
  exact read_cell' h hk
where
  read_cell' {p k sz : Nat} {cs : List Value} {own : Bool} {v : Value} (h : H[p]? = some (.row sz cs own true)) (hk : cs[k]? = some v) : readCells H p k 1 = some [v] := by
    have hlt := (List.getElem?_eq_some_iff.1 hk).1
    simp only [readCells, h]
    rw [if_pos (by omega)]
    congr 1
    rw [List.drop_eq_getElem_cons hlt, List.take_succ_cons, List.take_zero]
    rw [List.getElem?_eq_getElem hlt] at hk
    simpa using hk
theorem ev_ldbA {p sz : Nat} {cs : List Value} {own : Bool} {t : TypeId} {a : Operand} {i : TI} (h : H[p]? = some (.row sz cs own true)) (ha : ev s a = .pointer (some ⟨p, 0, none⟩)) (hT : T.T t = some i) (hs : i.size = cs.length) (hg : i.agg = true) : opEval T s H (.load t a) = some (.agg cs.toArray, H) := by
  refine ev_loadA ha hT ?_ hg
  simp only [readCells, h]
  rw [if_pos (by omega), hs, List.drop_zero, List.take_length]
end

section
variable {Q : St} {cal : CallF} {d : Bool} {ops : Array Oper} {i n t : Nat} {is : List Nat} {a : Nat → Value} {l : List (Nat × Value)} {o : Oper}

/-- An operation that lays a block. -/
theorem Rg.new {v : Nat → Value} {X : Blk} {th : Nat → Th} (hM : Mem H0 H L) (ho : ops[i]? = some o) (hg : o.guard = none) (ht : o.dst = some t) (he : opEval T (mkS n a l) H o.op = some (v H.length, H ++ [X])) (hd : (d && inPlace (mkS n a l) o.op) = false) (hX : X.left = X) (hi : ∀ p, (th p).Is (some (p, X)))
    (k : ∀ p H1, Mem H0 H1 (th p :: L) → Ext H H1 → Rg T cal d ops is (mkS n a ((t, v p) :: l)) H1 Q) : Rg T cal d ops (i :: is) (mkS n a l) H Q :=
  Rg.opp ho hg ht he hd (k H.length _ (hM.new hX (hi _)) ((Ext.refl H).snoc hX))

theorem Rg.mkSl {v : Value} {X : Blk} {sz : Nat} {es : List (List Value)} (hM : Mem H0 H L) (ho : ops[i]? = some o) (hg : o.guard = none) (ht : o.dst = some t) (he : opEval T (mkS n a l) H o.op = some (v, H ++ [X])) (hd : (d && inPlace (mkS n a l) o.op) = false) (hX : X.left = X) (hi : Slo sz v es (some (H.length, X)))
    (k : ∀ u H1, Mem H0 H1 (.sl sz u es :: L) → Ext H H1 → Rg T cal d ops is (mkS n a ((t, u) :: l)) H1 Q) : Rg T cal d ops (i :: is) (mkS n a l) H Q :=
  Rg.opp ho hg ht he hd (k v _ (hM.new (t := .sl sz v es) hX hi) ((Ext.refl H).snoc hX))

/-- A variable is set. -/
theorem Rg.stob {ty : TypeId} {oa ov : Operand} {ti : TI} {j p k sz : Nat} {cs cs' : List Value} {u : Value} (hM : Mem H0 H L) (ho : ops[i]? = some o) (hg : o.guard = none) (ht : o.dst = none) (hop : o.op = .store ty oa ov) (hj : L[j]? = some (.box p sz cs)) (ha : ev (mkS n a l) oa = .pointer (some ⟨p, k, none⟩)) (hv : ev (mkS n a l) ov = u)
    (hT : T.T ty = some ti) (hc : (cellsOf u).length = ti.size) (h1 : (cellsOf u).all oneCell = true) (hk : k + (cellsOf u).length ≤ cs.length) (hcs : setCells cs k (cellsOf u) = cs') (k : ∀ H1, Mem H0 H1 (L.set j (.box p sz cs')) → Rg T cal d ops is (mkS n a l) H1 Q) : Rg T cal d ops (i :: is) (mkS n a l) H Q := by
  have hb := hM.get_box hj
  subst hcs
  refine Rg.opn (v := undef) (H1 := H.set p (.row sz (setCells cs _ (cellsOf u)) true true)) ho hg ht ?_ ?_ (k _ (hM.upd hj (fun x hx => hx) rfl rfl))
  · rw [hop]
    simp only [opEval, vStore, hT, ha, hv, Option.bind_eq_bind, Option.bind_some, hc, if_true, writeCells, h1, hb]
    rw [if_pos (by rw [← hc]; exact hk)]
    rfl
  · rw [hop]; simp [inPlace]

/-- A value that fills one cell. -/
def One (u : Value) : Prop := cellsOf u = [u] ∧ oneCell u = true ∧ isTuple u = false
theorem Sl.one {sz : Nat} {v : Value} {es : List (List Value)} (h : Sl H sz v es) : One v := by
  obtain ⟨a, c, rfl, _⟩ := h; exact ⟨rfl, rfl, rfl⟩
theorem Grown.one {v : Value} (h : Grown v) : One v := by
  obtain ⟨a, n, c, rfl, _⟩ := h; exact ⟨rfl, rfl, rfl⟩

theorem Rg.stob1 {ty : TypeId} {oa ov : Operand} {ti : TI} {j p k sz : Nat} {cs cs' : List Value} {u : Value} (hM : Mem H0 H L) (ho : ops[i]? = some o) (hg : o.guard = none) (ht : o.dst = none) (hop : o.op = .store ty oa ov) (hj : L[j]? = some (.box p sz cs)) (ha : ev (mkS n a l) oa = .pointer (some ⟨p, k, none⟩)) (hv : ev (mkS n a l) ov = u)
    (hT : T.T ty = some ti) (hs : ti.size = 1) (h1 : One u) (hk : k + 1 ≤ cs.length) (hcs : cs.set k u = cs') (k : ∀ H1, Mem H0 H1 (L.set j (.box p sz cs')) → Rg T cal d ops is (mkS n a l) H1 Q) : Rg T cal d ops (i :: is) (mkS n a l) H Q :=
  Rg.stob hM ho hg ht hop hj ha hv hT (by rw [h1.1, hs]; rfl) (by rw [h1.1]; simp [h1.2.1]) (by rw [h1.1]; exact hk) (by rw [h1.1]; exact hcs) k

theorem setCells_at : ∀ (vs cs : List Value) (o : Nat), o + vs.length ≤ cs.length → setCells cs o vs = cs.take o ++ vs ++ cs.drop (o + vs.length)
  | [], cs, o, h => by simp [setCells]
  | v :: vs, cs, o, h => by
    unfold setCells
    simp only [List.length_cons] at h
    have ht : (cs.set o v).take (o + 1) = cs.take o ++ [v] := by
      rw [List.take_set, ← List.take_append_getElem (by omega : o < cs.length), List.set_append_right _ _ (by simp; omega)]
      simp [Nat.min_eq_left (by omega : o ≤ cs.length)]
    rw [setCells_at vs (cs.set o v) (o + 1) (by simp; omega), ht, List.drop_set_of_lt (by omega), List.length_cons, show o + 1 + vs.length = o + (vs.length + 1) by omega]
    simp

theorem flat_set {sz : Nat} {es : List (List Value)} (hs : ∀ e ∈ es, e.length = sz) {e : List Value} (he : e.length = sz) : ∀ {k : Nat}, k < es.length → (es.set k e).flatten = es.flatten.take (k * sz) ++ e ++ es.flatten.drop (k * sz + sz) := by
  induction es with
  | nil => intro k h; simp at h
  | cons x es ih =>
    intro k hk
    have hx := hs x List.mem_cons_self
    cases k with
    | zero =>
      simp only [List.set_cons_zero, List.flatten_cons, Nat.zero_mul, List.take_zero, List.nil_append, Nat.zero_add]
      rw [← hx, List.drop_left]
    | succ k =>
      have := ih (fun y hy => hs y (List.mem_cons_of_mem _ hy)) (k := k) (by simpa using hk)
      simp only [List.set_cons_succ, List.flatten_cons, this]
      rw [Nat.succ_mul, Nat.add_comm (k * sz) sz, ← hx, List.take_length_add_append, Nat.add_assoc, List.drop_length_add_append, Nat.add_comm (k * x.length) x.length]
      simp only [List.append_assoc]

theorem mid_set {cs e : List Value} {q m n sz : Nat} (he : e.length = sz) (h1 : m + sz ≤ n) (h2 : q + n ≤ cs.length) :
    ((cs.take (q + m) ++ e ++ cs.drop (q + m + sz)).drop q).take n = ((cs.drop q).take n).take m ++ e ++ ((cs.drop q).take n).drop (m + sz) := by
  have e1 : (cs.take (q + m) ++ e ++ cs.drop (q + m + sz)).drop q = (cs.drop q).take m ++ e ++ cs.drop (q + m + sz) := by
    rw [List.append_assoc, List.drop_append_of_le_length (by simp; omega), List.drop_take, Nat.add_sub_cancel_left, List.append_assoc]
  rw [e1, List.take_take, Nat.min_eq_left (by omega), List.drop_take, List.drop_drop, ← Nat.add_assoc, List.take_append]
  have hl : ((cs.drop q).take m ++ e).length = m + sz := by simp [he]; omega
  rw [hl, List.take_of_length_le (by omega)]

/-- An element is set. -/
theorem Mem.stoe (hM : Mem H0 H L) {j sz k : Nat} {v u : Value} {es : List (List Value)} (hj : L[j]? = some (.sl sz v es)) (hk : k < es.length) (hc : (cellsOf u).length = sz) (h1 : (cellsOf u).all oneCell = true) :
    ∃ b o H1, sAddr v = some ⟨b, o, none⟩ ∧ writeCells H b (o + k * sz) (cellsOf u) = some H1 ∧ Mem H0 H1 (L.set j (.sl sz v (es.set k (cellsOf u)))) := by
  obtain ⟨he, S, hl, ho, hs⟩ := id hM
  obtain ⟨x, hx, g1, g2, ⟨rfl, _⟩ | ⟨p, q, c, cs, rfl, rfl, h3, h4, h5⟩⟩ := hs _ _ hj
  · simp at hk
  have hb := ho.get hx
  have hle : (k + 1) * sz ≤ es.length * sz := Nat.mul_le_mul_right _ hk
  rw [Nat.succ_mul] at hle
  have hw : q + k * sz + (cellsOf u).length ≤ cs.length := by omega
  refine ⟨p, q, H.set p (.row sz (setCells cs (q + k * sz) (cellsOf u)) true true), rfl, ?_, ?_⟩
  · simp only [writeCells, h1, if_true, hb, if_pos hw]
  · have hX : ∀ y, Slo sz (.slice (some ⟨p, q, none⟩) es.length c) es y → H[p]? = H[p]? := fun _ _ => rfl
    have hset := setCells_at _ _ _ hw
    have hn : Slo sz (.slice (some ⟨p, q, none⟩) es.length c) (es.set k (cellsOf u)) (some (p, .row sz (setCells cs (q + k * sz) (cellsOf u)) true true)) := by
      refine ⟨fun e he => ?_, by simpa using g2, .inr ⟨p, q, c, _, rfl, by simp, by rcases h3 with h3 | ⟨h3, h6⟩; exact .inl h3; exact .inr ⟨by simpa using h3, by simpa using h6⟩, ?_, ?_⟩⟩
      · rcases List.mem_or_eq_of_mem_set he with z | z
        · exact g1 e z
        · rw [z]; exact hc
      · rw [hset]; simp; omega
      · have hfl : es.flatten.length = es.length * sz := flat_len g1
        rw [hset, flat_set g1 hc hk, ← h5, List.length_set, hc]
        exact mid_set hc hle h4
    have hlt : j < L.length := (List.getElem?_eq_some_iff.1 hj).1
    refine ⟨he.set rfl (ho.lo_le hx), S.set j (some (p, _)), by simp [hl], ho.set_same hx, ?_⟩
    intro i t1 e1
    by_cases e : j = i
    · subst e
      rw [List.getElem?_set_self hlt] at e1
      simp only [Option.some.injEq] at e1
      subst e1
      exact ⟨_, List.getElem?_set_self (by omega), hn⟩
    · rw [List.getElem?_set_ne e] at e1
      rw [List.getElem?_set_ne e]
      exact hs i t1 e1

theorem Rg.stoe {ty : TypeId} {oa ov : Operand} {ti : TI} {j sz k : Nat} {es es' : List (List Value)} {v u : Value} (hM : Mem H0 H L) (ho : ops[i]? = some o) (hg : o.guard = none) (ht : o.dst = none) (hop : o.op = .store ty oa ov) (hj : L[j]? = some (.sl sz v es)) (ha : ev (mkS n a l) oa = ptrAt (sAddr v) (k * sz)) (hv : ev (mkS n a l) ov = u)
    (hk : k < es.length) (hT : T.T ty = some ti) (hc : (cellsOf u).length = sz) (hs : ti.size = sz) (h1 : (cellsOf u).all oneCell = true) (hes : es.set k (cellsOf u) = es') (k : ∀ H1, Mem H0 H1 (L.set j (.sl sz v es')) → Rg T cal d ops is (mkS n a l) H1 Q) : Rg T cal d ops (i :: is) (mkS n a l) H Q := by
  obtain ⟨b, q, H1, g1, g2, g3⟩ := hM.stoe hj hk hc h1
  subst hes
  rw [g1] at ha
  have ha' : ev (mkS n a l) oa = .pointer (some ⟨b, q + _ * sz, none⟩) := ha
  refine Rg.opn (v := undef) ho hg ht ?_ ?_ (k H1 g3)
  · rw [hop]
    simp only [opEval, vStore, hT, ha', hv, Option.bind_eq_bind, Option.bind_some, hc, hs, if_true, g2, Option.map_some]
  · rw [hop]; simp [inPlace]

theorem Sl.src {sz : Nat} {y : Value} {xs : List (List Value)} (h : Sl H sz y xs) (hs : ∀ e ∈ xs, e.length = sz) (hne : xs ≠ []) : ∃ a2 c2, y = .slice a2 xs.length c2 ∧ srcCells H a2 xs.length sz = some xs.flatten := by
  obtain ⟨a, c, rfl, hc, h1⟩ := h
  obtain ⟨b, o, rfl, _, _⟩ := h1.lt (List.length_pos_iff.2 hne)
  exact ⟨_, c, rfl, h1.src hs (.inr ⟨b, o, rfl⟩)⟩

/-- An append of something to a slice of one's own. -/
theorem Mem.app {ty e : TypeId} {ii ei : TI} (hM : Mem H0 H L) (ht : SliceTy T ty e ii ei) {j sz : Nat} {v y : Value} {es xs : List (List Value)} (hsz : ei.size = sz) (hj : L[j]? = some (.sl sz v es)) (hy : Sl H sz y xs) (hx : ∀ e ∈ xs, e.length = sz ∧ e.all oneCell = true) (hb : (es.length + xs.length) * ei.bytes ≤ 2 ^ 40) (hn : es.length + xs.length ≤ 2 ^ 40) (hne : xs ≠ []) :
    ∃ u H1, vAppend T H ty v y = some (u, H1) ∧ Mem H0 H1 (L.set j (.sl sz u (es ++ xs))) ∧ Grown u ∧ (∃ a n c a2 c2, v = .slice a n c ∧ y = .slice a2 xs.length c2 ∧ (c = unk ∨ c ≤ n)) := by
  subst hsz
  obtain ⟨a2, c2, rfl, hsrc⟩ := hy.src (fun e he => (hx e he).1) hne
  have hx1 : xs.length ≠ 0 := by simpa using hne
  have hone : xs.flatten.all oneCell = true := by
    simp only [List.all_eq_true, List.mem_flatten]
    rintro v ⟨l, hl, hv⟩
    exact List.all_eq_true.1 (hx l hl).2 v hv
  obtain ⟨he, S, hl, ho, hs⟩ := id hM
  obtain ⟨x, hxj, g1, g2, hcase⟩ := hs _ _ hj
  have hall : ∀ e ∈ es ++ xs, e.length = ei.size := by
    intro e he
    rcases List.mem_append.1 he with q | q
    · exact g1 e q
    · exact (hx e q).1
  have hlt : j < L.length := (List.getElem?_eq_some_iff.1 hj).1
  have hnew : Slo ei.size (.slice (some ⟨H.length, 0, none⟩) (es.length + xs.length) unk) (es ++ xs) (some (H.length, .row ei.size (es ++ xs).flatten true true)) := by
    refine ⟨hall, by simpa using hn, .inr ⟨_, 0, unk, _, rfl, by simp, .inl rfl, by rw [flat_len hall]; omega, ?_⟩⟩
    rw [List.drop_zero, ← flat_len hall, List.take_length]
  have hc0 : 0 < ei.size ∧ 0 < ei.bytes ∧ (es.length + xs.length) * ei.bytes ≤ 2 ^ 40 ∧ es.length + xs.length ≤ 2 ^ 40 := ⟨ht.pos.1, ht.pos.2, hb, hn⟩
  have fin : ∀ H1 : Heap, Ext H0 H1 → H.length < H1.length → H1[H.length]? = some (.row ei.size (es ++ xs).flatten true true) → (∀ i q Y, i ≠ j → S[i]? = some (some (q, Y)) → H1[q]? = some Y) →
      Mem H0 H1 (L.set j (.sl ei.size (.slice (some ⟨H.length, 0, none⟩) (es.length + xs.length) unk) (es ++ xs))) := by
    intro H1 h1 h2 h3 h4
    refine ⟨h1, S.set j (some (H.length, .row ei.size (es ++ xs).flatten true true)), by simp [hl], ho.put (by omega) he.len h3 (fun i q Y hi h => ⟨by have := ho.lt h; omega, h4 i q Y hi h⟩), ?_⟩
    intro i t1 e1
    by_cases e : j = i
    · subst e
      rw [List.getElem?_set_self hlt] at e1
      simp only [Option.some.injEq] at e1
      subst e1
      exact ⟨_, List.getElem?_set_self (by omega), hnew⟩
    · rw [List.getElem?_set_ne e] at e1
      rw [List.getElem?_set_ne e]
      exact hs i t1 e1
  have hgrow : Grown (.slice (some ⟨H.length, 0, none⟩) (es.length + xs.length) unk) := ⟨_, _, _, rfl, .inl rfl⟩
  rcases hcase with ⟨rfl, a0, ha0, rfl⟩ | ⟨p, q, c, cs, rfl, rfl, h3, h4, h5⟩
  · refine ⟨.slice (some ⟨H.length, 0, none⟩) (([] : List (List Value)).length + xs.length) unk, H ++ [.row ei.size ([] ++ xs).flatten true true], ?_, fin _ (he.row _ _) (by simp) List.getElem?_concat_length (fun i q Y _ h => by rw [List.getElem?_append_left (ho.lt h)]; exact ho.get h), hgrow, _, _, _, _, _, rfl, rfl, .inr (Nat.le_refl _)⟩
    unfold vAppend
    simp only [ht.t, ht.d, ht.e, Option.bind_eq_bind, Option.bind_some]
    simp only [List.length_nil, Nat.zero_add] at hc0
    simp only [if_pos hc0, hsrc, Option.bind_some, hone, if_true, and_self, if_neg hx1, List.length_nil, Nat.zero_add, List.nil_append]
  · have hb' := ho.get hxj
    rcases h3 with rfl | ⟨rfl, h6⟩
    · refine ⟨.slice (some ⟨H.length, 0, none⟩) (es.length + xs.length) unk, (H.set p (.row ei.size cs true false)) ++ [.row ei.size (es ++ xs).flatten true true], ?_, fin _ ((he.set rfl (ho.lo_le hxj)).row _ _) (by simp) (by rw [List.getElem?_append_right (by simp)]; simp) (fun i r Y hi h => ?_), hgrow, _, _, _, _, _, rfl, rfl, .inl rfl⟩
      · unfold vAppend
        simp only [ht.t, ht.d, ht.e, Option.bind_eq_bind, Option.bind_some]
        have hu : ¬ (es.length = 0 ∧ unk = 0) := by simp [unk]
        simp only [if_pos hc0, hsrc, Option.bind_some, hone, if_true, if_neg hu, hb', true_and, h4, h5, List.flatten_append]
      · have h7 := ho.lt h
        have h8 := ho.inj i j r Y p _ h hxj hi
        rw [List.getElem?_append_left (by simpa using h7), List.getElem?_set_ne (fun e => h8 e.symm)]
        exact ho.get h
    · refine ⟨.slice (some ⟨H.length, 0, none⟩) (es.length + xs.length) unk, H ++ [.row ei.size (es ++ xs).flatten true true], ?_, fin _ (he.row _ _) (by simp) List.getElem?_concat_length (fun i q Y _ h => by rw [List.getElem?_append_left (ho.lt h)]; exact ho.get h), hgrow, _, _, _, _, _, rfl, rfl, .inr (Nat.le_refl _)⟩
      unfold vAppend
      simp only [ht.t, ht.d, ht.e, Option.bind_eq_bind, Option.bind_some]
      have hu : ¬ (es.length = 0 ∧ es.length = 0) := by simpa using h6
      have hcu : ¬ (es.length = unk) := by unfold unk; omega
      have hno : ¬ (es.length + xs.length ≤ es.length) := by omega
      have hrd : readCells H p q (es.length * ei.size) = some es.flatten := by
        simp only [readCells, hb']
        rw [if_pos h4, h5]
      simp only [if_pos hc0, hsrc, Option.bind_some, hone, if_true, if_neg hu, if_neg hcu, if_neg hno, hrd, List.flatten_append]

theorem Rg.app {ty e : TypeId} {ii ei : TI} {x y : Operand} {j sz : Nat} {v w : Value} {es xs : List (List Value)} (hM : Mem H0 H L) (ho : ops[i]? = some o) (hg : o.guard = none) (ht : o.dst = some t) (hop : o.op = .call { callee := .builtin .append, args := #[x, y], argTypes := #[ty, ty] })
    (hj : L[j]? = some (.sl sz v es)) (hx : ev (mkS n a l) x = v) (hy : ev (mkS n a l) y = w) (hw : Sl H sz w xs) (hT : SliceTy T ty e ii ei) (hsz : ei.size = sz) (h1 : ∀ e ∈ xs, e.length = sz ∧ e.all oneCell = true) (hb : (es.length + xs.length) * ei.bytes ≤ 2 ^ 40) (hne : xs ≠ [])
    (k : ∀ u H1, Mem H0 H1 (L.set j (.sl sz u (es ++ xs))) → Grown u → Rg T cal d ops is (mkS n a ((t, u) :: l)) H1 Q) : Rg T cal d ops (i :: is) (mkS n a l) H Q := by
  have hn : es.length + xs.length ≤ 2 ^ 40 := Nat.le_trans (Nat.le_mul_of_pos_right _ hT.pos.2) hb
  obtain ⟨u, H1, g1, g2, g3, aa, nn, cc, a2, c2, rfl, rfl, g4⟩ := hM.app hT hsz hj hw h1 hb hn hne
  have hpos : 0 < xs.length := List.length_pos_iff.2 hne
  refine Rg.opp ho hg ht (v := u) (H1 := H1) ?_ ?_ (k u H1 g2 g3)
  · rw [hop]; exact ev_append hx hy g1
  · rw [hop]
    have : inPlace (mkS n a l) (.call { callee := .builtin .append, args := #[x, y], argTypes := #[ty, ty] }) = false := by
      simp only [inPlace, List.map_cons, List.map_nil, hx, hy, decide_eq_false_iff_not]
      rintro ⟨p1, p2, p3⟩
      rcases g4 with g4 | g4
      · exact p1 g4
      · omega
    rw [this]; simp

/-- A call. -/
theorem Rg.callW {f : FuncId} {args : List Value} (ho : ops[i]? = some o) (hg : o.guard = none) (ht : o.dst = some t) (hn : opEval T (mkS n a l) H o.op = none) (hc : calleeOf T (mkS n a l) H o.op = some (f, args)) (hd : (d && inPlace (mkS n a l) o.op) = false)
    {P : Value → Heap → Prop} (hr : ∃ v H1, cal f args H = some (v, H1) ∧ P v H1) (k : ∀ v H1, P v H1 → Rg T cal d ops is (mkS n a ((t, v) :: l)) H1 Q) : Rg T cal d ops (i :: is) (mkS n a l) H Q := by
  obtain ⟨v, H1, h1, h2⟩ := hr
  exact Rg.calls ho hg ht hn hc hd h1 (k v H1 h2)
end

/-- A loop. -/
theorem Runs.lp {s : List Value} {N : St} {X : Nat → St} {R : St} {c : Code} (I : Nat → St) {m : Nat} (h0 : I m s H) (step : ∀ m s H, I m s H → Runs T c s H (fun s1 H1 => ∃ m1, m1 < m ∧ I m1 s1 H1) X R) : Runs T (.loop c) s H N X R := Runs.loop I m h0 step

/-- The first elements of a slice of one's own are left out. -/
theorem Mem.cutLo (hM : Mem H0 H L) {j sz k : Nat} {v : Value} {es : List (List Value)} {ty e : TypeId} {ei : TI} (hj : L[j]? = some (.sl sz v es)) (hd : T.d ty = some (.slice e)) (he : T.T e = some ei) (hs : ei.size = sz) (hk : k ≤ es.length) {ik : IntKind} :
    ∃ u, sliceVal T H ty v (some (.int ik (k : Nat))) none none = some u ∧ Mem H0 H (L.set j (.sl sz u (es.drop k))) ∧ (Grown v → Grown u) := by
  obtain ⟨hx, S, hl, ho, hS⟩ := id hM
  obtain ⟨x, hxj, g1, g2, hcase⟩ := hS _ _ hj
  have hlt : j < L.length := (List.getElem?_eq_some_iff.1 hj).1
  subst hs
  have fin : ∀ u, Slo ei.size u (es.drop k) x → Mem H0 H (L.set j (.sl ei.size u (es.drop k))) := by
    intro u hu
    refine ⟨hx, S, by simp [hl], ho, ?_⟩
    intro i t1 e1
    by_cases e : j = i
    · subst e
      rw [List.getElem?_set_self hlt] at e1
      simp only [Option.some.injEq] at e1
      subst e1
      exact ⟨_, hxj, hu⟩
    · rw [List.getElem?_set_ne e] at e1
      exact hS i t1 e1
  have hall : ∀ e ∈ es.drop k, e.length = ei.size := fun e he => g1 e (List.mem_of_mem_drop he)
  have hlen : (es.drop k).length ≤ 2 ^ 40 := by simp; omega
  have hbnd : ∀ n, k ≤ n → bnd (.int ik (k : Nat)) n = some k := by
    intro n hn
    have : (0 : Int) ≤ (k : Nat) ∧ ((k : Nat) : Int) ≤ (n : Nat) := ⟨by omega, by omega⟩
    simp only [bnd, if_pos this, Int.toNat_natCast]
  rcases hcase with ⟨rfl, a0, ha0, rfl⟩ | ⟨p, q, c, cs, rfl, rfl, h3, h4, h5⟩
  · simp only [List.length_nil, Nat.le_zero_eq] at hk
    subst hk
    have key : ∃ a1, plainA a1 ∧ sliceVal T H ty (.slice a0 0 0) (some (.int ik ((0 : Nat) : Int))) none none = some (.slice a1 0 0) := by
      rcases ha0 with rfl | ⟨b, o, rfl⟩
      · refine ⟨none, .inl rfl, ?_⟩
        simp only [sliceVal, hd, he, Option.bind_some, hbnd 0 (Nat.le_refl _), cutSlice, and_self, if_true]
      · refine ⟨some ⟨b, o, none⟩, .inr ⟨b, o, rfl⟩, ?_⟩
        have : (0 : Nat) ≠ unk := by simp [unk]
        simp only [sliceVal, hd, he, Option.bind_some, hbnd 0 (Nat.le_refl _), cutSlice, this, ne_eq, not_false_eq_true, and_self, if_true]
    obtain ⟨a1, ha1, hkey⟩ := key
    exact ⟨_, hkey, fin _ ⟨hall, hlen, .inl ⟨by simp, a1, ha1, rfl⟩⟩, fun _ => ⟨_, _, _, rfl, .inr ⟨rfl, rfl⟩⟩⟩
  · have hb' := ho.get hxj
    have hsz : szAt H p = some ei.size := by simp [szAt, hb']
    have hmul : k * ei.size + (es.length - k) * ei.size = es.length * ei.size := by rw [← Nat.add_mul]; congr 1; omega
    have hmid : Slo ei.size (.slice (some ⟨p, q + k * ei.size, none⟩) (es.length - k) (if c = unk then unk else c - k)) (es.drop k) (some (p, .row ei.size cs true true)) ∨ (c ≠ unk ∧ c = k) := by
      by_cases hck : c ≠ unk ∧ c = k
      · exact .inr hck
      · refine .inl ⟨hall, hlen, .inr ⟨p, q + k * ei.size, (if c = unk then unk else c - k), cs, rfl, by simp, ?_, by simp only [List.length_drop]; omega, ?_⟩⟩
        · by_cases hu : c = unk
          · simp [hu]
          · rcases h3 with rfl | ⟨rfl, h6⟩
            · exact absurd rfl hu
            · refine .inr ⟨by simp [hu], ?_⟩
              intro h0
              have : (es.drop k).length = 0 := by rw [h0]; rfl
              simp at this
              exact hck ⟨hu, by omega⟩
        · have hd' : (es.drop k).flatten = es.flatten.drop (k * ei.size) := by
            have h6 : es.flatten = (es.take k).flatten ++ (es.drop k).flatten := by rw [← List.flatten_append, List.take_append_drop]
            have h7 : (es.take k).flatten.length = k * ei.size := by rw [flat_len fun e he => g1 e (List.mem_of_mem_take he), List.length_take, Nat.min_eq_left hk]
            rw [h6, ← h7, List.drop_left]
          rw [hd', ← h5, List.drop_take, List.drop_drop]
          congr 1
          simp only [List.length_drop]
          omega
    by_cases hck : c = k ∧ c ≠ unk
    · refine ⟨.slice (some ⟨p, q, none⟩) 0 0, ?_, fin _ ?_, fun _ => ⟨_, _, _, rfl, .inr ⟨rfl, rfl⟩⟩⟩
      · have hku : k ≠ unk := by rw [← hck.1]; exact hck.2
        simp only [sliceVal, hd, he, Option.bind_some, hbnd _ hk, cutSlice, hck.1, true_and]
        rw [if_pos hku]
      · have : es.drop k = [] := by
          rcases h3 with h3 | ⟨h3, _⟩
          · exact absurd h3 hck.2
          · exact List.drop_eq_nil_of_le (by omega)
        rw [this]
        exact ⟨by simp, by simp, .inl ⟨rfl, _, .inr ⟨_, _, rfl⟩, rfl⟩⟩
    · refine ⟨.slice (some ⟨p, q + k * ei.size, none⟩) (es.length - k) (if c = unk then unk else c - k), ?_, ?_, ?_⟩
      · simp only [sliceVal, hd, he, Option.bind_some, hbnd _ hk, cutSlice, hck, if_false, hsz, if_true]
      · rcases hmid with h | h
        · exact fin _ h
        · exact absurd ⟨h.2, h.1⟩ hck
      · rintro ⟨_, _, c', e, hc'⟩
        cases e
        rcases hc' with rfl | ⟨rfl, h0⟩
        · exact ⟨_, _, _, rfl, .inl (by simp)⟩
        · refine ⟨_, _, _, rfl, .inr ⟨by simp [unk], by omega⟩⟩

/-- The last elements of a slice of one's own are left out. -/
theorem Mem.cutHi (hM : Mem H0 H L) {j sz k : Nat} {v : Value} {es : List (List Value)} {ty e : TypeId} {ei : TI} (hj : L[j]? = some (.sl sz v es)) (hgr : Grown v) (hd : T.d ty = some (.slice e)) (he : T.T e = some ei) (hs : ei.size = sz) (hk : k ≤ es.length) {ik : IntKind} :
    ∃ u, sliceVal T H ty v none (some (.int ik (k : Nat))) none = some u ∧ Mem H0 H (L.set j (.sl sz u (es.take k))) ∧ Grown u := by
  obtain ⟨hx, S, hl, ho, hS⟩ := id hM
  obtain ⟨x, hxj, g1, g2, hcase⟩ := hS _ _ hj
  have hlt : j < L.length := (List.getElem?_eq_some_iff.1 hj).1
  subst hs
  have fin : ∀ u, Slo ei.size u (es.take k) x → Mem H0 H (L.set j (.sl ei.size u (es.take k))) := by
    intro u hu
    refine ⟨hx, S, by simp [hl], ho, ?_⟩
    intro i t1 e1
    by_cases e : j = i
    · subst e
      rw [List.getElem?_set_self hlt] at e1
      simp only [Option.some.injEq] at e1
      subst e1
      exact ⟨_, hxj, hu⟩
    · rw [List.getElem?_set_ne e] at e1
      exact hS i t1 e1
  have hall : ∀ e ∈ es.take k, e.length = ei.size := fun e he => g1 e (List.mem_of_mem_take he)
  have hlen : (es.take k).length ≤ 2 ^ 40 := by simp; omega
  have hbnd : ∀ n, k ≤ n → bnd (.int ik (k : Nat)) n = some k := by
    intro n hn
    have : (0 : Int) ≤ (k : Nat) ∧ ((k : Nat) : Int) ≤ (n : Nat) := ⟨by omega, by omega⟩
    simp only [bnd, if_pos this, Int.toNat_natCast]
  rcases hcase with ⟨rfl, a0, ha0, rfl⟩ | ⟨p, q, c, cs, rfl, rfl, h3, h4, h5⟩
  · simp only [List.length_nil, Nat.le_zero_eq] at hk
    subst hk
    have h00 : (0 : Nat) ≠ unk := by simp [unk]
    have key : ∃ a1, plainA a1 ∧ sliceVal T H ty (.slice a0 0 0) none (some (.int ik ((0 : Nat) : Int))) none = some (.slice a1 0 0) := by
      rcases ha0 with rfl | ⟨b, o, rfl⟩
      · refine ⟨none, .inl rfl, ?_⟩
        simp only [sliceVal, hd, he, Option.bind_some, h00, if_false, hbnd 0 (Nat.le_refl _), cutSlice, and_self, if_true]
      · refine ⟨some ⟨b, o, none⟩, .inr ⟨b, o, rfl⟩, ?_⟩
        simp only [sliceVal, hd, he, Option.bind_some, h00, if_false, hbnd 0 (Nat.le_refl _), cutSlice, ne_eq, not_false_eq_true, and_self, if_true]
    obtain ⟨a1, ha1, hkey⟩ := key
    exact ⟨_, hkey, fin _ ⟨hall, hlen, .inl ⟨by simp, a1, ha1, rfl⟩⟩, _, _, _, rfl, .inr ⟨rfl, rfl⟩⟩
  · have hb' := ho.get hxj
    have hsz : szAt H p = some ei.size := by simp [szAt, hb']
    have hc : c = unk := by
      obtain ⟨_, _, c', e, hc'⟩ := hgr
      cases e
      rcases hc' with rfl | ⟨rfl, h0⟩
      · rfl
      · rcases h3 with h3 | ⟨_, h3⟩
        · exact h3
        · exact absurd (List.length_eq_zero_iff.1 h0) h3
    subst hc
    have hku : k ≤ unk := by unfold unk; omega
    have h0u : ¬ (unk = 0 ∧ unk ≠ unk) := by simp
    have hle : k * ei.size ≤ es.length * ei.size := Nat.mul_le_mul_right _ hk
    refine ⟨.slice (some ⟨p, q, none⟩) k unk, ?_, fin _ ⟨hall, hlen, .inr ⟨p, q, unk, cs, rfl, by simp [Nat.min_eq_left hk], .inl rfl, by rw [List.length_take, Nat.min_eq_left hk]; omega, ?_⟩⟩, _, _, _, rfl, .inl rfl⟩
    · simp only [sliceVal, hd, he, Option.bind_some, if_true, hbnd _ hk, cutSlice, ne_eq, not_true_eq_false, and_false, if_false, hsz, Nat.zero_mul, Nat.add_zero, Nat.sub_zero]
    · have hd' : (es.take k).flatten = es.flatten.take (k * ei.size) := by
        have h6 : es.flatten = (es.take k).flatten ++ (es.drop k).flatten := by rw [← List.flatten_append, List.take_append_drop]
        have h7 : (es.take k).flatten.length = k * ei.size := by rw [flat_len hall, List.length_take, Nat.min_eq_left hk]
        rw [h6, ← h7, List.take_left]
      rw [hd', ← h5, List.take_take, Nat.min_eq_left hle, List.length_take, Nat.min_eq_left hk]

end Go.Proofs.Ytdhbclplondmjaa.C

end

section
/- Symbolic runs of a function that holds one range over a function. -/
set_option linter.unusedVariables false
set_option linter.unusedSimpArgs false
namespace Go.Proofs.Ytdhbclplondmjaa.C
open Go.RowKit
variable {T : Tab}

theorem SoundCall.big {P : Program} (hF : Fits P T) : SoundCall P (big T) where
  enter f args H r e := by obtain ⟨n, hn⟩ := big_some.1 e; exact (callC_sound hF n).enter f args H r hn
  calls f args H v H' e := by obtain ⟨n, hn⟩ := big_some.1 e; exact (callC_sound hF n).calls f args H v H' hn
  len f args H v H' e := by obtain ⟨n, hn⟩ := big_some.1 e; exact (callC_sound hF n).len f args H v H' hn

/-- Such a function, with as much fuel as it takes. -/
noncomputable def rangeB (T : Tab) (fn : Func) : List Value → Heap → Option (Value × Heap) := fun args H =>
  open Classical in if h : ∃ n, (callX T (big T) n fn args H).isSome = true then callX T (big T) (Classical.choose h) fn args H else none

theorem rangeB_ok {P : Program} (hF : Fits P T) (hmix : P.follows .mixedOrders = true) {f : FuncId} {fn : Func} (hf : P.funcs[f]? = some fn) : ExtOk P f (rangeB T fn) := by
  intro args H v H1 he
  unfold rangeB at he
  split at he
  · exact callX_ok hF (SoundCall.big hF) hmix _ hf args H v H1 he
  · simp at he

/-- From some fuel on. -/
def Ev (p : Nat → Prop) : Prop := ∃ n0, ∀ n, n0 ≤ n → p n
theorem Ev.of {p : Nat → Prop} (h : ∀ n, p n) : Ev p := ⟨0, fun n _ => h n⟩
theorem Ev.and {p q : Nat → Prop} (h : Ev p) (k : Ev q) : Ev fun n => p n ∧ q n := by
  obtain ⟨a, h⟩ := h
  obtain ⟨b, k⟩ := k
  exact ⟨max a b, fun n hn => ⟨h n (Nat.le_trans (Nat.le_max_left _ _) hn), k n (Nat.le_trans (Nat.le_max_right _ _) hn)⟩⟩
theorem Ev.mono {p q : Nat → Prop} (h : Ev p) (k : ∀ n, p n → q n) : Ev q := by
  obtain ⟨a, h⟩ := h; exact ⟨a, fun n hn => k n (h n hn)⟩
theorem Ev.succ {p : Nat → Prop} (h : Ev p) : Ev fun n => ∃ m, n = m + 1 ∧ p m := by
  obtain ⟨a, h⟩ := h
  refine ⟨a + 1, fun n hn => ⟨n - 1, by omega, h _ (by omega)⟩⟩

def RunsX (T : Tab) (c : Code) (s : List Value) (H : Heap) (N : St) (X : Nat → St) (R : St) : Prop :=
  ∃ e s1 H1, (Ev fun n => evalX T (big T) n c s H = some (e, s1, H1)) ∧ post N X R e s1 H1

section
variable {s : List Value} {H : Heap} {N : St} {X : Nat → St} {R : St}

theorem Runs.ev {c : Code} (h : Runs T c s H N X R) : ∃ e s1 H1, (Ev fun n => evalC T (big T) n c s H = some (e, s1, H1)) ∧ post N X R e s1 H1 := by
  obtain ⟨n, e, s1, H1, h1, h2⟩ := h
  exact ⟨e, s1, H1, ⟨n, fun m hm => evalC_mono (CallLe.refl _) hm h1⟩, h2⟩

theorem RunsX.seqR {a b : Code} (hr : hasRange a = false) (hk : codeChk a = true) (h : Runs T a s H (fun s1 H1 => RunsX T b s1 H1 N X R) X R) : RunsX T (.seq a b) s H N X R := by
  obtain ⟨e, s1, H1, h1, h2⟩ := h.ev
  cases e with
  | normal =>
    obtain ⟨e2, s2, H2, g1, g2⟩ := h2
    refine ⟨e2, s2, H2, (h1.and g1).mono fun n ⟨q1, q2⟩ => ?_, g2⟩
    simp only [evalX, hr, hk, Bool.false_eq_true, if_false, if_true, q1, q2]
  | exit j => exact ⟨.exit j, s1, H1, h1.mono fun n q => by simp only [evalX, hr, hk, Bool.false_eq_true, if_false, if_true, q], h2⟩
  | ret => exact ⟨.ret, s1, H1, h1.mono fun n q => by simp only [evalX, hr, hk, Bool.false_eq_true, if_false, if_true, q], h2⟩

theorem RunsX.seqL {a b : Code} (hr : hasRange a = true) (hk : codeChk b = true) (h : RunsX T a s H (fun s1 H1 => Runs T b s1 H1 N X R) X R) : RunsX T (.seq a b) s H N X R := by
  obtain ⟨e, s1, H1, h1, h2⟩ := h
  cases e with
  | normal =>
    obtain ⟨e2, s2, H2, g1, g2⟩ := Runs.ev h2
    refine ⟨e2, s2, H2, (h1.and g1).mono fun n ⟨q1, q2⟩ => ?_, g2⟩
    simp only [evalX, hr, hk, if_true, q1, q2]
  | exit j => exact ⟨.exit j, s1, H1, h1.mono fun n q => by simp only [evalX, hr, if_true, q], h2⟩
  | ret => exact ⟨.ret, s1, H1, h1.mono fun n q => by simp only [evalX, hr, if_true, q], h2⟩

theorem RunsX.block {id : Nat} {a : Code} (h : RunsX T a s H N (fun j s1 H1 => bif Nat.beq j id then N s1 H1 else X j s1 H1) R) : RunsX T (.block id a) s H N X R := by
  obtain ⟨e, s1, H1, h1, h2⟩ := h
  cases e with
  | normal => exact ⟨.normal, s1, H1, h1.mono fun n q => by simp only [evalX, q], h2⟩
  | exit j =>
    simp only [post] at h2
    by_cases e : j = id
    · rw [show Nat.beq j id = true from (by subst e; exact Nat.beq_refl _)] at h2
      exact ⟨.normal, s1, H1, h1.mono fun n q => by simp only [evalX, q]; rw [if_pos e], h2⟩
    · rw [show Nat.beq j id = false from (by cases q : Nat.beq j id with | true => exact absurd (Nat.eq_of_beq_eq_true q) e | false => rfl)] at h2
      exact ⟨.exit j, s1, H1, h1.mono fun n q => by simp only [evalX, q]; rw [if_neg e], h2⟩
  | ret => exact ⟨.ret, s1, H1, h1.mono fun n q => by simp only [evalX, q], h2⟩

/-- A range: the iterator's code calls the rounds. -/
theorem RunsX.range {g : Operand} {ps : Array Tmp} {assign body : Code} {f : FuncId} {fn : Func} {c : Code} {first cap : List Value} {H1 : Heap} (hg : ev s g = .func (.func f) first.toArray cap.toArray) (hf : T.fn f = some fn) (hb : fn.body = some c)
    (hk : (calm c && codeChk assign && calm assign && codeChk body && calm body) = true)
    (h : ∃ e s1 v, (e = .normal ∨ e = .ret) ∧ (Ev fun n => evalCY T (big T) H.length (rangeRound T (big T) n s ps assign body) n c (startC fn (first ++ [.chan (some H.length)] ++ cap)) (H ++ [.row 0 [] false false]) = some (e, s1, H1)) ∧ resultsC T fn s1 H1 = some v)
    (k : N s H1) : RunsX T (.rangeFunc g ps assign body) s H N X R := by
  obtain ⟨e, s1, v, he, h1, h2⟩ := h
  refine ⟨.normal, s, H1, h1.mono fun n q => ?_, k⟩
  have q' : evalCY T (big T) H.length (rangeRound T (big T) n s ps assign body) n c (startC fn (first.toArray.toList ++ [.chan (some H.length)] ++ cap.toArray.toList)) (H ++ [.row 0 [] false false]) = some (e, s1, H1) := q
  rcases he with rfl | rfl
  · simp only [evalX, evalRange, hg, hf, hb, hk, if_true, q', h2, Option.map_some]
  · simp only [evalX, evalRange, hg, hf, hb, hk, if_true, q', h2, Option.map_some]

/-- One round. -/
theorem round_of {assign body : Code} {ps : Array Tmp} {args : List Value} {P : Heap → Prop} (hl : args.length = ps.size)
    (h : Runs T assign (putAll s ps.toList args) H (fun s1 H1 => Runs T body s1 H1 (fun _ H2 => P H2) (fun _ _ _ => False) (fun _ _ => False)) (fun _ _ _ => False) (fun _ _ => False)) :
    ∃ H2, P H2 ∧ Ev fun n => rangeRound T (big T) n s ps assign body args H = some H2 := by
  obtain ⟨e, s1, H1, h1, h2⟩ := h.ev
  cases e with
  | normal =>
    obtain ⟨e2, s2, H2, g1, g2⟩ := Runs.ev h2
    cases e2 with
    | normal =>
      refine ⟨H2, g2, (h1.and g1).mono fun n ⟨q1, q2⟩ => ?_⟩
      unfold rangeRound
      rw [if_pos hl]
      simp only [q1, q2]
    | exit j => exact g2.elim
    | ret => exact g2.elim
  | exit j => exact h2.elim
  | ret => exact h2.elim
end

theorem runsX_call {fn : Func} {c : Code} {args : List Value} {H : Heap} {Post : Value → Heap → Prop} (hb : fn.body = some c)
    (h : RunsX T c (startC fn args) H (fun s1 H1 => ∃ v, resultsC T fn s1 H1 = some v ∧ Post v H1) (fun _ _ _ => False) (fun s1 H1 => ∃ v, resultsC T fn s1 H1 = some v ∧ Post v H1)) :
    ∃ v H1, (Ev fun n => callX T (big T) n fn args H = some (v, H1)) ∧ Post v H1 := by
  obtain ⟨e, s1, H1, h1, h2⟩ := h
  cases e with
  | normal =>
    obtain ⟨v, hv, hp⟩ := h2
    exact ⟨v, H1, h1.mono fun n q => by simp only [callX, hb, q, hv, Option.map_some], hp⟩
  | exit j => exact h2.elim
  | ret =>
    obtain ⟨v, hv, hp⟩ := h2
    exact ⟨v, H1, h1.mono fun n q => by simp only [callX, hb, q, hv, Option.map_some], hp⟩

/-! ### What a table knows more -/

variable {e : FuncId → Option (List Value → List Blk → Option (Value × List Blk))}

theorem opEval_ext (s : List Value) (H : Heap) (o : Op) : opEval { T with ext := e } s H o = opEval T s H o := rfl
theorem calleeOf_ext (s : List Value) (H : Heap) (o : Op) : calleeOf { T with ext := e } s H o = calleeOf T s H o := rfl
theorem evalOp_ext (call : CallF) (s : List Value) (H : Heap) (o : Op) : evalOp { T with ext := e } call s H o = evalOp T call s H o := by
  unfold evalOp; rw [opEval_ext, calleeOf_ext]
theorem evalOne_ext (call : CallF) (d : Bool) (ops : Array Oper) (o : Oper) (s : List Value) (H : Heap) : evalOne { T with ext := e } call d ops o s H = evalOne T call d ops o s H := by
  unfold evalOne; rw [evalOp_ext]
theorem evalIdx_ext (call : CallF) (d : Bool) (ops : Array Oper) : ∀ (is : List Nat) (s : List Value) (H : Heap), evalIdx { T with ext := e } call d ops is s H = evalIdx T call d ops is s H
  | [], _, _ => rfl
  | i :: is, s, H => by
    unfold evalIdx
    cases ops[i]? with
    | none => rfl
    | some o =>
      simp only [evalOne_ext]
      cases evalOne T call d ops o s H with
      | none => rfl
      | some r => exact evalIdx_ext call d ops is r.1 r.2
theorem evalRegion_ext (call : CallF) (ops : Array Oper) (draw : Bool) (s : List Value) (H : Heap) : evalRegion { T with ext := e } call ops draw s H = evalRegion T call ops draw s H := by
  unfold evalRegion; simp only [evalIdx_ext]
theorem evalC_ext (call : CallF) : ∀ (n : Nat) (c : Code) (s : List Value) (H : Heap), evalC { T with ext := e } call n c s H = evalC T call n c s H
  | 0, _, _, _ => rfl
  | n + 1, c, s, H => by
    unfold evalC
    have ih := evalC_ext call n
    cases c <;> simp only [evalRegion_ext, ih]
theorem resultsC_ext (fn : Func) (s : List Value) (H : Heap) : resultsC { T with ext := e } fn s H = resultsC T fn s H := rfl

/-- Where one more function is given, all runs go on. -/
theorem callC_more {g : FuncId} {eg : List Value → List Blk → Option (Value × List Blk)} (h1 : ∀ f, f ≠ g → e f = T.ext f) (h2 : e g = some eg) (hg : T.ext g = none) (h3 : ∀ n args H r, CallLe (callC T n) (big { T with ext := e }) → callC T (n + 1) g args H = some r → eg args H = some r) :
    ∀ n, CallLe (callC T n) (callC { T with ext := e } n)
  | 0 => fun f args H r h => by simp [callC] at h
  | n + 1 => fun f args H r h => by
    have ih := callC_more h1 h2 hg h3 n
    by_cases hf : f = g
    · subst hf
      have := h3 n args H r (fun f args H r h => big_some.2 ⟨n, ih f args H r h⟩) h
      simp only [callC, h2, this]
    · unfold callC at h ⊢
      have e1 : ({ T with ext := e } : Tab).ext f = T.ext f := h1 f hf
      rw [e1]
      cases hx : T.ext f with
      | some x => rw [hx] at h; exact h
      | none =>
        rw [hx] at h
        simp only at h ⊢
        cases hfn : T.fn f with
        | none => rw [hfn] at h; simp at h
        | some fn =>
          rw [hfn] at h
          simp only at h
          have hb : ∃ c, fn.body = some c := by
            cases hb : fn.body with
            | none => rw [hb] at h; simp at h
            | some c => exact ⟨c, rfl⟩
          obtain ⟨c, hb⟩ := hb
          simp only [hb] at h ⊢
          simp only [evalC_ext]
          cases hc : evalC T (callC T n) n c (startC fn args) H with
          | none => rw [hc] at h; simp at h
          | some q =>
            rw [hc] at h
            rw [evalC_mono ih (Nat.le_refl _) hc]
            exact h

/-! ### More fuel -/

def RdLe (a b : RoundF) : Prop := ∀ args H r, a args H = some r → b args H = some r

theorem evalOneY_rd {call : CallF} {b : Nat} {rd rd' : RoundF} (h : RdLe rd rd') {ops : Array Oper} {o : Oper} {s : List Value} {H : Heap} {r : List Value × Heap} (e : evalOneY T call b rd ops o s H = some r) : evalOneY T call b rd' ops o s H = some r := by
  unfold evalOneY at *
  split at e
  · split at e
    · rw [Option.map_eq_some_iff] at e ⊢
      obtain ⟨x, hx, e⟩ := e
      exact ⟨x, h _ _ _ hx, e⟩
    · exact e
  · exact e
  · simp at e
theorem evalIdxY_rd {call : CallF} {b : Nat} {rd rd' : RoundF} (h : RdLe rd rd') {ops : Array Oper} : ∀ {is : List Nat} {s : List Value} {H : Heap} {r : List Value × Heap}, evalIdxY T call b rd ops is s H = some r → evalIdxY T call b rd' ops is s H = some r
  | [], _, _, _, e => e
  | i :: is, s, H, r, e => by
    unfold evalIdxY at *
    split at e
    · simp at e
    · split at e
      · rename_i s1 H1 e1
        rw [evalOneY_rd h e1]
        exact evalIdxY_rd h e
      · simp at e
theorem evalCY_rd {call : CallF} {b : Nat} {rd rd' : RoundF} (hr : RdLe rd rd') : ∀ {n : Nat} {c : Code} {s : List Value} {H : Heap} {r : Ex × List Value × Heap}, evalCY T call b rd n c s H = some r → evalCY T call b rd' n c s H = some r
  | 0, _, _, _, _, h => by simp [evalCY] at h
  | n + 1, c, s, H, r, h => by
    unfold evalCY at *
    cases c <;> simp only at h ⊢ <;> try exact h
    · split at h
      · simp at h
      · rename_i q
        rw [if_neg q]
        rw [Option.map_eq_some_iff] at h ⊢
        obtain ⟨x, hx, h⟩ := h
        exact ⟨x, evalIdxY_rd hr hx, h⟩
    · split at h
      · rename_i s1 H1 e
        rw [evalCY_rd hr e]
        exact evalCY_rd hr h
      · rename_i x y
        rw [evalCY_rd hr h]
        split
        · rename_i s1 H1 e
          simp only [Option.some.injEq] at e
          subst e
          exact absurd h (y _ _)
        · rfl
    · split at h
      · exact evalCY_rd hr h
      · exact evalCY_rd hr h
      · simp at h
    · split at h
      · rename_i j s1 H1 e
        rw [evalCY_rd hr e]
        exact h
      · rename_i x y
        rw [evalCY_rd hr h]
        split
        · rename_i j s1 H1 e
          simp only [Option.some.injEq] at e
          subst e
          exact absurd h (y _ _ _)
        · rfl
    · split at h
      · rename_i s1 H1 e
        rw [evalCY_rd hr e]
        exact evalCY_rd hr h
      · rename_i x y
        rw [evalCY_rd hr h]
        split
        · rename_i s1 H1 e
          simp only [Option.some.injEq] at e
          subst e
          exact absurd h (y _ _)
        · rfl

theorem rangeRound_mono {call : CallF} {n m : Nat} (hnm : n ≤ m) {s : List Value} {ps : Array Tmp} {assign body : Code} : RdLe (rangeRound T call n s ps assign body) (rangeRound T call m s ps assign body) := by
  intro args H r h
  unfold rangeRound at *
  split at h
  · rename_i q
    rw [if_pos q]
    split at h
    · rename_i s1 H1 e1
      rw [evalC_mono (CallLe.refl _) hnm e1]
      simp only at h ⊢
      split at h
      · rename_i s2 H2 e2
        rw [evalC_mono (CallLe.refl _) hnm e2]
        exact h
      · simp at h
    · simp at h
  · simp at h

theorem evalRange_mono {call : CallF} {n m : Nat} (hnm : n ≤ m) {s : List Value} {H : Heap} {g : Operand} {ps : Array Tmp} {assign body : Code} {r : Heap} (h : evalRange T call n s H g ps assign body = some r) : evalRange T call m s H g ps assign body = some r := by
  unfold evalRange at h ⊢
  split at h
  · rename_i f first cap hg
    split at h
    · rename_i fn hf
      split at h
      · rename_i c hc
        split at h
        · rename_i hk
          simp only [hf, hc, hk, if_true]
          split at h
          · rename_i s1 H1 e1
            rw [evalCY_mono hnm (evalCY_rd (rangeRound_mono hnm) e1)]
            exact h
          · rename_i s1 H1 e1
            rw [evalCY_mono hnm (evalCY_rd (rangeRound_mono hnm) e1)]
            exact h
          · simp at h
        · simp at h
      · simp at h
    · simp at h
  · simp at h

theorem evalX_mono {call : CallF} {n m : Nat} (hnm : n ≤ m) : ∀ {c : Code} {s : List Value} {H : Heap} {r : Ex × List Value × Heap}, evalX T call n c s H = some r → evalX T call m c s H = some r := by
  intro c
  induction c with
  | seq a b iha ihb =>
    intro s H r h
    unfold evalX at h ⊢
    split at h
    · rename_i q
      rw [if_pos q]
      split at h
      · rename_i s1 H1 e
        rw [iha e]
        simp only
        split at h
        · rename_i q2
          rw [if_pos q2]
          exact evalC_mono (CallLe.refl _) hnm h
        · simp at h
      · rename_i x y
        rw [iha h]
        split
        · rename_i s1 H1 e
          simp only [Option.some.injEq] at e
          subst e
          exact absurd h (y _ _)
        · rfl
    · rename_i q
      rw [if_neg q]
      split at h
      · rename_i s1 H1 e
        split at e
        · rename_i q2
          rw [if_pos q2, evalC_mono (CallLe.refl _) hnm e]
          exact ihb h
        · simp at e
      · rename_i x y
        split at h
        · rename_i q2
          rw [if_pos q2, evalC_mono (CallLe.refl _) hnm h]
          rw [if_pos q2] at y
          split
          · rename_i s1 H1 e
            simp only [Option.some.injEq] at e
            subst e
            exact absurd h (y _ _)
          · rfl
        · simp at h
  | block id a iha =>
    intro s H r h
    unfold evalX at h ⊢
    split at h
    · rename_i j s1 H1 e
      rw [iha e]
      exact h
    · rename_i x y
      rw [iha h]
      split
      · rename_i j s1 H1 e
        simp only [Option.some.injEq] at e
        subst e
        exact absurd h (y _ _ _)
      · rfl
  | rangeFunc g ps assign body _ _ =>
    intro s H r h
    unfold evalX at h ⊢
    rw [Option.map_eq_some_iff] at h ⊢
    obtain ⟨x, hx, h⟩ := h
    exact ⟨x, evalRange_mono hnm hx, h⟩
  | _ => intro s H r h; simp [evalX] at h

theorem callX_mono {call : CallF} {n m : Nat} (hnm : n ≤ m) {fn : Func} {args : List Value} {H : Heap} {r : Value × Heap} (h : callX T call n fn args H = some r) : callX T call m fn args H = some r := by
  unfold callX at *
  split at h
  · split at h
    · rename_i s1 H1 e; rw [evalX_mono hnm e]; exact h
    · rename_i s1 H1 e; rw [evalX_mono hnm e]; exact h
    · simp at h
  · simp at h

theorem rangeB_some {fn : Func} {args : List Value} {H : Heap} {r : Value × Heap} {n : Nat} (h : callX T (big T) n fn args H = some r) : rangeB T fn args H = some r := by
  have hh : ∃ n, (callX T (big T) n fn args H).isSome = true := ⟨n, by rw [h]; rfl⟩
  unfold rangeB
  rw [dif_pos hh]
  obtain ⟨r', hr⟩ := Option.isSome_iff_exists.1 (Classical.choose_spec hh)
  have h1 := callX_mono (Nat.le_max_left n (Classical.choose hh)) h
  have h2 := callX_mono (Nat.le_max_right n (Classical.choose hh)) hr
  rw [h1] at h2
  rw [hr, h2]

/-- Code that evalX takes. -/
def okX : Code → Bool
  | .seq a b => if hasRange a then okX a && codeChk b else codeChk a && okX b
  | .block _ a => okX a
  | .rangeFunc .. => true
  | _ => false

theorem evalX_of_evalC {call : CallF} : ∀ {c : Code} {n : Nat} {s : List Value} {H : Heap} {r : Ex × List Value × Heap}, okX c = true → evalC T call n c s H = some r → ∃ m, evalX T call m c s H = some r := by
  intro c
  induction c with
  | seq a b iha ihb =>
    intro n s H r hk h
    cases n with
    | zero => simp [evalC] at h
    | succ n =>
      unfold okX at hk
      simp only [evalC] at h
      by_cases q : hasRange a = true
      · rw [if_pos q, Bool.and_eq_true] at hk
        split at h
        · rename_i s1 H1 e
          obtain ⟨m, hm⟩ := iha hk.1 e
          refine ⟨max m n, ?_⟩
          unfold evalX
          rw [if_pos q, evalX_mono (Nat.le_max_left m n) hm]
          simp only
          rw [if_pos hk.2]
          exact evalC_mono (CallLe.refl _) (Nat.le_max_right m n) h
        · rename_i x y
          obtain ⟨m, hm⟩ := iha hk.1 h
          refine ⟨m, ?_⟩
          unfold evalX
          rw [if_pos q, hm]
          split
          · rename_i s1 H1 e
            simp only [Option.some.injEq] at e
            subst e
            exact absurd h (y _ _)
          · rfl
      · rw [if_neg q, Bool.and_eq_true] at hk
        split at h
        · rename_i s1 H1 e
          obtain ⟨m, hm⟩ := ihb hk.2 h
          refine ⟨max n m, ?_⟩
          unfold evalX
          rw [if_neg q, if_pos hk.1, evalC_mono (CallLe.refl _) (Nat.le_max_left n m) e]
          exact evalX_mono (Nat.le_max_right n m) hm
        · rename_i x y
          refine ⟨n, ?_⟩
          unfold evalX
          rw [if_neg q, if_pos hk.1, h]
          split
          · rename_i s1 H1 e
            simp only [Option.some.injEq] at e
            subst e
            exact absurd h (y _ _)
          · rfl
  | block id a iha =>
    intro n s H r hk h
    cases n with
    | zero => simp [evalC] at h
    | succ n =>
      simp only [evalC] at h
      split at h
      · rename_i j s1 H1 e
        obtain ⟨m, hm⟩ := iha hk e
        refine ⟨m, ?_⟩
        unfold evalX
        rw [hm]
        exact h
      · rename_i x y
        obtain ⟨m, hm⟩ := iha hk h
        refine ⟨m, ?_⟩
        unfold evalX
        rw [hm]
        split
        · rename_i j s1 H1 e
          simp only [Option.some.injEq] at e
          subst e
          exact absurd h (y _ _ _)
        · rfl
  | rangeFunc g ps assign body _ _ =>
    intro n s H r hk h
    cases n with
    | zero => simp [evalC] at h
    | succ n => simp [evalC] at h
  | _ => intro n s H r hk h; simp [okX] at hk

/-- What the code of such a function comes to without the range, it comes to with it. -/
theorem rangeB_of_callC {f : FuncId} {fn : Func} {c : Code} {args : List Value} {H : Heap} {r : Value × Heap} {n : Nat} (he : T.ext f = none) (hf : T.fn f = some fn) (hb : fn.body = some c) (hk : okX c = true) (h : callC T (n + 1) f args H = some r) : rangeB T fn args H = some r := by
  unfold callC at h
  simp only [he, hf, hb] at h
  have mono : ∀ {x : Ex × List Value × Heap}, evalC T (callC T n) n c (startC fn args) H = some x → ∃ m, evalX T (big T) m c (startC fn args) H = some x := fun e =>
    evalX_of_evalC hk (evalC_mono (fun f args H r h => big_some.2 ⟨n, h⟩) (Nat.le_refl _) e)
  split at h
  · rename_i s1 H1 e
    obtain ⟨m, hm⟩ := mono e
    exact rangeB_some (n := m) (by simp only [callX, hb, hm]; exact h)
  · rename_i s1 H1 e
    obtain ⟨m, hm⟩ := mono e
    exact rangeB_some (n := m) (by simp only [callX, hb, hm]; exact h)
  · simp at h

end Go.Proofs.Ytdhbclplondmjaa.C

end

section
/- Symbolic runs of an iterator's code. -/
set_option linter.unusedVariables false
set_option linter.unusedSimpArgs false
namespace Go.Proofs.Ytdhbclplondmjaa.C
open Go.RowKit
variable {T : Tab}

def Ev2 (p : Nat → Nat → Prop) : Prop := ∃ n0, ∀ n m, n0 ≤ n → n0 ≤ m → p n m
theorem Ev2.and {p q : Nat → Nat → Prop} (h : Ev2 p) (k : Ev2 q) : Ev2 fun n m => p n m ∧ q n m := by
  obtain ⟨a, h⟩ := h
  obtain ⟨b, k⟩ := k
  exact ⟨max a b, fun n m hn hm => ⟨h n m (by omega) (by omega), k n m (by omega) (by omega)⟩⟩
theorem Ev2.up {p q : Nat → Nat → Prop} (h : Ev2 p) (k : ∀ n m, p n m → q (n + 1) m) : Ev2 q := by
  obtain ⟨a, h⟩ := h
  refine ⟨a + 1, fun n m hn hm => ?_⟩
  obtain ⟨n, rfl⟩ : ∃ x, n = x + 1 := ⟨n - 1, by omega⟩
  exact k n m (h n m (by omega) (by omega))

/-- An iterator's code, with rounds. -/
def RunsY (T : Tab) (b : Nat) (rd : Nat → RoundF) (c : Code) (s : List Value) (H : Heap) (N : St) (X : Nat → St) (R : St) : Prop :=
  ∃ e s1 H1, (Ev2 fun n m => evalCY T (big T) b (rd m) n c s H = some (e, s1, H1)) ∧ post N X R e s1 H1

section
variable {b : Nat} {rd : Nat → RoundF} {s : List Value} {H : Heap} {N : St} {X : Nat → St} {R : St}

theorem RunsY.skip (h : N s H) : RunsY T b rd .skip s H N X R := ⟨.normal, s, H, ⟨1, fun n m hn _ => by obtain ⟨n, rfl⟩ : ∃ x, n = x + 1 := ⟨n - 1, by omega⟩; rfl⟩, h⟩
theorem RunsY.exit {j : Nat} (h : X j s H) : RunsY T b rd (.exit j) s H N X R := ⟨.exit j, s, H, ⟨1, fun n m hn _ => by obtain ⟨n, rfl⟩ : ∃ x, n = x + 1 := ⟨n - 1, by omega⟩; rfl⟩, h⟩
theorem RunsY.seq {x y : Code} (h : RunsY T b rd x s H (fun s1 H1 => RunsY T b rd y s1 H1 N X R) X R) : RunsY T b rd (.seq x y) s H N X R := by
  obtain ⟨e, s1, H1, h1, h2⟩ := h
  cases e with
  | normal =>
    obtain ⟨e2, s2, H2, g1, g2⟩ := h2
    exact ⟨e2, s2, H2, (h1.and g1).up fun n m ⟨q1, q2⟩ => by simp only [evalCY, q1, q2], g2⟩
  | exit j => exact ⟨.exit j, s1, H1, h1.up fun n m q => by simp only [evalCY, q], h2⟩
  | ret => exact ⟨.ret, s1, H1, h1.up fun n m q => by simp only [evalCY, q], h2⟩
theorem RunsY.cond {c : Operand} {x y : Code} (v : Bool) (hv : ev s c = .bool v) (ht : v = true → RunsY T b rd x s H N X R) (hf : v = false → RunsY T b rd y s H N X R) : RunsY T b rd (.cond c x y) s H N X R := by
  cases v with
  | true =>
    obtain ⟨e, s1, H1, h1, h2⟩ := ht rfl
    exact ⟨e, s1, H1, h1.up fun n m q => by simp only [evalCY, hv, q], h2⟩
  | false =>
    obtain ⟨e, s1, H1, h1, h2⟩ := hf rfl
    exact ⟨e, s1, H1, h1.up fun n m q => by simp only [evalCY, hv, q], h2⟩
theorem RunsY.block {id : Nat} {x : Code} (h : RunsY T b rd x s H N (fun j s1 H1 => bif Nat.beq j id then N s1 H1 else X j s1 H1) R) : RunsY T b rd (.block id x) s H N X R := by
  obtain ⟨e, s1, H1, h1, h2⟩ := h
  cases e with
  | normal => exact ⟨.normal, s1, H1, h1.up fun n m q => by simp only [evalCY, q], h2⟩
  | exit j =>
    simp only [post] at h2
    by_cases e : j = id
    · rw [show Nat.beq j id = true from (by subst e; exact Nat.beq_refl _)] at h2
      exact ⟨.normal, s1, H1, h1.up fun n m q => by simp only [evalCY, q]; rw [if_pos e], h2⟩
    · rw [show Nat.beq j id = false from (by cases q : Nat.beq j id with | true => exact absurd (Nat.eq_of_beq_eq_true q) e | false => rfl)] at h2
      exact ⟨.exit j, s1, H1, h1.up fun n m q => by simp only [evalCY, q]; rw [if_neg e], h2⟩
  | ret => exact ⟨.ret, s1, H1, h1.up fun n m q => by simp only [evalCY, q], h2⟩
theorem RunsY.loop {x : Code} (I : Nat → St) (k : Nat) (h0 : I k s H) (step : ∀ k s H, I k s H → RunsY T b rd x s H (fun s1 H1 => ∃ k1, k1 < k ∧ I k1 s1 H1) X R) : RunsY T b rd (.loop x) s H N X R := by
  induction k using Nat.strongRecOn generalizing s H with
  | _ k ih =>
    obtain ⟨e, s1, H1, h1, h2⟩ := step k s H h0
    cases e with
    | normal =>
      obtain ⟨k1, hk, hi⟩ := h2
      obtain ⟨e2, s2, H2, g1, g2⟩ := ih k1 hk hi
      exact ⟨e2, s2, H2, (h1.and g1).up fun n m ⟨q1, q2⟩ => by simp only [evalCY, q1, q2], g2⟩
    | exit j => exact ⟨.exit j, s1, H1, h1.up fun n m q => by simp only [evalCY, q], h2⟩
    | ret => exact ⟨.ret, s1, H1, h1.up fun n m q => by simp only [evalCY, q], h2⟩

def RgY (T : Tab) (b : Nat) (rd : Nat → RoundF) (ops : Array Oper) (is : List Nat) (s : List Value) (H : Heap) (Q : St) : Prop :=
  ∃ s1 H1, (Ev fun m => evalIdxY T (big T) b (rd m) ops is s H = some (s1, H1)) ∧ Q s1 H1

theorem RunsY.region {id : Nat} {ops : Array Oper} (h : RgY T b rd ops (List.range ops.size) s H N) : RunsY T b rd (.region id ops false) s H N X R := by
  obtain ⟨s1, H1, ⟨n0, h1⟩, h2⟩ := h
  refine ⟨.normal, s1, H1, ⟨n0 + 1, fun n m hn hm => ?_⟩, h2⟩
  obtain ⟨n, rfl⟩ : ∃ x, n = x + 1 := ⟨n - 1, by omega⟩
  simp only [evalCY, Bool.false_eq_true, if_false, h1 m (by omega), Option.map_some]

variable {ops : Array Oper} {i n t : Nat} {is : List Nat} {Q : St} {a : Nat → Value} {l : List (Nat × Value)}

theorem RgY.nil (h : Q s H) : RgY T b rd ops [] s H Q := ⟨s, H, ⟨0, fun _ _ => rfl⟩, h⟩
theorem RgY.opp {o : Oper} {v : Value} (ho : ops[i]? = some o) (hg : o.guard = none) (ht : o.dst = some t) (hy : yieldArgs (mkS n a l) b o.op = none) (he : opEval T (mkS n a l) H o.op = some (v, H)) (k : RgY T b rd ops is (mkS n a ((t, v) :: l)) H Q) : RgY T b rd ops (i :: is) (mkS n a l) H Q := by
  obtain ⟨s1, H1, ⟨n0, h1⟩, h2⟩ := k
  refine ⟨s1, H1, ⟨n0, fun m hm => ?_⟩, h2⟩
  simp only [evalIdxY, ho, evalOneY, guardC, hg, hy, evalOp, he, Option.map_some, ht]
  rw [put_mkS]
  exact h1 m hm
theorem RgY.yield {o : Oper} {args : List Value} {H2 : Heap} (ho : ops[i]? = some o) (hg : o.guard = none) (ht : o.dst = some t) (hy : yieldArgs (mkS n a l) b o.op = some args) (hr : Ev fun m => rd m args H = some H2) (k : RgY T b rd ops is (mkS n a ((t, .bool true) :: l)) H2 Q) : RgY T b rd ops (i :: is) (mkS n a l) H Q := by
  obtain ⟨s1, H1, h1, h2⟩ := k
  refine ⟨s1, H1, (h1.and hr).mono fun m ⟨q1, q2⟩ => ?_, h2⟩
  simp only [evalIdxY, ho, evalOneY, guardC, hg, hy, q2, Option.map_some, ht]
  rw [put_mkS]
  exact q1
end

theorem RunsY.out {b : Nat} {rd : Nat → RoundF} {c : Code} {s : List Value} {H : Heap} {P : List Value → Heap → Prop} (h : RunsY T b rd c s H P (fun _ _ _ => False) P) :
    ∃ e s1 H1, (e = .normal ∨ e = .ret) ∧ (Ev fun n => evalCY T (big T) b (rd n) n c s H = some (e, s1, H1)) ∧ P s1 H1 := by
  obtain ⟨e, s1, H1, ⟨n0, h1⟩, h2⟩ := h
  refine ⟨e, s1, H1, ?_, ⟨n0, fun n hn => h1 n n hn hn⟩, ?_⟩
  · cases e with
    | normal => exact .inl rfl
    | exit j => exact h2.elim
    | ret => exact .inr rfl
  · cases e with
    | normal => exact h2
    | exit j => exact h2.elim
    | ret => exact h2

end Go.Proofs.Ytdhbclplondmjaa.C

end
