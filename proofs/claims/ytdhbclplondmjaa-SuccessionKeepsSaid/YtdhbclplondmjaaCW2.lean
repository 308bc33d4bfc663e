/- Memory as the symbolic runs see it: what grows, slices by their elements, slices under way. -/
import Derived.Test.YtdhbclplondmjaaCW
set_option linter.unusedVariables false
set_option linter.unusedSimpArgs false
namespace Go.Proofs.Ytdhbclplondmjaa.C
open Go.RowKit

variable {T : Tab}

/-- Only new blocks, and all of them made by the call. -/
structure Ext (H H1 : Heap) : Prop where
  len : H.length ≤ H1.length
  old : ∀ b, b < H.length → H1[b]? = H[b]?
  new : ∀ b X, H.length ≤ b → H1[b]? = some X → X.left = X

theorem Ext.refl (H : Heap) : Ext H H := ⟨Nat.le_refl _, fun _ _ => rfl, fun b X h e => by rw [List.getElem?_eq_none h] at e; simp at e⟩
theorem Ext.trans {A B C : Heap} (h : Ext A B) (k : Ext B C) : Ext A C where
  len := Nat.le_trans h.len k.len
  old b hb := (k.old b (Nat.lt_of_lt_of_le hb h.len)).trans (h.old b hb)
  new b X hb e := by
    rcases Nat.lt_or_ge b B.length with q | q
    · exact h.new b X hb ((k.old b q).symm.trans e)
    · exact k.new b X q e
theorem Ext.snoc {H H1 : Heap} (h : Ext H H1) {X : Blk} (hX : X.left = X) : Ext H (H1 ++ [X]) where
  len := by have := h.len; simp; omega
  old b hb := by rw [List.getElem?_append_left (Nat.lt_of_lt_of_le hb h.len)]; exact h.old b hb
  new b Y hb e := by
    rw [getElem?_snoc] at e
    split at e
    · simp only [Option.some.injEq] at e; subst e; exact hX
    · exact h.new b Y hb e
theorem Ext.set {H H1 : Heap} (h : Ext H H1) {X : Blk} (hX : X.left = X) {b : Nat} (hb : H.length ≤ b) : Ext H (H1.set b X) where
  len := by have := h.len; simp; omega
  old c hc := by rw [List.getElem?_set_ne (by omega)]; exact h.old c hc
  new c Y hc e := by
    by_cases q : b = c
    · subst q
      rcases Nat.lt_or_ge b H1.length with z | z
      · rw [List.getElem?_set_self z] at e; simp only [Option.some.injEq] at e; subst e; exact hX
      · rw [List.getElem?_eq_none (by simpa using z)] at e; simp at e
    · rw [List.getElem?_set_ne q] at e; exact h.new c Y hc e
theorem Ext.row {H H1 : Heap} (h : Ext H H1) (sz : Nat) (cs : List Value) : Ext H (H1 ++ [.row sz cs true true]) := h.snoc rfl

/-- What can be read in one can be read in the other. -/
def Sees (H K : Heap) : Prop := ∀ (b sz : Nat) (cs : List Value) (own : Bool), H[b]? = some (Blk.row sz cs own true) → ∃ own1, K[b]? = some (Blk.row sz cs own1 true)

theorem Sees.refl (H : Heap) : Sees H H := fun b sz cs own h => ⟨own, h⟩
theorem Sees.trans {A B C : Heap} (h : Sees A B) (k : Sees B C) : Sees A C := fun b sz cs own e => let ⟨o, q⟩ := h b sz cs own e; k b sz cs o q
theorem Ext.sees {H K : Heap} (h : Ext H K) : Sees H K := fun b sz cs own e => ⟨own, (h.old b (List.getElem?_eq_some_iff.1 e).1).trans e⟩
theorem Sees.freeze (H : Heap) : Sees H (H.map Blk.freeze) := fun b sz cs own e => ⟨false, by rw [List.getElem?_map, e]; rfl⟩
theorem Sees.thaw (H : Heap) : Sees (H.map Blk.freeze) H := by
  intro b sz cs own e
  rw [List.getElem?_map, Option.map_eq_some_iff] at e
  obtain ⟨x, hx, e⟩ := e
  cases x with
  | map es => simp [Blk.freeze] at e
  | row sz1 cs1 own1 live1 =>
    simp only [Blk.freeze, Blk.row.injEq] at e
    obtain ⟨rfl, rfl, -, rfl⟩ := e
    exact ⟨own1, hx⟩

/-- A call in a drawn region. -/
theorem quiet_some {f : FuncId} {args : List Value} {H H1 : Heap} {v : Value} (h : big T f args (H.map Blk.freeze) = some (v, H1)) (he : Ext (H.map Blk.freeze) H1) :
    ∃ K, quiet (big T) f args H = some (v, K) ∧ Ext H K ∧ (∀ b, H.length ≤ b → K[b]? = H1[b]?) ∧ Sees H1 K := by
  have hl := he.len
  simp only [List.length_map] at hl
  have hnew : ∀ b, H.length ≤ b → (H ++ (H1.drop H.length).map Blk.left)[b]? = H1[b]? := by
    intro b hb
    rw [List.getElem?_append_right hb, List.getElem?_map, List.getElem?_drop, show H.length + (b - H.length) = b by omega]
    cases e : H1[b]? with
    | none => rfl
    | some X => simp only [Option.map_some]; rw [he.new b X (by simpa using hb) e]
  have hold : ∀ b, b < H.length → (H ++ (H1.drop H.length).map Blk.left)[b]? = H[b]? := fun b hb => List.getElem?_append_left hb
  refine ⟨H ++ (H1.drop H.length).map Blk.left, by unfold quiet; rw [h]; rfl, ⟨by simp, hold, ?_⟩, hnew, ?_⟩
  · intro b X hb e
    rw [hnew b hb] at e
    exact he.new b X (by simpa using hb) e
  · intro b sz cs own e
    rcases Nat.lt_or_ge b H.length with q | q
    · rw [hold b q]
      have := he.old b (by simpa using q)
      rw [this] at e
      exact Sees.thaw H b sz cs own e
    · rw [hnew b q]; exact ⟨own, e⟩

/-! ### Reading -/

theorem readCells_sees {H K : Heap} (h : Sees H K) {b o n : Nat} {cs : List Value} (e : readCells H b o n = some cs) : readCells K b o n = some cs := by
  unfold readCells at *
  split at e
  · rename_i sz c own hb
    obtain ⟨o1, h1⟩ := h _ _ _ _ hb
    rw [h1]; exact e
  · simp at e
theorem szAt_sees {H K : Heap} (h : Sees H K) {b sz : Nat} (e : szAt H b = some sz) : szAt K b = some sz := by
  unfold szAt at *
  split at e
  · rename_i sz c own hb
    obtain ⟨o1, h1⟩ := h _ _ _ _ hb
    rw [h1]; exact e
  · simp at e

/-- From this address on lie these elements. -/
def Cells (H : Heap) (sz : Nat) (a : Option Addr) (es : List (List Value)) : Prop :=
  es = [] ∨ ∃ b o, a = some ⟨b, o, none⟩ ∧ szAt H b = some sz ∧ ∀ i e, es[i]? = some e → readCells H b (o + i * sz) sz = some e

/-- A slice and its elements. -/
def Sl (H : Heap) (sz : Nat) (v : Value) (es : List (List Value)) : Prop := ∃ a c, v = .slice a es.length c ∧ es.length ≤ c ∧ Cells H sz a es

theorem Cells.sees {H K : Heap} (h : Sees H K) {sz : Nat} {a : Option Addr} {es : List (List Value)} (e : Cells H sz a es) : Cells K sz a es := by
  rcases e with rfl | ⟨b, o, rfl, h1, h2⟩
  · exact .inl rfl
  · exact .inr ⟨b, o, rfl, szAt_sees h h1, fun i e he => readCells_sees h (h2 i e he)⟩
theorem Sl.sees {H K : Heap} (h : Sees H K) {sz : Nat} {v : Value} {es : List (List Value)} (e : Sl H sz v es) : Sl K sz v es := by
  obtain ⟨a, c, rfl, hc, h1⟩ := e
  exact ⟨a, c, rfl, hc, h1.sees h⟩
theorem Sl.nil (H : Heap) (sz : Nat) : Sl H sz (.slice none 0 0) [] := ⟨none, 0, rfl, Nat.le_refl _, .inl rfl⟩

theorem Cells.lt {H : Heap} {sz : Nat} {a : Option Addr} {es : List (List Value)} (h : Cells H sz a es) {i : Nat} (hi : i < es.length) :
    ∃ b o, a = some ⟨b, o, none⟩ ∧ szAt H b = some sz ∧ ∀ i e, es[i]? = some e → readCells H b (o + i * sz) sz = some e := by
  rcases h with rfl | h
  · simp at hi
  · exact h

/-- A row of cells holds elements of a size. -/
theorem flat_get {es : List (List Value)} {sz : Nat} (hs : ∀ e ∈ es, e.length = sz) : ∀ {i : Nat} {e : List Value}, es[i]? = some e → i * sz + sz ≤ es.flatten.length ∧ (es.flatten.drop (i * sz)).take sz = e := by
  induction es with
  | nil => intro i e h; simp at h
  | cons x es ih =>
    intro i e h
    have hx := hs x List.mem_cons_self
    cases i with
    | zero =>
      simp at h; subst h
      refine ⟨by simp; omega, ?_⟩
      simp [← hx]
    | succ i =>
      obtain ⟨h1, h2⟩ := ih (fun e he => hs e (List.mem_cons_of_mem _ he)) (i := i) (e := e) (by simpa using h)
      refine ⟨by rw [List.flatten_cons, List.length_append, Nat.succ_mul]; omega, ?_⟩
      rw [List.flatten_cons, Nat.succ_mul, List.drop_append, List.drop_of_length_le (by omega), hx, show i * sz + sz - sz = i * sz by omega]
      simpa using h2
theorem flat_len {es : List (List Value)} {sz : Nat} (hs : ∀ e ∈ es, e.length = sz) : es.flatten.length = es.length * sz := by
  induction es with
  | nil => simp
  | cons x es ih =>
    have hx := hs x List.mem_cons_self
    simp [ih (fun e he => hs e (List.mem_cons_of_mem _ he)), Nat.succ_mul, hx]; omega

theorem Cells.row {H : Heap} {b sz : Nat} {own : Bool} {es : List (List Value)} (hs : ∀ e ∈ es, e.length = sz) (h : H[b]? = some (.row sz es.flatten own true)) : Cells H sz (some ⟨b, 0, none⟩) es := by
  refine .inr ⟨b, 0, rfl, by simp [szAt, h], fun i e he => ?_⟩
  obtain ⟨h1, h2⟩ := flat_get hs he
  simp only [readCells, h, Nat.zero_add, if_pos h1, h2]

/-- Elements in cells that lie together. -/
theorem Cells.all {H : Heap} {sz : Nat} {b o : Nat} : ∀ {es : List (List Value)}, (∀ e ∈ es, e.length = sz) → (∀ i e, es[i]? = some e → readCells H b (o + i * sz) sz = some e) → es ≠ [] → readCells H b o (es.length * sz) = some es.flatten := by
  intro es hs hr hne
  have hlast := hr (es.length - 1) (es.getLast hne) (by rw [List.getLast_eq_getElem]; exact List.getElem?_eq_getElem _)
  unfold readCells at hlast ⊢
  split at hlast
  · rename_i sz1 cs own hb
    have hpos : 0 < es.length := List.length_pos_iff.2 hne
    have hle : o + es.length * sz ≤ cs.length := by
      split at hlast
      · rename_i q
        have : (es.length - 1) * sz + sz = es.length * sz := by rw [← Nat.succ_mul]; congr 1; omega
        omega
      · simp at hlast
    simp only [hle, if_true, Option.some.injEq]
    clear hlast hne
    have hr' : ∀ i e, es[i]? = some e → (cs.drop (o + i * sz)).take sz = e := by
      intro i e he
      have := hr i e he
      unfold readCells at this
      rw [hb] at this
      simp only at this
      split at this
      · simpa using this
      · simp at this
    clear hr hb hpos
    induction es generalizing o with
    | nil => simp
    | cons x es ih =>
      have h0 := hr' 0 x rfl
      have hx := hs x List.mem_cons_self
      have := ih (o := o + sz) (fun e he => hs e (List.mem_cons_of_mem _ he)) (by simp [Nat.succ_mul] at hle; omega) (fun i e he => by have := hr' (i + 1) e (by simpa using he); rw [Nat.succ_mul] at this; rw [← this]; congr 2; omega)
      rw [List.flatten_cons, List.length_cons, Nat.succ_mul, Nat.add_comm (es.length * sz), List.take_add]
      simp only [Nat.zero_mul, Nat.add_zero] at h0
      rw [h0, List.drop_drop, this]
  · simp at hlast

/-- What an append takes from a slice. -/
theorem Cells.src {H : Heap} {sz : Nat} {a : Option Addr} {es : List (List Value)} (h : Cells H sz a es) (hs : ∀ e ∈ es, e.length = sz) : (a = none ∨ ∃ b o, a = some ⟨b, o, none⟩) → srcCells H a es.length sz = some es.flatten := by
  intro ha
  rcases h with rfl | ⟨b, o, rfl, h1, h2⟩
  · rcases ha with rfl | ⟨b, o, rfl⟩ <;> simp [srcCells]
  · by_cases hne : es = []
    · subst hne; simp [srcCells]
    · have : es.length ≠ 0 := by simpa using hne
      simp only [srcCells, this, if_false]
      exact Cells.all hs h2 hne

/-! ### Slices under way -/

/-- A slice that is being appended to: no block yet, or block p, of which the call is the only owner. -/
def Acc (H : Heap) (lo sz : Nat) (v : Value) (es : List (List Value)) (p : Nat) : Prop :=
  (∀ e ∈ es, e.length = sz) ∧ ((es = [] ∧ v = .slice none 0 0) ∨ (v = .slice (some ⟨p, 0, none⟩) es.length unk ∧ lo ≤ p ∧ H[p]? = some (.row sz es.flatten true true)))

theorem Acc.nil (H : Heap) (lo sz p : Nat) : Acc H lo sz (.slice none 0 0) [] p := ⟨by simp, .inl ⟨rfl, rfl⟩⟩

theorem Acc.sl {H : Heap} {lo sz p : Nat} {v : Value} {es : List (List Value)} (h : Acc H lo sz v es p) (hl : es.length ≤ unk) : Sl H sz v es := by
  obtain ⟨hs, ⟨rfl, rfl⟩ | ⟨rfl, h1, h2⟩⟩ := h
  · exact Sl.nil _ _
  · exact ⟨_, _, rfl, hl, Cells.row hs h2⟩

theorem Acc.keep {H K : Heap} {lo sz p : Nat} {v : Value} {es : List (List Value)} (h : Acc H lo sz v es p) (hk : ∀ b X, H[b]? = some X → b = p → K[b]? = some X) : Acc K lo sz v es p := by
  obtain ⟨hs, ⟨rfl, rfl⟩ | ⟨rfl, h1, h2⟩⟩ := h
  · exact Acc.nil _ _ _ _
  · exact ⟨hs, .inr ⟨rfl, h1, hk p _ h2 rfl⟩⟩

/-- The types that an append is about. -/
structure SliceTy (T : Tab) (t e : TypeId) (i ei : TI) : Prop where
  t : T.T t = some i
  d : i.desc = .slice e
  e : T.T e = some ei
  pos : 0 < ei.size ∧ 0 < ei.bytes

/-- What an append changes. -/
structure Grow (lo p p1 : Nat) (H H1 : Heap) : Prop where
  ext : ∀ H0 : Heap, H0.length = lo → Ext H0 H → Ext H0 H1
  same : ∀ b, b < H.length → b < lo ∨ b ≠ p → H1[b]? = H[b]?
  len : H.length ≤ H1.length
  at_ : p1 = p ∨ H.length ≤ p1

theorem push_app {H : Heap} {t e : TypeId} {i ei : TI} (ty : SliceTy T t e i ei) {lo p : Nat} {v : Value} {es xs : List (List Value)} {a2 : Option Addr} {c2 : Nat} (h : Acc H lo ei.size v es p)
    (hsrc : srcCells H a2 xs.length ei.size = some xs.flatten) (hx : ∀ e ∈ xs, e.length = ei.size ∧ e.all oneCell = true) (hb : (es.length + xs.length) * ei.bytes ≤ 2 ^ 40) (hn : es.length + xs.length ≤ 2 ^ 40) (hlo : lo ≤ H.length) :
    ∃ v1 H1 p1, vAppend T H t v (.slice a2 xs.length c2) = some (v1, H1) ∧ Acc H1 lo ei.size v1 (es ++ xs) p1 ∧ Grow lo p p1 H H1 := by
  obtain ⟨hs, hv⟩ := h
  have hone : xs.flatten.all oneCell = true := by
    simp only [List.all_eq_true, List.mem_flatten]
    rintro v ⟨l, hl, hv⟩
    exact List.all_eq_true.1 (hx l hl).2 v hv
  have hall : ∀ e ∈ es ++ xs, e.length = ei.size := by
    intro e he
    rcases List.mem_append.1 he with q | q
    · exact hs e q
    · exact (hx e q).1
  rcases hv with ⟨rfl, rfl⟩ | ⟨rfl, h1, h2⟩
  · unfold vAppend
    simp only [ty.t, ty.d, ty.e, Option.bind_eq_bind, Option.bind_some, List.length_nil, Nat.zero_add] at hb hn ⊢
    have hc : 0 < ei.size ∧ 0 < ei.bytes ∧ xs.length * ei.bytes ≤ 2 ^ 40 ∧ xs.length ≤ 2 ^ 40 := ⟨ty.pos.1, ty.pos.2, hb, hn⟩
    simp only [if_pos hc, hsrc, Option.bind_some, hone, if_true, and_self]
    by_cases hx0 : xs = []
    · subst hx0
      exact ⟨_, _, p, rfl, Acc.nil _ _ _ _, fun _ _ h => h, fun b _ _ => rfl, Nat.le_refl _, .inl rfl⟩
    · have hx1 : xs.length ≠ 0 := by simpa using hx0
      simp only [if_neg hx1]
      exact ⟨.slice (some ⟨H.length, 0, none⟩) xs.length unk, _, H.length, rfl, ⟨hall, .inr ⟨by simp, hlo, by simp⟩⟩, fun _ _ h => h.row _ _, fun b hb _ => List.getElem?_append_left hb, by simp, .inr (Nat.le_refl _)⟩
  · have hlt : p < H.length := (List.getElem?_eq_some_iff.1 h2).1
    unfold vAppend
    simp only [ty.t, ty.d, ty.e, Option.bind_eq_bind, Option.bind_some]
    have hc : 0 < ei.size ∧ 0 < ei.bytes ∧ (es.length + xs.length) * ei.bytes ≤ 2 ^ 40 ∧ es.length + xs.length ≤ 2 ^ 40 := ⟨ty.pos.1, ty.pos.2, hb, hn⟩
    have hu : ¬ (es.length = 0 ∧ unk = 0) := by simp [unk]
    have hfl := flat_len hs
    have hle : 0 + es.length * ei.size ≤ es.flatten.length := by rw [hfl]; omega
    simp only [if_pos hc, hsrc, Option.bind_some, hone, if_true, if_neg hu, h2, true_and, hle]
    refine ⟨.slice (some ⟨H.length, 0, none⟩) (es.length + xs.length) unk, _, H.length, rfl, ⟨hall, .inr ⟨by simp, hlo, ?_⟩⟩, ?_, ?_, by simp, .inr (Nat.le_refl _)⟩
    · rw [getElem?_snoc, if_pos (by simp)]
      simp only [List.drop_zero, ← hfl, List.take_length, List.flatten_append]
    · intro H0 hl h
      exact Ext.row (Ext.set h (X := .row ei.size es.flatten true false) rfl (by omega)) _ _
    · intro b hb hne
      have : p ≠ b := by rcases hne with q | q <;> omega
      rw [List.getElem?_append_left (by simpa using hb), List.getElem?_set_ne this]

end Go.Proofs.Ytdhbclplondmjaa.C
