/- The program's units. -/
import Derived.Test.YtdhbclplondmjaaWc
set_option linter.unusedVariables false
set_option maxRecDepth 100000
namespace Go.Proofs.Ytdhbclplondmjaa.C
open Go.RowKit Go.Sort

theorem setCells_all : ∀ (zs vs pre : List Value), zs.length = vs.length → setCells (pre ++ zs) pre.length vs = pre ++ vs
  | zs, [], pre, h => by
    have : zs = [] := List.length_eq_zero_iff.1 (by simpa using h)
    subst this; simp [setCells]
  | [], v :: vs, pre, h => by simp at h
  | z :: zs, v :: vs, pre, h => by
    unfold setCells
    have := setCells_all zs vs (pre ++ [v]) (by simpa using h)
    simp only [List.append_assoc, List.singleton_append, List.length_append, List.length_singleton] at this
    rw [show (pre ++ z :: zs).set pre.length v = pre ++ v :: zs by simp]
    exact this
theorem setCells_whole {zs vs : List Value} (h : zs.length = vs.length) : setCells zs 0 vs = vs := by
  simpa using setCells_all zs vs [] h

theorem setCells_pre : ∀ (vs zs : List Value) (k : Nat), vs.length = k → k ≤ zs.length → setCells zs 0 vs = vs ++ zs.drop k
  | vs, zs, k, h, hk => by
    have := setCells_all (zs.take k) vs [] (by simp; omega)
    have key : ∀ (vs a b : List Value) (o : Nat), o + vs.length ≤ a.length → setCells (a ++ b) o vs = setCells a o vs ++ b := by
      intro vs
      induction vs with
      | nil => intro a b o _; rfl
      | cons v vs ih =>
        intro a b o ho
        simp only [List.length_cons] at ho
        unfold setCells
        rw [List.set_append_left _ _ (by omega)]
        exact ih _ _ _ (by simp; omega)
    have h2 := key vs (zs.take k) (zs.drop k) 0 (by simp; omega)
    rw [List.take_append_drop] at h2
    rw [h2, setCells_whole (by simp; omega)]

theorem write_whole {H : Heap} {b sz : Nat} {zs vs : List Value} (h : H[b]? = some (.row sz zs true true)) (hl : zs.length = vs.length) (ho : vs.all oneCell = true) : writeCells H b 0 vs = some (H.set b (.row sz vs true true)) := by
  have : 0 + vs.length ≤ zs.length := by omega
  simp only [writeCells, ho, if_true, h, if_pos this, setCells_whole hl]

/-- A variable that has just been laid is set. -/
theorem ev_set {T : Tab} {s : List Value} {K : Heap} {t : TypeId} {a v : Operand} {i : TI} {sz : Nat} {zs cs : List Value} (ha : ev s a = .pointer (some ⟨K.length, 0, none⟩)) (hv : ev s v = .agg cs.toArray) (hT : T.T t = some i) (hl : zs.length = cs.length) (hi : cs.length = i.size) (ho : cs.all oneCell = true) :
    opEval T s (K ++ [.row sz zs true true]) (.store t a v) = some (undef, K ++ [.row sz cs true true]) := by
  have hb : (K ++ [Blk.row sz zs true true])[K.length]? = some (.row sz zs true true) := List.getElem?_concat_length
  have hw := write_whole hb hl ho
  have hs : (K ++ [Blk.row sz zs true true]).set K.length (Blk.row sz cs true true) = K ++ [Blk.row sz cs true true] := by simp
  rw [hs] at hw
  have h3 : (cellsOf (Value.agg cs.toArray)).length = i.size := by simpa [cellsOf] using hi
  simp only [opEval, vStore, hT, ha, hv, Option.bind_eq_bind, Option.bind_some, if_pos h3]
  simp only [cellsOf, List.toList_toArray, hw, Option.map_some]

theorem read_last {K : Heap} {sz j : Nat} {cs : List Value} {v : Value} (h : cs[j]? = some v) : readCells (K ++ [.row sz cs true true]) K.length (0 + j) 1 = some [v] := by
  have hb : (K ++ [Blk.row sz cs true true])[K.length]? = some (.row sz cs true true) := List.getElem?_concat_length
  have hr : readCells (K ++ [.row sz cs true true]) K.length 0 cs.length = some cs := by
    simp only [readCells, hb]
    rw [if_pos (by omega)]
    simp
  exact read_one hr h

theorem strs_flat (xs : List Nm) : (strs xs).flatten = xs.map encStr := by
  induction xs with
  | nil => rfl
  | cons x xs ih =>
    show [str x] ++ (strs xs).flatten = _
    rw [ih]; rfl

theorem strsC_strs : ∀ xs : List Nm, strsC (xs.map encStr) = some xs
  | [] => rfl
  | x :: xs => by
    show (strsC (xs.map encStr)).map (fun r => (ByteArray.mk x.toArray).data.toList :: r) = _
    rw [strsC_strs xs]
    simp

theorem enc_one (xs : List Nm) : (xs.map encStr).all oneCell = true := by
  simp only [List.all_map, List.all_eq_true]
  intro x _
  rfl

theorem onStrs_is {H : Heap} {p sz : Nat} {xs ys : List Nm} {g : List Nm → List Nm} (h : H[p]? = some (.row sz (strs xs).flatten true true)) (hg : (g xs).length = xs.length) : onStrs g H p 0 xs.length = some (xs, H.set p (.row sz (strs (g xs)).flatten true true)) := by
  have hl : (strs xs).flatten.length = xs.length := by rw [strs_flat]; simp
  have hr : readCells H p 0 xs.length = some (strs xs).flatten := by
    simp only [readCells, h]
    rw [if_pos (by omega), ← hl, List.drop_zero, List.take_length]
  have hw := write_whole (vs := (g xs).map encStr) h (by rw [hl]; simp [hg]) (enc_one _)
  unfold onStrs
  simp only [h, hr, Option.bind_some]
  rw [strs_flat, strsC_strs]
  simp only [Option.bind_some, hw, Option.map_some, strs_flat]

abbrev sortNm (xs : List Nm) : List Nm := xs.mergeSort fun x y => decide (x ≤ y)

theorem sort_acc {H : Heap} {lo p : Nat} {w : Value} {xs : List Nm} (h : Acc H lo 1 w (strs xs) p) (hn : xs.length < 2 ^ 40) :
    ∃ H1, sortX [w] H = some (.tuple #[], H1) ∧ Acc H1 lo 1 w (strs (sortNm xs)) p ∧ (∀ H0 : Heap, H0.length = lo → Ext H0 H → Ext H0 H1) := by
  obtain ⟨hs, ⟨hnil, rfl⟩ | ⟨rfl, h1, h2⟩⟩ := h
  · have : xs = [] := by simpa [strs] using hnil
    subst this
    have e : sortNm [] = [] := by simp [sortNm]
    rw [e]
    exact ⟨H, rfl, ⟨by simp [strs], .inl ⟨rfl, rfl⟩⟩, fun _ _ h => h⟩
  · by_cases h0 : xs = []
    · subst h0
      have e : sortNm [] = [] := by simp [sortNm]
      rw [e]
      exact ⟨H, rfl, ⟨by simp [strs], .inr ⟨rfl, h1, h2⟩⟩, fun _ _ h => h⟩
    · have hl : (sortNm xs).length = xs.length := List.length_mergeSort _
      have hne : xs.length ≠ 0 := by simpa using h0
      have hon := onStrs_is (ys := xs) (g := sortNm) h2 hl
      have hlt := (List.getElem?_eq_some_iff.1 h2).1
      refine ⟨H.set p (.row 1 (strs (sortNm xs)).flatten true true), ?_, ⟨by simp [strs], .inr ⟨by simp only [strs_len, hl], h1, by simp [hlt]⟩⟩, fun H0 hl0 he => he.set rfl (by omega)⟩
      unfold sortX
      simp only [strs_len, hne, if_false]
      rw [if_neg (by omega), hon]
      rfl

theorem compact_acc {H : Heap} {lo p : Nat} {w : Value} {xs : List Nm} (h : Acc H lo 1 w (strs xs) p) (hn : xs.length < 2 ^ 40) :
    ∃ r H1, compactX [w] H = some (r, H1) ∧ Sl H1 1 r (strs (Lib.compact xs)) ∧ (∀ H0 : Heap, H0.length = lo → Ext H0 H → Ext H0 H1) := by
  obtain ⟨hs, ⟨hnil, rfl⟩ | ⟨rfl, h1, h2⟩⟩ := h
  · have : xs = [] := by simpa [strs] using hnil
    subst this
    exact ⟨_, H, rfl, Sl.nil _ _, fun _ _ h => h⟩
  · by_cases h0 : xs = []
    · subst h0
      exact ⟨_, H, rfl, ⟨_, _, rfl, Nat.zero_le _, .inl rfl⟩, fun _ _ h => h⟩
    · have hne : xs.length ≠ 0 := by simpa using h0
      have hle := Lib.compact_length_le xs
      have hl : (Lib.compact xs ++ List.replicate (xs.length - (Lib.compact xs).length) ([] : Nm)).length = xs.length := by simp; omega
      have hon := onStrs_is (ys := xs) (g := fun ss => Lib.compact ss ++ List.replicate (ss.length - (Lib.compact ss).length) []) h2 hl
      have hlt := (List.getElem?_eq_some_iff.1 h2).1
      refine ⟨.slice (some ⟨p, 0, none⟩) (Lib.compact xs).length unk, H.set p (.row 1 (strs (Lib.compact xs ++ List.replicate (xs.length - (Lib.compact xs).length) ([] : Nm))).flatten true true), ?_, ⟨some ⟨p, 0, none⟩, unk, by simp [strs], by simp [strs, unk]; omega, ?_⟩, fun H0 hl0 he => he.set rfl (by omega)⟩
      · unfold compactX
        simp only [strs_len, hne, if_false]
        rw [if_neg (by omega), hon]
        rfl
      · have hb : (H.set p (.row 1 (strs (Lib.compact xs ++ List.replicate (xs.length - (Lib.compact xs).length) ([] : Nm))).flatten true true))[p]? = some (.row 1 (strs (Lib.compact xs ++ List.replicate (xs.length - (Lib.compact xs).length) ([] : Nm))).flatten true true) := by simp [hlt]
        have hc := Cells.row (sz := 1) (own := true) (strs_sz _) hb
        rcases hc with hc | ⟨b, o, e1, e2, e3⟩
        · have : (strs (Lib.compact xs ++ List.replicate (xs.length - (Lib.compact xs).length) ([] : Nm))).length = 0 := by rw [hc]; rfl
          rw [strs_len, hl] at this
          omega
        · refine .inr ⟨b, o, e1, e2, fun i e he => e3 i e ?_⟩
          have hi := (List.getElem?_eq_some_iff.1 he).1
          simp only [strs, List.map_append] at he ⊢
          rw [List.getElem?_append_left (by simpa [strs] using hi)]
          exact he

end Go.Proofs.Ytdhbclplondmjaa.C
