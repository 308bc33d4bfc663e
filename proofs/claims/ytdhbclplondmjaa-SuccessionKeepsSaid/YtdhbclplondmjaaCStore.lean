/- Stores, slices made. -/
import Derived.Test.YtdhbclplondmjaaCBlock
set_option linter.unusedVariables false
set_option linter.unusedSimpArgs false
namespace Go.Proofs.Ytdhbclplondmjaa.C
open Go.RowKit

variable {P : Program} {T : Tab} {μ : Mu} {base : Nat} {F : Nat → Prop} {H : Heap} {w : World}

theorem HR.stores : ∀ {vs vs' : List Value}, VRs μ vs vs' → ∀ {H : Heap} {w : World} {b sz : Nat} {cs : List Value} {l : Loc} (o : Nat), HR base F μ H w → H[b]? = some (.row sz cs true true) → μ b = some l →
    o + vs.length ≤ cs.length → HR base F μ (H.set b (.row sz (setCells cs o vs) true true)) (w.setCells l.blk (l.sh + o) vs')
  | _, _, .nil, H, w, b, sz, cs, l, o, h, hb, hl, hle => by
    simp only [setCells, World.setCells]
    have : H.set b (.row sz cs true true) = H := by
      apply List.ext_getElem?
      intro i
      rw [List.getElem?_set]
      split
      · rename_i e; subst e; split
        · exact hb.symm
        · rename_i hn; rw [List.getElem?_eq_none (by omega)]
      · rfl
    rw [this]
    exact h
  | _, _, .cons hv ht, H, w, b, sz, cs, l, o, h, hb, hl, hle => by
    rename_i v v' vs vs'
    simp only [List.length_cons] at hle
    have h1 := h.store hb hl o (by omega) hv
    have hblt : b < H.length := (List.getElem?_eq_some_iff.1 hb).1
    have h2 := HR.stores ht (H := H.set b (.row sz (cs.set o v) true true)) (b := b) (sz := sz) (cs := cs.set o v) (l := l) (o + 1) h1 (by simp [hblt]) hl (by simp; omega)
    simp only [setCells, World.setCells]
    rw [List.set_set] at h2
    rw [Nat.add_assoc]
    exact h2

theorem Fr.setCells {b : Nat} (hb : base ≤ b) (hf : ¬ F b) : ∀ (vs : List Value) (o : Nat) (w : World), Fr base F w (w.setCells b o vs)
  | [], _, _ => Fr.refl _ _ _
  | v :: vs, o, w => (Fr.setCell (w := w) ⟨b, o, none⟩ v hb hf).trans (Fr.setCells hb hf vs (o + 1) _)

theorem VRs.one : ∀ {vs vs' : List Value}, VRs μ vs vs' → vs.all oneCell = true → ∀ v ∈ vs', v.oneCell' = true
  | _, _, .nil, _, v, h => by simp at h
  | _, _, .cons hv ht, h, v, hm => by
    simp only [List.all_cons, Bool.and_eq_true] at h
    rcases List.mem_cons.1 hm with rfl | hm
    · exact hv.one h.1
    · exact VRs.one ht h.2 v hm

theorem writeCells_ok (h : HR base F μ H w) {b o : Nat} {vs vs' : List Value} {H' : Heap} {l : Loc} (hl : μ b = some l) (hvs : VRs μ vs vs') (hw : writeCells H b o vs = some H') :
    ∃ sz cs, H[b]? = some (.row sz cs true true) ∧ H'.length = H.length ∧ (storeCells ⟨l.blk, l.sh + o, none⟩ vs').run P w = .ok () (w.setCells l.blk (l.sh + o) vs') ∧ HR base F μ H' (w.setCells l.blk (l.sh + o) vs') ∧
      Fr base F w (w.setCells l.blk (l.sh + o) vs') := by
  unfold writeCells at hw
  split at hw
  · rename_i hone
    split at hw
    · rename_i sz cs heq
      split at hw <;> simp at hw
      subst hw
      rename_i hle
      obtain ⟨g1, g2, g3, arr, e, fr, a1, a2, a3, a4⟩ := h.own b sz cs l heq hl
      have hlen := hvs.length
      have hcell : ∀ j, j < vs'.length → ∃ v, arr[l.sh + (o + j)]? = some v := fun j hj => by
        obtain ⟨v', x, _⟩ := a4 (o + j) (cs[o + j]'(by omega)) (List.getElem?_eq_getElem (by omega))
        exact ⟨v', x⟩
      refine ⟨sz, cs, heq, by simp, ?_, h.stores hvs o heq hl hle, Fr.setCells g2 g3 _ _ _⟩
      have := run_storeCells_cells (P := P) l.blk (l.sh + o) vs' 0 w (fun j hj => ?_) (fun j hj => ?_) (hvs.one hone)
      · simpa using this
      · obtain ⟨v, hv⟩ := hcell j hj
        simp [World.cell?, a1, show l.sh + o + j = l.sh + (o + j) by omega, hv]
      · obtain ⟨v, hv⟩ := hcell j hj
        have hlt := (Array.getElem?_eq_some_iff.1 hv).1
        have hn := a3 _ hlt
        simp only [World.frozen?, a1, Nat.add_zero, show l.sh + o + j = l.sh + (o + j) by omega, Bool.and_eq_false_iff, decide_eq_false_iff_not]
        by_cases q : fr.1 ≤ l.sh + (o + j)
        · exact .inr fun r => hn ⟨q, r⟩
        · exact .inl q
    · simp at hw
  · simp at hw

theorem vStore_ok (ag : Agree P T) (h : HR base F μ H w) {t : TypeId} {a a' v v' : Value} {H' : Heap} (ha : VR μ a a') (hv : VR μ v v') (hs : vStore T H t a v = some H') :
    H'.length = H.length ∧ Step base F μ H H' w ((Instr.storeAt t a' v').run P w) fun _ _ => True := by
  unfold vStore at hs
  simp only [Option.bind_eq_bind, Option.bind_eq_some_iff] at hs
  obtain ⟨i, hi, hs⟩ := hs
  have ok := ag.ty t i hi
  split at hs
  · rename_i b o
    split at hs
    · rename_i hlen
      cases ha
      rename_i l hl
      have hone : (cellsOf v).all oneCell = true := by unfold writeCells at hs; split at hs <;> first | assumption | simp at hs
      have hnt : v ≠ Go.undef := by rintro rfl; simp [cellsOf, oneCell, Go.undef] at hone
      have hc := hv.cells hnt
      obtain ⟨sz, cs, heq, hlen2, hrun, hr, hfr⟩ := writeCells_ok (P := P) h hl hc hs
      refine ⟨hlen2, (), _, μ, ?_, MuLe.refl _, fun _ _ => rfl, hr, hfr, trivial⟩
      have hsz : v'.cells.size = i.size := by rw [← hlen, ← hc.length, ← cellsOf_cells]; simp
      simp [Instr.storeAt, Instr.sureAddr, storeVar, ok.sizeOf w, hsz, cellsOf_cells, hrun]
    · simp at hs
  · simp at hs

theorem repCells_length (z : List Value) : ∀ n, (repCells z n).length = n * z.length
  | 0 => by simp [repCells]
  | n + 1 => by simp [repCells, repCells_length z n, Nat.add_mul]; omega

theorem repCells_get (z : List Value) : ∀ (n i : Nat), i < n * z.length → (repCells z n)[i]? = z[i % z.length]?
  | 0, i, h => by simp at h
  | n + 1, i, h => by
    simp only [repCells]
    by_cases hi : i < z.length
    · rw [List.getElem?_append_left hi, Nat.mod_eq_of_lt hi]
    · rw [List.getElem?_append_right (by omega), repCells_get z n _ (by rw [Nat.add_mul] at h; omega)]
      congr 1
      rw [← Nat.mod_eq_sub_mod (by omega)]

theorem rangeMap_rep (z : List Value) (m : Nat) : (Array.range (m * z.length)).map (fun i => (z[i % z.length]?).getD default) = (repCells z m).toArray := by
  apply Array.ext'
  apply List.ext_getElem?
  intro i
  by_cases hi : i < m * z.length
  · rw [show (repCells z m).toArray.toList = repCells z m from rfl, repCells_get z m i hi]
    have hz : 0 < z.length := by
      rcases Nat.eq_zero_or_pos z.length with h | h
      · rw [h] at hi; simp at hi
      · exact h
    have hmod : i % z.length < z.length := Nat.mod_lt _ hz
    simp [hi, hmod]
  · rw [List.getElem?_eq_none (by simp; omega), List.getElem?_eq_none (by simp [repCells_length]; omega)]

theorem range_zero : (Array.range 0).map (fun _ => (default : Value)) = #[] := by
  apply Array.ext'; simp

theorem VRs.rep {z z' : List Value} (h : VRs μ z z') : ∀ n, VRs μ (repCells z n) (repCells z' n)
  | 0 => .nil
  | n + 1 => h.append (VRs.rep h n)

theorem vBuildSlice_ok (ag : Agree P T) (h : HR base F μ H w) (hfree : μ H.length = none) {t : TypeId} {n : Nat} {parts parts' : List (Nat × Value)} {x : Value} {H' : Heap} (hb : vBuildSlice T H t n parts = some (x, H'))
    (h1 : parts'.map (·.1) = parts.map (·.1)) (h2 : VRs μ (parts.map (·.2)) (parts'.map (·.2))) : Step base F μ H H' w ((Instr.buildSlice t n parts'.toArray).run P w) fun ν a => VR ν x a := by
  unfold vBuildSlice at hb
  simp only [Option.bind_eq_bind, Option.bind_eq_some_iff] at hb
  obtain ⟨i, hi, hb⟩ := hb
  have ok := ag.ty t i hi
  obtain ⟨d, hd, hu⟩ := ok.und
  split at hb
  · rename_i el hdesc
    simp only [Option.bind_eq_some_iff] at hb
    obtain ⟨ei, hei, hb⟩ := hb
    split at hb
    · simp at hb
    · rename_i hbig
      simp only [Option.bind_eq_some_iff] at hb
      obtain ⟨cs, hcs, hb⟩ := hb
      simp only [Option.some.injEq, Prod.mk.injEq] at hb
      obtain ⟨rfl, rfl⟩ := hb
      rw [hdesc] at hu
      simp only [DescOk] at hu
      subst hu
      have oke := ag.ty el ei hei
      have hz : VRs μ (cellsOf ei.zero) (cellsOf ei.zero) := VRs.refl_of fun u hu => plain_vr μ (oke.plains u hu)
      obtain ⟨cs', hfill, hr⟩ := fill_ok (fun j => some (j * ei.size, ei.size)) hcs h1 h2 (hz.rep n)
      have hzc : ei.zero.cells = (cellsOf ei.zero).toArray := by rw [← cellsOf_cells]
      have hlen : cs'.length = cs.length := hr.length
      have hcl : cs.length = n * ei.size := by
        have : ∀ {parts : List (Nat × Value)} {c cs : List Value}, fillParts (fun j => some (j * ei.size, ei.size)) c parts = some cs → cs.length = c.length := by
          intro parts
          induction parts with
          | nil => intro c cs h; simp [fillParts] at h; rw [h]
          | cons p rest ih =>
            intro c cs h
            obtain ⟨j, v⟩ := p
            simp only [fillParts] at h
            split at h
            · rw [ih h, setCells_length]
            · simp at h
        rw [this hcs, repCells_length, oke.cells]
      refine step_newRow h hfree hr ei.size el (a := .slice (some ⟨w.heap.size, 0, none⟩) n n) ?_ ?_
      · have hrep := rangeMap_rep (cellsOf ei.zero) n
        by_cases hn0 : n * ei.size = 0
        · have hrep0 : repCells (cellsOf ei.zero) n = [] := List.eq_nil_of_length_eq_zero (by rw [repCells_length, oke.cells, hn0])
          rw [hrep0] at hfill
          simp [Instr.buildSlice, run_underlying hd, oke.sizeOf w, hn0, Go.newRow, range_zero, hfill]
        · rw [oke.cells] at hrep
          simp [Instr.buildSlice, run_underlying hd, oke.sizeOf w, hn0, oke.zero w, hzc, Go.newRow, show ¬ (16777216 < n * ei.size) by omega, oke.cells]
          rw [hrep, hfill]
          simp
      · intro ν hm hl
        have := VR.slice (n := n) (c := n) (c' := n) (o := 0) hl (Nat.le_refl _) (.inr rfl) (by simp [hlen, hcl])
        simpa using this
  · simp at hb

end Go.Proofs.Ytdhbclplondmjaa.C
