/- Texts of one's own, laid together: Wm -/
import Derived.Test.YtdhbclplondmjaaQc26
import Derived.ProofKit
import Derived.SizedLaws
import Derived.SliceStrings
import Derived.Deep.Strs
section
/- The arguments of the law on Keeps, read into the abstract memory. -/
set_option linter.unusedVariables false
set_option linter.unusedSimpArgs false
set_option maxRecDepth 100000
namespace Go.Proofs.Ytdhbclplondmjaa.C
open Go.RowKit Go.ChangeShapes Go.WideShapes Go.ChangeAt

theorem cells9 : Try.prog.cellsOf 9 = 1 := by kernel_rfl
theorem cells66 : Try.prog.cellsOf 66 = 3 := by kernel_rfl
theorem bytes9 : Try.prog.bytesOf 9 = 16 := by kernel_rfl
theorem bytes66 : Try.prog.bytesOf 66 = 3 := by kernel_rfl

/-- What an argument is in the abstract memory: block k holds its elements. -/
def ArgAt (W : World) (k sz : Nat) (v : Value) (es : List (List Value)) : Prop :=
  ∃ (va : Value) (o : Option Loc), (∀ μ : Mu, μ k = o → VR μ va v) ∧
    (∀ l, o = some l → l.sz = sz ∧ l.blk < W.heap.size ∧ ∀ (i : Nat) (u : Value), es.flatten[i]? = some u → ∃ v', W.cell? ⟨l.blk, l.sh + i, none⟩ = some v' ∧ ∀ μ : Mu, VR μ u v') ∧
    ∀ H : Heap, H[k]? = some (.row sz es.flatten false true) → Sl H sz va es

theorem cell_in {w : World} {a : Addr} {v : Value} (h : w.cell? a = some v) : a.block < w.heap.size := by
  rcases Nat.lt_or_ge a.block w.heap.size with h' | h'
  · exact h'
  · simp [World.cell?, Array.getElem?_eq_none h'] at h

theorem argAt_nil (W : World) (k sz : Nat) : ArgAt W k sz (.slice none 0 0) [] :=
  ⟨.slice none 0 0, none, fun _ _ => .nilSlice, (fun l h => by cases h), fun H _ => ⟨none, 0, rfl, Nat.le_refl _, .inl rfl⟩⟩
theorem argAt_zero (W : World) (k sz : Nat) (a : Addr) : ArgAt W k sz (.slice (some a) 0 0) [] :=
  ⟨.slice (some a) 0 0, none, fun _ _ => .sliceZ a a, (fun l h => by cases h), fun H _ => ⟨some a, 0, rfl, Nat.le_refl _, .inl rfl⟩⟩

theorem argAt_some {W : World} {k sz b off cap : Nat} {es : List (List Value)} (hs : ∀ e ∈ es, e.length = sz) (hb : b < W.heap.size) (hl : es.length ≤ cap) (hc : cap ≤ maxLen)
    (h : ∀ (i : Nat) (u : Value), es.flatten[i]? = some u → ∃ v', W.cell? ⟨b, off + i, none⟩ = some v' ∧ ∀ μ : Mu, VR μ u v') :
    ArgAt W k sz (.slice (some ⟨b, off, none⟩) es.length cap) es := by
  refine ⟨.slice (some ⟨k, 0, none⟩) es.length unk, some ⟨b, off, off + 0 + cap * sz, sz⟩, fun μ hm => ?_, fun l h1 => ?_, fun H hH => ?_⟩
  · have := VR.slice (μ := μ) (b := k) (o := 0) (n := es.length) (c := unk) (c' := cap) hm hl (.inl rfl) (Nat.le_refl _)
    simpa using this
  · cases h1
    exact ⟨rfl, hb, h⟩
  · refine ⟨_, _, rfl, ?_, Cells.row hs hH⟩
    unfold unk; unfold maxLen at hc; omega

theorem arg_strs {H : Type} {enc : TypeId × Value → H} {W : World} {v : Value} {fuel k : Nat} {x : DataW H × List MemPlace}
    (hf : DataW.trod enc Try.prog W 0 (fun _ => true) true fuel 37 [v] = some x) :
    ∃ xs : List Nm, ArgAt W k 1 v (strs xs) ∧ (xs = [] ∨ ∃ el sp, x.1 = .slice el sp ∧ el.length = xs.length) := by
  rcases open_strings Try.underlying37 Try.underlying9 cells9 hf with ⟨hcs, hx⟩ | ⟨a, len, cap, ss, hcs, _, hl, hm, hz, hx, hcell, _⟩
  · simp at hcs
    subst hcs
    exact ⟨[], argAt_nil W k 1, .inl rfl⟩
  · simp at hcs
    subst hcs
    subst hx
    simp only [if_true] at hz
    rcases Nat.eq_zero_or_pos cap with h0 | h0
    · subst h0
      have : len = 0 := by omega
      subst this
      exact ⟨[], argAt_zero W k 1 a, .inl rfl⟩
    · have hspot : a.spot = none := by simpa [Addr.add] using World.cell?_spot (hcell 0 (by omega))
      obtain ⟨b, off, spot⟩ := a
      simp only at hspot
      subst hspot
      have hlen : ((ss.take len).map (·.data.toList)).length = len := by simp; omega
      have hb : b < W.heap.size := by simpa [add_plain] using cell_in (hcell 0 (by omega))
      refine ⟨(ss.take len).map (·.data.toList), ?_, .inr ⟨_, _, rfl, by simp [ChangeShapes.strs]⟩⟩
      have key := argAt_some (W := W) (k := k) (sz := 1) (b := b) (off := off) (cap := cap) (es := strs ((ss.take len).map (·.data.toList))) (strs_sz _) hb (by rw [strs_len, hlen]; exact hl) hm (fun i u hu => by
        rw [strs_flat, List.getElem?_map, List.getElem?_map] at hu
        obtain ⟨y, hy, rfl⟩ := Option.map_eq_some_iff.1 hu
        obtain ⟨s, hs, rfl⟩ := Option.map_eq_some_iff.1 hy
        have hi : i < len := by have := (List.getElem?_eq_some_iff.1 hs).1; simp at this; omega
        rw [List.getElem?_take_of_lt hi] at hs
        refine ⟨.string s, ?_, fun μ => ?_⟩
        · have := hcell i (by omega)
          rw [add_plain] at this
          rw [this]; simp [List.getD, hs]
        · have e : (⟨s.data.toList.toArray⟩ : ByteArray) = s := by simp
          show VR μ (Value.string ⟨s.data.toList.toArray⟩) _
          rw [e]; exact .string s)
      rw [strs_len, hlen] at key
      exact key

theorem get3 {cs : List Value} (h : cs.length = 3) {a b c : Value} (h0 : (cs.drop 0).take 1 = [a]) (h1 : (cs.drop 1).take 1 = [b]) (h2 : (cs.drop 2).take 1 = [c]) : cs = [a, b, c] := by
  match cs, h with
  | [x, y, z], _ => simp at h0 h1 h2; simp [h0, h1, h2]

theorem cells5 : Try.prog.cellsOf 5 = 1 := by kernel_rfl

theorem seens_flat : ∀ (xs : List Seen) (i : Nat) (u : Value), (seens xs).flatten[i]? = some u → ∃ (h : i / 3 < xs.length) (e : List Value), e = [u8 xs[i / 3].k, u8 xs[i / 3].u, u8 xs[i / 3].l] ∧ e[i % 3]? = some u
  | [], i, u, h => by simp [seens] at h
  | x :: xs, i, u, h => by
    have h' : ([u8 x.k, u8 x.u, u8 x.l] ++ (seens xs).flatten)[i]? = some u := h
    rcases Nat.lt_or_ge i 3 with q | q
    · rw [List.getElem?_append_left (by simpa using q)] at h'
      have e1 : i / 3 = 0 := by omega
      have e2 : i % 3 = i := by omega
      refine ⟨by simp; omega, _, rfl, ?_⟩
      simp only [e1, e2]
      simpa using h'
    · rw [List.getElem?_append_right (by simpa using q)] at h'
      obtain ⟨g, e, he, hu⟩ := seens_flat xs (i - 3) u (by simpa using h')
      have e1 : i / 3 = (i - 3) / 3 + 1 := by omega
      have e2 : i % 3 = (i - 3) % 3 := by omega
      refine ⟨by simp; omega, e, ?_, by rw [e2]; exact hu⟩
      rw [he]
      simp [e1]

theorem arg_seens {H : Type} {enc : TypeId × Value → H} {W : World} {v : Value} {fuel k : Nat} {x : DataW H × List MemPlace}
    (hf : DataW.trod enc Try.prog W 0 (fun _ => true) true fuel 22 [v] = some x) :
    ∃ xs : List Seen, ArgAt W k 3 v (seens xs) ∧ (∀ s ∈ xs, s.k < 256 ∧ s.u < 256 ∧ s.l < 256) ∧ (xs = [] ∨ ∃ el sp, x.1 = .slice el sp ∧ el.length = xs.length) := by
  rcases Go.Deep.open_slice Try.underlying22 hf with ⟨hcs, hx⟩ | ⟨a, len, cap, m, n, D, Pl, hcs, _, hl, hm, hz, hx, hel⟩
  · simp at hcs
    subst hcs
    exact ⟨[], argAt_nil W k 3, by simp, .inl rfl⟩
  · simp at hcs
    subst hcs
    subst hx
    simp only [if_true] at hz
    subst hz
    rw [cells66] at hel
    have each : ∀ i, i < m → ∃ s : Seen, (s.k < 256 ∧ s.u < 256 ∧ s.l < 256) ∧ W.cell? (a.add (i * 3)) = some (u8 s.k) ∧ W.cell? ((a.add (i * 3)).add 1) = some (u8 s.u) ∧ W.cell? ((a.add (i * 3)).add 2) = some (u8 s.l) := fun i hi => by
      obtain ⟨cs, h1, h2⟩ := hel i hi
      obtain ⟨_, hlen, hc⟩ := World.cells?_some h1
      obtain ⟨y0, y1, y2, n', _, _, t0, t1, t2⟩ := Go.Deep.trod_struct3 Try.underlying66 h2
      simp only [cells5] at t0 t1 t2
      obtain ⟨k0, e0, _, w0⟩ := DataW.trod_int Try.underlying5 t0
      obtain ⟨k1, e1, _, w1⟩ := DataW.trod_int Try.underlying5 t1
      obtain ⟨k2, e2, _, w2⟩ := DataW.trod_int Try.underlying5 t2
      have hcs := get3 hlen e0 e1 e2
      subst hcs
      simp only [Lit.wf, Bool.and_eq_true, decide_eq_true_eq, show IntKind.u8.min = 0 from rfl, show IntKind.u8.max = 255 from rfl] at w0 w1 w2
      have b0 : 0 ≤ k0 ∧ k0 < 256 := by omega
      have b1 : 0 ≤ k1 ∧ k1 < 256 := by omega
      have b2 : 0 ≤ k2 ∧ k2 < 256 := by omega
      have f0 := hc 0 (by omega)
      have f1 := hc 1 (by omega)
      have f2 := hc 2 (by omega)
      refine ⟨⟨k0.toNat, k1.toNat, k2.toNat⟩, ⟨by show k0.toNat < 256; omega, by show k1.toNat < 256; omega, by show k2.toNat < 256; omega⟩, ?_, ?_, ?_⟩
      · have e : (a.add (i * 3)).add 0 = a.add (i * 3) := by simp [Addr.add]
        rw [← e, f0]; simp [u8, Int.toNat_of_nonneg b0.1]
      · rw [f1]; simp [u8, Int.toNat_of_nonneg b1.1]
      · rw [f2]; simp [u8, Int.toNat_of_nonneg b2.1]
    have : Inhabited Seen := ⟨⟨0, 0, 0⟩⟩
    obtain ⟨S, hS⟩ := Go.Deep.choose_lt each
    rcases Nat.eq_zero_or_pos m with h0 | h0
    · subst h0
      have : len = 0 := by omega
      subst this
      exact ⟨[], argAt_zero W k 3 a, by simp, .inl rfl⟩
    · have hc0 := (hS 0 h0).2.1
      have hspot : a.spot = none := by simpa [Addr.add] using World.cell?_spot hc0
      obtain ⟨b, off, spot⟩ := a
      simp only at hspot
      subst hspot
      have hlen : ((List.range len).map S).length = len := by simp
      have hb : b < W.heap.size := by simpa [add_plain] using cell_in hc0
      refine ⟨(List.range len).map S, ?_, ?_, .inr ⟨_, _, rfl, by simp⟩⟩
      · have key := argAt_some (W := W) (k := k) (sz := 3) (b := b) (off := off) (cap := m) (es := seens ((List.range len).map S)) (by intro e he; obtain ⟨s, _, rfl⟩ := List.mem_map.1 he; rfl) hb (by rw [seens_len, hlen]; exact hl) hm (fun i u hu => by
          obtain ⟨g, e, he, hu⟩ := seens_flat _ i u hu
          rw [hlen] at g
          simp only [List.getElem_map, List.getElem_range] at he
          obtain ⟨_, q0, q1, q2⟩ := hS (i / 3) (by omega)
          rw [add_plain] at q0 q1 q2
          rw [add_plain] at q1 q2
          subst he
          have hi : i = i / 3 * 3 + i % 3 := by omega
          have h3 : i % 3 < 3 := by omega
          generalize i % 3 = r at *
          generalize i / 3 = q at *
          match r, h3 with
          | 0, _ => 
            simp at hu; subst hu
            exact ⟨_, by rw [hi]; exact q0, fun μ => .int _ _⟩
          | 1, _ =>
            simp at hu; subst hu
            exact ⟨_, by rw [hi]; rw [← Nat.add_assoc]; exact q1, fun μ => .int _ _⟩
          | 2, _ =>
            simp at hu; subst hu
            exact ⟨_, by rw [hi]; rw [← Nat.add_assoc]; exact q2, fun μ => .int _ _⟩)
        rw [seens_len, hlen] at key
        exact key
      · intro s hs
        obtain ⟨i, hi, rfl⟩ := List.mem_map.1 hs
        exact (hS i (by have := List.mem_range.1 hi; omega)).1

end Go.Proofs.Ytdhbclplondmjaa.C

end
