/- Texts of one's own, laid together: CCopy -/
import Derived.Test.YtdhbclplondmjaaQc06
import Derived.Laws.IdiomStrings
section
/- copy; a string out of bytes. -/
set_option linter.unusedVariables false
set_option linter.unusedSimpArgs false
namespace Go.Proofs.Ytdhbclplondmjaa.C
open Go.RowKit

variable {P : Program} {T : Tab} {μ : Mu} {base : Nat} {F : Nat → Prop} {H : Heap} {w : World}

theorem vCopy_ok (ag : Agree P T) (h : HR base F μ H w) {t u ty : TypeId} {x y x' y' r : Value} {H' : Heap} (hx : VR μ x x') (hy : VR μ y y') (hb : vCopy T H t x y = some (r, H')) :
    Step base F μ H H' w ((Builtin.copy_ #[t, u] ty #[x', y']).run P w) fun ν a => VR ν r a := by
  unfold vCopy at hb
  split at hb
  · rename_i e a n c a2 m c2 hd
    obtain ⟨d, hd1, hd2⟩ := ag.d hd
    simp only [DescOk] at hd2
    subst hd2
    split at hb
    · rename_i ei he
      have oke := ag.ty e ei he
      have hx1 : ∃ b c', x' = .slice b n c' := by cases hx <;> exact ⟨_, _, rfl⟩
      have hy1 : ∃ b c', y' = .slice b m c' := by cases hy <;> exact ⟨_, _, rfl⟩
      split at hb
      · rename_i h0
        simp only [Option.some.injEq, Prod.mk.injEq] at hb
        obtain ⟨rfl, rfl⟩ := hb
        obtain ⟨b1, c1, rfl⟩ := hx1
        obtain ⟨b2, c2', rfl⟩ := hy1
        refine Step.same h (a := .int .i64 0) ?_ (.int _ _)
        have h0' : Nat.min m n = 0 := h0
        cases b1 <;> cases b2 <;> simp [Builtin.copy_, run_underlying hd1, Builtin.lenOf, Builtin.firstCells, h0', oke.sizeOf w, loadCells, loadCellsFrom, storeCells, goInt]
      · rename_i h0
        split at hb
        · rename_i b o b2 o2
          simp only [Option.bind_eq_some_iff, Option.map_eq_some_iff] at hb
          obtain ⟨cs, hcs, H1, hw, hb⟩ := hb
          simp only [Prod.mk.injEq] at hb
          obtain ⟨rfl, rfl⟩ := hb
          have hn0 : n ≠ 0 := by rintro rfl; simp at h0
          have hm0 : m ≠ 0 := by rintro rfl; simp at h0
          cases hx with
          | sliceZ p p' => exact absurd rfl hn0
          | sliceE p p' => exact absurd rfl hn0
          | slice hl hnc hc ht =>
            rename_i c' l
            cases hy with
            | sliceZ p p' => exact absurd rfl hm0
            | sliceE p p' => exact absurd rfl hm0
            | slice hl2 hnc2 hc2 ht2 =>
              rename_i c3 l2
              obtain ⟨hlen, cs', hr, hcell⟩ := readCells_ok h hcs hl2
              obtain ⟨sz2, cs2, heq2, hlen2, hrun2, hr2, hfr2⟩ := writeCells_ok (P := P) h hl hr hw
              have hload := run_loadCells_list (P := P) w ⟨l2.blk, l2.sh + o2, none⟩ cs' (fun j v hj => by rw [add_loc, ← Nat.add_assoc]; exact hcell j v hj)
              rw [hr.length, hlen] at hload
              refine ⟨.int .i64 (min m n : Nat), _, μ, ?_, MuLe.refl _, fun _ _ => rfl, hr2, hfr2, .int _ _⟩
              have e1 : Nat.min m n = min m n := rfl
              simp [Builtin.copy_, run_underlying hd1, Builtin.lenOf, Builtin.firstCells, oke.sizeOf w, e1, hload, hrun2, goInt]
        · simp at hb
    · simp at hb
  · simp at hb

theorem bytesIn_ok : ∀ {cs cs' : List Value} {l : List UInt8}, bytesIn cs = some l → VRs μ cs cs' → cs' = l.map fun b => .int .u8 (b.toNat : Int)
  | [], cs', l, hb, hr => by cases hr; simp [bytesIn] at hb; subst hb; rfl
  | v :: cs, cs', l, hb, hr => by
    unfold bytesIn at hb
    split at hb
    · simp_all
    · rename_i k r he
      simp only [List.cons.injEq] at he
      obtain ⟨rfl, rfl⟩ := he
      split at hb
      · rename_i hk
        rw [Option.map_eq_some_iff] at hb
        obtain ⟨l1, h1, rfl⟩ := hb
        cases hr with
        | cons ha ht =>
          cases ha
          have := bytesIn_ok h1 ht
          subst this
          simp only [List.map_cons, List.cons.injEq, and_true, Value.int.injEq, true_and]
          have : k.toNat < 256 := by omega
          simp [Nat.mod_eq_of_lt this]
          omega
      · simp at hb
    · simp at hb

theorem vString_ok (ag : Agree P T) (h : HR base F μ H w) {src dst : TypeId} {x x' v : Value} (hx : VR μ x x') (hb : vString T H src dst x = some v) : (Go.convert src dst x').run P w = .ok v w ∧ VR μ v v := by
  unfold vString at hb
  split at hb
  · rename_i e b o n c hs hd
    split at hb
    · rename_i ei hei
      split at hb
      · rename_i hdesc
        simp only [Option.bind_eq_some_iff, Option.map_eq_some_iff] at hb
        obtain ⟨cs, hcs, l, hl, rfl⟩ := hb
        obtain ⟨d1, hs1, hs2⟩ := ag.d hs
        obtain ⟨d2, hd1, hd2⟩ := ag.d hd
        simp only [DescOk] at hs2 hd2
        subst hs2 hd2
        obtain ⟨d3, he1, he2⟩ := (ag.ty e ei hei).und
        rw [hdesc] at he2
        simp only [DescOk] at he2
        subst he2
        refine ⟨?_, .string _⟩
        have key : ∀ (a : Addr) (c' : Nat) (cs' : List Value), cs'.length = n → VRs μ cs cs' → (∀ j u, cs'[j]? = some u → w.cell? (a.add j) = some u) → (Go.convert src dst (.slice (some a) n c')).run P w = .ok (.string ⟨l.toArray⟩) w := by
          intro a c' cs' hlen hr hcell
          have hcs' := bytesIn_ok hl hr
          have hln : l.length = n := by rw [← hlen, hcs']; simp
          have := run_convert_bytes_back (P := P) w src dst e a c' l hs1 he1 hd1 (fun j hj => hcell j _ (by rw [hcs']; simp [hj]))
          rw [hln] at this
          exact this
        cases hx with
        | sliceZ p p' =>
          have hz : cs = [] := by
            unfold readCells at hcs
            split at hcs
            · split at hcs <;> simp at hcs
              exact hcs
            · simp at hcs
          subst hz
          exact key p' 0 [] rfl .nil (fun j u hj => by simp at hj)
        | sliceE p p' =>
          have hz : cs = [] := by
            unfold readCells at hcs
            split at hcs
            · split at hcs <;> simp at hcs
              exact hcs
            · simp at hcs
          subst hz
          exact key p' 0 [] rfl .nil (fun j u hj => by simp at hj)
        | slice hl2 hnc hc ht =>
          obtain ⟨hlen, cs', hr, hcell⟩ := readCells_ok h hcs hl2
          exact key _ _ cs' (by rw [hr.length, hlen]) hr (fun j u hj => by rw [add_loc, ← Nat.add_assoc]; exact hcell j u hj)
      · simp at hb
    · simp at hb
  · simp at hb

theorem vBytes_ok (ag : Agree P T) (h : HR base F μ H w) {src dst : TypeId} {x x' v : Value} {H' : Heap} (hfree : H.length < H'.length → μ H.length = none) (hx : VR μ x x') (hb : vBytes T H src dst x = some (v, H')) :
    Step base F μ H H' w ((Go.convert src dst x').run P w) fun ν a => VR ν v a := by
  unfold vBytes at hb
  split at hb
  · rename_i r hr
    simp only [Option.some.injEq] at hb
    subst hb
    refine vBytes0_ok ag h (hfree ?_) hx hr
    unfold vBytes0 at hr
    split at hr
    · split at hr
      · split at hr
        · split at hr
          · simp only [Option.some.injEq, Prod.mk.injEq] at hr
            rw [← hr.2]; simp
          · simp at hr
        · simp at hr
      · simp at hr
    · simp at hr
  · rw [Option.map_eq_some_iff] at hb
    obtain ⟨u, hu, hb⟩ := hb
    simp only [Prod.mk.injEq] at hb
    obtain ⟨rfl, rfl⟩ := hb
    obtain ⟨h1, h2⟩ := vString_ok (P := P) ag h hx hu
    exact Step.same h h1 h2

end Go.Proofs.Ytdhbclplondmjaa.C

end
