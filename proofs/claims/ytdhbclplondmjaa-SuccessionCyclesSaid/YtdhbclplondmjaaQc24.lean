/- Texts of one's own, laid together: Kn5 -/
import Derived.Test.YtdhbclplondmjaaQc19
import Derived.Test.YtdhbclplondmjaaQc20
import Derived.Test.YtdhbclplondmjaaQc21
import Derived.Test.YtdhbclplondmjaaQc23
section
/- The chapter's examples hold. -/
set_option linter.unusedVariables false
set_option maxRecDepth 100000
namespace Go.Proofs.Ytdhbclplondmjaa.C
open Go.RowKit

theorem sub_is {call : CallF} {f : FuncId} {H : Heap} {v : Value} {L : List (List Value)} {n : Nat} {cs : List Value} (hS : Sl H 3 v L) (hL : L ≠ []) (hsz : ∀ e ∈ L, e.length = 3) (hn : L.length = n) (hcs : L.flatten = cs) (hp : plains cs = true) {more : List Value} (hm : takeArgs H 1 more = some (more, [])) {r u : Value} {E : Heap}
    (hrun : call f (smallV n :: more) (smallH cs) = some (r, E)) (hu : rnV 1 H.length r = some u) : subX call f (v :: more) H = some (u, H ++ (E.drop 1).map (rnB 1 H.length)) := by
  subst hn hcs
  obtain ⟨a, c, rfl, hc, hcs⟩ := hS
  have h0 : 0 < L.length := List.length_pos_iff.2 hL
  obtain ⟨b, o, rfl, hsz2, hr⟩ := hcs.lt h0
  have hall := Cells.all hsz hr hL
  have hn : L.length ≠ 0 := by omega
  have : takeArgs H 0 (.slice (some ⟨b, o, none⟩) L.length c :: more) = some (smallV L.length :: more, smallH L.flatten) := by
    unfold takeArgs
    unfold szAt at hsz2
    split at hsz2
    · rename_i sz cs own hb
      simp only [Option.some.injEq] at hsz2
      subst hsz2
      simp only [hb, hn, if_false, hall, hp, if_true, hm, Option.map_some]
      rfl
    · simp at hsz2
  unfold subX
  rw [this]
  simp only [hrun]
  rw [show (smallH L.flatten).length = 1 from rfl, hu]
  rfl

theorem isRow_is {E : Heap} {v : Value} {cs : List Value} (h : isRow E v cs = true) (H : Heap) : ∃ u, rn 1 H.length v = some u ∧ Sl (H ++ (E.drop 1).map (rnB 1 H.length)) 1 u (cs.map fun c => [c]) := by
  unfold isRow at h
  split at h
  · rename_i b n c
    simp only [Bool.and_eq_true, decide_eq_true_eq] at h
    obtain ⟨⟨⟨hb, rfl⟩, hc⟩, hr⟩ := h
    split at hr
    · rename_i ds hE
      obtain ⟨rfl, hp⟩ := eqVs_eq hr
      refine ⟨.slice (some ⟨b - 1 + H.length, 0, none⟩) ds.length c, by show (if 1 ≤ b then some (Value.slice (some ⟨b - 1 + H.length, 0, none⟩) ds.length c) else none) = _; exact if_pos hb, ?_⟩
      have hrns : ∀ {l : List Value}, plains l = true → rns 1 H.length l = some l := by
        intro l
        induction l with
        | nil => intro _; rfl
        | cons a l ih =>
          intro hp
          simp only [plains, Bool.and_eq_true] at hp
          unfold rns
          rw [ih hp.2]
          have : rn 1 H.length a = some a := by
            unfold rn
            split
            · simp [plain] at hp
            · rw [if_pos hp.1]
          rw [this]
      have hH : (H ++ (E.drop 1).map (rnB 1 H.length))[b - 1 + H.length]? = some (.row 1 ds true true) := by
        rw [List.getElem?_append_right (by omega), List.getElem?_map, List.getElem?_drop, show 1 + (b - 1 + H.length - H.length) = b by omega, hE]
        simp only [Option.map_some, rnB, hrns hp]
      have hfl : ds = (ds.map fun c => [c]).flatten := by
        clear hE hp hH hr hc
        induction ds with
        | nil => rfl
        | cons a l ih => simpa using ih
      refine ⟨some ⟨b - 1 + H.length, 0, none⟩, c, by simp, by simpa using hc, ?_⟩
      refine Cells.row (own := true) (by simp) ?_
      rw [← hfl]; exact hH
    · simp at hr
  · simp at h

theorem sees_app (H L : Heap) : Sees H (H ++ L) := fun b sz cs own h => ⟨own, by rw [List.getElem?_append_left (List.getElem?_eq_some_iff.1 h).1]; exact h⟩

abbrev LA : List Rel := [⟨1, [66], [65]⟩, ⟨2, [67], [66]⟩, ⟨1, [68], [65]⟩]
abbrev LB : List Rel := LA ++ [⟨1, [65], [67]⟩]
abbrev LC : List Rel := LA ++ [⟨1, [67], [65]⟩]

theorem pair_of (cs : Array Value) {l : List Value} (h : cs.toList = l) : cs = l.toArray := by rw [← h]

theorem order_ex {H : Heap} {v : Value} (h : Sl H 3 v (rels LA)) : ∃ o H1, big tabK 17 [v] H = some (.tuple #[o, nat 0], H1) ∧ Sees H H1 ∧ Sl H1 1 o (strs [[65], [66], [67], [68]]) := by
  have hr := run_order
  unfold chkOrder at hr
  split at hr
  · rename_i cs E he
    split at hr
    · rename_i o hcs
      obtain ⟨u, hu, hs⟩ := isRow_is hr H
      refine ⟨u, _, big_ext (T := tabK) (f := 17) rfl (sub_is h (by simp [rels]) (rels_sz _) rfl rfl rfl rfl he ?_), sees_app _ _, hs⟩
      rw [pair_of cs hcs]
      simp only [rnV, rns, hu]
      rfl
    · simp at hr
  · simp at hr

theorem ranks_ex {H : Heap} {v : Value} (h : Sl H 3 v (rels LA)) : ∃ a b H1, big tabK 12 [v] H = some (.tuple #[a, b, nat 0], H1) ∧ Sees H H1 ∧ Sl H1 1 a (ints [0, 1, 2, 1]) ∧ Sl H1 1 b (ints [0, 1, 2, 2]) := by
  have hr := run_ranks
  unfold chkRanks at hr
  split at hr
  · rename_i cs E he
    split at hr
    · rename_i a b hcs
      simp only [Bool.and_eq_true] at hr
      obtain ⟨u, hu, hs⟩ := isRow_is hr.1 H
      obtain ⟨u2, hu2, hs2⟩ := isRow_is hr.2 H
      refine ⟨u, u2, _, big_ext (T := tabK) (f := 12) rfl (sub_is h (by simp [rels]) (rels_sz _) rfl rfl rfl rfl he ?_), sees_app _ _, hs, hs2⟩
      rw [pair_of cs hcs]
      simp only [rnV, rns, hu, hu2]
      rfl
    · simp at hr
  · simp at hr

theorem exts_ex {H : Heap} {v : Value} (h : Sl H 3 v (rels LA)) : ∃ a c H1, big tabK 28 [v, nat 10] H = some (.tuple #[.slice a 3 c, nat 0], H1) ∧ Sees H H1 := by
  have hr := run_exts
  unfold chkExts at hr
  split at hr
  · rename_i cs E he
    split at hr
    · rename_i b c hcs
      simp only [decide_eq_true_eq] at hr
      refine ⟨some ⟨b - 1 + H.length, 0, none⟩, c, _, big_ext (T := tabK) (f := 28) rfl (sub_is h (by simp [rels]) (rels_sz _) rfl rfl rfl (more := [nat 10]) rfl he ?_), sees_app _ _⟩
      rw [pair_of cs hcs]
      have hq : rn 1 H.length (.slice (some ⟨b, 0, none⟩) 3 c) = some (.slice (some ⟨b - 1 + H.length, 0, none⟩) 3 c) := by show (if 1 ≤ b then some (Value.slice (some ⟨b - 1 + H.length, 0, none⟩) 3 c) else none) = _; exact if_pos hr
      simp only [rnV, rns, hq]
      rfl
    · simp at hr
  · simp at hr

theorem cycle_ex {H : Heap} {v : Value} (h : Sl H 3 v (rels LB)) : ∃ o H1, big tabK 16 [v] H = some (.tuple #[o, .bool true, nat 0], H1) ∧ Sees H H1 ∧ Sl H1 1 o (ints [0, 1, 3]) := by
  have hr := run_cycle
  unfold chkCycle at hr
  split at hr
  · rename_i cs E he
    split at hr
    · rename_i o hcs
      obtain ⟨u, hu, hs⟩ := isRow_is hr H
      refine ⟨u, _, big_ext (T := tabK) (f := 16) rfl (sub_is h (by simp [rels]) (rels_sz _) rfl rfl rfl rfl he ?_), sees_app _ _, hs⟩
      rw [pair_of cs hcs]
      simp only [rnV, rns, hu]
      rfl
    · simp at hr
  · simp at hr

theorem red_ex {H : Heap} {v : Value} (h : Sl H 3 v (rels LC)) : ∃ o H1, big tabK 24 [v] H = some (.tuple #[o, nat 0], H1) ∧ Sees H H1 ∧ Sl H1 1 o (ints [0, 1, 2]) := by
  have hr := run_red
  unfold chkRed at hr
  split at hr
  · rename_i cs E he
    split at hr
    · rename_i o hcs
      obtain ⟨u, hu, hs⟩ := isRow_is hr H
      refine ⟨u, _, big_ext (T := tabK) (f := 24) rfl (sub_is h (by simp [rels]) (rels_sz _) rfl rfl rfl rfl he ?_), sees_app _ _, hs⟩
      rw [pair_of cs hcs]
      simp only [rnV, rns, hu]
      rfl
    · simp at hr
  · simp at hr

theorem over_runs {ext : FuncId → Option ExtF} (hx : ext 27 = some (pureB tab0 27)) (u l : Nm) (H : Heap) : big (tabE ext) 27 [str u, str l] H = some (.agg #[nat 1, str u, str l], H) := by
  refine big_ext (T := tabE ext) (f := 27) hx ?_
  have h : ∃ E, callC tab0 20 27 [str u, str l] [] = some (.agg #[nat 1, str u, str l], E) := ⟨_, rfl⟩
  obtain ⟨E, h⟩ := h
  exact pureB_is 20 rfl h rfl H

end Go.Proofs.Ytdhbclplondmjaa.C

end
