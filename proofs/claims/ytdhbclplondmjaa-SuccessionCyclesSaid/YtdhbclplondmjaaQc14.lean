/- Texts of one's own, laid together: CLib -/
import Derived.Test.YtdhbclplondmjaaQc08
import Derived.Lib.SortBridge
import Derived.Lib.RowBridge
import Derived.Lib.SlicesCompact
section
/- slices.Sort and slices.Compact at strings, by their contracts, for the abstract machine. -/
set_option linter.unusedVariables false
set_option linter.unusedSimpArgs false
namespace Go.Proofs.Ytdhbclplondmjaa.C
open Go.RowKit Go.Sort

variable {P : Program}

def strsC : List Value → Option (List (List UInt8))
  | [] => some []
  | .string b :: l => (strsC l).map fun r => b.data.toList :: r
  | _ :: _ => none

theorem strsC_ok {μ : Mu} : ∀ {cs cs' : List Value} {ss : List (List UInt8)}, strsC cs = some ss → VRs μ cs cs' → cs' = ss.map encStr
  | [], _, _, h, .nil => by simp [strsC] at h; subst h; rfl
  | v :: cs, _, ss, h, .cons hv ht => by
    unfold strsC at h
    split at h
    · simp_all
    · rename_i b l heq
      simp only [List.cons.injEq] at heq
      obtain ⟨rfl, rfl⟩ := heq
      rw [Option.map_eq_some_iff] at h
      obtain ⟨r, hr, rfl⟩ := h
      cases hv
      rw [strsC_ok hr ht]
      rfl
    · simp at h

theorem encStr_refl {μ : Mu} : ∀ (ss : List (List UInt8)), VRs μ (ss.map encStr) (ss.map encStr)
  | [] => .nil
  | s :: ss => .cons (.string _) (encStr_refl ss)

/-- Strings in a row of one's own are sorted, or made shorter. -/
def onStrs (g : List (List UInt8) → List (List UInt8)) (H : Heap) (b o n : Nat) : Option (List (List UInt8) × Heap) :=
  match H[b]? with
  | some (.row _ _ true true) => (readCells H b o n).bind fun cs => (strsC cs).bind fun ss => (writeCells H b o ((g ss).map encStr)).map fun H1 => (ss, H1)
  | _ => none

def sortX : List Value → Heap → Option (Value × Heap) := fun args H =>
  match args with
  | [.slice a n _] =>
    if n = 0 then some (.tuple #[], H) else
    if 2 ^ 40 ≤ n then none else
    match a with
    | some ⟨b, o, none⟩ => (onStrs (fun ss => ss.mergeSort fun x y => decide (x ≤ y)) H b o n).map fun r => (.tuple #[], r.2)
    | _ => none
  | _ => none

def compactX : List Value → Heap → Option (Value × Heap) := fun args H =>
  match args with
  | [.slice a n c] =>
    if n = 0 then some (.slice a n c, H) else
    if 2 ^ 40 ≤ n then none else
    match a with
    | some ⟨b, o, none⟩ => (onStrs (fun ss => Lib.compact ss ++ List.replicate (ss.length - (Lib.compact ss).length) []) H b o n).map fun r => (.slice a (Lib.compact r.1).length c, r.2)
    | _ => none
  | _ => none

theorem onStrs_ok {μ : Mu} {base : Nat} {F : Nat → Prop} {H H1 : Heap} {w : World} {g : List (List UInt8) → List (List UInt8)} {b o n : Nat} {ss : List (List UInt8)} {l : Loc} (h : HR base F μ H w) (hl : μ b = some l) (he : onStrs g H b o n = some (ss, H1)) :
    ss.length = n ∧ Holds encStr w l.blk (l.sh + o) ss.toArray ∧ l.blk < w.heap.size ∧ H1.length = H.length ∧ ∀ q, HR base F μ H1 ((w.drewN q).setCells l.blk (l.sh + o) ((g ss).map encStr)) ∧ Fr base F w ((w.drewN q).setCells l.blk (l.sh + o) ((g ss).map encStr)) := by
  unfold onStrs at he
  split at he
  · rename_i sz all hb
    simp only [Option.bind_eq_some_iff, Option.map_eq_some_iff] at he
    obtain ⟨cs, hcs, ss1, hss, H2, hw, he⟩ := he
    simp only [Prod.mk.injEq] at he
    obtain ⟨rfl, rfl⟩ := he
    obtain ⟨hlen, cs', hr, hcell⟩ := readCells_ok h hcs hl
    have hcs' := strsC_ok hss hr
    have hn : ss1.length = n := by
      have := hr.length
      rw [hcs', List.length_map] at this
      omega
    obtain ⟨a1, a2, a3, arr, e, fr, b1, b2, b3, b4⟩ := h.own b _ _ l hb hl
    refine ⟨hn, ?_, h.mine_lt hb rfl hl |>.1, ?_, fun q => ?_⟩
    · intro j hj
      have hj' : j < ss1.length := by simpa using hj
      have hc := hcell j (encStr ss1[j]) (by rw [hcs']; simp [hj'])
      refine ⟨by rw [hc]; simp [hj'], ?_⟩
      have hlt : l.sh + o + j < arr.size := by
        have : (World.cell? w ⟨l.blk, l.sh + o + j, none⟩) = arr[l.sh + o + j]? := by simp [World.cell?, b1]
        rw [this] at hc
        exact (Array.getElem?_eq_some_iff.1 hc).1
      have := b3 _ hlt
      simp only [World.frozen?, b1]
      simp only [Bool.and_eq_false_iff, decide_eq_false_iff_not]
      omega
    · have hx := writeCells_ok (P := default) h hl (encStr_refl (g ss1)) hw
      obtain ⟨_, _, _, e1, _⟩ := hx
      exact e1
    · have hd : HR base F μ H (w.drewN q) := h.world (fun _ _ => rfl) (Nat.le_refl _)
      obtain ⟨_, _, _, e1, _, e2, e3⟩ := writeCells_ok (P := default) hd hl (encStr_refl (g ss1)) hw
      exact ⟨e2, (⟨rfl, rfl, rfl, Nat.le_refl _, fun _ _ => rfl⟩ : Fr base F w (w.drewN q)).trans e3⟩
  · simp at he

theorem grow_old (w : World) (os : Array Obj) : ∀ k, k < w.heap.size → (grow w os).heap[k]? = w.heap[k]? := by
  intro k hk
  simp only [grow]
  rw [Array.getElem?_append_left hk]

theorem onStrs_len {g : List (List UInt8) → List (List UInt8)} {H H1 : Heap} {b o n : Nat} {ss : List (List UInt8)} (hon : onStrs g H b o n = some (ss, H1)) : H1.length = H.length := by
  unfold onStrs at hon
  split at hon
  · simp only [Option.bind_eq_some_iff, Option.map_eq_some_iff] at hon
    obtain ⟨cs, hcs, ss1, hss, H3, hw, hon⟩ := hon
    simp only [Prod.mk.injEq] at hon
    obtain ⟨rfl, rfl⟩ := hon
    unfold writeCells at hw
    split at hw
    · split at hw
      · split at hw <;> simp at hw
        rw [← hw]; simp
      · simp at hw
    · simp at hw
  · simp at hon

theorem sortX_ok {f : FuncId} (hs : ∀ (blk off cap : Nat) (ss : List (List UInt8)) (w : World), Holds encStr w blk off ss.toArray → blk < w.heap.size → ss.length < 4611686018427387904 →
      Calls P f #[.slice (some ⟨blk, off, none⟩) ss.length cap] w fun e w' => e = .returned (.tuple #[]) ∧ ∃ n os, w' = grow (putRow encStr (Sort.ahead w n) blk off (ss.mergeSort fun x y => decide (x ≤ y)).toArray) os)
    (hz : ∀ (p : Option Addr) (cap : Nat) (w : World), Calls P f #[.slice p 0 cap] w fun e w' => e = .returned (.tuple #[]) ∧ w' = w) : ExtOk P f sortX := by
  intro args H v H1 he
  unfold sortX at he
  split at he
  · rename_i a n c
    split at he
    · rename_i h0
      subst h0
      simp only [Option.some.injEq, Prod.mk.injEq] at he
      obtain ⟨rfl, rfl⟩ := he
      refine ⟨Nat.le_refl _, fun base F μ w args' hh hfree ha => ?_⟩
      cases ha with
      | cons hx hn =>
        cases hn
        rename_i x'
        have : ∃ p c', x' = .slice p 0 c' := by cases hx <;> exact ⟨_, _, rfl⟩
        obtain ⟨p, c', rfl⟩ := this
        refine Calls.mono (hz p c' w) ?_
        rintro e w' ⟨rfl, rfl⟩
        exact ⟨_, μ, rfl, Goes.refl hh, .undef _⟩
    · rename_i h0
      split at he
      · simp at he
      · rename_i hbig
        split at he
        · rename_i b o
          rw [Option.map_eq_some_iff] at he
          obtain ⟨⟨ss, H2⟩, hon, he⟩ := he
          simp only [Prod.mk.injEq] at he
          obtain ⟨rfl, rfl⟩ := he
          have hlen := onStrs_len hon
          refine ⟨by omega, fun base F μ w args' hh hfree ha => ?_⟩
          cases ha with
          | cons hx hn =>
            cases hn
            cases hx with
            | sliceZ p p' => exact absurd rfl h0
            | sliceE p p' => exact absurd rfl h0
            | slice hl hnc hc ht =>
              rename_i c' l
              obtain ⟨e1, e2, e3, e4, e5⟩ := onStrs_ok hh hl hon
              have := hs l.blk (l.sh + o) c' ss w e2 e3 (by omega)
              rw [e1] at this
              refine Calls.mono this ?_
              rintro e w' ⟨rfl, q, os, rfl⟩
              rw [Lib.sorted_world encStr w l.blk (l.sh + o) q ss.toArray _ os e2 (by simp)]
              obtain ⟨f1, f2⟩ := e5 q
              have hold := grow_old ((w.drewN q).setCells l.blk (l.sh + o) ((ss.mergeSort fun x y => decide (x ≤ y)).map encStr)) os
              refine ⟨_, μ, rfl, ⟨MuLe.refl _, fun _ _ => rfl, f1.world hold (by simp [grow]), ?_, by omega⟩, .undef _⟩
              refine f2.trans ⟨rfl, rfl, rfl, by simp [grow], fun k hk => hold k (hk.elim (fun z => Nat.lt_of_lt_of_le z f1.base_le) (f1.far k))⟩
        · simp at he
  · simp at he

theorem compactX_ok {f : FuncId} (hs : ∀ (blk off cap : Nat) (zs : List (List UInt8)) (w : World), Holds encStr w blk off zs.toArray → zs.length ≤ 9223372036854775807 → zs.length ≤ cap →
      Calls P f #[.slice (some ⟨blk, off, none⟩) zs.length cap] w fun e w' => e = .returned (.slice (some ⟨blk, off, none⟩) (Lib.compact zs).length cap) ∧ ∃ q, w' = putRow encStr (Sort.ahead w q) blk off (Lib.compact zs ++ List.replicate (zs.length - (Lib.compact zs).length) []).toArray)
    (hz : ∀ (a : Option Addr) (cap : Nat) (w : World), Calls P f #[.slice a 0 cap] w fun e w' => e = .returned (.slice a 0 cap) ∧ w' = w) : ExtOk P f compactX := by
  intro args H v H1 he
  unfold compactX at he
  split at he
  · rename_i a n c
    split at he
    · rename_i h0
      subst h0
      simp only [Option.some.injEq, Prod.mk.injEq] at he
      obtain ⟨rfl, rfl⟩ := he
      refine ⟨Nat.le_refl _, fun base F μ w args' hh hfree ha => ?_⟩
      cases ha with
      | cons hx hn =>
        cases hn
        rename_i x'
        have : ∃ p c', x' = .slice p 0 c' := by cases hx <;> exact ⟨_, _, rfl⟩
        obtain ⟨p, c', rfl⟩ := this
        refine Calls.mono (hz p c' w) ?_
        rintro e w' ⟨rfl, rfl⟩
        exact ⟨_, μ, rfl, Goes.refl hh, hx⟩
    · rename_i h0
      split at he
      · simp at he
      · rename_i hbig
        split at he
        · rename_i b o
          rw [Option.map_eq_some_iff] at he
          obtain ⟨⟨ss, H2⟩, hon, he⟩ := he
          simp only [Prod.mk.injEq] at he
          obtain ⟨rfl, rfl⟩ := he
          have hlen := onStrs_len hon
          refine ⟨by omega, fun base F μ w args' hh hfree ha => ?_⟩
          cases ha with
          | cons hx hn =>
            cases hn
            cases hx with
            | sliceZ p p' => exact absurd rfl h0
            | sliceE p p' => exact absurd rfl h0
            | slice hl hnc hc ht =>
              rename_i c' l
              obtain ⟨e1, e2, e3, e4, e5⟩ := onStrs_ok hh hl hon
              have hle := Lib.compact_length_le ss
              have := hs l.blk (l.sh + o) c' ss w e2 (by omega) (by omega)
              rw [e1] at this
              refine Calls.mono this ?_
              rintro e w' ⟨rfl, q, rfl⟩
              rw [← e1, Lib.putRow_eq_setCells encStr w l.blk (l.sh + o) ss.toArray _ q e2 (by simp; omega)]
              obtain ⟨f1, f2⟩ := e5 q
              exact ⟨_, μ, rfl, ⟨MuLe.refl _, fun _ _ => rfl, f1, f2, by omega⟩, .slice hl (by omega) hc ht⟩
        · simp at he
  · simp at he

end Go.Proofs.Ytdhbclplondmjaa.C

end
