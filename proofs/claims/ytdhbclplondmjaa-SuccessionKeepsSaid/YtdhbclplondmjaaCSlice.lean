/- Cuts of strings and slices, addresses of elements. -/
import Derived.Test.YtdhbclplondmjaaCPure
set_option linter.unusedVariables false
set_option linter.unusedSimpArgs false
namespace Go.Proofs.Ytdhbclplondmjaa.C
open Go.RowKit

variable {P : Program} {T : Tab} {μ : Mu} {base : Nat} {F : Nat → Prop} {H : Heap} {w : World}

theorem bnd_le {v : Value} {y k : Nat} (h : bnd v y = some k) : k ≤ y := by
  unfold bnd at h
  split at h
  · split at h <;> simp at h
    subst h
    omega
  · simp at h

theorem bnd_run (P : Program) {v v' : Value} {y k : Nat} (hv : VR μ v v') (h : bnd v y = some k) {y' : Nat} (hy : y ≤ y') (code : BoundsCode) (w : World) :
    (Instr.sliceBound v' y' code).run P w = .ok k w := by
  unfold bnd at h
  split at h
  · split at h <;> simp at h
    subst h
    cases hv
    rename_i k i hi
    have h2 : 0 ≤ i ∧ i ≤ (y' : Int) := ⟨hi.1, by omega⟩
    simp [Instr.sliceBound, asIntOf, h2]
  · simp at h

/-- Optional values, related. -/
def VRo (μ : Mu) : Option Value → Option Value → Prop
  | none, none => True
  | some v, some v' => VR μ v v'
  | _, _ => False

theorem add_loc (l : Loc) (o k : Nat) : (⟨l.blk, l.sh + o, none⟩ : Addr).add k = ⟨l.blk, l.sh + (o + k), none⟩ := by
  unfold Addr.add; split <;> simp_all <;> omega

theorem szAt_loc (h : HR base F μ H w) {b sz : Nat} {l : Loc} (hs : szAt H b = some sz) (hl : μ b = some l) : l.sz = sz := by
  unfold szAt at hs
  split at hs <;> simp at hs
  subst hs
  rename_i cs own heq
  cases own with
  | true => exact (h.own b _ cs l heq hl).1
  | false => exact (h.ro b _ cs l heq hl).1

theorem cutSlice_ok (h : HR base F μ H w) {sz n c l hh : Nat} {a : Option Addr} {m : Option Nat} {v x' : Value} (hx : VR μ (.slice a n c) x') (hc : cutSlice H sz a n c l hh m = some v)
    (hlh : l ≤ hh) (hm : ∀ k, m = some k → hh ≤ k ∧ k ≤ if c = unk then n else c) (hn : m = none → hh ≤ if c = unk then n else c) :
    ∃ a' c', x' = .slice a' n c' ∧ (if c = unk then n else c) ≤ c' ∧ VR μ v (.slice (if m.getD c' = l then a' else a'.map (·.add (l * sz))) (hh - l) (m.getD c' - l)) := by
  have hunk : unk = 18446744073709551616 := rfl
  unfold cutSlice at hc
  cases hx with
  | nilSlice =>
    simp at hc
    subst hc
    have hcu : ¬ ((0 : Nat) = unk) := by rw [hunk]; omega
    refine ⟨none, 0, rfl, by rw [if_neg hcu]; exact Nat.le_refl _, ?_⟩
    have e3 : hh = 0 := by
      cases m with
      | none => have := hn rfl; rw [if_neg hcu] at this; omega
      | some k => have := hm k rfl; rw [if_neg hcu] at this; omega
    have e2 : m.getD 0 = 0 := by
      cases m with
      | none => rfl
      | some k => have := hm k rfl; rw [if_neg hcu] at this; simp; omega
    subst e3
    rw [e2]
    simpa using VR.nilSlice
  | sliceZ p p' =>
    have h0 : ¬ ((0 : Nat) = unk) := by rw [hunk]; omega
    refine ⟨some p', 0, rfl, by rw [if_neg h0]; exact Nat.le_refl _, ?_⟩
    · obtain ⟨b, o, sp⟩ := p
      cases sp with
      | some q => simp at hc
      | none =>
        cases m with
        | some k =>
          have h1 := hm k rfl
          rw [if_neg h0] at h1
          have e1 : k = 0 := by omega
          have e2 : l = 0 := by omega
          have e3 : hh = 0 := by omega
          subst e1; subst e2; subst e3
          simp at hc; subst hc
          simpa using VR.sliceZ _ _
        | none =>
          have h1 := hn rfl
          rw [if_neg h0] at h1
          have e2 : l = 0 := by omega
          have e3 : hh = 0 := by omega
          subst e2; subst e3
          simp [h0] at hc; subst hc
          simpa using VR.sliceZ _ _
  | sliceE p p' =>
    refine ⟨some p', 0, rfl, by rw [if_pos rfl]; exact Nat.le_refl _, ?_⟩
    · obtain ⟨b, o, sp⟩ := p
      cases sp with
      | some q => simp at hc
      | none =>
        cases m with
        | some k =>
          have h1 := hm k rfl
          rw [if_pos rfl] at h1
          have e1 : k = 0 := by omega
          have e2 : l = 0 := by omega
          have e3 : hh = 0 := by omega
          subst e1; subst e2; subst e3
          simp at hc; subst hc
          simpa using VR.sliceZ _ _
        | none =>
          have h1 := hn rfl
          rw [if_pos rfl] at h1
          have e2 : l = 0 := by omega
          have e3 : hh = 0 := by omega
          subst e2; subst e3
          have h0 : ¬ (unk = 0) := by rw [hunk]; omega
          simp [h0] at hc
          obtain ⟨_, rfl⟩ := hc
          simpa using VR.sliceE _ _
  | slice hl hnn hcc ht =>
    rename_i b o c' l0
    have hle : (if c = unk then n else c) ≤ c' := by
      rcases hcc with rfl | rfl
      · rw [if_pos rfl]; exact hnn
      · split <;> omega
    refine ⟨some ⟨l0.blk, l0.sh + o, none⟩, c', rfl, hle, ?_⟩
    cases m with
    | some k =>
      simp only at hc
      by_cases hkl : k = l
      · rw [if_pos hkl] at hc
        simp at hc; subst hc
        have h1 := (hm k rfl).1
        simp only [Option.getD_some, if_pos hkl]
        rw [show hh - l = 0 by omega, show k - l = 0 by omega]
        exact VR.sliceZ _ _
      · rw [if_neg hkl] at hc
        split at hc <;> simp at hc
        rename_i hsz
        subst hc
        have e := szAt_loc h hsz hl
        simp only [Option.getD_some, if_neg hkl, Option.map_some, add_loc]
        have hk2 := Nat.le_trans (hm k rfl).2 hle
        have hk1 := (hm k rfl).1
        refine VR.slice hl (by omega) (.inr rfl) ?_
        rw [e] at ht ⊢
        have : (k - l) * sz + l * sz = k * sz := by rw [← Nat.add_mul]; congr 1; omega
        have h3 : k * sz ≤ c' * sz := Nat.mul_le_mul_right _ hk2
        omega
    | none =>
      simp only at hc
      have hh2 := Nat.le_trans (hn rfl) hle
      simp only [Option.getD_none]
      by_cases hcl : c = l ∧ c ≠ unk
      · rw [if_pos hcl] at hc
        simp at hc; subst hc
        rcases hcc with hcu | rfl
        · exact absurd hcu hcl.2
        · rw [if_pos hcl.1, show hh - l = 0 by omega, show c - l = 0 by omega]
          exact VR.sliceZ _ _
      · rw [if_neg hcl] at hc
        split at hc <;> simp at hc
        rename_i hsz
        subst hc
        have e := szAt_loc h hsz hl
        by_cases hcl2 : c' = l
        · rw [if_pos hcl2]
          rcases hcc with hcu | rfl
          · rw [if_pos hcu, show hh - l = 0 by omega, show c' - l = 0 by omega]
            exact VR.sliceE _ _
          · by_cases hcu : c = unk
            · rw [if_pos hcu, show hh - l = 0 by omega, show c - l = 0 by omega]
              exact VR.sliceE _ _
            · exact absurd ⟨hcl2, hcu⟩ hcl
        · rw [if_neg hcl2]
          simp only [Option.map_some, add_loc]
          refine VR.slice hl (by omega) ?_ ?_
          · rcases hcc with hcu | rfl
            · exact .inl (by rw [if_pos hcu])
            · by_cases hcu : c = unk
              · exact .inl (by rw [if_pos hcu])
              · exact .inr (by rw [if_neg hcu])
          · rw [e] at ht ⊢
            have : (c' - l) * sz + l * sz = c' * sz := by rw [← Nat.add_mul]; congr 1; omega
            omega

theorem opt_run (P : Program) {lo lo' : Option Value} {d y k y' : Nat} (h : (match (generalizing := false) lo with | some v => bnd v y | none => some d) = some k) (hlo : VRo μ lo lo') (hy : y ≤ y') (code : BoundsCode) (w : World) :
    (match (generalizing := false) lo' with | some v => Instr.sliceBound v y' code | none => pure d : Sem Nat).run P w = .ok k w := by
  cases lo <;> cases lo'
  · simp at h; subst h; simp
  · exact hlo.elim
  · exact hlo.elim
  · exact bnd_run P hlo h hy code w

theorem opt_le {lo : Option Value} {y k : Nat} (h : (match lo with | some v => bnd v y | none => some 0) = some k) : k ≤ y := by
  cases lo with
  | none => simp at h; omega
  | some v => exact bnd_le h

theorem opt_le' {lo : Option Value} {n y k : Nat} (hn : n ≤ y) (h : (match lo with | some v => bnd v y | none => some n) = some k) : k ≤ y := by
  cases lo with
  | none => simp at h; omega
  | some v => exact bnd_le h

theorem bounds_none (P : Program) (isS : Bool) {len cap n l hh : Nat} {lo' hi' : Option Value} (w : World)
    (h1 : (match hi' with | some v => Instr.sliceBound v cap (if isS then .sliceAcap else .sliceAlen) | none => pure len : Sem Nat).run P w = .ok hh w)
    (h2 : (match lo' with | some v => Instr.sliceBound v hh .sliceB | none => pure 0 : Sem Nat).run P w = .ok l w) :
    (Instr.sliceBounds isS len cap lo' hi' none).run P w = .ok (l, hh, cap) w := by
  cases hi' <;> cases lo' <;> simp_all [Instr.sliceBounds]

theorem bounds_some (P : Program) {len cap l hh m : Nat} {lo' : Option Value} {hv mv : Value} (w : World)
    (h0 : (Instr.sliceBound mv cap .slice3Acap).run P w = .ok m w) (h1 : (Instr.sliceBound hv m .slice3B).run P w = .ok hh w)
    (h2 : (match lo' with | some v => Instr.sliceBound v hh .slice3C | none => pure 0 : Sem Nat).run P w = .ok l w) :
    (Instr.sliceBounds true len cap lo' (some hv) (some mv)).run P w = .ok (l, hh, m) w := by
  cases lo' <;> simp_all [Instr.sliceBounds]

theorem VR.len_le {a : Option Addr} {n c : Nat} {x' : Value} (h : VR μ (.slice a n c) x') : n ≤ if c = unk then n else c := by
  cases h with
  | nilSlice => exact Nat.zero_le _
  | sliceZ => exact Nat.zero_le _
  | sliceE => exact Nat.zero_le _
  | slice hl hn hc ht => rcases hc with rfl | rfl
                         · rw [if_pos rfl]; exact Nat.le_refl _
                         · split <;> omega

theorem sliceVal_ok (ag : Agree P T) (h : HR base F μ H w) {t : TypeId} {x x' v : Value} {lo hi mx lo' hi' mx' : Option Value} (hx : VR μ x x') (hlo : VRo μ lo lo') (hhi : VRo μ hi hi') (hmx : VRo μ mx mx')
    (hv : sliceVal T H t x lo hi mx = some v) : ∃ v', (Instr.sliceAt t x' lo' hi' mx').run P w = .ok v' w ∧ VR μ v v' := by
  unfold sliceVal at hv
  split at hv
  · rename_i s hd
    obtain ⟨d, e, u⟩ := ag.d hd
    simp only [DescOk] at u
    subst u
    cases hx
    cases mx with
    | some q => simp at hv
    | none =>
      cases mx' with
      | some q => exact hmx.elim
      | none =>
        simp only [Option.bind_eq_some_iff] at hv
        obtain ⟨k, hk, l, hl, hv⟩ := hv
        simp at hv; subst hv
        have hb := bounds_none P false (len := s.size) (cap := s.size) (n := 0) w (by simpa using opt_run P hk hhi (Nat.le_refl _) .sliceAlen w) (opt_run P hl hlo (Nat.le_refl _) .sliceB w)
        exact ⟨_, by simp [Instr.sliceAt, Instr.slice, run_underlying e, hb], .string _⟩
  · rename_i el a n c hd
    obtain ⟨d, e, u⟩ := ag.d hd
    simp only [DescOk] at u
    subst u
    rw [Option.bind_eq_some_iff] at hv
    obtain ⟨ei, hei, hv⟩ := hv
    have hsz := (ag.ty el ei hei).sizeOf w
    cases mx with
    | some q =>
      cases mx' with
      | none => exact hmx.elim
      | some q' =>
        simp only [Option.bind_eq_some_iff] at hv
        obtain ⟨m, hm, k, hk, l, hl, hv⟩ := hv
        cases hi with
        | none => simp at hk
        | some r =>
          cases hi' with
          | none => exact hhi.elim
          | some r' =>
            simp only at hk
            obtain ⟨a', c', rfl, g1, g3⟩ := cutSlice_ok h hx hv (opt_le hl) (fun k' e => by simp at e; subst e; exact ⟨bnd_le hk, bnd_le hm⟩) (fun e => by simp at e)
            have hb := bounds_some P (len := n) (cap := c') w (bnd_run P hmx hm g1 _ w) (bnd_run P hhi hk (Nat.le_refl _) _ w) (opt_run P hl hlo (Nat.le_refl _) .slice3C w)
            refine ⟨_, ?_, g3⟩
            simp [Instr.sliceAt, Instr.slice, run_underlying e, hb, hsz]
    | none =>
      cases mx' with
      | some q => exact hmx.elim
      | none =>
        simp only [Option.bind_eq_some_iff] at hv
        obtain ⟨k, hk, l, hl, hv⟩ := hv
        have hkn : k ≤ if c = unk then n else c := by
          cases hi with
          | some r => exact bnd_le hk
          | none =>
            simp at hk; subst hk
            exact hx.len_le
        obtain ⟨a', c', rfl, g1, g3⟩ := cutSlice_ok h hx hv (opt_le hl) (fun k' e => by simp at e) (fun _ => hkn)
        have hb := bounds_none P true (len := n) (cap := c') (n := 0) w (by simpa using opt_run P hk hhi g1 .sliceAcap w) (opt_run P hl hlo (Nat.le_refl _) .sliceB w)
        refine ⟨_, ?_, g3⟩
        simp [Instr.sliceAt, Instr.slice, run_underlying e, hb, hsz]
  · simp at hv

theorem indexAddr_ok (ag : Agree P T) (h : HR base F μ H w) {t : TypeId} {x i x' i' v : Value} (hx : VR μ x x') (hi : VR μ i i') (hv : indexAddr T t x i = some v) :
    ∃ v', (Instr.indexAt t x' i').run P w = .ok v' w ∧ VR μ v v' := by
  unfold indexAddr at hv
  split at hv
  · rename_i el b o n c k i hd
    split at hv
    · rename_i ei hei
      split at hv <;> simp at hv
      subst hv
      rename_i hc
      obtain ⟨d, e, u⟩ := ag.d hd
      simp only [DescOk] at u
      subst u
      cases hi
      have hz := (ag.ty el ei hei).sizeOf w
      cases hx with
      | slice hl hn hcc ht =>
        rename_i c' l
        refine ⟨_, ?_, .ptr hl⟩
        simp [Instr.indexAt, asIntOf, run_underlying e, hc.1, hc.2.1, hz, add_loc]
      | sliceZ => exfalso; omega
      | sliceE => exfalso; omega
    · simp at hv
  · rename_i n el b o k i hd
    split at hv
    · rename_i ei hei
      split at hv <;> simp at hv
      subst hv
      rename_i hc
      obtain ⟨d, e, u⟩ := ag.d hd
      simp only [DescOk] at u
      subst u
      cases hi
      have hz := (ag.ty el ei hei).sizeOf w
      cases hx with
      | ptr hl =>
        rename_i l
        refine ⟨_, ?_, .ptr hl⟩
        simp [Instr.indexAt, asIntOf, run_underlying e, hc.1, hc.2.1, hz, add_loc, Instr.sureAddr]
    · simp at hv
  · simp at hv

end Go.Proofs.Ytdhbclplondmjaa.C
