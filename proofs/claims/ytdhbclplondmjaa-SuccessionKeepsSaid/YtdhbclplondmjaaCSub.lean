/- A call that is run in a small memory of its own: what it reads is copied in, what it makes is taken over. -/
import Derived.Test.YtdhbclplondmjaaCPx
set_option linter.unusedVariables false
set_option linter.unusedSimpArgs false
namespace Go.Proofs.Ytdhbclplondmjaa.C
open Go.RowKit

variable {P : Program} {T : Tab}

def takeArgs (H : Heap) : Nat → List Value → Option (List Value × Heap)
  | _, [] => some ([], [])
  | j, .slice (some ⟨b, o, none⟩) n c :: l =>
    match H[b]? with
    | some (.row sz _ _ true) =>
      if n = 0 then none else
      match readCells H b o (n * sz) with
      | some cs => if plains cs then (takeArgs H (j + 1) l).map fun r => (.slice (some ⟨j, 0, none⟩) n unk :: r.1, .row sz cs false true :: r.2) else none
      | none => none
    | _ => none
  | j, v :: l => if flat v then (takeArgs H j l).map fun r => (v :: r.1, r.2) else none

def rn (k h : Nat) : Value → Option Value
  | .slice (some ⟨b, o, none⟩) n c => if k ≤ b then some (.slice (some ⟨b - k + h, o, none⟩) n c) else none
  | v => if plain v then some v else none

def rns (k h : Nat) : List Value → Option (List Value)
  | [] => some []
  | v :: l => match rn k h v, rns k h l with
    | some u, some r => some (u :: r)
    | _, _ => none

def rnV (k h : Nat) : Value → Option Value
  | .tuple cs => (rns k h cs.toList).map fun l => .tuple l.toArray
  | v => rn k h v

def rnB (k h : Nat) : Blk → Blk
  | .row sz cs true true => match rns k h cs with
    | some l => .row sz l true true
    | none => .row 0 [] false false
  | _ => .row 0 [] false false

def subX (call : CallF) (f : FuncId) : List Value → Heap → Option (Value × Heap) := fun args H =>
  match takeArgs H 0 args with
  | some (as, S) =>
    match call f as S with
    | some (v, S2) => (rnV S.length H.length v).map fun u => (u, H ++ (S2.drop S.length).map (rnB S.length H.length))
    | none => none
  | none => none

theorem takeArgs_ok {base : Nat} {F : Nat → Prop} {μ : Mu} {H : Heap} {w : World} (h : HR base F μ H w) : ∀ {args args' as : List Value} {S0 S : Heap} {μ0 : Mu}, VRs μ args args' → takeArgs H S0.length args = some (as, S) →
    HR w.heap.size (fun _ => False) μ0 S0 w → (∀ b, S0.length ≤ b → μ0 b = none) →
    ∃ μ1, MuLe μ0 μ1 ∧ HR w.heap.size (fun _ => False) μ1 (S0 ++ S) w ∧ VRs μ1 as args' ∧ (∀ b, (S0 ++ S).length ≤ b → μ1 b = none)
  | [], _, as, S0, S, μ0, .nil, he, h0, hf => by
    simp only [takeArgs, Option.some.injEq, Prod.mk.injEq] at he
    obtain ⟨rfl, rfl⟩ := he
    exact ⟨μ0, MuLe.refl _, by simpa using h0, .nil, by simpa using hf⟩
  | v :: l, _, as, S0, S, μ0, .cons (v' := v') (l' := l') hv ht, he, h0, hf => by
    unfold takeArgs at he
    split at he
    · simp at *
    · rename_i heq
      simp only [List.cons.injEq] at heq
      obtain ⟨rfl, rfl⟩ := heq
      split at he
      · rename_i b o n c _ sz all own hb
        split at he
        · simp at he
        · rename_i hn0
          split at he
          · rename_i cs hcs
            split at he
            · rename_i hpl
              rw [Option.map_eq_some_iff] at he
              obtain ⟨⟨r1, r2⟩, hr, he⟩ := he
              simp only [Prod.mk.injEq] at he
              obtain ⟨rfl, rfl⟩ := he
              cases hv with
              | sliceZ p p' => exact absurd rfl hn0
              | sliceE p p' => exact absurd rfl hn0
              | slice hl hnc hc htop =>
                rename_i c' L
                obtain ⟨hlen, cs', hrr, hcell⟩ := readCells_ok h hcs hl
                have hcs' := plains_eq hpl hrr
                subst hcs'
                have hlt : L.blk < w.heap.size ∧ L.sz = sz := by
                  cases own with
                  | true => exact ⟨(h.mine_lt hb rfl hl).1, (h.own _ _ _ _ hb hl).1⟩
                  | false =>
                    obtain ⟨a, b', _⟩ := h.ro _ _ _ _ hb hl
                    exact ⟨Nat.lt_of_lt_of_le b' h.base_le, a⟩
                let L0 : Loc := ⟨L.blk, L.sh + o, L.top, sz⟩
                have h1 : HR w.heap.size (fun _ => False) (μ0.set S0.length L0) (S0 ++ [.row sz cs' false true]) w := by
                  have hm : MuLe μ0 (μ0.set S0.length L0) := Mu.le_set (hf _ (Nat.le_refl _))
                  have key : ∀ {b : Nat} {x : Blk} {l : Loc}, (S0 ++ [Blk.row sz cs' false true])[b]? = some x → (μ0.set S0.length L0) b = some l → (x = .row sz cs' false true ∧ l = L0) ∨ (S0[b]? = some x ∧ μ0 b = some l) := by
                    intro b x l hb hl
                    rw [getElem?_snoc] at hb
                    by_cases e : b = S0.length
                    · subst e; rw [if_pos rfl] at hb; rw [Mu.set_same] at hl; simp at hb hl; exact .inl ⟨hb.symm, hl.symm⟩
                    · rw [if_neg e] at hb; rw [Mu.set_ne _ _ e] at hl; exact .inr ⟨hb, hl⟩
                  refine ⟨?_, ?_, ?_, ?_, fun _ z => z.elim, Nat.le_refl _⟩
                  · intro b sz2 cs2 l hb hl
                    rcases key hb hl with ⟨hx, _⟩ | ⟨hb, hl⟩
                    · simp at hx
                    · obtain ⟨a, c, d, e⟩ := h0.own b sz2 cs2 l hb hl
                      exact ⟨a, c, d, e.mono hm rfl⟩
                  · intro b sz2 cs2 l hb hl
                    rcases key hb hl with ⟨hx, rfl⟩ | ⟨hb, hl⟩
                    · simp only [Blk.row.injEq, and_true] at hx
                      obtain ⟨rfl, rfl⟩ := hx
                      refine ⟨rfl, hlt.1, fun i v hv => ⟨v, ?_, plain_vr _ ?_⟩⟩
                      · simpa [L0] using hcell i v hv
                      · have : ∀ {cs : List Value}, plains cs = true → ∀ v ∈ cs, plain v = true := by
                          intro cs
                          induction cs with
                          | nil => intro _ v hv; simp at hv
                          | cons a l ih =>
                            intro hp v hv
                            simp only [plains, Bool.and_eq_true] at hp
                            rcases List.mem_cons.1 hv with rfl | hv
                            · exact hp.1
                            · exact ih hp.2 v hv
                        exact this hpl v (List.mem_of_getElem? hv)
                    · obtain ⟨a, c, d⟩ := h0.ro b sz2 cs2 l hb hl
                      exact ⟨a, c, fun i v hv => let ⟨v', x, y⟩ := d i v hv; ⟨v', x, y.mono hm⟩⟩
                  · intro b es l hb hl
                    rcases key hb hl with ⟨hx, _⟩ | ⟨hb, hl⟩
                    · simp at hx
                    · obtain ⟨a, c, d⟩ := h0.maps b es l hb hl
                      exact ⟨a, c, d.mono hm rfl⟩
                  · intro b b' k k' l l' hb hb' hk hk' hne hl hl'
                    rcases key hb hl with ⟨hx, _⟩ | ⟨hb, hl⟩
                    · subst hx; simp [Blk.mine] at hk
                    · rcases key hb' hl' with ⟨hx, _⟩ | ⟨hb', hl'⟩
                      · subst hx; simp [Blk.mine] at hk'
                      · exact h0.inj b b' k k' l l' hb hb' hk hk' hne hl hl'
                have hr' : takeArgs H (S0 ++ [Blk.row sz cs' false true]).length l = some (r1, r2) := by simpa using hr
                obtain ⟨μ1, k1, k2, k3, k4⟩ := takeArgs_ok h ht hr' h1 (fun b hb => by
                  simp at hb
                  rw [Mu.set_ne _ _ (by omega)]
                  exact hf b (by omega))
                refine ⟨μ1, (Mu.le_set (hf _ (Nat.le_refl _))).trans k1, by simpa using k2, .cons ?_ k3, by simpa using k4⟩
                have hμ : μ1 S0.length = some L0 := k1 _ _ (Mu.set_same _ _ _)
                have := VR.slice (μ := μ1) (b := S0.length) (o := 0) (n := n) (c := unk) (c' := c') hμ hnc (.inl rfl) (by simp [L0, ← hlt.2]; omega)
                simpa [L0] using this
            · simp at he
          · simp at he
      · simp at he
    · rename_i heq
      simp only [List.cons.injEq] at heq
      obtain ⟨rfl, rfl⟩ := heq
      split at he
      · rename_i hfl
        rw [Option.map_eq_some_iff] at he
        obtain ⟨⟨r1, r2⟩, hr, he⟩ := he
        simp only [Prod.mk.injEq] at he
        obtain ⟨rfl, rfl⟩ := he
        obtain ⟨μ1, k1, k2, k3, k4⟩ := takeArgs_ok h ht hr h0 hf
        refine ⟨μ1, k1, k2, .cons ?_ k3, k4⟩
        rw [flat_eq hfl hv]
        exact flat_refl hfl
      · simp at he

theorem rn_ok {k h : Nat} {μ2 μ3 : Mu} (hμ : ∀ b l, k ≤ b → μ2 b = some l → μ3 (b - k + h) = some l) {v u v' : Value} (hr : rn k h v = some u) (hv : VR μ2 v v') : VR μ3 u v' := by
  unfold rn at hr
  split at hr
  · split at hr
    · rename_i hk
      simp only [Option.some.injEq] at hr
      subst hr
      cases hv with
      | slice hl hn hc ht => exact .slice (hμ _ _ hk hl) hn hc ht
      | sliceZ a a' => exact .sliceZ _ _
      | sliceE a a' => exact .sliceE _ _
    · simp at hr
  · split at hr
    · rename_i hp
      simp only [Option.some.injEq] at hr
      subst hr
      rw [plain_eq hp hv]
      exact plain_vr _ hp
    · simp at hr

theorem rns_ok {k h : Nat} {μ2 μ3 : Mu} (hμ : ∀ b l, k ≤ b → μ2 b = some l → μ3 (b - k + h) = some l) : ∀ {vs us vs' : List Value}, rns k h vs = some us → VRs μ2 vs vs' → VRs μ3 us vs'
  | [], _, _, hr, .nil => by simp [rns] at hr; subst hr; exact .nil
  | v :: l, _, _, hr, .cons hv ht => by
    unfold rns at hr
    split at hr
    · rename_i u r h1 h2
      simp only [Option.some.injEq] at hr
      subst hr
      exact .cons (rn_ok hμ h1 hv) (rns_ok hμ h2 ht)
    · simp at hr

theorem rns_get {k h : Nat} : ∀ {vs us : List Value}, rns k h vs = some us → ∀ (i : Nat) (u : Value), us[i]? = some u → ∃ v, vs[i]? = some v ∧ rn k h v = some u
  | [], _, hr, i, u, hu => by simp [rns] at hr; subst hr; simp at hu
  | v :: l, _, hr, i, u, hu => by
    unfold rns at hr
    split at hr
    · rename_i u1 r h1 h2
      simp only [Option.some.injEq] at hr
      subst hr
      cases i with
      | zero => simp at hu; subst hu; exact ⟨v, rfl, h1⟩
      | succ i => exact rns_get h2 i u (by simpa using hu)
    · simp at hr

theorem rnV_ok {k h : Nat} {μ2 μ3 : Mu} (hμ : ∀ b l, k ≤ b → μ2 b = some l → μ3 (b - k + h) = some l) {v u v' : Value} (hr : rnV k h v = some u) (hv : VR μ2 v v') : VR μ3 u v' := by
  unfold rnV at hr
  split at hr
  · rw [Option.map_eq_some_iff] at hr
    obtain ⟨l, hl, rfl⟩ := hr
    cases hv with
    | undef v =>
      simp [rns] at hl
      subst hl
      exact .undef _
    | tuple hc => exact .tuple (rns_ok hμ (by simpa using hl) hc)
  · exact rn_ok hμ hr hv

theorem subX_ok {call : CallF} (hc : SoundCall P call) (f : FuncId) : ExtOk P f (subX call f) := by
  intro args H v H1 he
  unfold subX at he
  split at he
  · rename_i as S hta
    split at he
    · rename_i v2 S2 hcall
      rw [Option.map_eq_some_iff] at he
      obtain ⟨u, hu, he⟩ := he
      simp only [Prod.mk.injEq] at he
      obtain ⟨rfl, rfl⟩ := he
      refine ⟨by simp, fun base F μ w args' hh hfree ha => ?_⟩
      have h0 : HR w.heap.size (fun _ => False) (fun _ => none) [] w := ⟨fun b _ _ _ hb => by simp at hb, fun b _ _ _ hb => by simp at hb, fun b _ _ hb => by simp at hb, fun b _ _ _ _ _ hb => by simp at hb, fun _ h => h.elim, Nat.le_refl _⟩
      obtain ⟨μ1, k1, k2, k3, k4⟩ := takeArgs_ok hh (S0 := []) ha hta h0 (fun _ _ => rfl)
      simp only [List.nil_append] at k2 k4
      refine Calls.mono (hc.calls f as S _ _ hcall w.heap.size (fun _ => False) μ1 w args' k2 (fun b hb _ => k4 b hb) k3) ?_
      rintro e w' ⟨v', μ2, rfl, g, hv'⟩
      have hl2 := g.len
      have hblk : ∀ k, k < w.heap.size → w'.heap[k]? = w.heap[k]? := fun k hk => g.fr.block k (.inl hk)
      have hlen : (H ++ (S2.drop S.length).map (rnB S.length H.length)).length = H.length + (S2.length - S.length) := by simp
      rw [hlen] at hfree
      let μ3 : Mu := fun b => if H.length ≤ b ∧ b < H.length + (S2.length - S.length) then μ2 (b - H.length + S.length) else μ b
      have hle : MuLe μ μ3 := by
        intro b l hb
        simp only [μ3]
        rw [if_neg]
        · exact hb
        · rintro ⟨h1, h2⟩
          rw [hfree b h1 h2] at hb
          simp at hb
      have hμ3 : ∀ b l, S.length ≤ b → μ2 b = some l → μ3 (b - S.length + H.length) = some l := by
        intro b l hb hl
        have hb2 : b < S2.length := by
          rcases Nat.lt_or_ge b S2.length with q | q
          · exact q
          · rw [g.same b (.inr q), k4 b hb] at hl
            simp at hl
        simp only [μ3]
        rw [if_pos ⟨by omega, by omega⟩, show b - S.length + H.length - H.length + S.length = b by omega]
        exact hl
      have h' := hh.world hblk g.fr.size
      have key : ∀ {b : Nat} {x : Blk} {l : Loc}, (H ++ (S2.drop S.length).map (rnB S.length H.length))[b]? = some x → μ3 b = some l →
          (b < H.length ∧ H[b]? = some x ∧ μ b = some l) ∨ (H.length ≤ b ∧ ∃ y, S2[b - H.length + S.length]? = some y ∧ rnB S.length H.length y = x ∧ μ2 (b - H.length + S.length) = some l) := by
        intro b x l hb hl
        rcases Nat.lt_or_ge b H.length with hlt | hge
        · rw [List.getElem?_append_left hlt] at hb
          simp only [μ3] at hl
          rw [if_neg (by omega)] at hl
          exact .inl ⟨hlt, hb, hl⟩
        · rw [List.getElem?_append_right hge, List.getElem?_map, Option.map_eq_some_iff] at hb
          obtain ⟨y, hy, e⟩ := hb
          rw [List.getElem?_drop] at hy
          have hlt2 := (List.getElem?_eq_some_iff.1 hy).1
          simp only [μ3] at hl
          rw [if_pos ⟨hge, by omega⟩] at hl
          exact .inr ⟨hge, y, by rw [← hy]; congr 1; omega, e, hl⟩
      have rowOf : ∀ {y : Blk} {sz : Nat} {cs : List Value} {own : Bool}, rnB S.length H.length y = .row sz cs own true → ∃ cs0, y = .row sz cs0 true true ∧ rns S.length H.length cs0 = some cs ∧ own = true := by
        intro y sz cs own hy
        unfold rnB at hy
        split at hy
        · split at hy
          · rename_i hr
            simp only [Blk.row.injEq, and_true] at hy
            obtain ⟨rfl, rfl, rfl⟩ := hy
            exact ⟨_, rfl, hr, rfl⟩
          · simp at hy
        · simp at hy
      have noMap : ∀ {y : Blk} {es : List (Value × Value)}, rnB S.length H.length y ≠ .map es := by
        intro y es hy
        unfold rnB at hy
        split at hy
        · split at hy <;> simp at hy
        · simp at hy
      have mineOf : ∀ {y x : Blk}, rnB S.length H.length y = x → x.mine = true → y.mine = true := by
        intro y x hy hx
        cases x with
        | map es => exact absurd hy noMap
        | row sz cs own live =>
          simp [Blk.mine] at hx
          obtain ⟨rfl, rfl⟩ := hx
          obtain ⟨cs0, rfl, _, _⟩ := rowOf hy
          rfl
      have hr3 : HR base F μ3 (H ++ (S2.drop S.length).map (rnB S.length H.length)) w' := by
        refine ⟨?_, ?_, ?_, ?_, h'.far, h'.base_le⟩
        · intro b sz cs l hb hl
          rcases key hb hl with ⟨_, hb, hl⟩ | ⟨_, y, hy, hyx, hl⟩
          · obtain ⟨a, c, d, e⟩ := h'.own b sz cs l hb hl
            exact ⟨a, c, d, e.mono hle rfl⟩
          · obtain ⟨cs0, rfl, hrs, _⟩ := rowOf hyx
            obtain ⟨a, c, d, arr, e, fr, g1, g2, g3, g4⟩ := g.hr.own _ _ _ _ hy hl
            refine ⟨a, Nat.le_trans hh.base_le c, fun q => by have := hh.far _ q; omega, arr, e, fr, g1, g2, g3, fun i u hu => ?_⟩
            obtain ⟨v0, hv0, hrn⟩ := rns_get hrs i u hu
            obtain ⟨v1, e1, e2⟩ := g4 i v0 hv0
            exact ⟨v1, e1, rn_ok hμ3 hrn e2⟩
        · intro b sz cs l hb hl
          rcases key hb hl with ⟨_, hb, hl⟩ | ⟨_, y, hy, hyx, hl⟩
          · obtain ⟨a, c, d⟩ := h'.ro b sz cs l hb hl
            exact ⟨a, c, fun i v hv => let ⟨v', x, y⟩ := d i v hv; ⟨v', x, y.mono hle⟩⟩
          · obtain ⟨cs0, rfl, hrs, q⟩ := rowOf hyx
            simp at q
        · intro b es l hb hl
          rcases key hb hl with ⟨_, hb, hl⟩ | ⟨_, y, hy, hyx, hl⟩
          · obtain ⟨a, c, d⟩ := h'.maps b es l hb hl
            exact ⟨a, c, d.mono hle rfl⟩
          · exact absurd hyx noMap
        · intro b b' x x' l l' hb hb' hx hx' hne hl hl'
          rcases key hb hl with ⟨_, hb, hl2⟩ | ⟨hg, y, hy, hyx, hl2⟩ <;> rcases key hb' hl' with ⟨_, hb', hl2'⟩ | ⟨hg', y', hy', hyx', hl2'⟩
          · exact hh.inj b b' x x' l l' hb hb' hx hx' hne hl2 hl2'
          · have := (hh.mine_lt hb hx hl2).1
            have := (g.hr.mine_lt hy' (mineOf hyx' hx') hl2').2.1
            omega
          · have := (hh.mine_lt hb' hx' hl2').1
            have := (g.hr.mine_lt hy (mineOf hyx hx) hl2).2.1
            omega
          · exact g.hr.inj _ _ y y' l l' hy hy' (mineOf hyx hx) (mineOf hyx' hx') (by omega) hl2 hl2'
      refine ⟨v', μ3, rfl, ⟨hle, fun b hb => ?_, hr3, ?_, by simp⟩, rnV_ok hμ3 hu hv'⟩
      · simp only [μ3]
        rw [hlen] at hb
        rw [if_neg (by omega)]
      · exact ⟨g.fr.os, g.fr.tape, g.fr.output, g.fr.size, fun k hk => hblk k (hk.elim (fun q => Nat.lt_of_lt_of_le q hh.base_le) (hh.far k))⟩
    · simp at he
  · simp at he

end Go.Proofs.Ytdhbclplondmjaa.C
