/- Texts of one's own, laid together: CTy, CPure, CSlice -/
import Derived.Test.YtdhbclplondmjaaQc01
import Derived.Laws.Entries
import Derived.Laws.Cells
import Derived.ChangeKeysEq
section
/- What the program's types must say for the abstract machine's table to hold, and the machine's questions about types. -/
set_option linter.unusedVariables false
set_option linter.unusedSimpArgs false
namespace Go.Proofs.Ytdhbclplondmjaa.C
open Go.RowKit

def DescOk (d : TypeDesc) : UD → Prop
  | .bool => d = .bool
  | .int k => d = .int k
  | .string => d = .string
  | .slice e => d = .slice e
  | .struct fs => ∃ fields : Array Field, d = .struct fields ∧ fields.toList.map (fun f => (f.type, f.offset)) = fs
  | .array n e => d = .array n e
  | .pointer e => d = .pointer e
  | .map k e => d = .map k e
  | .func => ∃ a b c, d = .func a b c
  | .iface => ∃ ms, d = .interface ms
  | .other => (match d with | .struct _ | .array _ _ => true | _ => false) = false

structure TyOk (P : Program) (t : TypeId) (i : TI) : Prop where
  info : ∃ inf, P.info? t = some inf ∧ inf.zero = some i.zero ∧ inf.size = i.size ∧ inf.bytes = i.bytes
  und : ∃ d, P.underlying t = some d ∧ DescOk d i.desc
  cells : (cellsOf i.zero).length = i.size
  plains : ∀ v ∈ cellsOf i.zero, plain v = true

/-- Structs of this type are compared cell by cell. -/
def EqOk (P : Program) (t : TypeId) (us : List UD) : Prop :=
  ∀ (xs ys : List Value) (r : Bool), aggEq us xs ys = some r → ∀ (w : World) (xo yo : Operand),
    (do eqGuard .eql t xo yo (.agg xs.toArray) (.agg ys.toArray); Go.binOp .eql t (.agg xs.toArray) (.agg ys.toArray)).run P w = .ok (.bool r) w ∧
    (do eqGuard .neq t xo yo (.agg xs.toArray) (.agg ys.toArray); Go.binOp .neq t (.agg xs.toArray) (.agg ys.toArray)).run P w = .ok (.bool (!r)) w

structure Agree (P : Program) (T : Tab) : Prop where
  eq : ∀ t us, T.eqs t = some us → EqOk P t us
  ty : ∀ t i, T.T t = some i → TyOk P t i
  fn : ∀ f c, T.fn f = some c → P.funcs[f]? = some c

variable {P : Program} {T : Tab}

theorem plain_vr (μ : Mu) {v : Value} (h : plain v = true) : VR μ v v := by
  cases v with
  | bool b => exact .bool b
  | int k n => exact .int k n
  | string s => exact .string s
  | pointer a => cases a with
    | none => exact .nilPtr
    | some a => simp [plain] at h
  | slice a n c =>
    unfold plain at h
    split at h <;> simp_all
    exact .nilSlice
  | map r => cases r with
    | none => exact .nilMap
    | some r => simp [plain] at h
  | nilFunc => exact .nilFunc
  | nilIface => exact .nilIface
  | _ => simp [plain] at h

theorem cellsOf_cells (v : Value) : v.cells.toList = cellsOf v := by cases v <;> rfl

theorem VR.cells {μ : Mu} {v v' : Value} (h : VR μ v v') (ho : v ≠ Go.undef) : VRs μ (cellsOf v) (cellsOf v') := by
  cases h with
  | undef => exact absurd rfl ho
  | skip => exact .cons .skip .nil
  | yield h => exact .cons (.yield h) .nil
  | agg h => simpa [cellsOf] using h
  | tuple h => exact .cons (.tuple h) .nil
  | bool => exact .cons (.bool _) .nil
  | int => exact .cons (.int _ _) .nil
  | string => exact .cons (.string _) .nil
  | nilPtr => exact .cons .nilPtr .nil
  | nilMap => exact .cons .nilMap .nil
  | nilFunc => exact .cons .nilFunc .nil
  | nilIface => exact .cons .nilIface .nil
  | nilSlice => exact .cons .nilSlice .nil
  | ptr h => exact .cons (.ptr h) .nil
  | slice h a b c => exact .cons (.slice h a b c) .nil
  | sliceZ => exact .cons (.sliceZ _ _) .nil
  | sliceE => exact .cons (.sliceE _ _) .nil
  | map h => exact .cons (.map h) .nil
  | func fn a b => exact .cons (.func fn a b) .nil
  | iface t h => exact .cons (.iface t h) .nil

theorem VR.one {μ : Mu} {v v' : Value} (h : VR μ v v') (ho : oneCell v = true) : v'.oneCell' = true := by
  cases h <;> first | rfl | simp [oneCell] at ho

theorem T_d {t : TypeId} {u : UD} (h : T.d t = some u) : ∃ i, T.T t = some i ∧ i.desc = u := by
  unfold Tab.d at h
  cases e : T.T t with
  | none => simp [e] at h
  | some i => simp [e] at h; exact ⟨i, rfl, h⟩

theorem Agree.d (ag : Agree P T) {t : TypeId} {u : UD} (h : T.d t = some u) : ∃ d, P.underlying t = some d ∧ DescOk d u := by
  obtain ⟨i, hi, rfl⟩ := T_d h
  exact (ag.ty t i hi).und

theorem run_typeInfo' {t : TypeId} {inf : TypeInfo} (h : P.info? t = some inf) (w : World) : (typeInfo t).run P w = .ok inf w := by
  simp [typeInfo, h]

theorem TyOk.sizeOf {t : TypeId} {i : TI} (h : TyOk P t i) (w : World) : (sizeOf t).run P w = .ok i.size w := by
  obtain ⟨inf, h1, _, h3, _⟩ := h.info
  simp [Go.sizeOf, run_typeInfo' h1, h3]

theorem TyOk.zero {t : TypeId} {i : TI} (h : TyOk P t i) (w : World) : (zeroValue t).run P w = .ok i.zero w := by
  obtain ⟨inf, h1, h2, _⟩ := h.info
  simp [zeroValue, run_typeInfo' h1, h2]

theorem TyOk.bytes {t : TypeId} {i : TI} (h : TyOk P t i) : ∃ inf, P.info? t = some inf ∧ inf.bytes = i.bytes := by
  obtain ⟨inf, h1, _, _, h4⟩ := h.info
  exact ⟨inf, h1, h4⟩

theorem TyOk.isAgg {t : TypeId} {i : TI} (h : TyOk P t i) (w : World) : (isAgg t).run P w = .ok i.agg w := by
  obtain ⟨d, h1, h2⟩ := h.und
  unfold Go.isAgg TI.agg
  cases e : i.desc <;> rw [e] at h2 <;> simp only [DescOk] at h2
  case other => cases d <;> simp at h2 <;> simp [run_underlying h1]
  case struct fs => obtain ⟨f, rfl, _⟩ := h2; simp [run_underlying h1]
  case func => obtain ⟨a, b, c, rfl⟩ := h2; simp [run_underlying h1]
  case iface => obtain ⟨a, rfl⟩ := h2; simp [run_underlying h1]
  all_goals (subst h2; simp [run_underlying h1])

end Go.Proofs.Ytdhbclplondmjaa.C

end

section
/- The operations on values alone: what the abstract machine says of them, the machine says too. -/
set_option linter.unusedVariables false
set_option linter.unusedSimpArgs false
namespace Go.Proofs.Ytdhbclplondmjaa.C
open Go.RowKit

variable {P : Program} {T : Tab} {μ : Mu}

theorem eqGuard_int (op : BinOp) (t : TypeId) (x y : Operand) (k k' : IntKind) (a b : Int) (w : World) : (eqGuard op t x y (.int k a) (.int k' b)).run P w = .ok () w := by
  unfold eqGuard; split <;> simp
theorem eqGuard_str (op : BinOp) (t : TypeId) (x y : Operand) (a b : ByteArray) (w : World) : (eqGuard op t x y (.string a) (.string b)).run P w = .ok () w := by
  unfold eqGuard; split <;> simp

theorem binInt_ok (op : BinOp) (k : IntKind) (a b : Int) (t : TypeId) {v : Value} (h1 : op ≠ .shl) (h2 : op ≠ .shr) (h : binInt op k a b = some v) (w : World) :
    (Go.binOp op t (.int k a) (.int k b)).run P w = .ok v w ∧ VR μ v v := by
  cases op <;> simp only [binInt, Option.some.injEq, reduceCtorEq, ne_eq, not_true_eq_false] at h h1 h2
  case quo => split at h <;> simp at h; subst h; rename_i hb; exact ⟨by simp [Go.binOp, Op.intDiv, hb], .int _ _⟩
  case rem => split at h <;> simp at h; subst h; rename_i hb; exact ⟨by simp [Go.binOp, Op.intDiv, hb], .int _ _⟩
  all_goals subst h; first | exact ⟨by simp [Go.binOp, Op.intArith, Op.intBits, Op.intCmp], .int _ _⟩ | exact ⟨by simp [Go.binOp, Op.intArith, Op.intBits, Op.intCmp], .bool _⟩

theorem binStr_ok (op : BinOp) (a b : ByteArray) (t : TypeId) {v : Value} (h : binStr op a b = some v) (w : World) :
    (Go.binOp op t (.string a) (.string b)).run P w = .ok v w ∧ VR μ v v := by
  have h3 : IntKind.i64.max = 9223372036854775807 := rfl
  cases op <;> simp only [binStr, Option.some.injEq, reduceCtorEq] at h
  case add =>
    split at h <;> simp at h
    subst h; rename_i hb
    rw [h3] at hb
    refine ⟨?_, .string _⟩
    simp [Go.binOp, Op.stringOp]
    omega
  all_goals subst h; exact ⟨by simp [Go.binOp, Op.stringOp], .bool _⟩

theorem equal_run {t : TypeId} {d : TypeDesc} (hd : P.underlying t = some d) (x y : Value) (w : World) (r : Bool)
    (h : ∀ n, (Op.equalIn (n + 1) t x y).run P w = .ok r w) : (Op.equal t x y).run P w = .ok r w := h 9999

/-- What a comparison comes to. -/
def EqRun (P : Program) (t : TypeId) (x y : Value) (r : Bool) (w : World) : Prop :=
  ∀ xo yo, (do eqGuard .eql t xo yo x y; Go.binOp .eql t x y).run P w = .ok (.bool r) w ∧ (do eqGuard .neq t xo yo x y; Go.binOp .neq t x y).run P w = .ok (.bool (!r)) w

theorem eqSliceL {t : TypeId} {e : TypeId} (n c m k : Nat) (a : Option Addr) (hd : P.underlying t = some (.slice e)) (w : World) : EqRun P t (.slice none n c) (.slice a m k) a.isNone w := by
  have he : (Op.equal t (.slice none n c) (.slice a m k)).run P w = .ok a.isNone w := equal_run hd _ _ w _ (fun n => by unfold Op.equalIn; simp [run_underlying hd])
  exact fun xo yo => ⟨by simp [eqGuard, Go.binOp, he], by simp [eqGuard, Go.binOp, he]⟩
theorem eqSliceR {t : TypeId} {e : TypeId} (n c m k : Nat) (a : Addr) (hd : P.underlying t = some (.slice e)) (w : World) : EqRun P t (.slice (some a) n c) (.slice none m k) false w := by
  have he : (Op.equal t (.slice (some a) n c) (.slice none m k)).run P w = .ok false w := equal_run hd _ _ w _ (fun n => by unfold Op.equalIn; simp [run_underlying hd])
  exact fun xo yo => ⟨by simp [eqGuard, Go.binOp, he], by simp [eqGuard, Go.binOp, he]⟩
theorem eqPtrL {t : TypeId} {e : TypeId} (a : Option Addr) (hd : P.underlying t = some (.pointer e)) (w : World) : EqRun P t (.pointer none) (.pointer a) a.isNone w := by
  have he : (Op.equal t (.pointer none) (.pointer a)).run P w = .ok a.isNone w := equal_run hd _ _ w _ (fun n => by unfold Op.equalIn; simp [run_underlying hd])
  exact fun xo yo => ⟨by simp [eqGuard, Go.binOp, he], by simp [eqGuard, Go.binOp, he]⟩
theorem eqPtrR {t : TypeId} {e : TypeId} (a : Addr) (hd : P.underlying t = some (.pointer e)) (w : World) : EqRun P t (.pointer (some a)) (.pointer none) false w := by
  have he : (Op.equal t (.pointer (some a)) (.pointer none)).run P w = .ok false w := equal_run hd _ _ w _ (fun n => by unfold Op.equalIn; simp [run_underlying hd])
  exact fun xo yo => ⟨by simp [eqGuard, Go.binOp, he], by simp [eqGuard, Go.binOp, he]⟩
theorem eqIfaceL {t : TypeId} {ms : Array (String × TypeId)} (u : TypeId) (v : Value) (hd : P.underlying t = some (.interface ms)) (w : World) : EqRun P t (.nilIface) (.iface u v) false w := by
  have he : (Op.equal t (.nilIface) (.iface u v)).run P w = .ok false w := equal_run hd _ _ w _ (fun n => by unfold Op.equalIn; simp [run_underlying hd])
  exact fun xo yo => ⟨by simp [eqGuard, Go.binOp, he], by simp [eqGuard, Go.binOp, he]⟩
theorem eqIfaceR {t : TypeId} {ms : Array (String × TypeId)} (u : TypeId) (v : Value) (hd : P.underlying t = some (.interface ms)) (w : World) : EqRun P t (.iface u v) (.nilIface) false w := by
  have he : (Op.equal t (.iface u v) (.nilIface)).run P w = .ok false w := equal_run hd _ _ w _ (fun n => by unfold Op.equalIn; simp [run_underlying hd])
  exact fun xo yo => ⟨by simp [eqGuard, Go.binOp, he], by simp [eqGuard, Go.binOp, he]⟩
theorem eqBool {t : TypeId} (a b : Bool) (hd : P.underlying t = some .bool) (w : World) : EqRun P t (.bool a) (.bool b) (a == b) w := by
  have he : (Op.equal t (.bool a) (.bool b)).run P w = .ok (a == b) w := equal_run hd _ _ w _ (fun n => by unfold Op.equalIn; simp [run_underlying hd])
  exact fun xo yo => ⟨by simp [eqGuard, Go.binOp, he], by simp [eqGuard, Go.binOp, he]⟩

theorem nilEq_ok {t : TypeId} {u : UD} {d : TypeDesc} (hd : P.underlying t = some d) (hu : DescOk d u) {x y x' y' : Value} (hx : VR μ x x') (hy : VR μ y y') {r : Bool} (h : nilEq u x y = some r) (w : World) :
    EqRun P t x' y' r w := by
  unfold nilEq at h
  split at h <;> simp only [Option.some.injEq, reduceCtorEq] at h <;> subst h <;> simp only [DescOk] at hu
  · subst hu; cases hx; cases hy <;> exact eqSliceL _ _ _ _ _ hd w
  · subst hu
    rename_i hne
    cases hy
    cases hx
    · exact (hne rfl).elim
    · exact eqSliceR _ _ _ _ _ hd w
    · exact eqSliceR _ _ _ _ _ hd w
    · exact eqSliceR _ _ _ _ _ hd w
  · subst hu; cases hx; cases hy <;> exact eqPtrL _ hd w
  · subst hu
    rename_i hne
    cases hy
    cases hx
    · exact (hne rfl).elim
    · exact eqPtrR _ hd w
  · obtain ⟨ms, rfl⟩ := hu; cases hx; cases hy; exact eqIfaceL _ _ hd w
  · obtain ⟨ms, rfl⟩ := hu; cases hx; cases hy; exact eqIfaceR _ _ hd w
  · subst hu; cases hx; cases hy; exact eqBool _ _ hd w

theorem aggEq_vr {μ : Mu} : ∀ {us : List UD} {l m l' m' : List Value} {r : Bool}, aggEq us l m = some r → VRs μ l l' → VRs μ m m' → l' = l ∧ m' = m
  | [], [], [], _, _, _, _, .nil, .nil => ⟨rfl, rfl⟩
  | .string :: us, .string a :: l, .string b :: m, _, _, _, h, .cons h1 t1, .cons h2 t2 => by
    simp only [aggEq, Option.map_eq_some_iff] at h
    obtain ⟨x, hx, _⟩ := h
    obtain ⟨rfl, rfl⟩ := aggEq_vr hx t1 t2
    cases h1; cases h2; exact ⟨rfl, rfl⟩
  | .int _ :: us, .int k1 a :: l, .int k2 b :: m, _, _, _, h, .cons h1 t1, .cons h2 t2 => by
    simp only [aggEq] at h
    split at h
    · rw [Option.map_eq_some_iff] at h
      obtain ⟨x, hx, _⟩ := h
      obtain ⟨rfl, rfl⟩ := aggEq_vr hx t1 t2
      cases h1; cases h2; exact ⟨rfl, rfl⟩
    · simp at h
  | .bool :: us, .bool a :: l, .bool b :: m, _, _, _, h, .cons h1 t1, .cons h2 t2 => by
    simp only [aggEq, Option.map_eq_some_iff] at h
    obtain ⟨x, hx, _⟩ := h
    obtain ⟨rfl, rfl⟩ := aggEq_vr hx t1 t2
    cases h1; cases h2; exact ⟨rfl, rfl⟩

theorem binOp_ok (ag : Agree P T) {op : BinOp} {t : TypeId} {x y x' y' v : Value} (hx : VR μ x x') (hy : VR μ y y') (h : binOp T op t x y = some v) (xo yo : Operand) (w : World) :
    (do eqGuard op t xo yo x' y'; Go.binOp op t x' y').run P w = .ok v w ∧ VR μ v v := by
  unfold binOp at h
  split at h
  · cases hx; cases hy
    rename_i k a k' b
    simp only [Sem.run_bind, eqGuard_int, Result.andThen_ok]
    split at h
    · split at h <;> simp at h; subst h; rename_i hb; exact ⟨by simp [Go.binOp, Op.shift]; intro h2; exact absurd h2 hb, .int _ _⟩
    · split at h <;> simp at h; subst h; rename_i hb; exact ⟨by simp [Go.binOp, Op.shift]; intro h2; exact absurd h2 hb, .int _ _⟩
    · split at h
      · rename_i hk; subst hk; exact binInt_ok op k a b t (by assumption) (by assumption) h w
      · simp at h
  · cases hx; cases hy
    simp only [Sem.run_bind, eqGuard_str, Result.andThen_ok]
    exact binStr_ok op _ _ t h w
  · cases hx with
    | agg h1 => cases hy with
      | agg h2 =>
        simp only at h
        split at h
        · rename_i r hr
          simp at h; subst h
          rw [Option.bind_eq_some_iff] at hr
          obtain ⟨us, hi, hr⟩ := hr
          obtain ⟨rfl, rfl⟩ := aggEq_vr hr h1 h2
          exact ⟨(ag.eq t us hi _ _ _ hr w xo yo).1, .bool _⟩
        · rename_i r hr
          simp at h; subst h
          rw [Option.bind_eq_some_iff] at hr
          obtain ⟨us, hi, hr⟩ := hr
          obtain ⟨rfl, rfl⟩ := aggEq_vr hr h1 h2
          exact ⟨(ag.eq t us hi _ _ _ hr w xo yo).2, .bool _⟩
        · simp at h
  · split at h
    · rename_i r hr
      simp at h; subst h
      rw [Option.bind_eq_some_iff] at hr
      obtain ⟨i, hi, hr⟩ := hr
      obtain ⟨d, hd, hu⟩ := (ag.ty t i hi).und
      exact ⟨(nilEq_ok hd hu hx hy hr w xo yo).1, .bool _⟩
    · rename_i r hr
      simp at h; subst h
      rw [Option.bind_eq_some_iff] at hr
      obtain ⟨i, hi, hr⟩ := hr
      obtain ⟨d, hd, hu⟩ := (ag.ty t i hi).und
      exact ⟨(nilEq_ok hd hu hx hy hr w xo yo).2, .bool _⟩
    · simp at h

theorem unOp_ok {op : UnOp} {x x' v : Value} (hx : VR μ x x') (h : unOp op x = some v) (w : World) : (Op.unary op x').run P w = .ok v w ∧ VR μ v v := by
  unfold unOp at h
  split at h <;> simp at h <;> subst h <;> cases hx
  · exact ⟨by simp [Op.unary, Op.intArith], .int _ _⟩
  · exact ⟨by simp [Op.unary], .bool _⟩
  · exact ⟨by simp [Op.unary, Op.intBits], .int _ _⟩

theorem vNilCheck_shape {x v : Value} (h : vNilCheck x = some v) : v = x := by
  unfold vNilCheck at h
  split at h <;> simp at h <;> exact h.symm

theorem vConvert_ok (ag : Agree P T) {src dst : TypeId} {x x' v : Value} (hx : VR μ x x') (h : vConvert T src dst x = some v) (w : World) : (Go.convert src dst x').run P w = .ok v w ∧ VR μ v v := by
  unfold vConvert at h
  split at h <;> simp at h
  · rename_i k0 k1 k2 n h1 h2
    obtain ⟨d1, e1, u1⟩ := ag.d h1
    obtain ⟨d2, e2, u2⟩ := ag.d h2
    simp only [DescOk] at u1 u2
    subst u1; subst u2; subst h; cases hx
    exact ⟨by simp [Go.convert, run_underlying e1, run_underlying e2, Conv.intToInt], .int _ _⟩
  · rename_i b h1 h2
    obtain ⟨d1, e1, u1⟩ := ag.d h1
    obtain ⟨d2, e2, u2⟩ := ag.d h2
    simp only [DescOk] at u1 u2
    subst u1; subst u2; subst h; cases hx
    exact ⟨by simp [Go.convert, run_underlying e1, run_underlying e2], .string _⟩

theorem vMakeIface_ok (ag : Agree P T) {t : TypeId} {x x' v : Value} (hx : VR μ x x') (h : vMakeIface T t x = some v) (w : World) : ∃ v', (Instr.makeInterface t x').run P w = .ok v' w ∧ VR μ v v' := by
  unfold vMakeIface at h
  split at h <;> simp at h
  rename_i u h1 h2 h3
  subst h
  obtain ⟨d, e, hu⟩ := ag.d h3
  refine ⟨.iface t x', ?_, .iface t hx⟩
  unfold Instr.makeInterface
  cases u <;> simp only [DescOk] at hu
  case iface => exact (h1 rfl).elim
  case other => exact (h2 rfl).elim
  case struct fs => obtain ⟨f, rfl, _⟩ := hu; simp [run_underlying e]
  case func => obtain ⟨a, b, c, rfl⟩ := hu; simp [run_underlying e]
  all_goals (subst hu; simp [run_underlying e])

theorem vFieldAddr_ok (ag : Agree P T) {t : TypeId} {x x' v : Value} {f : Nat} (hx : VR μ x x') (h : vFieldAddr T t x f = some v) (w : World) : ∃ v', (Instr.fieldAt t x' f).run P w = .ok v' w ∧ VR μ v v' := by
  unfold vFieldAddr at h
  simp only [Option.bind_eq_bind, Option.bind_eq_some_iff] at h
  obtain ⟨i, hi, h⟩ := h
  split at h
  · rename_i fs b o hdesc
    simp only [Option.bind_eq_some_iff] at h
    obtain ⟨g, hg, k, hk, h⟩ := h
    split at h <;> simp at h
    subst h
    rename_i hpos
    obtain ⟨d, hd, hu⟩ := (ag.ty t i hi).und
    rw [hdesc] at hu
    obtain ⟨fields, rfl, hfs⟩ := hu
    rw [← hfs, List.getElem?_map, Option.map_eq_some_iff] at hg
    obtain ⟨fl, hfl, rfl⟩ := hg
    have hfl' : fields[f]? = some fl := by simpa using hfl
    cases hx
    rename_i l hl
    refine ⟨.pointer (some ⟨l.blk, l.sh + (o + fl.offset), none⟩), ?_, .ptr hl⟩
    have hsz := (ag.ty _ k hk).sizeOf w
    have hadd : (⟨l.blk, l.sh + o, none⟩ : Addr).add fl.offset = ⟨l.blk, l.sh + (o + fl.offset), none⟩ := by unfold Addr.add; split <;> simp_all <;> omega
    simp [Instr.fieldAt, run_underlying hd, hfl', Instr.sureAddr, fieldPlace, hsz, hadd, Nat.pos_iff_ne_zero.1 hpos]
  · simp at h

theorem part_run (ag : Agree P T) {t : TypeId} {k : TI} (hk : T.T t = some k) {cs : List Value} {off : Nat} {v : Value}
    (h : (if k.agg = true then (if off + k.size ≤ cs.length then some (Value.agg ((cs.drop off).take k.size).toArray) else none) else cs[off]?) = some v) {cs' : List Value} (hcs : VRs μ cs cs') (w : World) :
    ∃ v', (part t cs'.toArray off).run P w = .ok v' w ∧ VR μ v v' := by
  unfold part
  by_cases ha : k.agg = true
  · rw [if_pos ha] at h
    split at h <;> simp at h
    subst h
    refine ⟨.agg ((cs'.drop off).take k.size).toArray, ?_, .agg ((hcs.drop off).take _)⟩
    have hz := (ag.ty t k hk)
    simp [hz.isAgg w, ha, hz.sizeOf w, List.extract_eq_take_drop]
  · rw [if_neg ha] at h
    obtain ⟨v', e, hv⟩ := hcs.get off v h
    refine ⟨v', ?_, hv⟩
    have hz := (ag.ty t k hk)
    simp [hz.isAgg w, ha, e]

theorem vField_ok (ag : Agree P T) {t : TypeId} {x x' v : Value} {f : Nat} (hx : VR μ x x') (h : vField T t x f = some v) (w : World) : ∃ v', (Instr.field t x' f).run P w = .ok v' w ∧ VR μ v v' := by
  unfold vField at h
  simp only [Option.bind_eq_bind, Option.bind_eq_some_iff] at h
  obtain ⟨i, hi, h⟩ := h
  split at h
  · rename_i fs cs hdesc
    simp only [Option.bind_eq_some_iff] at h
    obtain ⟨g, hg, k, hk, h⟩ := h
    obtain ⟨d, hd, hu⟩ := (ag.ty t i hi).und
    rw [hdesc] at hu
    obtain ⟨fields, rfl, hfs⟩ := hu
    rw [← hfs, List.getElem?_map, Option.map_eq_some_iff] at hg
    obtain ⟨fl, hfl, rfl⟩ := hg
    have hfl' : fields[f]? = some fl := by simpa using hfl
    cases hx
    rename_i c c' hc
    obtain ⟨v', hp, hv⟩ := part_run ag hk (by simpa using h) hc w
    exact ⟨v', by simp [Instr.field, run_underlying hd, hfl', asAgg, hp], hv⟩
  · simp at h

theorem vIndex_ok (ag : Agree P T) {t : TypeId} {x i x' i' v : Value} (hx : VR μ x x') (hi : VR μ i i') (h : vIndex T t x i = some v) (w : World) : (Instr.index t x' i').run P w = .ok v w ∧ VR μ v v := by
  unfold vIndex at h
  split at h
  · rename_i b k j h1
    split at h
    · rename_i hj
      rw [Option.map_eq_some_iff] at h
      obtain ⟨c, hc, rfl⟩ := h
      obtain ⟨d, e, u⟩ := ag.d h1
      simp only [DescOk] at u
      subst u; cases hx; cases hi
      have hb : b[j.toNat]? = some c := by
        have hlt : j.toNat < b.data.toList.length := (List.getElem?_eq_some_iff.1 hc).1
        have h2 : j.toNat < b.size := by simpa using hlt
        rw [getElem?_pos b j.toNat h2]
        simp only [Option.some.injEq]
        have := (List.getElem?_eq_some_iff.1 hc).2
        rw [← this]; simp; rfl
      exact ⟨by simp [Instr.index, asIntOf, run_underlying e, hj, hb], .int _ _⟩
    · simp at h
  · simp at h

theorem vExtract_ok {x x' v : Value} {i : Nat} (hx : VR μ x x') (h : vExtract x i = some v) (w : World) : ∃ v', (Instr.extract x' i).run P w = .ok v' w ∧ VR μ v v' := by
  unfold vExtract at h
  split at h
  · cases hx
    · simp at h
    · rename_i c c' hc
      obtain ⟨v', e, hv⟩ := hc.get i v (by simpa using h)
      exact ⟨v', by simp [Instr.extract, e], hv⟩
  · simp at h

theorem vAssert_ok (ag : Agree P T) {x x' v : Value} {t xt : TypeId} (hx : VR μ x x') (h : vAssert T x t = some v) (w : World) : ∃ v', (Instr.typeAssert x' xt t false).run P w = .ok v' w ∧ VR μ v v' := by
  unfold vAssert at h
  split at h <;> try simp at h
  rename_i ud u y h1 h2 h3
  obtain ⟨rfl, rfl⟩ := h
  obtain ⟨d, e, hu⟩ := ag.d h3
  cases hx
  rename_i y' hy
  refine ⟨y', ?_, hy⟩
  unfold Instr.typeAssert
  cases ud <;> simp only [DescOk] at hu
  all_goals first
    | exact (h1 rfl).elim
    | exact (h2 rfl).elim
    | (obtain ⟨f, rfl, _⟩ := hu; simp [run_underlying e])
    | (obtain ⟨a, b, c, rfl⟩ := hu; simp [run_underlying e])
    | (subst hu; simp [run_underlying e])

theorem vLen_ok (ag : Agree P T) {t : TypeId} {ts : Array TypeId} {x x' v : Value} {ty : TypeId} (ht : ts[0]? = some t) (hx : VR μ x x') (h : vLen T t x = some v) (w : World) : (Builtin.len_ ts ty #[x']).run P w = .ok v w ∧ VR μ v v := by
  unfold vLen at h
  split at h <;> simp at h <;> subst h
  · rename_i b h1
    obtain ⟨d, e, u⟩ := ag.d h1
    simp only [DescOk] at u
    subst u; cases hx
    exact ⟨by simp [Builtin.len_, ht, run_underlying e, goInt], .int _ _⟩
  · rename_i el a n c h1
    obtain ⟨d, e, u⟩ := ag.d h1
    simp only [DescOk] at u
    subst u
    cases hx <;> exact ⟨by simp [Builtin.len_, ht, run_underlying e, goInt], .int _ _⟩

end Go.Proofs.Ytdhbclplondmjaa.C

end

section
/- Cuts of strings and slices, addresses of elements. -/
set_option linter.unusedVariables false
set_option linter.unusedSimpArgs false
namespace Go.Proofs.Ytdhbclplondmjaa.C
open Go.RowKit

variable {P : Program} {T : Tab} {μ : Mu} {base : Nat} {F : Nat → Prop} {H : Heap} {w : World}

theorem bnd_le {v : Value} {y k : Nat} (h : bnd v y = some k) : k ≤ y := by
  unfold bnd at h
  split at h
  · split at h <;> simp at h
    subst h
    omega
  · simp at h

theorem bnd_run (P : Program) {v v' : Value} {y k : Nat} (hv : VR μ v v') (h : bnd v y = some k) {y' : Nat} (hy : y ≤ y') (code : BoundsCode) (w : World) :
    (Instr.sliceBound v' y' code).run P w = .ok k w := by
  unfold bnd at h
  split at h
  · split at h <;> simp at h
    subst h
    cases hv
    rename_i k i hi
    have h2 : 0 ≤ i ∧ i ≤ (y' : Int) := ⟨hi.1, by omega⟩
    simp [Instr.sliceBound, asIntOf, h2]
  · simp at h

/-- Optional values, related. -/
def VRo (μ : Mu) : Option Value → Option Value → Prop
  | none, none => True
  | some v, some v' => VR μ v v'
  | _, _ => False

theorem add_loc (l : Loc) (o k : Nat) : (⟨l.blk, l.sh + o, none⟩ : Addr).add k = ⟨l.blk, l.sh + (o + k), none⟩ := by
  unfold Addr.add; split <;> simp_all <;> omega

theorem szAt_loc (h : HR base F μ H w) {b sz : Nat} {l : Loc} (hs : szAt H b = some sz) (hl : μ b = some l) : l.sz = sz := by
  unfold szAt at hs
  split at hs <;> simp at hs
  subst hs
  rename_i cs own heq
  cases own with
  | true => exact (h.own b _ cs l heq hl).1
  | false => exact (h.ro b _ cs l heq hl).1

theorem cutSlice_ok (h : HR base F μ H w) {sz n c l hh : Nat} {a : Option Addr} {m : Option Nat} {v x' : Value} (hx : VR μ (.slice a n c) x') (hc : cutSlice H sz a n c l hh m = some v)
    (hlh : l ≤ hh) (hm : ∀ k, m = some k → hh ≤ k ∧ k ≤ if c = unk then n else c) (hn : m = none → hh ≤ if c = unk then n else c) :
    ∃ a' c', x' = .slice a' n c' ∧ (if c = unk then n else c) ≤ c' ∧ VR μ v (.slice (if m.getD c' = l then a' else a'.map (·.add (l * sz))) (hh - l) (m.getD c' - l)) := by
  have hunk : unk = 18446744073709551616 := rfl
  unfold cutSlice at hc
  cases hx with
  | nilSlice =>
    simp at hc
    subst hc
    have hcu : ¬ ((0 : Nat) = unk) := by rw [hunk]; omega
    refine ⟨none, 0, rfl, by rw [if_neg hcu]; exact Nat.le_refl _, ?_⟩
    have e3 : hh = 0 := by
      cases m with
      | none => have := hn rfl; rw [if_neg hcu] at this; omega
      | some k => have := hm k rfl; rw [if_neg hcu] at this; omega
    have e2 : m.getD 0 = 0 := by
      cases m with
      | none => rfl
      | some k => have := hm k rfl; rw [if_neg hcu] at this; simp; omega
    subst e3
    rw [e2]
    simpa using VR.nilSlice
  | sliceZ p p' =>
    have h0 : ¬ ((0 : Nat) = unk) := by rw [hunk]; omega
    refine ⟨some p', 0, rfl, by rw [if_neg h0]; exact Nat.le_refl _, ?_⟩
    · obtain ⟨b, o, sp⟩ := p
      cases sp with
      | some q => simp at hc
      | none =>
        cases m with
        | some k =>
          have h1 := hm k rfl
          rw [if_neg h0] at h1
          have e1 : k = 0 := by omega
          have e2 : l = 0 := by omega
          have e3 : hh = 0 := by omega
          subst e1; subst e2; subst e3
          simp at hc; subst hc
          simpa using VR.sliceZ _ _
        | none =>
          have h1 := hn rfl
          rw [if_neg h0] at h1
          have e2 : l = 0 := by omega
          have e3 : hh = 0 := by omega
          subst e2; subst e3
          simp [h0] at hc; subst hc
          simpa using VR.sliceZ _ _
  | sliceE p p' =>
    refine ⟨some p', 0, rfl, by rw [if_pos rfl]; exact Nat.le_refl _, ?_⟩
    · obtain ⟨b, o, sp⟩ := p
      cases sp with
      | some q => simp at hc
      | none =>
        cases m with
        | some k =>
          have h1 := hm k rfl
          rw [if_pos rfl] at h1
          have e1 : k = 0 := by omega
          have e2 : l = 0 := by omega
          have e3 : hh = 0 := by omega
          subst e1; subst e2; subst e3
          simp at hc; subst hc
          simpa using VR.sliceZ _ _
        | none =>
          have h1 := hn rfl
          rw [if_pos rfl] at h1
          have e2 : l = 0 := by omega
          have e3 : hh = 0 := by omega
          subst e2; subst e3
          have h0 : ¬ (unk = 0) := by rw [hunk]; omega
          simp [h0] at hc
          obtain ⟨_, rfl⟩ := hc
          simpa using VR.sliceE _ _
  | slice hl hnn hcc ht =>
    rename_i b o c' l0
    have hle : (if c = unk then n else c) ≤ c' := by
      rcases hcc with rfl | rfl
      · rw [if_pos rfl]; exact hnn
      · split <;> omega
    refine ⟨some ⟨l0.blk, l0.sh + o, none⟩, c', rfl, hle, ?_⟩
    cases m with
    | some k =>
      simp only at hc
      by_cases hkl : k = l
      · rw [if_pos hkl] at hc
        simp at hc; subst hc
        have h1 := (hm k rfl).1
        simp only [Option.getD_some, if_pos hkl]
        rw [show hh - l = 0 by omega, show k - l = 0 by omega]
        exact VR.sliceZ _ _
      · rw [if_neg hkl] at hc
        split at hc <;> simp at hc
        rename_i hsz
        subst hc
        have e := szAt_loc h hsz hl
        simp only [Option.getD_some, if_neg hkl, Option.map_some, add_loc]
        have hk2 := Nat.le_trans (hm k rfl).2 hle
        have hk1 := (hm k rfl).1
        refine VR.slice hl (by omega) (.inr rfl) ?_
        rw [e] at ht ⊢
        have : (k - l) * sz + l * sz = k * sz := by rw [← Nat.add_mul]; congr 1; omega
        have h3 : k * sz ≤ c' * sz := Nat.mul_le_mul_right _ hk2
        omega
    | none =>
      simp only at hc
      have hh2 := Nat.le_trans (hn rfl) hle
      simp only [Option.getD_none]
      by_cases hcl : c = l ∧ c ≠ unk
      · rw [if_pos hcl] at hc
        simp at hc; subst hc
        rcases hcc with hcu | rfl
        · exact absurd hcu hcl.2
        · rw [if_pos hcl.1, show hh - l = 0 by omega, show c - l = 0 by omega]
          exact VR.sliceZ _ _
      · rw [if_neg hcl] at hc
        split at hc <;> simp at hc
        rename_i hsz
        subst hc
        have e := szAt_loc h hsz hl
        by_cases hcl2 : c' = l
        · rw [if_pos hcl2]
          rcases hcc with hcu | rfl
          · rw [if_pos hcu, show hh - l = 0 by omega, show c' - l = 0 by omega]
            exact VR.sliceE _ _
          · by_cases hcu : c = unk
            · rw [if_pos hcu, show hh - l = 0 by omega, show c - l = 0 by omega]
              exact VR.sliceE _ _
            · exact absurd ⟨hcl2, hcu⟩ hcl
        · rw [if_neg hcl2]
          simp only [Option.map_some, add_loc]
          refine VR.slice hl (by omega) ?_ ?_
          · rcases hcc with hcu | rfl
            · exact .inl (by rw [if_pos hcu])
            · by_cases hcu : c = unk
              · exact .inl (by rw [if_pos hcu])
              · exact .inr (by rw [if_neg hcu])
          · rw [e] at ht ⊢
            have : (c' - l) * sz + l * sz = c' * sz := by rw [← Nat.add_mul]; congr 1; omega
            omega

theorem opt_run (P : Program) {lo lo' : Option Value} {d y k y' : Nat} (h : (match (generalizing := false) lo with | some v => bnd v y | none => some d) = some k) (hlo : VRo μ lo lo') (hy : y ≤ y') (code : BoundsCode) (w : World) :
    (match (generalizing := false) lo' with | some v => Instr.sliceBound v y' code | none => pure d : Sem Nat).run P w = .ok k w := by
  cases lo <;> cases lo'
  · simp at h; subst h; simp
  · exact hlo.elim
  · exact hlo.elim
  · exact bnd_run P hlo h hy code w

theorem opt_le {lo : Option Value} {y k : Nat} (h : (match lo with | some v => bnd v y | none => some 0) = some k) : k ≤ y := by
  cases lo with
  | none => simp at h; omega
  | some v => exact bnd_le h

theorem opt_le' {lo : Option Value} {n y k : Nat} (hn : n ≤ y) (h : (match lo with | some v => bnd v y | none => some n) = some k) : k ≤ y := by
  cases lo with
  | none => simp at h; omega
  | some v => exact bnd_le h

theorem bounds_none (P : Program) (isS : Bool) {len cap n l hh : Nat} {lo' hi' : Option Value} (w : World)
    (h1 : (match hi' with | some v => Instr.sliceBound v cap (if isS then .sliceAcap else .sliceAlen) | none => pure len : Sem Nat).run P w = .ok hh w)
    (h2 : (match lo' with | some v => Instr.sliceBound v hh .sliceB | none => pure 0 : Sem Nat).run P w = .ok l w) :
    (Instr.sliceBounds isS len cap lo' hi' none).run P w = .ok (l, hh, cap) w := by
  cases hi' <;> cases lo' <;> simp_all [Instr.sliceBounds]

theorem bounds_some (P : Program) {len cap l hh m : Nat} {lo' : Option Value} {hv mv : Value} (w : World)
    (h0 : (Instr.sliceBound mv cap .slice3Acap).run P w = .ok m w) (h1 : (Instr.sliceBound hv m .slice3B).run P w = .ok hh w)
    (h2 : (match lo' with | some v => Instr.sliceBound v hh .slice3C | none => pure 0 : Sem Nat).run P w = .ok l w) :
    (Instr.sliceBounds true len cap lo' (some hv) (some mv)).run P w = .ok (l, hh, m) w := by
  cases lo' <;> simp_all [Instr.sliceBounds]

theorem VR.len_le {a : Option Addr} {n c : Nat} {x' : Value} (h : VR μ (.slice a n c) x') : n ≤ if c = unk then n else c := by
  cases h with
  | nilSlice => exact Nat.zero_le _
  | sliceZ => exact Nat.zero_le _
  | sliceE => exact Nat.zero_le _
  | slice hl hn hc ht => rcases hc with rfl | rfl
                         · rw [if_pos rfl]; exact Nat.le_refl _
                         · split <;> omega

theorem sliceVal_ok (ag : Agree P T) (h : HR base F μ H w) {t : TypeId} {x x' v : Value} {lo hi mx lo' hi' mx' : Option Value} (hx : VR μ x x') (hlo : VRo μ lo lo') (hhi : VRo μ hi hi') (hmx : VRo μ mx mx')
    (hv : sliceVal T H t x lo hi mx = some v) : ∃ v', (Instr.sliceAt t x' lo' hi' mx').run P w = .ok v' w ∧ VR μ v v' := by
  unfold sliceVal at hv
  split at hv
  · rename_i s hd
    obtain ⟨d, e, u⟩ := ag.d hd
    simp only [DescOk] at u
    subst u
    cases hx
    cases mx with
    | some q => simp at hv
    | none =>
      cases mx' with
      | some q => exact hmx.elim
      | none =>
        simp only [Option.bind_eq_some_iff] at hv
        obtain ⟨k, hk, l, hl, hv⟩ := hv
        simp at hv; subst hv
        have hb := bounds_none P false (len := s.size) (cap := s.size) (n := 0) w (by simpa using opt_run P hk hhi (Nat.le_refl _) .sliceAlen w) (opt_run P hl hlo (Nat.le_refl _) .sliceB w)
        exact ⟨_, by simp [Instr.sliceAt, Instr.slice, run_underlying e, hb], .string _⟩
  · rename_i el a n c hd
    obtain ⟨d, e, u⟩ := ag.d hd
    simp only [DescOk] at u
    subst u
    rw [Option.bind_eq_some_iff] at hv
    obtain ⟨ei, hei, hv⟩ := hv
    have hsz := (ag.ty el ei hei).sizeOf w
    cases mx with
    | some q =>
      cases mx' with
      | none => exact hmx.elim
      | some q' =>
        simp only [Option.bind_eq_some_iff] at hv
        obtain ⟨m, hm, k, hk, l, hl, hv⟩ := hv
        cases hi with
        | none => simp at hk
        | some r =>
          cases hi' with
          | none => exact hhi.elim
          | some r' =>
            simp only at hk
            obtain ⟨a', c', rfl, g1, g3⟩ := cutSlice_ok h hx hv (opt_le hl) (fun k' e => by simp at e; subst e; exact ⟨bnd_le hk, bnd_le hm⟩) (fun e => by simp at e)
            have hb := bounds_some P (len := n) (cap := c') w (bnd_run P hmx hm g1 _ w) (bnd_run P hhi hk (Nat.le_refl _) _ w) (opt_run P hl hlo (Nat.le_refl _) .slice3C w)
            refine ⟨_, ?_, g3⟩
            simp [Instr.sliceAt, Instr.slice, run_underlying e, hb, hsz]
    | none =>
      cases mx' with
      | some q => exact hmx.elim
      | none =>
        simp only [Option.bind_eq_some_iff] at hv
        obtain ⟨k, hk, l, hl, hv⟩ := hv
        have hkn : k ≤ if c = unk then n else c := by
          cases hi with
          | some r => exact bnd_le hk
          | none =>
            simp at hk; subst hk
            exact hx.len_le
        obtain ⟨a', c', rfl, g1, g3⟩ := cutSlice_ok h hx hv (opt_le hl) (fun k' e => by simp at e) (fun _ => hkn)
        have hb := bounds_none P true (len := n) (cap := c') (n := 0) w (by simpa using opt_run P hk hhi g1 .sliceAcap w) (opt_run P hl hlo (Nat.le_refl _) .sliceB w)
        refine ⟨_, ?_, g3⟩
        simp [Instr.sliceAt, Instr.slice, run_underlying e, hb, hsz]
  · simp at hv

theorem indexAddr_ok (ag : Agree P T) (h : HR base F μ H w) {t : TypeId} {x i x' i' v : Value} (hx : VR μ x x') (hi : VR μ i i') (hv : indexAddr T t x i = some v) :
    ∃ v', (Instr.indexAt t x' i').run P w = .ok v' w ∧ VR μ v v' := by
  unfold indexAddr at hv
  split at hv
  · rename_i el b o n c k i hd
    split at hv
    · rename_i ei hei
      split at hv <;> simp at hv
      subst hv
      rename_i hc
      obtain ⟨d, e, u⟩ := ag.d hd
      simp only [DescOk] at u
      subst u
      cases hi
      have hz := (ag.ty el ei hei).sizeOf w
      cases hx with
      | slice hl hn hcc ht =>
        rename_i c' l
        refine ⟨_, ?_, .ptr hl⟩
        simp [Instr.indexAt, asIntOf, run_underlying e, hc.1, hc.2.1, hz, add_loc]
      | sliceZ => exfalso; omega
      | sliceE => exfalso; omega
    · simp at hv
  · rename_i n el b o k i hd
    split at hv
    · rename_i ei hei
      split at hv <;> simp at hv
      subst hv
      rename_i hc
      obtain ⟨d, e, u⟩ := ag.d hd
      simp only [DescOk] at u
      subst u
      cases hi
      have hz := (ag.ty el ei hei).sizeOf w
      cases hx with
      | ptr hl =>
        rename_i l
        refine ⟨_, ?_, .ptr hl⟩
        simp [Instr.indexAt, asIntOf, run_underlying e, hc.1, hc.2.1, hz, add_loc, Instr.sureAddr]
    · simp at hv
  · simp at hv

end Go.Proofs.Ytdhbclplondmjaa.C

end
