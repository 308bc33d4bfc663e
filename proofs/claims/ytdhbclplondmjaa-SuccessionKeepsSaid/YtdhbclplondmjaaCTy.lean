/- What the program's types must say for the abstract machine's table to hold, and the machine's questions about types. -/
import Derived.Test.YtdhbclplondmjaaCDef
import Derived.Laws.Entries
import Derived.Laws.Cells
import Derived.ChangeKeysEq
set_option linter.unusedVariables false
set_option linter.unusedSimpArgs false
namespace Go.Proofs.Ytdhbclplondmjaa.C
open Go.RowKit

def DescOk (d : TypeDesc) : UD → Prop
  | .bool => d = .bool
  | .int k => d = .int k
  | .string => d = .string
  | .slice e => d = .slice e
  | .struct fs => ∃ fields : Array Field, d = .struct fields ∧ fields.toList.map (fun f => (f.type, f.offset)) = fs
  | .array n e => d = .array n e
  | .pointer e => d = .pointer e
  | .map k e => d = .map k e
  | .func => ∃ a b c, d = .func a b c
  | .iface => ∃ ms, d = .interface ms
  | .other => (match d with | .struct _ | .array _ _ => true | _ => false) = false

structure TyOk (P : Program) (t : TypeId) (i : TI) : Prop where
  info : ∃ inf, P.info? t = some inf ∧ inf.zero = some i.zero ∧ inf.size = i.size ∧ inf.bytes = i.bytes
  und : ∃ d, P.underlying t = some d ∧ DescOk d i.desc
  cells : (cellsOf i.zero).length = i.size
  plains : ∀ v ∈ cellsOf i.zero, plain v = true

structure Agree (P : Program) (T : Tab) : Prop where
  ty : ∀ t i, T.T t = some i → TyOk P t i
  fn : ∀ f c, T.fn f = some c → P.funcs[f]? = some c

variable {P : Program} {T : Tab}

theorem plain_vr (μ : Mu) {v : Value} (h : plain v = true) : VR μ v v := by
  cases v with
  | bool b => exact .bool b
  | int k n => exact .int k n
  | string s => exact .string s
  | pointer a => cases a with
    | none => exact .nilPtr
    | some a => simp [plain] at h
  | slice a n c =>
    unfold plain at h
    split at h <;> simp_all
    exact .nilSlice
  | map r => cases r with
    | none => exact .nilMap
    | some r => simp [plain] at h
  | nilFunc => exact .nilFunc
  | nilIface => exact .nilIface
  | _ => simp [plain] at h

theorem cellsOf_cells (v : Value) : v.cells.toList = cellsOf v := by cases v <;> rfl

theorem VR.cells {μ : Mu} {v v' : Value} (h : VR μ v v') (ho : v ≠ Go.undef) : VRs μ (cellsOf v) (cellsOf v') := by
  cases h with
  | undef => exact absurd rfl ho
  | skip => exact .cons .skip .nil
  | yield h => exact .cons (.yield h) .nil
  | agg h => simpa [cellsOf] using h
  | tuple h => exact .cons (.tuple h) .nil
  | bool => exact .cons (.bool _) .nil
  | int => exact .cons (.int _ _) .nil
  | string => exact .cons (.string _) .nil
  | nilPtr => exact .cons .nilPtr .nil
  | nilMap => exact .cons .nilMap .nil
  | nilFunc => exact .cons .nilFunc .nil
  | nilIface => exact .cons .nilIface .nil
  | nilSlice => exact .cons .nilSlice .nil
  | ptr h => exact .cons (.ptr h) .nil
  | slice h a b c => exact .cons (.slice h a b c) .nil
  | sliceZ => exact .cons (.sliceZ _ _) .nil
  | sliceE => exact .cons (.sliceE _ _) .nil
  | map h => exact .cons (.map h) .nil
  | func fn a b => exact .cons (.func fn a b) .nil
  | iface t h => exact .cons (.iface t h) .nil

theorem VR.one {μ : Mu} {v v' : Value} (h : VR μ v v') (ho : oneCell v = true) : v'.oneCell' = true := by
  cases h <;> first | rfl | simp [oneCell] at ho

theorem T_d {t : TypeId} {u : UD} (h : T.d t = some u) : ∃ i, T.T t = some i ∧ i.desc = u := by
  unfold Tab.d at h
  cases e : T.T t with
  | none => simp [e] at h
  | some i => simp [e] at h; exact ⟨i, rfl, h⟩

theorem Agree.d (ag : Agree P T) {t : TypeId} {u : UD} (h : T.d t = some u) : ∃ d, P.underlying t = some d ∧ DescOk d u := by
  obtain ⟨i, hi, rfl⟩ := T_d h
  exact (ag.ty t i hi).und

theorem run_typeInfo' {t : TypeId} {inf : TypeInfo} (h : P.info? t = some inf) (w : World) : (typeInfo t).run P w = .ok inf w := by
  simp [typeInfo, h]

theorem TyOk.sizeOf {t : TypeId} {i : TI} (h : TyOk P t i) (w : World) : (sizeOf t).run P w = .ok i.size w := by
  obtain ⟨inf, h1, _, h3, _⟩ := h.info
  simp [Go.sizeOf, run_typeInfo' h1, h3]

theorem TyOk.zero {t : TypeId} {i : TI} (h : TyOk P t i) (w : World) : (zeroValue t).run P w = .ok i.zero w := by
  obtain ⟨inf, h1, h2, _⟩ := h.info
  simp [zeroValue, run_typeInfo' h1, h2]

theorem TyOk.bytes {t : TypeId} {i : TI} (h : TyOk P t i) : ∃ inf, P.info? t = some inf ∧ inf.bytes = i.bytes := by
  obtain ⟨inf, h1, _, _, h4⟩ := h.info
  exact ⟨inf, h1, h4⟩

theorem TyOk.isAgg {t : TypeId} {i : TI} (h : TyOk P t i) (w : World) : (isAgg t).run P w = .ok i.agg w := by
  obtain ⟨d, h1, h2⟩ := h.und
  unfold Go.isAgg TI.agg
  cases e : i.desc <;> rw [e] at h2 <;> simp only [DescOk] at h2
  case other => cases d <;> simp at h2 <;> simp [run_underlying h1]
  case struct fs => obtain ⟨f, rfl, _⟩ := h2; simp [run_underlying h1]
  case func => obtain ⟨a, b, c, rfl⟩ := h2; simp [run_underlying h1]
  case iface => obtain ⟨a, rfl⟩ := h2; simp [run_underlying h1]
  all_goals (subst h2; simp [run_underlying h1])

end Go.Proofs.Ytdhbclplondmjaa.C
