/- Texts of one's own, laid together: Kn1 -/
import Derived.Test.YtdhbclplondmjaaQc17
section
/- The program's answers to the chapter's examples, run. -/
set_option maxRecDepth 1000000
set_option maxHeartbeats 0
namespace Go.Proofs.Ytdhbclplondmjaa.C
open Go.RowKit

def eqV : Value → Value → Bool
  | .int .i64 a, .int .i64 b => a == b
  | .string a, .string b => a.data.toList == b.data.toList
  | .bool a, .bool b => a == b
  | _, _ => false
def eqVs : List Value → List Value → Bool
  | [], [] => true
  | a :: l, b :: m => eqV a b && eqVs l m
  | _, _ => false

theorem eqV_eq {a b : Value} (h : eqV a b = true) : a = b ∧ plain a = true := by
  unfold eqV at h
  split at h
  · simp at h; subst h; exact ⟨rfl, rfl⟩
  · rename_i a b
    simp only [beq_iff_eq] at h
    refine ⟨?_, rfl⟩
    cases a; cases b
    simp at h
    rw [h]
  · simp at h; subst h; exact ⟨rfl, rfl⟩
  · simp at h
theorem eqVs_eq : ∀ {a b : List Value}, eqVs a b = true → a = b ∧ plains a = true
  | [], [], _ => ⟨rfl, rfl⟩
  | a :: l, b :: m, h => by
    simp only [eqVs, Bool.and_eq_true] at h
    obtain ⟨h1, h2⟩ := eqV_eq h.1
    obtain ⟨h3, h4⟩ := eqVs_eq h.2
    subst h1 h3
    exact ⟨rfl, by simp [plains, h2, h4]⟩
  | [], _ :: _, h => by simp [eqVs] at h
  | _ :: _, [], h => by simp [eqVs] at h

/-- A slice of its own, of these cells. -/
def isRow (E : Heap) (v : Value) (cs : List Value) : Bool :=
  match v with
  | .slice (some ⟨b, 0, none⟩) n c => decide (1 ≤ b) && decide (n = cs.length) && decide (n ≤ c) && (match E[b]? with | some (.row 1 ds true true) => eqVs ds cs | _ => false)
  | _ => false

def nmv (x : UInt8) : Value := .string ⟨#[x]⟩
def iv (k : Int) : Value := .int .i64 k
def rowA : List Value := [iv 1, nmv 66, nmv 65, iv 2, nmv 67, nmv 66, iv 1, nmv 68, nmv 65]
def rowB : List Value := rowA ++ [iv 1, nmv 65, nmv 67]
def rowC : List Value := rowA ++ [iv 1, nmv 67, nmv 65]
def smallH (cs : List Value) : Heap := [.row 3 cs false true]
def smallV (n : Nat) : Value := .slice (some ⟨0, 0, none⟩) n unk

def chkOrder : Option (Value × Heap) → Bool
  | some (.tuple cs, E) => match cs.toList with
    | [o, .int .i64 0] => isRow E o [nmv 65, nmv 66, nmv 67, nmv 68]
    | _ => false
  | _ => false
def chkRanks : Option (Value × Heap) → Bool
  | some (.tuple cs, E) => match cs.toList with
    | [a, b, .int .i64 0] => isRow E a [iv 0, iv 1, iv 2, iv 1] && isRow E b [iv 0, iv 1, iv 2, iv 2]
    | _ => false
  | _ => false
def chkExts : Option (Value × Heap) → Bool
  | some (.tuple cs, E) => match cs.toList with
    | [.slice (some ⟨b, 0, none⟩) 3 c, .int .i64 0] => decide (1 ≤ b)
    | _ => false
  | _ => false
def chkCycle : Option (Value × Heap) → Bool
  | some (.tuple cs, E) => match cs.toList with
    | [o, .bool true, .int .i64 0] => isRow E o [iv 0, iv 1, iv 3]
    | _ => false
  | _ => false
def chkRed : Option (Value × Heap) → Bool
  | some (.tuple cs, E) => match cs.toList with
    | [o, .int .i64 0] => isRow E o [iv 0, iv 1, iv 2]
    | _ => false
  | _ => false

theorem run_order : chkOrder (runF 300 17 [smallV 3] (smallH rowA)) = true := by decide +kernel
theorem run_red : chkRed (runF 300 24 [smallV 4] (smallH rowC)) = true := by decide +kernel

end Go.Proofs.Ytdhbclplondmjaa.C

end
