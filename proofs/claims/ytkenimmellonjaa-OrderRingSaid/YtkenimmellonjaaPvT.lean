/- A table of types, told entry by entry. -/
import Derived.Test.YtkenimmellonjaaPvQ
namespace Go.Pv
open Go.RowKit

def tabOf : List (Nat × TI) → Nat → Option TI
  | [], _ => none
  | (t, ti) :: r, x => match Nat.beq t x with
    | true => some ti
    | false => tabOf r x
def aggOf : TypeDesc → Bool
  | .struct _ => true
  | .array _ _ => true
  | _ => false
/-- One entry. -/
def TabEnt (P : Program) (t : Nat) (ti : TI) : Prop := P.underlying t = some ti.u ∧ ti.agg = aggOf ti.u ∧
  ∃ i z, P.info? t = some i ∧ i.size = ti.size ∧ i.bytes = ti.bytes ∧ i.zero = some z ∧ ti.zero.map dconst = z.cells.toList.map some ∧ z.cells.toList.length = ti.size ∧
    (match ti.agg with
      | true => z = .agg z.cells.toList.toArray
      | false => z.cells.toList = [z] ∧ z.oneCell' = true)
theorem TabEnt.mk' {P : Program} {t : Nat} {ti : TI} (i : TypeInfo) (z : Value) (h1 : P.underlying t = some ti.u) (h2 : ti.agg = aggOf ti.u) (h3 : P.info? t = some i) (h4 : i.size = ti.size) (h5 : i.bytes = ti.bytes) (h6 : i.zero = some z) (h7 : ti.zero.map dconst = z.cells.toList.map some)
    (h8 : z.cells.toList.length = ti.size) (h9 : match ti.agg with
      | true => z = .agg z.cells.toList.toArray
      | false => z.cells.toList = [z] ∧ z.oneCell' = true) : TabEnt P t ti := ⟨h1, h2, i, z, h3, h4, h5, h6, h7, h8, h9⟩
theorem TabOK.nil {P : Program} : TabOK P (tabOf []) := fun t ti h => by simp [tabOf] at h
theorem TabOK.cons {P : Program} {t : Nat} {ti : TI} {r : List (Nat × TI)} (h : TabEnt P t ti) (hr : TabOK P (tabOf r)) : TabOK P (tabOf ((t, ti) :: r)) := by
  intro x ti' hx
  simp only [tabOf] at hx
  split at hx
  · rename_i he
    have := beq_t he
    subst this
    cases hx
    obtain ⟨h1, h2, i, z, h3, h4, h5, h6, h7, h8, h9⟩ := h
    refine ⟨h1, ?_, i, z, z.cells.toList, h3, h4, h5, h6, by simp, h7, h8, fun ha => ?_, fun ha => ?_⟩
    · rw [h2]
      cases ti.u <;> simp [aggOf]
    · rw [ha] at h9; exact h9
    · rw [ha] at h9; exact h9
  · exact hr x ti' hx
end Go.Pv
