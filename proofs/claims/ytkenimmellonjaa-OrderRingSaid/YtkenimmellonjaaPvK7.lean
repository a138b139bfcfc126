/- The lesser, the greater of two ints. -/
import Derived.Test.YtkenimmellonjaaPvK6
namespace Go.Pv
open Go.RowKit
variable {P : Program} {G : Gl} {T : Nat → Option TI} {o : Oper} {rh : Operand → AV} {L : List AB} {s : List (Nat × AB)}
theorem int_of {M : Mp} {F : Nat → Prop} {w : World} {k : IntKind} {n : Int} {v : Value} (h : RV M F w (.d (.int k n)) v) : v = .int k n := by
  cases h with
  | d h => cases h; rfl
theorem pj_min {x y : Operand} {tys : Array TypeId} {k k2 : IntKind} {a b : Int} (ho : o.op = .call { callee := .builtin .min, args := #[x, y], argTypes := tys }) (hx1 : rh x = .d (.int k a)) (hy1 : rh y = .d (.int k2 b)) : PJ P G o rh L s (.d (.int k (if b < a then b else a))) [] := by
  refine pj_value fun M F U w act hS hG hx => ⟨.int k (if b < a then b else a), ?_, .d (.int _ _)⟩
  have h1 := hx x (by simp [ho, Op.operands, Call.operands])
  have h2 := hx y (by simp [ho, Op.operands, Call.operands])
  rw [hx1] at h1
  rw [hy1] at h2
  have e1 := int_of h1
  have e2 := int_of h2
  simp only [execOp, ho, resolve, invoke, builtin, Sem.run_bind, Sem.run_pure, Result.andThen_ok, List.map_toArray, List.map_cons, List.map_nil, e1, e2, Builtin.min_, List.foldlM, Builtin.min2]
theorem pj_max {x y : Operand} {tys : Array TypeId} {k k2 : IntKind} {a b : Int} (ho : o.op = .call { callee := .builtin .max, args := #[x, y], argTypes := tys }) (hx1 : rh x = .d (.int k a)) (hy1 : rh y = .d (.int k2 b)) : PJ P G o rh L s (.d (.int k (if b > a then b else a))) [] := by
  refine pj_value fun M F U w act hS hG hx => ⟨.int k (if b > a then b else a), ?_, .d (.int _ _)⟩
  have h1 := hx x (by simp [ho, Op.operands, Call.operands])
  have h2 := hx y (by simp [ho, Op.operands, Call.operands])
  rw [hx1] at h1
  rw [hy1] at h2
  have e1 := int_of h1
  have e2 := int_of h2
  simp only [execOp, ho, resolve, invoke, builtin, Sem.run_bind, Sem.run_pure, Result.andThen_ok, List.map_toArray, List.map_cons, List.map_nil, e1, e2, Builtin.max_, List.foldlM, Builtin.max2]
end Go.Pv
