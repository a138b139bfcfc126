/- What one operation does, told of what its operands stand for: a verification condition ('vop') and its soundness. -/
import Derived.Test.YtkenimmellonjaaPvA
namespace Go.Pv
open Go.RowKit

/-- What is known of a type. -/
structure TI where
  u : TypeDesc
  size : Nat
  bytes : Nat
  zero : List DV
  agg : Bool
  deriving Inhabited

def dconst : DV → Option Value
  | .int k n => some (.int k n)
  | .bool b => some (.bool b)
  | .str s => some (.string s)
  | .nil => some (.slice none 0 0)
  | .raw v => if v.oneCell' then some v else none
  | _ => none
theorem dconst_RD {N : Nat → Prop} {w : World} {x : DV} {v : Value} (h : dconst x = some v) : RD N w x v := by
  cases x <;> simp only [dconst] at h
  case int k n => cases h; exact .int k n
  case bool b => cases h; exact .bool b
  case str s => cases h; exact .str s
  case nil => cases h; exact .nil
  case raw v =>
    split at h
    · cases h; exact .raw _ ‹_›
    · cases h
  all_goals cases h

def TI.zv (ti : TI) : AV := if ti.agg then .agg (ti.zero.map .d) else match ti.zero with | [x] => .d x | _ => .undef
/-- The table tells the truth of the program's types. -/
def TabOK (P : Program) (T : Nat → Option TI) : Prop :=
  ∀ t ti, T t = some ti → P.underlying t = some ti.u ∧ (ti.agg = true ↔ (∃ fs, ti.u = .struct fs) ∨ ∃ n e, ti.u = .array n e) ∧
    ∃ i z zs, P.info? t = some i ∧ i.size = ti.size ∧ i.bytes = ti.bytes ∧ i.zero = some z ∧ z.cells = zs.toArray ∧ ti.zero.map dconst = zs.map some ∧ zs.length = ti.size ∧
      (ti.agg = true → z = .agg zs.toArray) ∧ (ti.agg = false → zs = [z] ∧ z.oneCell' = true)

/-- A constant's meaning. -/
def cst : Value → AV
  | .int k n => .d (.int k n)
  | .bool b => .d (.bool b)
  | .string s => .d (.str s)
  | .slice none 0 0 => .d .nil
  | .agg _ => .undef
  | .tuple _ => .undef
  | v => .d (.raw v)

theorem RV.cst {M : Mp} {F : Nat → Prop} {w : World} (v : Value) : RV M F w (cst v) v := by
  unfold Pv.cst
  split
  · exact .d (.int _ _)
  · exact .d (.bool _)
  · exact .d (.str _)
  · exact .d .nil
  · exact .undef _
  · exact .undef _
  · refine .d (.raw _ ?_)
    cases v <;> simp_all [Value.oneCell']

/-- The global variables that are read, what their cells hold. -/
abbrev Gl := Nat → Option (List DV)
def Glob (G : Gl) (F : Nat → Prop) (w : World) : Prop := ∀ g cs, G g = some cs → RD F w (.ptr cs 0) (.pointer (some ⟨g, 0, none⟩))
theorem Glob.mono {G : Gl} {F F' U : Nat → Prop} {w w' : World} (h : Glob G F w) (hF : ∀ b, F b → F' b) (hFU : ∀ b, F b → U b) (hw : Ext U w w') : Glob G F' w' :=
  fun g cs hg => (h g cs hg).mono hF (fun b hb => hw.block b (hFU b hb))

abbrev Env := List (Nat × AV)
def look : Env → Nat → AV
  | [], _ => .undef
  | (s, v) :: r, t => match Nat.beq s t with
    | true => v
    | false => look r t

/-- An operation of the region that is over: its number, the slot it wrote, its guards (its own, that of the operation that its own asks, ..), what it yielded. -/
structure RE where
  idx : Nat
  slot : Option Nat
  gs : List (Nat × Bool)
  v : AV
def rlook : List RE → Nat → Option RE
  | [], _ => none
  | e :: r, t => match e.slot with
    | none => rlook r t
    | some s => match Nat.beq s t with
      | true => some e
      | false => rlook r t
def rfind : List RE → Nat → Option RE
  | [], _ => none
  | e :: r, j => match Nat.beq e.idx j with
    | true => some e
    | false => rfind r j
def rho (G : Gl) (env : Env) (re : List RE) : Operand → AV
  | .tmp t => match rlook re t with
    | some e => e.v
    | none => look env t
  | .const v => cst v
  | .global g => match G g with
    | some cs => .d (.ptr cs 0)
    | none => .undef
  | .func f => .fn f []

/-- A guard's chain. -/
def gsOf (re : List RE) : Option (Nat × Bool) → List (Nat × Bool)
  | none => []
  | some (j, p) => (j, p) :: (match rfind re j with
    | some e => e.gs
    | none => [])
def lit (re : List RE) (j : Nat) (p : Bool) : Prop := match rfind re j with
  | some e => match e.v with
    | .d (.bool b) => b = p
    | _ => False
  | none => False
/-- What holds where all these guards are met. -/
def HG (re : List RE) : List (Nat × Bool) → Prop
  | [] => True
  | [(j, p)] => lit re j p
  | (j, p) :: r => lit re j p ∧ HG re r
def sg (re : List RE) (gs : List (Nat × Bool)) (p : Prop) : Prop := match gs with
  | [] => p
  | gs => HG re gs → p
theorem HG_all {re : List RE} : ∀ {gs : List (Nat × Bool)}, HG re gs ↔ ∀ l ∈ gs, lit re l.1 l.2
  | [] => by simp [HG]
  | [(j, p)] => by simp [HG]
  | (j, p) :: x :: r => by
    have := HG_all (re := re) (gs := x :: r)
    simp only [HG, this]
    simp

/-- Cells of a value. -/
def AV.cells : AV → List AV
  | .agg cs => cs
  | x => [x]
def undD : List AV → Option (List DV)
  | [] => some []
  | .d x :: r => (undD r).map (x :: ·)
  | _ :: _ => none
def ofCells (agg : Bool) (xs : List AV) : Option AV := match agg with
  | true => some (.agg xs)
  | false => match xs with
    | [x] => some x
    | _ => none
def takeN {α : Type} (xs : List α) (off n : Nat) : List α := (xs.drop off).take n

def icmp (op : BinOp) (a b : Int) : Option Bool := match op with
  | .eql => some (a == b)
  | .neq => some (a != b)
  | .lss => some (decide (a < b))
  | .leq => some (decide (a ≤ b))
  | .gtr => some (decide (a > b))
  | .geq => some (decide (a ≥ b))
  | _ => none
def iarith (op : BinOp) (k : IntKind) (a b : Int) : Option Int := match op with
  | .add => some (k.wrap (a + b))
  | .sub => some (k.wrap (a - b))
  | .mul => some (k.wrap (a * b))
  | _ => none

theorem run_underlying' {P : Program} {t : TypeId} {d : TypeDesc} (h : P.underlying t = some d) (w : World) : (underlying t).run P w = .ok d w := by
  simp [underlying, h]
theorem run_sizeOf' {P : Program} {t : TypeId} {i : TypeInfo} (h : P.info? t = some i) (w : World) : (Go.sizeOf t).run P w = .ok i.size w := by
  simp [Go.sizeOf, typeInfo, h]
theorem run_zeroValue' {P : Program} {t : TypeId} {i : TypeInfo} {z : Value} (h : P.info? t = some i) (hz : i.zero = some z) (w : World) : (zeroValue t).run P w = .ok z w := by
  simp [zeroValue, typeInfo, h, hz]
theorem run_isAgg' {P : Program} {T : Nat → Option TI} (hT : TabOK P T) {t : TypeId} {ti : TI} (h : T t = some ti) (w : World) : (isAgg t).run P w = .ok ti.agg w := by
  obtain ⟨h1, h2, _⟩ := hT t ti h
  unfold isAgg
  simp only [Sem.run_bind, run_underlying' h1, Result.andThen_ok]
  cases hu : ti.u <;> simp_all [Sem.run_pure]
  all_goals cases ha : ti.agg <;> simp_all

end Go.Pv
