/- Telling in full before one goes on: what is told stays small. -/
import Derived.Test.YtkenimmellonjaaPvK6
namespace Go.Pv
open Go.RowKit

def fN (n : Nat) (K : Nat → Prop) : Prop := match n with
  | 0 => K 0
  | m + 1 => K (m + 1)
theorem fN_eq (n : Nat) (K : Nat → Prop) : fN n K = K n := by cases n <;> rfl
def lits : List Nat := [0, 1, 2, 3, 4, 5, 6, 7, 8, 9, 10, 11, 12, 13, 14, 15, 16, 17, 18, 19, 20, 21, 22, 23, 24, 25, 26, 27, 28, 29, 30, 31, 32, 33, 34, 35, 36, 37, 38, 39, 40, 41, 42, 43, 44, 45, 46, 47]
/-- How long a list is, as a literal. -/
def fLen {α : Type} : List α → List Nat → Nat → (Nat → Prop) → Prop
  | [], [], m, K => K m
  | [], l :: _, m, K => match Nat.beq l m with
    | true => K l
    | false => K m
  | _ :: r, [], m, K => fLen r [] (m + 1) K
  | _ :: r, _ :: ls, m, K => fLen r ls (m + 1) K
theorem fLen_eq {α : Type} (K : Nat → Prop) : ∀ (xs : List α) (ls : List Nat) (m : Nat), fLen xs ls m K = K (xs.length + m)
  | [], [], m => by simp [fLen]
  | [], l :: _, m => by
    simp only [fLen]
    split
    · rename_i h
      rw [Nat.eq_of_beq_eq_true h]
      simp
    · simp
  | _ :: r, [], m => by
    simp only [fLen]
    rw [fLen_eq K r [] (m + 1)]
    simp [Nat.add_comm, Nat.add_left_comm]
  | _ :: r, _ :: ls, m => by
    simp only [fLen]
    rw [fLen_eq K r ls (m + 1)]
    simp [Nat.add_comm, Nat.add_left_comm]
def appF {α : Type} : List α → List α → (List α → Prop) → Prop
  | [], new, K => K new
  | x :: r, new, K => appF r new fun l => K (x :: l)
theorem appF_eq {α : Type} : ∀ (xs new : List α) (K : List α → Prop), appF xs new K = K (xs ++ new)
  | [], _, _ => rfl
  | x :: r, new, K => by simp [appF, appF_eq r new]
def fDV (x : DV) (K : DV → Prop) : Prop := match x with
  | .int k n => K (.int k n)
  | .bool b => K (.bool b)
  | .str s => K (.str s)
  | .raw v => K (.raw v)
  | .nil => K .nil
  | .emp => K .emp
  | .list sz rows => K (.list sz rows)
  | .ptr cells off => K (.ptr cells off)
  | .iface t x => K (.iface t x)
theorem fDV_eq (x : DV) (K : DV → Prop) : fDV x K = K x := by cases x <;> rfl
mutual
def fAV : Nat → AV → (AV → Prop) → Prop
  | 0, x, K => K x
  | n + 1, x, K => match x with
    | .d x => fDV x fun x => K (.d x)
    | .agg cs => fAVs n cs fun cs => K (.agg cs)
    | .tup cs => fAVs n cs fun cs => K (.tup cs)
    | .ref r off => K (.ref r off)
    | .slc r sz off len cap => K (.slc r sz off len cap)
    | .el r sz i j => K (.el r sz i j)
    | .mp r => K (.mp r)
    | .fn f cs => fAVs n cs fun cs => K (.fn f cs)
    | .ifc t x => fAV n x fun x => K (.ifc t x)
    | .undef => K .undef
def fAVs : Nat → List AV → (List AV → Prop) → Prop
  | 0, xs, K => K xs
  | n + 1, xs, K => match xs with
    | [] => K []
    | x :: r => fAV n x fun x => fAVs n r fun r => K (x :: r)
end
mutual
theorem fAV_eq : ∀ (n : Nat) (x : AV) (K : AV → Prop), fAV n x K = K x
  | 0, x, K => by simp only [fAV]
  | n + 1, x, K => by
    unfold fAV
    cases x <;> simp only [fDV_eq, fAVs_eq n, fAV_eq n]
theorem fAVs_eq : ∀ (n : Nat) (xs : List AV) (K : List AV → Prop), fAVs n xs K = K xs
  | 0, x, K => by simp only [fAVs]
  | n + 1, xs, K => by
    unfold fAVs
    cases xs <;> simp only [fAVs_eq n, fAV_eq n]
end
def fAB (x : AB) (K : AB → Prop) : Prop := match x with
  | .cells cs => fAVs 100 cs fun cs => K (.cells cs)
  | .row sz rows => K (.row sz rows)
  | .arow sz rows => K (.arow sz rows)
  | .map es => K (.map es)
  | .dmap es => K (.dmap es)
  | .dead => K .dead
theorem fAB_eq (x : AB) (K : AB → Prop) : fAB x K = K x := by cases x <;> simp only [fAB, fAVs_eq]
def fABs : List AB → (List AB → Prop) → Prop
  | [], K => K []
  | x :: r, K => fAB x fun x => fABs r fun r => K (x :: r)
theorem fABs_eq : ∀ (xs : List AB) (K : List AB → Prop), fABs xs K = K xs
  | [], _ => rfl
  | x :: r, K => by simp only [fABs, fAB_eq, fABs_eq r]
/-- The memory behind an operation. -/
def fApp (L new : List AB) (K : List AB → Prop) : Prop := match new with
  | [] => K L
  | _ :: _ => fABs new fun new => appF L new K
theorem fApp_eq (L new : List AB) (K : List AB → Prop) : fApp L new K = K (L ++ new) := by
  cases new with
  | nil => simp [fApp]
  | cons x r => simp only [fApp, fABs_eq, appF_eq]
def fSt : List (Nat × AB) → (List (Nat × AB) → Prop) → Prop
  | [], K => K []
  | (id, x) :: r, K => fAB x fun x => fSt r fun r => K ((id, x) :: r)
theorem fSt_eq : ∀ (xs : List (Nat × AB)) (K : List (Nat × AB) → Prop), fSt xs K = K xs
  | [], _ => rfl
  | (id, x) :: r, K => by simp only [fSt, fAB_eq, fSt_eq r]
def fG : List (Nat × Bool) → (List (Nat × Bool) → Prop) → Prop
  | [], K => K []
  | (j, p) :: r, K => fG r fun r => K ((j, p) :: r)
theorem fG_eq : ∀ (xs : List (Nat × Bool)) (K : List (Nat × Bool) → Prop), fG xs K = K xs
  | [], _ => rfl
  | (j, p) :: r, K => by simp only [fG, fG_eq r]
def fO (o : Option Nat) (K : Option Nat → Prop) : Prop := match o with
  | none => K none
  | some d => K (some d)
theorem fO_eq (o : Option Nat) (K : Option Nat → Prop) : fO o K = K o := by cases o <;> rfl
end Go.Pv
