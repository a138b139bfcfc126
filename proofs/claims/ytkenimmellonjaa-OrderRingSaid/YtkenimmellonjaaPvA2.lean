/- Places named anew. -/
import Derived.Test.YtkenimmellonjaaPvA
namespace Go.Pv
open Go.RowKit

mutual
def AV.rn (φ : Rf → Option Rf) : AV → Option AV
  | .d x => some (.d x)
  | .agg cs => match rnL φ cs with
    | some cs => some (.agg cs)
    | none => none
  | .tup cs => match rnL φ cs with
    | some cs => some (.tup cs)
    | none => none
  | .ref r off => match φ r with
    | some r => some (.ref r off)
    | none => none
  | .slc r sz off len cap => match φ r with
    | some r => some (.slc r sz off len cap)
    | none => none
  | .el r sz i j => match φ r with
    | some r => some (.el r sz i j)
    | none => none
  | .mp r => match φ r with
    | some r => some (.mp r)
    | none => none
  | .fn f cs => match rnL φ cs with
    | some cs => some (.fn f cs)
    | none => none
  | .ifc t x => match x.rn φ with
    | some x => some (.ifc t x)
    | none => none
  | .undef => some .undef
def rnL (φ : Rf → Option Rf) : List AV → Option (List AV)
  | [] => some []
  | x :: r => match x.rn φ with
    | some x => match rnL φ r with
      | some r => some (x :: r)
      | none => none
    | none => none
end
theorem rnL_get {φ : Rf → Option Rf} : ∀ {cs cs' : List AV}, rnL φ cs = some cs' → cs'.length = cs.length ∧ ∀ (j : Nat) (x' : AV), cs'[j]? = some x' → ∃ x, cs[j]? = some x ∧ x.rn φ = some x'
  | [], cs', h => by
    simp only [rnL, Option.some.injEq] at h
    subst h
    exact ⟨rfl, fun j x h => by simp at h⟩
  | x :: r, cs', h => by
    simp only [rnL] at h
    split at h <;> try cases h
    rename_i y hy
    split at h <;> cases h
    rename_i r' hr
    obtain ⟨h1, h2⟩ := rnL_get hr
    refine ⟨by simp [h1], fun j z hz => ?_⟩
    cases j with
    | zero => simp at hz; subst hz; exact ⟨x, rfl, hy⟩
    | succ j => exact h2 j z (by simpa using hz)
/-- The new names stand for what the old ones stood for. -/
def Mp.Via (φ : Rf → Option Rf) (M M' : Mp) : Prop := ∀ r r' b, φ r = some r' → M.at_ r = some b → M'.at_ r' = some b
theorem RV.rn {M M' : Mp} {F : Nat → Prop} {w : World} {φ : Rf → Option Rf} (hφ : Mp.Via φ M M') {x : AV} {v : Value} (h : RV M F w x v) : ∀ {x' : AV}, x.rn φ = some x' → RV M' F w x' v := by
  induction h with
  | d h => intro x' hx; simp only [AV.rn, Option.some.injEq] at hx; subst hx; exact .d h
  | agg cs vs hl h1 h ih =>
    intro x' hx
    simp only [AV.rn] at hx
    split at hx <;> cases hx
    rename_i cs' hcs
    obtain ⟨k1, k2⟩ := rnL_get hcs
    refine .agg cs' vs (by omega) h1 fun j x v hx hv => ?_
    obtain ⟨y, hy, hy'⟩ := k2 j x hx
    exact ih j y v hy hv hy'
  | tup cs vs hl h ih =>
    intro x' hx
    simp only [AV.rn] at hx
    split at hx <;> cases hx
    rename_i cs' hcs
    obtain ⟨k1, k2⟩ := rnL_get hcs
    refine .tup cs' vs (by omega) fun j x v hx hv => ?_
    obtain ⟨y, hy, hy'⟩ := k2 j x hx
    exact ih j y v hy hv hy'
  | ref r off b h =>
    intro x' hx
    simp only [AV.rn] at hx
    split at hx <;> cases hx
    rename_i r' hr
    exact .ref r' off b (hφ _ _ _ hr h)
  | slc r sz off len cap b h hc hs =>
    intro x' hx
    simp only [AV.rn] at hx
    split at hx <;> cases hx
    rename_i r' hr
    exact .slc r' sz off len cap b (hφ _ _ _ hr h) hc hs
  | slc0 r sz off A =>
    intro x' hx
    simp only [AV.rn] at hx
    split at hx <;> cases hx
    rename_i r' hr
    exact .slc0 r' sz off A
  | el r sz i j b h =>
    intro x' hx
    simp only [AV.rn] at hx
    split at hx <;> cases hx
    rename_i r' hr
    exact .el r' sz i j b (hφ _ _ _ hr h)
  | mp r b h =>
    intro x' hx
    simp only [AV.rn] at hx
    split at hx <;> cases hx
    rename_i r' hr
    exact .mp r' b (hφ _ _ _ hr h)
  | fn f cs vs hl h ih =>
    intro x' hx
    simp only [AV.rn] at hx
    split at hx <;> cases hx
    rename_i cs' hcs
    obtain ⟨k1, k2⟩ := rnL_get hcs
    refine .fn f cs' vs (by omega) fun j x v hx hv => ?_
    obtain ⟨y, hy, hy'⟩ := k2 j x hx
    exact ih j y v hy hv hy'
  | ifc t x v h ih =>
    intro x' hx
    simp only [AV.rn] at hx
    split at hx <;> cases hx
    rename_i y hy
    exact .ifc t y v (ih hy)
  | undef v => intro x' hx; simp only [AV.rn, Option.some.injEq] at hx; subst hx; exact .undef v

def rnLL (φ : Rf → Option Rf) : List (List AV) → Option (List (List AV))
  | [] => some []
  | x :: r => match rnL φ x with
    | some x => match rnLL φ r with
      | some r => some (x :: r)
      | none => none
    | none => none
def rnM (φ : Rf → Option Rf) : List (AV × AV) → Option (List (AV × AV))
  | [] => some []
  | (k, x) :: r => match k.rn φ with
    | some k => match x.rn φ with
      | some x => match rnM φ r with
        | some r => some ((k, x) :: r)
        | none => none
      | none => none
    | none => none
theorem rnLL_get {φ : Rf → Option Rf} : ∀ {cs cs' : List (List AV)}, rnLL φ cs = some cs' → cs'.length = cs.length ∧ ∀ (j : Nat) (x' : List AV), cs'[j]? = some x' → ∃ x, cs[j]? = some x ∧ rnL φ x = some x'
  | [], cs', h => by
    simp only [rnLL, Option.some.injEq] at h
    subst h
    exact ⟨rfl, fun j x h => by simp at h⟩
  | x :: r, cs', h => by
    simp only [rnLL] at h
    split at h <;> try cases h
    rename_i y hy
    split at h <;> cases h
    rename_i r' hr
    obtain ⟨h1, h2⟩ := rnLL_get hr
    refine ⟨by simp [h1], fun j z hz => ?_⟩
    cases j with
    | zero => simp at hz; subst hz; exact ⟨x, rfl, hy⟩
    | succ j => exact h2 j z (by simpa using hz)
theorem rnM_get {φ : Rf → Option Rf} : ∀ {cs cs' : List (AV × AV)}, rnM φ cs = some cs' → cs'.length = cs.length ∧ ∀ (j : Nat) (x' : AV × AV), cs'[j]? = some x' → ∃ x, cs[j]? = some x ∧ x.1.rn φ = some x'.1 ∧ x.2.rn φ = some x'.2
  | [], cs', h => by
    simp only [rnM, Option.some.injEq] at h
    subst h
    exact ⟨rfl, fun j x h => by simp at h⟩
  | (k, x) :: r, cs', h => by
    simp only [rnM] at h
    split at h <;> try cases h
    rename_i k' hk
    split at h <;> try cases h
    rename_i y hy
    split at h <;> cases h
    rename_i r' hr
    obtain ⟨h1, h2⟩ := rnM_get hr
    refine ⟨by simp [h1], fun j z hz => ?_⟩
    cases j with
    | zero => simp at hz; subst hz; exact ⟨(k, x), rfl, hk, hy⟩
    | succ j => exact h2 j z (by simpa using hz)
def AB.rn (φ : Rf → Option Rf) : AB → Option AB
  | .cells cs => match rnL φ cs with
    | some cs => some (.cells cs)
    | none => none
  | .row sz rows => some (.row sz rows)
  | .arow sz rows => match rnLL φ rows with
    | some rows => some (.arow sz rows)
    | none => none
  | .map es => match rnM φ es with
    | some es => some (.map es)
    | none => none
  | .dmap es => some (.dmap es)
  | .dead => some .dead
theorem DX.rv {M M' : Mp} {F : Nat → Prop} {w : World} {x : DX} {v : Value} (h : RV M F w x.av v) : RV M' F w x.av v := by
  cases x with
  | one x => cases h with | d h => exact .d h
  | agg xs =>
    simp only [DX.av] at h ⊢
    cases h with
    | agg cs vs hl h1 h =>
      refine .agg _ vs hl h1 fun j x v hx hv => ?_
      have := h j x v hx hv
      rw [List.getElem?_map] at hx
      obtain ⟨y, hy, rfl⟩ := Option.map_eq_some_iff.1 hx
      cases this with | d h => exact .d h
theorem rnL_len {φ : Rf → Option Rf} {r r' : List AV} (h : rnL φ r = some r') : r'.length = r.length := (rnL_get h).1
theorem RB.rn {M M' : Mp} {F : Nat → Prop} {w : World} {φ : Rf → Option Rf} (hφ : Mp.Via φ M M') {b : Nat} {ab ab' : AB} (h : RB M F w b ab) (hr : ab.rn φ = some ab') : RB M' F w b ab' := by
  cases ab with
  | cells cs =>
    simp only [AB.rn] at hr
    split at hr <;> cases hr
    rename_i cs' hcs
    obtain ⟨k1, k2⟩ := rnL_get hcs
    obtain ⟨arr, t, h1, h2, h3⟩ := h
    refine ⟨arr, t, h1, by omega, fun j x v hx hv => ?_⟩
    obtain ⟨y, hy, hy'⟩ := k2 j x hx
    exact ⟨(h3 j y v hy hv).1, (h3 j y v hy hv).2.rn hφ hy'⟩
  | row sz rows => cases hr; exact h
  | arow sz rows =>
    simp only [AB.rn] at hr
    split at hr <;> cases hr
    rename_i rows' hcs
    obtain ⟨k1, k2⟩ := rnLL_get hcs
    obtain ⟨arr, t, h1, h2, h3, h4, h5⟩ := h
    refine ⟨arr, t, h1, by rw [k1]; exact h2, fun i r hi => ?_, h4, fun i r j x v hi hj hv => ?_⟩
    · obtain ⟨r0, q1, q2⟩ := k2 i r hi
      rw [rnL_len q2]
      exact h3 i r0 q1
    · obtain ⟨r0, q1, q2⟩ := k2 i r hi
      obtain ⟨y, hy, hy'⟩ := (rnL_get q2).2 j x hj
      exact (h5 i r0 j y v q1 hy hv).rn hφ hy'
  | map es =>
    simp only [AB.rn] at hr
    split at hr <;> cases hr
    rename_i es' hcs
    obtain ⟨k1, k2⟩ := rnM_get hcs
    obtain ⟨ents, clock, h1, h2, h3, h4⟩ := h
    refine ⟨ents, clock, h1, by omega, fun i e x he hx => ?_, h4⟩
    obtain ⟨y, hy, q1, q2⟩ := k2 i x hx
    exact ⟨(h3 i e y he hy).1.rn hφ q1, (h3 i e y he hy).2.rn hφ q2⟩
  | dmap es =>
    cases hr
    obtain ⟨ents, clock, h1, h2, h3, h4⟩ := h
    exact ⟨ents, clock, h1, h2, fun i e x he hx => ⟨DX.rv (h3 i e x he hx).1, DX.rv (h3 i e x he hx).2⟩, h4⟩
  | dead => cases hr; trivial
theorem AB.rn_dead {φ : Rf → Option Rf} {ab ab' : AB} (hr : ab.rn φ = some ab') : ab' = .dead ↔ ab = .dead := by
  constructor
  · rintro rfl
    cases ab <;> simp only [AB.rn] at hr <;> first | rfl | (split at hr <;> cases hr) | cases hr
  · rintro rfl
    cases hr
    rfl

/-! ### What names no place of this call's own -/
def AB.clB : AB → Bool
  | .cells cs => clL cs
  | .row _ _ => true
  | .arow _ rows => rows.all clL
  | .map es => es.all fun e => e.1.cl && e.2.cl
  | .dmap _ => true
  | .dead => true
theorem RB.closed {M : Mp} {F : Nat → Prop} {w : World} {b : Nat} {ab : AB} (h : RB M F w b ab) (hc : ab.clB = true) : RB M.glo F w b ab := by
  cases ab with
  | cells cs =>
    obtain ⟨arr, t, h1, h2, h3⟩ := h
    exact ⟨arr, t, h1, h2, fun j x v hx hv => ⟨(h3 j x v hx hv).1, (h3 j x v hx hv).2.closed (clL_at hc hx)⟩⟩
  | row sz rows => exact h
  | arow sz rows =>
    obtain ⟨arr, t, h1, h2, h3, h4, h5⟩ := h
    exact ⟨arr, t, h1, h2, h3, h4, fun i r j x v hi hj hv => (h5 i r j x v hi hj hv).closed (clL_at (List.all_eq_true.1 hc r (List.mem_of_getElem? hi)) hj)⟩
  | map es =>
    obtain ⟨ents, clock, h1, h2, h3, h4⟩ := h
    refine ⟨ents, clock, h1, h2, fun i e x he hx => ?_, h4⟩
    have := List.all_eq_true.1 hc x (List.mem_of_getElem? hx)
    simp only [Bool.and_eq_true] at this
    exact ⟨(h3 i e x he hx).1.closed this.1, (h3 i e x he hx).2.closed this.2⟩
  | dmap es =>
    obtain ⟨ents, clock, h1, h2, h3, h4⟩ := h
    exact ⟨ents, clock, h1, h2, fun i e x he hx => ⟨DX.rv (h3 i e x he hx).1, DX.rv (h3 i e x he hx).2⟩, h4⟩
  | dead => trivial
end Go.Pv
