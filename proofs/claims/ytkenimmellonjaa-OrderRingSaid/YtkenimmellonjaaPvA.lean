/- Values, memory and what they stand for: pure data (DV), a function's own values (AV), its memory (AB), and when a value of the model stands for one of them. -/
import Derived.WalkKit
import Derived.Below
import Derived.Orders
namespace Go.Pv
open Go.RowKit

/-- Pure data: what is never written again. -/
inductive DV where
  | int (k : IntKind) (n : Int)
  | bool (b : Bool)
  | str (s : ByteArray)
  | raw (v : Value)
  | nil
  | emp
  | list (sz : Nat) (rows : List (List DV))
  | ptr (cells : List DV) (off : Nat)
  | iface (t : TypeId) (x : DV)
  deriving Inhabited

/-- A place in memory: one that this call made (l), or one that it was told of (g). -/
inductive Rf where
  | l (k : Nat)
  | g (id : Nat)
  deriving DecidableEq

inductive AV where
  | d (x : DV)
  | agg (cs : List AV)
  | tup (vs : List AV)
  | ref (r : Rf) (off : Nat)
  | slc (r : Rf) (sz off len cap : Nat)
  | el (r : Rf) (sz i j : Nat)
  | mp (r : Rf)
  | fn (f : Nat) (caps : List AV)
  | ifc (t : TypeId) (x : AV)
  | undef
  deriving Inhabited

/-- A key, an element of a map that is data. -/
inductive DX where
  | one (x : DV)
  | agg (xs : List DV)
  deriving Inhabited
def DX.av : DX → AV
  | .one x => .d x
  | .agg xs => .agg (xs.map .d)
/-- What lies in a block. -/
inductive AB where
  | cells (cs : List AV)
  | row (sz : Nat) (rows : List (List DV))
  | arow (sz : Nat) (rows : List (List AV))
  | map (es : List (AV × AV))
  | dmap (es : List (DX × DX))
  | dead
  deriving Inhabited

/-- The value v reads as the data, in memory that lies in N. -/
inductive RD (N : Nat → Prop) (w : World) : DV → Value → Prop
  | int (k : IntKind) (n : Int) : RD N w (.int k n) (.int k n)
  | bool (b : Bool) : RD N w (.bool b) (.bool b)
  | str (s : ByteArray) : RD N w (.str s) (.string s)
  | raw (v : Value) (h : v.oneCell' = true) : RD N w (.raw v) v
  | nil : RD N w .nil (.slice none 0 0)
  | emp (A : Option Addr) : RD N w .emp (.slice A 0 0)
  | empty (sz : Nat) (A : Option Addr) (c : Nat) : RD N w (.list sz []) (.slice A 0 c)
  | list (sz : Nat) (rows : List (List DV)) (a : Addr) (c : Nat) (u : Nat → Nat → Value) (hc : rows.length ≤ c) (hN : N a.block)
      (hl : ∀ (i : Nat) (r : List DV), rows[i]? = some r → r.length = sz)
      (hm : ∀ (i j : Nat), i < rows.length → j < sz → w.cell? (a.add (i * sz + j)) = some (u i j))
      (hr : ∀ (i : Nat) (r : List DV), rows[i]? = some r → ∀ (j : Nat) (x : DV), r[j]? = some x → RD N w x (u i j)) : RD N w (.list sz rows) (.slice (some a) rows.length c)
  | ptr (cells : List DV) (off : Nat) (a : Addr) (u : Nat → Value) (hN : N a.block)
      (hm : ∀ (j : Nat), j < cells.length → w.cell? (a.add j) = some (u j))
      (hr : ∀ (j : Nat) (x : DV), cells[j]? = some x → RD N w x (u j)) : RD N w (.ptr cells off) (.pointer (some (a.add off)))
  | iface (t : TypeId) (x : DV) (v : Value) (h : RD N w x v) : RD N w (.iface t x) (.iface t v)

theorem block_of_add (a : Addr) (n : Nat) : (a.add n).block = a.block := by unfold Addr.add; split <;> rfl
theorem add_of_add (a : Addr) (i j : Nat) : (a.add i).add j = a.add (i + j) := by
  unfold Addr.add
  by_cases hi : i = 0 <;> by_cases hj : j = 0 <;> simp [hi, hj, Nat.add_assoc]
theorem add_plain (g o j : Nat) : (⟨g, o, none⟩ : Addr).add j = ⟨g, o + j, none⟩ := by unfold Addr.add; split <;> simp_all

theorem RD.mono {N N' : Nat → Prop} {w w' : World} {x : DV} {v : Value} (h : RD N w x v) (hN : ∀ b, N b → N' b) (hw : ∀ b, N b → w'.heap[b]? = w.heap[b]?) : RD N' w' x v := by
  induction h with
  | int k n => exact .int k n
  | bool b => exact .bool b
  | str s => exact .str s
  | raw v h => exact .raw v h
  | nil => exact .nil
  | emp A => exact .emp A
  | empty sz A c => exact .empty sz A c
  | list sz rows a c u hc hn hl hm hr ih =>
    refine .list sz rows a c u hc (hN _ hn) hl (fun i j hi hj => ?_) (fun i r hi j x hx => ih i r hi j x hx)
    rw [World.cell?_of_block (w := w) (by rw [block_of_add]; exact hw _ hn)]
    exact hm i j hi hj
  | ptr cells off a u hn hm hr ih =>
    refine .ptr cells off a u (hN _ hn) (fun j hj => ?_) (fun j x hx => ih j x hx)
    rw [World.cell?_of_block (w := w) (by rw [block_of_add]; exact hw _ hn)]
    exact hm j hj
  | iface t x v h ih => exact .iface t x v ih

theorem RD.oneCell {N : Nat → Prop} {w : World} {x : DV} {v : Value} (h : RD N w x v) : v.oneCell' = true := by
  cases h <;> first | rfl | assumption

structure Mp where
  l : Nat → Option Nat
  g : Nat → Option Nat
def Mp.at_ (M : Mp) : Rf → Option Nat
  | .l k => M.l k
  | .g i => M.g i
def Mp.Le (M M' : Mp) : Prop := ∀ r b, M.at_ r = some b → M'.at_ r = some b
theorem Mp.Le.refl (M : Mp) : M.Le M := fun _ _ h => h
theorem Mp.Le.trans {A B C : Mp} (h : A.Le B) (k : B.Le C) : A.Le C := fun r b hb => k r b (h r b hb)

/-- What a place's own contents may name: what was told holds no place of this call's own. -/
def Mp.glo (M : Mp) : Mp := ⟨fun _ => none, M.g⟩
def Mp.sub (M : Mp) : Rf → Mp
  | .l _ => M
  | .g _ => M.glo
theorem Mp.glo_le (M : Mp) : M.glo.Le M := fun r b h => by
  cases r with
  | l k => cases h
  | g i => exact h
theorem Mp.Le.glo {M M' : Mp} (h : M.Le M') : M.glo.Le M'.glo := fun r b hb => by
  cases r with
  | l k => cases hb
  | g i => exact h (.g i) b hb
theorem Mp.sub_le (M : Mp) (r : Rf) : (M.sub r).Le M := by
  cases r with
  | l k => exact .refl M
  | g i => exact M.glo_le
theorem Mp.Le.sub {M M' : Mp} (h : M.Le M') (r : Rf) : (M.sub r).Le (M'.sub r) := by
  cases r with
  | l k => exact h
  | g i => exact h.glo

inductive RV (M : Mp) (F : Nat → Prop) (w : World) : AV → Value → Prop
  | d {x : DV} {v : Value} (h : RD F w x v) : RV M F w (.d x) v
  | agg (cs : List AV) (vs : List Value) (hl : vs.length = cs.length) (h1 : ∀ (j : Nat) (v : Value), vs[j]? = some v → v.oneCell' = true)
      (h : ∀ (j : Nat) (x : AV) (v : Value), cs[j]? = some x → vs[j]? = some v → RV M F w x v) : RV M F w (.agg cs) (.agg vs.toArray)
  | tup (cs : List AV) (vs : List Value) (hl : vs.length = cs.length)
      (h : ∀ (j : Nat) (x : AV) (v : Value), cs[j]? = some x → vs[j]? = some v → RV M F w x v) : RV M F w (.tup cs) (.tuple vs.toArray)
  | ref (r : Rf) (off b : Nat) (h : M.at_ r = some b) : RV M F w (.ref r off) (.pointer (some ⟨b, off, none⟩))
  | slc (r : Rf) (sz off len cap b : Nat) (h : M.at_ r = some b) (hc : len ≤ cap) (hs : ∃ t n, w.shape? b = some (t, n) ∧ (off + cap) * sz ≤ n) :
      RV M F w (.slc r sz off len cap) (.slice (some ⟨b, off * sz, none⟩) len cap)
  | slc0 (r : Rf) (sz off : Nat) (A : Option Addr) : RV M F w (.slc r sz off 0 0) (.slice A 0 0)
  | el (r : Rf) (sz i j b : Nat) (h : M.at_ r = some b) : RV M F w (.el r sz i j) (.pointer (some ⟨b, i * sz + j, none⟩))
  | mp (r : Rf) (b : Nat) (h : M.at_ r = some b) : RV M F w (.mp r) (.map (some b))
  | fn (f : Nat) (cs : List AV) (vs : List Value) (hl : vs.length = cs.length)
      (h : ∀ (j : Nat) (x : AV) (v : Value), cs[j]? = some x → vs[j]? = some v → RV M F w x v) : RV M F w (.fn f cs) (.func (.func f) #[] vs.toArray)
  | ifc (t : TypeId) (x : AV) (v : Value) (h : RV M F w x v) : RV M F w (.ifc t x) (.iface t v)
  | undef (v : Value) : RV M F w .undef v

/-- The world has gone on: what lies in U is as it was, no block has changed its shape. -/
structure Ext (U : Nat → Prop) (w w' : World) : Prop where
  os : w'.os = w.os
  tape : w'.tape = w.tape
  output : w'.output = w.output
  size : w.heap.size ≤ w'.heap.size
  block : ∀ b, U b → w'.heap[b]? = w.heap[b]?
  shape : ∀ b, b < w.heap.size → w'.shape? b = w.shape? b
theorem Ext.refl (U : Nat → Prop) (w : World) : Ext U w w := ⟨rfl, rfl, rfl, Nat.le_refl _, fun _ _ => rfl, fun _ _ => rfl⟩
theorem Ext.trans {U U' : Nat → Prop} {a b c : World} (h : Ext U a b) (k : Ext U' b c) (hU : ∀ x, U x → U' x) : Ext U a c :=
  ⟨k.os.trans h.os, k.tape.trans h.tape, k.output.trans h.output, Nat.le_trans h.size k.size, fun x hx => (k.block x (hU x hx)).trans (h.block x hx),
   fun x hx => (k.shape x (Nat.lt_of_lt_of_le hx h.size)).trans (h.shape x hx)⟩
theorem Ext.mono {U U' : Nat → Prop} {a b : World} (h : Ext U' a b) (hU : ∀ x, U x → U' x) : Ext U a b := ⟨h.os, h.tape, h.output, h.size, fun x hx => h.block x (hU x hx), h.shape⟩
theorem shape_lt {w : World} {b t n : Nat} (h : w.shape? b = some (t, n)) : b < w.heap.size := by
  unfold World.shape? at h
  rcases Nat.lt_or_ge b w.heap.size with h1 | h1
  · exact h1
  · rw [Array.getElem?_eq_none h1] at h; cases h

theorem RV.mono {M M' : Mp} {F F' U : Nat → Prop} {w w' : World} {x : AV} {v : Value} (h : RV M F w x v) (hM : M.Le M') (hF : ∀ b, F b → F' b) (hFU : ∀ b, F b → U b) (hw : Ext U w w') : RV M' F' w' x v := by
  induction h with
  | d h => exact .d (h.mono hF (fun b hb => hw.block b (hFU b hb)))
  | agg cs vs hl h1 h ih => exact .agg cs vs hl h1 ih
  | tup cs vs hl h ih => exact .tup cs vs hl ih
  | ref r off b h => exact .ref r off b (hM _ _ h)
  | slc r sz off len cap b h hc hs =>
    obtain ⟨t, n, hs, hn⟩ := hs
    exact .slc r sz off len cap b (hM _ _ h) hc ⟨t, n, (hw.shape b (shape_lt hs)).trans hs, hn⟩
  | slc0 r sz off A => exact .slc0 r sz off A
  | el r sz i j b h => exact .el r sz i j b (hM _ _ h)
  | mp r b h => exact .mp r b (hM _ _ h)
  | fn f cs vs hl h ih => exact .fn f cs vs hl ih
  | ifc t x v h ih => exact .ifc t x v ih
  | undef v => exact .undef v

/-- What block b holds. -/
def RB (M : Mp) (F : Nat → Prop) (w : World) (b : Nat) : AB → Prop
  | .cells cs => ∃ arr t, w.heap[b]? = some (.cells arr t (0, 0)) ∧ arr.size = cs.length ∧ ∀ (j : Nat) (x : AV) (v : Value), cs[j]? = some x → arr[j]? = some v → v.oneCell' = true ∧ RV M F w x v
  | .row sz rows => ∃ arr t, w.heap[b]? = some (.cells arr t (0, 0)) ∧ rows.length * sz ≤ arr.size ∧ (∀ (i : Nat) (r : List DV), rows[i]? = some r → r.length = sz) ∧
      (∀ (j : Nat) (v : Value), arr[j]? = some v → v.oneCell' = true) ∧ ∀ (i : Nat) (r : List DV) (j : Nat) (x : DV) (v : Value), rows[i]? = some r → r[j]? = some x → arr[i * sz + j]? = some v → RD F w x v
  | .arow sz rows => ∃ arr t, w.heap[b]? = some (.cells arr t (0, 0)) ∧ rows.length * sz ≤ arr.size ∧ (∀ (i : Nat) (r : List AV), rows[i]? = some r → r.length = sz) ∧
      (∀ (j : Nat) (v : Value), arr[j]? = some v → v.oneCell' = true) ∧ ∀ (i : Nat) (r : List AV) (j : Nat) (x : AV) (v : Value), rows[i]? = some r → r[j]? = some x → arr[i * sz + j]? = some v → RV M F w x v
  | .map es => ∃ (ents : Array MapEntry) (clock : Nat), w.heap[b]? = some (.map ents clock) ∧ ents.size = es.length ∧
      (∀ (i : Nat) (e : MapEntry) (x : AV × AV), ents[i]? = some e → es[i]? = some x → RV M F w x.1 e.key ∧ RV M F w x.2 e.val) ∧
      (∀ (i : Nat) (e : MapEntry), ents[i]? = some e → e.born < clock) ∧ (∀ (i j : Nat) (e e' : MapEntry), ents[i]? = some e → ents[j]? = some e' → e.born = e'.born → i = j)
  | .dmap es => ∃ (ents : Array MapEntry) (clock : Nat), w.heap[b]? = some (.map ents clock) ∧ ents.size = es.length ∧
      (∀ (i : Nat) (e : MapEntry) (x : DX × DX), ents[i]? = some e → es[i]? = some x → RV M F w x.1.av e.key ∧ RV M F w x.2.av e.val) ∧
      (∀ (i : Nat) (e : MapEntry), ents[i]? = some e → e.born < clock) ∧ (∀ (i j : Nat) (e e' : MapEntry), ents[i]? = some e → ents[j]? = some e' → e.born = e'.born → i = j)
  | .dead => True

theorem RB.lt {M : Mp} {F : Nat → Prop} {w : World} {b : Nat} {ab : AB} (h : RB M F w b ab) (hd : ab ≠ .dead) : b < w.heap.size := by
  have key : ∀ o, w.heap[b]? = some o → b < w.heap.size := fun o ho => (Array.getElem?_eq_some_iff.1 ho).1
  cases ab with
  | cells cs => obtain ⟨arr, t, h, _⟩ := h; exact key _ h
  | row sz rows => obtain ⟨arr, t, h, _⟩ := h; exact key _ h
  | arow sz rows => obtain ⟨arr, t, h, _⟩ := h; exact key _ h
  | map es => obtain ⟨arr, t, h, _⟩ := h; exact key _ h
  | dmap es => obtain ⟨arr, t, h, _⟩ := h; exact key _ h
  | dead => exact absurd rfl hd

/-- A block that nobody wrote holds what it held. -/
theorem RB.mono {M M' : Mp} {F F' U : Nat → Prop} {w w' : World} {b : Nat} {ab : AB} (h : RB M F w b ab) (hM : M.Le M') (hF : ∀ b, F b → F' b) (hFU : ∀ b, F b → U b) (hw : Ext U w w')
    (hb : ab ≠ .dead → w'.heap[b]? = w.heap[b]?) : RB M' F' w' b ab := by
  cases ab with
  | cells cs =>
    obtain ⟨arr, t, h1, h2, h3⟩ := h
    exact ⟨arr, t, (hb (by simp)).trans h1, h2, fun j x v hx hv => ⟨(h3 j x v hx hv).1, (h3 j x v hx hv).2.mono hM hF hFU hw⟩⟩
  | row sz rows =>
    obtain ⟨arr, t, h1, h2, h3, h4, h5⟩ := h
    exact ⟨arr, t, (hb (by simp)).trans h1, h2, h3, h4, fun i r j x v hi hj hv => (h5 i r j x v hi hj hv).mono hF (fun b hb => hw.block b (hFU b hb))⟩
  | arow sz rows =>
    obtain ⟨arr, t, h1, h2, h3, h4, h5⟩ := h
    exact ⟨arr, t, (hb (by simp)).trans h1, h2, h3, h4, fun i r j x v hi hj hv => (h5 i r j x v hi hj hv).mono hM hF hFU hw⟩
  | map es =>
    obtain ⟨ents, clock, h1, h2, h3, h4⟩ := h
    exact ⟨ents, clock, (hb (by simp)).trans h1, h2, fun i e x he hx => ⟨(h3 i e x he hx).1.mono hM hF hFU hw, (h3 i e x he hx).2.mono hM hF hFU hw⟩, h4⟩
  | dmap es =>
    obtain ⟨ents, clock, h1, h2, h3, h4⟩ := h
    exact ⟨ents, clock, (hb (by simp)).trans h1, h2, fun i e x he hx => ⟨(h3 i e x he hx).1.mono hM hF hFU hw, (h3 i e x he hx).2.mono hM hF hFU hw⟩, h4⟩
  | dead => trivial

/-- The call's own memory L and what it was told of (s), as it lies in w; what is not to be touched: U; what is read as data lies in F. -/
def Here (L : List AB) (s : List (Nat × AB)) : Rf → AB → Prop
  | .l k, ab => L[k]? = some ab
  | .g i, ab => (i, ab) ∈ s
structure St (M : Mp) (F U : Nat → Prop) (L : List AB) (s : List (Nat × AB)) (w : World) : Prop where
  rb : ∀ r ab b, Here L s r ab → M.at_ r = some b → RB (M.sub r) F w b ab
  inj : ∀ r r' ab ab' b, Here L s r ab → Here L s r' ab' → ab ≠ .dead → ab' ≠ .dead → M.at_ r = some b → M.at_ r' = some b → r = r'
  nU : ∀ r ab b, Here L s r ab → ab ≠ .dead → M.at_ r = some b → ¬ U b
  nd : (s.map (·.1)).Nodup
  FU : ∀ b, F b → U b
  Ult : ∀ b, U b → b < w.heap.size
  dom : ∀ k, L.length ≤ k → M.l k = none
  tot : ∀ id ab, (id, ab) ∈ s → ∃ b, M.g id = some b
  gdom : ∀ id, (∀ ab, (id, ab) ∉ s) → M.g id = none

/-! ### Values that name no place of this call's own -/
def Rf.isG : Rf → Bool
  | .g _ => true
  | .l _ => false
mutual
def AV.cl : AV → Bool
  | .d _ => true
  | .agg cs => clL cs
  | .tup cs => clL cs
  | .ref r _ => r.isG
  | .slc r _ _ _ _ => r.isG
  | .el r _ _ _ => r.isG
  | .mp r => r.isG
  | .fn _ cs => clL cs
  | .ifc _ x => x.cl
  | .undef => true
def clL : List AV → Bool
  | [] => true
  | x :: r => x.cl && clL r
end
theorem clL_at : ∀ {cs : List AV} {j : Nat} {x : AV}, clL cs = true → cs[j]? = some x → x.cl = true
  | [], j, x, _, hx => by simp at hx
  | c :: r, 0, x, h, hx => by
    simp only [clL, Bool.and_eq_true] at h
    simp at hx
    subst hx
    exact h.1
  | c :: r, j + 1, x, h, hx => by
    simp only [clL, Bool.and_eq_true] at h
    exact clL_at h.2 (by simpa using hx)
theorem Rf.isG_at {M : Mp} {r : Rf} {b : Nat} (h : r.isG = true) (hm : M.at_ r = some b) : M.glo.at_ r = some b := by
  cases r with
  | g i => exact hm
  | l k => cases h
theorem RV.closed {M : Mp} {F : Nat → Prop} {w : World} {x : AV} {v : Value} (h : RV M F w x v) (hc : x.cl = true) : RV M.glo F w x v := by
  induction h with
  | d h => exact .d h
  | agg cs vs hl h1 h ih => exact .agg cs vs hl h1 fun j x v hx hv => ih j x v hx hv (clL_at (by simpa [AV.cl] using hc) hx)
  | tup cs vs hl h ih => exact .tup cs vs hl fun j x v hx hv => ih j x v hx hv (clL_at (by simpa [AV.cl] using hc) hx)
  | ref r off b h => exact .ref r off b (Rf.isG_at hc h)
  | slc r sz off len cap b h hc' hs => exact .slc r sz off len cap b (Rf.isG_at hc h) hc' hs
  | slc0 r sz off A => exact .slc0 r sz off A
  | el r sz i j b h => exact .el r sz i j b (Rf.isG_at hc h)
  | mp r b h => exact .mp r b (Rf.isG_at hc h)
  | fn f cs vs hl h ih => exact .fn f cs vs hl fun j x v hx hv => ih j x v hx hv (clL_at (by simpa [AV.cl] using hc) hx)
  | ifc t x v h ih => exact .ifc t x v (ih (by simpa [AV.cl] using hc))
  | undef v => exact .undef v

end Go.Pv
