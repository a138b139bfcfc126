/- The judgement of an operation that writes nothing that was there, and its rules. -/
import Derived.Test.YtkenimmellonjaaPvB
namespace Go.Pv
open Go.RowKit

structure Grew (M : Mp) (F U : Nat → Prop) (w : World) (L : List AB) (s : List (Nat × AB)) (new : List AB) (v : AV) (val : Value) (M' : Mp) (F' U' : Nat → Prop) (w' : World) : Prop where
  le : M.Le M'
  old : ∀ k, k < L.length → M'.l k = M.l k
  fresh : ∀ k b, L.length ≤ k → M'.l k = some b → w.heap.size ≤ b
  FF : ∀ b, F b → F' b
  UU : ∀ b, U b → U' b
  Fn : ∀ b, F' b → F b ∨ w.heap.size ≤ b
  Un : ∀ b, U' b → U b ∨ w.heap.size ≤ b
  ext : Ext (fun b => b < w.heap.size) w w'
  st : St M' F' U' (L ++ new) s w'
  rv : RV M' F' w' v val

def PJ (P : Program) (G : Gl) (o : Oper) (rh : Operand → AV) (L : List AB) (s : List (Nat × AB)) (v : AV) (new : List AB) : Prop :=
  ∀ (M : Mp) (F U : Nat → Prop) (w : World) (a : Act), St M F U L s w → Glob G F w → (∀ x ∈ o.op.operands.toList, RV M F w (rh x) (a.eval x)) →
    o.wp P a w (fun a' w' => ∃ val M' F' U', a' = a.put o.dst val ∧ Grew M F U w L s new v val M' F' U' w') (fun _ _ _ => False)

theorem wp_value {P : Program} {o : Oper} {a : Act} {w w' : World} {K : Act → World → Prop} {Q : Exit → Act → World → Prop} {val : Value}
    (h : (execOp a.eval o).run P w = .ok (.value val) w') (hk : K (a.put o.dst val) w') : o.wp P a w K Q := by
  unfold Oper.wp; rw [h]; exact hk
theorem wp_skip' {P : Program} {o : Oper} {a : Act} {w w' : World} {K : Act → World → Prop} {Q : Exit → Act → World → Prop}
    (h : (execOp a.eval o).run P w = .ok .skip w') (hk : K (a.put o.dst Go.undef) w') : o.wp P a w K Q := by
  unfold Oper.wp; rw [h]; exact hk

theorem Grew.same {M : Mp} {F U : Nat → Prop} {w : World} {L : List AB} {s : List (Nat × AB)} {v : AV} {val : Value} (hS : St M F U L s w) (h : RV M F w v val) : Grew M F U w L s [] v val M F U w :=
  ⟨.refl M, fun _ _ => rfl, fun k b hk hb => (by rw [hS.dom k hk] at hb; cases hb), fun _ h => h, fun _ h => h, fun _ h => .inl h, fun _ h => .inl h, .refl _ _, by simpa using hS, h⟩

theorem pj_value {P : Program} {G : Gl} {o : Oper} {rh : Operand → AV} {L : List AB} {s : List (Nat × AB)} {v : AV}
    (h : ∀ (M : Mp) (F U : Nat → Prop) (w : World) (a : Act), St M F U L s w → Glob G F w → (∀ x ∈ o.op.operands.toList, RV M F w (rh x) (a.eval x)) →
      ∃ val, (execOp a.eval o).run P w = .ok (.value val) w ∧ RV M F w v val) : PJ P G o rh L s v [] := by
  intro M F U w a hS hG hx
  obtain ⟨val, hr, hv⟩ := h M F U w a hS hG hx
  exact wp_value hr ⟨val, M, F, U, rfl, .same hS hv⟩

/-- A new block. -/
def Mp.put (M : Mp) (k b : Nat) : Mp := ⟨fun j => if j = k then some b else M.l j, M.g⟩
theorem shape_alloc (w : World) (o : Obj) {b : Nat} (h : b < w.heap.size) : (w.alloc o).shape? b = w.shape? b := by
  unfold World.shape?
  rw [Below.heap_alloc w o b h]
theorem ext_alloc (w : World) (o : Obj) : Ext (fun b => b < w.heap.size) w (w.alloc o) :=
  ⟨rfl, rfl, rfl, by simp, fun b hb => Below.heap_alloc w o b hb, fun b hb => shape_alloc w o hb⟩

theorem St.lt {M : Mp} {F U : Nat → Prop} {L : List AB} {s : List (Nat × AB)} {w : World} (h : St M F U L s w) {r : Rf} {ab : AB} {b : Nat} (hr : Here L s r ab) (hd : ab ≠ .dead) (hm : M.at_ r = some b) : b < w.heap.size :=
  (h.rb r ab b hr hm).lt hd

theorem here_append {L : List AB} {s : List (Nat × AB)} {ab0 : AB} {r : Rf} {ab : AB} (h : Here (L ++ [ab0]) s r ab) : (Here L s r ab ∧ ∀ k, r = .l k → k < L.length) ∨ (r = .l L.length ∧ ab = ab0) := by
  cases r with
  | g i => exact .inl ⟨h, fun k e => by cases e⟩
  | l k =>
    simp only [Here] at h ⊢
    rcases Nat.lt_trichotomy k L.length with hk | hk | hk
    · rw [List.getElem?_append_left hk] at h
      exact .inl ⟨h, fun j e => by cases e; exact hk⟩
    · subst hk
      simp at h
      exact .inr ⟨rfl, h.symm⟩
    · rw [List.getElem?_eq_none (by simp; omega)] at h; cases h

/-- Everything that was goes on; the new block is the next local one. -/
theorem grew_alloc {M : Mp} {F U : Nat → Prop} {w : World} {L : List AB} {s : List (Nat × AB)} {ab : AB} {v : AV} {val : Value} (hS : St M F U L s w) (o : Obj)
    (hb : ∀ w' M' , M.Le M' → Ext (fun b => b < w.heap.size) w w' → w'.heap[w.heap.size]? = some o → RB M' F w' w.heap.size ab)
    (hv : ∀ w' M', M.Le M' → M'.l L.length = some w.heap.size → Ext (fun b => b < w.heap.size) w w' → w'.heap[w.heap.size]? = some o → RV M' F w' v val) :
    Grew M F U w L s [ab] v val (M.put L.length w.heap.size) F U (w.alloc o) := by
  have hle : M.Le (M.put L.length w.heap.size) := by
    intro r b h
    cases r with
    | g i => exact h
    | l k =>
      simp only [Mp.at_, Mp.put] at h ⊢
      by_cases e : k = L.length
      · subst e; rw [hS.dom _ (Nat.le_refl _)] at h; cases h
      · rw [if_neg e]; exact h
  have hx := ext_alloc w o
  have hnew : (w.alloc o).heap[w.heap.size]? = some o := heap_alloc_new w o
  have hold : ∀ r, (∀ k, r = .l k → k < L.length) → (M.put L.length w.heap.size).at_ r = M.at_ r := by
    intro r hr
    cases r with
    | g i => rfl
    | l k => simp only [Mp.at_, Mp.put]; rw [if_neg (by have := hr k rfl; omega)]
  have hFU : ∀ b, F b → b < w.heap.size := fun b hb => hS.Ult b (hS.FU b hb)
  refine ⟨hle, fun k hk => hold (.l k) (fun j e => by cases e; exact hk), fun k b hk hb' => ?_, fun _ h => h, fun _ h => h, fun _ h => .inl h, fun _ h => .inl h, hx, ?_, hv _ _ hle (by simp [Mp.put]) hx hnew⟩
  · simp only [Mp.put] at hb'
    split at hb'
    · cases hb'; exact Nat.le_refl _
    · rw [hS.dom k hk] at hb'; cases hb'
  · refine ⟨fun r ab' b hr hm => ?_, fun r r' a1 a2 b h1 h2 d1 d2 m1 m2 => ?_, fun r a1 b h1 d1 m1 hu => ?_, hS.nd, hS.FU, fun b hb' => ?_, fun k hk => ?_, hS.tot, hS.gdom⟩
    · rcases here_append hr with ⟨h1, h2⟩ | ⟨rfl, rfl⟩
      · rw [hold r h2] at hm
        refine (hS.rb r ab' b h1 hm).mono (hle.sub r) (fun _ h => h) hFU hx (fun hd => hx.block b (hS.lt h1 hd hm))
      · simp only [Mp.at_, Mp.put, if_true] at hm
        cases hm
        exact hb _ _ hle hx hnew
    · rcases here_append h1 with ⟨e1, k1⟩ | ⟨rfl, rfl⟩ <;> rcases here_append h2 with ⟨e2, k2⟩ | ⟨rfl, rfl⟩
      · rw [hold r k1] at m1; rw [hold r' k2] at m2
        exact hS.inj r r' a1 a2 b e1 e2 d1 d2 m1 m2
      · rw [hold r k1] at m1
        simp only [Mp.at_, Mp.put, if_true] at m2
        cases m2
        exact absurd (hS.lt e1 d1 m1) (Nat.lt_irrefl _)
      · rw [hold r' k2] at m2
        simp only [Mp.at_, Mp.put, if_true] at m1
        cases m1
        exact absurd (hS.lt e2 d2 m2) (Nat.lt_irrefl _)
      · rfl
    · rcases here_append h1 with ⟨h1, k1⟩ | ⟨rfl, rfl⟩
      · rw [hold r k1] at m1
        exact hS.nU r a1 b h1 d1 m1 hu
      · simp only [Mp.at_, Mp.put, if_true] at m1
        cases m1
        exact absurd (hS.Ult _ hu) (Nat.lt_irrefl _)
    · have := hS.Ult b hb'; simp; omega
    · simp at hk
      simp only [Mp.put]
      rw [if_neg (by omega)]
      exact hS.dom k (by omega)

end Go.Pv
