/- What a call comes to ('Contract'), and how a caller meets it: what the callee was not told of stays as it is. -/
import Derived.Test.YtpfmnccocmgfmaaPvD
namespace Go.Pv
open Go.RowKit

/-- A live block of what was told. -/
def LiveG (g : Nat → Option Nat) (s : List (Nat × AB)) (b : Nat) : Prop := ∃ id ab, (id, ab) ∈ s ∧ ab ≠ .dead ∧ g id = some b

/-- Called with these arguments, told of s, it returns; R tells what, and what s is then. -/
def Callee (P : Program) (f : Nat) : Prop := ∀ args w, (callFunc f args).run P w = .ok (.enter f args) w
def Contract (P : Program) (G : Gl) (f : Nat) (args : List AV) (s : List (Nat × AB)) (R : AV → List (Nat × AB) → Prop) : Prop := Callee P f ∧
  ∀ (g : Nat → Option Nat) (F U : Nat → Prop) (w : World) (vals : List Value), St ⟨fun _ => none, g⟩ F U [] s w → Glob G F w → vals.length = args.length →
    (∀ (j : Nat) (x : AV) (v : Value), args[j]? = some x → vals[j]? = some v → RV ⟨fun _ => none, g⟩ F w x v) →
    Calls P f vals.toArray w fun e w' => ∃ v res s' g' F' U', e = .returned v ∧ R res s' ∧ (∀ id b, g id = some b → g' id = some b) ∧ (∀ id ab, (id, ab) ∈ s' → (∃ ab0, (id, ab0) ∈ s) ∨ g id = none) ∧
      (∀ b, F b → F' b) ∧ (∀ b, U b → U' b) ∧ (∀ b, F' b → F b ∨ w.heap.size ≤ b ∨ LiveG g s b) ∧ Ext U w w' ∧ St ⟨fun _ => none, g'⟩ F' U' [] s' w' ∧ RV ⟨fun _ => none, g'⟩ F' w' res v

theorem Contract.mono {P : Program} {G : Gl} {f : Nat} {args : List AV} {s : List (Nat × AB)} {R R' : AV → List (Nat × AB) → Prop} (h : Contract P G f args s R) (hR : ∀ r t, R r t → R' r t) : Contract P G f args s R' :=
  ⟨h.1, fun g F U w vals hS hG hl hv => (h.2 g F U w vals hS hG hl hv).mono fun _ _ ⟨v, res, s', g', F', U', he, hr, rest⟩ => ⟨v, res, s', g', F', U', he, hR _ _ hr, rest⟩⟩

theorem call_frame {P : Program} {G : Gl} {f : Nat} {args : List AV} {s0 sx : List (Nat × AB)} {R : AV → List (Nat × AB) → Prop} (hC : Contract P G f args s0 R)
    {M : Mp} {F U : Nat → Prop} {L : List AB} {w : World} {vals : List Value} (hS : St M F U L (s0 ++ sx) w) (hG : Glob G F w) (hl : vals.length = args.length) (hcl : clL args = true)
    (hv : ∀ (j : Nat) (x : AV) (v : Value), args[j]? = some x → vals[j]? = some v → RV M F w x v) :
    Calls P f vals.toArray w fun e w' => ∃ v res s1 g' F' U', e = .returned v ∧ R res s1 ∧ (∀ id b, M.g id = some b → g' id = some b) ∧
      (∀ b, F b → F' b) ∧ (∀ b, U b → U' b) ∧ (∀ b, F' b → F b ∨ w.heap.size ≤ b ∨ LiveG M.g s0 b) ∧ (∀ b, U' b → U b ∨ F' b) ∧ Ext (fun b => b < w.heap.size ∧ ¬ LiveG M.g s0 b) w w' ∧
      St ⟨M.l, g'⟩ F' U' L (s1 ++ sx) w' ∧ RV ⟨fun _ => none, g'⟩ F' w' res v ∧
      (∀ id ab b, (id, ab) ∈ s1 → ab ≠ .dead → g' id = some b → w.heap.size ≤ b ∨ LiveG M.g s0 b) ∧ (∀ id ab, (id, ab) ∈ s1 → (∃ ab0, (id, ab0) ∈ s0) ∨ M.g id = none) := by
  have hin : ∀ id ab, (id, ab) ∈ s0 → Here L (s0 ++ sx) (.g id) ab := fun id ab h => List.mem_append_left _ h
  have hlive : ∀ b, LiveG M.g s0 b → ¬ U b ∧ b < w.heap.size := by
    rintro b ⟨id, ab, h1, h2, h3⟩
    exact ⟨hS.nU (.g id) ab b (hin _ _ h1) h2 h3, hS.lt (r := .g id) (hin _ _ h1) h2 h3⟩
  have hnd := hS.nd
  rw [List.map_append] at hnd
  have hdis : ∀ id ab ab', (id, ab) ∈ s0 → (id, ab') ∈ sx → False := fun id ab ab' h1 h2 =>
    (List.nodup_append.1 hnd).2.2 id (List.mem_map.2 ⟨_, h1, rfl⟩) id (List.mem_map.2 ⟨_, h2, rfl⟩) rfl
  have hUc : ∀ b, U b → b < w.heap.size ∧ ¬ LiveG M.g s0 b := fun b hb => ⟨hS.Ult b hb, fun h => (hlive b h).1 hb⟩
  have hS0 : St ⟨fun _ => none, M.g⟩ F (fun b => b < w.heap.size ∧ ¬ LiveG M.g s0 b) [] s0 w := by
    refine ⟨fun r ab b hr hm => ?_, fun r r' a1 a2 b h1 h2 d1 d2 m1 m2 => ?_, fun r ab b h1 d1 m1 hu => ?_, (List.nodup_append.1 hnd).1, fun b hb => hUc b (hS.FU b hb), fun b hb => hb.1, fun _ _ => rfl, fun id ab h => hS.tot id ab (List.mem_append_left _ h)⟩
    · cases r with
      | l k => simp [Here] at hr
      | g id => exact hS.rb (.g id) ab b (hin _ _ hr) hm
    · cases r with
      | l k => simp [Here] at h1
      | g id =>
        cases r' with
        | l k => simp [Here] at h2
        | g id' => exact hS.inj (.g id) (.g id') a1 a2 b (hin _ _ h1) (hin _ _ h2) d1 d2 m1 m2
    · cases r with
      | l k => simp [Here] at h1
      | g id => exact hu.2 ⟨id, ab, h1, d1, m1⟩
  refine (hC.2 M.g F _ w vals hS0 hG hl (fun j x v hx hv' => (hv j x v hx hv').closed (clL_at hcl hx))).mono ?_
  rintro e w' ⟨v, res, s1, g', F', Uc', rfl, hR, hg, hnew, hFF, hUU, hFn, hX, hS1, hrv⟩
  have hMle : M.Le ⟨M.l, g'⟩ := fun r b h => by
    cases r with
    | l k => exact h
    | g id => exact hg id b h
  -- what was live and was not told of
  have hrest : ∀ r ab b, Here L (s0 ++ sx) r ab → (∀ id, r = .g id → (id, ab) ∈ sx) → ab ≠ .dead → M.at_ r = some b → b < w.heap.size ∧ ¬ LiveG M.g s0 b := by
    intro r ab b hr hx hd hm
    refine ⟨hS.lt hr hd hm, ?_⟩
    rintro ⟨id, ab', h1, h2, h3⟩
    have := hS.inj r (.g id) ab ab' b hr (hin _ _ h1) hd h2 hm h3
    exact hdis id ab' ab h1 (hx id this)
  have hsplit : ∀ r ab, Here L (s1 ++ sx) r ab → (∃ id, r = .g id ∧ (id, ab) ∈ s1) ∨ (Here L (s0 ++ sx) r ab ∧ ∀ id, r = .g id → (id, ab) ∈ sx) := by
    intro r ab h
    cases r with
    | l k => exact .inr ⟨h, fun id e => by cases e⟩
    | g id =>
      rcases List.mem_append.1 h with h | h
      · exact .inl ⟨id, rfl, h⟩
      · exact .inr ⟨List.mem_append_right _ h, fun id' e => by cases e; exact h⟩
  have hold : ∀ r ab b, Here L (s0 ++ sx) r ab → (∀ id, r = .g id → (id, ab) ∈ sx) → (⟨M.l, g'⟩ : Mp).at_ r = some b → M.at_ r = some b := by
    intro r ab b hr hx hm
    cases r with
    | l k => exact hm
    | g id =>
      obtain ⟨b', hb'⟩ := hS.tot id ab (List.mem_append_right _ (hx id rfl))
      have := hg id b' hb'
      simp only [Mp.at_] at hm
      rw [this] at hm
      cases hm
      exact hb'
  have hFU : ∀ b, F b → b < w.heap.size ∧ ¬ LiveG M.g s0 b := fun b hb => hUc b (hS.FU b hb)
  refine ⟨v, res, s1, g', F', fun b => U b ∨ F' b, rfl, hR, hg, hFF, fun _ h => .inl h, hFn, fun _ h => h, hX, ?_, hrv, fun id ab b h hd hb => ?_, hnew⟩
  rotate_left
  · have hn := hS1.nU (.g id) ab b h hd hb
    by_cases hlt : w.heap.size ≤ b
    · exact .inl hlt
    · refine .inr (Classical.byContradiction fun hl => hn (hUU b ⟨by omega, hl⟩))
  refine ⟨fun r ab b hr hm => ?_, fun r r' a1 a2 b h1 h2 d1 d2 m1 m2 => ?_, fun r ab b h1 d1 m1 hu => ?_, ?_, fun b hb => .inr hb, fun b hb => ?_, hS.dom, fun id ab h => ?_⟩
  · rcases hsplit r ab hr with ⟨id, rfl, h⟩ | ⟨h, hx⟩
    · exact hS1.rb (.g id) ab b h hm
    · have hm' := hold r ab b h hx hm
      exact (hS.rb r ab b h hm').mono (hMle.sub r) hFF hFU hX (fun hd => hX.block b (hrest r ab b h hx hd hm'))
  · rcases hsplit r a1 h1 with ⟨id, rfl, k1⟩ | ⟨k1, x1⟩ <;> rcases hsplit r' a2 h2 with ⟨id', rfl, k2⟩ | ⟨k2, x2⟩
    · exact hS1.inj (.g id) (.g id') a1 a2 b k1 k2 d1 d2 m1 m2
    · have := hrest r' a2 b k2 x2 d2 (hold _ _ _ k2 x2 m2)
      exact absurd (hUU b this) (hS1.nU (.g id) a1 b k1 d1 m1)
    · have := hrest r a1 b k1 x1 d1 (hold _ _ _ k1 x1 m1)
      exact absurd (hUU b this) (hS1.nU (.g id') a2 b k2 d2 m2)
    · exact hS.inj r r' a1 a2 b k1 k2 d1 d2 (hold _ _ _ k1 x1 m1) (hold _ _ _ k2 x2 m2)
  · rcases hsplit r ab h1 with ⟨id, rfl, k1⟩ | ⟨k1, x1⟩
    · have hn := hS1.nU (.g id) ab b k1 d1 m1
      rcases hu with hu | hu
      · exact hn (hUU b (hUc b hu))
      · exact hn (hS1.FU b hu)
    · have hm' := hold _ _ _ k1 x1 m1
      obtain ⟨hlt, hnl⟩ := hrest r ab b k1 x1 d1 hm'
      rcases hu with hu | hu
      · exact hS.nU r ab b k1 d1 hm' hu
      · rcases hFn b hu with h | h | h
        · exact hS.nU r ab b k1 d1 hm' (hS.FU b h)
        · omega
        · exact hnl h
  · rw [List.map_append]
    refine List.nodup_append.2 ⟨hS1.nd, (List.nodup_append.1 hnd).2.1, ?_⟩
    intro x hx y hy hxy
    subst hxy
    obtain ⟨⟨i1, a1⟩, h1, rfl⟩ := List.mem_map.1 hx
    obtain ⟨⟨i2, a2⟩, h2, he⟩ := List.mem_map.1 hy
    simp only at he
    subst he
    rcases hnew _ _ h1 with ⟨ab0, h3⟩ | h3
    · exact hdis _ ab0 a2 h3 h2
    · obtain ⟨b', hb'⟩ := hS.tot _ a2 (List.mem_append_right _ h2)
      rw [h3] at hb'
      cases hb'
  · rcases hb with hb | hb
    · exact Nat.lt_of_lt_of_le (hS.Ult b hb) hX.size
    · exact hS1.Ult b (hS1.FU b hb)
  · rcases List.mem_append.1 h with h | h
    · exact hS1.tot id ab h
    · obtain ⟨b', hb'⟩ := hS.tot id ab (List.mem_append_right _ h)
      exact ⟨b', hg id b' hb'⟩

/-- A function value's call. -/
def fnOf : AV → Option (Nat × List AV)
  | .fn f caps => some (f, caps)
  | _ => none

theorem map_get {α β : Type} {f : α → β} {xs : List α} {j : Nat} {y : β} (h : (xs.map f)[j]? = some y) : ∃ x, xs[j]? = some x ∧ f x = y := by
  rw [List.getElem?_map] at h
  exact Option.map_eq_some_iff.1 h

/-- The call's target, and its arguments with what was captured behind them. -/
theorem run_call {P : Program} {o : Oper} {rh : Operand → AV} {M : Mp} {F : Nat → Prop} {w : World} {a : Act} {c : Operand} {args : Array Operand} {tys : Array TypeId} {f : Nat} {caps : List AV}
    (ho : o.op = .call { callee := .value c, args := args, argTypes := tys }) (hc : rh c = .fn f caps) (he : ∀ args w, (callFunc f args).run P w = .ok (.enter f args) w)
    (hx : ∀ x ∈ o.op.operands.toList, RV M F w (rh x) (a.eval x)) :
    ∃ vals : List Value, (execOp a.eval o).run P w = .ok (.enter f vals.toArray) w ∧ vals.length = (args.toList.map rh ++ caps).length ∧
      ∀ (j : Nat) (x : AV) (v : Value), (args.toList.map rh ++ caps)[j]? = some x → vals[j]? = some v → RV M F w x v := by
  have h1 := hx c (by simp [ho, Op.operands, Call.operands])
  rw [hc] at h1
  have hargs : ∀ x ∈ args.toList, RV M F w (rh x) (a.eval x) := fun x hxm => hx x (by simp [ho, Op.operands, Call.operands]; exact .inr (by simpa using hxm))
  generalize hfv : a.eval c = fv at h1
  cases h1 with
  | fn _ cs vs hl h =>
    refine ⟨args.toList.map a.eval ++ vs, ?_, by simp [hl], fun j x v hj hv => ?_⟩
    · simp only [execOp, ho, resolve, hfv, Deferred.ofValue, Sem.run_bind, Sem.run_pure, Result.andThen_ok, invoke]
      rw [he]
      simp [← arr_map]
    · rcases Nat.lt_or_ge j args.toList.length with hlt | hge
      · rw [List.getElem?_append_left (by simpa using hlt)] at hj hv
        obtain ⟨y, hy, rfl⟩ := map_get hj
        obtain ⟨y', hy', rfl⟩ := map_get hv
        rw [hy] at hy'
        cases hy'
        exact hargs y (List.mem_of_getElem? hy)
      · rw [List.getElem?_append_right (by simpa using hge)] at hj hv
        simp only [List.length_map] at hj hv
        exact h _ x v hj hv

/-- What may be handed on as something else: nil as a list without elements. -/
inductive WkL : List AV → List AV → Prop
  | nil : WkL [] []
  | s (x : AV) {r r' : List AV} (h : WkL r r') : WkL (x :: r) (x :: r')
  | n (sz : Nat) {r r' : List AV} (h : WkL r r') : WkL (.d .nil :: r) (.d (.list sz []) :: r')
theorem WkL.refl : ∀ (l : List AV), WkL l l
  | [] => .nil
  | x :: r => .s x (WkL.refl r)
theorem WkL.len {l l' : List AV} (h : WkL l l') : l.length = l'.length := by
  induction h with
  | nil => rfl
  | s x h ih => simp [ih]
  | n sz h ih => simp [ih]
theorem WkL.rv {M : Mp} {F : Nat → Prop} {w : World} {l l' : List AV} {vals : List Value} (h : WkL l l') (hv : ∀ (j : Nat) (x : AV) (v : Value), l[j]? = some x → vals[j]? = some v → RV M F w x v) :
    ∀ (j : Nat) (x : AV) (v : Value), l'[j]? = some x → vals[j]? = some v → RV M F w x v := by
  induction h generalizing vals with
  | nil => exact hv
  | s x h ih =>
    intro j y v hy hv'
    cases j with
    | zero => exact hv 0 y v hy hv'
    | succ j =>
      cases vals with
      | nil => simp at hv'
      | cons u us => exact ih (vals := us) (fun j x v hx hv'' => hv (j + 1) x v (by simpa using hx) (by simpa using hv'')) j y v (by simpa using hy) (by simpa using hv')
  | n sz h ih =>
    intro j y v hy hv'
    cases j with
    | zero =>
      simp at hy
      subst hy
      have := hv 0 (.d .nil) v rfl hv'
      rw [this.nil_inv]
      exact .d (.empty sz none 0)
    | succ j =>
      cases vals with
      | nil => simp at hv'
      | cons u us => exact ih (vals := us) (fun j x v hx hv'' => hv (j + 1) x v (by simpa using hx) (by simpa using hv'')) j y v (by simpa using hy) (by simpa using hv')

/-- A call that writes nothing that was there. -/
theorem pj_call {P : Program} {G : Gl} {o : Oper} {rh : Operand → AV} {L : List AB} {s : List (Nat × AB)} {c : Operand} {args : Array Operand} {tys : Array TypeId} {f : Nat} {caps : List AV} {v : AV}
    (ho : o.op = .call { callee := .value c, args := args, argTypes := tys }) (hc : rh c = .fn f caps)
    {args' : List AV} (hw : WkL (args.toList.map rh ++ caps) args') (hcl : clL args' = true) (hC : Contract P G f args' [] (fun r t => r = v ∧ t = [])) : PJ P G o rh L s v [] := by
  intro M F U w a hS hG hx
  obtain ⟨vals, hrun, hl, hv⟩ := run_call ho hc hC.1 hx
  have hcall := call_frame (s0 := []) (sx := s) hC hS hG (by rw [hl, hw.len]) hcl (fun j x v hx hv' => hw.rv hv j x v hx hv')
  unfold Oper.wp
  rw [hrun]
  simp only [Oper.upon]
  refine hcall.mono ?_
  rintro e w' ⟨val, res, s1, g', F', U', rfl, ⟨rfl, rfl⟩, hg, hFF, hUU, hFn, hUn, hX, hS', hrv, _, _⟩
  have hnl : ∀ b, ¬ LiveG M.g [] b := by rintro b ⟨id, ab, h, _⟩; cases h
  have hle : M.Le ⟨M.l, g'⟩ := fun r b h => by
    cases r with
    | l k => exact h
    | g id => exact hg id b h
  refine ⟨val, ⟨M.l, g'⟩, F', U', rfl, hle, fun _ _ => rfl, fun k b hk hb => ?_, hFF, hUU, fun b hb => ?_, fun b hb => ?_, hX.mono (fun b hb => ⟨hb, hnl b⟩), by simpa using hS', ?_⟩
  · rw [hS.dom k hk] at hb; cases hb
  · rcases hFn b hb with h | h | h
    · exact .inl h
    · exact .inr h
    · exact absurd h (hnl b)
  · rcases hUn b hb with h | h
    · exact .inl h
    · rcases hFn b h with h | h | h
      · exact .inl (hS.FU b h)
      · exact .inr h
      · exact absurd h (hnl b)
  · exact hrv.mono (Mp.glo_le ⟨M.l, g'⟩) (fun _ h => h) hS'.FU (.refl _ _)

end Go.Pv
