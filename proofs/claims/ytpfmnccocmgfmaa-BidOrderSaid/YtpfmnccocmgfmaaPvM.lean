/- Operations that write: stores; calls of whatever kind. -/
import Derived.Test.YtpfmnccocmgfmaaPvL
namespace Go.Pv
open Go.RowKit

structure Eff (M : Mp) (F U : Nat → Prop) (s : List (Nat × AB)) (w : World) (L' : List AB) (s' : List (Nat × AB)) (v : AV) (val : Value) (M' : Mp) (F' U' : Nat → Prop) (w' : World) : Prop where
  le : M.Le M'
  FF : ∀ b, F b → F' b
  UU : ∀ b, U b → U' b
  ext : Ext U w w'
  st : St M' F' U' L' s' w'
  rv : RV M' F' w' v val
  Fn : ∀ b, F' b → F b ∨ w.heap.size ≤ b ∨ LiveG M.g s b ∨ ∃ k, M.l k = some b
  ll : ∀ k b, M'.l k = some b → w.heap.size ≤ b ∨ ∃ k', M.l k' = some b
  lg : ∀ id ab b, (id, ab) ∈ s' → ab ≠ .dead → M'.g id = some b → w.heap.size ≤ b ∨ LiveG M.g s b ∨ ∃ k, M.l k = some b
  ids : ∀ id ab, (id, ab) ∈ s' → (∃ ab0, (id, ab0) ∈ s) ∨ M.g id = none

def EJ (P : Program) (G : Gl) (o : Oper) (rh : Operand → AV) (L : List AB) (s : List (Nat × AB)) (K : AV → List AB → List (Nat × AB) → Prop) : Prop :=
  ∀ (M : Mp) (F U : Nat → Prop) (w : World) (a : Act), St M F U L s w → Glob G F w → (∀ x ∈ o.op.operands.toList, RV M F w (rh x) (a.eval x)) →
    o.wp P a w (fun a' w' => ∃ v L' s' val M' F' U', K v L' s' ∧ a' = a.put o.dst val ∧ Eff M F U s w L' s' v val M' F' U' w') (fun _ _ _ => False)

section
variable {P : Program} {G : Gl} {T : Nat → Option TI} {o : Oper} {rh : Operand → AV} {L : List AB} {s : List (Nat × AB)} {M : Mp} {F U : Nat → Prop} {w : World}

/-- A place's contents put anew. -/
inductive Put (ab0 ab1 : AB) : List AB → List (Nat × AB) → Rf → List AB → List (Nat × AB) → Prop
  | l (L : List AB) (s : List (Nat × AB)) (k : Nat) (h : L[k]? = some ab0) : Put ab0 ab1 L s (.l k) (L.set k ab1) s
  | g (L : List AB) (s1 s2 : List (Nat × AB)) (id : Nat) : Put ab0 ab1 L (s1 ++ (id, ab0) :: s2) (.g id) L (s1 ++ (id, ab1) :: s2)
theorem Put.here {L L' : List AB} {s s' : List (Nat × AB)} {r : Rf} {ab0 ab1 : AB} (h : Put ab0 ab1 L s r L' s') : Here L s r ab0 := by
  cases h with
  | l _ k h => exact h
  | g s1 s2 id => simp [Here]
theorem Put.spec {L L' : List AB} {s s' : List (Nat × AB)} {r : Rf} {ab0 ab1 : AB} (h : Put ab0 ab1 L s r L' s') (hnd : (s.map (·.1)).Nodup) :
    (∀ r' ab, Here L' s' r' ab → (r' = r ∧ ab = ab1) ∨ (r' ≠ r ∧ Here L s r' ab)) ∧ (s'.map (·.1)) = s.map (·.1) ∧ L'.length = L.length := by
  cases h with
  | l _ k h =>
    refine ⟨fun r' ab hr => ?_, rfl, by simp⟩
    cases r' with
    | g id => exact .inr ⟨by simp, hr⟩
    | l j =>
      simp only [Here] at hr
      by_cases e : k = j
      · subst e
        rw [List.getElem?_set_self (List.getElem?_eq_some_iff.1 h).1] at hr
        cases hr
        exact .inl ⟨rfl, rfl⟩
      · rw [List.getElem?_set_ne e] at hr
        exact .inr ⟨fun h => by cases h; exact e rfl, hr⟩
  | g s1 s2 id =>
    refine ⟨fun r' ab hr => ?_, by simp, rfl⟩
    cases r' with
    | l j => exact .inr ⟨by simp, hr⟩
    | g j =>
      simp only [Here, List.mem_append, List.mem_cons] at hr
      rw [List.map_append, List.map_cons] at hnd
      have h3 := List.nodup_append.1 hnd
      rcases hr with hr | hr | hr
      · refine .inr ⟨fun h => ?_, by simp [Here, hr]⟩
        cases h
        exact h3.2.2 id (List.mem_map.2 ⟨_, hr, rfl⟩) id (by simp) rfl
      · cases hr
        exact .inl ⟨rfl, rfl⟩
      · refine .inr ⟨fun h => ?_, by simp [Here, hr]⟩
        cases h
        have := (List.nodup_cons.1 h3.2.1).1
        exact this (List.mem_map.2 ⟨_, hr, rfl⟩)

theorem shape_setRow {b : Nat} {old new : Array Value} {t : TypeId} {fr : Nat × Nat} (hb : w.heap[b]? = some (.cells old t fr)) (hsz : new.size = old.size) (x : Nat) : (w.setRow b new).shape? x = w.shape? x := by
  unfold World.shape?
  by_cases e : x = b
  · subst e
    rw [setRow_heap w x old new t fr hb, hb]
    simp [hsz]
  · rw [setRow_other w b x new e]

theorem eff_write {L' : List AB} {s' : List (Nat × AB)} {r : Rf} {ab0 ab1 : AB} {b : Nat} {old new : Array Value} {t : TypeId} (hS : St M F U L s w) (hp : Put ab0 ab1 L s r L' s') (hd : ab0 ≠ .dead) (hm : M.at_ r = some b)
    (hb : w.heap[b]? = some (.cells old t (0, 0))) (hsz : new.size = old.size) (hrb : ∀ w', Ext U w w' → w'.heap[b]? = some (.cells new t (0, 0)) → RB (M.sub r) F w' b ab1) :
    Eff M F U s w L' s' (.d (.raw .nilIface)) .nilIface M F U (w.setRow b new) := by
  obtain ⟨hsp, hids, hlen⟩ := hp.spec hS.nd
  have hnU := hS.nU r ab0 b hp.here hd hm
  have hX : Ext U w (w.setRow b new) := ⟨rfl, rfl, rfl, by simp, fun x hx => setRow_other w b x new (fun e => hnU (e ▸ hx)), fun x _ => shape_setRow hb hsz x⟩
  have hself : (w.setRow b new).heap[b]? = some (.cells new t (0, 0)) := setRow_heap w b old new t (0, 0) hb
  have hidm : ∀ id ab, (id, ab) ∈ s' → ∃ ab0, (id, ab0) ∈ s := fun id ab h => by
    have : id ∈ s'.map (·.1) := List.mem_map.2 ⟨_, h, rfl⟩
    rw [hids] at this
    obtain ⟨⟨i, a⟩, h1, h2⟩ := List.mem_map.1 this
    simp only at h2
    subst h2
    exact ⟨a, h1⟩
  refine ⟨.refl M, fun _ h => h, fun _ h => h, hX, ?_, .d (.raw _ rfl), fun _ h => .inl h, fun k b h => .inr ⟨k, h⟩, fun id ab b' h hd' hb' => ?_, fun id ab h => .inl (hidm id ab h)⟩
  · refine ⟨fun r' ab b' hr hm' => ?_, fun r1 r2 a1 a2 b' h1 h2 d1 d2 m1 m2 => ?_, fun r' ab b' hr hd' hm' => ?_, by rw [hids]; exact hS.nd, hS.FU, fun x hx => by simpa using hS.Ult x hx, fun k hk => hS.dom k (by omega), fun id ab h => ?_⟩
    · rcases hsp r' ab hr with ⟨rfl, rfl⟩ | ⟨hne, h⟩
      · rw [hm] at hm'
        cases hm'
        exact hrb _ hX hself
      · refine (hS.rb r' ab b' h hm').mono (.refl _) (fun _ h => h) hS.FU hX (fun hd' => setRow_other w b b' new (fun e => ?_))
        subst e
        exact hne (hS.inj r' r ab ab0 b' h hp.here hd' hd hm' hm)
    · have one : ∀ r' ab, Here L' s' r' ab → ab ≠ .dead → ∃ ab', Here L s r' ab' ∧ ab' ≠ .dead := fun r' ab hr hd' => by
        rcases hsp r' ab hr with ⟨rfl, rfl⟩ | ⟨_, h⟩
        · exact ⟨ab0, hp.here, hd⟩
        · exact ⟨ab, h, hd'⟩
      obtain ⟨x1, q1, e1⟩ := one r1 a1 h1 d1
      obtain ⟨x2, q2, e2⟩ := one r2 a2 h2 d2
      exact hS.inj r1 r2 x1 x2 b' q1 q2 e1 e2 m1 m2
    · rcases hsp r' ab hr with ⟨rfl, rfl⟩ | ⟨_, h⟩
      · exact hS.nU r' ab0 b' hp.here hd hm'
      · exact hS.nU r' ab b' h hd' hm'
    · obtain ⟨ab0', h'⟩ := hidm id ab h
      exact hS.tot id ab0' h'
  · right; left
    rcases hsp (.g id) ab h with ⟨e, rfl⟩ | ⟨_, h'⟩
    · subst e
      exact ⟨id, ab0, hp.here, hd, hb'⟩
    · exact ⟨id, ab, h', hd', hb'⟩

/-- What a store writes. -/
theorem run_store_cells {t : TypeId} {ti : TI} (hT : TabOK P T) (ht : T t = some ti) {b off : Nat} {v : Value} {arr : Array Value} {tt : TypeId} (hb : w.heap[b]? = some (.cells arr tt (0, 0))) (hsz : v.cells.size = ti.size) (hin : off + ti.size ≤ arr.size) (h1 : ∀ (j : Nat) (u : Value), v.cells[j]? = some u → u.oneCell' = true) :
    (Instr.storeAt t (.pointer (some ⟨b, off, none⟩)) v).run P w = .ok () (w.setRow b (setN arr.toList off v.cells.toList).toArray) := by
  obtain ⟨_, _, i, _, _, h3, h4, _⟩ := hT t ti ht
  unfold Instr.storeAt Instr.sureAddr storeVar
  simp only [Sem.run_bind, Sem.run_pure, Result.andThen_ok, run_sizeOf' h3, h4]
  rw [if_neg (by omega)]
  have := run_storeCells_at (P := P) b off tt v.cells.toList 0 arr w hb (by simp; omega) (fun u hu => by
    obtain ⟨j, hj, rfl⟩ := List.mem_iff_getElem.1 hu
    exact h1 j _ (by simp at hj; simp [hj]))
  rw [this]
  simp [setN]

theorem ej_store_cells {t : TypeId} {ti : TI} (hT : TabOK P T) (ht : T t = some ti) {x y : Operand} {r : Rf} {off : Nat} {cs : List AV} {L' : List AB} {s' : List (Nat × AB)} {K : AV → List AB → List (Nat × AB) → Prop} (ho : o.op = .store t x y) (hx1 : rh x = .ref r off)
    (hb : boxable (rh y) = true) (hsz : (rh y).cells.length = ti.size) (hin : off + ti.size ≤ cs.length) (hcl : ∀ id, r = .g id → clL (rh y).cells = true) (hp : Put (.cells cs) (.cells (setN cs off (rh y).cells)) L s r L' s')
    (hK : K .undef L' s') : EJ P G o rh L s K := by
  intro M F U w a hS hG hx
  have h1 := hx x (by simp [ho, Op.operands])
  have h2 := hx y (by simp [ho, Op.operands])
  rw [hx1] at h1
  have hc := h2.cells (fun vs e => by rw [e] at hb; simp [boxable] at hb) (fun e => by rw [e] at hb; simp [boxable] at hb)
  generalize he : a.eval x = u at h1
  cases h1 with
  | ref _ _ b hm =>
    obtain ⟨arr, tt, hbk, hasz, hac⟩ := hS.rb r _ b hp.here hm
    have hrun := run_store_cells hT ht hbk (v := a.eval y) (off := off) (by rw [hc.1, hsz]) (by omega) (fun j u hu => by
      have hj : j < (rh y).cells.length := by have := (Array.getElem?_eq_some_iff.1 hu).1; omega
      exact (hc.2 j _ u (List.getElem?_eq_getElem hj) hu).1)
    have hE := eff_write hS hp (by simp) hm hbk (new := (setN arr.toList off (a.eval y).cells.toList).toArray) (by simp only [List.size_toArray]; rw [setN_len (by simp [hc.1]; omega)]; simp) (fun w' hX hnew => by
      refine ⟨_, tt, hnew, by simp only [List.size_toArray]; rw [setN_len (by simp [hc.1]; omega), setN_len (by omega)]; simp [hasz], fun j z u hz hu => ?_⟩
      simp only [List.getElem?_toArray] at hu
      rw [setN_get (by omega)] at hz
      rw [setN_get (by simp [hc.1]; omega)] at hu
      simp only [Array.length_toList, hc.1] at hu
      by_cases hj : off ≤ j ∧ j < off + (rh y).cells.length
      · rw [if_pos hj] at hz hu
        have := hc.2 (j - off) z u hz (by simpa using hu)
        refine ⟨this.1, ?_⟩
        have hrv : RV (M.sub r) F w z u := by
          cases r with
          | l k => exact this.2
          | g id => exact this.2.closed (clL_at (hcl id rfl) hz)
        exact hrv.mono (.refl _) (fun _ h => h) hS.FU hX
      · rw [if_neg hj] at hz hu
        have := hac j z u hz (by simpa using hu)
        exact ⟨this.1, this.2.mono (.refl _) (fun _ h => h) hS.FU hX⟩)
    refine wp_skip' (w' := w.setRow b (setN arr.toList off (a.eval y).cells.toList).toArray) ?_ ⟨.undef, L', s', Go.undef, M, F, U, hK, rfl, hE.le, hE.FF, hE.UU, hE.ext, hE.st, .undef _, hE.Fn, hE.ll, hE.lg, hE.ids⟩
    simp only [execOp, ho, he, Sem.run_bind, hrun, Result.andThen_ok, Sem.run_pure]

/-- A call of whatever kind. -/
theorem ej_call {c : Operand} {args : Array Operand} {tys : Array TypeId} {f : Nat} {caps : List AV} {s0 sx : List (Nat × AB)} {R : AV → List (Nat × AB) → Prop} {K : AV → List AB → List (Nat × AB) → Prop}
    (ho : o.op = .call { callee := .value c, args := args, argTypes := tys }) (hc : rh c = .fn f caps)
    {args' : List AV} (hw : WkL (args.toList.map rh ++ caps) args') (hcl : clL args' = true) (hs : s = s0 ++ sx) (hC : Contract P G f args' s0 R) (hK : ∀ res s1, R res s1 → K res L (s1 ++ sx)) : EJ P G o rh L s K := by
  intro M F U w a hS hG hx
  subst hs
  obtain ⟨vals, hrun, hl, hv⟩ := run_call ho hc hC.1 hx
  have hcall := call_frame hC hS hG (by rw [hl, hw.len]) hcl (fun j x v hx hv' => hw.rv hv j x v hx hv')
  unfold Oper.wp
  rw [hrun]
  simp only [Oper.upon]
  refine hcall.mono ?_
  rintro e w' ⟨val, res, s1, g', F', U', rfl, hR, hg, hFF, hUU, hFn, hUn, hX, hS', hrv, hnew1, hids⟩
  have hle : M.Le ⟨M.l, g'⟩ := fun r b h => by
    cases r with
    | l k => exact h
    | g id => exact hg id b h
  have hlive : ∀ b, LiveG M.g s0 b → LiveG M.g (s0 ++ sx) b := by
    rintro b ⟨id, ab, h1, h2⟩
    exact ⟨id, ab, List.mem_append_left _ h1, h2⟩
  have hXU : Ext U w w' := hX.mono (fun b hb => ⟨hS.Ult b hb, fun h => by
    obtain ⟨id, ab, h1, h2, h3⟩ := h
    exact hS.nU (.g id) ab b (List.mem_append_left _ h1) h2 h3 hb⟩)
  refine ⟨res, L, s1 ++ sx, val, ⟨M.l, g'⟩, F', U', hK res s1 hR, rfl, hle, hFF, hUU, hXU, hS', hrv.mono (Mp.glo_le ⟨M.l, g'⟩) (fun _ h => h) hS'.FU (.refl _ _), fun b hb => ?_, fun k b h => .inr ⟨k, h⟩, fun id ab b h hd hb => ?_, fun id ab h => ?_⟩
  · rcases hFn b hb with h | h | h
    · exact .inl h
    · exact .inr (.inl h)
    · exact .inr (.inr (.inl (hlive b h)))
  · rcases List.mem_append.1 h with h | h
    · rcases hnew1 id ab b h hd hb with h' | h'
      · exact .inl h'
      · exact .inr (.inl (hlive b h'))
    · right; left
      obtain ⟨b', hb'⟩ := hS.tot id ab (List.mem_append_right _ h)
      have := hg id b' hb'
      simp only at hb
      rw [this] at hb
      cases hb
      exact ⟨id, ab, List.mem_append_right _ h, hd, hb'⟩
  · rcases List.mem_append.1 h with h | h
    · rcases hids id ab h with ⟨ab0, h'⟩ | h'
      · exact .inl ⟨ab0, List.mem_append_left _ h'⟩
      · exact .inr h'
    · exact .inl ⟨ab, List.mem_append_right _ h⟩

end
end Go.Pv
