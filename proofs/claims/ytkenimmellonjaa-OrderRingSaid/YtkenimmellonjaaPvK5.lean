/- Parts of slices, capacities; interfaces; more plain operations. -/
import Derived.Test.YtkenimmellonjaaPvK4
namespace Go.Pv
open Go.RowKit

section
variable {P : Program} {G : Gl} {T : Nat → Option TI} {o : Oper} {rh : Operand → AV} {L : List AB} {s : List (Nat × AB)}

/-- A bound that is there, or the one that is meant. -/
def obd (rh : Operand → AV) (x : Option Operand) (d : Int) : Option Int := match x with
  | none => some d
  | some x => match rh x with
    | .d (.int _ n) => some n
    | _ => none
theorem obd_val {M : Mp} {F : Nat → Prop} {w : World} {a : Act} {x : Option Operand} {d n : Int} (h : obd rh x d = some n) (hx : ∀ y ∈ x.toArray.toList, RV M F w (rh y) (a.eval y)) : (x = none ∧ n = d) ∨ ∃ k, x.map a.eval = some (.int k n) := by
  cases x with
  | none => simp only [obd, Option.some.injEq] at h; exact .inl ⟨rfl, h.symm⟩
  | some x =>
    simp only [obd] at h
    split at h <;> cases h
    rename_i k e
    have := hx x (by simp)
    rw [e] at this
    exact .inr ⟨k, by simp [this.int_inv]⟩
theorem run_bound {x : Value} {k : IntKind} {n : Int} {y : Nat} {code : BoundsCode} (hx : x = .int k n) (h0 : 0 ≤ n) (hy : n ≤ y) (w : World) : (Instr.sliceBound x y code).run P w = .ok n.toNat w := by
  subst hx
  simp [Instr.sliceBound, asIntOf, h0, hy]
theorem run_bounds {len cap : Nat} {lo hi : Option Value} {l h : Int} (hl : (lo = none ∧ l = 0) ∨ ∃ k, lo = some (.int k l)) (hh : (hi = none ∧ h = (len : Int)) ∨ ∃ k, hi = some (.int k h)) (h0 : 0 ≤ l) (hlh : l ≤ h) (hc : h ≤ (cap : Int)) (isS : Bool) (w : World) :
    (Instr.sliceBounds isS len cap lo hi none).run P w = .ok (l.toNat, h.toNat, cap) w := by
  have hh0 : 0 ≤ h := by omega
  unfold Instr.sliceBounds
  rcases hh with ⟨rfl, rfl⟩ | ⟨k2, rfl⟩ <;> rcases hl with ⟨rfl, rfl⟩ | ⟨k1, rfl⟩
  · simp
  · simp only [Sem.run_bind, Sem.run_pure, Result.andThen_ok, run_bound (P := P) rfl h0 hlh]
    simp
  · simp [run_bound (P := P) (y := cap) rfl hh0 hc]
  · have e : ((h.toNat : Nat) : Int) = h := by omega
    simp [run_bound (P := P) (y := cap) rfl hh0 hc, run_bound (P := P) (y := h.toNat) rfl h0 (by omega)]

theorem take_drop_get {α : Type} {xs : List α} {l h i : Nat} {x : α} (hx : ((xs.take h).drop l)[i]? = some x) : xs[l + i]? = some x := by
  rw [List.getElem?_drop, List.getElem?_take] at hx
  split at hx
  · exact hx
  · cases hx

/-- A part of a slice. -/
theorem pj_slice (hT : TabOK P T) {t e : TypeId} {ti te : TI} (ht : T t = some ti) (hu : ti.u = .slice e) (hte : T e = some te) {x : Operand} {lo hi : Option Operand} {l h : Int} {v : AV} (ho : o.op = .slice t x lo hi none) (hv : match rh x with
    | .d (.list sz rows) => sz = te.size ∧ obd rh lo 0 = some l ∧ obd rh hi rows.length = some h ∧ 0 ≤ l ∧ l ≤ h ∧ h ≤ rows.length ∧ v = .d (.list sz ((rows.take h.toNat).drop l.toNat))
    | .d .nil => obd rh lo 0 = some l ∧ obd rh hi 0 = some h ∧ l = 0 ∧ h = 0 ∧ v = .d .nil
    | .d .emp => obd rh lo 0 = some l ∧ obd rh hi 0 = some h ∧ l = 0 ∧ h = 0 ∧ v = .d .emp
    | .slc r sz off len cap => sz = te.size ∧ obd rh lo 0 = some l ∧ obd rh hi len = some h ∧ 0 ≤ l ∧ l ≤ h ∧ h ≤ cap ∧ v = .slc r sz (off + l.toNat) (h.toNat - l.toNat) (cap - l.toNat)
    | _ => False) : PJ P G o rh L s v [] := by
  refine pj_value fun M F U w a hS hG hx => ?_
  obtain ⟨u1, _⟩ := hT t ti ht
  rw [hu] at u1
  obtain ⟨_, _, i, _, _, h4, h5, _⟩ := hT e te hte
  have h1 := hx x (by simp [ho, Op.operands])
  have hlo : ∀ y ∈ lo.toArray.toList, RV M F w (rh y) (a.eval y) := fun y hy => hx y (by simp [ho, Op.operands] at hy ⊢; exact .inr (.inl hy))
  have hhi : ∀ y ∈ hi.toArray.toList, RV M F w (rh y) (a.eval y) := fun y hy => hx y (by simp [ho, Op.operands] at hy ⊢; exact .inr (.inr hy))
  have key : ∀ (A : Option Addr) (len cap : Nat), a.eval x = .slice A len cap → obd rh lo 0 = some l → obd rh hi len = some h → 0 ≤ l → l ≤ h → h ≤ (cap : Int) →
      (execOp a.eval o).run P w = .ok (.value (.slice (if cap = l.toNat then A else A.map (·.add (l.toNat * te.size))) (h.toNat - l.toNat) (cap - l.toNat))) w := by
    intro A len cap hax hl hh h0 hlh hc
    have e1 : (lo.map a.eval = none ∧ l = 0) ∨ ∃ k, lo.map a.eval = some (.int k l) := by
      rcases obd_val hl hlo with ⟨rfl, rfl⟩ | h
      · exact .inl ⟨rfl, rfl⟩
      · exact .inr h
    have e2 : (hi.map a.eval = none ∧ h = (len : Int)) ∨ ∃ k, hi.map a.eval = some (.int k h) := by
      rcases obd_val hh hhi with ⟨rfl, rfl⟩ | h
      · exact .inl ⟨rfl, rfl⟩
      · exact .inr h
    have hb := run_bounds (P := P) e1 e2 h0 hlh hc true w
    simp only [execOp, ho, hax, Option.map_none, Instr.sliceAt]
    simp only [Sem.run_bind, Instr.slice, run_underlying' u1, Result.andThen_ok, hb, run_sizeOf' h4, h5, Sem.run_pure]
  split at hv <;> try exact hv.elim
  · rename_i sz rows hrx
    obtain ⟨rfl, hl, hh, h0, hlh, hc, rfl⟩ := hv
    rw [hrx] at h1
    generalize hax : a.eval x = u at h1
    cases h1 with | d h1 => cases h1 with
    | empty _ A c =>
      simp only [List.length_nil] at hc hh
      refine ⟨_, key A 0 c hax (by simpa using hl) (by simpa using hh) h0 hlh (by omega), ?_⟩
      have : h.toNat = 0 := by omega
      simp only [List.take_nil, List.drop_nil, this, Nat.zero_sub]
      exact .d (.empty _ _ _)
    | list _ _ ad c uu hcc hN hln hm hr =>
      refine ⟨_, key (some ad) rows.length c hax hl hh h0 hlh (by omega), ?_⟩
      have hlen : ((rows.take h.toNat).drop l.toNat).length = h.toNat - l.toNat := by simp; omega
      by_cases hz : h.toNat - l.toNat = 0
      · have : (rows.take h.toNat).drop l.toNat = [] := List.length_eq_zero_iff.1 (by omega)
        rw [this, hz]
        exact .d (.empty _ _ _)
      · rw [if_neg (by omega)]
        have := RD.list (N := F) (w := w) te.size ((rows.take h.toNat).drop l.toNat) (ad.add (l.toNat * te.size)) (c - l.toNat) (fun i j => uu (l.toNat + i) j) (by omega) (by rw [block_of_add]; exact hN) (fun i r hi => hln _ r (take_drop_get hi)) (fun i j hi hj => by
          rw [add_of_add]
          have := hm (l.toNat + i) j (by omega) hj
          rw [Nat.add_mul, Nat.add_assoc] at this
          exact this) (fun i r hi j x hx => hr _ r (take_drop_get hi) j x hx)
        rw [hlen] at this
        exact .d this
  · rename_i hrx
    obtain ⟨hl, hh, rfl, rfl, rfl⟩ := hv
    rw [hrx] at h1
    refine ⟨_, key none 0 0 h1.nil_inv hl (by simpa using hh) (by omega) (by omega) (by omega), ?_⟩
    exact .d .nil
  · rename_i hrx
    obtain ⟨hl, hh, rfl, rfl, rfl⟩ := hv
    rw [hrx] at h1
    generalize hax : a.eval x = u at h1
    cases h1 with | d h1 => cases h1 with
    | emp A =>
      refine ⟨_, key A 0 0 hax hl (by simpa using hh) (by omega) (by omega) (by omega), ?_⟩
      exact .d (.emp _)
  · rename_i r sz off len cap hrx
    obtain ⟨rfl, hl, hh, h0, hlh, hc, rfl⟩ := hv
    rw [hrx] at h1
    generalize hax : a.eval x = u at h1
    cases h1 with
    | slc0 _ _ _ A =>
      refine ⟨_, key A 0 0 hax hl (by simpa using hh) h0 hlh hc, ?_⟩
      have e1 : h.toNat - l.toNat = 0 := by omega
      have e2 : 0 - l.toNat = 0 := by omega
      rw [e1, e2]
      exact .slc0 _ _ _ _
    | slc _ _ _ _ _ b hm hcc hs =>
      refine ⟨_, key _ len cap hax hl hh h0 hlh hc, ?_⟩
      by_cases hz : cap = l.toNat
      · rw [if_pos hz]
        have e1 : h.toNat - l.toNat = 0 := by omega
        have e2 : cap - l.toNat = 0 := by omega
        rw [e1, e2]
        exact .slc0 _ _ _ _
      · rw [if_neg hz]
        simp only [Option.map_some, add_plain, ← Nat.add_mul]
        obtain ⟨t', n', s1, s2⟩ := hs
        refine .slc r te.size _ _ _ b hm (by omega) ⟨t', n', s1, ?_⟩
        rw [show off + l.toNat + (cap - l.toNat) = off + cap by omega]
        exact s2

/-- No room, no length: 's[:0:0]'. -/
theorem pj_slice0 (hT : TabOK P T) {t e : TypeId} {ti te : TI} (ht : T t = some ti) (hu : ti.u = .slice e) (hte : T e = some te) {x : Operand} {lo : Option Operand} {k1 k2 : IntKind} (hlo : lo = none ∨ ∃ k, lo = some (.const (.int k 0))) (ho : o.op = .slice t x lo (some (.const (.int k1 0))) (some (.const (.int k2 0)))) (hv : match rh x with
    | .d (.list _ _) => True
    | .d .nil => True
    | .d .emp => True
    | .slc _ _ _ _ _ => True
    | _ => False) : PJ P G o rh L s (match rh x with
    | .d .nil => .d .nil
    | _ => .d .emp) [] := by
  refine pj_value fun M F U w a hS hG hx => ?_
  obtain ⟨u1, _⟩ := hT t ti ht
  rw [hu] at u1
  obtain ⟨_, _, i, _, _, h4, h5, _⟩ := hT e te hte
  have h1 := hx x (by simp [ho, Op.operands])
  have key : ∀ (A : Option Addr) (len cap : Nat), a.eval x = .slice A len cap → (execOp a.eval o).run P w = .ok (.value (.slice A 0 0)) w := by
    intro A len cap hax
    simp only [execOp, ho, hax, Instr.sliceAt]
    rcases hlo with rfl | ⟨k, rfl⟩ <;>
      simp [Instr.slice, Instr.sliceBounds, Instr.sliceBound, asIntOf, Act.eval, run_underlying' u1, run_sizeOf' h4]
  split at hv <;> try exact hv.elim
  · rename_i hrx
    rw [hrx] at h1 ⊢
    generalize hax : a.eval x = u at h1
    cases h1 with | d h1 => cases h1 with
    | empty _ A c => exact ⟨_, key A 0 c hax, .d (.emp _)⟩
    | list _ _ ad c uu hcc hN hln hm hr => exact ⟨_, key _ _ c hax, .d (.emp _)⟩
  · rename_i hrx
    rw [hrx] at h1 ⊢
    exact ⟨_, key none 0 0 h1.nil_inv, .d .nil⟩
  · rename_i hrx
    rw [hrx] at h1 ⊢
    generalize hax : a.eval x = u at h1
    cases h1 with | d h1 => cases h1 with
    | emp A => exact ⟨_, key A 0 0 hax, .d (.emp _)⟩
  · rename_i hrx
    rw [hrx] at h1 ⊢
    generalize hax : a.eval x = u at h1
    cases h1 with
    | slc0 _ _ _ A => exact ⟨_, key A 0 0 hax, .d (.emp _)⟩
    | slc _ _ _ _ _ b hm hcc hs => exact ⟨_, key _ _ _ hax, .d (.emp _)⟩
/-- What a slice has room for. -/
def vcap (x : AV) : Option Int := match x with
  | .d .nil => some 0
  | .d .emp => some 0
  | .slc _ _ _ _ cap => some (cap : Int)
  | _ => none
theorem pj_cap (hT : TabOK P T) {t e : TypeId} {ti : TI} (ht : T t = some ti) (hu : ti.u = .slice e) {x : Operand} {n : Int} (ho : o.op = .call { callee := .builtin .cap, args := #[x], argTypes := #[t] }) (hv : vcap (rh x) = some n) : PJ P G o rh L s (.d (.int .i64 n)) [] := by
  refine pj_value fun M F U w a hS hG hx => ⟨.int .i64 n, ?_, .d (.int _ _)⟩
  obtain ⟨h1, _⟩ := hT t ti ht
  have h2 := hx x (by simp [ho, Op.operands, Call.operands])
  have h3 : ∃ A m c, a.eval x = .slice A m c ∧ n = (c : Int) := by
    unfold vcap at hv
    generalize he : a.eval x = u at h2
    split at hv <;> try (cases hv; done)
    · rename_i e1
      cases hv
      rw [e1] at h2
      rw [h2.nil_inv]
      exact ⟨none, 0, 0, rfl, rfl⟩
    · rename_i e1
      cases hv
      rw [e1] at h2
      cases h2 with
      | d h2 => cases h2 with
        | emp A => exact ⟨A, 0, 0, rfl, rfl⟩
    · rename_i r sz off len cap e1
      cases hv
      rw [e1] at h2
      cases h2 with
      | slc _ _ _ _ _ b hm hc hs => exact ⟨_, _, _, rfl, rfl⟩
      | slc0 _ _ _ A => exact ⟨_, _, _, rfl, rfl⟩
  obtain ⟨A, m, c, h4, rfl⟩ := h3
  simp only [execOp, ho, resolve, invoke, builtin, Sem.run_bind, Sem.run_pure, Result.andThen_ok, List.map_toArray, List.map_cons, List.map_nil, h4, Builtin.cap_]
  simp [run_underlying' h1, hu, goInt]
end
end Go.Pv
