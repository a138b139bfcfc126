/- A region, whole. -/
import Derived.Test.YtkenimmellonjaaPvI
namespace Go.Pv
open Go.RowKit
section
variable {P : Program} {G : Gl} {env : Env} {s : List (Nat × AB)} {nt : Nat} {ops : List Oper} {its : List It} {L0 : List AB} {M0 M : Mp} {F0 U0 F U : Nat → Prop} {w0 w : World} {a0 a : Act} {listed : Array Bool} {Q : Exit → Act → World → Prop}

def unl (n : Nat) (listed : Array Bool) : Nat := (List.range n).countP fun i => !(listed.getD i false)

theorem countP_one {n : Nat} {p q : Nat → Bool} {i : Nat} (hi : i < n) (hp : p i = true) (hq : q i = false) (h : ∀ j, j ≠ i → q j = p j) : (List.range n).countP p = (List.range n).countP q + 1 := by
  induction n with
  | zero => omega
  | succ n ih =>
    rw [List.range_succ, List.countP_append, List.countP_append]
    by_cases hin : i = n
    · subst hin
      have : (List.range i).countP p = (List.range i).countP q := by
        apply List.countP_congr
        intro x hx
        have := List.mem_range.1 hx
        rw [h x (by omega)]
      simp [this, hp, hq]
    · rw [ih (by omega)]
      simp [h n (fun e => hin e.symm)]
      omega

theorem unl_set {n : Nat} (hs : listed.size = n) {i : Nat} (hi : i < n) (hni : ¬ Lsd listed i) : unl n listed = unl n (listed.setIfInBounds i true) + 1 := by
  refine countP_one hi ?_ ?_ ?_
  · unfold Lsd at hni; simpa using hni
  · have : Lsd (listed.setIfInBounds i true) i := (lsd_set (by omega)).2 (.inr rfl)
    unfold Lsd at this; simp [this]
  · intro j hj
    have := lsd_set (listed := listed) (i := i) (j := j) (by omega)
    have h2 : Lsd (listed.setIfInBounds i true) j ↔ Lsd listed j := ⟨fun h => (this.1 h).resolve_right hj, fun h => this.2 (.inl h)⟩
    unfold Lsd at h2
    rw [Bool.eq_iff_iff]
    simp only [Bool.not_eq_true', Bool.eq_false_iff]
    exact not_congr h2
theorem unl_zero {n : Nat} (h : unl n listed = 0) {i : Nat} (hi : i < n) : Lsd listed i := by
  unfold unl at h
  rw [List.countP_eq_zero] at h
  have := h i (List.mem_range.2 hi)
  unfold Lsd
  simpa using this

theorem ready_mem {n : Nat} (hn : ops.length = n) (hs : listed.size = n) {i : Nat} : i ∈ Region.ready .any ops.toArray listed ↔ i < n ∧ ¬ Lsd listed i ∧ ∃ o, ops[i]? = some o ∧ ∀ e ∈ o.after.toList, Region.binds .any e = true → Lsd listed e.on := by
  rw [mem_ready]
  constructor
  · rintro ⟨h1, o, h2, h3⟩
    simp only [List.getElem?_toArray] at h2
    have hi : i < n := by have := (List.getElem?_eq_some_iff.1 h2).1; omega
    refine ⟨hi, ?_, o, h2, fun e he hb => h3 e (by simpa using he) hb⟩
    unfold Lsd
    rw [Array.getD_eq_getD_getElem?, Array.getElem?_eq_getElem (by omega)] at *
    simp at h1
    simp [h1]
  · rintro ⟨h0, h1, o, h2, h3⟩
    refine ⟨?_, o, by simpa using h2, fun e he hb => h3 e (by simpa using he) hb⟩
    unfold Lsd at h1
    rw [Array.getD_eq_getD_getElem?, Array.getElem?_eq_getElem (by omega)] at *
    simpa using h1

/-- The least that has not come up may come up. -/
theorem ready_some {n : Nat} (hn : ops.length = n) (hs : listed.size = n) (ho : ordOK ops = true) {i : Nat} (hi : i < n) (hni : ¬ Lsd listed i) : Region.ready .any ops.toArray listed ≠ [] := by
  induction i using Nat.strongRecOn with
  | _ i ih =>
    by_cases h : ∃ j, j < i ∧ ¬ Lsd listed j
    · obtain ⟨j, hj, hnj⟩ := h
      exact ih j hj (by omega) hnj
    · have hall : ∀ j, j < i → Lsd listed j := fun j hj => Classical.byContradiction fun h' => h ⟨j, hj, h'⟩
      have hoi : ops[i]? = some ops[i] := List.getElem?_eq_getElem (by omega)
      have : i ∈ Region.ready .any ops.toArray listed := (ready_mem hn hs).2 ⟨hi, hni, _, hoi, fun e he hb => hall _ (ord_back ho hoi he hb)⟩
      intro h0
      rw [h0] at this
      cases this

theorem closed_set (hc : Closed ops listed) {n : Nat} (hn : ops.length = n) (hs : listed.size = n) {i : Nat} (hr : i ∈ Region.ready .any ops.toArray listed) : Closed ops (listed.setIfInBounds i true) := by
  obtain ⟨h0, h1, o, h2, h3⟩ := (ready_mem hn hs).1 hr
  intro j oj hj hl e he hb
  rw [lsd_set (by omega)] at hl ⊢
  left
  rcases hl with hl | rfl
  · exact hc j oj hj hl e he hb
  · rw [h2] at hj
    cases hj
    exact h3 e he hb

/-- The tail comes in the text's order. -/
theorem tail_any {n : Nat} (hn : ops.length = n) (ho : ordOK ops = true) {k : Nat} (ht : tailOK ops k = true) : ∀ (fuel j : Nat) (listed : Array Bool) (a : Act) (w : World), listed.size = n → k ≤ j → j + fuel = n → (∀ i, Lsd listed i ↔ i < j) →
    wpOps P ops.toArray Q (List.range' j fuel) a w → wpAny P .any ops.toArray Q fuel listed a w := by
  intro fuel
  induction fuel with
  | zero =>
    intro j listed a w hs hk hj hl h
    refine ⟨?_, by simpa [wpOps] using h⟩
    cases hr : Region.ready .any ops.toArray listed with
    | nil => rfl
    | cons x xs =>
      have : x ∈ Region.ready .any ops.toArray listed := by rw [hr]; exact List.mem_cons_self
      obtain ⟨h1, h2, _⟩ := (ready_mem hn hs).1 this
      exact absurd ((hl x).2 (by omega)) h2
  | succ fuel ih =>
    intro j listed a w hs hk hj hl h
    have hjn : j < n := by omega
    refine ⟨fun h0 => absurd h0 (ready_some hn hs ho hjn (fun h' => by have := (hl j).1 h'; omega)), fun i hi => ?_⟩
    obtain ⟨h1, h2, o, h3, h4⟩ := (ready_mem hn hs).1 hi
    have hij : i = j := by
      have hge : j ≤ i := by
        rcases Nat.lt_or_ge i j with h' | h'
        · exact absurd ((hl i).2 h') h2
        · exact h'
      rcases Nat.lt_or_ge j i with h' | h'
      · have hw := (tail_wait ht h3 (by omega) h').resolve_right (fun q => by omega)
        have hc : Closed ops listed := fun j' o' ho' hl' e he hb => (hl _).2 (by have := (hl j').1 hl'; have := ord_back ho ho' he hb; omega)
        have := waits hc i j o h3 h4 hw
        have := (hl j).1 this
        omega
      · omega
    subst hij
    rw [List.range'_succ, wpOps_cons] at h
    refine wpOp_mono (fun a' w' h' => ih (i + 1) _ a' w' (by simp [hs]) (by omega) (by omega) (fun x => ?_) h') h
    rw [lsd_set (by omega), hl x]
    omega

/-- What moves slots alone yields the same whenever it comes. -/
theorem slot_yield {P : Program} {ops : Array Oper} {o : Oper} {a : Act} {w : World} {K : Act → World → Prop} (hs : slotOp o.op = true) (hg : o.guard = none) (h : o.wp P a w K (fun _ _ _ => False)) : ∃ v, Yields P ops o v a ∧ K (a.put o.dst v) w := by
  have hw : Region.wanted o (yielded ops a.tmps) = true := by simp [Region.wanted, hg]
  have key : ∀ v, (∀ w, (execOp a.eval o).run P w = .ok (.value v) w) → ∃ v, Yields P ops o v a ∧ K (a.put o.dst v) w := fun v hv => by
    refine ⟨v, .inl ⟨hw, hv⟩, ?_⟩
    unfold Oper.wp at h
    rw [hv w] at h
    exact h
  unfold slotOp at hs
  split at hs
  · rename_i x hop
    exact key (a.eval x) (fun w => by simp [execOp, hop])
  · rename_i x hop
    exact key (a.eval x) (fun w => by simp [execOp, hop])
  · rename_i x i hop
    unfold Oper.wp at h
    have hrun : ∀ w, (execOp a.eval o).run P w = ((Instr.extract (a.eval x) i).run P w).andThen fun v w' => .ok (.value v) w' := fun w => by
      simp [execOp, hop]
    rw [hrun w] at h
    unfold Instr.extract at h hrun
    split at h
    · rename_i vs hvs
      rw [hvs] at hrun
      split at h
      · rename_i v hv
        simp only [hv] at hrun
        exact key v (fun w => by rw [hrun w]; rfl)
      · exact (by simp [stuck, Oper.upon] at h)
    · exact (by simp [stuck, Oper.upon] at h)
  · cases hs

theorem lateAt_spec {ops : List Oper} {i : Nat} (h : lateAt ops i = true) : ∃ o, ops[i]? = some o ∧ slotOp o.op = true ∧ o.guard = none ∧ ∀ (j : Nat) (oj : Oper), ops[j]? = some oj → j ≠ i → ((masks [] ops).getD i 0).testBit j ≠ true → (∀ e ∈ oj.after, Region.binds .any e = true → e.on ≠ i) → o.apart ops.toArray oj = true := by
  unfold lateAt at h
  split at h <;> try cases h
  rename_i o ho
  simp only [Bool.and_eq_true, Option.isNone_iff_eq_none] at h
  refine ⟨o, ho, h.1.1, h.1.2, fun j oj hj hne hm hw => ?_⟩
  have := List.all_eq_true.1 h.2 _ (zipIdx_mem hj)
  simp only [Bool.or_eq_true] at this
  rcases this with ((h1 | h1) | h1) | h1
  · exact absurd (Nat.eq_of_beq_eq_true h1) hne
  · obtain ⟨e, he, hb⟩ := List.any_eq_true.1 h1
    simp only [Bool.and_eq_true] at hb
    exact absurd (Nat.eq_of_beq_eq_true hb.2) (hw e (by simpa using he) hb.1)
  · exact absurd h1 hm
  · exact h1

/-- Ahead of the tail: whichever comes up. -/
theorem pre_any (hQ : ∀ e a w, Q e a w → e = .normal) (hR : Reg P G env s nt ops its L0) (hS0 : St M0 F0 U0 L0 s w0) (henv : ∀ t, RV M0 F0 w0 (look env t) (slotv a0 t)) {n : Nat} (hn : ops.length = n) (hk : its.length ≤ n) (ht : tailOK ops its.length = true)
    (hsuf : ∀ listed a w M F U, (∀ i, i < its.length → Lsd listed i) → Inv G s nt its L0 M0 F0 U0 w0 a0 listed a w M F U → wpOps P ops.toArray Q (List.range' its.length (n - its.length)) a w) :
    ∀ (fuel : Nat) (listed : Array Bool) (a : Act) (w : World), listed.size = n → unl n listed = fuel → Closed ops listed → (∀ i, Lsd listed i → i < its.length) → (∃ M F U, Inv G s nt its L0 M0 F0 U0 w0 a0 listed a w M F U) →
      wpAny P .any ops.toArray Q fuel listed a w := by
  intro fuel
  induction fuel with
  | zero =>
    intro listed a w hs hu hc hl hI
    obtain ⟨M, F, U, hI⟩ := hI
    have hkn : its.length = n := by
      rcases Nat.lt_or_ge its.length n with h | h
      · have := hl _ (unl_zero hu h); omega
      · omega
    refine tail_any hn hR.ord ht 0 n listed a w hs hk (by omega) (fun i => ⟨fun h => by have := hl i h; omega, fun h => unl_zero hu h⟩) ?_
    have := hsuf listed a w M F U (fun i hi => unl_zero hu (by omega)) hI
    rw [hkn, Nat.sub_self] at this
    exact this
  | succ fuel ih =>
    intro listed a w hs hu hc hl hI
    by_cases hall : ∀ i, i < its.length → Lsd listed i
    · obtain ⟨M, F, U, hI⟩ := hI
      have hiff : ∀ i, Lsd listed i ↔ i < its.length := fun i => ⟨hl i, hall i⟩
      have hf : fuel + 1 = n - its.length := by
        rw [← hu]
        unfold unl
        have : ∀ m, (List.range m).countP (fun i => !(listed.getD i false)) = m - its.length := by
          intro m
          induction m with
          | zero => simp
          | succ m ihm =>
            rw [List.range_succ, List.countP_append, ihm]
            by_cases hm : m < its.length
            · have := (hiff m).2 hm
              unfold Lsd at this
              simp only [List.countP_cons, List.countP_nil, this, Bool.not_true, Bool.false_eq_true, if_false]
              omega
            · have : ¬ Lsd listed m := fun h => hm ((hiff m).1 h)
              unfold Lsd at this
              simp only [Bool.not_eq_true] at this
              simp only [List.countP_cons, List.countP_nil, this, Bool.not_false, if_true]
              omega
        exact this n
      refine tail_any hn hR.ord ht (fuel + 1) its.length listed a w hs (Nat.le_refl _) (by omega) hiff ?_
      rw [hf]
      exact hsuf listed a w M F U hall hI
    · have : ∃ i, i < its.length ∧ ¬ Lsd listed i := Classical.byContradiction fun h => hall fun i hi => Classical.byContradiction fun h' => h ⟨i, hi, h'⟩
      obtain ⟨i0, hi0, hni0⟩ := this
      -- what moves slots alone comes first
      by_cases hlate : ∃ i, i < its.length ∧ i ∈ Region.ready .any ops.toArray listed ∧ noSel ops = true ∧ lateAt ops i = true
      · obtain ⟨i, hik, hi, hns, hla⟩ := hlate
        obtain ⟨o, h1, h2, h3, h4⟩ := lateAt_spec hla
        obtain ⟨k1, k2, o', k3, k4⟩ := (ready_mem hn hs).1 hi
        rw [h1] at k3
        cases k3
        have hit : its[i]? = some its[i] := List.getElem?_eq_getElem hik
        have hoo := hR.pre i _ hit
        rw [h1] at hoo
        cases hoo
        obtain ⟨M, F, U, hI⟩ := hI
        have hstep := step_any (Q := Q) hR hI hS0 henv hc hit k2 (by omega) k4
        unfold wpOp at hstep
        simp only [List.getElem?_toArray, h1] at hstep
        rw [if_pos (by simp [Region.wanted, h3])] at hstep
        have hwp := hstep.resolve_right (fun h => by
          obtain ⟨_, a, w, hq⟩ := h
          cases hQ _ _ _ hq)
        have hwp' : (its[i].o).wp P a w (fun a' w' => ∃ M F U, Inv G s nt its L0 M0 F0 U0 w0 a0 (listed.setIfInBounds i true) a' w' M F U) (fun _ _ _ => False) := by
          unfold Oper.wp at hwp ⊢
          generalize (execOp a.eval its[i].o).run P w = r at *
          cases r with
          | ok n w' =>
            cases n <;> simp only [Oper.upon] at hwp ⊢ <;>
              first
                | exact hwp
                | exact Calls.mono hwp (fun e w'' he => by
                    cases e with
                    | returned v => exact he
                    | panicked c => exact absurd (hQ _ _ _ he) (by simp)
                    | outgrown =>
                      obtain ⟨a1, w1, hq⟩ := he
                      exact absurd (hQ _ _ _ hq) (by simp))
          | halt x w' => cases x <;> simp only [Oper.upon] at hwp ⊢ <;> first | exact hwp | exact absurd (hQ _ _ _ hwp) (by simp)
        obtain ⟨v, hy, hK⟩ := slot_yield (ops := ops.toArray) h2 h3 hwp'
        refine wpAny_first (by simpa using h1) (fun j oj cs b hj he => ?_) (fun c a w hq => absurd (hQ _ _ _ hq) (by simp)) fuel listed a w (fun j oj hj hne hld hw => h4 j oj (by simpa using hj) hne (fun hbit => by
          have hlj := waits hc i j _ h1 k4 hbit
          have hlt := (Array.getElem?_eq_some_iff.1 hj).1
          unfold Lsd at hlj
          rw [Array.getD_eq_getD_getElem?, Array.getElem?_eq_getElem (by simp at hlt; omega)] at hlj hld
          simp only [Option.getD_some] at hlj hld
          rw [hlj] at hld
          cases hld) hw) hi hy ?_
        · have := List.all_eq_true.1 hns oj (by have := List.mem_of_getElem? (show ops[j]? = some oj by simpa using hj); exact this)
          rw [he] at this
          cases this
        · refine ih _ _ _ (by simp [hs]) ?_ (closed_set hc hn hs hi) ?_ hK
          · have := unl_set hs (by omega) k2
            omega
          · intro j hj
            rw [lsd_set (by omega)] at hj
            rcases hj with hj | rfl
            · exact hl j hj
            · exact hik
      refine ⟨fun h0 => absurd h0 (ready_some hn hs hR.ord (by omega) hni0), fun i hi => ?_⟩
      obtain ⟨h1, h2, o, h3, h4⟩ := (ready_mem hn hs).1 hi
      have hik : i < its.length := by
        rcases Nat.lt_or_ge i its.length with h | h
        · exact h
        · -- the least that is left of the head is ready
          exfalso
          have hmin : ∀ d i1, i1 < its.length → ¬ Lsd listed i1 → i1 ≤ d → ∃ m, m < its.length ∧ ¬ Lsd listed m ∧ ∀ j, j < m → Lsd listed j := by
            intro d
            induction d with
            | zero => intro i1 h1 h2 h3; exact ⟨i1, h1, h2, fun j hj => by omega⟩
            | succ d ihd =>
              intro i1 h1 h2 h3
              by_cases hj : ∃ j, j < i1 ∧ ¬ Lsd listed j
              · obtain ⟨j, hj1, hj2⟩ := hj
                exact ihd j (by omega) hj2 (by omega)
              · exact ⟨i1, h1, h2, fun j hj' => Classical.byContradiction fun h' => hj ⟨j, hj', h'⟩⟩
          obtain ⟨m, hm1, hm2, hm3⟩ := hmin i0 i0 hi0 hni0 (Nat.le_refl _)
          have hom : ops[m]? = some ops[m] := List.getElem?_eq_getElem (by omega)
          have hmr : m ∈ Region.ready .any ops.toArray listed := (ready_mem hn hs).2 ⟨by omega, hm2, _, hom, fun e he hb => hm3 _ (ord_back hR.ord hom he hb)⟩
          rcases tail_wait ht h3 h (show m < i by omega) with hw | ⟨q1, q2, q3⟩
          · exact absurd (waits hc i m o h3 h4 hw) hm2
          · exact hlate ⟨m, hm1, hmr, q2, q3⟩
      have hit : its[i]? = some its[i] := List.getElem?_eq_getElem hik
      have hoo := hR.pre i _ hit
      rw [h3] at hoo
      cases hoo
      obtain ⟨M, F, U, hI⟩ := hI
      refine wpOp_mono (fun a' w' h' => ih _ a' w' (by simp [hs]) ?_ (closed_set hc hn hs hi) ?_ h') (step_any hR hI hS0 henv hc hit h2 (by omega) h4)
      · have := unl_set hs (by omega) h2
        omega
      · intro j hj
        rw [lsd_set (by omega)] at hj
        rcases hj with hj | rfl
        · exact hl j hj
        · exact hik

/-- In the text's order. -/
theorem pre_text (hR : Reg P G env s nt ops its L0) (hS0 : St M0 F0 U0 L0 s w0) (henv : ∀ t, RV M0 F0 w0 (look env t) (slotv a0 t)) {n : Nat} (hk : its.length ≤ n)
    (hsuf : ∀ listed a w M F U, (∀ i, i < its.length → Lsd listed i) → Inv G s nt its L0 M0 F0 U0 w0 a0 listed a w M F U → wpOps P ops.toArray Q (List.range' its.length (n - its.length)) a w) :
    ∀ (d j : Nat) (listed : Array Bool) (a : Act) (w : World), j + d = its.length → listed.size = n → (∀ i, Lsd listed i ↔ i < j) → (∃ M F U, Inv G s nt its L0 M0 F0 U0 w0 a0 listed a w M F U) →
      wpOps P ops.toArray Q (List.range' j (n - j)) a w := by
  intro d
  induction d with
  | zero =>
    intro j listed a w hj hs hl hI
    have : j = its.length := by omega
    subst this
    obtain ⟨M, F, U, hI⟩ := hI
    exact hsuf listed a w M F U (fun i hi => (hl i).2 hi) hI
  | succ d ih =>
    intro j listed a w hj hs hl hI
    obtain ⟨M, F, U, hI⟩ := hI
    have hjk : j < its.length := by omega
    have hit : its[j]? = some its[j] := List.getElem?_eq_getElem hjk
    have hc : Closed ops listed := fun j' o' ho' hl' e he hb => (hl _).2 (by have := (hl j').1 hl'; have := ord_back hR.ord ho' he hb; omega)
    rw [show n - j = (n - (j + 1)) + 1 by omega, List.range'_succ, wpOps_cons]
    refine wpOp_mono (fun a' w' h' => ih (j + 1) _ a' w' (by omega) (by simp [hs]) (fun x => ?_) h') (step_any hR hI hS0 henv hc hit (fun h => by have := (hl j).1 h; omega) (by omega) (fun e he hb => (hl _).2 (ord_back hR.ord (hR.pre j _ hit) he hb)))
    rw [lsd_set (by omega), hl x]
    omega

theorem inv_start (hS0 : St M0 F0 U0 L0 s w0) (hG : Glob G F0 w0) (hnt : a0.tmps.size = nt) {w : World} (hh : w.heap = w0.heap) (ho : w.os = w0.os) (ht : w.tape = w0.tape) (hou : w.output = w0.output) {listed : Array Bool} (hl : ∀ i, ¬ Lsd listed i) :
    Inv G s nt its L0 M0 F0 U0 w0 a0 listed a0 w M0 F0 U0 := by
  have hX : ∀ U, Ext U w0 w := fun U => ⟨ho, ht, hou, by rw [hh]; exact Nat.le_refl _, fun b _ => by rw [hh], fun b _ => by unfold World.shape?; rw [hh]⟩
  have h0len : ∀ i, L0.length ≤ (Lat its L0 i).length := fun i => by
    have := Lat_len_le (its := its) (L0 := L0) (Nat.zero_le i)
    have h0 : (Lat its L0 0).length = L0.length := by simp [Lat]
    omega
  have hpre : ∀ i, ∃ X, Lat its L0 i = L0 ++ X := fun i => ⟨_, rfl⟩
  have hdomn : ∀ (n b : Nat), M0.l n = some b → n < L0.length := fun n b h => by
    rcases Nat.lt_or_ge n L0.length with h' | h'
    · exact h'
    · rw [hS0.dom n h'] at h; cases h
  have hget : ∀ i n, n < L0.length → (Lat its L0 i)[n]? = L0[n]? := fun i n hn => by
    obtain ⟨X, hX⟩ := hpre i
    rw [hX, List.getElem?_append_left hn]
  have hback : ∀ i r ab b, Here (Lat its L0 i) s r ab → M0.at_ r = some b → Here L0 s r ab := fun i r ab b hr hm => by
    cases r with
    | g id => exact hr
    | l n =>
      simp only [Here] at hr ⊢
      rw [hget i n (hdomn n b hm)] at hr
      exact hr
  refine ⟨⟨fun r ab b hr hm => (hS0.rb r ab b (hback _ _ _ _ hr hm) hm).mono (.refl _) (fun _ h => h) (fun b hb => hS0.FU b hb) (hX U0) (fun _ => by rw [hh]), fun r r' a1 a2 b h1 h2 d1 d2 m1 m2 => hS0.inj r r' a1 a2 b (hback _ _ _ _ h1 m1) (hback _ _ _ _ h2 m2) d1 d2 m1 m2,
      fun r ab b hr hd hm => hS0.nU r ab b (hback _ _ _ _ hr hm) hd hm, hS0.nd, hS0.FU, fun b hb => by rw [hh]; exact hS0.Ult b hb, fun k hk => hS0.dom k (Nat.le_trans (h0len _) hk), hS0.tot, hS0.gdom⟩,
    hG.mono (fun _ h => h) (fun b hb => hS0.FU b hb) (hX U0), .refl _, fun _ h => h, fun _ h => h, hX _, fun n ab b hn hm => ?_, fun i it hit n ab b h1 h2 hm => ?_, fun i it _ h => absurd h (hl i), fun i it _ _ n h1 _ => hS0.dom n (Nat.le_trans (h0len i) h1), fun _ _ => rfl, hnt, rfl, fun k b h => .inl h, fun b h => .inl h⟩
  · refine (hS0.rb (.l n) ab b hn hm).mono (Mp.le_cut (.refl M0) hS0.dom) (fun _ h => h) (fun b hb => hS0.FU b hb) (hX U0) (fun _ => by rw [hh])
  · have := hdomn n b hm
    have := h0len i
    omega

/-- What is known behind the operations ahead of the tail. -/
theorem wp_region_pre (hQ : ∀ e a w, Q e a w → e = .normal) (hR : Reg P G env s nt ops its L0) (hS0 : St M0 F0 U0 L0 s w0) (hG : Glob G F0 w0) (henv : ∀ t, RV M0 F0 w0 (look env t) (slotv a0 t)) (hnt : a0.tmps.size = nt) (hk : its.length ≤ ops.length) {id : Nat} {draw : Bool} (hm : P.follows .mixedOrders = true)
    (ht : draw = true → tailOK ops its.length = true)
    (hsuf : ∀ listed a w M F U, (∀ i, i < its.length → Lsd listed i) → Inv G s nt its L0 M0 F0 U0 w0 a0 listed a w M F U → wpOps P ops.toArray Q (List.range' its.length (ops.length - its.length)) a w) : (Code.region id ops.toArray draw).wp P Q a0 w0 := by
  have hnone : ∀ i, ¬ Lsd (Array.replicate ops.length false) i := by
    intro i h
    unfold Lsd at h
    rw [Array.getD_eq_getD_getElem?] at h
    by_cases hi : i < ops.length
    · simp [hi] at h
    · simp [hi] at h
  cases draw with
  | false =>
    refine wp_region ?_
    have := pre_text (Q := Q) hR hS0 henv hk hsuf its.length 0 (Array.replicate ops.length false) a0 w0 (by omega) (by simp) (fun i => ⟨fun h => absurd h (hnone i), fun h => by omega⟩) ⟨M0, F0, U0, inv_start hS0 hG hnt rfl rfl rfl rfl hnone⟩
    simpa [List.range_eq_range'] using this
  | true =>
    refine wp_region_any hm ?_
    have := pre_any (Q := Q) hQ hR hS0 henv (n := ops.length) rfl hk (ht rfl) hsuf ops.length (Array.replicate ops.length false) a0 { w0 with drawn := w0.drawn + 1 } (by simp) ?_ (fun j o _ h => absurd h (hnone j)) (fun i h => absurd h (hnone i))
      ⟨M0, F0, U0, inv_start (w := { w0 with drawn := w0.drawn + 1 }) hS0 hG hnt rfl rfl rfl rfl hnone⟩
    · simpa using this
    · unfold unl
      have : ∀ m, (List.range m).countP (fun i => !((Array.replicate ops.length false).getD i false)) = m := by
        intro m
        induction m with
        | zero => rfl
        | succ m ih =>
          rw [List.range_succ, List.countP_append, ih]
          have := hnone m
          unfold Lsd at this
          simp only [Bool.not_eq_true] at this
          simp only [List.countP_cons, List.countP_nil, this, Bool.not_false, if_true]
      exact this _
end
end Go.Pv
