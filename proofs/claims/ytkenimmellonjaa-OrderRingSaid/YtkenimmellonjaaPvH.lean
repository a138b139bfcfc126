/- One operation of a region, whichever comes up. -/
import Derived.Test.YtkenimmellonjaaPvG
namespace Go.Pv
open Go.RowKit

def slotv (a : Act) (t : Nat) : Value := a.tmps.getD t Go.undef
/-- What the region's telling gave: the operations ahead of its tail, each with what it yields. -/
structure Reg (P : Program) (G : Gl) (env : Env) (s : List (Nat × AB)) (nt : Nat) (ops : List Oper) (its : List It) (L0 : List AB) : Prop where
  pre : ∀ (i : Nat) (it : It), its[i]? = some it → ops[i]? = some it.o
  ok : ∀ (i : Nat) (it : It), its[i]? = some it → okop nt (reat its i) it.o = true
  pj : ∀ (i : Nat) (it : It), its[i]? = some it → HG (reat its i) (gsAt its i it) → PJ2 P G it.o (rho G env (reat its i)) (Lat its L0 i) s it.v it.new
  ord : ordOK ops = true

structure Inv (G : Gl) (s : List (Nat × AB)) (nt : Nat) (its : List It) (L0 : List AB) (M0 : Mp) (F0 U0 : Nat → Prop) (w0 : World) (a0 : Act) (listed : Array Bool) (a : Act) (w : World) (M : Mp) (F U : Nat → Prop) : Prop where
  st : St M F U (Lat its L0 its.length) s w
  gl : Glob G F w
  le : M0.Le M
  FF : ∀ b, F0 b → F b
  UU : ∀ b, U0 b → U b
  ext : Ext (fun b => b < w0.heap.size) w0 w
  loc0 : ∀ (n : Nat) (ab : AB) (b : Nat), L0[n]? = some ab → M.l n = some b → RB (M.cut L0.length) F w b ab
  loc : ∀ (i : Nat) (it : It), its[i]? = some it → ∀ (n : Nat) (ab : AB) (b : Nat), (Lat its L0 i).length ≤ n → (Lat its L0 (i + 1))[n]? = some ab → M.l n = some b → RB (M.cut (Lat its L0 (i + 1)).length) F w b ab
  slot : ∀ (i : Nat) (it : It), its[i]? = some it → Lsd listed i → ∀ d, it.o.dst = some d →
    (HG (reat its i) (gsAt its i it) → RV (M.cut (Lat its L0 (i + 1)).length) F w it.v (slotv a d)) ∧ (¬ HG (reat its i) (gsAt its i it) → slotv a d = Go.undef)
  un : ∀ (i : Nat) (it : It), its[i]? = some it → ¬ Lsd listed i → ∀ n, (Lat its L0 i).length ≤ n → n < (Lat its L0 (i + 1)).length → M.l n = none
  other : ∀ t, (∀ (i : Nat) (it : It), its[i]? = some it → Lsd listed i → it.o.dst ≠ some t) → slotv a t = slotv a0 t
  size : a.tmps.size = nt
  defers : a.defers = a0.defers
  fr : ∀ (k b : Nat), M.l k = some b → M0.l k = some b ∨ w0.heap.size ≤ b
  Fn : ∀ b, F b → F0 b ∨ w0.heap.size ≤ b

theorem wp_noQ {P : Program} {o : Oper} {a : Act} {w : World} {K : Act → World → Prop} {Q : Exit → Act → World → Prop} (h : o.wp P a w K (fun _ _ _ => False)) : o.wp P a w K Q := by
  unfold Oper.wp at *
  generalize (execOp a.eval o).run P w = r at *
  cases r with
  | ok n w' =>
    cases n <;> simp only [Oper.upon] at h ⊢ <;>
      first
        | exact h
        | exact Calls.mono h (fun e w'' he => by
            cases e with
            | returned v => exact he
            | panicked c => exact he.elim
            | outgrown => obtain ⟨_, _, hf⟩ := he; exact hf.elim)
  | halt x w' => cases x <;> simp only [Oper.upon] at h ⊢

section
variable {P : Program} {G : Gl} {env : Env} {s : List (Nat × AB)} {nt : Nat} {ops : List Oper} {its : List It} {L0 : List AB} {M0 M : Mp} {F0 U0 F U : Nat → Prop} {w0 w : World} {a0 a : Act} {listed : Array Bool}

theorem okop_gok {re : List RE} {o : Oper} (h : okop nt re o = true) : gok re o.guard = true := by
  unfold okop at h; simp only [Bool.and_eq_true] at h; exact h.1.1
theorem okop_us {re : List RE} {o : Oper} (h : okop nt re o = true) : usall re (gsOf re o.guard) o.op = true := by
  unfold okop at h; simp only [Bool.and_eq_true] at h; exact h.1.2
theorem okop_dst {re : List RE} {o : Oper} {d : Nat} (h : okop nt re o = true) (hd : o.dst = some d) : d < nt ∧ rlook re d = none := by
  unfold okop at h
  simp only [Bool.and_eq_true, hd] at h
  exact ⟨by have := h.2.1; rwa [Nat.blt_eq] at this, by simpa using h.2.2⟩

/-- What each operation's place asks, whether it is evaluated or not. -/
def okw (nt : Nat) (re : List RE) (o : Oper) : Bool := (match o.guard with
  | none => true
  | some (j, _) => match rfind re j with
    | some e => e.slot.isSome
    | none => false) && (match o.dst with
  | some d => Nat.blt d nt && (rlook re d).isNone
  | none => true)
theorem okop_okw {re : List RE} {o : Oper} (h : okop nt re o = true) : okw nt re o = true := by
  unfold okop at h
  unfold okw
  simp only [Bool.and_eq_true] at h ⊢
  refine ⟨?_, h.2⟩
  have hg := h.1.1
  unfold gok at hg
  split
  · rfl
  · rename_i j p hj
    rw [hj] at hg
    simp only at hg
    split
    · rename_i e he
      rw [he] at hg
      simp only at hg
      split at hg
      · exact hg
      · cases hg
    · rename_i he
      rw [he] at hg
      cases hg
theorem okw_dst {re : List RE} {o : Oper} {d : Nat} (h : okw nt re o = true) (hd : o.dst = some d) : d < nt ∧ rlook re d = none := by
  unfold okw at h
  simp only [Bool.and_eq_true, hd] at h
  exact ⟨by have := h.2.1; rwa [Nat.blt_eq] at this, by simpa using h.2.2⟩
theorem okw_guard {re : List RE} {o : Oper} {j : Nat} {p : Bool} (h : okw nt re o = true) (hj : o.guard = some (j, p)) : ∃ e, rfind re j = some e ∧ e.slot.isSome = true := by
  unfold okw at h
  simp only [Bool.and_eq_true, hj] at h
  split at h
  · rename_i e he; exact ⟨e, he, h.1⟩
  · cases h.1
theorem Reg.okw (hR : Reg P G env s nt ops its L0) : ∀ (i : Nat) (it : It), its[i]? = some it → Pv.okw nt (reat its i) it.o = true := fun i it h => okop_okw (hR.ok i it h)

/-- A guard's chain names earlier operations alone. -/
theorem gs_lt (hok : ∀ (i : Nat) (it : It), its[i]? = some it → okw nt (reat its i) it.o = true) : ∀ (i : Nat) (it : It), its[i]? = some it → ∀ l ∈ gsAt its i it, l.1 < i ∧ ∃ itl, its[l.1]? = some itl := by
  intro i
  induction i using Nat.strongRecOn with
  | _ i ih =>
    intro it hit l hl
    unfold gsAt at hl
    cases hgd : it.o.guard with
    | none => rw [hgd] at hl; simp [gsOf] at hl
    | some jp =>
      obtain ⟨j, p⟩ := jp
      obtain ⟨e, hf, _⟩ := okw_guard (hok i it hit) hgd
      rw [hgd] at hl
      simp only [gsOf] at hl
      · obtain ⟨itj, hj, hitj, rfl⟩ := rfind_reat hf
        rw [hf] at hl
        rcases List.mem_cons.1 hl with rfl | hl
        · exact ⟨hj, itj, hitj⟩
        · obtain ⟨h1, h2⟩ := ih j hj itj hitj l hl
          exact ⟨by omega, h2⟩

/-- What is known at one point of the chain is known at another one. -/
theorem HG_move (hok : ∀ (i : Nat) (it : It), its[i]? = some it → okw nt (reat its i) it.o = true) {j i : Nat} {it : It} (hit : its[j]? = some it) {i' : Nat} (hi : j ≤ i) (hi' : j ≤ i') (h : HG (reat its i) (gsAt its j it)) : HG (reat its i') (gsAt its j it) := by
  rw [HG_all] at *
  intro l hl
  have h1 := h l hl
  obtain ⟨h2, itl, h3⟩ := gs_lt hok j it hit l hl
  unfold lit at h1 ⊢
  rw [reat_at (by omega) h3] at h1
  rw [reat_at (by omega) h3]
  exact h1

theorem Lat_len_le {i j : Nat} (h : i ≤ j) : (Lat its L0 i).length ≤ (Lat its L0 j).length := by
  obtain ⟨X, hX⟩ := Lat_le (its := its) (L0 := L0) h
  rw [hX]; simp

theorem undef_not_bool {b : Bool} : Go.undef ≠ .bool b := by intro h; cases h

/-- A slot that an earlier operation wrote. -/
theorem slot_at (hR : Reg P G env s nt ops its L0) (hI : Inv G s nt its L0 M0 F0 U0 w0 a0 listed a w M F U) {i : Nat} {j : Nat} {it : It} {t : Nat} (hij : j < i) (hit : its[j]? = some it) (hd : it.o.dst = some t) (hl : Lsd listed j)
    (hg : HG (reat its i) (gsAt its j it)) : RV (M.cut (Lat its L0 i).length) F w it.v (slotv a t) :=
  ((hI.slot j it hit hl t hd).1 (HG_move hR.okw hit (Nat.le_of_lt hij) (Nat.le_refl j) hg)).mono (Mp.cut_mono (.refl M) (Lat_len_le hij)) (fun _ h => h) hI.st.FU (.refl _ _)

/-- A slot that no operation of the region has written. -/
theorem slot_env (hI : Inv G s nt its L0 M0 F0 U0 w0 a0 listed a w M F U) (hS0 : St M0 F0 U0 L0 s w0) (henv : ∀ t, RV M0 F0 w0 (look env t) (slotv a0 t)) {i t : Nat}
    (hn : ∀ (j : Nat) (it : It), its[j]? = some it → Lsd listed j → it.o.dst ≠ some t) : RV (M.cut (Lat its L0 i).length) F w (look env t) (slotv a t) := by
  rw [hI.other t hn]
  refine (henv t).mono (Mp.le_cut hI.le (fun k hk => hS0.dom k ?_)) hI.FF (fun b hb => hS0.Ult b (hS0.FU b hb)) hI.ext
  have : (Lat its L0 0).length ≤ (Lat its L0 i).length := Lat_len_le (Nat.zero_le i)
  have h0 : (Lat its L0 0).length = L0.length := by simp [Lat]
  omega

theorem eval_tmp (a : Act) (t : Nat) : a.eval (.tmp t) = slotv a t := rfl

/-- An operand. -/
theorem operand (hR : Reg P G env s nt ops its L0) (hI : Inv G s nt its L0 M0 F0 U0 w0 a0 listed a w M F U) (hS0 : St M0 F0 U0 L0 s w0) (henv : ∀ t, RV M0 F0 w0 (look env t) (slotv a0 t))
    (hc : Closed ops listed) {i : Nat} {it : It} (hit : its[i]? = some it) (hni : ¬ Lsd listed i) (hdeps : ∀ e ∈ it.o.after.toList, Region.binds .any e = true → Lsd listed e.on) {x : Operand} (hx : x ∈ it.o.op.operands.toList)
    {C : List (Nat × Bool)} (hC : HG (reat its i) C) (hu : us (reat its i) C x = true) : RV (M.cut (Lat its L0 i).length) F w (rho G env (reat its i) x) (a.eval x) := by
  cases x with
  | const v => exact RV.cst v
  | func f => exact .fn f [] [] rfl (fun j x v hj _ => by simp at hj)
  | global g =>
    simp only [rho]
    cases hg : G g with
    | none => exact .undef _
    | some cs => exact .d (hI.gl g cs hg)
  | tmp t =>
    have ht : t ∈ tmpsOf it.o := List.mem_filterMap.2 ⟨.tmp t, hx, rfl⟩
    simp only [rho, us] at hu ⊢
    rw [eval_tmp]
    have hoi := hR.pre i it hit
    cases hl : rlook (reat its i) t with
    | some e =>
      rw [hl] at hu
      obtain ⟨j, itj, hji, hitj, hdj, rfl, _⟩ := rlook_reat hl
      have hlj : Lsd listed j := waits hc i j it.o hoi hdeps ((ord_slot hR.ord hoi (hR.pre j itj hitj) hdj ht).1 hji)
      exact slot_at hR hI hji hitj hdj hlj (HG_of_all hu hC)
    | none =>
      refine slot_env hI hS0 henv (fun j itj hitj hlj hdj => ?_)
      rcases Nat.lt_trichotomy j i with h | h | h
      · exact rlook_none hl j itj h hitj hdj
      · subst h; exact hni hlj
      · have hb := (ord_slot hR.ord hoi (hR.pre j itj hitj) hdj ht).2 h
        exact hni (waits hc j i itj.o (hR.pre j itj hitj) (fun e he hb' => hc j itj.o (hR.pre j itj hitj) hlj e he hb') hb)
theorem yielded_eq {j t : Nat} {o : Oper} (ho : ops[j]? = some o) (hd : o.dst = some t) (ht : t < a.tmps.size) : yielded ops.toArray a.tmps j = match slotv a t with
    | .bool b => some b
    | _ => none := by
  unfold yielded slotv
  simp only [List.getElem?_toArray, ho, Option.bind_some, hd, Array.getElem?_eq_getElem ht, Array.getD_eq_getD_getElem?, Option.getD_some]
  cases a.tmps[t] <;> rfl

/-- A guard that is met tells what its operation yielded. -/
theorem guard_met (hR : Reg P G env s nt ops its L0) (hI : Inv G s nt its L0 M0 F0 U0 w0 a0 listed a w M F U) (hc : Closed ops listed) {i : Nat} {it : It} (hit : its[i]? = some it)
    (hdeps : ∀ e ∈ it.o.after.toList, Region.binds .any e = true → Lsd listed e.on) : Region.wanted it.o (yielded ops.toArray a.tmps) = true ↔ HG (reat its i) (gsAt its i it) := by
  have hoi := hR.pre i it hit
  have hg := okop_gok (hR.ok i it hit)
  unfold Region.wanted gsAt
  cases hgd : it.o.guard with
  | none => simp [gsOf, HG]
  | some jp =>
    obtain ⟨j, p⟩ := jp
    rw [hgd] at hg
    simp only [gok] at hg
    cases hf : rfind (reat its i) j with
    | none => rw [hf] at hg; cases hg
    | some e =>
      rw [hf] at hg
      simp only at hg
      obtain ⟨itj, hji, hitj, he⟩ := rfind_reat hf
      subst he
      simp only at hg
      have hlj : Lsd listed j := waits hc i j it.o hoi hdeps (ord_guard hR.ord hoi hgd)
      split at hg
      · rename_i b hv
        obtain ⟨t, ht⟩ := Option.isSome_iff_exists.1 hg
        have htn : t < a.tmps.size := by rw [hI.size]; exact (okop_dst (hR.ok j itj hitj) ht).1
        simp only []
        rw [yielded_eq (hR.pre j itj hitj) ht htn]
        obtain ⟨hs1, hs2⟩ := hI.slot j itj hitj hlj t ht
        have hchain : HG (reat its i) (gsOf (reat its i) (some (j, p))) ↔ b = p ∧ HG (reat its j) (gsAt its j itj) := by
          rw [HG_all]
          simp only [gsOf, hf, List.mem_cons, forall_eq_or_imp]
          have hlit : lit (reat its i) j p ↔ b = p := by unfold lit; rw [hf]; simp only [hv]
          rw [hlit]
          refine and_congr_right fun _ => ?_
          rw [← HG_all]
          exact ⟨fun h => HG_move hR.okw hitj (Nat.le_of_lt hji) (Nat.le_refl j) h, fun h => HG_move hR.okw hitj (Nat.le_refl j) (Nat.le_of_lt hji) h⟩
        rw [hchain]
        by_cases hj : HG (reat its j) (gsAt its j itj)
        · have h1 := hs1 hj
          rw [hv] at h1
          rw [h1.bool_inv]
          simp only [beq_iff_eq, Option.some.injEq]
          exact ⟨fun h => ⟨h, hj⟩, fun h => h.1⟩
        · rw [hs2 hj]
          exact ⟨fun h => (by cases h), fun h => absurd h.2 hj⟩
      · cases hg

theorem opn (hR : Reg P G env s nt ops its L0) (hI : Inv G s nt its L0 M0 F0 U0 w0 a0 listed a w M F U) (hS0 : St M0 F0 U0 L0 s w0) (henv : ∀ t, RV M0 F0 w0 (look env t) (slotv a0 t))
    (hc : Closed ops listed) {i : Nat} {it : It} (hit : its[i]? = some it) (hni : ¬ Lsd listed i) (hdeps : ∀ e ∈ it.o.after.toList, Region.binds .any e = true → Lsd listed e.on)
    (hC : HG (reat its i) (gsAt its i it)) : Opn it.o.op (rho G env (reat its i)) (M.cut (Lat its L0 i).length) F w a := by
  have hu := okop_us (hR.ok i it hit)
  have hopd := fun {x : Operand} (hx : x ∈ it.o.op.operands.toList) {C : List (Nat × Bool)} (hC : HG (reat its i) C) (hu : us (reat its i) C x = true) => operand hR hI hS0 henv hc hit hni hdeps hx hC hu
  have all : (∀ c x y, it.o.op ≠ .pick c x y) → ∀ x ∈ it.o.op.operands.toList, RV (M.cut (Lat its L0 i).length) F w (rho G env (reat its i) x) (a.eval x) := by
    intro hnp x hx
    refine hopd hx hC ?_
    have : it.o.op.operands.toList.all (us (reat its i) (gsOf (reat its i) it.o.guard)) = true := by
      revert hu
      unfold usall
      split
      · rename_i c x y h; exact absurd h (hnp c x y)
      · exact fun h => h
    exact List.all_eq_true.1 this x hx
  unfold Opn
  split
  · rename_i c x y hop
    rw [hop] at hu
    simp only [usall, Bool.and_eq_true] at hu
    obtain ⟨⟨hu1, hu2⟩, hu3⟩ := hu
    have hmem : ∀ z, z = c ∨ z = x ∨ z = y → z ∈ it.o.op.operands.toList := by
      intro z hz
      rw [hop]
      simpa [Op.operands] using hz
    refine ⟨hopd (hmem c (.inl rfl)) hC hu1, fun p hp => ?_⟩
    have key : ∀ (q : Bool) (z : Operand), z ∈ it.o.op.operands.toList → p = q → usp (reat its i) (gsOf (reat its i) it.o.guard) c q z = true → RV (M.cut (Lat its L0 i).length) F w (rho G env (reat its i) z) (a.eval z) := by
      intro q z hz hpq hus
      cases z with
      | const v => exact hopd hz hC rfl
      | func f => exact hopd hz hC rfl
      | global g => exact hopd hz hC rfl
      | tmp t =>
        simp only [usp] at hus
        cases hl : rlook (reat its i) t with
        | none => exact hopd hz hC (by simp [us, hl])
        | some e =>
          rw [hl] at hus
          simp only at hus
          cases c with
          | tmp tc =>
            simp only at hus
            cases hlc : rlook (reat its i) tc with
            | none =>
              rw [hlc] at hus
              exact hopd hz hC (by simp only [us, hl]; exact hus)
            | some ec =>
              rw [hlc] at hus
              simp only at hus
              have hC2 : HG (reat its i) ((ec.idx, q) :: gsOf (reat its i) it.o.guard) := by
                rw [HG_all]
                intro l hl'
                rcases List.mem_cons.1 hl' with rfl | hl'
                · obtain ⟨jc, itc, hjc, hitc, hdc, hec, _⟩ := rlook_reat hlc
                  subst hec
                  unfold lit
                  rw [reat_at hjc hitc]
                  simp only [rho, hlc] at hp
                  simp only [hp]
                  exact hpq
                · exact HG_all.1 hC l hl'
              exact hopd hz hC2 (by simp only [us, hl]; exact hus)
          | const v => exact hopd hz hC (by simp only [us, hl]; exact hus)
          | func f => exact hopd hz hC (by simp only [us, hl]; exact hus)
          | global g => exact hopd hz hC (by simp only [us, hl]; exact hus)
    exact ⟨fun h => key true x (hmem x (.inr (.inl rfl))) h hu2, fun h => key false y (hmem y (.inr (.inr rfl))) h hu3⟩
  · rename_i hop
    exact all (fun c x y h => hop c x y h)

end
end Go.Pv
