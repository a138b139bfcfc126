/- The telling of code in which every object bears a name: between regions nothing is local. -/
import Derived.Test.YtkenimmellonjaaPvR
namespace Go.Pv
open Go.RowKit

section
variable {P : Program} {cx : Ctx} {env : Env} {L : List AB} {s s' : List (Nat × AB)} {M M' : Mp} {F U : Nat → Prop} {w : World} {a : Act} {z : Z}

/-- The same memory, its places named anew. -/
theorem St.recast (hS : St M F U L s w) {f : Nat → Rf} (hl : ∀ k, M'.l k = none) (hnd : (s'.map (·.1)).Nodup)
    (src : ∀ id ab', (id, ab') ∈ s' → ∃ ab b, Here L s (f id) ab ∧ (RB (M.sub (f id)) F w b ab → RB M'.glo F w b ab') ∧ (ab' ≠ .dead → ab ≠ .dead) ∧ M.at_ (f id) = some b ∧ M'.g id = some b)
    (inj : ∀ id id', f id = f id' → id ∈ s'.map (·.1) → id' ∈ s'.map (·.1) → id = id') (gdom : ∀ id, (∀ ab, (id, ab) ∉ s') → M'.g id = none) : St M' F U [] s' w := by
  have hmem : ∀ id ab, (id, ab) ∈ s' → id ∈ s'.map (·.1) := fun id ab h => List.mem_map.2 ⟨_, h, rfl⟩
  refine ⟨fun r ab b hr hm => ?_, fun r r' a1 a2 b h1 h2 d1 d2 m1 m2 => ?_, fun r ab b hr hd hm => ?_, hnd, hS.FU, hS.Ult, fun k _ => hl k, fun id ab h => ?_, gdom⟩
  · cases r with
    | l k => simp [Here] at hr
    | g id =>
      obtain ⟨ab0, b0, q1, q2, q5, q3, q4⟩ := src id ab hr
      simp only [Mp.at_, q4, Option.some.injEq] at hm
      subst hm
      exact q2 (hS.rb _ _ _ q1 q3)
  · cases r with
    | l k => simp [Here] at h1
    | g id =>
      cases r' with
      | l k => simp [Here] at h2
      | g id' =>
        obtain ⟨b1, c1, q1, q2, q5, q3, q4⟩ := src id a1 h1
        obtain ⟨b2, c2, p1, p2, p5, p3, p4⟩ := src id' a2 h2
        simp only [Mp.at_, q4, Option.some.injEq] at m1
        simp only [Mp.at_, p4, Option.some.injEq] at m2
        subst m1
        subst m2
        have := hS.inj _ _ b1 b2 _ q1 p1 (q5 d1) (p5 d2) q3 p3
        rw [inj id id' this (hmem _ _ h1) (hmem _ _ h2)]
  · cases r with
    | l k => simp [Here] at hr
    | g id =>
      obtain ⟨b1, c1, q1, q2, q5, q3, q4⟩ := src id ab hr
      simp only [Mp.at_, q4, Option.some.injEq] at hm
      subst hm
      exact hS.nU _ b1 _ q1 (q5 hd) q3
  · obtain ⟨_, b1, _, _, _, _, q4⟩ := src id ab h
    exact ⟨b1, q4⟩
theorem St.rb_rn (hS : St M F U L s w) {φ : Rf → Option Rf} (hφ : Mp.Via φ M M'.glo) {r : Rf} {ab ab' : AB} (h : ab.rn φ = some ab') (b : Nat) : RB (M.sub r) F w b ab → RB M'.glo F w b ab' := fun hb =>
  (hb.mono (M' := M) (M.sub_le _) (fun _ h => h) hS.FU (.refl _ _) (fun _ => rfl)).rn hφ h

/-- Slots, their places named anew. -/
def mapE (φ : Rf → Option Rf) : Env → Env
  | [] => []
  | (t, v) :: r => (t, match v.rn φ with
    | some v => v
    | none => .undef) :: mapE φ r
theorem mapE_rv {φ : Rf → Option Rf} (hφ : Mp.Via φ M M') {v : Nat → Value} : ∀ {env : Env}, (∀ t, RV M F w (look env t) (v t)) → ∀ t, RV M' F w (look (mapE φ env) t) (v t) := by
  have key : ∀ {env : Env} {t : Nat} {u : Value}, RV M F w (look env t) u → RV M' F w (look (mapE φ env) t) u := by
    intro env
    induction env with
    | nil => intro t u _; exact .undef _
    | cons x r ih =>
      obtain ⟨i, y⟩ := x
      intro t u h
      simp only [mapE, look] at h ⊢
      split
      · rename_i hb
        rw [hb] at h
        split
        · rename_i y' hy; exact h.rn hφ hy
        · exact .undef _
      · rename_i hb
        rw [hb] at h
        exact ih h
  exact fun {_} h t => key (h t)

/-- Told of are the first n names alone. -/
def ToldN (n : Nat) (z : Z) : Prop := ∀ id, n ≤ id → z.g0 id = none
def QV (cx : Ctx) (z : Z) (K : Exit → Env → List (Nat × AB) → Prop) : Exit → Act → World → Prop := fun e a w => ∃ env s M F U, K e env s ∧ CS cx M F U [] s w env a ∧ Sin z M F U s w
structure V (P : Program) (cx : Ctx) (n : Nat) (c : Code) (env : Env) (s : List (Nat × AB)) (K : Exit → Env → List (Nat × AB) → Prop) : Prop where
  h : ∀ (z : Z) (a : Act) (w : World) (M : Mp) (F U : Nat → Prop), ToldN n z → CS cx M F U [] s w env a → Sin z M F U s w → c.wp P (QV cx z K) a w
/-- The same world, told otherwise. -/
def GV (cx : Ctx) (n : Nat) (env : Env) (L : List AB) (s : List (Nat × AB)) (env' : Env) (s' : List (Nat × AB)) : Prop :=
  ∀ (z : Z) (a : Act) (w : World) (M : Mp) (F U : Nat → Prop), ToldN n z → CS cx M F U L s w env a → Sin z M F U s w → ∃ M' F' U', CS cx M' F' U' [] s' w env' a ∧ Sin z M' F' U' s' w
theorem GV.refl {n : Nat} : GV cx n env [] s env s := fun _ _ _ M F U _ h1 h2 => ⟨M, F, U, h1, h2⟩
theorem GV.trans {n : Nat} {e1 e2 e3 : Env} {s1 s2 s3 : List (Nat × AB)} (h : GV cx n e1 L s1 e2 s2) (k : GV cx n e2 [] s2 e3 s3) : GV cx n e1 L s1 e3 s3 := fun z a w M F U h0 h1 h2 => by
  obtain ⟨M', F', U', h3, h4⟩ := h z a w M F U h0 h1 h2
  exact k z a w M' F' U' h0 h3 h4

variable {n : Nat} {c x y : Code} {K K' : Exit → Env → List (Nat × AB) → Prop}
theorem QV.mono {e : Exit} (h : QV cx z K e a w) (hK : ∀ env s, K e env s → K' e env s) : QV cx z K' e a w := by
  obtain ⟨env, s, M, F, U, h1, h2⟩ := h
  exact ⟨env, s, M, F, U, hK _ _ h1, h2⟩
theorem V.mono (h : V P cx n c env s K) (hK : ∀ e env s, K e env s → K' e env s) : V P cx n c env s K' :=
  .mk fun z a w M F U h0 hC hZ => wp_mono (h.h z a w M F U h0 hC hZ) fun _ _ _ hq => hq.mono (hK _)
theorem V.skip (h : K .normal env s) : V P cx n .skip env s K := .mk fun _ _ _ M F U _ hC hZ => wp_skip ⟨env, s, M, F, U, h, hC, hZ⟩
theorem V.label {l : Nat} (h : K .normal env s) : V P cx n (.label l) env s K := .mk fun _ _ _ M F U _ hC hZ => wp_label ⟨env, s, M, F, U, h, hC, hZ⟩
theorem V.exit {id : Nat} (h : K (.exit id) env s) : V P cx n (.exit id) env s K := .mk fun _ _ _ M F U _ hC hZ => wp_exit ⟨env, s, M, F, U, h, hC, hZ⟩
theorem V.ret (h : K .ret env s) : V P cx n .ret env s K := .mk fun _ _ _ M F U _ hC hZ => wp_ret ⟨env, s, M, F, U, h, hC, hZ⟩
def KT (J : Env → List (Nat × AB) → Prop) (K : Exit → Env → List (Nat × AB) → Prop) : Exit → Env → List (Nat × AB) → Prop
  | .normal => J
  | e => K e
theorem V.seq (h : V P cx n x env s (KT (fun env s => V P cx n y env s K) K)) : V P cx n (.seq x y) env s K := .mk fun z a w M F U h0 hC hZ => wp_seq (wp_mono (h.h z a w M F U h0 hC hZ) fun e a w hq => by
  obtain ⟨env, s, M, F, U, h1, h2, h3⟩ := hq
  cases e with
  | normal => exact h1.h z a w M F U h0 h2 h3
  | _ => exact ⟨env, s, M, F, U, h1, h2, h3⟩)
def KB (id : Nat) (K : Exit → Env → List (Nat × AB) → Prop) : Exit → Env → List (Nat × AB) → Prop
  | .exit id' => match Nat.beq id' id with
    | true => K .normal
    | false => K (.exit id')
  | e => K e
theorem V.block {id : Nat} (h : V P cx n c env s (KB id K)) : V P cx n (.block id c) env s K := .mk fun z a w M F U h0 hC hZ => wp_block (wp_mono (h.h z a w M F U h0 hC hZ) fun e a w hq => by
  obtain ⟨env, s, M, F, U, h1, h2⟩ := hq
  cases e with
  | exit id' =>
    simp only [Exit.inBlock]
    simp only [KB] at h1
    cases hb : Nat.beq id' id with
    | true =>
      rw [hb] at h1
      rw [if_pos (beq_t hb)]
      exact ⟨env, s, M, F, U, h1, h2⟩
    | false =>
      rw [hb] at h1
      rw [if_neg (fun h => by subst h; simp at hb)]
      exact ⟨env, s, M, F, U, h1, h2⟩
  | _ => exact ⟨env, s, M, F, U, h1, h2⟩)
def bcase (b : Bool) (X Y : Prop) : Prop := match b with
  | true => X
  | false => Y
theorem bcase_intro {b : Bool} {X Y : Prop} (h1 : b = true → X) (h2 : b = false → Y) : bcase b X Y := by
  cases b with
  | true => exact h1 rfl
  | false => exact h2 rfl
theorem V.cond {c : Operand} (h : match rho cx.G env [] c with
    | .d (.bool b) => bcase b (V P cx n x env s K) (V P cx n y env s K)
    | _ => False) : V P cx n (.cond c x y) env s K := by
  constructor
  intro z a w M F U h0 hC hZ
  split at h
  · rename_i b hb
    have hx := hC.operand c
    rw [hb] at hx
    refine wp_cond_split hx.bool_inv (fun e => ?_) (fun e => ?_)
    · subst e; exact V.h h z a w M F U h0 hC hZ
    · subst e; exact V.h h z a w M F U h0 hC hZ
  · exact h.elim
theorem V.loop (I : Nat → Env → List (Nat × AB) → Prop) {m : Nat} (h0 : I m env s)
    (step : ∀ m env s, I m env s → V P cx n c env s (KT (fun env' s' => ∃ k, k < m ∧ I k env' s') K)) : V P cx n (.loop c) env s K := by
  constructor
  intro z a w M F U hN hC hZ
  have key : ∀ (N m : Nat) (env : Env) (s : List (Nat × AB)) (a : Act) (w : World) (M : Mp) (F U : Nat → Prop), m < N → I m env s → CS cx M F U [] s w env a → Sin z M F U s w → Code.rounds P c (QV cx z K) N a w := by
    intro N
    induction N with
    | zero => intro m _ _ _ _ _ _ _ h; omega
    | succ N ih =>
      intro m env s a w M F U hn hI hC hZ
      rw [rounds_succ]
      refine wp_mono ((step m env s hI).h z a w M F U hN hC hZ) fun e a w hq => ?_
      obtain ⟨env, s, M, F, U, h1, h2, h3⟩ := hq
      cases e with
      | normal =>
        obtain ⟨k, hk, hI⟩ := h1
        exact ih k env s a w M F U (by omega) hI h2 h3
      | _ => exact ⟨env, s, M, F, U, h1, h2, h3⟩
  exact wp_loop_rounds (m + 1) (key (m + 1) m env s a w M F U (by omega) h0 hC hZ)
theorem V.ghost {env' : Env} {s' : List (Nat × AB)} (hg : GV cx n env [] s env' s') (h : V P cx n c env' s' K) : V P cx n c env s K := .mk fun z a w M F U h0 h1 h2 => by
  obtain ⟨M', F', U', h3, h4⟩ := hg z a w M F U h0 h1 h2
  exact h.h z a w M' F' U' h0 h3 h4
theorem V.gpost (h : V P cx n c env s K) (hK : ∀ e env s, K e env s → ∃ env' s', GV cx n env [] s env' s' ∧ K' e env' s') : V P cx n c env s K' := .mk fun z a w M F U h0 hC hZ => wp_mono (h.h z a w M F U h0 hC hZ) fun e a w hq => by
  obtain ⟨env, s, M, F, U, h1, h2, h3⟩ := hq
  obtain ⟨env', s', hg, hk⟩ := hK _ _ _ h1
  obtain ⟨M', F', U', h4, h5⟩ := hg z a w M F U h0 h2 h3
  exact ⟨env', s', M', F', U', hk, h4, h5⟩
/-- In rounds, with what is told made ready ahead of each. -/
theorem V.rounds (I : Nat → Env → List (Nat × AB) → Prop) (h0 : ∃ e2 s2, GV cx n env [] s e2 s2 ∧ ∃ m, I m e2 s2)
    (step : ∀ m env s, I m env s → V P cx n c env s (KT (fun env' s' => ∃ e2 s2, GV cx n env' [] s' e2 s2 ∧ ∃ k, k < m ∧ I k e2 s2) K)) : V P cx n (.loop c) env s K := by
  obtain ⟨e2, s2, hg, m, hI⟩ := h0
  refine V.ghost hg (V.loop I hI fun m env s hI => (step m env s hI).gpost fun e env' s' h => ?_)
  cases e with
  | normal => exact h
  | _ => exact ⟨_, _, .refl, h⟩
/-- Round by round. -/
def vrounds (P : Program) (cx : Ctx) (n : Nat) (c : Code) (K : Exit → Env → List (Nat × AB) → Prop) : Nat → Env → List (Nat × AB) → Prop
  | 0, _, _ => False
  | k + 1, env, s => V P cx n c env s (KT (fun env s => vrounds P cx n c K k env s) K)
theorem V.unroll (k : Nat) (h : vrounds P cx n c K k env s) : V P cx n (.loop c) env s K := by
  constructor
  intro z a w M F U hN hC hZ
  have key : ∀ (k : Nat) (env : Env) (s : List (Nat × AB)) (a : Act) (w : World) (M : Mp) (F U : Nat → Prop), vrounds P cx n c K k env s → CS cx M F U [] s w env a → Sin z M F U s w → Code.rounds P c (QV cx z K) k a w := by
    intro k
    induction k with
    | zero => intro _ _ _ _ _ _ _ h; exact h.elim
    | succ k ih =>
      intro env s a w M F U h hC hZ
      rw [rounds_succ]
      refine wp_mono (V.h h z a w M F U hN hC hZ) fun e a w hq => ?_
      obtain ⟨env, s, M, F, U, h1, h2, h3⟩ := hq
      cases e with
      | normal => exact ih env s a w M F U h1 h2 h3
      | _ => exact ⟨env, s, M, F, U, h1, h2, h3⟩
  exact wp_loop_rounds k (key k env s a w M F U h hC hZ)

/-! ### Objects named anew, others dropped -/
def gsel (σ : List Nat) : Rf → Option Rf
  | .l _ => none
  | .g j => match rnK σ j 0 with
    | some k => some (.g k)
    | none => none
def gatherS (σ : List Nat) (s : List (Nat × AB)) : List Nat → Nat → Option (List (Nat × AB))
  | [], _ => some []
  | j :: r, k => match sfind s j with
    | some ab => match ab.rn (gsel σ) with
      | some ab => match gatherS σ s r (k + 1) with
        | some l => some ((k, ab) :: l)
        | none => none
      | none => none
    | none => none
theorem gatherS_get {σ : List Nat} {s : List (Nat × AB)} : ∀ {τ : List Nat} {k : Nat} {s0 : List (Nat × AB)}, gatherS σ s τ k = some s0 → s0.map (·.1) = List.range' k τ.length ∧ ∀ m ab', (m, ab') ∈ s0 → ∃ j id ab, m = k + j ∧ τ[j]? = some id ∧ (id, ab) ∈ s ∧ ab.rn (gsel σ) = some ab'
  | [], k, s0, h => by simp only [gatherS, Option.some.injEq] at h; subst h; simp
  | id :: r, k, s0, h => by
    simp only [gatherS] at h
    split at h <;> try cases h
    rename_i ab hab
    split at h <;> try cases h
    rename_i ab' hab'
    split at h <;> cases h
    rename_i l hl
    obtain ⟨h1, h2⟩ := gatherS_get hl
    refine ⟨by simp [h1, List.range'_succ], fun m x hx => ?_⟩
    rcases List.mem_cons.1 hx with e | hx
    · cases e; exact ⟨0, id, ab, rfl, rfl, sfind_mem hab, hab'⟩
    · obtain ⟨j, id', ab2, q1, q2, q3, q4⟩ := h2 m x hx
      exact ⟨j + 1, id', ab2, by omega, by simpa using q2, q3, q4⟩
/-- The first names stay. -/
def uptoB : Nat → Nat → List Nat → Bool
  | 0, _, _ => true
  | _ + 1, _, [] => false
  | n + 1, k, x :: r => Nat.beq x k && uptoB n (k + 1) r
theorem uptoB_get : ∀ {n k : Nat} {σ : List Nat}, uptoB n k σ = true → ∀ i, i < n → σ[i]? = some (k + i)
  | 0, _, _, _, i, hi => by omega
  | _ + 1, _, [], h, _, _ => by simp [uptoB] at h
  | n + 1, k, x :: r, h, i, hi => by
    simp only [uptoB, Bool.and_eq_true] at h
    have := beq_t h.1
    cases i with
    | zero => simp [this]
    | succ i =>
      have := uptoB_get h.2 i (by omega)
      simp only [List.getElem?_cons_succ, this]
      congr 1; omega
def Mp.gath (M : Mp) (σ : List Nat) : Mp := ⟨fun _ => none, fun k => (σ[k]?).bind M.g⟩
theorem via_gsel (M : Mp) (σ : List Nat) : Mp.Via (gsel σ) M (M.gath σ).glo := fun r r' b h hm => by
  cases r with
  | l k => cases h
  | g j =>
    simp only [gsel] at h
    split at h <;> cases h
    rename_i k hk
    obtain ⟨i, h1, h2⟩ := rnK_some hk
    simp only [Nat.zero_add] at h1
    subst h1
    simp only [Mp.at_, Mp.glo, Mp.gath, h2]
    exact hm
theorem via_gsel' (M : Mp) (σ : List Nat) : Mp.Via (gsel σ) M (M.gath σ) := fun r r' b h hm => (M.gath σ).glo_le r' b (via_gsel M σ r r' b h hm)
theorem GV.gather_M {s' : List (Nat × AB)} (σ : List Nat) (hs : gatherS σ s σ 0 = some s') (hn : nodupB σ = true) (hup : uptoB n 0 σ = true) (z : Z) (a : Act) (w : World) (M : Mp) (F U : Nat → Prop) (h0 : ToldN n z) (hC : CS cx M F U [] s w env a) (hZ : Sin z M F U s w) :
    ∃ M' F' U', (CS cx M' F' U' [] s' w (mapE (gsel σ) env) a ∧ M' = M.gath σ ∧ F' = F ∧ U' = U) ∧ Sin z M' F' U' s' w := by
  obtain ⟨hids, hget⟩ := gatherS_get hs
  have hnd := nodupB_spec hn
  have hup := uptoB_get hup
  have hidlt : ∀ id, id ∈ s'.map (·.1) ↔ id < σ.length := fun id => by rw [hids]; simp [List.mem_range']
  have hσ : ∀ id ab, (id, ab) ∈ s' → ∃ j ab0, σ[id]? = some j ∧ (j, ab0) ∈ s ∧ ab0.rn (gsel σ) = some ab := fun id ab h => by
    obtain ⟨j, id', ab0, q1, q2, q3, q4⟩ := hget id ab h
    simp only [Nat.zero_add] at q1
    subst q1
    exact ⟨id', ab0, q2, q3, q4⟩
  have hst : St (M.gath σ) F U [] s' w := hC.st.recast (f := fun id => .g ((σ[id]?).getD 0)) (fun _ => rfl) (by rw [hids]; exact List.nodup_range') (fun id ab h => by
      obtain ⟨j, ab0, q1, q2, q3⟩ := hσ id ab h
      obtain ⟨b, hb⟩ := hC.st.tot j ab0 q2
      exact ⟨ab0, b, by simpa [q1, Here] using q2, hC.st.rb_rn (via_gsel M σ) q3 b, fun e h => e ((AB.rn_dead q3).2 h), by simpa [q1, Mp.at_] using hb, by simpa [Mp.gath, q1] using hb⟩) (fun id id' e h1 h2 => by
      rw [hidlt] at h1 h2
      simp only [List.getElem?_eq_getElem h1, List.getElem?_eq_getElem h2, Option.getD_some, Rf.g.injEq] at e
      exact (List.getElem?_inj h1 hnd).1 (by rw [List.getElem?_eq_getElem h1, List.getElem?_eq_getElem h2, e])) (fun id h => by
      simp only [Mp.gath]
      have : ¬ id < σ.length := fun hlt => by
        have := (hidlt id).2 hlt
        obtain ⟨⟨i, ab⟩, q1, q2⟩ := List.mem_map.1 this
        simp only at q2
        subst q2
        exact h ab q1
      rw [List.getElem?_eq_none (by omega)]
      rfl)
  refine ⟨M.gath σ, F, U, ⟨⟨hst, hC.gl, mapE_rv (via_gsel' M σ) hC.env, hC.size, hC.defers⟩, rfl, rfl, rfl⟩, ⟨fun id b hb => ?_, hZ.FF, hZ.UU, hZ.Fn, hZ.ext, fun k b hb => (by cases hb), fun id ab b h1 h2 h3 => ?_, fun id ab h => ?_⟩⟩
  · have hlt : id < n := by
      rcases Nat.lt_or_ge id n with q | q
      · exact q
      · rw [h0 id q] at hb; cases hb
    simp only [Mp.gath, hup id hlt, Nat.zero_add, Option.bind_some]
    exact hZ.g id b hb
  · obtain ⟨j, ab0, q1, q2, q3⟩ := hσ id ab h1
    simp only [Mp.gath, q1, Option.bind_some] at h3
    exact hZ.lg j ab0 b q2 (fun e => h2 ((AB.rn_dead q3).2 e)) h3
  · rcases Nat.lt_or_ge id n with q | q
    · obtain ⟨j, ab0, q1, q2, q3⟩ := hσ id ab h
      rw [hup id q] at q1
      simp only [Nat.zero_add, Option.some.injEq] at q1
      subst q1
      exact hZ.ids id ab0 q2
    · exact .inr (h0 id q)
theorem GV.gather {s' : List (Nat × AB)} (σ : List Nat) (hs : gatherS σ s σ 0 = some s') (hn : nodupB σ = true) (hup : uptoB n 0 σ = true) : GV cx n env [] s (mapE (gsel σ) env) s' := fun z a w M F U h0 hC hZ => by
  obtain ⟨M', F', U', h1, h2⟩ := GV.gather_M σ hs hn hup z a w M F U h0 hC hZ
  exact ⟨M', F', U', h1.1, h2⟩

/-! ### What a region's head has made bears a name from then on -/
def witB (env : Env) (k : Nat) : List Nat → Bool
  | [] => false
  | t :: r => (match look env t with
    | .ref (.l j) _ => Nat.beq j k
    | _ => false) || witB env k r
theorem witB_get {k : Nat} (h : ∀ t, RV M F w (look env t) (slotv a t)) : ∀ {ts : List Nat}, witB env k ts = true → ∃ b, M.l k = some b
  | [], h' => by simp [witB] at h'
  | t :: r, h' => by
    simp only [witB, Bool.or_eq_true] at h'
    rcases h' with h' | h'
    · split at h' <;> try cases h'
      rename_i j off hj
      have := beq_t h'
      subst this
      have h1 := h t
      rw [hj] at h1
      generalize slotv a t = u at h1
      cases h1 with
      | ref _ _ b hm => exact ⟨b, hm⟩
    · exact witB_get h h'
def psel (base : Nat) (ok : Nat → Bool) : Rf → Option Rf
  | .g i => some (.g i)
  | .l k => match ok k with
    | true => some (.g (base + k))
    | false => none
def promS (base : Nat) (ok : Nat → Bool) : Nat → List AB → Option (List (Nat × AB))
  | _, [] => some []
  | k, ab :: r => match ok k with
    | true => match ab.rn (psel base ok) with
      | some ab => match promS base ok (k + 1) r with
        | some l => some ((base + k, ab) :: l)
        | none => none
      | none => none
    | false => promS base ok (k + 1) r
theorem promS_get {base : Nat} {ok : Nat → Bool} : ∀ {L : List AB} {k : Nat} {l : List (Nat × AB)}, promS base ok k L = some l → (∀ id ab', (id, ab') ∈ l → ∃ j ab, id = base + (k + j) ∧ ok (k + j) = true ∧ L[j]? = some ab ∧ ab.rn (psel base ok) = some ab') ∧ (l.map (·.1)).Nodup ∧ (∀ id ∈ l.map (·.1), base + k ≤ id) ∧ (∀ j ab, L[j]? = some ab → ok (k + j) = true → base + (k + j) ∈ l.map (·.1))
  | [], k, l, h => by
    simp only [promS, Option.some.injEq] at h
    subst h
    exact ⟨fun id ab h => by simp at h, .nil, fun id h => by simp at h, fun j ab h => by simp at h⟩
  | ab :: r, k, l, h => by
    simp only [promS] at h
    split at h
    · rename_i hok
      split at h <;> try cases h
      rename_i ab' hab
      split at h <;> cases h
      rename_i l' hl
      obtain ⟨q1, q2, q3, q4⟩ := promS_get hl
      refine ⟨fun id x hx => ?_, ?_, fun id hid => ?_, fun j y hy hj => ?_⟩
      · rcases List.mem_cons.1 hx with e | hx
        · cases e; exact ⟨0, ab, rfl, hok, rfl, hab⟩
        · obtain ⟨j, y, e1, e2, e3, e4⟩ := q1 id x hx
          exact ⟨j + 1, y, by omega, by rw [← e2]; congr 1; omega, by simpa using e3, e4⟩
      · simp only [List.map_cons, List.nodup_cons]
        exact ⟨fun hm => by have := q3 _ hm; omega, q2⟩
      · simp only [List.map_cons, List.mem_cons] at hid
        rcases hid with rfl | hid
        · omega
        · have := q3 id hid; omega
      · cases j with
        | zero => simp
        | succ j =>
          simp only [List.map_cons, List.mem_cons]
          right
          have := q4 j y (by simpa using hy) (by rw [← hj]; congr 1; omega)
          rw [show k + (j + 1) = k + 1 + j by omega]
          exact this
    · obtain ⟨q1, q2, q3, q4⟩ := promS_get h
      rename_i hok
      refine ⟨fun id x hx => ?_, q2, fun id hid => (by have := q3 id hid; omega), fun j y hy hj => ?_⟩
      · obtain ⟨j, y, e1, e2, e3, e4⟩ := q1 id x hx
        exact ⟨j + 1, y, by omega, by rw [← e2]; congr 1; omega, by simpa using e3, e4⟩
      · cases j with
        | zero => simp only [Nat.add_zero] at hj; rw [hok] at hj; cases hj
        | succ j =>
          have := q4 j y (by simpa using hy) (by rw [← hj]; congr 1; omega)
          rw [show k + (j + 1) = k + 1 + j by omega]
          exact this
def Mp.prom (M : Mp) (base : Nat) (ok : Nat → Bool) : Mp := ⟨fun _ => none, fun id => match Nat.ble base id with
  | true => match ok (id - base) with
    | true => M.l (id - base)
    | false => none
  | false => M.g id⟩
def belowB (base : Nat) : List (Nat × AB) → Bool
  | [] => true
  | (i, _) :: r => Nat.blt i base && belowB base r
theorem belowB_get {base : Nat} : ∀ {s : List (Nat × AB)}, belowB base s = true → ∀ id ab, (id, ab) ∈ s → id < base
  | [], _, _, _, h => by simp at h
  | (i, x) :: r, h, id, ab, hm => by
    simp only [belowB, Bool.and_eq_true] at h
    rcases List.mem_cons.1 hm with e | hm
    · cases e; simpa [Nat.blt_eq] using h.1
    · exact belowB_get h.2 id ab hm
theorem GV.prom {base : Nat} {ok : Nat → Bool} {s2 : List (Nat × AB)} (hw : ∀ k, k < L.length → ok k = true → witB env k cx.keep = true) (hok : ∀ k, L.length ≤ k → ok k = false) (hs : promS base ok 0 L = some s2) (hb : belowB base s = true) (hn : n ≤ base) :
    GV cx n env L s (mapE (psel base ok) env) (s ++ s2) := by
  intro z a w M F U h0 hC hZ
  obtain ⟨q1, q2, q3, q4⟩ := promS_get hs
  simp only [Nat.zero_add, Nat.add_zero] at q1 q3 q4
  have hbel := belowB_get hb
  have hgn : ∀ id, base ≤ id → M.g id = none := fun id hid => hC.st.gdom id fun ab h => by have := hbel id ab h; omega
  have hvia : Mp.Via (psel base ok) M (M.prom base ok).glo := fun r r' b h hm => by
    cases r with
    | g i =>
      cases h
      simp only [Mp.at_, Mp.glo, Mp.prom]
      have hi : i < base := by
        rcases Nat.lt_or_ge i base with q | q
        · exact q
        · have := hgn i q; simp only [Mp.at_] at hm; rw [this] at hm; cases hm
      have : Nat.ble base i = false := by
        cases e : Nat.ble base i with
        | false => rfl
        | true => have := Nat.le_of_ble_eq_true e; omega
      rw [this]
      exact hm
    | l k =>
      simp only [psel] at h
      split at h <;> cases h
      rename_i hk
      simp only [Mp.at_, Mp.glo, Mp.prom, Nat.ble_eq_true_of_le (Nat.le_add_right base k), Nat.add_sub_cancel_left, hk]
      exact hm
  have hprom : ∀ k b, ok k = true → M.l k = some b → (M.prom base ok).g (base + k) = some b := fun k b hk hb => by
    simp only [Mp.prom, Nat.ble_eq_true_of_le (Nat.le_add_right base k), Nat.add_sub_cancel_left, hk]
    exact hb
  have hold : ∀ id, id < base → (M.prom base ok).g id = M.g id := fun id hid => by
    have : Nat.ble base id = false := by
      cases e : Nat.ble base id with
      | false => rfl
      | true => have := Nat.le_of_ble_eq_true e; omega
    simp only [Mp.prom, this]
  have hwl : ∀ k, ok k = true → ∃ b, M.l k = some b := fun k hk => witB_get hC.env (hw k (by
    rcases Nat.lt_or_ge k L.length with q | q
    · exact q
    · rw [hok k q] at hk; cases hk) hk)
  have hvia' : Mp.Via (psel base ok) M (M.prom base ok) := fun r r' b h hm => (M.prom base ok).glo_le r' b (hvia r r' b h hm)
  have hle : M.glo.Le (M.prom base ok).glo := fun r b h => by
    cases r with
    | l k => cases h
    | g i => exact hvia (.g i) (.g i) b rfl h
  have hs2 : ∀ id ab', (id, ab') ∈ s2 → ∃ j ab b, id = base + j ∧ ok j = true ∧ L[j]? = some ab ∧ ab.rn (psel base ok) = some ab' ∧ M.l j = some b := fun id ab' h => by
    obtain ⟨j, ab, e1, e2, e3, e4⟩ := q1 id ab' h
    obtain ⟨b, hb⟩ := hwl j e2
    exact ⟨j, ab, b, e1, e2, e3, e4, hb⟩
  have hcase : ∀ id ab', (id, ab') ∈ s ++ s2 → ((id, ab') ∈ s ∧ id < base) ∨ ((id, ab') ∈ s2 ∧ base ≤ id) := fun id ab' h => by
    rcases List.mem_append.1 h with h | h
    · exact .inl ⟨h, hbel id ab' h⟩
    · obtain ⟨j, _, _, e1, _⟩ := hs2 id ab' h
      exact .inr ⟨h, by omega⟩
  have hst : St (M.prom base ok) F U [] (s ++ s2) w := by
    refine hC.st.recast (f := fun id => match Nat.ble base id with
      | true => .l (id - base)
      | false => .g id) (fun _ => rfl) ?_ (fun id ab' h => ?_) (fun id id' e _ _ => ?_) (fun id h => ?_)
    · rw [List.map_append]
      refine List.nodup_append.2 ⟨hC.st.nd, q2, fun x hx y hy e => ?_⟩
      subst e
      obtain ⟨⟨i, ab⟩, p1, p2⟩ := List.mem_map.1 hx
      simp only at p2
      subst p2
      have := hbel i ab p1
      have := q3 i hy
      omega
    · rcases hcase id ab' h with ⟨h, hid⟩ | ⟨h, hid⟩
      · obtain ⟨b, hb⟩ := hC.st.tot id ab' h
        have hf : Nat.ble base id = false := by
          cases e : Nat.ble base id with
          | false => rfl
          | true => have := Nat.le_of_ble_eq_true e; omega
        simp only [hf]
        exact ⟨ab', b, h, fun hr => hr.mono hle (fun _ h => h) hC.st.FU (.refl _ _) (fun _ => rfl), fun e => e, hb, by rw [hold id hid]; exact hb⟩
      · obtain ⟨j, ab, b, e1, e2, e3, e4, e5⟩ := hs2 id ab' h
        subst e1
        simp only [Nat.ble_eq_true_of_le (Nat.le_add_right base j), Nat.add_sub_cancel_left]
        exact ⟨ab, b, e3, hC.st.rb_rn hvia e4 b, fun d h => d ((AB.rn_dead e4).2 h), e5, hprom j b e2 e5⟩
    · cases e1 : Nat.ble base id <;> cases e2 : Nat.ble base id' <;> rw [e1, e2] at e <;> simp only [Rf.g.injEq, Rf.l.injEq] at e
      · exact e
      · cases e
      · cases e
      · have := Nat.le_of_ble_eq_true e1
        have := Nat.le_of_ble_eq_true e2
        omega
    · rcases Nat.lt_or_ge id base with q | q
      · rw [hold id q]
        exact hC.st.gdom id fun ab hab => h ab (List.mem_append.2 (.inl hab))
      · simp only [Mp.prom, Nat.ble_eq_true_of_le q]
        split
        · rename_i hk
          exfalso
          have hlt : id - base < L.length := by
            rcases Nat.lt_or_ge (id - base) L.length with q | q
            · exact q
            · rw [hok _ q] at hk; cases hk
          have := q4 (id - base) _ (List.getElem?_eq_getElem hlt) hk
          obtain ⟨⟨i, ab⟩, p1, p2⟩ := List.mem_map.1 this
          simp only at p2
          rw [show base + (id - base) = id by omega] at p2
          subst p2
          exact h ab (List.mem_append.2 (.inr p1))
        · rfl
  refine ⟨M.prom base ok, F, U, ⟨hst, hC.gl, mapE_rv hvia' hC.env, hC.size, hC.defers⟩, ⟨fun id b hb => ?_, hZ.FF, hZ.UU, hZ.Fn, hZ.ext, fun k b hb => (by cases hb), fun id ab b h1 h2 h3 => ?_, fun id ab h => ?_⟩⟩
  · have hlt : id < n := by
      rcases Nat.lt_or_ge id n with q | q
      · exact q
      · rw [h0 id q] at hb; cases hb
    rw [hold id (by omega)]
    exact hZ.g id b hb
  · rcases hcase id ab h1 with ⟨h, hid⟩ | ⟨h, hid⟩
    · rw [hold id hid] at h3
      exact hZ.lg id ab b h h2 h3
    · obtain ⟨j, ab0, b0, e1, e2, e3, e4, e5⟩ := hs2 id ab h
      subst e1
      rw [hprom j b0 e2 e5] at h3
      cases h3
      exact .inl (hZ.ll j _ e5)
  · rcases hcase id ab h with ⟨h, hid⟩ | ⟨h, hid⟩
    · exact hZ.ids id ab h
    · exact .inr (h0 id (by omega))
end
end Go.Pv
