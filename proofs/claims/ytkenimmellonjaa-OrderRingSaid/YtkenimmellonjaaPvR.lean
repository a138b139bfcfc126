/- The same world told otherwise: places that are wanted no more are dropped, others named anew. -/
import Derived.Test.YtkenimmellonjaaPvQ
namespace Go.Pv
open Go.RowKit

/-- A local place's new name. -/
def lsel (σ : List Nat) : Rf → Option Rf
  | .g i => some (.g i)
  | .l j => match rnK σ j 0 with
    | some k => some (.l k)
    | none => none
/-- What stands behind the new names. -/
def Mp.gather (M : Mp) (σ : List Nat) : Mp := ⟨fun k => match σ[k]? with
  | some j => M.l j
  | none => none, M.g⟩
theorem via_gather (M : Mp) (σ : List Nat) : Mp.Via (lsel σ) M (M.gather σ) := fun r r' b h hm => by
  cases r with
  | g i => cases h; exact hm
  | l j =>
    simp only [lsel] at h
    split at h <;> cases h
    rename_i k hk
    obtain ⟨i, h1, h2⟩ := rnK_some hk
    simp only [Nat.zero_add] at h1
    subst h1
    simp only [Mp.at_, Mp.gather, h2]
    exact hm
def gatherL (σ : List Nat) (L : List AB) : List Nat → Option (List AB)
  | [] => some []
  | j :: r => match L[j]? with
    | some ab => match ab.rn (lsel σ) with
      | some ab => match gatherL σ L r with
        | some r => some (ab :: r)
        | none => none
      | none => none
    | none => none
theorem gatherL_get {σ : List Nat} {L : List AB} : ∀ {τ : List Nat} {L' : List AB}, gatherL σ L τ = some L' → L'.length = τ.length ∧ ∀ (k : Nat) (ab' : AB), L'[k]? = some ab' → ∃ j ab, τ[k]? = some j ∧ L[j]? = some ab ∧ ab.rn (lsel σ) = some ab'
  | [], L', h => by
    simp only [gatherL, Option.some.injEq] at h
    subst h
    exact ⟨rfl, fun k ab h => by simp at h⟩
  | j :: r, L', h => by
    simp only [gatherL] at h
    split at h <;> try cases h
    rename_i ab hab
    split at h <;> try cases h
    rename_i ab' hab'
    split at h <;> cases h
    rename_i r' hr
    obtain ⟨h1, h2⟩ := gatherL_get hr
    refine ⟨by simp [h1], fun k z hz => ?_⟩
    cases k with
    | zero => simp at hz; subst hz; exact ⟨j, ab, rfl, hab, hab'⟩
    | succ k =>
      obtain ⟨j', ab2, q1, q2, q3⟩ := h2 k z (by simpa using hz)
      exact ⟨j', ab2, by simpa using q1, q2, q3⟩
theorem St.gather {M : Mp} {F U : Nat → Prop} {L L' : List AB} {s : List (Nat × AB)} {w : World} {σ : List Nat} (hS : St M F U L s w) (hL : gatherL σ L σ = some L') (hn : nodupB σ = true) : St (M.gather σ) F U L' s w := by
  obtain ⟨hlen, hget⟩ := gatherL_get hL
  have hnd := nodupB_spec hn
  have back : ∀ r ab' b, Here L' s r ab' → (M.gather σ).at_ r = some b → ∃ r0 ab, Here L s r0 ab ∧ M.at_ r0 = some b ∧ (ab' ≠ .dead → ab ≠ .dead) ∧ ((∃ k j, r = .l k ∧ r0 = .l j ∧ σ[k]? = some j ∧ ab.rn (lsel σ) = some ab') ∨ (∃ id, r = .g id ∧ r0 = .g id ∧ ab = ab')) := by
    intro r ab' b hr hm
    cases r with
    | g id => exact ⟨.g id, ab', hr, hm, fun h => h, .inr ⟨id, rfl, rfl, rfl⟩⟩
    | l k =>
      obtain ⟨j, ab, q1, q2, q3⟩ := hget k ab' hr
      refine ⟨.l j, ab, q2, ?_, fun e h => e ((AB.rn_dead q3).2 h), .inl ⟨k, j, rfl, rfl, q1, q3⟩⟩
      simp only [Mp.at_, Mp.gather, q1] at hm
      exact hm
  refine ⟨fun r ab' b hr hm => ?_, fun r r' a1 a2 b h1 h2 d1 d2 m1 m2 => ?_, fun r ab' b hr hd hm => ?_, hS.nd, hS.FU, hS.Ult, fun k hk => ?_, hS.tot, hS.gdom⟩
  · obtain ⟨r0, ab, h1, h2, _, ⟨k, j, rfl, rfl, h5, h6⟩ | ⟨id, rfl, rfl, rfl⟩⟩ := back r ab' b hr hm
    · exact (hS.rb _ ab b h1 h2).rn (via_gather M σ) h6
    · exact hS.rb _ ab b h1 h2
  · obtain ⟨r0, b1, q1, q2, q3, q4⟩ := back r a1 b h1 m1
    obtain ⟨r0', b2, p1, p2, p3, p4⟩ := back r' a2 b h2 m2
    have := hS.inj r0 r0' b1 b2 b q1 p1 (q3 d1) (p3 d2) q2 p2
    subst this
    rcases q4 with ⟨k, j, rfl, rfl, h5, _⟩ | ⟨id, rfl, rfl, _⟩ <;> rcases p4 with ⟨k', j', rfl, e, h5', _⟩ | ⟨id', rfl, e, _⟩ <;> cases e
    · have hk := (List.getElem?_eq_some_iff.1 h5).1
      have := (List.getElem?_inj hk hnd).1 (h5.trans h5'.symm)
      rw [this]
    · rfl
  · obtain ⟨r0, ab, q1, q2, q3, _⟩ := back r ab' b hr hm
    exact hS.nU r0 ab b q1 (q3 hd) q2
  · simp only [Mp.gather]
    rw [List.getElem?_eq_none (by omega)]

/-- The slots that are told on. -/
def tidy (σ : List Nat) (env : Env) : List Nat → Env
  | [] => []
  | t :: r => (t, match (look env t).rn (lsel σ) with
    | some v => v
    | none => .undef) :: tidy σ env r
theorem tidy_rv {M : Mp} {F : Nat → Prop} {w : World} {σ : List Nat} {env : Env} {v : Nat → Value} (h : ∀ t, RV M F w (look env t) (v t)) : ∀ (ts : List Nat) (t : Nat), RV (M.gather σ) F w (look (tidy σ env ts) t) (v t)
  | [], t => .undef _
  | x :: r, t => by
    simp only [tidy, look]
    split
    · rename_i hb
      have := beq_t hb
      subst this
      split
      · rename_i y hy; exact (h x).rn (via_gather M σ) hy
      · exact .undef _
    · exact tidy_rv h r t

theorem Ghost.gather {cx : Ctx} {env : Env} {L L' : List AB} {s : List (Nat × AB)} (σ slots : List Nat) (hL : gatherL σ L σ = some L') (hn : nodupB σ = true) : Ghost cx env L s (tidy σ env slots) L' s := by
  intro z a w M F U hC hZ
  refine ⟨M.gather σ, F, U, ⟨hC.st.gather hL hn, hC.gl, tidy_rv hC.env slots, hC.size, hC.defers⟩, ⟨hZ.g, hZ.FF, hZ.UU, hZ.Fn, hZ.ext, fun k b hb => ?_, hZ.lg, hZ.ids⟩⟩
  simp only [Mp.gather] at hb
  split at hb
  · exact hZ.ll _ b hb
  · cases hb

theorem VC.rounds {P : Program} {cx : Ctx} {c : Code} {env : Env} {L : List AB} {s : List (Nat × AB)} {K : Exit → Env → List AB → List (Nat × AB) → Prop} (I : Nat → Env → List AB → List (Nat × AB) → Prop)
    (h0 : ∃ e2 L2 s2, Ghost cx env L s e2 L2 s2 ∧ ∃ n, I n e2 L2 s2)
    (step : ∀ n env L s, I n env L s → VC P cx c env L s (KThen (fun env' L' s' => ∃ e2 L2 s2, Ghost cx env' L' s' e2 L2 s2 ∧ ∃ m, m < n ∧ I m e2 L2 s2) K)) : VC P cx (.loop c) env L s K := by
  obtain ⟨e2, L2, s2, hg, n, hI⟩ := h0
  refine VC.ghost hg (VC.loop I hI fun n env L s hI => (step n env L s hI).gpost fun e env' L' s' h => ?_)
  cases e with
  | normal => exact h
  | _ => exact ⟨_, _, _, .refl, h⟩
end Go.Pv
