/- The same world told otherwise: places that are wanted no more are dropped, others named anew. -/
import Derived.Test.YtpfmnccocmgfmaaPvQ
namespace Go.Pv
open Go.RowKit

def rnK : List Nat → Nat → Nat → Option Nat
  | [], _, _ => none
  | x :: r, j, k => match Nat.beq x j with
    | true => some k
    | false => rnK r j (k + 1)
theorem rnK_some : ∀ {σ : List Nat} {j k m : Nat}, rnK σ j k = some m → ∃ i, m = k + i ∧ σ[i]? = some j
  | [], j, k, m, h => by simp [rnK] at h
  | x :: r, j, k, m, h => by
    simp only [rnK] at h
    split at h
    · rename_i hb
      cases h
      exact ⟨0, rfl, by rw [beq_t hb]; rfl⟩
    · obtain ⟨i, h1, h2⟩ := rnK_some h
      exact ⟨i + 1, by omega, by simpa using h2⟩
def Rf.rn (σ : List Nat) : Rf → Option Rf
  | .g i => some (.g i)
  | .l j => match rnK σ j 0 with
    | some k => some (.l k)
    | none => none
mutual
def AV.rn (σ : List Nat) : AV → Option AV
  | .d x => some (.d x)
  | .agg cs => match rnL σ cs with
    | some cs => some (.agg cs)
    | none => none
  | .tup cs => match rnL σ cs with
    | some cs => some (.tup cs)
    | none => none
  | .ref r off => match r.rn σ with
    | some r => some (.ref r off)
    | none => none
  | .slc r sz off len => match r.rn σ with
    | some r => some (.slc r sz off len)
    | none => none
  | .el r sz i j => match r.rn σ with
    | some r => some (.el r sz i j)
    | none => none
  | .mp r => match r.rn σ with
    | some r => some (.mp r)
    | none => none
  | .fn f cs => match rnL σ cs with
    | some cs => some (.fn f cs)
    | none => none
  | .ifc t x => match x.rn σ with
    | some x => some (.ifc t x)
    | none => none
  | .undef => some .undef
def rnL (σ : List Nat) : List AV → Option (List AV)
  | [] => some []
  | x :: r => match x.rn σ with
    | some x => match rnL σ r with
      | some r => some (x :: r)
      | none => none
    | none => none
end
/-- What stands behind the new names. -/
def Mp.gather (M : Mp) (σ : List Nat) : Mp := ⟨fun k => match σ[k]? with
  | some j => M.l j
  | none => none, M.g⟩
theorem Rf.rn_at {M : Mp} {σ : List Nat} {r r' : Rf} {b : Nat} (h : r.rn σ = some r') (hm : M.at_ r = some b) : (M.gather σ).at_ r' = some b := by
  cases r with
  | g i => cases h; exact hm
  | l j =>
    simp only [Rf.rn] at h
    split at h <;> cases h
    rename_i k hk
    obtain ⟨i, h1, h2⟩ := rnK_some hk
    simp only [Nat.zero_add] at h1
    subst h1
    simp only [Mp.at_, Mp.gather, h2]
    exact hm
theorem rnL_get {σ : List Nat} : ∀ {cs cs' : List AV}, rnL σ cs = some cs' → cs'.length = cs.length ∧ ∀ (j : Nat) (x' : AV), cs'[j]? = some x' → ∃ x, cs[j]? = some x ∧ x.rn σ = some x'
  | [], cs', h => by
    simp only [rnL, Option.some.injEq] at h
    subst h
    exact ⟨rfl, fun j x h => by simp at h⟩
  | x :: r, cs', h => by
    simp only [rnL] at h
    split at h <;> try cases h
    rename_i y hy
    split at h <;> cases h
    rename_i r' hr
    obtain ⟨h1, h2⟩ := rnL_get hr
    refine ⟨by simp [h1], fun j z hz => ?_⟩
    cases j with
    | zero => simp at hz; subst hz; exact ⟨x, rfl, hy⟩
    | succ j => exact h2 j z (by simpa using hz)
theorem RV.rn {M : Mp} {F : Nat → Prop} {w : World} {σ : List Nat} {x : AV} {v : Value} (h : RV M F w x v) : ∀ {x' : AV}, x.rn σ = some x' → RV (M.gather σ) F w x' v := by
  induction h with
  | d h => intro x' hx; simp only [AV.rn, Option.some.injEq] at hx; subst hx; exact .d h
  | agg cs vs hl h1 h ih =>
    intro x' hx
    simp only [AV.rn] at hx
    split at hx <;> cases hx
    rename_i cs' hcs
    obtain ⟨k1, k2⟩ := rnL_get hcs
    refine .agg cs' vs (by omega) h1 fun j x v hx hv => ?_
    obtain ⟨y, hy, hy'⟩ := k2 j x hx
    exact ih j y v hy hv hy'
  | tup cs vs hl h ih =>
    intro x' hx
    simp only [AV.rn] at hx
    split at hx <;> cases hx
    rename_i cs' hcs
    obtain ⟨k1, k2⟩ := rnL_get hcs
    refine .tup cs' vs (by omega) fun j x v hx hv => ?_
    obtain ⟨y, hy, hy'⟩ := k2 j x hx
    exact ih j y v hy hv hy'
  | ref r off b h =>
    intro x' hx
    simp only [AV.rn] at hx
    split at hx <;> cases hx
    rename_i r' hr
    exact .ref r' off b (Rf.rn_at hr h)
  | slc r sz off len b cap h hc hs =>
    intro x' hx
    simp only [AV.rn] at hx
    split at hx <;> cases hx
    rename_i r' hr
    exact .slc r' sz off len b cap (Rf.rn_at hr h) hc hs
  | el r sz i j b h =>
    intro x' hx
    simp only [AV.rn] at hx
    split at hx <;> cases hx
    rename_i r' hr
    exact .el r' sz i j b (Rf.rn_at hr h)
  | mp r b h =>
    intro x' hx
    simp only [AV.rn] at hx
    split at hx <;> cases hx
    rename_i r' hr
    exact .mp r' b (Rf.rn_at hr h)
  | fn f cs vs hl h ih =>
    intro x' hx
    simp only [AV.rn] at hx
    split at hx <;> cases hx
    rename_i cs' hcs
    obtain ⟨k1, k2⟩ := rnL_get hcs
    refine .fn f cs' vs (by omega) fun j x v hx hv => ?_
    obtain ⟨y, hy, hy'⟩ := k2 j x hx
    exact ih j y v hy hv hy'
  | ifc t x v h ih =>
    intro x' hx
    simp only [AV.rn] at hx
    split at hx <;> cases hx
    rename_i y hy
    exact .ifc t y v (ih hy)
  | undef v => intro x' hx; simp only [AV.rn, Option.some.injEq] at hx; subst hx; exact .undef v

def AB.rn (σ : List Nat) : AB → Option AB
  | .cells cs => match rnL σ cs with
    | some cs => some (.cells cs)
    | none => none
  | .row sz rows => some (.row sz rows)
  | .arow sz rows => some (.arow sz rows)
  | .map es => some (.map es)
  | .dead => some .dead
/-- Rows of values, maps: they name no place of this call's own. -/
def AB.far : AB → Prop
  | .arow _ rows => ∀ r ∈ rows, clL r = true
  | .map es => ∀ e ∈ es, e.1.cl = true ∧ e.2.cl = true
  | _ => True
def gatherL (σ : List Nat) (L : List AB) : List Nat → Option (List AB)
  | [] => some []
  | j :: r => match L[j]? with
    | some ab => match ab.rn σ with
      | some ab => match gatherL σ L r with
        | some r => some (ab :: r)
        | none => none
      | none => none
    | none => none
def farL : List AB → Prop
  | [] => True
  | ab :: r => ab.far ∧ farL r
def nodupB : List Nat → Bool
  | [] => true
  | x :: r => !memN x r && nodupB r
theorem memN_mem {t : Nat} : ∀ {l : List Nat}, t ∈ l → memN t l = true
  | [], h => by simp at h
  | x :: r, h => by
    simp only [memN]
    rcases List.mem_cons.1 h with rfl | h
    · simp
    · simp [memN_mem h]
theorem nodupB_spec : ∀ {l : List Nat}, nodupB l = true → l.Nodup
  | [], _ => .nil
  | x :: r, h => by
    simp only [nodupB, Bool.and_eq_true, Bool.not_eq_true'] at h
    refine List.nodup_cons.2 ⟨fun hm => ?_, nodupB_spec h.2⟩
    rw [memN_mem hm] at h
    cases h.1
theorem gatherL_get {σ : List Nat} {L : List AB} : ∀ {τ : List Nat} {L' : List AB}, gatherL σ L τ = some L' → L'.length = τ.length ∧ ∀ (k : Nat) (ab' : AB), L'[k]? = some ab' → ∃ j ab, τ[k]? = some j ∧ L[j]? = some ab ∧ ab.rn σ = some ab'
  | [], L', h => by
    simp only [gatherL, Option.some.injEq] at h
    subst h
    exact ⟨rfl, fun k ab h => by simp at h⟩
  | j :: r, L', h => by
    simp only [gatherL] at h
    split at h <;> try cases h
    rename_i ab hab
    split at h <;> try cases h
    rename_i ab' hab'
    split at h <;> cases h
    rename_i r' hr
    obtain ⟨h1, h2⟩ := gatherL_get hr
    refine ⟨by simp [h1], fun k z hz => ?_⟩
    cases k with
    | zero => simp at hz; subst hz; exact ⟨j, ab, rfl, hab, hab'⟩
    | succ k =>
      obtain ⟨j', ab2, q1, q2, q3⟩ := h2 k z (by simpa using hz)
      exact ⟨j', ab2, by simpa using q1, q2, q3⟩
theorem farL_get : ∀ {L : List AB} {k : Nat} {ab : AB}, farL L → L[k]? = some ab → ab.far
  | [], k, ab, _, h => by simp at h
  | x :: r, 0, ab, h, hx => by simp at hx; subst hx; exact h.1
  | x :: r, k + 1, ab, h, hx => farL_get h.2 (by simpa using hx)

theorem RB.rn {M : Mp} {F : Nat → Prop} {w : World} {σ : List Nat} {b : Nat} {ab ab' : AB} (h : RB M F w b ab) (hr : ab.rn σ = some ab') (hf : ab'.far) : RB (M.gather σ) F w b ab' := by
  have hglo : ∀ r c, M.glo.at_ r = some c → (M.gather σ).at_ r = some c := fun r c h => by
    cases r with
    | l k => cases h
    | g i => exact h
  have hcl : ∀ {x : AV} {v : Value}, x.cl = true → RV M F w x v → RV (M.gather σ) F w x v := fun hc h => (h.closed hc).mono hglo (fun _ h => h) (fun b hb => hb) (.refl F w)
  cases ab with
  | cells cs =>
    simp only [AB.rn] at hr
    split at hr <;> cases hr
    rename_i cs' hcs
    obtain ⟨k1, k2⟩ := rnL_get hcs
    obtain ⟨arr, t, h1, h2, h3⟩ := h
    refine ⟨arr, t, h1, by omega, fun j x v hx hv => ?_⟩
    obtain ⟨y, hy, hy'⟩ := k2 j x hx
    exact ⟨(h3 j y v hy hv).1, (h3 j y v hy hv).2.rn hy'⟩
  | row sz rows => cases hr; exact h
  | arow sz rows =>
    cases hr
    obtain ⟨arr, t, h1, h2, h3, h4, h5⟩ := h
    exact ⟨arr, t, h1, h2, h3, h4, fun i r j x v hi hj hv => hcl (clL_at (hf r (List.mem_of_getElem? hi)) hj) (h5 i r j x v hi hj hv)⟩
  | map es =>
    cases hr
    obtain ⟨ents, clock, h1, h2, h3, h4⟩ := h
    exact ⟨ents, clock, h1, h2, fun i e x he hx => ⟨hcl (hf x (List.mem_of_getElem? hx)).1 (h3 i e x he hx).1, hcl (hf x (List.mem_of_getElem? hx)).2 (h3 i e x he hx).2⟩, h4⟩
  | dead => cases hr; trivial
theorem AB.rn_dead {σ : List Nat} {ab ab' : AB} (hr : ab.rn σ = some ab') (hd : ab' ≠ .dead) : ab ≠ .dead := by
  rintro rfl
  cases hr
  exact hd rfl
theorem St.gather {M : Mp} {F U : Nat → Prop} {L L' : List AB} {s : List (Nat × AB)} {w : World} {σ : List Nat} (hS : St M F U L s w) (hL : gatherL σ L σ = some L') (hn : nodupB σ = true) (hf : farL L') : St (M.gather σ) F U L' s w := by
  obtain ⟨hlen, hget⟩ := gatherL_get hL
  have hnd := nodupB_spec hn
  have back : ∀ r ab' b, Here L' s r ab' → (M.gather σ).at_ r = some b → ∃ r0 ab, Here L s r0 ab ∧ M.at_ r0 = some b ∧ (ab' ≠ .dead → ab ≠ .dead) ∧ ((∃ k j, r = .l k ∧ r0 = .l j ∧ σ[k]? = some j ∧ ab.rn σ = some ab') ∨ (∃ id, r = .g id ∧ r0 = .g id ∧ ab = ab')) := by
    intro r ab' b hr hm
    cases r with
    | g id => exact ⟨.g id, ab', hr, hm, fun h => h, .inr ⟨id, rfl, rfl, rfl⟩⟩
    | l k =>
      obtain ⟨j, ab, q1, q2, q3⟩ := hget k ab' hr
      refine ⟨.l j, ab, q2, ?_, AB.rn_dead q3, .inl ⟨k, j, rfl, rfl, q1, q3⟩⟩
      simp only [Mp.at_, Mp.gather, q1] at hm
      exact hm
  refine ⟨fun r ab' b hr hm => ?_, fun r r' a1 a2 b h1 h2 d1 d2 m1 m2 => ?_, fun r ab' b hr hd hm => ?_, hS.nd, hS.FU, hS.Ult, fun k hk => ?_, hS.tot⟩
  · obtain ⟨r0, ab, h1, h2, _, ⟨k, j, rfl, rfl, h5, h6⟩ | ⟨id, rfl, rfl, rfl⟩⟩ := back r ab' b hr hm
    · exact (hS.rb _ ab b h1 h2).rn h6 (farL_get hf hr)
    · exact hS.rb _ ab b h1 h2
  · obtain ⟨r0, b1, q1, q2, q3, q4⟩ := back r a1 b h1 m1
    obtain ⟨r0', b2, p1, p2, p3, p4⟩ := back r' a2 b h2 m2
    have := hS.inj r0 r0' b1 b2 b q1 p1 (q3 d1) (p3 d2) q2 p2
    subst this
    rcases q4 with ⟨k, j, rfl, rfl, h5, _⟩ | ⟨id, rfl, rfl, _⟩ <;> rcases p4 with ⟨k', j', rfl, e, h5', _⟩ | ⟨id', rfl, e, _⟩ <;> cases e
    · have hk := (List.getElem?_eq_some_iff.1 h5).1
      have := (List.getElem?_inj hk hnd).1 (h5.trans h5'.symm)
      rw [this]
    · rfl
  · obtain ⟨r0, ab, q1, q2, q3, _⟩ := back r ab' b hr hm
    exact hS.nU r0 ab b q1 (q3 hd) q2
  · simp only [Mp.gather]
    rw [List.getElem?_eq_none (by omega)]

/-- The slots that are told on. -/
def tidy (σ : List Nat) (env : Env) : List Nat → Env
  | [] => []
  | t :: r => (t, match (look env t).rn σ with
    | some v => v
    | none => .undef) :: tidy σ env r
theorem tidy_rv {M : Mp} {F : Nat → Prop} {w : World} {σ : List Nat} {env : Env} {v : Nat → Value} (h : ∀ t, RV M F w (look env t) (v t)) : ∀ (ts : List Nat) (t : Nat), RV (M.gather σ) F w (look (tidy σ env ts) t) (v t)
  | [], t => .undef _
  | x :: r, t => by
    simp only [tidy, look]
    split
    · rename_i hb
      have := beq_t hb
      subst this
      split
      · rename_i y hy; exact (h x).rn hy
      · exact .undef _
    · exact tidy_rv h r t

theorem Ghost.gather {cx : Ctx} {env : Env} {L L' : List AB} {s : List (Nat × AB)} (σ slots : List Nat) (hL : gatherL σ L σ = some L') (hn : nodupB σ = true) (hf : farL L') : Ghost cx env L s (tidy σ env slots) L' s := by
  intro z a w M F U hC hZ
  refine ⟨M.gather σ, F, U, ⟨hC.st.gather hL hn hf, hC.gl, tidy_rv hC.env slots, hC.size, hC.defers⟩, ⟨hZ.g, hZ.FF, hZ.UU, hZ.Fn, hZ.ext, fun k b hb => ?_, hZ.lg, hZ.ids⟩⟩
  simp only [Mp.gather] at hb
  split at hb
  · exact hZ.ll _ b hb
  · cases hb

theorem VC.rounds {P : Program} {cx : Ctx} {c : Code} {env : Env} {L : List AB} {s : List (Nat × AB)} {K : Exit → Env → List AB → List (Nat × AB) → Prop} (I : Nat → Env → List AB → List (Nat × AB) → Prop)
    (h0 : ∃ e2 L2 s2, Ghost cx env L s e2 L2 s2 ∧ ∃ n, I n e2 L2 s2)
    (step : ∀ n env L s, I n env L s → VC P cx c env L s (KThen (fun env' L' s' => ∃ e2 L2 s2, Ghost cx env' L' s' e2 L2 s2 ∧ ∃ m, m < n ∧ I m e2 L2 s2) K)) : VC P cx (.loop c) env L s K := by
  obtain ⟨e2, L2, s2, hg, n, hI⟩ := h0
  refine VC.ghost hg (VC.loop I hI fun n env L s hI => (step n env L s hI).gpost fun e env' L' s' h => ?_)
  cases e with
  | normal => exact h
  | _ => exact ⟨_, _, _, .refl, h⟩
end Go.Pv
