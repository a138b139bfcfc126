/- What a call comes to ('Contract'), and how a caller meets it: what the callee was not told of stays as it is. -/
import Derived.Test.YtkenimmellonjaaPvD
import Derived.Test.YtkenimmellonjaaPvA2
namespace Go.Pv
open Go.RowKit

/-- A live block of what was told. -/
def LiveG (g : Nat → Option Nat) (s : List (Nat × AB)) (b : Nat) : Prop := ∃ id ab, (id, ab) ∈ s ∧ ab ≠ .dead ∧ g id = some b

/-- Called with these arguments, told of s, it returns; R tells what, and what s is then. -/
def Callee (P : Program) (f : Nat) : Prop := ∀ args w, (callFunc f args).run P w = .ok (.enter f args) w
def Contract (P : Program) (G : Gl) (f : Nat) (args : List AV) (s : List (Nat × AB)) (R : AV → List (Nat × AB) → Prop) : Prop := Callee P f ∧
  ∀ (g : Nat → Option Nat) (F U : Nat → Prop) (w : World) (vals : List Value), St ⟨fun _ => none, g⟩ F U [] s w → Glob G F w → vals.length = args.length →
    (∀ (j : Nat) (x : AV) (v : Value), args[j]? = some x → vals[j]? = some v → RV ⟨fun _ => none, g⟩ F w x v) →
    Calls P f vals.toArray w fun e w' => ∃ v res s' g' F' U', e = .returned v ∧ R res s' ∧ (∀ id b, g id = some b → g' id = some b) ∧ (∀ id ab, (id, ab) ∈ s' → (∃ ab0, (id, ab0) ∈ s) ∨ g id = none) ∧
      (∀ b, F b → F' b) ∧ (∀ b, U b → U' b) ∧ (∀ b, F' b → F b ∨ w.heap.size ≤ b ∨ LiveG g s b) ∧ Ext U w w' ∧ St ⟨fun _ => none, g'⟩ F' U' [] s' w' ∧ RV ⟨fun _ => none, g'⟩ F' w' res v

theorem Contract.mono {P : Program} {G : Gl} {f : Nat} {args : List AV} {s : List (Nat × AB)} {R R' : AV → List (Nat × AB) → Prop} (h : Contract P G f args s R) (hR : ∀ r t, R r t → R' r t) : Contract P G f args s R' :=
  ⟨h.1, fun g F U w vals hS hG hl hv => (h.2 g F U w vals hS hG hl hv).mono fun _ _ ⟨v, res, s', g', F', U', he, hr, rest⟩ => ⟨v, res, s', g', F', U', he, hR _ _ hr, rest⟩⟩

/-! ### What a caller tells its callee of: objects by their places in a list -/
def rnK : List Nat → Nat → Nat → Option Nat
  | [], _, _ => none
  | x :: r, j, k => match Nat.beq x j with
    | true => some k
    | false => rnK r j (k + 1)
theorem rnK_some : ∀ {σ : List Nat} {j k m : Nat}, rnK σ j k = some m → ∃ i, m = k + i ∧ σ[i]? = some j
  | [], j, k, m, h => by simp [rnK] at h
  | x :: r, j, k, m, h => by
    simp only [rnK] at h
    split at h
    · rename_i hb
      cases h
      exact ⟨0, rfl, by rw [Nat.eq_of_beq_eq_true hb]; rfl⟩
    · obtain ⟨i, h1, h2⟩ := rnK_some h
      exact ⟨i + 1, by omega, by simpa using h2⟩
theorem rnK_none : ∀ {σ : List Nat} {j k : Nat}, rnK σ j k = none → ∀ i : Nat, σ[i]? ≠ some j
  | [], j, k, _, i => by simp
  | x :: r, j, k, h, i => by
    simp only [rnK] at h
    split at h
    · cases h
    · rename_i hb
      cases i with
      | zero => simp; exact Nat.ne_of_beq_eq_false hb
      | succ i => simpa using rnK_none h i
theorem rnK_nodup {σ : List Nat} {i j : Nat} (hn : σ.Nodup) (h : σ[i]? = some j) : rnK σ j 0 = some i := by
  cases hr : rnK σ j 0 with
  | none => exact absurd h (rnK_none hr i)
  | some m =>
    obtain ⟨i', h1, h2⟩ := rnK_some hr
    have hi := (List.getElem?_eq_some_iff.1 h).1
    have := (List.getElem?_inj hi hn).1 (h.trans h2.symm)
    subst this
    simp [h1]
def memB (t : Nat) : List Nat → Bool
  | [] => false
  | x :: r => Nat.beq x t || memB t r
def nodupB : List Nat → Bool
  | [] => true
  | x :: r => !memB x r && nodupB r
theorem memB_mem {t : Nat} : ∀ {l : List Nat}, t ∈ l → memB t l = true
  | [], h => by simp at h
  | x :: r, h => by
    simp only [memB]
    rcases List.mem_cons.1 h with rfl | h
    · simp
    · simp [memB_mem h]
theorem nodupB_spec : ∀ {l : List Nat}, nodupB l = true → l.Nodup
  | [], _ => .nil
  | x :: r, h => by
    simp only [nodupB, Bool.and_eq_true, Bool.not_eq_true'] at h
    refine List.nodup_cons.2 ⟨fun hm => ?_, nodupB_spec h.2⟩
    rw [memB_mem hm] at h
    cases h.1
def toF (ρ : List Nat) : Rf → Option Rf
  | .g id => match rnK ρ id 0 with
    | some i => some (.g i)
    | none => none
  | .l _ => none
def frF (ρ : List Nat) : Rf → Option Rf
  | .g i => match ρ[i]? with
    | some id => some (.g id)
    | none => none
  | .l _ => none
def sfind : List (Nat × AB) → Nat → Option AB
  | [], _ => none
  | (i, x) :: r, j => match Nat.beq i j with
    | true => some x
    | false => sfind r j
theorem sfind_mem : ∀ {s : List (Nat × AB)} {j : Nat} {x : AB}, sfind s j = some x → (j, x) ∈ s
  | [], j, x, h => by simp [sfind] at h
  | (i, y) :: r, j, x, h => by
    simp only [sfind] at h
    split at h
    · rename_i hb
      cases h
      rw [Nat.eq_of_beq_eq_true hb]
      simp
    · exact List.mem_cons_of_mem _ (sfind_mem h)
theorem sfind_none : ∀ {s : List (Nat × AB)} {j : Nat}, sfind s j = none → ∀ x, (j, x) ∉ s
  | [], j, _, x => by simp
  | (i, y) :: r, j, h, x => by
    simp only [sfind] at h
    split at h
    · cases h
    · rename_i hb
      have := Nat.ne_of_beq_eq_false hb
      intro hm
      rcases List.mem_cons.1 hm with e | hm
      · cases e; exact this rfl
      · exact sfind_none h x hm
def sput : List (Nat × AB) → Nat → AB → List (Nat × AB)
  | [], n, ab => [(n, ab)]
  | (m, x) :: r, n, ab => match Nat.beq m n with
    | true => (m, ab) :: r
    | false => (m, x) :: sput r n ab
theorem sput_spec : ∀ {s : List (Nat × AB)} {n : Nat} {ab : AB}, (s.map (·.1)).Nodup → ((sput s n ab).map (·.1)).Nodup ∧ (∀ m x, (m, x) ∈ sput s n ab → (m = n ∧ x = ab) ∨ (m ≠ n ∧ (m, x) ∈ s)) ∧ (∀ m, m ∈ (sput s n ab).map (·.1) ↔ m = n ∨ m ∈ s.map (·.1))
  | [], n, ab, _ => by simp [sput]
  | (m, x) :: r, n, ab, h => by
    simp only [List.map_cons, List.nodup_cons] at h
    simp only [sput]
    split
    · rename_i hb
      have := Nat.eq_of_beq_eq_true hb
      subst this
      refine ⟨by simpa using h, fun k y hk => ?_, fun k => by simp⟩
      rcases List.mem_cons.1 hk with e | hk
      · cases e; exact .inl ⟨rfl, rfl⟩
      · refine .inr ⟨fun e => ?_, List.mem_cons_of_mem _ hk⟩
        rw [e] at hk
        exact h.1 (List.mem_map.2 ⟨_, hk, rfl⟩)
    · rename_i hb
      have hne := Nat.ne_of_beq_eq_false hb
      obtain ⟨k1, k2, k3⟩ := sput_spec (n := n) (ab := ab) h.2
      refine ⟨?_, fun k y hk => ?_, fun k => ?_⟩
      · simp only [List.map_cons, List.nodup_cons]
        refine ⟨fun hm => ?_, k1⟩
        rcases (k3 m).1 hm with e | hm
        · exact hne e
        · exact h.1 hm
      · rcases List.mem_cons.1 hk with e | hk
        · cases e; exact .inr ⟨hne, by simp⟩
        · rcases k2 k y hk with q | ⟨q1, q2⟩
          · exact .inl q
          · exact .inr ⟨q1, List.mem_cons_of_mem _ q2⟩
      · simp only [List.map_cons, List.mem_cons, k3]
        constructor
        · rintro (h | h | h)
          · exact .inr (.inl h)
          · exact .inl h
          · exact .inr (.inr h)
        · rintro (h | h | h)
          · exact .inr (.inl h)
          · exact .inl h
          · exact .inr (.inr h)
def selS (ρ : List Nat) (s : List (Nat × AB)) : List Nat → Nat → Option (List (Nat × AB))
  | [], _ => some []
  | id :: r, i => match sfind s id with
    | some ab => match ab.rn (toF ρ) with
      | some ab => match selS ρ s r (i + 1) with
        | some l => some ((i, ab) :: l)
        | none => none
      | none => none
    | none => none
theorem selS_get {ρ : List Nat} {s : List (Nat × AB)} : ∀ {τ : List Nat} {i : Nat} {s0 : List (Nat × AB)}, selS ρ s τ i = some s0 → s0.map (·.1) = List.range' i τ.length ∧ ∀ m ab', (m, ab') ∈ s0 → ∃ j id ab, m = i + j ∧ τ[j]? = some id ∧ (id, ab) ∈ s ∧ ab.rn (toF ρ) = some ab'
  | [], i, s0, h => by simp only [selS, Option.some.injEq] at h; subst h; simp
  | id :: r, i, s0, h => by
    simp only [selS] at h
    split at h <;> try cases h
    rename_i ab hab
    split at h <;> try cases h
    rename_i ab' hab'
    split at h <;> cases h
    rename_i l hl
    obtain ⟨h1, h2⟩ := selS_get hl
    refine ⟨by simp [h1, List.range'_succ], fun m x hx => ?_⟩
    rcases List.mem_cons.1 hx with e | hx
    · cases e; exact ⟨0, id, ab, rfl, rfl, sfind_mem hab, hab'⟩
    · obtain ⟨j, id', ab2, q1, q2, q3, q4⟩ := h2 m x hx
      exact ⟨j + 1, id', ab2, by omega, by simpa using q2, q3, q4⟩
/-- What is told of behind the call: what the callee tells, by the caller's names. -/
def putS (ρ : List Nat) : List (Nat × AB) → List (Nat × AB) → Option (List (Nat × AB))
  | [], s => some s
  | (i, ab) :: r, s => match ρ[i]? with
    | some id => match ab.rn (frF ρ) with
      | some ab => match ab.clB with
        | true => putS ρ r (sput s id ab)
        | false => none
      | none => none
    | none => putS ρ r s
theorem putS_spec {ρ : List Nat} (hn : ρ.Nodup) : ∀ {l s s' : List (Nat × AB)}, putS ρ l s = some s' → (l.map (·.1)).Nodup → (s.map (·.1)).Nodup → (s'.map (·.1)).Nodup ∧
    (∀ id ab, (id, ab) ∈ s' → (∃ i ab0, ρ[i]? = some id ∧ (i, ab0) ∈ l ∧ ab0.rn (frF ρ) = some ab ∧ ab.clB = true) ∨ ((∀ i ab0, (i, ab0) ∈ l → ρ[i]? ≠ some id) ∧ (id, ab) ∈ s)) ∧
    ∀ id, id ∈ s'.map (·.1) ↔ id ∈ s.map (·.1) ∨ ∃ i ab0, (i, ab0) ∈ l ∧ ρ[i]? = some id
  | [], s, s', h, _, hs => by
    simp only [putS, Option.some.injEq] at h
    subst h
    exact ⟨hs, fun id ab h => .inr ⟨fun i ab0 h => by simp at h, h⟩, fun id => by simp⟩
  | (i, ab) :: r, s, s', h, hl, hs => by
    simp only [List.map_cons, List.nodup_cons] at hl
    simp only [putS] at h
    have hother : ∀ id, ρ[i]? = some id → ∀ j ab0, (j, ab0) ∈ r → ρ[j]? ≠ some id := fun id hid j ab0 hj e => by
      have hi := (List.getElem?_eq_some_iff.1 hid).1
      have := (List.getElem?_inj hi hn).1 (hid.trans e.symm)
      subst this
      exact hl.1 (List.mem_map.2 ⟨_, hj, rfl⟩)
    split at h
    · rename_i id hid
      split at h <;> try cases h
      rename_i ab' hab'
      split at h <;> try cases h
      rename_i hcl
      obtain ⟨p1, p2, p3⟩ := sput_spec (n := id) (ab := ab') hs
      obtain ⟨q1, q2, q3⟩ := putS_spec hn h hl.2 p1
      refine ⟨q1, fun id2 x hx => ?_, fun id2 => ?_⟩
      · rcases q2 id2 x hx with ⟨j, ab0, k1, k2, k3⟩ | ⟨k1, k2⟩
        · exact .inl ⟨j, ab0, k1, List.mem_cons_of_mem _ k2, k3⟩
        · rcases p2 id2 x k2 with ⟨rfl, rfl⟩ | ⟨hne, hm⟩
          · exact .inl ⟨i, ab, hid, by simp, hab', hcl⟩
          · refine .inr ⟨fun j ab0 hj => ?_, hm⟩
            rcases List.mem_cons.1 hj with e | hj
            · cases e; rw [hid]; intro e; cases e; exact hne rfl
            · exact k1 j ab0 hj
      · rw [q3, p3]
        constructor
        · rintro ((rfl | h) | ⟨j, ab0, h1, h2⟩)
          · exact .inr ⟨i, ab, by simp, hid⟩
          · exact .inl h
          · exact .inr ⟨j, ab0, List.mem_cons_of_mem _ h1, h2⟩
        · rintro (h | ⟨j, ab0, h1, h2⟩)
          · exact .inl (.inr h)
          · rcases List.mem_cons.1 h1 with e | h1
            · cases e; rw [hid] at h2; cases h2; exact .inl (.inl rfl)
            · exact .inr ⟨j, ab0, h1, h2⟩
    · rename_i hid
      obtain ⟨q1, q2, q3⟩ := putS_spec hn h hl.2 hs
      refine ⟨q1, fun id2 x hx => ?_, fun id2 => ?_⟩
      · rcases q2 id2 x hx with ⟨j, ab0, k1, k2, k3⟩ | ⟨k1, k2⟩
        · exact .inl ⟨j, ab0, k1, List.mem_cons_of_mem _ k2, k3⟩
        · refine .inr ⟨fun j ab0 hj => ?_, k2⟩
          rcases List.mem_cons.1 hj with e | hj
          · cases e; rw [hid]; simp
          · exact k1 j ab0 hj
      · rw [q3]
        constructor
        · rintro (h | ⟨j, ab0, h1, h2⟩)
          · exact .inl h
          · exact .inr ⟨j, ab0, List.mem_cons_of_mem _ h1, h2⟩
        · rintro (h | ⟨j, ab0, h1, h2⟩)
          · exact .inl h
          · rcases List.mem_cons.1 h1 with e | h1
            · cases e; rw [hid] at h2; cases h2
            · exact .inr ⟨j, ab0, h1, h2⟩

def allNew (s : List (Nat × AB)) : List Nat → Bool
  | [] => true
  | n :: r => (sfind s n).isNone && allNew s r
theorem allNew_spec {s : List (Nat × AB)} : ∀ {τ : List Nat}, allNew s τ = true → ∀ n ∈ τ, ∀ ab, (n, ab) ∉ s
  | [], _, n, hn => by simp at hn
  | m :: r, h, n, hn => by
    simp only [allNew, Bool.and_eq_true, Option.isNone_iff_eq_none] at h
    rcases List.mem_cons.1 hn with rfl | hn
    · exact sfind_none h.1
    · exact allNew_spec h.2 n hn
/-- The callee tells of all that it was told of. -/
def covers (s1 : List (Nat × AB)) : Nat → Bool
  | 0 => true
  | n + 1 => (sfind s1 n).isSome && covers s1 n
theorem covers_spec {s1 : List (Nat × AB)} : ∀ {n : Nat}, covers s1 n = true → ∀ i, i < n → ∃ ab, (i, ab) ∈ s1
  | 0, _, i, hi => by omega
  | n + 1, h, i, hi => by
    simp only [covers, Bool.and_eq_true, Option.isSome_iff_exists] at h
    rcases Nat.lt_or_ge i n with q | q
    · exact covers_spec h.2 i q
    · obtain ⟨ab, hab⟩ := h.1
      have : i = n := by omega
      subst this
      exact ⟨ab, sfind_mem hab⟩

structure CallEff (M : Mp) (F U : Nat → Prop) (L : List AB) (s : List (Nat × AB)) (w : World) (g0 : Nat → Option Nat) (s0 : List (Nat × AB)) (s' : List (Nat × AB)) (v : AV) (val : Value) (M' : Mp) (F' U' : Nat → Prop) (w' : World) : Prop where
  le : M.Le M'
  l : M'.l = M.l
  FF : ∀ b, F b → F' b
  UU : ∀ b, U b → U' b
  Fn : ∀ b, F' b → F b ∨ w.heap.size ≤ b ∨ LiveG g0 s0 b
  Un : ∀ b, U' b → U b ∨ F' b
  live : ∀ b, LiveG g0 s0 b → LiveG M.g s b
  ext : Ext (fun b => b < w.heap.size ∧ ¬ LiveG g0 s0 b) w w'
  st : St M' F' U' L s' w'
  rv : RV M' F' w' v val
  lg : ∀ id ab b, (id, ab) ∈ s' → ab ≠ .dead → M'.g id = some b → w.heap.size ≤ b ∨ LiveG M.g s b
  ids : ∀ id ab, (id, ab) ∈ s' → (∃ ab0, (id, ab0) ∈ s) ∨ M.g id = none

theorem call_core {P : Program} {G : Gl} {f : Nat} {args : List AV} {s0 : List (Nat × AB)} {R : AV → List (Nat × AB) → Prop} (hC : Contract P G f args s0 R)
    {M : Mp} {F U : Nat → Prop} {L : List AB} {s : List (Nat × AB)} {w : World} {vals : List Value} (hS : St M F U L s w) (hG : Glob G F w) {ρ : List Nat} (hsel : selS ρ s ρ 0 = some s0) (hnd : nodupB ρ = true) (hl : vals.length = args.length)
    (hv : ∀ (j : Nat) (x : AV) (v : Value), args[j]? = some x → vals[j]? = some v → RV ⟨fun _ => none, fun (i : Nat) => (ρ[i]?).bind M.g⟩ F w x v) :
    Calls P f vals.toArray w fun e w' => ∃ v res s1, e = .returned v ∧ R res s1 ∧ ∀ (τ : List Nat) (s' : List (Nat × AB)) (res' : AV), nodupB (ρ ++ τ) = true → allNew s τ = true → covers s1 ρ.length = true → putS (ρ ++ τ) s1 s = some s' → res.rn (frF (ρ ++ τ)) = some res' →
      ∃ M' F' U', CallEff M F U L s w (fun (i : Nat) => (ρ[i]?).bind M.g) s0 s' res' v M' F' U' w' := by
  have hρ := nodupB_spec hnd
  obtain ⟨hids0, hget0⟩ := selS_get hsel
  generalize hg0 : (fun (i : Nat) => (ρ[i]?).bind M.g) = g0 at *
  have g0_eq : ∀ i : Nat, g0 i = (ρ[i]?).bind M.g := fun i => by rw [← hg0]
  have hvia : Mp.Via (toF ρ) M ⟨fun _ => none, g0⟩ := fun r r' b hr hm => by
    cases r with
    | l k => cases hr
    | g id =>
      simp only [toF] at hr
      split at hr <;> cases hr
      rename_i i hi
      obtain ⟨i', h1, h2⟩ := rnK_some hi
      simp only [Nat.zero_add] at h1
      subst h1
      simp only [Mp.at_] at hm ⊢
      rw [g0_eq, h2]
      exact hm
  have hin : ∀ i ab', (i, ab') ∈ s0 → ∃ id ab, ρ[i]? = some id ∧ (id, ab) ∈ s ∧ ab.rn (toF ρ) = some ab' ∧ g0 i = M.g id := fun i ab' h => by
    obtain ⟨j, id, ab, h1, h2, h3, h4⟩ := hget0 i ab' h
    simp only [Nat.zero_add] at h1
    subst h1
    exact ⟨id, ab, h2, h3, h4, by rw [g0_eq, h2]; rfl⟩
  have hlive : ∀ b, LiveG g0 s0 b → ∃ id ab, (id, ab) ∈ s ∧ ab ≠ .dead ∧ M.g id = some b ∧ id ∈ ρ := by
    rintro b ⟨i, ab', h1, h2, h3⟩
    obtain ⟨id, ab, k1, k2, k3, k4⟩ := hin i ab' h1
    exact ⟨id, ab, k2, fun e => h2 ((AB.rn_dead k3).2 e), by rw [← k4]; exact h3, List.mem_of_getElem? k1⟩
  have hUc : ∀ b, U b → b < w.heap.size ∧ ¬ LiveG g0 s0 b := fun b hb => ⟨hS.Ult b hb, fun h => by
    obtain ⟨id, ab, h1, h2, h3, _⟩ := hlive b h
    exact hS.nU (.g id) ab b h1 h2 h3 hb⟩
  have hS0 : St ⟨fun _ => none, g0⟩ F (fun b => b < w.heap.size ∧ ¬ LiveG g0 s0 b) [] s0 w := by
    refine ⟨fun r ab b hr hm => ?_, fun r r' a1 a2 b h1 h2 d1 d2 m1 m2 => ?_, fun r ab b h1 d1 m1 hu => ?_, by rw [hids0]; exact List.nodup_range', fun b hb => hUc b (hS.FU b hb), fun b hb => hb.1, fun _ _ => rfl, fun i ab h => ?_, fun i h => ?_⟩
    · cases r with
      | l k => simp [Here] at hr
      | g i =>
        obtain ⟨id, ab0, k1, k2, k3, k4⟩ := hin i ab hr
        have hm' : M.g id = some b := by rw [← k4]; exact hm
        exact ((hS.rb (.g id) ab0 b k2 hm').mono (M.sub_le _) (fun _ h => h) hS.FU (.refl _ _) (fun _ => rfl)).rn hvia k3
    · cases r with
      | l k => simp [Here] at h1
      | g i =>
        cases r' with
        | l k => simp [Here] at h2
        | g i' =>
          obtain ⟨id, ab0, k1, k2, k3, k4⟩ := hin i a1 h1
          obtain ⟨id', ab0', p1, p2, p3, p4⟩ := hin i' a2 h2
          have := hS.inj (.g id) (.g id') ab0 ab0' b k2 p2 (fun e => d1 ((AB.rn_dead k3).2 e)) (fun e => d2 ((AB.rn_dead p3).2 e)) (by rw [← show g0 i = M.at_ (.g id) from k4]; exact m1) (by rw [← show g0 i' = M.at_ (.g id') from p4]; exact m2)
          cases this
          have hi := (List.getElem?_eq_some_iff.1 k1).1
          rw [(List.getElem?_inj hi hρ).1 (k1.trans p1.symm)]
    · cases r with
      | l k => simp [Here] at h1
      | g i => exact hu.2 ⟨i, ab, h1, d1, m1⟩
    · obtain ⟨id, ab0, k1, k2, k3, k4⟩ := hin i ab h
      obtain ⟨b, hb⟩ := hS.tot id ab0 k2
      exact ⟨b, by simp only [k4, hb]⟩
    · simp only [g0_eq]
      cases hi : ρ[i]? with
      | none => rfl
      | some id =>
        exfalso
        have : i ∈ s0.map (·.1) := by
          rw [hids0]
          have := (List.getElem?_eq_some_iff.1 hi).1
          simp [List.mem_range']
          exact this
        obtain ⟨⟨i', ab⟩, h1, h2⟩ := List.mem_map.1 this
        simp only at h2
        subst h2
        exact h ab h1
  refine (hC.2 g0 F _ w vals hS0 hG hl hv).mono ?_
  rintro e w' ⟨v, res, s1, g', F', Uc', rfl, hR, hg, hnew, hFF, hUU, hFn, hX, hS1, hrv⟩
  refine ⟨v, res, s1, rfl, hR, fun τ s' res' hnd2 hfr hcov hput hres => ?_⟩
  have hρ2 := nodupB_spec hnd2
  have hfresh := allNew_spec hfr
  have hcov := covers_spec hcov
  obtain ⟨q1, q2, q3⟩ := putS_spec hρ2 hput hS1.nd hS.nd
  -- the caller's names
  let M' : Mp := ⟨M.l, fun id => match rnK (ρ ++ τ) id 0 with
    | some i => g' i
    | none => M.g id⟩
  have hM'at : ∀ {i id : Nat}, (ρ ++ τ)[i]? = some id → M'.g id = g' i := fun {i id} h => by
    show (match rnK (ρ ++ τ) id 0 with | some i => g' i | none => M.g id) = g' i
    rw [rnK_nodup hρ2 h]
  have hM'none : ∀ {id : Nat}, rnK (ρ ++ τ) id 0 = none → M'.g id = M.g id := fun {id} h => by
    show (match rnK (ρ ++ τ) id 0 with | some i => g' i | none => M.g id) = M.g id
    rw [h]
  have hidx : ∀ {i id : Nat}, (ρ ++ τ)[i]? = some id → (i < ρ.length ∧ ρ[i]? = some id) ∨ (ρ.length ≤ i ∧ id ∈ τ) := fun {i id} h => by
    rcases Nat.lt_or_ge i ρ.length with q | q
    · rw [List.getElem?_append_left q] at h; exact .inl ⟨q, h⟩
    · rw [List.getElem?_append_right q] at h; exact .inr ⟨q, List.mem_of_getElem? h⟩
  have hle : M.Le M' := fun r b h => by
    cases r with
    | l k => exact h
    | g id =>
      simp only [Mp.at_] at h ⊢
      cases hr : rnK (ρ ++ τ) id 0 with
      | none => rw [hM'none hr]; exact h
      | some i =>
        obtain ⟨i', h1, h2⟩ := rnK_some hr
        simp only [Nat.zero_add] at h1
        subst h1
        rw [hM'at h2]
        rcases hidx h2 with ⟨k1, k2⟩ | ⟨k1, k2⟩
        · exact hg _ _ (by rw [g0_eq, k2]; exact h)
        · rw [hS.gdom id (hfresh id k2)] at h; cases h
  have hvia' : Mp.Via (frF (ρ ++ τ)) ⟨fun _ => none, g'⟩ M' := fun r r' b hr hm => by
    cases r with
    | l k => cases hr
    | g i =>
      simp only [frF] at hr
      split at hr <;> cases hr
      rename_i id hid
      simp only [Mp.at_]
      rw [hM'at hid]
      exact hm
  have hFU : ∀ b, F b → b < w.heap.size ∧ ¬ LiveG g0 s0 b := fun b hb => hUc b (hS.FU b hb)
  -- what was live and was not told of
  have hrest : ∀ r ab b, Here L s r ab → (∀ id, r = .g id → id ∉ ρ) → ab ≠ .dead → M.at_ r = some b → b < w.heap.size ∧ ¬ LiveG g0 s0 b := by
    intro r ab b hr hx hd hm
    refine ⟨hS.lt hr hd hm, fun h => ?_⟩
    obtain ⟨id, ab', h1, h2, h3, h4⟩ := hlive b h
    have := hS.inj r (.g id) ab ab' b hr h1 hd h2 hm h3
    exact hx id this h4
  have hsplit : ∀ r ab, Here L s' r ab → (∃ i id ab0, r = .g id ∧ (ρ ++ τ)[i]? = some id ∧ (i, ab0) ∈ s1 ∧ ab0.rn (frF (ρ ++ τ)) = some ab ∧ ab.clB = true) ∨ (Here L s r ab ∧ (∀ id, r = .g id → id ∉ ρ) ∧ ∀ b, M'.at_ r = some b → M.at_ r = some b) := by
    intro r ab h
    cases r with
    | l k => exact .inr ⟨h, fun id e => (by cases e), fun b hb => hb⟩
    | g id =>
      rcases q2 id ab h with ⟨i, ab0, k1, k2, k3, k4⟩ | ⟨k1, k2⟩
      · exact .inl ⟨i, id, ab0, rfl, k1, k2, k3, k4⟩
      · refine .inr ⟨k2, fun id' e => ?_, fun b hb => ?_⟩
        · cases e
          intro hm
          obtain ⟨i, hi⟩ := List.mem_iff_getElem?.1 hm
          have hlt := (List.getElem?_eq_some_iff.1 hi).1
          obtain ⟨ab0, h0⟩ := hcov i hlt
          exact k1 i ab0 h0 (by rw [List.getElem?_append_left hlt]; exact hi)
        · simp only [Mp.at_] at hb ⊢
          cases hr : rnK (ρ ++ τ) id 0 with
          | none => rw [hM'none hr] at hb; exact hb
          | some i =>
            obtain ⟨i', h1, h2⟩ := rnK_some hr
            simp only [Nat.zero_add] at h1
            subst h1
            rcases hidx h2 with ⟨j1, j2⟩ | ⟨j1, j2⟩
            · obtain ⟨ab0, h0⟩ := hcov i j1
              exact absurd h2 (k1 i ab0 h0)
            · exact absurd k2 (hfresh id j2 ab)
  refine ⟨M', F', fun b => U b ∨ F' b, hle, rfl, hFF, fun _ h => .inl h, hFn, fun _ h => h, fun b hb => ?_, hX, ?_, hrv.rn hvia' hres, fun id ab b h hd hb => ?_, fun id ab h => ?_⟩
  · obtain ⟨id, ab, h1, h2, h3, _⟩ := hlive b hb
    exact ⟨id, ab, h1, h2, h3⟩
  · refine ⟨fun r ab b hr hm => ?_, fun r r' a1 a2 b h1 h2 d1 d2 m1 m2 => ?_, fun r ab b h1 d1 m1 hu => ?_, q1, fun b hb => .inr hb, fun b hb => ?_, hS.dom, fun id ab h => ?_, fun id h => ?_⟩
    · rcases hsplit r ab hr with ⟨i, id, ab0, rfl, k1, k2, k3, k4⟩ | ⟨h, hx, hat⟩
      · have hm' : g' i = some b := by rw [← hM'at k1]; exact hm
        exact ((hS1.rb (.g i) ab0 b k2 hm').rn hvia' k3).closed k4
      · have hm' := hat b hm
        exact (hS.rb r ab b h hm').mono (hle.sub r) hFF hFU hX (fun hd => hX.block b (hrest r ab b h hx hd hm'))
    · rcases hsplit r a1 h1 with ⟨i, id, ab0, rfl, k1, k2, k3, _⟩ | ⟨k1, x1, y1⟩ <;> rcases hsplit r' a2 h2 with ⟨i', id', ab0', rfl, p1, p2, p3, _⟩ | ⟨p1, x2, y2⟩
      · have e1 : g' i = some b := by rw [← hM'at k1]; exact m1
        have e2 : g' i' = some b := by rw [← hM'at p1]; exact m2
        have := hS1.inj (.g i) (.g i') ab0 ab0' b k2 p2 (fun e => d1 ((AB.rn_dead k3).2 e)) (fun e => d2 ((AB.rn_dead p3).2 e)) e1 e2
        cases this
        rw [k1] at p1
        cases p1
        rfl
      · have e1 : g' i = some b := by rw [← hM'at k1]; exact m1
        have := hrest r' a2 b p1 x2 d2 (y2 b m2)
        exact absurd (hUU b this) (hS1.nU (.g i) ab0 b k2 (fun e => d1 ((AB.rn_dead k3).2 e)) e1)
      · have e2 : g' i' = some b := by rw [← hM'at p1]; exact m2
        have := hrest r a1 b k1 x1 d1 (y1 b m1)
        exact absurd (hUU b this) (hS1.nU (.g i') ab0' b p2 (fun e => d2 ((AB.rn_dead p3).2 e)) e2)
      · exact hS.inj r r' a1 a2 b k1 p1 d1 d2 (y1 b m1) (y2 b m2)
    · rcases hsplit r ab h1 with ⟨i, id, ab0, rfl, k1, k2, k3, _⟩ | ⟨k1, x1, y1⟩
      · have e1 : g' i = some b := by rw [← hM'at k1]; exact m1
        have hn := hS1.nU (.g i) ab0 b k2 (fun e => d1 ((AB.rn_dead k3).2 e)) e1
        rcases hu with hu | hu
        · exact hn (hUU b (hUc b hu))
        · exact hn (hS1.FU b hu)
      · have hm' := y1 b m1
        obtain ⟨hlt, hnl⟩ := hrest r ab b k1 x1 d1 hm'
        rcases hu with hu | hu
        · exact hS.nU r ab b k1 d1 hm' hu
        · rcases hFn b hu with h | h | h
          · exact hS.nU r ab b k1 d1 hm' (hS.FU b h)
          · omega
          · exact hnl h
    · rcases hb with hb | hb
      · exact Nat.lt_of_lt_of_le (hS.Ult b hb) hX.size
      · exact hS1.Ult b (hS1.FU b hb)
    · rcases q2 id ab h with ⟨i, ab0, k1, k2, _⟩ | ⟨_, k2⟩
      · obtain ⟨b, hb⟩ := hS1.tot i ab0 k2
        exact ⟨b, by rw [hM'at k1]; exact hb⟩
      · obtain ⟨b, hb⟩ := hS.tot id ab k2
        exact ⟨b, hle (.g id) b hb⟩
    · have hn : id ∉ s'.map (·.1) := fun hm => by
        obtain ⟨⟨id', ab⟩, h1, h2⟩ := List.mem_map.1 hm
        simp only at h2
        subst h2
        exact h ab h1
      rw [q3] at hn
      cases hr : rnK (ρ ++ τ) id 0 with
      | none =>
        rw [hM'none hr]
        exact hS.gdom id (fun ab hab => hn (.inl (List.mem_map.2 ⟨_, hab, rfl⟩)))
      | some i =>
        obtain ⟨i', h1, h2⟩ := rnK_some hr
        simp only [Nat.zero_add] at h1
        subst h1
        rw [hM'at h2]
        exact hS1.gdom i (fun ab hab => hn (.inr ⟨i, ab, hab, h2⟩))
  · rcases hsplit (.g id) ab h with ⟨i, id', ab0, e, k1, k2, k3, _⟩ | ⟨k1, x1, y1⟩
    · cases e
      have e1 : g' i = some b := by rw [← hM'at k1]; exact hb
      have hn := hS1.nU (.g i) ab0 b k2 (fun e => hd ((AB.rn_dead k3).2 e)) e1
      by_cases hlt : w.heap.size ≤ b
      · exact .inl hlt
      · refine .inr ?_
        have : LiveG g0 s0 b := Classical.byContradiction fun hl => hn (hUU b ⟨by omega, hl⟩)
        obtain ⟨id, ab, h1, h2, h3, _⟩ := hlive b this
        exact ⟨id, ab, h1, h2, h3⟩
    · exact .inr ⟨id, ab, k1, hd, y1 b hb⟩
  · rcases q2 id ab h with ⟨i, ab0, k1, k2, _⟩ | ⟨_, k2⟩
    · rcases hidx k1 with ⟨j1, j2⟩ | ⟨j1, j2⟩
      · have hid0 : i ∈ s0.map (·.1) := by
          rw [hids0]
          simp [List.mem_range']
          exact j1
        obtain ⟨⟨i', x⟩, h1, h2⟩ := List.mem_map.1 hid0
        simp only at h2
        subst h2
        obtain ⟨id2, ab2, p1, p2, _⟩ := hin _ x h1
        rw [j2] at p1
        cases p1
        exact .inl ⟨ab2, p2⟩
      · exact .inr (hS.gdom id (hfresh id j2))
    · exact .inl ⟨ab, k2⟩

/-- A function value's call. -/
def fnOf : AV → Option (Nat × List AV)
  | .fn f caps => some (f, caps)
  | _ => none

theorem map_get {α β : Type} {f : α → β} {xs : List α} {j : Nat} {y : β} (h : (xs.map f)[j]? = some y) : ∃ x, xs[j]? = some x ∧ f x = y := by
  rw [List.getElem?_map] at h
  exact Option.map_eq_some_iff.1 h

/-- The call's target, and its arguments with what was captured behind them. -/
theorem run_call {P : Program} {o : Oper} {rh : Operand → AV} {M : Mp} {F : Nat → Prop} {w : World} {a : Act} {c : Operand} {args : Array Operand} {tys : Array TypeId} {f : Nat} {caps : List AV}
    (ho : o.op = .call { callee := .value c, args := args, argTypes := tys }) (hc : rh c = .fn f caps) (he : ∀ args w, (callFunc f args).run P w = .ok (.enter f args) w)
    (hx : ∀ x ∈ o.op.operands.toList, RV M F w (rh x) (a.eval x)) :
    ∃ vals : List Value, (execOp a.eval o).run P w = .ok (.enter f vals.toArray) w ∧ vals.length = (args.toList.map rh ++ caps).length ∧
      ∀ (j : Nat) (x : AV) (v : Value), (args.toList.map rh ++ caps)[j]? = some x → vals[j]? = some v → RV M F w x v := by
  have h1 := hx c (by simp [ho, Op.operands, Call.operands])
  rw [hc] at h1
  have hargs : ∀ x ∈ args.toList, RV M F w (rh x) (a.eval x) := fun x hxm => hx x (by simp [ho, Op.operands, Call.operands]; exact .inr (by simpa using hxm))
  generalize hfv : a.eval c = fv at h1
  cases h1 with
  | fn _ cs vs hl h =>
    refine ⟨args.toList.map a.eval ++ vs, ?_, by simp [hl], fun j x v hj hv => ?_⟩
    · simp only [execOp, ho, resolve, hfv, Deferred.ofValue, Sem.run_bind, Sem.run_pure, Result.andThen_ok, invoke]
      rw [he]
      simp [← arr_map]
    · rcases Nat.lt_or_ge j args.toList.length with hlt | hge
      · rw [List.getElem?_append_left (by simpa using hlt)] at hj hv
        obtain ⟨y, hy, rfl⟩ := map_get hj
        obtain ⟨y', hy', rfl⟩ := map_get hv
        rw [hy] at hy'
        cases hy'
        exact hargs y (List.mem_of_getElem? hy)
      · rw [List.getElem?_append_right (by simpa using hge)] at hj hv
        simp only [List.length_map] at hj hv
        exact h _ x v hj hv

/-- What may be handed on as something else: nil as a list without elements. -/
inductive WkL : List AV → List AV → Prop
  | nil : WkL [] []
  | s (x : AV) {r r' : List AV} (h : WkL r r') : WkL (x :: r) (x :: r')
  | n (sz : Nat) {r r' : List AV} (h : WkL r r') : WkL (.d .nil :: r) (.d (.list sz []) :: r')
  | e (sz : Nat) {r r' : List AV} (h : WkL r r') : WkL (.d .emp :: r) (.d (.list sz []) :: r')
theorem WkL.refl : ∀ (l : List AV), WkL l l
  | [] => .nil
  | x :: r => .s x (WkL.refl r)
theorem WkL.len {l l' : List AV} (h : WkL l l') : l.length = l'.length := by
  induction h with
  | nil => rfl
  | s x h ih => simp [ih]
  | n sz h ih => simp [ih]
  | e sz h ih => simp [ih]
theorem WkL.rv {M : Mp} {F : Nat → Prop} {w : World} {l l' : List AV} {vals : List Value} (h : WkL l l') (hv : ∀ (j : Nat) (x : AV) (v : Value), l[j]? = some x → vals[j]? = some v → RV M F w x v) :
    ∀ (j : Nat) (x : AV) (v : Value), l'[j]? = some x → vals[j]? = some v → RV M F w x v := by
  induction h generalizing vals with
  | nil => exact hv
  | s x h ih =>
    intro j y v hy hv'
    cases j with
    | zero => exact hv 0 y v hy hv'
    | succ j =>
      cases vals with
      | nil => simp at hv'
      | cons u us => exact ih (vals := us) (fun j x v hx hv'' => hv (j + 1) x v (by simpa using hx) (by simpa using hv'')) j y v (by simpa using hy) (by simpa using hv')
  | n sz h ih =>
    intro j y v hy hv'
    cases j with
    | zero =>
      simp at hy
      subst hy
      have := hv 0 (.d .nil) v rfl hv'
      rw [this.nil_inv]
      exact .d (.empty sz none 0)
    | succ j =>
      cases vals with
      | nil => simp at hv'
      | cons u us => exact ih (vals := us) (fun j x v hx hv'' => hv (j + 1) x v (by simpa using hx) (by simpa using hv'')) j y v (by simpa using hy) (by simpa using hv')
  | e sz h ih =>
    intro j y v hy hv'
    cases j with
    | zero =>
      simp at hy
      subst hy
      have := hv 0 (.d .emp) v rfl hv'
      cases this with | d this => cases this with | emp A => exact .d (.empty sz A 0)
    | succ j =>
      cases vals with
      | nil => simp at hv'
      | cons u us => exact ih (vals := us) (fun j x v hx hv'' => hv (j + 1) x v (by simpa using hx) (by simpa using hv'')) j y v (by simpa using hy) (by simpa using hv')

/-- Names no place at all. -/
def nrL (xs : List AV) : Bool := match rnL (fun _ => none) xs with
  | some _ => true
  | none => false
mutual
theorem rn_none : ∀ {x x' : AV}, x.rn (fun _ => none) = some x' → x' = x
  | .d x, x', h => by simp only [AV.rn, Option.some.injEq] at h; exact h.symm
  | .agg cs, x', h => by
    simp only [AV.rn] at h
    split at h <;> cases h
    rename_i cs' hcs
    rw [rnL_none hcs]
  | .tup cs, x', h => by
    simp only [AV.rn] at h
    split at h <;> cases h
    rename_i cs' hcs
    rw [rnL_none hcs]
  | .ref r off, x', h => by simp [AV.rn] at h
  | .slc r sz off len cap, x', h => by simp [AV.rn] at h
  | .el r sz i j, x', h => by simp [AV.rn] at h
  | .mp r, x', h => by simp [AV.rn] at h
  | .fn f cs, x', h => by
    simp only [AV.rn] at h
    split at h <;> cases h
    rename_i cs' hcs
    rw [rnL_none hcs]
  | .ifc t x, x', h => by
    simp only [AV.rn] at h
    split at h <;> cases h
    rename_i y hy
    rw [rn_none hy]
  | .undef, x', h => by simp only [AV.rn, Option.some.injEq] at h; exact h.symm
theorem rnL_none : ∀ {xs xs' : List AV}, rnL (fun _ => none) xs = some xs' → xs' = xs
  | [], xs', h => by simp only [rnL, Option.some.injEq] at h; exact h.symm
  | x :: r, xs', h => by
    simp only [rnL] at h
    split at h <;> try cases h
    rename_i y hy
    split at h <;> cases h
    rename_i r' hr
    rw [rn_none hy, rnL_none hr]
end
theorem nr_rv {M M' : Mp} {F : Nat → Prop} {w : World} {x x' : AV} {v : Value} (h : RV M F w x v) (hx : x.rn (fun _ => none) = some x') : RV M' F w x v := by
  have := h.rn (M' := M') (φ := fun _ => none) (fun r r' b h => by cases h) hx
  rwa [rn_none hx] at this

/-- A call that writes nothing that was there. -/
theorem pj_call {P : Program} {G : Gl} {o : Oper} {rh : Operand → AV} {L : List AB} {s : List (Nat × AB)} {c : Operand} {args : Array Operand} {tys : Array TypeId} {f : Nat} {caps : List AV} {v : AV}
    (ho : o.op = .call { callee := .value c, args := args, argTypes := tys }) (hc : rh c = .fn f caps)
    {args' : List AV} (hw : WkL (args.toList.map rh ++ caps) args') (hcl : nrL args' = true) (hvr : nrL [v] = true) (hC : Contract P G f args' [] (fun r t => r = v ∧ t = [])) : PJ P G o rh L s v [] := by
  intro M F U w a hS hG hx
  obtain ⟨vals, hrun, hl, hv⟩ := run_call ho hc hC.1 hx
  have hargs : ∀ (j : Nat) (x : AV) (u : Value), args'[j]? = some x → vals[j]? = some u → RV ⟨fun _ => none, fun (i : Nat) => (([] : List Nat)[i]?).bind M.g⟩ F w x u := fun j x u hx hu => by
    have h1 := hw.rv hv j x u hx hu
    unfold nrL at hcl
    split at hcl <;> try cases hcl
    rename_i l hl'
    obtain ⟨k1, k2⟩ := rnL_get hl'
    have hj := (List.getElem?_eq_some_iff.1 hx).1
    obtain ⟨y, hy, hy'⟩ := k2 j l[j] (List.getElem?_eq_getElem (by omega))
    rw [hx] at hy
    cases hy
    exact nr_rv h1 hy'
  have hcall := call_core (ρ := []) hC hS hG rfl rfl (by rw [hl, hw.len]) hargs
  unfold Oper.wp
  rw [hrun]
  simp only [Oper.upon]
  refine hcall.mono ?_
  rintro e w' ⟨val, res, s1, rfl, ⟨rfl, rfl⟩, hk⟩
  have hres : ∃ r, res.rn (fun _ => none) = some r := by
    unfold nrL at hvr
    split at hvr <;> try cases hvr
    rename_i l hl'
    simp only [rnL] at hl'
    split at hl' <;> cases hl'
    rename_i r hr
    exact ⟨r, hr⟩
  obtain ⟨r, hr⟩ := hres
  have hfr : (frF ([] ++ [] : List Nat)) = fun _ => none := by
    funext x
    cases x <;> simp [frF]
  obtain ⟨M', F', U', hE⟩ := hk [] s r rfl rfl rfl rfl (by rw [hfr]; exact hr)
  have hnl : ∀ b, ¬ LiveG (fun (i : Nat) => (([] : List Nat)[i]?).bind M.g) [] b := by rintro b ⟨id, ab, h, _⟩; cases h
  have hrv : RV M' F' w' res val := by
    have hval := hE.rv
    -- the value names no place: its new name is its own
    have key : ∀ {x x' : AV}, x.rn (fun _ => none) = some x' → x' = x := fun {x x'} h => rn_none h
    rw [key hr] at hval
    exact hval
  refine ⟨val, M', F', U', rfl, hE.le, fun _ _ => by rw [hE.l], fun k b hk hb => ?_, hE.FF, hE.UU, fun b hb => ?_, fun b hb => ?_, hE.ext.mono (fun b hb => ⟨hb, hnl b⟩), by simpa using hE.st, hrv⟩
  · rw [hE.l, hS.dom k hk] at hb; cases hb
  · rcases hE.Fn b hb with h | h | h
    · exact .inl h
    · exact .inr h
    · exact absurd h (hnl b)
  · rcases hE.Un b hb with h | h
    · exact .inl h
    · rcases hE.Fn b h with h | h | h
      · exact .inl (hS.FU b h)
      · exact .inr h
      · exact absurd h (hnl b)

end Go.Pv
