/- A function's contract, of its body's telling. -/
import Derived.Test.YtkenimmellonjaaPvP
namespace Go.Pv
open Go.RowKit

def argEnv : Nat → List AV → Env
  | _, [] => []
  | k, v :: r => (k, v) :: argEnv (k + 1) r
theorem look_argEnv : ∀ (args : List AV) (k t : Nat), look (argEnv k args) t = if k ≤ t then (args[t - k]?).getD .undef else .undef
  | [], k, t => by simp [argEnv, look]
  | v :: r, k, t => by
    simp only [argEnv, look]
    split
    · rename_i h
      have := beq_t h
      subst this
      simp
    · rename_i h
      have hne := beq_f h
      rw [look_argEnv r (k + 1) t]
      by_cases hk : k ≤ t
      · rw [if_pos hk, if_pos (by omega), show t - k = (t - (k + 1)) + 1 by omega]
        simp
      · rw [if_neg hk, if_neg (by omega)]

/-- What a result variable holds. -/
def vres1 (T : Nat → Option TI) (env : Env) (L : List AB) : ResultVar → Option AV
  | .tmp t => some (look env t)
  | .cell a t => match T t with
    | some ti => match look env a with
      | .ref (.l k) off => match L[k]? with
        | some (.cells cs) => match Nat.beq (takeN cs off ti.size).length ti.size with
          | true => ofCells ti.agg (takeN cs off ti.size)
          | false => none
        | _ => none
      | _ => none
    | none => none
def vresL (T : Nat → Option TI) (env : Env) (L : List AB) : List ResultVar → Option (List AV)
  | [] => some []
  | r :: rs => match vres1 T env L r with
    | some v => match vresL T env L rs with
      | some vs => some (v :: vs)
      | none => none
    | none => none
def vres (T : Nat → Option TI) (env : Env) (L : List AB) : List ResultVar → Option AV
  | [r] => vres1 T env L r
  | rs => match vresL T env L rs with
    | some vs => some (.tup vs)
    | none => none
def VR (T : Nat → Option TI) (rs : List ResultVar) (R : AV → List (Nat × AB) → Prop) (env : Env) (L : List AB) (s : List (Nat × AB)) : Prop := ∃ v, vres T env L rs = some v ∧ v.cl = true ∧ R v s
def KRet (T : Nat → Option TI) (rs : List ResultVar) (R : AV → List (Nat × AB) → Prop) : Exit → Env → List AB → List (Nat × AB) → Prop
  | .normal => VR T rs R
  | .ret => VR T rs R
  | _ => fun _ _ _ => False

section
variable {P : Program} {cx : Ctx} {env : Env} {L : List AB} {s : List (Nat × AB)} {M : Mp} {F U : Nat → Prop} {w : World}

theorem load_cells_rv (hT : TabOK P cx.T) (hS : St M F U L s w) {t : TypeId} {ti : TI} (ht : cx.T t = some ti) {r : Rf} {off : Nat} {cs : List AV} {v : AV} {u : Value} (hu : RV M F w (.ref r off) u)
    (hr : Here L s r (.cells cs)) (hlen : (takeN cs off ti.size).length = ti.size) (hv : ofCells ti.agg (takeN cs off ti.size) = some v) :
    ∃ b val, u = .pointer (some ⟨b, off, none⟩) ∧ (loadVar t ⟨b, off, none⟩).run P w = .ok val w ∧ RV M F w v val := by
  cases hu with
  | ref _ _ b hm =>
    obtain ⟨arr, tt, hb, hsz, hc⟩ := hS.rb r _ b hr hm
    have hget : ∀ j, j < ti.size → ∃ y, cs[off + j]? = some y ∧ (takeN cs off ti.size)[j]? = some y := by
      intro j hj
      have hj' : j < (takeN cs off ti.size).length := by omega
      exact ⟨_, get_takeN (List.getElem?_eq_getElem hj'), List.getElem?_eq_getElem hj'⟩
    have harr : ∀ j, j < ti.size → ∃ u, arr[off + j]? = some u := by
      intro j hj
      obtain ⟨y, h2, _⟩ := hget j hj
      have := (List.getElem?_eq_some_iff.1 h2).1
      exact ⟨_, Array.getElem?_eq_getElem (by omega)⟩
    have hus : ∀ j, ((List.range ti.size).map fun j => (arr[off + j]?).getD Go.undef)[j]? = if j < ti.size then arr[off + j]? else none := by
      intro j
      by_cases hj : j < ti.size
      · obtain ⟨u, hu⟩ := harr j hj
        simp [hj, hu]
      · simp [hj]
    obtain ⟨val, hrun, hv1, hv2⟩ := run_loadVar_cells (P := P) (w := w) (hT := hT) ht ⟨b, off, none⟩ ((List.range ti.size).map fun j => (arr[off + j]?).getD Go.undef) (by simp) (fun j u hu => by
      rw [hus] at hu
      split at hu
      · rw [add_plain]; simp [World.cell?, hb, hu]
      · cases hu)
    refine ⟨b, val, rfl, hrun, RV.ofCells hv hv1 hv2 (by simp [hlen]) (fun j u hu => ?_) (fun j y u hy hu => ?_)⟩
    · rw [hus] at hu
      split at hu
      · rename_i hj
        obtain ⟨y, h2, _⟩ := hget j hj
        exact (hc _ y u h2 hu).1
      · cases hu
    · rw [hus] at hu
      split at hu
      · exact ((hc _ y u (get_takeN hy) hu).2).mono (M.sub_le r) (fun _ h => h) hS.FU (.refl _ _)
      · cases hu

theorem vres1_run (hT : TabOK P cx.T) {a : Act} (hC : CS cx M F U L s w env a) {r : ResultVar} {v : AV} (h : vres1 cx.T env L r = some v) :
    ∃ val, (match r with
      | .tmp t => pure (a.tmps.getD t Go.undef)
      | .cell x t => do loadVar t (← asAddr (a.tmps.getD x Go.undef)) : Sem Value).run P w = .ok val w ∧ RV M F w v val := by
  cases r with
  | tmp t =>
    cases h
    exact ⟨_, rfl, hC.env t⟩
  | cell x t =>
    simp only [vres1] at h
    split at h <;> try cases h
    rename_i ti ht
    split at h <;> try cases h
    rename_i k off hl
    split at h <;> try cases h
    rename_i cs hk
    split at h <;> try cases h
    rename_i hb
    have hx := hC.env x
    rw [hl] at hx
    obtain ⟨b, val, hu, hrun, hrv⟩ := load_cells_rv hT hC.st ht hx (r := .l k) hk (beq_t hb) h
    refine ⟨val, ?_, hrv⟩
    have hu : a.tmps.getD x Go.undef = .pointer (some ⟨b, off, none⟩) := hu
    simp only [hu, asAddr, Sem.run_bind, Sem.run_pure, Result.andThen_ok, hrun]

theorem vresL_run (hT : TabOK P cx.T) {a : Act} (hC : CS cx M F U L s w env a) : ∀ {rs : List ResultVar} {vs : List AV}, vresL cx.T env L rs = some vs →
    ∃ vals, (rs.mapM (fun
      | .tmp t => pure (a.tmps.getD t Go.undef)
      | .cell x t => do loadVar t (← asAddr (a.tmps.getD x Go.undef)) : ResultVar → Sem Value)).run P w = .ok vals w ∧ vals.length = vs.length ∧ ∀ (j : Nat) (x : AV) (v : Value), vs[j]? = some x → vals[j]? = some v → RV M F w x v
  | [], vs, h => by
    simp only [vresL, Option.some.injEq] at h
    subst h
    exact ⟨[], by simp [Sem.run_pure], rfl, fun j x v h => by simp at h⟩
  | r :: rs, vs, h => by
    simp only [vresL] at h
    split at h <;> try cases h
    rename_i v hv
    split at h <;> try cases h
    rename_i vs' hvs
    obtain ⟨val, h1, h2⟩ := vres1_run hT hC hv
    obtain ⟨vals, h3, h4, h5⟩ := vresL_run hT hC hvs
    refine ⟨val :: vals, ?_, by simp [h4], fun j x u hx hu => ?_⟩
    · rw [List.mapM_cons]
      simp only [Sem.run_bind]
      cases r <;> simp only [h1, h3, Result.andThen_ok, Sem.run_pure] at * <;> simp_all [Sem.run_pure]
    · cases j with
      | zero => simp at hx hu; subst hx; subst hu; exact h2
      | succ j => exact h5 j x u (by simpa using hx) (by simpa using hu)

theorem vres_run (hT : TabOK P cx.T) {fn : Func} {a : Act} (hC : CS cx M F U L s w env a) {v : AV} (h : vres cx.T env L fn.results.toList = some v) :
    ∃ val, (results fn a.tmps).run P w = .ok val w ∧ RV M F w v val := by
  have key : ∀ {vs : List AV}, vresL cx.T env L fn.results.toList = some vs → ∃ vals : List Value, (results fn a.tmps).run P w = .ok (if h : vals.toArray.size = 1 then vals.toArray[0] else .tuple vals.toArray) w ∧ vals.length = vs.length ∧ ∀ (j : Nat) (x : AV) (v : Value), vs[j]? = some x → vals[j]? = some v → RV M F w x v := by
    intro vs h
    obtain ⟨vals, h1, h2, h3⟩ := vresL_run hT hC h
    refine ⟨vals, ?_, h2, h3⟩
    unfold results
    rw [← Array.toArray_toList (xs := fn.results)]
    rw [List.mapM_toArray]
    simp only [Sem.run_bind, Sem.run_pure, map_eq_pure_bind]
    erw [h1]
    rfl
  unfold vres at h
  split at h
  · rename_i r hr
    obtain ⟨vals, h1, h2, h3⟩ := key (vs := [v]) (by rw [hr]; simp [vresL, h])
    obtain ⟨u, rfl⟩ : ∃ u, vals = [u] := by
      match vals, h2 with
      | [u], _ => exact ⟨u, rfl⟩
    exact ⟨u, by simpa using h1, h3 0 v u rfl rfl⟩
  · rename_i hr
    split at h <;> try cases h
    rename_i vs hvs
    obtain ⟨vals, h1, h2, h3⟩ := key hvs
    have hne : vals.length ≠ 1 := by
      intro e
      have hl : vs.length = 1 := by omega
      have : fn.results.toList.length = 1 := by
        have key2 : ∀ {rs : List ResultVar} {vs : List AV}, vresL cx.T env L rs = some vs → rs.length = vs.length := by
          intro rs
          induction rs with
          | nil => intro vs h; simp only [vresL, Option.some.injEq] at h; subst h; rfl
          | cons r rs ih =>
            intro vs h
            simp only [vresL] at h
            split at h <;> try cases h
            split at h <;> try cases h
            rename_i h'
            simp [ih h']
        rw [key2 hvs, hl]
      match hm : fn.results.toList, this with
      | [r], _ => exact hr r hm
    refine ⟨.tuple vals.toArray, by rw [h1]; simp [hne], .tup vs vals h2 h3⟩

theorem Contract.of_vc (hT : TabOK P cx.T) {f : Nat} {fn : Func} {c : Code} {args : List AV} {R : AV → List (Nat × AB) → Prop} (hf : P.funcs[f]? = some fn) (hb : fn.body = some c) (hce : Callee P f) (hnt : cx.nt = fn.ntmps) (hle : args.length ≤ fn.ntmps)
    (h : VC P cx c (argEnv 0 args) [] s (KRet cx.T fn.results.toList R)) : Contract P cx.G f args s R := by
  refine ⟨hce, fun g F U w vals hS hG hl hv => calls_of_wp hf hb ?_⟩
  have hC : CS cx ⟨fun _ => none, g⟩ F U [] s w (argEnv 0 args) { tmps := vals.toArray ++ Array.replicate (fn.ntmps - vals.toArray.size) Go.undef, defers := [] } := by
    refine ⟨hS, hG, fun t => ?_, by simp [hnt]; omega, rfl⟩
    rw [look_argEnv, if_pos (Nat.zero_le t)]
    rcases Nat.lt_or_ge t args.length with ht | ht
    · rw [Nat.sub_zero, List.getElem?_eq_getElem ht]
      refine hv t _ _ (List.getElem?_eq_getElem ht) ?_
      unfold slotv
      simp only [Array.getD_eq_getD_getElem?]
      rw [Array.getElem?_append_left (by simp; omega)]
      simp [List.getElem?_eq_getElem (show t < vals.length by omega)]
    · rw [Nat.sub_zero, List.getElem?_eq_none ht]
      exact .undef _
  refine wp_mono (h.h ⟨w, g, F, U, s⟩ _ w ⟨fun _ => none, g⟩ F U hC ⟨fun _ _ h => h, fun _ h => h, fun _ h => h, fun b hb => .inl hb, .refl _ _, fun k b h => by simp at h, fun id ab b h1 h2 h3 => .inr ⟨id, ab, h1, h2, h3⟩, fun id ab h => .inl ⟨ab, h⟩⟩) ?_
  intro e a' w' hq
  obtain ⟨env', L', s', M', F', U', hK, hC', hZ'⟩ := hq
  have fin : VR cx.T fn.results.toList R env' L' s' → a'.defers = [] ∧ ∃ v, (results fn a'.tmps).run P w' = .ok v w' ∧ ∃ v' res s' g' F' U', (Ending.returned v) = .returned v' ∧ R res s' ∧ (∀ id b, g id = some b → g' id = some b) ∧ (∀ id ab, (id, ab) ∈ s' → (∃ ab0, (id, ab0) ∈ s) ∨ g id = none) ∧
      (∀ b, F b → F' b) ∧ (∀ b, U b → U' b) ∧ (∀ b, F' b → F b ∨ w.heap.size ≤ b ∨ LiveG g s b) ∧ Ext U w w' ∧ St ⟨fun _ => none, g'⟩ F' U' [] s' w' ∧ RV ⟨fun _ => none, g'⟩ F' w' res v' := by
    rintro ⟨v, hv, hcl, hR⟩
    obtain ⟨val, h1, h2⟩ := vres_run hT hC' hv
    refine ⟨hC'.defers, val, h1, val, v, s', M'.g, F', U', rfl, hR, hZ'.g, hZ'.ids, hZ'.FF, hZ'.UU, hZ'.Fn, hZ'.ext, ?_, h2.closed hcl⟩
    have hS := hC'.st
    refine ⟨fun r ab b hr hm => ?_, fun r r' a1 a2 b g1 g2 d1 d2 m1 m2 => ?_, fun r ab b g1 d1 m1 => ?_, hS.nd, hS.FU, hS.Ult, fun _ _ => rfl, hS.tot, hS.gdom⟩
    · cases r with
      | l k => simp [Here] at hr
      | g id => exact hS.rb (.g id) ab b hr hm
    · cases r with
      | l k => simp [Here] at g1
      | g id =>
        cases r' with
        | l k => simp [Here] at g2
        | g id' => exact hS.inj (.g id) (.g id') a1 a2 b g1 g2 d1 d2 m1 m2
    · cases r with
      | l k => simp [Here] at g1
      | g id => exact hS.nU (.g id) ab b g1 d1 m1
  cases e with
  | normal => exact fin hK
  | ret => exact fin hK
  | _ => exact hK.elim

/-! ### What the call itself made, and nobody wants -/
def kphi (ks : List Nat) : Rf → Option Rf
  | .g i => match memB i ks with
    | true => some (.g i)
    | false => none
  | .l _ => none
def keepS (ks : List Nat) : List (Nat × AB) → Option (List (Nat × AB))
  | [] => some []
  | (i, ab) :: r => match memB i ks with
    | true => match ab.rn (kphi ks) with
      | some ab => match keepS ks r with
        | some r => some ((i, ab) :: r)
        | none => none
      | none => none
    | false => keepS ks r
def subB : List Nat → List Nat → Bool
  | [], _ => true
  | x :: r, ks => memB x ks && subB r ks
theorem subB_mem : ∀ {l ks : List Nat} {x : Nat}, subB l ks = true → x ∈ l → memB x ks = true
  | [], _, _, _, h => by simp at h
  | y :: r, ks, x, h, hx => by
    simp only [subB, Bool.and_eq_true] at h
    rcases List.mem_cons.1 hx with rfl | hx
    · exact h.1
    · exact subB_mem h.2 hx
theorem keepS_spec {ks : List Nat} : ∀ {s s' : List (Nat × AB)}, keepS ks s = some s' → (s'.map (·.1)).Sublist (s.map (·.1)) ∧ (∀ id ab', (id, ab') ∈ s' → memB id ks = true ∧ ∃ ab, (id, ab) ∈ s ∧ ab.rn (kphi ks) = some ab') ∧ ∀ id ab, (id, ab) ∈ s → memB id ks = true → ∃ ab', (id, ab') ∈ s'
  | [], s', h => by
    simp only [keepS, Option.some.injEq] at h
    subst h
    simp
  | (i, ab) :: r, s', h => by
    simp only [keepS] at h
    split at h
    · rename_i hk
      split at h <;> try cases h
      rename_i ab' hab
      split at h <;> cases h
      rename_i r' hr
      obtain ⟨h1, h2, h3⟩ := keepS_spec hr
      refine ⟨by simpa using h1.cons_cons i, fun id x hx => ?_, fun id x hx hm => ?_⟩
      · rcases List.mem_cons.1 hx with e | hx
        · cases e; exact ⟨hk, ab, by simp, hab⟩
        · obtain ⟨q1, y, q2, q3⟩ := h2 id x hx
          exact ⟨q1, y, List.mem_cons_of_mem _ q2, q3⟩
      · rcases List.mem_cons.1 hx with e | hx
        · cases e; exact ⟨ab', by simp⟩
        · obtain ⟨y, hy⟩ := h3 id x hx hm
          exact ⟨y, List.mem_cons_of_mem _ hy⟩
    · rename_i hk
      obtain ⟨h1, h2, h3⟩ := keepS_spec h
      refine ⟨by simpa using h1.cons i, fun id x hx => ?_, fun id x hx hm => ?_⟩
      · obtain ⟨q1, y, q2, q3⟩ := h2 id x hx
        exact ⟨q1, y, List.mem_cons_of_mem _ q2, q3⟩
      · rcases List.mem_cons.1 hx with e | hx
        · cases e; rw [hk] at hm; cases hm
        · exact h3 id x hx hm
def VRD (T : Nat → Option TI) (rs : List ResultVar) (ids : List Nat) (R : AV → List (Nat × AB) → Prop) (env : Env) (L : List AB) (s : List (Nat × AB)) : Prop := ∃ v, vres T env L rs = some v ∧ ∃ ks, subB ids ks = true ∧ match keepS ks s with
  | some s' => match v.rn (kphi ks) with
    | some v' => R v' s'
    | none => False
  | none => False
def KRetD (T : Nat → Option TI) (rs : List ResultVar) (ids : List Nat) (R : AV → List (Nat × AB) → Prop) : Exit → Env → List AB → List (Nat × AB) → Prop
  | .normal => VRD T rs ids R
  | .ret => VRD T rs ids R
  | _ => fun _ _ _ => False

theorem Contract.of_vcD (hT : TabOK P cx.T) {f : Nat} {fn : Func} {c : Code} {args : List AV} {R : AV → List (Nat × AB) → Prop} (hf : P.funcs[f]? = some fn) (hb : fn.body = some c) (hce : Callee P f) (hnt : cx.nt = fn.ntmps) (hle : args.length ≤ fn.ntmps)
    (h : VC P cx c (argEnv 0 args) [] s (KRetD cx.T fn.results.toList (s.map (·.1)) R)) : Contract P cx.G f args s R := by
  refine ⟨hce, fun g F U w vals hS hG hl hv => calls_of_wp hf hb ?_⟩
  have hC : CS cx ⟨fun _ => none, g⟩ F U [] s w (argEnv 0 args) { tmps := vals.toArray ++ Array.replicate (fn.ntmps - vals.toArray.size) Go.undef, defers := [] } := by
    refine ⟨hS, hG, fun t => ?_, by simp [hnt]; omega, rfl⟩
    rw [look_argEnv, if_pos (Nat.zero_le t)]
    rcases Nat.lt_or_ge t args.length with ht | ht
    · rw [Nat.sub_zero, List.getElem?_eq_getElem ht]
      refine hv t _ _ (List.getElem?_eq_getElem ht) ?_
      unfold slotv
      simp only [Array.getD_eq_getD_getElem?]
      rw [Array.getElem?_append_left (by simp; omega)]
      simp [List.getElem?_eq_getElem (show t < vals.length by omega)]
    · rw [Nat.sub_zero, List.getElem?_eq_none ht]
      exact .undef _
  refine wp_mono (h.h ⟨w, g, F, U, s⟩ _ w ⟨fun _ => none, g⟩ F U hC ⟨fun _ _ h => h, fun _ h => h, fun _ h => h, fun b hb => .inl hb, .refl _ _, fun k b h => by simp at h, fun id ab b h1 h2 h3 => .inr ⟨id, ab, h1, h2, h3⟩, fun id ab h => .inl ⟨ab, h⟩⟩) ?_
  intro e a' w' hq
  obtain ⟨env', L', s', M', F', U', hK, hC', hZ'⟩ := hq
  have fin : VRD cx.T fn.results.toList (s.map (·.1)) R env' L' s' → a'.defers = [] ∧ ∃ v, (results fn a'.tmps).run P w' = .ok v w' ∧ ∃ v' res s' g' F' U', (Ending.returned v) = .returned v' ∧ R res s' ∧ (∀ id b, g id = some b → g' id = some b) ∧ (∀ id ab, (id, ab) ∈ s' → (∃ ab0, (id, ab0) ∈ s) ∨ g id = none) ∧
      (∀ b, F b → F' b) ∧ (∀ b, U b → U' b) ∧ (∀ b, F' b → F b ∨ w.heap.size ≤ b ∨ LiveG g s b) ∧ Ext U w w' ∧ St ⟨fun _ => none, g'⟩ F' U' [] s' w' ∧ RV ⟨fun _ => none, g'⟩ F' w' res v' := by
    rintro ⟨v, hvv, ks, hsub, hR⟩
    split at hR <;> try exact hR.elim
    rename_i s2 hs2
    split at hR <;> try exact hR.elim
    rename_i v2 hv2
    obtain ⟨val, h1, h2⟩ := vres_run hT hC' hvv
    obtain ⟨k1, k2, k3⟩ := keepS_spec hs2
    have hS' := hC'.st
    have hg2 : ∀ id, memB id ks = true → (fun id => match memB id ks with | true => M'.g id | false => none) id = M'.g id := fun id h => by simp only [h]
    have hvia : Mp.Via (kphi ks) M' ⟨fun _ => none, fun id => match memB id ks with | true => M'.g id | false => none⟩ := fun r r' b hr hm => by
      cases r with
      | l k => cases hr
      | g id =>
        simp only [kphi] at hr
        split at hr <;> cases hr
        rename_i hk
        simp only [Mp.at_, hk]
        exact hm
    have hviag : Mp.Via (kphi ks) M'.glo ⟨fun _ => none, fun id => match memB id ks with | true => M'.g id | false => none⟩ := fun r r' b hr hm => hvia r r' b hr (M'.glo_le r b hm)
    refine ⟨hC'.defers, val, h1, val, v2, s2, fun id => match memB id ks with | true => M'.g id | false => none, F', U', rfl, hR, fun id b hb => ?_, fun id ab hab => ?_, hZ'.FF, hZ'.UU, hZ'.Fn, hZ'.ext, ?_, h2.rn hvia hv2⟩
    · have hin : id ∈ s.map (·.1) := Classical.byContradiction fun hn => by
        have : g id = none := hS.gdom id (fun ab hab => hn (List.mem_map.2 ⟨_, hab, rfl⟩))
        rw [this] at hb
        cases hb
      simp only [subB_mem hsub hin]
      exact hZ'.g id b hb
    · obtain ⟨_, ab0, q, _⟩ := k2 id ab hab
      exact hZ'.ids id ab0 q
    · refine ⟨fun r ab b hr hm => ?_, fun r r' a1 a2 b g1 g2 d1 d2 m1 m2 => ?_, fun r ab b g1 d1 m1 => ?_, hS'.nd.sublist k1, hS'.FU, hS'.Ult, fun _ _ => rfl, fun id ab hab => ?_, fun id hid => ?_⟩
      · cases r with
        | l k => simp [Here] at hr
        | g id =>
          obtain ⟨q1, ab0, q2, q3⟩ := k2 id ab hr
          simp only [Mp.at_, q1] at hm
          exact (hS'.rb (.g id) ab0 b q2 hm).rn hviag q3
      · cases r with
        | l k => simp [Here] at g1
        | g id =>
          cases r' with
          | l k => simp [Here] at g2
          | g id' =>
            obtain ⟨q1, b1, q2, q3⟩ := k2 id a1 g1
            obtain ⟨p1, b2, p2, p3⟩ := k2 id' a2 g2
            simp only [Mp.at_, q1] at m1
            simp only [Mp.at_, p1] at m2
            exact hS'.inj (.g id) (.g id') b1 b2 b q2 p2 (fun e => d1 ((AB.rn_dead q3).2 e)) (fun e => d2 ((AB.rn_dead p3).2 e)) m1 m2
      · cases r with
        | l k => simp [Here] at g1
        | g id =>
          obtain ⟨q1, b1, q2, q3⟩ := k2 id ab g1
          simp only [Mp.at_, q1] at m1
          exact hS'.nU (.g id) b1 b q2 (fun e => d1 ((AB.rn_dead q3).2 e)) m1
      · obtain ⟨q1, b1, q2, q3⟩ := k2 id ab hab
        obtain ⟨b, hb⟩ := hS'.tot id b1 q2
        exact ⟨b, by simp only [q1]; exact hb⟩
      · cases hk : memB id ks with
        | false => simp only [hk]
        | true =>
          simp only [hk]
          refine hS'.gdom id fun ab hab => ?_
          obtain ⟨ab', hab'⟩ := k3 id ab hab hk
          exact hid ab' hab'
  cases e with
  | normal => exact fin hK
  | ret => exact fin hK
  | _ => exact hK.elim
end
end Go.Pv
