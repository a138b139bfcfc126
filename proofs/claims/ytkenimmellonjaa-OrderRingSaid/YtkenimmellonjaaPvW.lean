/- Code told as it stands, and a function's contract of it. -/
import Derived.Test.YtkenimmellonjaaPvV2
namespace Go.Pv
open Go.RowKit

/-- The slots that are told on, each once. -/
def tidyE (env : Env) : List Nat → Env
  | [] => []
  | t :: r => (t, look env t) :: tidyE env r
def tidyK (env : Env) : List Nat → (Env → Prop) → Prop
  | [], K => K []
  | t :: r, K => hAV (look env t) fun v => tidyK env r fun en => K ((t, v) :: en)
theorem tidyK_eq (env : Env) : ∀ (ts : List Nat) (K : Env → Prop), tidyK env ts K = K (tidyE env ts)
  | [], _ => rfl
  | t :: r, K => by simp only [tidyK, hAV_eq, tidyK_eq env r, tidyE]
theorem tidyE_rv {M : Mp} {F : Nat → Prop} {w : World} {env : Env} {v : Nat → Value} (h : ∀ t, RV M F w (look env t) (v t)) : ∀ (ts : List Nat) (t : Nat), RV M F w (look (tidyE env ts) t) (v t)
  | [], t => .undef _
  | x :: r, t => by
    simp only [tidyE, look]
    split
    · rename_i hb
      have := beq_t hb
      subst this
      exact h x
    · exact tidyE_rv h r t

def ktab : List (Nat × Nat) → Nat → Nat
  | [], _ => 0
  | (i, k) :: r, x => match Nat.beq i x with
    | true => k
    | false => ktab r x
def okCode (kt : List (Nat × Nat)) : Code → Bool
  | .region id ops draw => Nat.beq (ktab kt id) 1000 || (Nat.ble (ktab kt id) ops.toList.length && ordOK ops.toList && (!draw || tailOK ops.toList (ktab kt id)))
  | .seq a b => okCode kt a && okCode kt b
  | .cond _ a b => okCode kt a && okCode kt b
  | .block _ c => okCode kt c
  | .loop c => okCode kt c
  | _ => true
def fEnv : Env → (Env → Prop) → Prop
  | [], K => K []
  | (t, v) :: r, K => fAV 100 v fun v => fEnv r fun r => K ((t, v) :: r)
theorem fEnv_eq : ∀ (env : Env) (K : Env → Prop), fEnv env K = K env
  | [], _ => rfl
  | (t, v) :: r, K => by simp only [fEnv, fAV_eq, fEnv_eq r]
def promOk (env : Env) (keep : List Nat) (L : List AB) (k : Nat) : Bool := Nat.blt k L.length && witB env k keep
def promK (keep : List Nat) (n : Nat) (env : Env) (L : List AB) (s : List (Nat × AB)) (K : Env → List (Nat × AB) → Prop) : Prop := match L with
  | [] => K env s
  | x :: r => topK s n fun base => match promS base (promOk env keep (x :: r)) 0 (x :: r) with
    | some s2 => match belowB base s && Nat.ble n base with
      | true => fEnv (mapE (psel base (promOk env keep (x :: r))) env) fun env => fSt (s ++ s2) fun s => K env s
      | false => False
    | none => False
def vc (P : Program) (cx : Ctx) (n : Nat) (kt : List (Nat × Nat)) : Code → Env → List (Nat × AB) → (Exit → Env → List (Nat × AB) → Prop) → Prop
  | .skip, env, s, K => K .normal env s
  | .label _, env, s, K => K .normal env s
  | .exit id, env, s, K => K (.exit id) env s
  | .ret, env, s, K => K .ret env s
  | .seq x y, env, s, K => vc P cx n kt x env s (KT (fun env s => vc P cx n kt y env s K) K)
  | .cond c x y, env, s, K => match rho cx.G env [] c with
    | .d (.bool b) => bcase b (vc P cx n kt x env s K) (vc P cx n kt y env s K)
    | _ => False
  | .block id c, env, s, K => vc P cx n kt c env s (KB id K)
  | .region id ops draw, env, s, K => match Nat.beq (ktab kt id) 1000 with
    | true => V P cx n (.region id ops draw) env s K
    | false => vpre P cx env s (ops.toList.take (ktab kt id)) 0 [] [] fun re L => vseq P cx env (ops.toList.drop (ktab kt id)) (ktab kt id) re [] L s fun re L s => envK cx.keep re env fun env => tidyK env cx.keep fun env => promK cx.keep n env L s fun env s => K .normal env s
  | .loop c, env, s, K => V P cx n (.loop c) env s K
  | c, env, s, K => V P cx n c env s K

section
variable {P : Program} {cx : Ctx} {env : Env} {L : List AB} {s s' : List (Nat × AB)} {M M' : Mp} {F U : Nat → Prop} {w : World} {a : Act} {z : Z} {n : Nat}
theorem KT.mono {J J' : Env → List (Nat × AB) → Prop} {K : Exit → Env → List (Nat × AB) → Prop} (h : ∀ env s, J env s → J' env s) : ∀ e env s, KT J K e env s → KT J' K e env s := fun e env s hk => by
  cases e with
  | normal => exact h env s hk
  | _ => exact hk
theorem promK_get {keep : List Nat} {K : Env → List (Nat × AB) → Prop} (hk : keep = cx.keep) (h : promK keep n env L s K) : ∃ env' s', GV cx n env L s env' s' ∧ K env' s' := by
  subst hk
  unfold promK at h
  split at h
  · exact ⟨env, s, .refl, h⟩
  · rename_i x r
    obtain ⟨base, h⟩ := topK_some h
    split at h <;> try exact h.elim
    rename_i s2 hs2
    split at h <;> try exact h.elim
    rename_i hb
    simp only [Bool.and_eq_true] at hb
    rw [fEnv_eq, fSt_eq] at h
    refine ⟨_, _, GV.prom (fun k _ hok => ?_) (fun k hk => ?_) hs2 hb.1 (Nat.le_of_ble_eq_true hb.2), h⟩
    · simp only [promOk, Bool.and_eq_true] at hok
      exact hok.2
    · simp only [promOk]
      have : Nat.blt k (x :: r).length = false := by
        cases e : Nat.blt k (x :: r).length with
        | false => rfl
        | true => simp [Nat.blt_eq] at e; simp at hk; omega
      rw [this]
      rfl
theorem V.region (hT : TabOK P cx.T) (hm : P.follows .mixedOrders = true) {id : Nat} {ops : Array Oper} {draw : Bool} {k : Nat} {K : Exit → Env → List (Nat × AB) → Prop} (hk : (Nat.ble k ops.toList.length && ordOK ops.toList && (!draw || tailOK ops.toList k)) = true)
    (h : vpre P cx env s (ops.toList.take k) 0 [] [] fun re L => vseq P cx env (ops.toList.drop k) k re [] L s fun re L s => envK cx.keep re env fun env => tidyK env cx.keep fun env => promK cx.keep n env L s fun env s => K .normal env s) : V P cx n (.region id ops draw) env s K := by
  refine .mk fun z a w M F U h0 hC hZ => ?_
  have hv : VC P cx (.region id ops draw) env [] s (fun e env L s => match e with
    | .normal => tidyK env cx.keep fun env => promK cx.keep n env L s fun env s => K .normal env s
    | _ => False) := VC.region hT hm ⟨k, hk, h⟩
  refine wp_mono (hv.h z a w M F U hC hZ) fun e a w hq => ?_
  obtain ⟨env', L', s', M', F', U', h1, h2, h3⟩ := hq
  cases e with
  | normal =>
    simp only [tidyK_eq] at h1
    obtain ⟨env2, s2, hg, hk⟩ := promK_get rfl h1
    obtain ⟨M2, F2, U2, h4, h5⟩ := hg z a w M' F' U' h0 ⟨h2.st, h2.gl, tidyE_rv h2.env _, h2.size, h2.defers⟩ h3
    exact ⟨env2, s2, M2, F2, U2, hk, h4, h5⟩
  | _ => exact h1.elim
theorem vc_sound (hT : TabOK P cx.T) (hm : P.follows .mixedOrders = true) {kt : List (Nat × Nat)} : ∀ {c : Code} {env : Env} {s : List (Nat × AB)} {K : Exit → Env → List (Nat × AB) → Prop}, okCode kt c = true → vc P cx n kt c env s K → V P cx n c env s K := by
  intro c
  induction c with
  | skip => intro env s K _ h; exact .skip h
  | label l => intro env s K _ h; exact .label h
  | exit id => intro env s K _ h; exact .exit h
  | ret => intro env s K _ h; exact .ret h
  | seq x y ihx ihy =>
    intro env s K hok h
    simp only [okCode, Bool.and_eq_true] at hok
    simp only [vc] at h
    exact .seq ((ihx hok.1 h).mono (KT.mono fun env s => ihy hok.2))
  | cond c x y ihx ihy =>
    intro env s K hok h
    simp only [okCode, Bool.and_eq_true] at hok
    simp only [vc] at h
    refine .cond ?_
    split at h
    · rename_i b hb
      simp only [hb]
      cases b with
      | true => exact ihx hok.1 h
      | false => exact ihy hok.2 h
    · exact h.elim
  | block id c ih =>
    intro env s K hok h
    simp only [okCode] at hok
    simp only [vc] at h
    exact .block (ih hok h)
  | region id ops draw =>
    intro env s K hok h
    simp only [okCode, Bool.or_eq_true] at hok
    simp only [vc] at h
    split at h
    · exact h
    · rename_i hb
      exact V.region hT hm (hok.resolve_left (by rw [hb]; exact Bool.noConfusion)) h
  | loop c ih => intro env s K _ h; simpa only [vc] using h
  | rangeFunc f ps as body _ _ => intro env s K _ h; simpa only [vc] using h
  | scope c ih => intro env s K _ h; simpa only [vc] using h
  | goto l => intro env s K _ h; simpa only [vc] using h
  | refuse why => intro env s K _ h; simpa only [vc] using h

/-! ### A function's contract -/
def vres1S (T : Nat → Option TI) (env : Env) (s : List (Nat × AB)) : ResultVar → Option AV
  | .tmp t => some (look env t)
  | .cell a t => match T t with
    | some ti => match look env a with
      | .ref (.g id) off => match sfind s id with
        | some (.cells cs) => match Nat.beq (takeN cs off ti.size).length ti.size with
          | true => ofCells ti.agg (takeN cs off ti.size)
          | false => none
        | _ => none
      | _ => none
    | none => none
def vresLS (T : Nat → Option TI) (env : Env) (s : List (Nat × AB)) : List ResultVar → Option (List AV)
  | [] => some []
  | r :: rs => match vres1S T env s r with
    | some v => match vresLS T env s rs with
      | some vs => some (v :: vs)
      | none => none
    | none => none
def vresS (T : Nat → Option TI) (env : Env) (s : List (Nat × AB)) : List ResultVar → Option AV
  | [r] => vres1S T env s r
  | rs => match vresLS T env s rs with
    | some vs => some (.tup vs)
    | none => none
theorem vres1S_run (hT : TabOK P cx.T) (hC : CS cx M F U [] s w env a) {r : ResultVar} {v : AV} (h : vres1S cx.T env s r = some v) :
    ∃ val, (match r with
      | .tmp t => pure (a.tmps.getD t Go.undef)
      | .cell x t => do loadVar t (← asAddr (a.tmps.getD x Go.undef)) : Sem Value).run P w = .ok val w ∧ RV M F w v val := by
  cases r with
  | tmp t =>
    cases h
    exact ⟨_, rfl, hC.env t⟩
  | cell x t =>
    simp only [vres1S] at h
    split at h <;> try cases h
    rename_i ti ht
    split at h <;> try cases h
    rename_i k off hl
    split at h <;> try cases h
    rename_i cs hk
    split at h <;> try cases h
    rename_i hb
    have hx := hC.env x
    rw [hl] at hx
    obtain ⟨b, val, hu, hrun, hrv⟩ := load_cells_rv hT hC.st ht hx (r := .g k) (sfind_mem hk) (beq_t hb) h
    refine ⟨val, ?_, hrv⟩
    have hu : a.tmps.getD x Go.undef = .pointer (some ⟨b, off, none⟩) := hu
    simp only [hu, asAddr, Sem.run_bind, Sem.run_pure, Result.andThen_ok, hrun]
theorem vresLS_run (hT : TabOK P cx.T) (hC : CS cx M F U [] s w env a) : ∀ {rs : List ResultVar} {vs : List AV}, vresLS cx.T env s rs = some vs →
    ∃ vals, (rs.mapM (fun
      | .tmp t => pure (a.tmps.getD t Go.undef)
      | .cell x t => do loadVar t (← asAddr (a.tmps.getD x Go.undef)) : ResultVar → Sem Value)).run P w = .ok vals w ∧ vals.length = vs.length ∧ ∀ (j : Nat) (x : AV) (v : Value), vs[j]? = some x → vals[j]? = some v → RV M F w x v
  | [], vs, h => by
    simp only [vresLS, Option.some.injEq] at h
    subst h
    exact ⟨[], by simp [Sem.run_pure], rfl, fun j x v h => by simp at h⟩
  | r :: rs, vs, h => by
    simp only [vresLS] at h
    split at h <;> try cases h
    rename_i v hv
    split at h <;> try cases h
    rename_i vs' hvs
    obtain ⟨val, h1, h2⟩ := vres1S_run hT hC hv
    obtain ⟨vals, h3, h4, h5⟩ := vresLS_run hT hC hvs
    refine ⟨val :: vals, ?_, by simp [h4], fun j x u hx hu => ?_⟩
    · rw [List.mapM_cons]
      simp only [Sem.run_bind]
      cases r <;> simp only [h1, h3, Result.andThen_ok, Sem.run_pure] at * <;> simp_all [Sem.run_pure]
    · cases j with
      | zero => simp at hx hu; subst hx; subst hu; exact h2
      | succ j => exact h5 j x u (by simpa using hx) (by simpa using hu)
theorem vresLS_len {T : Nat → Option TI} {env : Env} {s : List (Nat × AB)} : ∀ {rs : List ResultVar} {vs : List AV}, vresLS T env s rs = some vs → rs.length = vs.length
  | [], vs, h => by simp only [vresLS, Option.some.injEq] at h; subst h; rfl
  | r :: rs, vs, h => by
    simp only [vresLS] at h
    split at h <;> try cases h
    split at h <;> try cases h
    rename_i h'
    simp [vresLS_len h']
theorem vresS_run (hT : TabOK P cx.T) {fn : Func} (hC : CS cx M F U [] s w env a) {v : AV} (h : vresS cx.T env s fn.results.toList = some v) :
    ∃ val, (results fn a.tmps).run P w = .ok val w ∧ RV M F w v val := by
  have key : ∀ {vs : List AV}, vresLS cx.T env s fn.results.toList = some vs → ∃ vals : List Value, (results fn a.tmps).run P w = .ok (if h : vals.toArray.size = 1 then vals.toArray[0] else .tuple vals.toArray) w ∧ vals.length = vs.length ∧ ∀ (j : Nat) (x : AV) (v : Value), vs[j]? = some x → vals[j]? = some v → RV M F w x v := by
    intro vs h
    obtain ⟨vals, h1, h2, h3⟩ := vresLS_run hT hC h
    refine ⟨vals, ?_, h2, h3⟩
    unfold results
    rw [← Array.toArray_toList (xs := fn.results)]
    rw [List.mapM_toArray]
    simp only [Sem.run_bind, Sem.run_pure, map_eq_pure_bind]
    erw [h1]
    rfl
  unfold vresS at h
  split at h
  · rename_i r hr
    obtain ⟨vals, h1, h2, h3⟩ := key (vs := [v]) (by rw [hr]; simp [vresLS, h])
    obtain ⟨u, rfl⟩ : ∃ u, vals = [u] := by
      match vals, h2 with
      | [u], _ => exact ⟨u, rfl⟩
    exact ⟨u, by simpa using h1, h3 0 v u rfl rfl⟩
  · rename_i hr
    split at h <;> try cases h
    rename_i vs hvs
    obtain ⟨vals, h1, h2, h3⟩ := key hvs
    have hne : vals.length ≠ 1 := by
      intro e
      have hl : vs.length = 1 := by omega
      have : fn.results.toList.length = 1 := by rw [vresLS_len hvs, hl]
      match hm : fn.results.toList, this with
      | [r], _ => exact hr r hm
    refine ⟨.tuple vals.toArray, by rw [h1]; simp [hne], .tup vs vals h2 h3⟩

def takeK : Nat → List Nat → List Nat → (List Nat → Prop) → Prop
  | 0, _, acc, K => K acc
  | _ + 1, [], acc, K => K acc
  | n + 1, x :: r, acc, K => appF acc [x] fun acc => takeK n r acc K
theorem takeK_some : ∀ {n : Nat} {l acc : List Nat} {K : List Nat → Prop}, takeK n l acc K → ∃ l, K l
  | 0, _, _, _, h => ⟨_, h⟩
  | _ + 1, [], _, _, h => ⟨_, h⟩
  | n + 1, x :: r, acc, K, h => by
    unfold takeK at h
    rw [appF_eq] at h
    exact takeK_some h
/-- What the function hands back, and the objects that it tells of. -/
def resK (T : Nat → Option TI) (rs : List ResultVar) (n : Nat) (R : AV → List (Nat × AB) → Prop) (env : Env) (s : List (Nat × AB)) : Prop := match vresS T env s rs with
  | some v => fAV 100 v fun v => takeK n lits [] fun told => occK 100 v told fun σ => reachK 50 s 0 σ fun σ => match nodupB σ && uptoB n 0 σ with
    | true => match gatherS σ s σ 0 with
      | some s2 => match v.rn (gsel σ) with
        | some v2 => fSt s2 fun s2 => fAV 100 v2 fun v2 => R v2 s2
        | none => False
      | none => False
    | false => False
  | none => False
theorem resK_get {T : Nat → Option TI} {rs : List ResultVar} {R : AV → List (Nat × AB) → Prop} (h : resK T rs n R env s) : ∃ v σ s2 v2, vresS T env s rs = some v ∧ nodupB σ = true ∧ uptoB n 0 σ = true ∧ gatherS σ s σ 0 = some s2 ∧ v.rn (gsel σ) = some v2 ∧ R v2 s2 := by
  unfold resK at h
  split at h <;> try exact h.elim
  rename_i v hv
  rw [fAV_eq] at h
  obtain ⟨told, h⟩ := takeK_some h
  obtain ⟨σ0, h⟩ := occK_some h
  obtain ⟨σ, h⟩ := reachK_some h
  split at h <;> try exact h.elim
  rename_i hn
  simp only [Bool.and_eq_true] at hn
  split at h <;> try exact h.elim
  rename_i s2 hs2
  split at h <;> try exact h.elim
  rename_i v2 hv2
  rw [fSt_eq, fAV_eq] at h
  exact ⟨v, σ, s2, v2, hv, hn.1, hn.2, hs2, hv2, h⟩
def KV (T : Nat → Option TI) (rs : List ResultVar) (n : Nat) (R : AV → List (Nat × AB) → Prop) : Exit → Env → List (Nat × AB) → Prop
  | .normal => resK T rs n R
  | .ret => resK T rs n R
  | _ => fun _ _ => False

theorem Contract.of_V (hT : TabOK P cx.T) {f : Nat} {fn : Func} {c : Code} {args : List AV} {R : AV → List (Nat × AB) → Prop} (hf : P.funcs[f]? = some fn) (hb : fn.body = some c) (hce : Callee P f) (hnt : cx.nt = fn.ntmps)
    (hle : args.length ≤ fn.ntmps) (hbel : belowB n s = true) (h : V P cx n c (argEnv 0 args) s (KV cx.T fn.results.toList n R)) : Contract P cx.G f args s R := by
  refine ⟨hce, fun g F U w vals hS hG hl hv => calls_of_wp hf hb ?_⟩
  have hgN : ∀ id, n ≤ id → g id = none := fun id hid => hS.gdom id fun ab hab => by have := belowB_get hbel id ab hab; omega
  have hC : CS cx ⟨fun _ => none, g⟩ F U [] s w (argEnv 0 args) { tmps := vals.toArray ++ Array.replicate (fn.ntmps - vals.toArray.size) Go.undef, defers := [] } := by
    refine ⟨hS, hG, fun t => ?_, by simp [hnt]; omega, rfl⟩
    rw [look_argEnv, if_pos (Nat.zero_le t)]
    rcases Nat.lt_or_ge t args.length with ht | ht
    · rw [Nat.sub_zero, List.getElem?_eq_getElem ht]
      refine hv t _ _ (List.getElem?_eq_getElem ht) ?_
      unfold slotv
      simp only [Array.getD_eq_getD_getElem?]
      rw [Array.getElem?_append_left (by simp; omega)]
      simp [List.getElem?_eq_getElem (show t < vals.length by omega)]
    · rw [Nat.sub_zero, List.getElem?_eq_none ht]
      exact .undef _
  refine wp_mono (h.h ⟨w, g, F, U, s⟩ _ w ⟨fun _ => none, g⟩ F U hgN hC ⟨fun _ _ h => h, fun _ h => h, fun _ h => h, fun b hb => .inl hb, .refl _ _, fun k b h => by simp at h, fun id ab b h1 h2 h3 => .inr ⟨id, ab, h1, h2, h3⟩, fun id ab h => .inl ⟨ab, h⟩⟩) ?_
  intro e a' w' hq
  obtain ⟨env', s', M', F', U', hK, hC', hZ'⟩ := hq
  have fin : resK cx.T fn.results.toList n R env' s' → a'.defers = [] ∧ ∃ v, (results fn a'.tmps).run P w' = .ok v w' ∧ ∃ v' res s' g' F' U', (Ending.returned v) = .returned v' ∧ R res s' ∧ (∀ id b, g id = some b → g' id = some b) ∧ (∀ id ab, (id, ab) ∈ s' → (∃ ab0, (id, ab0) ∈ s) ∨ g id = none) ∧
      (∀ b, F b → F' b) ∧ (∀ b, U b → U' b) ∧ (∀ b, F' b → F b ∨ w.heap.size ≤ b ∨ LiveG g s b) ∧ Ext U w w' ∧ St ⟨fun _ => none, g'⟩ F' U' [] s' w' ∧ RV ⟨fun _ => none, g'⟩ F' w' res v' := by
    intro hr
    obtain ⟨v, σ, s2, v2, hv, h1, h2, h3, h4, hR⟩ := resK_get hr
    obtain ⟨val, hrun, hrv⟩ := vresS_run hT hC' hv
    obtain ⟨M2, F2, U2, hC2, hZ2⟩ := GV.gather_M σ h3 h1 h2 ⟨w, g, F, U, s⟩ a' w' M' F' U' hgN hC' hZ'
    obtain ⟨hCC, e1, e2, e3⟩ := hC2
    rw [e1, e2, e3] at hCC hZ2
    exact ⟨hC'.defers, val, hrun, val, v2, s2, (M'.gath σ).g, F', U', rfl, hR, hZ2.g, hZ2.ids, hZ2.FF, hZ2.UU, hZ2.Fn, hZ2.ext, hCC.st, hrv.rn (via_gsel' M' σ) h4⟩
  cases e with
  | normal => exact fin hK
  | ret => exact fin hK
  | _ => exact hK.elim
theorem Contract.of_v (hT : TabOK P cx.T) (hm : P.follows .mixedOrders = true) {f : Nat} {fn : Func} {c : Code} {args : List AV} {R : AV → List (Nat × AB) → Prop} {kt : List (Nat × Nat)} (hf : P.funcs[f]? = some fn) (hb : fn.body = some c) (hce : Callee P f) (hnt : cx.nt = fn.ntmps) (hok : okCode kt c = true)
    (hle : args.length ≤ fn.ntmps) (hbel : belowB n s = true) (h : vc P cx n kt c (argEnv 0 args) s (KV cx.T fn.results.toList n R)) : Contract P cx.G f args s R :=
  Contract.of_V hT hf hb hce hnt hle hbel (vc_sound hT hm hok h)
/-- As 'KV'; told otherwise at the end. -/
def KG (cx : Ctx) (rs : List ResultVar) (n : Nat) (R : AV → List (Nat × AB) → Prop) : Exit → Env → List (Nat × AB) → Prop
  | .normal => fun env s => ∃ env' s', GV cx n env [] s env' s' ∧ resK cx.T rs n R env' s'
  | .ret => fun env s => ∃ env' s', GV cx n env [] s env' s' ∧ resK cx.T rs n R env' s'
  | _ => fun _ _ => False
theorem Contract.of_vG (hT : TabOK P cx.T) (hm : P.follows .mixedOrders = true) {f : Nat} {fn : Func} {c : Code} {args : List AV} {R : AV → List (Nat × AB) → Prop} {kt : List (Nat × Nat)} (hf : P.funcs[f]? = some fn) (hb : fn.body = some c) (hce : Callee P f) (hnt : cx.nt = fn.ntmps) (hok : okCode kt c = true)
    (hle : args.length ≤ fn.ntmps) (hbel : belowB n s = true) (h : vc P cx n kt c (argEnv 0 args) s (KG cx fn.results.toList n R)) : Contract P cx.G f args s R :=
  Contract.of_V hT hf hb hce hnt hle hbel ((vc_sound hT hm hok h).gpost fun e env s hk => by
    cases e with
    | normal => exact hk
    | ret => exact hk
    | _ => exact hk.elim)
/-- A round's body, told as it stands. -/
theorem V.of {kt : List (Nat × Nat)} {c : Code} {K : Exit → Env → List (Nat × AB) → Prop} (hT : TabOK P cx.T) (hm : P.follows .mixedOrders = true) (hok : okCode kt c = true) (h : vc P cx n kt c env s K) : V P cx n c env s K := vc_sound hT hm hok h
end
end Go.Pv
