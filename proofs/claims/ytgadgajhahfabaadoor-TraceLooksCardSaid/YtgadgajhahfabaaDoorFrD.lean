/- The framework, part 4: values, memory, verification conditions, walks; it states no property of the program. -/
import Derived.Test.YtgadgajhahfabaaDoorFrC
import Derived.ProofKit
import Derived.Deep.Slices
import Derived.Deep.Fields
import Derived.Shelf.Sort.Plain
import Derived.Shelf.Slices.In.SortNone
/- Code told as it stands, and a function's contract of it. -/
namespace Go.Pv
open Go.RowKit

/-- The slots that are told on, each once. -/
def tidyE (env : Env) : List Nat → Env
  | [] => []
  | t :: r => (t, look env t) :: tidyE env r
def tidyK (env : Env) : List Nat → (Env → Prop) → Prop
  | [], K => K []
  | t :: r, K => hAV (look env t) fun v => tidyK env r fun en => K ((t, v) :: en)
theorem tidyK_eq (env : Env) : ∀ (ts : List Nat) (K : Env → Prop), tidyK env ts K = K (tidyE env ts)
  | [], _ => rfl
  | t :: r, K => by simp only [tidyK, hAV_eq, tidyK_eq env r, tidyE]
theorem tidyE_rv {M : Mp} {F : Nat → Prop} {w : World} {env : Env} {v : Nat → Value} (h : ∀ t, RV M F w (look env t) (v t)) : ∀ (ts : List Nat) (t : Nat), RV M F w (look (tidyE env ts) t) (v t)
  | [], t => .undef _
  | x :: r, t => by
    simp only [tidyE, look]
    split
    · rename_i hb
      have := beq_t hb
      subst this
      exact h x
    · exact tidyE_rv h r t

def ktab : List (Nat × Nat) → Nat → Nat
  | [], _ => 0
  | (i, k) :: r, x => match Nat.beq i x with
    | true => k
    | false => ktab r x
def okCode (kt : List (Nat × Nat)) : Code → Bool
  | .region id ops draw => Nat.beq (ktab kt id) 1000 || (Nat.ble (ktab kt id) ops.toList.length && ordOK ops.toList && (!draw || tailOK ops.toList (ktab kt id)))
  | .seq a b => okCode kt a && okCode kt b
  | .cond _ a b => okCode kt a && okCode kt b
  | .block _ c => okCode kt c
  | .loop c => okCode kt c
  | _ => true
def fEnv : Env → (Env → Prop) → Prop
  | [], K => K []
  | (t, v) :: r, K => fAV 100 v fun v => fEnv r fun r => K ((t, v) :: r)
theorem fEnv_eq : ∀ (env : Env) (K : Env → Prop), fEnv env K = K env
  | [], _ => rfl
  | (t, v) :: r, K => by simp only [fEnv, fAV_eq, fEnv_eq r]
def promOk (env : Env) (keep : List Nat) (L : List AB) (k : Nat) : Bool := Nat.blt k L.length && witL env keep L k
def promK (keep : List Nat) (n : Nat) (env : Env) (L : List AB) (s : List (Nat × AB)) (K : Env → List (Nat × AB) → Prop) : Prop := match L with
  | [] => K env s
  | x :: r => topK s n fun base => match promS base (promOk env keep (x :: r)) 0 (x :: r) with
    | some s2 => match belowB base s && Nat.ble n base with
      | true => fEnv (mapE (psel base (promOk env keep (x :: r))) env) fun env => fSt (s ++ s2) fun s => K env s
      | false => False
    | none => False
def vc (P : Program) (cx : Ctx) (n : Nat) (kt : List (Nat × Nat)) : Code → Env → List (Nat × AB) → (Exit → Env → List (Nat × AB) → Prop) → Prop
  | .skip, env, s, K => K .normal env s
  | .label _, env, s, K => K .normal env s
  | .exit id, env, s, K => K (.exit id) env s
  | .ret, env, s, K => K .ret env s
  | .seq x y, env, s, K => vc P cx n kt x env s (KT (fun env s => vc P cx n kt y env s K) K)
  | .cond c x y, env, s, K => match rho cx.G env [] c with
    | .d (.bool b) => bcase b (vc P cx n kt x env s K) (vc P cx n kt y env s K)
    | _ => False
  | .block id c, env, s, K => vc P cx n kt c env s (KB id K)
  | .region id ops draw, env, s, K => match Nat.beq (ktab kt id) 1000 with
    | true => V P cx n (.region id ops draw) env s K
    | false => vpre P cx env s (ops.toList.take (ktab kt id)) 0 [] [] fun re L => vseq P cx env (ops.toList.drop (ktab kt id)) (ktab kt id) re [] L s fun re L s => envK cx.keep re env fun env => tidyK env cx.keep fun env => promK cx.keep n env L s fun env s => K .normal env s
  | .loop c, env, s, K => V P cx n (.loop c) env s K
  | c, env, s, K => V P cx n c env s K

section
variable {P : Program} {cx : Ctx} {env : Env} {L : List AB} {s s' : List (Nat × AB)} {M M' : Mp} {F U : Nat → Prop} {w : World} {a : Act} {z : Z} {n : Nat}
theorem KT.mono {J J' : Env → List (Nat × AB) → Prop} {K : Exit → Env → List (Nat × AB) → Prop} (h : ∀ env s, J env s → J' env s) : ∀ e env s, KT J K e env s → KT J' K e env s := fun e env s hk => by
  cases e with
  | normal => exact h env s hk
  | _ => exact hk
theorem promK_get {keep : List Nat} {K : Env → List (Nat × AB) → Prop} (hk : keep = cx.keep) (h : promK keep n env L s K) : ∃ env' s', GV cx n env L s env' s' ∧ K env' s' := by
  subst hk
  unfold promK at h
  split at h
  · exact ⟨env, s, .refl, h⟩
  · rename_i x r
    obtain ⟨base, h⟩ := topK_some h
    split at h <;> try exact h.elim
    rename_i s2 hs2
    split at h <;> try exact h.elim
    rename_i hb
    simp only [Bool.and_eq_true] at hb
    rw [fEnv_eq, fSt_eq] at h
    refine ⟨_, _, GV.prom (fun k _ hok => ?_) (fun k hk => ?_) hs2 hb.1 (Nat.le_of_ble_eq_true hb.2), h⟩
    · simp only [promOk, Bool.and_eq_true] at hok
      exact hok.2
    · simp only [promOk]
      have : Nat.blt k (x :: r).length = false := by
        cases e : Nat.blt k (x :: r).length with
        | false => rfl
        | true => simp [Nat.blt_eq] at e; simp at hk; omega
      rw [this]
      rfl
theorem V.region (hT : TabOK P cx.T) (hm : P.follows .mixedOrders = true) {id : Nat} {ops : Array Oper} {draw : Bool} {k : Nat} {K : Exit → Env → List (Nat × AB) → Prop} (hk : (Nat.ble k ops.toList.length && ordOK ops.toList && (!draw || tailOK ops.toList k)) = true)
    (h : vpre P cx env s (ops.toList.take k) 0 [] [] fun re L => vseq P cx env (ops.toList.drop k) k re [] L s fun re L s => envK cx.keep re env fun env => tidyK env cx.keep fun env => promK cx.keep n env L s fun env s => K .normal env s) : V P cx n (.region id ops draw) env s K := by
  refine .mk fun z a w M F U h0 hC hZ => ?_
  have hv : VC P cx (.region id ops draw) env [] s (fun e env L s => match e with
    | .normal => tidyK env cx.keep fun env => promK cx.keep n env L s fun env s => K .normal env s
    | _ => False) := VC.region hT hm ⟨k, hk, h⟩
  refine wp_mono (hv.h z a w M F U hC hZ) fun e a w hq => ?_
  obtain ⟨env', L', s', M', F', U', h1, h2, h3⟩ := hq
  cases e with
  | normal =>
    simp only [tidyK_eq] at h1
    obtain ⟨env2, s2, hg, hk⟩ := promK_get rfl h1
    obtain ⟨M2, F2, U2, h4, h5⟩ := hg z a w M' F' U' h0 ⟨h2.st, h2.gl, tidyE_rv h2.env _, h2.size, h2.defers⟩ h3
    exact ⟨env2, s2, M2, F2, U2, hk, h4, h5⟩
  | _ => exact h1.elim
theorem vc_sound (hT : TabOK P cx.T) (hm : P.follows .mixedOrders = true) {kt : List (Nat × Nat)} : ∀ {c : Code} {env : Env} {s : List (Nat × AB)} {K : Exit → Env → List (Nat × AB) → Prop}, okCode kt c = true → vc P cx n kt c env s K → V P cx n c env s K := by
  intro c
  induction c with
  | skip => intro env s K _ h; exact .skip h
  | label l => intro env s K _ h; exact .label h
  | exit id => intro env s K _ h; exact .exit h
  | ret => intro env s K _ h; exact .ret h
  | seq x y ihx ihy =>
    intro env s K hok h
    simp only [okCode, Bool.and_eq_true] at hok
    simp only [vc] at h
    exact .seq ((ihx hok.1 h).mono (KT.mono fun env s => ihy hok.2))
  | cond c x y ihx ihy =>
    intro env s K hok h
    simp only [okCode, Bool.and_eq_true] at hok
    simp only [vc] at h
    refine .cond ?_
    split at h
    · rename_i b hb
      try simp only [hb]
      cases b with
      | true => exact ihx hok.1 h
      | false => exact ihy hok.2 h
    · exact h.elim
  | block id c ih =>
    intro env s K hok h
    simp only [okCode] at hok
    simp only [vc] at h
    exact .block (ih hok h)
  | region id ops draw =>
    intro env s K hok h
    simp only [okCode, Bool.or_eq_true] at hok
    simp only [vc] at h
    split at h
    · exact h
    · rename_i hb
      exact V.region hT hm (hok.resolve_left (by rw [hb]; exact Bool.noConfusion)) h
  | loop c ih => intro env s K _ h; simpa only [vc] using h
  | rangeFunc f ps asg body _ _ => intro env s K _ h; simpa only [vc] using h
  | scope c ih => intro env s K _ h; simpa only [vc] using h
  | goto l => intro env s K _ h; simpa only [vc] using h
  | refuse why => intro env s K _ h; simpa only [vc] using h

/-! ### A function's contract -/
def vres1S (T : Nat → Option TI) (env : Env) (s : List (Nat × AB)) : ResultVar → Option AV
  | .tmp t => some (look env t)
  | .cell a t => match T t with
    | some ti => match look env a with
      | .ref (.g id) off => match sfind s id with
        | some (.cells cs) => match Nat.beq (takeN cs off ti.size).length ti.size with
          | true => ofCells ti.agg (takeN cs off ti.size)
          | false => none
        | _ => none
      | _ => none
    | none => none
def vresLS (T : Nat → Option TI) (env : Env) (s : List (Nat × AB)) : List ResultVar → Option (List AV)
  | [] => some []
  | r :: rs => match vres1S T env s r with
    | some v => match vresLS T env s rs with
      | some vs => some (v :: vs)
      | none => none
    | none => none
def vresS (T : Nat → Option TI) (env : Env) (s : List (Nat × AB)) : List ResultVar → Option AV
  | [r] => vres1S T env s r
  | rs => match vresLS T env s rs with
    | some vs => some (.tup vs)
    | none => none
theorem vres1S_run (hT : TabOK P cx.T) (hC : CS cx M F U [] s w env a) {r : ResultVar} {v : AV} (h : vres1S cx.T env s r = some v) :
    ∃ val, (match r with
      | .tmp t => pure (a.tmps.getD t Go.undef)
      | .cell x t => do loadVar t (← asAddr (a.tmps.getD x Go.undef)) : Sem Value).run P w = .ok val w ∧ RV M F w v val := by
  cases r with
  | tmp t =>
    cases h
    exact ⟨_, rfl, hC.env t⟩
  | cell x t =>
    simp only [vres1S] at h
    split at h <;> try cases h
    rename_i ti ht
    split at h <;> try cases h
    rename_i k off hl
    split at h <;> try cases h
    rename_i cs hk
    split at h <;> try cases h
    rename_i hb
    have hx := hC.env x
    rw [hl] at hx
    obtain ⟨b, val, hu, hrun, hrv⟩ := load_cells_rv hT hC.st ht hx (r := .g k) (sfind_mem hk) (beq_t hb) h
    refine ⟨val, ?_, hrv⟩
    have hu : a.tmps.getD x Go.undef = .pointer (some ⟨b, off, none⟩) := hu
    simp only [hu, asAddr, Sem.run_bind, Sem.run_pure, Result.andThen_ok, hrun]
theorem vresLS_run (hT : TabOK P cx.T) (hC : CS cx M F U [] s w env a) : ∀ {rs : List ResultVar} {vs : List AV}, vresLS cx.T env s rs = some vs →
    ∃ vals, (rs.mapM (fun
      | .tmp t => pure (a.tmps.getD t Go.undef)
      | .cell x t => do loadVar t (← asAddr (a.tmps.getD x Go.undef)) : ResultVar → Sem Value)).run P w = .ok vals w ∧ vals.length = vs.length ∧ ∀ (j : Nat) (x : AV) (v : Value), vs[j]? = some x → vals[j]? = some v → RV M F w x v
  | [], vs, h => by
    simp only [vresLS, Option.some.injEq] at h
    subst h
    exact ⟨[], by simp [Sem.run_pure], rfl, fun j x v h => by simp at h⟩
  | r :: rs, vs, h => by
    simp only [vresLS] at h
    split at h <;> try cases h
    rename_i v hv
    split at h <;> try cases h
    rename_i vs' hvs
    obtain ⟨val, h1, h2⟩ := vres1S_run hT hC hv
    obtain ⟨vals, h3, h4, h5⟩ := vresLS_run hT hC hvs
    refine ⟨val :: vals, ?_, by simp [h4], fun j x u hx hu => ?_⟩
    · rw [List.mapM_cons]
      simp only [Sem.run_bind]
      cases r <;> simp only [h1, h3, Result.andThen_ok, Sem.run_pure] at * <;> simp_all [Sem.run_pure]
    · cases j with
      | zero => simp at hx hu; subst hx; subst hu; exact h2
      | succ j => exact h5 j x u (by simpa using hx) (by simpa using hu)
theorem vresLS_len {T : Nat → Option TI} {env : Env} {s : List (Nat × AB)} : ∀ {rs : List ResultVar} {vs : List AV}, vresLS T env s rs = some vs → rs.length = vs.length
  | [], vs, h => by simp only [vresLS, Option.some.injEq] at h; subst h; rfl
  | r :: rs, vs, h => by
    simp only [vresLS] at h
    split at h <;> try cases h
    split at h <;> try cases h
    rename_i h'
    simp [vresLS_len h']
theorem vresS_run (hT : TabOK P cx.T) {fn : Func} (hC : CS cx M F U [] s w env a) {v : AV} (h : vresS cx.T env s fn.results.toList = some v) :
    ∃ val, (results fn a.tmps).run P w = .ok val w ∧ RV M F w v val := by
  have key : ∀ {vs : List AV}, vresLS cx.T env s fn.results.toList = some vs → ∃ vals : List Value, (results fn a.tmps).run P w = .ok (if h : vals.toArray.size = 1 then vals.toArray[0] else .tuple vals.toArray) w ∧ vals.length = vs.length ∧ ∀ (j : Nat) (x : AV) (v : Value), vs[j]? = some x → vals[j]? = some v → RV M F w x v := by
    intro vs h
    obtain ⟨vals, h1, h2, h3⟩ := vresLS_run hT hC h
    refine ⟨vals, ?_, h2, h3⟩
    unfold results
    rw [← Array.toArray_toList (xs := fn.results)]
    rw [List.mapM_toArray]
    simp only [Sem.run_bind, Sem.run_pure, map_eq_pure_bind]
    erw [h1]
    rfl
  unfold vresS at h
  split at h
  · rename_i r hr
    obtain ⟨vals, h1, h2, h3⟩ := key (vs := [v]) (by rw [hr]; simp [vresLS, h])
    obtain ⟨u, rfl⟩ : ∃ u, vals = [u] := by
      match vals, h2 with
      | [u], _ => exact ⟨u, rfl⟩
    exact ⟨u, by simpa using h1, h3 0 v u rfl rfl⟩
  · rename_i hr
    split at h <;> try cases h
    rename_i vs hvs
    obtain ⟨vals, h1, h2, h3⟩ := key hvs
    have hne : vals.length ≠ 1 := by
      intro e
      have hl : vs.length = 1 := by omega
      have : fn.results.toList.length = 1 := by rw [vresLS_len hvs, hl]
      match hm : fn.results.toList, this with
      | [r], _ => exact hr r hm
    refine ⟨.tuple vals.toArray, by rw [h1]; simp [hne], .tup vs vals h2 h3⟩

def takeK : Nat → List Nat → List Nat → (List Nat → Prop) → Prop
  | 0, _, acc, K => K acc
  | _ + 1, [], acc, K => K acc
  | n + 1, x :: r, acc, K => appF acc [x] fun acc => takeK n r acc K
theorem takeK_some : ∀ {n : Nat} {l acc : List Nat} {K : List Nat → Prop}, takeK n l acc K → ∃ l, K l
  | 0, _, _, _, h => ⟨_, h⟩
  | _ + 1, [], _, _, h => ⟨_, h⟩
  | n + 1, x :: r, acc, K, h => by
    unfold takeK at h
    rw [appF_eq] at h
    exact takeK_some h
/-- What the function hands back, and the objects that it tells of. -/
def resK (T : Nat → Option TI) (rs : List ResultVar) (n : Nat) (R : AV → List (Nat × AB) → Prop) (env : Env) (s : List (Nat × AB)) : Prop := match vresS T env s rs with
  | some v => fAV 100 v fun v => takeK n lits [] fun told => occK 100 v told fun σ => reachK 50 s 0 σ fun σ => match nodupB σ && uptoB n 0 σ with
    | true => match gatherS σ s σ 0 with
      | some s2 => match v.rn (gsel σ) with
        | some v2 => fSt s2 fun s2 => fAV 100 v2 fun v2 => R v2 s2
        | none => False
      | none => False
    | false => False
  | none => False
theorem resK_get {T : Nat → Option TI} {rs : List ResultVar} {R : AV → List (Nat × AB) → Prop} (h : resK T rs n R env s) : ∃ v σ s2 v2, vresS T env s rs = some v ∧ nodupB σ = true ∧ uptoB n 0 σ = true ∧ gatherS σ s σ 0 = some s2 ∧ v.rn (gsel σ) = some v2 ∧ R v2 s2 := by
  unfold resK at h
  split at h <;> try exact h.elim
  rename_i v hv
  rw [fAV_eq] at h
  obtain ⟨told, h⟩ := takeK_some h
  obtain ⟨σ0, h⟩ := occK_some h
  obtain ⟨σ, h⟩ := reachK_some h
  split at h <;> try exact h.elim
  rename_i hn
  simp only [Bool.and_eq_true] at hn
  split at h <;> try exact h.elim
  rename_i s2 hs2
  split at h <;> try exact h.elim
  rename_i v2 hv2
  rw [fSt_eq, fAV_eq] at h
  exact ⟨v, σ, s2, v2, hv, hn.1, hn.2, hs2, hv2, h⟩
def KV (T : Nat → Option TI) (rs : List ResultVar) (n : Nat) (R : AV → List (Nat × AB) → Prop) : Exit → Env → List (Nat × AB) → Prop
  | .normal => resK T rs n R
  | .ret => resK T rs n R
  | _ => fun _ _ => False

theorem Contract.of_V (hT : TabOK P cx.T) {f : Nat} {fn : Func} {c : Code} {args : List AV} {R : AV → List (Nat × AB) → Prop} (hf : P.funcs[f]? = some fn) (hb : fn.body = some c) (hce : Callee P f) (hnt : cx.nt = fn.ntmps)
    (hle : args.length ≤ fn.ntmps) (hbel : belowB n s = true) (h : V P cx n c (argEnv 0 args) s (KV cx.T fn.results.toList n R)) : Contract P cx.G f args s R := by
  refine ⟨hce, fun g F U w vals hS hG hl hv => calls_of_wp hf hb ?_⟩
  have hgN : ∀ id, n ≤ id → g id = none := fun id hid => hS.gdom id fun ab hab => by have := belowB_get hbel id ab hab; omega
  have hC : CS cx ⟨fun _ => none, g⟩ F U [] s w (argEnv 0 args) { tmps := vals.toArray ++ Array.replicate (fn.ntmps - vals.toArray.size) Go.undef, defers := [] } := by
    refine ⟨hS, hG, fun t => ?_, by simp [hnt]; omega, rfl⟩
    rw [look_argEnv, if_pos (Nat.zero_le t)]
    rcases Nat.lt_or_ge t args.length with ht | ht
    · rw [Nat.sub_zero, List.getElem?_eq_getElem ht]
      refine hv t _ _ (List.getElem?_eq_getElem ht) ?_
      unfold slotv
      simp only [Array.getD_eq_getD_getElem?]
      rw [Array.getElem?_append_left (by simp; omega)]
      simp [List.getElem?_eq_getElem (show t < vals.length by omega)]
    · rw [Nat.sub_zero, List.getElem?_eq_none ht]
      exact .undef _
  refine wp_mono (h.h ⟨w, g, F, U, s⟩ _ w ⟨fun _ => none, g⟩ F U hgN hC ⟨fun _ _ h => h, fun _ h => h, fun _ h => h, fun b hb => .inl hb, .refl _ _, fun k b h => by simp at h, fun id ab b h1 h2 h3 => .inr ⟨id, ab, h1, h2, h3⟩, fun id ab h => .inl ⟨ab, h⟩⟩) ?_
  intro e a' w' hq
  obtain ⟨env', s', M', F', U', hK, hC', hZ'⟩ := hq
  have fin : resK cx.T fn.results.toList n R env' s' → a'.defers = [] ∧ ∃ v, (results fn a'.tmps).run P w' = .ok v w' ∧ ∃ v' res s' g' F' U', (Ending.returned v) = .returned v' ∧ R res s' ∧ (∀ id b, g id = some b → g' id = some b) ∧ (∀ id ab, (id, ab) ∈ s' → (∃ ab0, (id, ab0) ∈ s) ∨ g id = none) ∧
      (∀ b, F b → F' b) ∧ (∀ b, U b → U' b) ∧ (∀ b, F' b → F b ∨ w.heap.size ≤ b ∨ LiveG g s b) ∧ Ext U w w' ∧ St ⟨fun _ => none, g'⟩ F' U' [] s' w' ∧ RV ⟨fun _ => none, g'⟩ F' w' res v' := by
    intro hr
    obtain ⟨v, σ, s2, v2, hv, h1, h2, h3, h4, hR⟩ := resK_get hr
    obtain ⟨val, hrun, hrv⟩ := vresS_run hT hC' hv
    obtain ⟨M2, F2, U2, hC2, hZ2⟩ := GV.gather_M σ h3 h1 h2 ⟨w, g, F, U, s⟩ a' w' M' F' U' hgN hC' hZ'
    obtain ⟨hCC, e1, e2, e3⟩ := hC2
    rw [e1, e2, e3] at hCC hZ2
    exact ⟨hC'.defers, val, hrun, val, v2, s2, (M'.gath σ).g, F', U', rfl, hR, hZ2.g, hZ2.ids, hZ2.FF, hZ2.UU, hZ2.Fn, hZ2.ext, hCC.st, hrv.rn (via_gsel' M' σ) h4⟩
  cases e with
  | normal => exact fin hK
  | ret => exact fin hK
  | _ => exact hK.elim
theorem Contract.of_v (hT : TabOK P cx.T) (hm : P.follows .mixedOrders = true) {f : Nat} {fn : Func} {c : Code} {args : List AV} {R : AV → List (Nat × AB) → Prop} {kt : List (Nat × Nat)} (hf : P.funcs[f]? = some fn) (hb : fn.body = some c) (hce : Callee P f) (hnt : cx.nt = fn.ntmps) (hok : okCode kt c = true)
    (hle : args.length ≤ fn.ntmps) (hbel : belowB n s = true) (h : vc P cx n kt c (argEnv 0 args) s (KV cx.T fn.results.toList n R)) : Contract P cx.G f args s R :=
  Contract.of_V hT hf hb hce hnt hle hbel (vc_sound hT hm hok h)
/-- As 'KV'; told otherwise at the end. -/
def KG (cx : Ctx) (rs : List ResultVar) (n : Nat) (R : AV → List (Nat × AB) → Prop) : Exit → Env → List (Nat × AB) → Prop
  | .normal => fun env s => ∃ env' s', GV cx n env [] s env' s' ∧ resK cx.T rs n R env' s'
  | .ret => fun env s => ∃ env' s', GV cx n env [] s env' s' ∧ resK cx.T rs n R env' s'
  | _ => fun _ _ => False
theorem Contract.of_vG (hT : TabOK P cx.T) (hm : P.follows .mixedOrders = true) {f : Nat} {fn : Func} {c : Code} {args : List AV} {R : AV → List (Nat × AB) → Prop} {kt : List (Nat × Nat)} (hf : P.funcs[f]? = some fn) (hb : fn.body = some c) (hce : Callee P f) (hnt : cx.nt = fn.ntmps) (hok : okCode kt c = true)
    (hle : args.length ≤ fn.ntmps) (hbel : belowB n s = true) (h : vc P cx n kt c (argEnv 0 args) s (KG cx fn.results.toList n R)) : Contract P cx.G f args s R :=
  Contract.of_V hT hf hb hce hnt hle hbel ((vc_sound hT hm hok h).gpost fun e env s hk => by
    cases e with
    | normal => exact hk
    | ret => exact hk
    | _ => exact hk.elim)
/-- A round's body, told as it stands. -/
theorem V.of {kt : List (Nat × Nat)} {c : Code} {K : Exit → Env → List (Nat × AB) → Prop} (hT : TabOK P cx.T) (hm : P.follows .mixedOrders = true) (hok : okCode kt c = true) (h : vc P cx n kt c env s K) : V P cx n c env s K := vc_sound hT hm hok h
end
end Go.Pv
/- A table of types, told entry by entry. -/
namespace Go.Pv
open Go.RowKit

def tabOf : List (Nat × TI) → Nat → Option TI
  | [], _ => none
  | (t, ti) :: r, x => match Nat.beq t x with
    | true => some ti
    | false => tabOf r x
def aggOf : TypeDesc → Bool
  | .struct _ => true
  | .array _ _ => true
  | _ => false
/-- One entry. -/
def TabEnt (P : Program) (t : Nat) (ti : TI) : Prop := P.underlying t = some ti.u ∧ ti.agg = aggOf ti.u ∧
  ∃ i z, P.info? t = some i ∧ i.size = ti.size ∧ i.bytes = ti.bytes ∧ i.zero = some z ∧ ti.zero.map dconst = z.cells.toList.map some ∧ z.cells.toList.length = ti.size ∧
    (match ti.agg with
      | true => z = .agg z.cells.toList.toArray
      | false => z.cells.toList = [z] ∧ z.oneCell' = true)
theorem TabEnt.mk' {P : Program} {t : Nat} {ti : TI} (i : TypeInfo) (z : Value) (h1 : P.underlying t = some ti.u) (h2 : ti.agg = aggOf ti.u) (h3 : P.info? t = some i) (h4 : i.size = ti.size) (h5 : i.bytes = ti.bytes) (h6 : i.zero = some z) (h7 : ti.zero.map dconst = z.cells.toList.map some)
    (h8 : z.cells.toList.length = ti.size) (h9 : match ti.agg with
      | true => z = .agg z.cells.toList.toArray
      | false => z.cells.toList = [z] ∧ z.oneCell' = true) : TabEnt P t ti := ⟨h1, h2, i, z, h3, h4, h5, h6, h7, h8, h9⟩
theorem TabOK.nil {P : Program} : TabOK P (tabOf []) := fun t ti h => by simp [tabOf] at h
theorem TabOK.cons {P : Program} {t : Nat} {ti : TI} {r : List (Nat × TI)} (h : TabEnt P t ti) (hr : TabOK P (tabOf r)) : TabOK P (tabOf ((t, ti) :: r)) := by
  intro x ti' hx
  simp only [tabOf] at hx
  split at hx
  · rename_i he
    have := beq_t he
    subst this
    cases hx
    obtain ⟨h1, h2, i, z, h3, h4, h5, h6, h7, h8, h9⟩ := h
    refine ⟨h1, ?_, i, z, z.cells.toList, h3, h4, h5, h6, by simp, h7, h8, fun ha => ?_, fun ha => ?_⟩
    · rw [h2]
      cases ti.u <;> simp [aggOf]
    · rw [ha] at h9; exact h9
    · rw [ha] at h9; exact h9
  · exact hr x ti' hx
end Go.Pv
/- A law's row: its arguments as data, its answer, what it leaves as it was. -/
namespace Go.Pv
open Go.RowKit Go.ChangeShapes Go.WideShapes Go.Deep

/-- Data of a type, cell by cell. -/
def Dat (T : Nat → Option TI) : Nat → Nat → List DV → Prop
  | 0, _, _ => False
  | n + 1, t, xs => match T t with
    | some ti => match ti.u with
      | .int k => ∃ m : Int, k.min ≤ m ∧ m ≤ k.max ∧ xs = [.int k m]
      | .bool => ∃ b, xs = [.bool b]
      | .string => ∃ s : ByteArray, s.size ≤ maxLen ∧ xs = [.str s]
      | .slice e => match T e with
        | some te => xs = [.nil] ∨ ∃ rows, rows.length ≤ maxLen ∧ (∀ r ∈ rows, Dat T n e r) ∧ xs = [.list te.size rows]
        | none => False
      | .struct fs => fs.toList.foldr (fun f (k : List DV → Prop) xs => ∃ a b, xs = a ++ b ∧ Dat T n f.type a ∧ k b) (fun xs => xs = []) xs
      | _ => False
    | none => False

/-- Types that are data. -/
def datT (T : Nat → Option TI) : Nat → Nat → Bool
  | 0, _ => false
  | n + 1, t => match T t with
    | some ti => match ti.u with
      | .int _ => true
      | .bool => true
      | .string => true
      | .slice e => match T e with
        | some te => (match te.size with
          | 0 => false
          | _ + 1 => true) && datT T n e
        | none => false
      | .struct fs => (fs.toList.foldr (fun f (k : Nat → Bool) off => Nat.beq f.offset off && (match T f.type with
          | some tf => datT T n f.type && k (off + tf.size)
          | none => false)) (fun off => Nat.beq off ti.size)) 0
      | _ => false
    | none => false

section
variable {H : Type} {enc : TypeId × Value → H} {P : Program} {T : Nat → Option TI} {w : World} {base : Nat} {spare : Nat → Bool} {held : Bool}

theorem cell_lt {w : World} {a : Addr} {v : Value} (h : w.cell? a = some v) : a.block < w.heap.size := by
  unfold World.cell? at h
  rcases Nat.lt_or_ge a.block w.heap.size with h1 | h1
  · exact h1
  · rw [Array.getElem?_eq_none h1] at h; cases h

theorem cellsOf_tab (hT : TabOK P T) {t : Nat} {ti : TI} (ht : T t = some ti) : P.cellsOf t = ti.size := by
  obtain ⟨_, _, i, z, zs, h3, h4, _⟩ := hT t ti ht
  unfold Program.cellsOf
  rw [h3]
  simp [h4]

/-- What reads as data is data. -/
theorem trod_dat (hT : TabOK P T) : ∀ (n : Nat) (t : Nat) (cs : List Value) (fuel : Nat) (x : DataW H × List MemPlace), datT T n t = true → DataW.trod enc P w base spare held fuel t cs = some x →
    ∃ xs, Dat T n t xs ∧ xs.length = cs.length ∧ ∀ (j : Nat) (y : DV) (v : Value), xs[j]? = some y → cs[j]? = some v → RD (fun b => b < w.heap.size) w y v
  | 0, t, cs, fuel, x, h, _ => by simp [datT] at h
  | n + 1, t, cs, fuel, x, h, hx => by
    simp only [datT] at h
    simp only [Dat]
    cases hti : T t with
    | none => rw [hti] at h; cases h
    | some ti =>
      rw [hti] at h
      simp only at h ⊢
      have hu := (hT t ti hti).1
      have one : ∀ (y : DV) (v : Value), RD (fun b => b < w.heap.size) w y v → ∀ (j : Nat) (y' : DV) (v' : Value), [y][j]? = some y' → [v][j]? = some v' → RD (fun b => b < w.heap.size) w y' v' := by
        intro y v h j y' v' hy hv
        match j, hy, hv with
        | 0, hy, hv => simp at hy hv; subst hy; subst hv; exact h
        | j + 1, hy, hv => simp at hy
      cases hti2 : ti.u <;> rw [hti2] at h hu <;> simp only at h ⊢ <;> try (cases h; done)
      case bool =>
        obtain ⟨b, rfl, _⟩ := DataW.trod_bool hu hx
        exact ⟨_, ⟨b, rfl⟩, rfl, one _ _ (.bool b)⟩
      case int k =>
        obtain ⟨m, rfl, _, hw⟩ := DataW.trod_int hu hx
        simp only [Lit.wf, Bool.and_eq_true, decide_eq_true_eq] at hw
        exact ⟨_, ⟨m, hw.1, hw.2, rfl⟩, rfl, one _ _ (.int k m)⟩
      case string =>
        obtain ⟨s, rfl, _, hs⟩ := DataW.trod_string hu hx
        exact ⟨_, ⟨s, by omega, rfl⟩, rfl, one _ _ (.str s)⟩
      case slice e =>
        cases hte : T e with
        | none => rw [hte] at h; cases h
        | some te =>
          rw [hte] at h
          simp only [Bool.and_eq_true] at h ⊢
          obtain ⟨h0, h⟩ := h
          have hsz : te.size ≠ 0 := by
            intro e
            rw [e] at h0
            cases h0
          rcases open_slice hu hx with ⟨rfl, _⟩ | ⟨a, len, cap, m, k, D, Pl, rfl, hb, hl, hc, hm, _, hi⟩
          · exact ⟨_, .inl rfl, rfl, one _ _ .nil⟩
          · have hlm : len ≤ m := by rw [hm]; split <;> omega
            rw [cellsOf_tab hT hte] at hi
            have hel : ∀ i : Nat, ∃ r : List DV, i < len → (Dat T n e r ∧ r.length = te.size ∧ ∀ j, j < te.size → ∃ v y, w.cell? (a.add (i * te.size + j)) = some v ∧ r[j]? = some y ∧ RD (fun b => b < w.heap.size) w y v) := by
              intro i
              by_cases hil : i < len
              · obtain ⟨cs', hcs, htr⟩ := hi i (by omega)
                obtain ⟨_, hcl, hat⟩ := World.cells?_some hcs
                obtain ⟨r, h1, h2, h3⟩ := trod_dat hT n e cs' k _ h htr
                refine ⟨r, fun _ => ⟨h1, by omega, fun j hj => ?_⟩⟩
                have hj1 : j < cs'.length := by omega
                have hj2 : j < r.length := by omega
                refine ⟨cs'[j], r[j], ?_, List.getElem?_eq_getElem hj2, h3 j _ _ (List.getElem?_eq_getElem hj2) (List.getElem?_eq_getElem hj1)⟩
                rw [← add_of_add, hat j hj, List.getElem?_eq_getElem hj1]
              · exact ⟨[], fun h => absurd h hil⟩
            obtain ⟨R, hR⟩ := Classical.axiomOfChoice hel
            have hget : ∀ (i : Nat) (r : List DV), ((List.range len).map R)[i]? = some r → i < len ∧ r = R i := by
              intro i r hr
              rw [List.getElem?_map] at hr
              obtain ⟨i', hi', rfl⟩ := Option.map_eq_some_iff.1 hr
              have h1 := List.getElem?_eq_some_iff.1 hi'
              obtain ⟨h1, h2⟩ := h1
              simp at h1 h2
              subst h2
              exact ⟨h1, rfl⟩
            refine ⟨_, .inr ⟨(List.range len).map R, by simp; omega, fun r hr => ?_, rfl⟩, rfl, one _ _ ?_⟩
            · obtain ⟨i, hi', rfl⟩ := List.mem_map.1 hr
              exact (hR i (by simpa using hi')).1
            · by_cases hz : len = 0
              · subst hz
                simp only [List.range_zero, List.map_nil]
                exact .empty _ _ _
              · have hrl : ((List.range len).map R).length = len := by simp
                have := RD.list (N := fun b => b < w.heap.size) (w := w) te.size ((List.range len).map R) a cap (fun i j => (w.cell? (a.add (i * te.size + j))).getD Go.undef) (by rw [hrl]; exact hl) (by
                    obtain ⟨v, y, hv, _⟩ := (hR 0 (by omega)).2.2 0 (by omega)
                    have := cell_lt hv
                    rwa [block_of_add] at this) (fun i r hr => by
                    obtain ⟨h1, rfl⟩ := hget i r hr
                    exact (hR i h1).2.1) (fun i j hi' hj => by
                    obtain ⟨v, y, hv, _⟩ := (hR i (by omega)).2.2 j hj
                    simp [hv]) (fun i r hr j y hy => by
                    obtain ⟨h1, rfl⟩ := hget i r hr
                    have hj : j < te.size := by
                      have := (List.getElem?_eq_some_iff.1 hy).1
                      have := (hR i h1).2.1
                      omega
                    obtain ⟨v, y', hv, hy', hrd⟩ := (hR i h1).2.2 j hj
                    rw [hy] at hy'
                    cases hy'
                    simp only [hv, Option.getD_some]
                    exact hrd)
                rw [hrl] at this
                exact this
      case struct fs =>
        obtain ⟨ys, m, _, _, hcl, _, hf⟩ := DataW.trod_struct hu hx
        rw [cellsOf_tab hT hti] at hcl
        have hf' : ∀ f ∈ fs.toList, ∃ y, DataW.trod enc P w base spare held m f.type ((cs.drop f.offset).take (P.cellsOf f.type)) = some y := by
          intro f hfm
          obtain ⟨i, hi⟩ := List.mem_iff_getElem?.1 hfm
          have h1 := hf i f (by simpa using hi)
          have hi2 : i < ys.length := by
            have := (List.getElem?_eq_some_iff.1 hi).1
            simp at this
            omega
          exact ⟨ys[i], by rw [h1, List.getElem?_eq_getElem hi2]⟩
        have key : ∀ (l : List Field) (off : Nat), (∀ f ∈ l, ∃ y, DataW.trod enc P w base spare held m f.type ((cs.drop f.offset).take (P.cellsOf f.type)) = some y) →
            (l.foldr (fun f (k : Nat → Bool) off => Nat.beq f.offset off && (match T f.type with
              | some tf => datT T n f.type && k (off + tf.size)
              | none => false)) (fun off => Nat.beq off ti.size)) off = true → off ≤ cs.length →
            ∃ xs, (l.foldr (fun f (k : List DV → Prop) xs => ∃ a b, xs = a ++ b ∧ Dat T n f.type a ∧ k b) (fun xs => xs = [])) xs ∧ xs.length = cs.length - off ∧ ∀ (j : Nat) (y : DV) (v : Value), xs[j]? = some y → cs[off + j]? = some v → RD (fun b => b < w.heap.size) w y v := by
          intro l
          induction l with
          | nil =>
            intro off _ hb hle
            simp only [List.foldr_nil] at hb
            have := Nat.eq_of_beq_eq_true hb
            exact ⟨[], rfl, by simp; omega, fun j y v hy => by simp at hy⟩
          | cons f l ih =>
            intro off hfs hb hle
            simp only [List.foldr_cons, Bool.and_eq_true] at hb
            obtain ⟨hb1, hb2⟩ := hb
            have hb1 := Nat.eq_of_beq_eq_true hb1
            split at hb2 <;> try cases hb2
            rename_i tf htf
            simp only [Bool.and_eq_true] at hb2
            obtain ⟨y, hy⟩ := hfs f (by simp)
            obtain ⟨a, ha1, ha2, ha3⟩ := trod_dat hT n f.type _ m y hb2.1 hy
            have hlen : a.length = tf.size := by
              -- the reading speaks of as many cells as the type has
              have hall := hb2.2
              have hge : off + tf.size ≤ cs.length := by
                have hmono : ∀ (l : List Field) (off : Nat), (l.foldr (fun f (k : Nat → Bool) off => Nat.beq f.offset off && (match T f.type with
                    | some tf => datT T n f.type && k (off + tf.size)
                    | none => false)) (fun off => Nat.beq off ti.size)) off = true → off ≤ ti.size := by
                  intro l
                  induction l with
                  | nil =>
                    intro off h
                    simp only [List.foldr_nil] at h
                    exact Nat.le_of_eq (Nat.eq_of_beq_eq_true h)
                  | cons g l ih2 =>
                    intro off h
                    simp only [List.foldr_cons, Bool.and_eq_true] at h
                    obtain ⟨_, h⟩ := h
                    split at h <;> try cases h
                    simp only [Bool.and_eq_true] at h
                    have := ih2 _ h.2
                    omega
                have := hmono l _ hall
                omega
              rw [ha2, cellsOf_tab hT htf]
              simp
              omega
            have hle2 : off + tf.size ≤ cs.length := by
              rw [ha2, cellsOf_tab hT htf] at hlen
              simp at hlen
              by_cases h0 : tf.size = 0
              · omega
              · omega
            obtain ⟨b, hb1', hb2', hb3'⟩ := ih (off + tf.size) (fun g hg => hfs g (by simp [hg])) hb2.2 hle2
            refine ⟨a ++ b, ?_, by simp [hlen, hb2']; omega, fun j y' v hy' hv => ?_⟩
            · simp only [List.foldr_cons]
              exact ⟨a, b, rfl, ha1, hb1'⟩
            · by_cases hj : j < a.length
              · rw [List.getElem?_append_left hj] at hy'
                refine ha3 j y' v hy' ?_
                rw [List.getElem?_take, if_pos (by rw [cellsOf_tab hT htf]; omega), List.getElem?_drop, hb1]
                exact hv
              · rw [List.getElem?_append_right (by omega)] at hy'
                refine hb3' (j - a.length) y' v hy' ?_
                rw [← hv]
                congr 1
                omega
        obtain ⟨xs, h1, h2, h3⟩ := key fs.toList 0 hf' h (Nat.zero_le _)
        exact ⟨xs, h1, by simpa using h2, fun j y v hy hv => h3 j y v hy (by simpa using hv)⟩
end
end Go.Pv
/- A law that answers true, whatever its input: its row, of its contract. -/
namespace Go.Pv
open Go.RowKit Go.ChangeShapes Go.WideShapes

/-- An argument of a type that is data. -/
def ArgD (T : Nat → Option TI) (n t : Nat) (x : AV) : Prop := match T t with
  | some ti => match ti.agg with
    | true => ∃ xs, Dat T n t xs ∧ x = .agg (xs.map .d)
    | false => ∃ y, Dat T n t [y] ∧ x = .d y
  | none => False
def ArgsD (T : Nat → Option TI) (n : Nat) : List Nat → List AV → Prop
  | [], xs => xs = []
  | t :: ts, xs => ∃ x r, xs = x :: r ∧ ArgD T n t x ∧ ArgsD T n ts r
def datTs (T : Nat → Option TI) (n : Nat) : List Nat → Bool
  | [] => true
  | t :: r => datT T n t && datTs T n r

section
variable {H : Type} {enc : TypeId × Value → H} {P : Program} {T : Nat → Option TI} {w : World} {base : Nat} {spare : Nat → Bool} {held : Bool}

theorem okWide_plain (hT : TabOK P T) {n t : Nat} {ti : TI} (ht : T t = some ti) (hd : datT T n t = true) {r : Reach} {b0 : Nat} {v : Value} (h : Value.okWide P w r b0 t v) : (ti.agg = true → ∃ cs, v = .agg cs) ∧ (ti.agg = false → v.cells = #[v]) := by
  obtain ⟨hu, hag, _⟩ := hT t ti ht
  cases n with
  | zero => simp [datT] at hd
  | succ n =>
    simp only [datT, ht] at hd
    cases hti : ti.u <;> rw [hti] at hd hu hag <;> simp only at hd <;> try (cases hd; done)
    case int k =>
      obtain ⟨m, rfl⟩ := okWide_int hu h
      exact ⟨fun e => by simp [e] at hag, fun _ => rfl⟩
    case bool =>
      obtain ⟨m, rfl⟩ := okWide_bool hu h
      exact ⟨fun e => by simp [e] at hag, fun _ => rfl⟩
    case string =>
      refine ⟨fun e => by simp [e] at hag, fun _ => ?_⟩
      simp only [Value.okWide, hu, Cell.okWide] at h
      cases v <;> simp_all [Cell.ok, Value.cells]
    case slice e =>
      refine ⟨fun e => by simp [e] at hag, fun _ => ?_⟩
      simp only [Value.okWide, hu, Cell.okWide] at h
      cases v <;> simp_all [Cell.ok, Value.cells]
    case struct fs =>
      refine ⟨fun _ => ?_, fun e => ?_⟩
      · simp only [Value.okWide, hu] at h
        obtain ⟨cs, h, _⟩ := h
        exact ⟨cs, h⟩
      · rw [hag.2 (.inl ⟨fs, rfl⟩)] at e; cases e

theorem arg_rv (hT : TabOK P T) {n t : Nat} (hd : datT T n t = true) {r : Reach} {b0 : Nat} {v : Value} {d : DataW H} {ps : List MemPlace} (hok : Value.okWide P w r b0 t v) (h : DataW.Trod enc P w base spare held t v d ps) :
    ∃ x, ArgD T n t x ∧ ∀ M, RV M (fun b => b < w.heap.size) w x v := by
  obtain ⟨fuel, h⟩ := h
  obtain ⟨xs, h1, h2, h3⟩ := trod_dat hT n t _ fuel _ hd h
  have : ∃ ti, T t = some ti := by
    cases n with
    | zero => simp [datT] at hd
    | succ n =>
      cases ht : T t with
      | none => simp [datT, ht] at hd
      | some ti => exact ⟨ti, rfl⟩
  obtain ⟨ti, ht⟩ := this
  obtain ⟨k1, k2⟩ := okWide_plain hT ht hd hok
  unfold ArgD
  rw [ht]
  simp only
  cases hag : ti.agg with
  | true =>
    obtain ⟨cs, rfl⟩ := k1 hag
    refine ⟨_, ⟨xs, h1, rfl⟩, fun M => ?_⟩
    have := RV.agg (M := M) (F := fun b => b < w.heap.size) (w := w) (xs.map AV.d) cs.toList (by simp [Value.cells] at h2; simp [h2]) (fun j u hu => by
      have hj := (List.getElem?_eq_some_iff.1 hu).1
      have hj2 : j < xs.length := by simp [Value.cells] at h2; simp at hj; omega
      exact (h3 j _ u (List.getElem?_eq_getElem hj2) (by simpa [Value.cells] using hu)).oneCell) (fun j x u hx hu => by
      rw [List.getElem?_map] at hx
      obtain ⟨y, hy, rfl⟩ := Option.map_eq_some_iff.1 hx
      exact .d (h3 j y u hy (by simpa [Value.cells] using hu)))
    simpa using this
  | false =>
    have hc := k2 hag
    rw [hc] at h2 h3
    match xs, h2, h1, h3 with
    | [y], _, h1, h3 => exact ⟨_, ⟨y, h1, rfl⟩, fun M => .d (h3 0 y v rfl rfl)⟩

theorem args_rv (hT : TabOK P T) {n : Nat} : ∀ (ts : List TypeId) (vs : List Value) (ds : List (DataW H)) (ps : List MemPlace), datTs T n ts = true →
    (∀ (j : Nat) t v, ts[j]? = some t → vs[j]? = some v → ∃ r b0, Value.okWide P w r b0 t v) → DataW.TrodAll enc P w base spare held ts vs ds ps →
    ∃ xs, ArgsD T n ts xs ∧ xs.length = vs.length ∧ ∀ (j : Nat) (x : AV) (v : Value), xs[j]? = some x → vs[j]? = some v → ∀ M, RV M (fun b => b < w.heap.size) w x v
  | [], vs, ds, ps, _, _, h => by
    obtain ⟨rfl, _, _⟩ := trodAll_nil h
    exact ⟨[], rfl, rfl, fun j x v hx => by simp at hx⟩
  | t :: ts, vs, ds, ps, hd, hok, h => by
    obtain ⟨v, vs', d, ds', p, q, rfl, rfl, rfl, h1, h2⟩ := trodAll_cons h
    simp only [datTs, Bool.and_eq_true] at hd
    obtain ⟨r, b0, hv⟩ := hok 0 t v rfl rfl
    obtain ⟨x, hx1, hx2⟩ := arg_rv hT hd.1 hv h1
    obtain ⟨xs, k1, k2, k3⟩ := args_rv hT ts vs' ds' q hd.2 (fun j t v ht hv => hok (j + 1) t v (by simpa using ht) (by simpa using hv)) h2
    refine ⟨x :: xs, ⟨x, xs, rfl, hx1, k1⟩, by simp [k2], fun j y u hy hu => ?_⟩
    cases j with
    | zero => simp at hy hu; subst hy; subst hu; exact hx2
    | succ j => exact k3 j y u (by simpa using hy) (by simpa using hu)

theorem trodAll_below (hl : laidOutB P = true) {W W' : World} (hb : Below W.heap.size W W') {sp : Nat → Bool} (hsp : ∀ b, b < W.heap.size → sp b = true) : ∀ (ts : List TypeId) (vs : List Value) (ds : List (DataW H)) (ps : List MemPlace), (ts.all fun t => P.readableRec t && decide (t < P.types.size)) = true →
    (∀ x ∈ ps, x.block < W.heap.size) → DataW.TrodAll enc P W 0 (fun _ => true) true ts vs ds ps → DataW.TrodAll enc P W' 0 sp true ts vs ds ps
  | [], vs, ds, ps, _, _, h => by
    obtain ⟨rfl, rfl, rfl⟩ := trodAll_nil h
    exact trodAll_mk0
  | t :: ts, vs, ds, ps, hr, hlt, h => by
    obtain ⟨v, vs', d, ds', p, q, rfl, rfl, rfl, h1, h2⟩ := trodAll_cons h
    simp only [List.all_cons, Bool.and_eq_true, decide_eq_true_eq] at hr
    exact ⟨p, q, WideElems.Trod_stays hl hr.1.1 hr.1.2 h1 (fun x hx => hb.same (hlt x (by simp [hx]))) (fun x hx => hsp _ (hlt x (by simp [hx]))), trodAll_below hl hb hsp ts vs' ds' q (by simpa using hr.2) (fun x hx => hlt x (by simp [hx])) h2, rfl⟩

/-- The law's call. -/
theorem law_callsG (hT : TabOK P T) {G : Gl} {n f : Nat} {fn : Func} {s : ChangeSpec} {apart fresh handsOn again : Bool} {tb : TypeId} (hl : laidOutB P = true) (hres : fn.resultTypes = #[tb]) (htb : P.underlying tb = some .bool) (hdat : datTs T n fn.params.toList = true)
    (hr : (fn.params.toList.all fun t => P.readableRec t && decide (t < P.types.size)) = true) (hvars : s.vars = [])
    (hspec : ∀ ds : List (DataW H), ds.length = fn.params.size → s.fn H ds = { results := [.lit (.bool true)], args := ds })
    (hC : ∀ xs, ArgsD T n fn.params.toList xs → Contract P G f xs [] (fun r t => r = .d (.bool true) ∧ t = []))
    {W : World} {base : Nat} {args : Array Value} {ds gs : List (DataW H)} {before : List MemPlace}
    (hval : ∀ (j : Nat) t v, fn.params[j]? = some t → args[j]? = some v → Value.okWide P W .any base t v)
    (hW : DataW.Whole enc P fn.params.toList s.vars apart W args.toList ds gs before) (hG : Glob G (fun b => b < W.heap.size) W) : Calls P f args W fun e W' => ∃ v, e = .returned v ∧ s.post enc P fn apart fresh handsOn again W args v W' := by
  have hlt := hW.lt
  have hW0 := hW
  obtain ⟨p, q, hA, hV, rfl, hfz, hnd⟩ := hW
  rw [hvars] at hV
  obtain ⟨rfl, rfl⟩ := trodVars_none hV
  simp only [List.append_nil] at hlt hW0 hfz hnd
  obtain ⟨xs, h1, h2, h3⟩ := args_rv hT fn.params.toList args.toList ds p hdat (fun j t v ht hv => ⟨_, _, hval j t v (by simpa using ht) (by simpa using hv)⟩) hA
  have hdl : ds.length = fn.params.size := by
    have : ∀ (ts : List TypeId) (vs : List Value) (ds : List (DataW H)) (ps : List MemPlace), DataW.TrodAll enc P W 0 (fun _ => true) true ts vs ds ps → ds.length = ts.length := by
      intro ts
      induction ts with
      | nil => intro vs ds ps h; obtain ⟨_, rfl, _⟩ := trodAll_nil h; rfl
      | cons t ts ih =>
        intro vs ds ps h
        obtain ⟨v, vs', d, ds', p, q, rfl, rfl, rfl, _, h⟩ := trodAll_cons h
        simp [ih vs' ds' q h]
    rw [this _ _ _ _ hA]
    simp
  have hS : St ⟨fun _ => none, fun _ => none⟩ (fun b => b < W.heap.size) (fun b => b < W.heap.size) [] [] W :=
    ⟨fun r ab b hr hm => by cases r <;> simp [Here] at hr, fun r r' a1 a2 b hr => by cases r <;> simp [Here] at hr, fun r ab b hr => by cases r <;> simp [Here] at hr, .nil, fun b h => h, fun b h => h, fun _ _ => rfl, fun id ab h => (by simp at h), fun _ _ => rfl⟩
  have := (hC xs h1).2 (fun _ => none) (fun b => b < W.heap.size) (fun b => b < W.heap.size) W args.toList hS hG h2.symm (fun j x v hx hv => h3 j x v hx hv _)
  simp only [Array.toArray_toList] at this
  refine this.mono ?_
  rintro e W' ⟨v, res, s', g', F', U', rfl, ⟨rfl, rfl⟩, _, _, _, _, _, hX, _, hrv⟩
  have hv := hrv.bool_inv
  subst hv
  have hb : Below W.heap.size W W' := ⟨hX.os, hX.tape, hX.output, hX.size, hX.block⟩
  have htrue : ∀ (b : Nat) (sp : Nat → Bool) (hd : Bool), DataW.TrodAll enc P W' b sp hd fn.resultTypes.toList ((Value.bool true).resultList fn.resultTypes.size) [.lit (.bool true)] [] := by
    intro b sp hd
    rw [hres]
    exact trodAll_mk1 (shut_bool htb true)
  have hargs := trodAll_below hl hb (sp := fun b => decide (b < W.heap.size)) (fun b h => by simpa using h) fn.params.toList args.toList ds p hr hlt hA
  refine ⟨_, rfl, ds, [], p, [], p, [], hW0, ?_, ?_, ?_, hb.frame _, fun _ => ⟨ok_one (t := tb) hres rfl (okWide_bool_mk htb true), .lit (.bool true) :: ds, [], p, ⟨p, [], ?_, by rw [hvars]; exact rfl, by simp, ?_, hnd⟩, fun x hx _ => hx⟩⟩
  · rw [List.append_nil, hspec ds hdl]
    exact htrue _ _ _
  · rw [List.append_nil, hspec ds hdl]
    exact hargs
  · have : (s.fn H (ds ++ [])).vars = [] := by rw [List.append_nil, hspec ds hdl]
    rw [this, hvars]
    exact rfl
  · have h1 := htrue 0 (fun _ => true) true
    have h2 : DataW.TrodAll enc P W' 0 (fun _ => true) true fn.params.toList args.toList ds p := trodAll_below hl hb (fun _ _ => rfl) fn.params.toList args.toList ds p hr hlt hA
    rw [hres] at h1 ⊢
    exact trodAll_append h2 h1
  · intro b off hp
    rw [hb.frozen (p := ⟨b, off, none⟩) (hlt _ hp)]
    exact hfz b off hp
/-- .. where no variable is read. -/
theorem law_calls (hT : TabOK P T) {G : Gl} (hG : ∀ g, G g = none) {n f : Nat} {fn : Func} {s : ChangeSpec} {apart fresh handsOn again : Bool} {tb : TypeId} (hl : laidOutB P = true) (hres : fn.resultTypes = #[tb]) (htb : P.underlying tb = some .bool) (hdat : datTs T n fn.params.toList = true)
    (hr : (fn.params.toList.all fun t => P.readableRec t && decide (t < P.types.size)) = true) (hvars : s.vars = [])
    (hspec : ∀ ds : List (DataW H), ds.length = fn.params.size → s.fn H ds = { results := [.lit (.bool true)], args := ds })
    (hC : ∀ xs, ArgsD T n fn.params.toList xs → Contract P G f xs [] (fun r t => r = .d (.bool true) ∧ t = []))
    {W : World} {base : Nat} {args : Array Value} {ds gs : List (DataW H)} {before : List MemPlace}
    (hval : ∀ (j : Nat) t v, fn.params[j]? = some t → args[j]? = some v → Value.okWide P W .any base t v)
    (hW : DataW.Whole enc P fn.params.toList s.vars apart W args.toList ds gs before) : Calls P f args W fun e W' => ∃ v, e = .returned v ∧ s.post enc P fn apart fresh handsOn again W args v W' :=
  law_callsG hT hl hres htb hdat hr hvars hspec hC hval hW (fun g cs hg => by rw [hG g] at hg; cases hg)
end
end Go.Pv
/- A slot that is nil, or an empty literal, told as the empty list. -/
namespace Go.Pv
open Go.RowKit
variable {P : Program} {cx : Ctx} {n : Nat} {env : Env} {s : List (Nat × AB)}
def wkV (sz : Nat) : AV → AV
  | .d .nil => .d (.list sz [])
  | .d .emp => .d (.list sz [])
  | v => v
theorem wkV_rv {M : Mp} {F : Nat → Prop} {w : World} {x : AV} {v : Value} (sz : Nat) (h : RV M F w x v) : RV M F w (wkV sz x) v := by
  have one : ∀ {x y : AV}, WkL [x] [y] → RV M F w x v → RV M F w y v := fun hw h =>
    hw.rv (vals := [v]) (fun j x u hx hu => by
      cases j with
      | zero => simp at hx hu; subst hx; subst hu; exact h
      | succ j => simp at hx) 0 _ v rfl rfl
  unfold wkV
  split
  · exact one (.n sz .nil) h
  · exact one (.e sz .nil) h
  · exact h
def wkE (t0 sz : Nat) : Env → Env
  | [] => []
  | (t, v) :: r => (t, match Nat.beq t0 t with
    | true => wkV sz v
    | false => v) :: wkE t0 sz r
theorem GV.wk (t0 sz : Nat) : GV cx n env [] s (wkE t0 sz env) s := by
  intro z a w M F U _ hC hZ
  refine ⟨M, F, U, ⟨hC.st, hC.gl, fun t => ?_, hC.size, hC.defers⟩, hZ⟩
  have key : ∀ {env : Env} {u : Value}, RV M F w (look env t) u → RV M F w (look (wkE t0 sz env) t) u := by
    intro env
    induction env with
    | nil => intro u _; exact .undef _
    | cons x r ih =>
      obtain ⟨i, y⟩ := x
      intro u h
      simp only [wkE, look] at h ⊢
      split
      · rename_i hb
        rw [hb] at h
        split
        · exact wkV_rv sz h
        · exact h
      · rename_i hb
        rw [hb] at h
        exact ih h
  exact key (hC.env t)
theorem Contract.wk {G : Gl} {f : Nat} {args args' : List AV} {R : AV → List (Nat × AB) → Prop} (h : Contract P G f args' s R) (hw : WkL args args') : Contract P G f args s R :=
  ⟨h.1, fun g F U w vals hS hG hl hv => h.2 g F U w vals hS hG (by rw [hl, hw.len]) (hw.rv hv)⟩
/-- A slice of ints that came in. -/
theorem arg_ints {T : Nat → Option TI} {n t e : Nat} {ti te : TI} {x : AV} (ht : T t = some ti) (hu : ti.u = .slice e) (ha : ti.agg = false) (he : T e = some te) (hk : te.u = .int .i64) (hsz : te.size = 1) (h : ArgD T (n + 2) t x) :
    ∃ ms : List Int, ms.length ≤ maxLen ∧ (∀ m ∈ ms, IntKind.min .i64 ≤ m ∧ m ≤ IntKind.max .i64) ∧ ∀ {r r' : List AV}, WkL r r' → WkL (x :: r) (.d (.list 1 (ms.map fun m => [.int .i64 m])) :: r') := by
  simp only [ArgD, ht, ha] at h
  obtain ⟨y, h, rfl⟩ := h
  simp only [Dat, ht, hu, he] at h
  rcases h with h | ⟨rows, h1, h2, h⟩
  · cases h
    exact ⟨[], by simp, by simp, fun hw => .n 1 hw⟩
  · cases h
    have : ∃ ms : List Int, rows = ms.map (fun m => [DV.int .i64 m]) ∧ ∀ m ∈ ms, IntKind.min .i64 ≤ m ∧ m ≤ IntKind.max .i64 := by
      clear h1
      induction rows with
      | nil => exact ⟨[], rfl, by simp⟩
      | cons r rs ih =>
        obtain ⟨ms, h3, h4⟩ := ih fun x hx => h2 x (List.mem_cons_of_mem _ hx)
        have h5 := h2 r (List.mem_cons_self ..)
        simp only [hk] at h5
        obtain ⟨m, h6, h7, h8⟩ := h5
        refine ⟨m :: ms, by rw [h3, h8]; rfl, ?_⟩
        intro x hx
        rcases List.mem_cons.1 hx with rfl | hx
        · exact ⟨h6, h7⟩
        · exact h4 x hx
    obtain ⟨ms, rfl, h3⟩ := this
    refine ⟨ms, by simpa using h1, h3, fun hw => ?_⟩
    rw [hsz]
    exact .s _ hw
end Go.Pv
/- A region that draws its order, each order told by itself: for operations that write, ahead of which not all is known. -/
namespace Go.Pv
open Go.RowKit

/-- Both; kept as it is when a goal is computed. -/
structure Both (p q : Prop) : Prop where
  a : p
  b : q
/-- An operation that has not come up: its place, what it waits for, whether it moves slots alone. -/
structure ND where
  i : Nat
  deps : List Nat
  late : Bool
  o : Oper
def doOp (o : Oper) (g : Option (Nat × Bool)) : Oper := ⟨o.dst, o.op, o.type, o.pos, o.after, g⟩
def posOf : List Nat → Nat → Nat → Option Nat
  | [], _, _ => none
  | x :: r, k, j => match Nat.beq x j with
    | true => some k
    | false => posOf r (k + 1) j
def renK (π : List Nat) (o : Oper) (K : Oper → Prop) : Prop := match o with
  | ⟨dst, op, ty, pos, after, g⟩ => match g with
    | none => K (doOp ⟨dst, op, ty, pos, after, g⟩ none)
    | some (j, p) => match posOf π 0 j with
      | some k => K (doOp ⟨dst, op, ty, pos, after, g⟩ (some (k, p)))
      | none => False
def rdy (π : List Nat) (nd : ND) : Bool := nd.deps.all fun d => memN d π
/-- The first that moves slots alone and may come up, and the others. -/
def lateR (π : List Nat) : List ND → (ND → List ND → Prop) → Prop → Prop
  | [], _, Z => Z
  | nd :: r, K, Z => match nd.late && rdy π nd with
    | true => K nd r
    | false => lateR π r (fun x r' => K x (nd :: r')) Z
/-- Each that may come up, and the others. -/
def allR (π : List Nat) : List ND → (ND → List ND → Prop) → Prop
  | [], _ => True
  | nd :: r, K => match rdy π nd with
    | true => match allB π r with
      | true => Both (K nd r) (allR π r fun x r' => K x (nd :: r'))
      | false => K nd r
    | false => allR π r fun x r' => K x (nd :: r')
where allB (π : List Nat) : List ND → Bool
  | [] => false
  | nd :: r => match rdy π nd with
    | true => true
    | false => allB π r
def fND : List ND → (List ND → Prop) → Prop
  | [], K => K []
  | x :: r, K => fND r fun r => K (x :: r)
theorem fND_eq : ∀ (l : List ND) (K : List ND → Prop), fND l K = K l
  | [], _ => rfl
  | x :: r, K => by simp only [fND, fND_eq r]
def fPi : List Nat → (List Nat → Prop) → Prop
  | [], K => K []
  | x :: r, K => fPi r fun r => K (x :: r)
theorem fPi_eq : ∀ (l : List Nat) (K : List Nat → Prop), fPi l K = K l
  | [], _ => rfl
  | x :: r, K => by simp only [fPi, fPi_eq r]
def vany (P : Program) (cx : Ctx) (env : Env) (K : List RE → List AB → List (Nat × AB) → Prop) : Nat → List ND → List Nat → Nat → List RE → List AB → List (Nat × AB) → Prop
  | 0, rest, _, _, re, L, s => match rest with
    | [] => K re L s
    | _ => False
  | f + 1, rest, π, m, re, L, s => match rest with
    | [] => K re L s
    | x :: r => lateR π (x :: r) (fun nd rest' => fND rest' fun rest' => fPi (π ++ [nd.i]) fun π' => renK π nd.o fun o => vseq P cx env [o] m re [] L s fun re L s => fN (m + 1) fun m => vany P cx env K f rest' π' m re L s)
        (allR π (x :: r) fun nd rest' => fND rest' fun rest' => fPi (π ++ [nd.i]) fun π' => renK π nd.o fun o => vseq P cx env [o] m re [] L s fun re L s => fN (m + 1) fun m => vany P cx env K f rest' π' m re L s)

theorem lateR_some {π : List Nat} : ∀ {l : List ND} {K : ND → List ND → Prop} {Z : Prop}, lateR π l K Z → Z ∨ ∃ nd r', nd ∈ l ∧ nd.late = true ∧ rdy π nd = true ∧ l.Perm (nd :: r') ∧ K nd r'
  | [], _, _, h => .inl h
  | nd :: r, K, Z, h => by
    simp only [lateR] at h
    split at h
    · rename_i hb
      simp only [Bool.and_eq_true] at hb
      exact .inr ⟨nd, r, by simp, hb.1, hb.2, .refl _, h⟩
    · rcases lateR_some h with h | ⟨x, r', h1, h2, h3, h4, h5⟩
      · exact .inl h
      · exact .inr ⟨x, nd :: r', by simp [h1], h2, h3, (h4.cons nd).trans (.swap _ _ _), h5⟩
theorem allB_none {π : List Nat} : ∀ {l : List ND}, allR.allB π l = false → ∀ x ∈ l, rdy π x = false
  | [], _, x, h => by cases h
  | nd :: r, hb, x, hx => by
    simp only [allR.allB] at hb
    split at hb
    · cases hb
    · rename_i h0
      rcases List.mem_cons.1 hx with rfl | hx
      · exact h0
      · exact allB_none hb x hx
theorem allR_all {π : List Nat} : ∀ {l : List ND} {K : ND → List ND → Prop}, allR π l K → ∀ nd ∈ l, rdy π nd = true → ∃ r', l.Perm (nd :: r') ∧ K nd r'
  | [], _, _, nd, hn, _ => by cases hn
  | x :: r, K, h, nd, hn, hr => by
    simp only [allR] at h
    split at h
    · rename_i hx
      split at h
      · rcases List.mem_cons.1 hn with rfl | hn
        · exact ⟨r, .refl _, h.a⟩
        · obtain ⟨r', h1, h2⟩ := allR_all h.b nd hn hr
          exact ⟨x :: r', (h1.cons x).trans (.swap _ _ _), h2⟩
      · rename_i hb
        rcases List.mem_cons.1 hn with rfl | hn
        · exact ⟨r, .refl _, h⟩
        · rw [allB_none hb nd hn] at hr; cases hr
    · rename_i hx
      rcases List.mem_cons.1 hn with rfl | hn
      · rw [hx] at hr; cases hr
      · obtain ⟨r', h1, h2⟩ := allR_all h nd hn hr
        exact ⟨x :: r', (h1.cons x).trans (.swap _ _ _), h2⟩
theorem posOf_some : ∀ {l : List Nat} {k j m : Nat}, posOf l k j = some m → ∃ i, m = k + i ∧ l[i]? = some j
  | [], k, j, m, h => by simp [posOf] at h
  | x :: r, k, j, m, h => by
    simp only [posOf] at h
    split at h
    · rename_i hb
      cases h
      exact ⟨0, rfl, by rw [Nat.eq_of_beq_eq_true hb]; rfl⟩
    · obtain ⟨i, h1, h2⟩ := posOf_some h
      exact ⟨i + 1, by omega, by simpa using h2⟩

/-- An operation with another guard that asks the same. -/
theorem wpOp_ren {P : Program} {ops ops' : List Oper} {Q X : Exit → Act → World → Prop} {i m : Nat} {o : Oper} {g : Option (Nat × Bool)} {a : Act} {w : World} {K K' : Act → World → Prop} (hi : ops[i]? = some o) (hm : ops'[m]? = some (doOp o g))
    (hw : Region.wanted (doOp o g) (yielded ops'.toArray a.tmps) = Region.wanted o (yielded ops.toArray a.tmps)) (hX : ∀ e a w, X e a w → e = .normal) (hK : ∀ a w, K' a w → K a w) (h : wpOp P ops'.toArray X m K' a w) : wpOp P ops.toArray Q i K a w := by
  unfold wpOp at h ⊢
  simp only [List.getElem?_toArray, hi, hm] at h ⊢
  rw [hw] at h
  split
  · rename_i hb
    rw [if_pos hb] at h
    left
    have h := h.resolve_right (fun h => by
      obtain ⟨_, a, w, hq⟩ := h
      cases hX _ _ _ hq)
    have he : execOp a.eval (doOp o g) = execOp a.eval o := rfl
    have h := Oper.wp_mono hK h
    unfold Oper.wp at h ⊢
    rw [he] at h
    generalize (execOp a.eval o).run P w = r at *
    cases r with
    | ok n w' =>
      cases n <;> simp only [Oper.upon] at h ⊢ <;>
        first
          | exact h
          | exact Calls.mono h (fun e w'' he => by
              cases e with
              | returned v => exact he
              | panicked c => exact absurd (hX _ _ _ he) (by simp)
              | outgrown =>
                obtain ⟨a1, w1, hq⟩ := he
                exact absurd (hX _ _ _ hq) (by simp))
    | halt x w' => cases x <;> simp only [Oper.upon] at h ⊢ <;> first | exact h | exact absurd (hX _ _ _ h) (by simp)
  · rename_i hb
    rw [if_neg hb] at h
    exact hK _ _ h

/-- What the nodes say of the operations. -/
structure NDs (ops : List Oper) (rest : List ND) (π : List Nat) : Prop where
  all : ∀ i, i < ops.length → i ∉ π → ∃ nd ∈ rest, nd.i = i
  op : ∀ nd ∈ rest, ops[nd.i]? = some nd.o
  out : ∀ nd ∈ rest, nd.i ∉ π
  nd : (rest.map (·.i)).Nodup
  deps : ∀ nd ∈ rest, ∀ d ∈ nd.deps, ∃ e ∈ nd.o.after.toList, Region.binds .any e = true ∧ e.on = d
  deps2 : ∀ nd ∈ rest, ∀ e ∈ nd.o.after.toList, Region.binds .any e = true → e.on ∈ nd.deps
  late : ∀ nd ∈ rest, nd.late = true → noSel ops = true ∧ lateAt0 ops nd.i = true
theorem NDs.step {ops : List Oper} {rest rest' : List ND} {π : List Nat} {x : ND} (h : NDs ops rest π) (hp : rest.Perm (x :: rest')) : NDs ops rest' (π ++ [x.i]) := by
  have hm : ∀ nd ∈ rest', nd ∈ rest := fun nd hn => hp.mem_iff.2 (List.mem_cons_of_mem _ hn)
  have hnd : ((x :: rest').map (·.i)).Nodup := (hp.map (·.i)).nodup_iff.1 h.nd
  rw [List.map_cons, List.nodup_cons] at hnd
  refine ⟨fun i hi hn => ?_, fun nd hn => h.op nd (hm nd hn), fun nd hn hi => ?_, hnd.2, fun nd hn => h.deps nd (hm nd hn), fun nd hn => h.deps2 nd (hm nd hn), fun nd hn => h.late nd (hm nd hn)⟩
  · simp only [List.mem_append, List.mem_singleton, not_or] at hn
    obtain ⟨nd, h1, h2⟩ := h.all i hi hn.1
    rcases List.mem_cons.1 (hp.mem_iff.1 h1) with rfl | h1
    · exact absurd h2.symm hn.2
    · exact ⟨nd, h1, h2⟩
  · rcases List.mem_append.1 hi with hi | hi
    · exact h.out nd (hm nd hn) hi
    · rw [List.mem_singleton] at hi
      exact hnd.1 (List.mem_map.2 ⟨nd, hn, hi⟩)

theorem memN_iff {t : Nat} : ∀ {l : List Nat}, memN t l = true ↔ t ∈ l
  | [] => by simp [memN]
  | x :: r => by
    simp only [memN, Bool.or_eq_true, List.mem_cons, memN_iff (l := r)]
    constructor
    · rintro (h | h)
      · exact .inl (Nat.eq_of_beq_eq_true h).symm
      · exact .inr h
    · rintro (rfl | h)
      · exact .inl (Nat.beq_refl _)
      · exact .inr h
theorem getD_listed {listed : Array Bool} {j : Nat} (h : ¬ Lsd listed j) : listed.getD j false = false := by
  unfold Lsd at h; simpa using h

section
variable {P : Program} {cx : Ctx} {env : Env} {a0 : Act} {z : Z} {Q : Exit → Act → World → Prop} {ops : List Oper} {K : List RE → List AB → List (Nat × AB) → Prop}
/-- One operation, told behind what came up ahead of it. -/
theorem one_sound (hT : TabOK P cx.T) {π : List Nat} {its : List It} {L : List AB} {s : List (Nat × AB)} {a : Act} {w : World} {M : Mp} {F U : Nat → Prop} (hok : ∀ (i : Nat) (it : It), its[i]? = some it → okw cx.nt (reat its i) it.o = true)
    (hπ : ∀ (k i : Nat), π[k]? = some i → ∃ it o, its[k]? = some it ∧ ops[i]? = some o ∧ it.o.dst = o.dst) (hlen : its.length = π.length) (hI : SI cx env its a0 L s a w M F U) (hZ : Sin z M F U s w) {nd : ND} (hnd : ops[nd.i]? = some nd.o)
    {K1 : List RE → List AB → List (Nat × AB) → Prop} (h : renK π nd.o fun o => vseq P cx env [o] its.length (reat its its.length) [] L s K1) {N : Act → World → Prop}
    (hN : ∀ its' L' s' a' w' M' F' U', (∀ (i : Nat) (it : It), its'[i]? = some it → okw cx.nt (reat its' i) it.o = true) → (∀ (k i : Nat), (π ++ [nd.i])[k]? = some i → ∃ it o, its'[k]? = some it ∧ ops[i]? = some o ∧ it.o.dst = o.dst) → its'.length = its.length + 1 → K1 (reat its' its'.length) L' s' → SI cx env its' a0 L' s' a' w' M' F' U' → Sin z M' F' U' s' w' → N a' w') :
    wpOp P ops.toArray Q nd.i N a w := by
  have key : ∀ g, Region.wanted (doOp nd.o g) (yielded (its.map (·.o) ++ [doOp nd.o g]).toArray a.tmps) = Region.wanted nd.o (yielded ops.toArray a.tmps) → vseq P cx env [doOp nd.o g] its.length (reat its its.length) [] L s K1 → wpOp P ops.toArray Q nd.i N a w := by
    intro g hw hv
    have hlast : (its.map (·.o) ++ [doOp nd.o g])[its.length]? = some (doOp nd.o g) := by simp
    have := vseq_sound (P := P) (z := z) (a0 := a0) (ops := its.map (·.o) ++ [doOp nd.o g]) (Q := fun e a w => e = .normal ∧ N a w) hT [doOp nd.o g] its [] L s a w M F U hok (fun c hc => by cases hc) rfl hI hZ hv
      (fun its' L' s' a' w' M' F' U' hok' hops' hK hS' hZ' => by
        have hlen' : its'.length = its.length + 1 := by
          have := congrArg List.length hops'
          simp at this
          omega
        have hget : ∀ k : Nat, (its.map (·.o) ++ [doOp nd.o g])[k]? = (its'.map (·.o))[k]? := fun k => by rw [hops']
        refine ⟨rfl, hN its' L' s' a' w' M' F' U' hok' (fun k i hk => ?_) hlen' hK hS' hZ'⟩
        rcases Nat.lt_or_ge k π.length with hlt | hge
        · rw [List.getElem?_append_left hlt] at hk
          obtain ⟨it, o, h1, h2, h3⟩ := hπ k i hk
          have hg := hget k
          rw [List.getElem?_append_left (by simp; omega), List.getElem?_map, h1, List.getElem?_map] at hg
          simp only [Option.map_some] at hg
          cases h4 : its'[k]? with
          | none => rw [h4] at hg; cases hg
          | some it' =>
            rw [h4] at hg
            simp only [Option.map_some, Option.some.injEq] at hg
            exact ⟨it', o, rfl, h2, by rw [← hg]; exact h3⟩
        · rw [List.getElem?_append_right hge] at hk
          have hk0 : k = its.length := by
            have := (List.getElem?_eq_some_iff.1 hk).1
            simp at this
            omega
          subst hk0
          rw [hlen, Nat.sub_self] at hk
          simp at hk
          subst hk
          have hg := hget its.length
          rw [hlast, List.getElem?_map] at hg
          cases h4 : its'[its.length]? with
          | none => rw [h4] at hg; cases hg
          | some it' =>
            rw [h4] at hg
            simp only [Option.map_some, Option.some.injEq] at hg
            exact ⟨it', nd.o, rfl, hnd, by rw [← hg]; rfl⟩)
    simp only [List.length_singleton, List.range'_one] at this
    rw [wpOps_cons] at this
    exact wpOp_ren (X := fun e a w => e = .normal ∧ N a w) hnd hlast hw (fun _ _ _ h => h.1) (fun a w h => h.2) this
  have hg0 : nd.o = ⟨nd.o.dst, nd.o.op, nd.o.type, nd.o.pos, nd.o.after, nd.o.guard⟩ := rfl
  rw [hg0] at h
  simp only [renK] at h
  split at h
  · rename_i hg
    exact key none (by simp [Region.wanted, doOp, hg]) h
  · rename_i j p hg
    split at h <;> try exact h.elim
    rename_i k hk
    refine key (some (k, p)) ?_ h
    obtain ⟨k', rfl, hk'⟩ := posOf_some hk
    obtain ⟨it, o, h1, h2, h3⟩ := hπ k' j hk'
    have hkl := (List.getElem?_eq_some_iff.1 h1).1
    simp only [Region.wanted, doOp, hg, yielded, List.getElem?_toArray, Nat.zero_add, h2]
    rw [List.getElem?_append_left (by simpa using hkl), List.getElem?_map, h1]
    simp [h3]

theorem vany_sound (hT : TabOK P cx.T) (hord : ordOK ops = true) (hQ : ∀ e a w, Q e a w → e = .normal) : ∀ (f : Nat) (rest : List ND) (π : List Nat) (its : List It) (L : List AB) (s : List (Nat × AB)) (a : Act) (w : World) (M : Mp) (F U : Nat → Prop) (listed : Array Bool),
    (∀ (i : Nat) (it : It), its[i]? = some it → okw cx.nt (reat its i) it.o = true) → (∀ (k i : Nat), π[k]? = some i → ∃ it o, its[k]? = some it ∧ ops[i]? = some o ∧ it.o.dst = o.dst) → its.length = π.length → SI cx env its a0 L s a w M F U → Sin z M F U s w →
    NDs ops rest π → listed.size = ops.length → (∀ i, Lsd listed i ↔ i ∈ π) → Closed ops listed →
    vany P cx env K f rest π its.length (reat its its.length) L s →
    (∀ its' L' s' a' w' M' F' U', (∀ (i : Nat) (it : It), its'[i]? = some it → okw cx.nt (reat its' i) it.o = true) → K (reat its' its'.length) L' s' → SI cx env its' a0 L' s' a' w' M' F' U' → Sin z M' F' U' s' w' → Q .normal a' w') →
    wpAny P .any ops.toArray Q (unl ops.length listed) listed a w := by
  have fin : ∀ (π : List Nat) (its : List It) (L : List AB) (s : List (Nat × AB)) (a : Act) (w : World) (M : Mp) (F U : Nat → Prop) (listed : Array Bool),
      (∀ (i : Nat) (it : It), its[i]? = some it → okw cx.nt (reat its i) it.o = true) → SI cx env its a0 L s a w M F U → Sin z M F U s w → NDs ops [] π → listed.size = ops.length → (∀ i, Lsd listed i ↔ i ∈ π) → K (reat its its.length) L s →
      (∀ its' L' s' a' w' M' F' U', (∀ (i : Nat) (it : It), its'[i]? = some it → okw cx.nt (reat its' i) it.o = true) → K (reat its' its'.length) L' s' → SI cx env its' a0 L' s' a' w' M' F' U' → Sin z M' F' U' s' w' → Q .normal a' w') →
      wpAny P .any ops.toArray Q (unl ops.length listed) listed a w := by
    intro π its L s a w M F U listed hok hI hZ hN hs hl hK hq
    have hall : ∀ i, i < ops.length → Lsd listed i := fun i hi => by
      rw [hl i]
      refine Classical.byContradiction fun hn => ?_
      obtain ⟨nd, h1, _⟩ := hN.all i hi hn
      cases h1
    have hu : unl ops.length listed = 0 := by
      unfold unl
      rw [List.countP_eq_zero]
      intro i hi
      have := hall i (List.mem_range.1 hi)
      unfold Lsd at this
      simp [this]
    rw [hu]
    refine ⟨?_, hq its L s a w M F U hok hK hI hZ⟩
    cases hr : Region.ready .any ops.toArray listed with
    | nil => rfl
    | cons x xs =>
      have : x ∈ Region.ready .any ops.toArray listed := by rw [hr]; exact List.mem_cons_self
      obtain ⟨h1, h2, _⟩ := (ready_mem rfl hs).1 this
      exact absurd (hall x h1) h2
  intro f
  induction f with
  | zero =>
    intro rest π its L s a w M F U listed hok hπ hlen hI hZ hN hs hl hc h hq
    unfold vany at h
    split at h
    · exact fin π its L s a w M F U listed hok hI hZ hN hs hl h hq
    · exact h.elim
  | succ f ih =>
    intro rest π its L s a w M F U listed hok hπ hlen hI hZ hN hs hl hc h hq
    unfold vany at h
    split at h
    · exact fin π its L s a w M F U listed hok hI hZ hN hs hl h hq
    rename_i x r
    simp only [fND_eq, fPi_eq, fN_eq] at h
    -- one that comes up
    have step : ∀ (nd : ND) (r' : List ND), (x :: r).Perm (nd :: r') → nd.i ∈ Region.ready .any ops.toArray listed → (renK π nd.o fun o => vseq P cx env [o] its.length (reat its its.length) [] L s fun re L s => vany P cx env K f r' (π ++ [nd.i]) (its.length + 1) re L s) →
        ∀ (Q' : Exit → Act → World → Prop), wpOp P ops.toArray Q' nd.i (fun a' w' => wpAny P .any ops.toArray Q (unl ops.length (listed.setIfInBounds nd.i true)) (listed.setIfInBounds nd.i true) a' w') a w := by
      intro nd r' hp hi h Q'
      have hmem : nd ∈ x :: r := hp.mem_iff.2 (by simp)
      refine one_sound (a0 := a0) (z := z) hT hok hπ hlen hI hZ (hN.op nd hmem) h fun its' L' s' a' w' M' F' U' hok' hπ' hlen' hK' hI' hZ' => ?_
      have hil : nd.i < ops.length := (List.getElem?_eq_some_iff.1 (hN.op nd hmem)).1
      refine ih r' (π ++ [nd.i]) its' L' s' a' w' M' F' U' _ hok' hπ' (by simp; omega) hI' hZ' (hN.step hp) (by simp [hs]) (fun j => ?_) (closed_set hc rfl hs hi) (by rw [hlen'] at hK' ⊢; exact hK') hq
      rw [lsd_set (by omega), hl j]
      simp
    have hpos : ∀ i, i ∈ Region.ready .any ops.toArray listed → unl ops.length listed = unl ops.length (listed.setIfInBounds i true) + 1 := fun i hi => by
      obtain ⟨h1, h2, _⟩ := (ready_mem rfl hs).1 hi
      exact unl_set hs h1 h2
    -- what waits for nothing may come up
    have hready : ∀ nd ∈ x :: r, nd.i ∈ Region.ready .any ops.toArray listed → rdy π nd = true := by
      intro nd hmem hi
      obtain ⟨_, _, o, h3, h4⟩ := (ready_mem rfl hs).1 hi
      rw [hN.op nd hmem] at h3
      cases h3
      unfold rdy
      rw [List.all_eq_true]
      intro d hd
      obtain ⟨e, he, hb, rfl⟩ := hN.deps nd hmem d hd
      exact memN_of ((hl _).1 (h4 e he hb))
    rcases lateR_some h with h | ⟨nd, r', h1, h2, h3, h4, h5⟩
    · -- each
      have hx : ¬ Lsd listed x.i := fun hh => hN.out x (by simp) ((hl _).1 hh)
      have hxl : x.i < ops.length := (List.getElem?_eq_some_iff.1 (hN.op x (by simp))).1
      have hne := ready_some (ops := ops) rfl hs hord hxl hx
      have hu : ∃ u, unl ops.length listed = u + 1 := by
        cases hr : Region.ready .any ops.toArray listed with
        | nil => exact absurd hr hne
        | cons y ys => exact ⟨_, hpos y (by rw [hr]; simp)⟩
      obtain ⟨u, hu⟩ := hu
      rw [hu]
      refine ⟨fun h0 => absurd h0 hne, fun i hi => ?_⟩
      obtain ⟨q1, q2, o, q3, q4⟩ := (ready_mem rfl hs).1 hi
      obtain ⟨nd, hmem, rfl⟩ := hN.all i q1 (fun hh => q2 ((hl i).2 hh))
      obtain ⟨r', hp, hk⟩ := allR_all h nd hmem (hready nd hmem hi)
      have := step nd r' hp hi hk Q
      rwa [show unl ops.length (listed.setIfInBounds nd.i true) = u by have := hpos nd.i hi; omega] at this
    · -- what moves slots alone comes first
      obtain ⟨hns, hla⟩ := hN.late nd h1 h2
      obtain ⟨o, k1, k2, k3, k4⟩ := lateAt0_spec hla
      have hno := hN.op nd h1
      rw [k1] at hno
      cases hno
      have hil : nd.i < ops.length := (List.getElem?_eq_some_iff.1 k1).1
      have hni : ¬ Lsd listed nd.i := fun hh => hN.out nd h1 ((hl _).1 hh)
      have hall : ∀ e ∈ nd.o.after.toList, Region.binds .any e = true → Lsd listed e.on := fun e he hb => (hl _).2 (by
        have := List.all_eq_true.1 h3 _ (hN.deps2 nd h1 e he hb)
        exact memN_iff.1 this)
      have hi : nd.i ∈ Region.ready .any ops.toArray listed := (ready_mem rfl hs).2 ⟨hil, hni, nd.o, k1, hall⟩
      have hstep := step nd r' h4 hi h5 (fun _ _ _ => False)
      unfold wpOp at hstep
      simp only [List.getElem?_toArray, k1] at hstep
      rw [if_pos (by simp [Region.wanted, k3])] at hstep
      have hwp := hstep.resolve_right (fun h => by
        obtain ⟨_, a, w, hq⟩ := h
        exact hq.elim)
      obtain ⟨v, hy, hK⟩ := slot_yield0 (ops := ops.toArray) k2 k3 hwp
      rw [hpos nd.i hi]
      refine wpAny_first (by simpa using k1) (fun j oj cs b hj he => ?_) (fun c a w hq => absurd (hQ _ _ _ hq) (by simp)) _ listed a w (fun j oj hj hne hld hw => k4 j oj (by simpa using hj) hne (fun hbit => by
        have hlj := waits hc nd.i j _ k1 hall hbit
        have hlt := (Array.getElem?_eq_some_iff.1 hj).1
        unfold Lsd at hlj
        rw [Array.getD_eq_getD_getElem?, Array.getElem?_eq_getElem (by simp at hlt; omega)] at hlj hld
        simp only [Option.getD_some] at hlj hld
        rw [hlj] at hld
        cases hld) hw) hi hy hK
      have := List.all_eq_true.1 hns oj (by have := List.mem_of_getElem? (show ops[j]? = some oj by simpa using hj); exact this)
      rw [he] at this
      cases this

/-- The nodes of a region. -/
def nodesOf (ops : List Oper) (lates : List Nat) : List ND := ops.zipIdx.map fun x => ⟨x.2, (x.1.after.toList.filter fun e => Region.binds .any e).map (·.on), memN x.2 lates, x.1⟩
theorem NDs.start {lates : List Nat} (h : (lates.all fun i => noSel ops && lateAt0 ops i) = true) : NDs ops (nodesOf ops lates) [] := by
  have get : ∀ nd ∈ nodesOf ops lates, ∃ i o, ops[i]? = some o ∧ nd = ⟨i, (o.after.toList.filter fun e => Region.binds .any e).map (·.on), memN i lates, o⟩ := by
    intro nd hn
    obtain ⟨⟨o, i⟩, h1, h2⟩ := List.mem_map.1 hn
    rw [List.mem_iff_getElem?] at h1
    obtain ⟨k, h1⟩ := h1
    simp only [List.getElem?_zipIdx, Option.map_eq_some_iff, Prod.mk.injEq, Nat.zero_add] at h1
    obtain ⟨o', h3, rfl, rfl⟩ := h1
    exact ⟨k, o', h3, h2.symm⟩
  refine ⟨fun i hi _ => ⟨_, List.mem_map.2 ⟨(ops[i], i), zipIdx_mem (List.getElem?_eq_getElem hi), rfl⟩, rfl⟩, fun nd hn => ?_, fun nd hn hi => (by cases hi), ?_, fun nd hn d hd => ?_, fun nd hn e he hb => ?_, fun nd hn hl => ?_⟩
  · obtain ⟨i, o, h1, rfl⟩ := get nd hn; exact h1
  · have : (nodesOf ops lates).map (·.i) = List.range ops.length := by
      unfold nodesOf
      rw [List.map_map]
      apply List.ext_getElem?
      intro k
      rcases Nat.lt_or_ge k ops.length with h | h
      · simp [h]
      · simp [h]
    rw [this]
    exact List.nodup_range
  · obtain ⟨i, o, h1, rfl⟩ := get nd hn
    obtain ⟨e, he, rfl⟩ := List.mem_map.1 hd
    rw [List.mem_filter] at he
    exact ⟨e, he.1, he.2, rfl⟩
  · obtain ⟨i, o, h1, rfl⟩ := get nd hn
    exact List.mem_map.2 ⟨e, List.mem_filter.2 ⟨he, hb⟩, rfl⟩
  · obtain ⟨i, o, h1, rfl⟩ := get nd hn
    have := List.all_eq_true.1 h i (memN_iff.1 hl)
    simpa only [Bool.and_eq_true] using this
end
/-- A region that draws, each order by itself; J tells what all of them come to. -/
theorem V.draw {P : Program} {cx : Ctx} {n : Nat} {env : Env} {s : List (Nat × AB)} (hT : TabOK P cx.T) (hm : P.follows .mixedOrders = true) {id : Nat} {ops : Array Oper} {K : Exit → Env → List (Nat × AB) → Prop} (lates : List Nat) (nodes : List ND) (hn : nodes = nodesOf ops.toList lates)
    (hk : (ordOK ops.toList && lates.all fun i => noSel ops.toList && lateAt0 ops.toList i) = true) (J : Env → List (Nat × AB) → Prop)
    (h : vany P cx env (fun re L s => envK cx.keep re env fun env => tidyK env cx.keep fun env => promK cx.keep n env L s fun env s => ∃ env' s', GV cx n env [] s env' s' ∧ J env' s') nodes.length nodes [] 0 [] [] s)
    (hJ : ∀ env s, J env s → K .normal env s) : V P cx n (.region id ops true) env s K := by
  subst hn
  simp only [Bool.and_eq_true] at hk
  refine .mk fun z a w M F U h0 hC hZ => ?_
  refine wp_mono (Q := fun e a w => e = .normal ∧ QV cx z K .normal a w) (wp_region_any hm ?_) (fun e a w hq => by obtain ⟨rfl, hq⟩ := hq; exact hq)
  have hnone : ∀ i, ¬ Lsd (Array.replicate ops.toList.length false) i := by
    intro i h
    unfold Lsd at h
    rw [Array.getD_eq_getD_getElem?] at h
    rw [Array.getElem?_replicate] at h
    split at h <;> simp at h
  have hX : ∀ U, Ext U w { w with drawn := w.drawn + 1 } := fun U => ⟨rfl, rfl, rfl, Nat.le_refl _, fun _ _ => rfl, fun _ _ => rfl⟩
  have hst : St M F U [] s { w with drawn := w.drawn + 1 } := ⟨fun r ab b hr hm => (hC.st.rb r ab b hr hm).mono (.refl _) (fun _ h => h) (fun b hb => hC.st.FU b hb) (hX U) (fun _ => rfl), hC.st.inj, hC.st.nU, hC.st.nd, hC.st.FU, hC.st.Ult, hC.st.dom, hC.st.tot, hC.st.gdom⟩
  have hSI : SI cx env [] a [] s a { w with drawn := w.drawn + 1 } M F U := ⟨hst, hC.gl.mono (fun _ h => h) (fun b hb => hC.st.FU b hb) (hX U), fun i it hit => (by simp at hit), fun t _ => (hC.env t).mono (.refl _) (fun _ h => h) hC.st.FU (hX U), hC.size, rfl⟩
  have hZ' : Sin z M F U s { w with drawn := w.drawn + 1 } := ⟨hZ.g, hZ.FF, hZ.UU, hZ.Fn, hZ.ext.trans (hX _) (fun _ h => h), hZ.ll, hZ.lg, hZ.ids⟩
  have hu : unl ops.toList.length (Array.replicate ops.toList.length false) = ops.size := by
    unfold unl
    have : ∀ m, (List.range m).countP (fun i => !((Array.replicate ops.toList.length false).getD i false)) = m := by
      intro m
      induction m with
      | zero => rfl
      | succ m ih =>
        rw [List.range_succ, List.countP_append, ih]
        have := hnone m
        unfold Lsd at this
        simp only [Bool.not_eq_true] at this
        simp only [List.countP_cons, List.countP_nil, this, Bool.not_false, if_true]
    rw [this]
    simp
  have := vany_sound (P := P) (cx := cx) (env := env) (a0 := a) (z := z) (Q := fun e a w => e = .normal ∧ QV cx z K .normal a w) (ops := ops.toList) hT hk.1 (fun _ _ _ h => h.1) _ _ [] [] [] s a { w with drawn := w.drawn + 1 } M F U (Array.replicate ops.toList.length false)
    (fun i it hit => by simp at hit) (fun k i hi => by simp at hi) rfl hSI hZ' (NDs.start hk.2) (by simp) (fun i => ⟨fun h => absurd h (hnone i), fun h => by cases h⟩) (fun j o _ h => absurd h (hnone j)) h ?_
  · rw [hu] at this
    simpa using this
  intro its' L' s' a'' w'' M'' F'' U'' hok hK hS hZ2
  rw [envK_eq] at hK
  simp only [tidyK_eq] at hK
  obtain ⟨env2, s2, hg, env3, s3, hg2, hk3⟩ := promK_get rfl hK
  have hCS : CS cx M'' F'' U'' L' s' w'' (envOf cx.keep (reat its' its'.length) env) a'' := ⟨hS.st, hS.gl, fun t => envOf_rv _ (fun e he hg => by
    obtain ⟨j, itj, hji, hitj, hdj, rfl, _⟩ := rlook_reat he
    exact (hS.slot j itj hitj t hdj).1 (by rw [show gsAt its' j itj = [] from hg]; exact trivial)) (fun hn => hS.env t fun i it hit => rlook_none hn i it (List.getElem?_eq_some_iff.1 hit).1 hit), hS.size, hS.defers.trans hC.defers⟩
  obtain ⟨M2, F2, U2, h4, h5⟩ := hg z a'' w'' M'' F'' U'' h0 ⟨hCS.st, hCS.gl, tidyE_rv hCS.env _, hCS.size, hCS.defers⟩ hZ2
  obtain ⟨M3, F3, U3, h6, h7⟩ := hg2 z a'' w'' M2 F2 U2 h0 h4 h5
  exact ⟨rfl, env3, s3, M3, F3, U3, hJ _ _ hk3, h6, h7⟩
/-- The nodes, of a table that a program printed. -/
def mkND : List (Nat × List Nat × Bool) → List Oper → List ND
  | (i, d, l) :: r, o :: os => ⟨i, d, l, o⟩ :: mkND r os
  | _, _ => []
def spLate : List (Nat × List Nat × Bool) → List Nat
  | [] => []
  | (i, _, true) :: r => i :: spLate r
  | (_, _, false) :: r => spLate r
def regionsOf : Code → List (Nat × List Oper)
  | .region id ops _ => [(id, ops.toList)]
  | .seq a b => regionsOf a ++ regionsOf b
  | .cond _ a b => regionsOf a ++ regionsOf b
  | .block _ c => regionsOf c
  | .loop c => regionsOf c
  | .rangeFunc _ _ a b => regionsOf a ++ regionsOf b
  | .scope c => regionsOf c
  | _ => []
def findReg : List (Nat × List Oper) → Nat → List Oper
  | [], _ => []
  | (i, l) :: r, x => match Nat.beq i x with
    | true => l
    | false => findReg r x
def specOf (ops : List Oper) : List (Nat × List Nat × Bool) := ops.zipIdx.map fun x => (x.2, (x.1.after.toList.filter fun e => Region.binds .any e).map (·.on), noSel ops && lateAt0 ops x.2)
theorem V.drawS {P : Program} {cx : Ctx} {n : Nat} {env : Env} {s : List (Nat × AB)} (hT : TabOK P cx.T) (hm : P.follows .mixedOrders = true) {id : Nat} {ops : Array Oper} {K : Exit → Env → List (Nat × AB) → Prop} (sp : List (Nat × List Nat × Bool)) (hn : mkND sp ops.toList = nodesOf ops.toList (spLate sp))
    (hk : (ordOK ops.toList && (spLate sp).all fun i => noSel ops.toList && lateAt0 ops.toList i) = true) (J : Env → List (Nat × AB) → Prop)
    (h : fND (mkND sp ops.toList) fun nodes => vany P cx env (fun re L s => envK cx.keep re env fun env => tidyK env cx.keep fun env => promK cx.keep n env L s fun env s => ∃ env' s', GV cx n env [] s env' s' ∧ J env' s') nodes.length nodes [] 0 [] [] s)
    (hJ : ∀ env s, J env s → K .normal env s) : V P cx n (.region id ops true) env s K := by
  rw [fND_eq] at h
  exact V.draw hT hm (spLate sp) _ hn hk J h hJ
end Go.Pv
/- The walk: code told by first-order states, so that goals stay small; and that it tells the truth. -/
namespace Go.Pv
open Go.RowKit

/-! ### Code by its path -/
def ch0 : Code → Code
  | .seq a _ => a
  | .cond _ a _ => a
  | .block _ c => c
  | .loop c => c
  | _ => .skip
def ch1 : Code → Code
  | .seq _ b => b
  | .cond _ _ b => b
  | _ => .skip
def getC (R : Code) : List Nat → Code
  | [] => R
  | k :: p => match k with
    | 0 => ch0 (getC R p)
    | _ + 1 => ch1 (getC R p)
theorem okCode_ch0 {kt : List (Nat × Nat)} {c : Code} (h : okCode kt c = true) : okCode kt (ch0 c) = true := by
  cases c <;> simp only [ch0, okCode, Bool.and_eq_true] at h ⊢ <;> first | exact h.1 | exact h | rfl
theorem okCode_ch1 {kt : List (Nat × Nat)} {c : Code} (h : okCode kt c = true) : okCode kt (ch1 c) = true := by
  cases c <;> simp only [ch1, okCode, Bool.and_eq_true] at h ⊢ <;> first | exact h.2 | rfl
theorem okCode_get {kt : List (Nat × Nat)} {R : Code} (h : okCode kt R = true) : ∀ p, okCode kt (getC R p) = true
  | [] => h
  | 0 :: p => okCode_ch0 (okCode_get h p)
  | (_ + 1) :: p => okCode_ch1 (okCode_get h p)
def opsC : Code → List Oper
  | .region _ ops _ => ops.toList
  | _ => []
def nthO : List Oper → Nat → Option Oper
  | [], _ => none
  | o :: r, i => match i with
    | 0 => some o
    | j + 1 => nthO r j
theorem nthO_eq : ∀ (l : List Oper) (i : Nat), nthO l i = l[i]?
  | [], _ => by simp [nthO]
  | _ :: _, 0 => rfl
  | _ :: r, j + 1 => by simp [nthO, nthO_eq r j]
inductive Fr where
  | sq (p : List Nat)
  | bl (id : Nat)
inductive Md where
  | code (p : List Nat)
  | reg (p : List Nat) (k i : Nat) (re : List RE) (dead : List (List (Nat × Bool))) (L : List AB)
  | ex (e : Exit)
structure Sta where
  md : Md
  st : List Fr
  env : Env
  s : List (Nat × AB)
abbrev KK := Exit → Env → List (Nat × AB) → Prop
def Kst (P : Program) (cx : Ctx) (n : Nat) (R : Code) (K : KK) : List Fr → KK
  | [] => K
  | .sq p :: st => KT (fun env s => V P cx n (getC R p) env s (Kst P cx n R K st)) (Kst P cx n R K st)
  | .bl id :: st => KB id (Kst P cx n R K st)

/-- The slots that are told on; those of which nothing is known left out. -/
def uAV (x : AV) (Z : Prop) (K : AV → Prop) : Prop := match x with
  | .d x => K (.d x)
  | .agg cs => K (.agg cs)
  | .tup cs => K (.tup cs)
  | .ref r off => K (.ref r off)
  | .slc r sz off len cap => K (.slc r sz off len cap)
  | .el r sz i j => K (.el r sz i j)
  | .mp r => K (.mp r)
  | .fn f cs => K (.fn f cs)
  | .ifc t x => K (.ifc t x)
  | .undef => Z
theorem uAV_cases {x : AV} {Z : Prop} {K : AV → Prop} (h : uAV x Z K) : (x = .undef ∧ Z) ∨ K x := by
  cases x <;> simp only [uAV] at h <;> first | exact .inr h | exact .inl ⟨rfl, h⟩
def tidyU (env : Env) : List Nat → (Env → Prop) → Prop
  | [], K => K []
  | t :: r, K => uAV (look env t) (tidyU env r K) fun v => tidyU env r fun en => K ((t, v) :: en)
theorem tidyU_get {M : Mp} {F : Nat → Prop} {w : World} {env : Env} {v : Nat → Value} (h : ∀ t, RV M F w (look env t) (v t)) : ∀ {ts : List Nat} {K : Env → Prop}, tidyU env ts K → ∃ en, (∀ t, RV M F w (look en t) (v t)) ∧ K en
  | [], K, hk => ⟨[], fun t => .undef _, hk⟩
  | t :: r, K, hk => by
    simp only [tidyU] at hk
    rcases uAV_cases hk with ⟨_, hk⟩ | hk
    · exact tidyU_get h hk
    · obtain ⟨en, h1, h2⟩ := tidyU_get h hk
      refine ⟨_, fun t' => ?_, h2⟩
      simp only [look]
      split
      · rename_i hb
        have := beq_t hb
        subst this
        exact h t
      · exact h1 t'

/-- Where the walk waits: the code at a path, told by hand. -/
structure StopG (P : Program) (cx : Ctx) (n : Nat) (R : Code) (K : KK) (p : List Nat) (st : List Fr) (env : Env) (s : List (Nat × AB)) : Prop where
  h : V P cx n (getC R p) env s (Kst P cx n R K st)

/-- A call's objects. -/
def ObjK (P : Program) (cx : Ctx) (s : List (Nat × AB)) (g : Nat) (args : List AV) (K : AV → List (Nat × AB) → Prop) : Prop :=
  occsK 100 args [] fun ρ0 => reachK 50 s 0 ρ0 fun ρ => match nodupB ρ with
    | true => match rnL (toF ρ) args with
      | some args1 => fAVs 100 args1 fun args1 => match selS ρ s ρ 0 with
        | some s0 => fSt s0 fun s0 => ∃ args' R, (WkL args1 args' ∧ Contract P cx.G g args' s0 R) ∧ ∀ res s1, R res s1 → tauK s ρ s1 fun τ => match nodupB (ρ ++ τ) && allNew s τ && covers s1 ρ.length with
          | true => match putS (ρ ++ τ) s1 s with
            | some s' => match res.rn (frF (ρ ++ τ)) with
              | some res' => K res' s'
              | none => False
            | none => False
          | false => False
        | none => False
      | none => False
    | false => False
/-- A call: by values alone, by data, by objects. -/
inductive CallG (P : Program) (cx : Ctx) (o : Oper) (rh : Operand → AV) (re : List RE) (gs : List (Nat × Bool)) (L : List AB) (s : List (Nat × AB)) (g : Nat) (args : List AV) (K : AV → List AB → List (Nat × AB) → Prop) (Z : Prop) : Prop
  | scal (args' : List AV) (v : AV) (h : sg re gs (Lend s args args' ∧ (nrL args' && v.scal) = true ∧ Contract P cx.G g args' [] (fun r t => r = v ∧ t = []))) (k : K v L s)
  | data (args' : List AV) (v : AV) (h : sg re gs (WkL args args' ∧ (nrL args' && nrL [v]) = true ∧ Contract P cx.G g args' [] (fun r t => r = v ∧ t = []))) (k : K v L s)
  | read (v : AV) (h : sg re gs (Reads P cx.G s g args v)) (k : K v L s)
  | grow (v : AV) (new : List AB) (h : sg re gs (ReadsN P cx.G L s g args v new)) (k : K v (L ++ new) s)
  | obj (hg : gs = []) (h : ObjK P cx s g args fun v s' => K v L s')
  | objg (h : HG re gs → ObjK P cx s g args fun v s' => K v L s') (hn : ¬ HG re gs → Z)
  | raw (hg : gs = []) (h : EJ P cx.G o rh L s K)
inductive CallH (P : Program) (cx : Ctx) (re : List RE) (gs : List (Nat × Bool)) (L : List AB) (s : List (Nat × AB)) (g : Nat) (args : List AV) (K : AV → List AB → Prop) : Prop
  | scal (args' : List AV) (v : AV) (h : sg re gs (Lend s args args' ∧ (nrL args' && v.scal) = true ∧ Contract P cx.G g args' [] (fun r t => r = v ∧ t = []))) (k : K v [])
  | data (args' : List AV) (v : AV) (h : sg re gs (WkL args args' ∧ (nrL args' && nrL [v]) = true ∧ Contract P cx.G g args' [] (fun r t => r = v ∧ t = []))) (k : K v [])
  | read (v : AV) (h : sg re gs (Reads P cx.G s g args v)) (k : K v [])
  | grow (v : AV) (new : List AB) (h : sg re gs (ReadsN P cx.G L s g args v new)) (k : K v new)

/-- Whom an operation calls, with what. -/
def callOf (rh : Operand → AV) (op : Op) (K : Nat → List AV → Prop) (Z : Prop) (B : Prop) : Prop := match op with
  | .call c => match c.callee with
    | .value f => match rh f with
      | .fn g caps => fAVs 100 (c.args.toList.map rh ++ caps) fun args => K g args
      | _ => B
    | _ => Z
  | _ => Z

/-- One operation of a region's head. -/
def hd1 (P : Program) (cx : Ctx) (env : Env) (s : List (Nat × AB)) (re : List RE) (L : List AB) (o : Oper) (K : List (Nat × Bool) → AV → List AB → Prop) : Prop := match okop cx.nt re o with
  | true => fG (gsOf re o.guard) fun gs => callOf (rho cx.G env re) o.op (fun g args => CallH P cx re gs L s g args fun v new => fAV 100 v fun v => fApp L new fun L => K gs v L)
      (vop P cx (sg re gs) (rho cx.G env re) L s o.op fun v new => fAV 100 v fun v => fApp L new fun L => K gs v L) False
  | false => False
/-- One operation of a region's tail. -/
def tl1 (P : Program) (cx : Ctx) (env : Env) (re : List RE) (dead : List (List (Nat × Bool))) (L : List AB) (s : List (Nat × AB)) (o : Oper) (K : List (Nat × Bool) → AV → List (List (Nat × Bool)) → List AB → List (Nat × AB) → Prop) : Prop := match skipB re dead o && okw cx.nt re o with
  | true => fG (gsOf re o.guard) fun gs => K gs .undef dead L s
  | false => match okop cx.nt re o with
    | true => fG (gsOf re o.guard) fun gs => callOf (rho cx.G env re) o.op
        (fun g args => CallG P cx o (rho cx.G env re) re gs L s g args (fun v L' s' => fAV 100 v fun v => fABs L' fun L' => fSt s' fun s' => K gs v dead L' s') (K gs .undef (gs :: dead) L s))
        (match isEff o.op with
          | true => match gs with
            | [] => veff P cx (rho cx.G env re) L s o.op fun v L' s' => fAV 100 v fun v => fABs L' fun L' => fSt s' fun s' => K [] v dead L' s'
            | g :: gr => (HG re (g :: gr) → veff P cx (rho cx.G env re) L s o.op fun v L' s' => fAV 100 v fun v => fABs L' fun L' => fSt s' fun s' => K (g :: gr) v dead L' s') ∧ (¬ HG re (g :: gr) → K (g :: gr) .undef ((g :: gr) :: dead) L s)
          | false => vop P cx (sg re gs) (rho cx.G env re) L s o.op fun v new => fAV 100 v fun v => fApp L new fun L => K gs v dead L s)
        False
    | false => False

section
variable (P : Program) (cx : Ctx) (n : Nat) (kt : List (Nat × Nat)) (ct : List Nat) (R : Code) (K : KK)
/-- One step of the walk. -/
def stp (rec : Sta → Prop) : Sta → Prop
  | ⟨.code p, st, env, s⟩ => match getC R p with
    | .skip => rec ⟨.ex .normal, st, env, s⟩
    | .label _ => rec ⟨.ex .normal, st, env, s⟩
    | .exit id => rec ⟨.ex (.exit id), st, env, s⟩
    | .ret => rec ⟨.ex .ret, st, env, s⟩
    | .seq _ _ => rec ⟨.code (0 :: p), .sq (1 :: p) :: st, env, s⟩
    | .cond c _ _ => match rho cx.G env [] c with
      | .d (.bool b) => bcase b (rec ⟨.code (0 :: p), st, env, s⟩) (rec ⟨.code (1 :: p), st, env, s⟩)
      | _ => False
    | .block id _ => rec ⟨.code (0 :: p), .bl id :: st, env, s⟩
    | .region id _ _ => match Nat.beq (ktab kt id) 1000 || memB id ct with
      | true => StopG P cx n R K p st env s
      | false => fLit (ktab kt id) nums fun k => rec ⟨.reg p k 0 [] [] [], st, env, s⟩
    | _ => StopG P cx n R K p st env s
  | ⟨.reg p k i re dead L, st, env, s⟩ => match nthO (opsC (getC R p)) i with
    | none => envK cx.keep re env fun env => tidyU env cx.keep fun env => promK cx.keep n env L s fun env s => rec ⟨.ex .normal, st, env, s⟩
    | some o => fO o.dst fun d => fLit (i + 1) nums fun i1 => match Nat.blt i k with
      | true => hd1 P cx env s re L o fun gs v L => rec ⟨.reg p k i1 (⟨i, d, gs, v⟩ :: re) dead L, st, env, s⟩
      | false => tl1 P cx env re dead L s o fun gs v dead L s => rec ⟨.reg p k i1 (⟨i, d, gs, v⟩ :: re) dead L, st, env, s⟩
  | ⟨.ex e, st, env, s⟩ => match st with
    | [] => K e env s
    | .sq p :: st => match e with
      | .normal => rec ⟨.code p, st, env, s⟩
      | e => rec ⟨.ex e, st, env, s⟩
    | .bl id :: st => match e with
      | .exit id' => match Nat.beq id' id with
        | true => rec ⟨.ex .normal, st, env, s⟩
        | false => rec ⟨.ex (.exit id'), st, env, s⟩
      | e => rec ⟨.ex e, st, env, s⟩
def run (m : Nat) : Sta → Prop := Nat.rec (fun _ => False) (fun _ ih σ => stp P cx n kt ct R K ih σ) m
end
theorem run_succ {P : Program} {cx : Ctx} {n : Nat} {kt : List (Nat × Nat)} {ct : List Nat} {R : Code} {K : KK} (m : Nat) (σ : Sta) : run P cx n kt ct R K (m + 1) σ = stp P cx n kt ct R K (run P cx n kt ct R K m) σ := rfl
theorem run_zero {P : Program} {cx : Ctx} {n : Nat} {kt : List (Nat × Nat)} {ct : List Nat} {R : Code} {K : KK} (σ : Sta) : run P cx n kt ct R K 0 σ = False := rfl
end Go.Pv
/- The walk's steps tell the truth. -/
namespace Go.Pv
open Go.RowKit

theorem callOf_cases {rh : Operand → AV} {op : Op} {K : Nat → List AV → Prop} {Z B : Prop} (h : callOf rh op K Z B) :
    (∃ c f g caps, op = .call c ∧ c.callee = .value f ∧ rh f = .fn g caps ∧ K g (c.args.toList.map rh ++ caps)) ∨ Z ∨ B := by
  unfold callOf at h
  split at h
  · rename_i c
    split at h
    · rename_i f hf
      split at h
      · rename_i g caps hg
        rw [fAVs_eq] at h
        exact .inl ⟨c, f, g, caps, rfl, hf, hg, h⟩
      · exact .inr (.inr h)
    · exact .inr (.inl h)
  · exact .inr (.inl h)

section
variable {P : Program} {cx : Ctx} {env : Env} {its : List It} {a0 a : Act} {L : List AB} {s : List (Nat × AB)} {w : World} {M : Mp} {F U : Nat → Prop} {z : Z}

theorem sg_mono {re : List RE} {gs : List (Nat × Bool)} {p q : Prop} (h : sg re gs p) (hpq : p → q) : sg re gs q := by
  cases gs with
  | nil => exact hpq h
  | cons x r => exact fun hg => hpq (h hg)
theorem CallH.vop {rh : Operand → AV} {re : List RE} {gs : List (Nat × Bool)} {c : Call} {f : Operand} {g : Nat} {caps : List AV} {K : AV → List AB → Prop} (hop : c.callee = .value f) (hf : rh f = .fn g caps) (h : CallH P cx re gs L s g (c.args.toList.map rh ++ caps) K) :
    Pv.vop P cx (sg re gs) rh L s (.call c) K := by
  simp only [Pv.vop, hop, hf]
  cases h with
  | scal args' v h k => exact .inl ⟨args', v, h, by simpa using k⟩
  | data args' v h k => exact .inr (.inl ⟨args', v, h, by simpa using k⟩)
  | read v h k => exact .inr (.inr ⟨v, [], sg_mono h fun q => q.toN, by simpa using k⟩)
  | grow v new h k => exact .inr (.inr ⟨v, new, h, k⟩)

theorem hd_step (hT : TabOK P cx.T) (hI : Told P cx env s its []) {o : Oper} {Kn : List (Nat × Bool) → AV → List AB → Prop} (h : hd1 P cx env s (reat its its.length) (Lat its [] its.length) o Kn) :
    ∃ v new, Told P cx env s (its ++ [⟨o, v, new⟩]) [] ∧ Kn (gsOf (reat its its.length) o.guard) v (Lat (its ++ [⟨o, v, new⟩]) [] (its.length + 1)) := by
  unfold hd1 at h
  split at h <;> try exact h.elim
  rename_i hok
  rw [fG_eq] at h
  have key : Pv.vop P cx (sg (reat its its.length) (gsOf (reat its its.length) o.guard)) (rho cx.G env (reat its its.length)) (Lat its [] its.length) s o.op (fun v new => Kn (gsOf (reat its its.length) o.guard) v (Lat its [] its.length ++ new)) →
      ∃ v new, Told P cx env s (its ++ [⟨o, v, new⟩]) [] ∧ Kn (gsOf (reat its its.length) o.guard) v (Lat (its ++ [⟨o, v, new⟩]) [] (its.length + 1)) := by
    intro h
    have hsm : ∀ (b : BinOp) (t : TypeId) (x y : Operand) (ty : TypeId), o.op = .binOp b t x y ty → isAS b = true → Sums b (rho cx.G env (reat its its.length) x) (rho cx.G env (reat its its.length) y) := fun b t x y ty hop hb => by rw [hop] at h; exact vop_sum h hb
    obtain ⟨v, new, hpj, h⟩ := vop_sound hT (H := HG (reat its its.length) (gsOf (reat its its.length) o.guard)) (fun p hp hg => sg_im p hp hg) h
    have hlast : (its ++ [(⟨o, v, new⟩ : It)])[its.length]? = some (⟨o, v, new⟩ : It) := by simp
    have hL : Lat (its ++ [(⟨o, v, new⟩ : It)]) [] (its.length + 1) = Lat its [] its.length ++ new := by
      rw [Lat_succ hlast, Lat_app (Nat.le_refl _)]
    refine ⟨v, new, ⟨fun i it hit => ?_, fun i it hit => ?_, fun i it hit => ?_⟩, by rw [hL]; exact h⟩
    · rcases Nat.lt_or_ge i its.length with hi | hi
      · rw [List.getElem?_append_left hi] at hit
        rw [reat_app (by omega)]
        exact hI.ok i it hit
      · have : i = its.length := by
          have := (List.getElem?_eq_some_iff.1 hit).1
          simp at this
          omega
        subst this
        rw [hlast] at hit
        cases hit
        rw [reat_app (Nat.le_refl _)]
        exact hok
    · rcases Nat.lt_or_ge i its.length with hi | hi
      · rw [List.getElem?_append_left hi] at hit
        unfold gsAt
        rw [reat_app (by omega), Lat_app (by omega)]
        exact hI.pj i it hit
      · have : i = its.length := by
          have := (List.getElem?_eq_some_iff.1 hit).1
          simp at this
          omega
        subst this
        rw [hlast] at hit
        cases hit
        unfold gsAt
        rw [reat_app (Nat.le_refl _), Lat_app (Nat.le_refl _)]
        exact hpj
    · rcases Nat.lt_or_ge i its.length with hi | hi
      · rw [List.getElem?_append_left hi] at hit
        rw [reat_app (by omega)]
        exact hI.sum i it hit
      · have : i = its.length := by
          have := (List.getElem?_eq_some_iff.1 hit).1
          simp at this
          omega
        subst this
        rw [hlast] at hit
        cases hit
        rw [reat_app (Nat.le_refl _)]
        exact hsm
  rcases callOf_cases h with ⟨c, f, g, caps, hop, hc, hf, h⟩ | h | h
  · have h2 := CallH.vop (L := Lat its [] its.length) hc hf h
    rw [← hop] at h2
    simp only [fAV_eq, fApp_eq] at h2
    exact key h2
  · simp only [fAV_eq, fApp_eq] at h
    exact key h
  · exact h.elim

theorem CallG.raw_cases {o : Oper} {rh : Operand → AV} {re : List RE} {gs : List (Nat × Bool)} {c : Call} {f : Operand} {g : Nat} {caps : List AV} {K : AV → List AB → List (Nat × AB) → Prop} {Z0 : Prop} (hT : TabOK P cx.T) (hop : o.op = .call c) (hc : c.callee = .value f) (hf : rh f = .fn g caps)
    (h : CallG P cx o rh re gs L s g (c.args.toList.map rh ++ caps) K Z0) :
    Pv.vop P cx (sg re gs) rh L s o.op (fun v new => K v (L ++ new) s) ∨ (gs = [] ∧ EJ P cx.G o rh L s K) ∨ ((HG re gs → EJ P cx.G o rh L s K) ∧ (¬ HG re gs → Z0)) := by
  have ob : ObjK P cx s g (c.args.toList.map rh ++ caps) (fun v s' => K v L s') → EJ P cx.G o rh L s K := by
    intro h
    have h2 : veff P cx rh L s o.op (fun v L' s' => L' = L ∧ K v L s') := by
      rw [hop]
      simp only [veff, hc, hf, fAVs_eq]
      have fin : (fun (v : AV) (s' : List (Nat × AB)) => K v L s') = fun v s' => L = L ∧ K v L s' := by
        funext v s'
        simp
      rw [fin] at h
      unfold ObjK at h
      simp only [fAVs_eq] at h
      exact h
    exact (veff_sound hT h2).mono fun v L' s' ⟨e, q⟩ => by rw [e]; exact q
  cases h with
  | scal args' v h k =>
    left
    rw [hop]
    simp only [Pv.vop, hc, hf]
    exact .inl ⟨args', v, h, by simpa using k⟩
  | data args' v h k =>
    left
    rw [hop]
    simp only [Pv.vop, hc, hf]
    exact .inr (.inl ⟨args', v, h, by simpa using k⟩)
  | read v h k =>
    left
    rw [hop]
    simp only [Pv.vop, hc, hf]
    exact .inr (.inr ⟨v, [], sg_mono h fun q => q.toN, by simpa using k⟩)
  | grow v new h k =>
    left
    rw [hop]
    simp only [Pv.vop, hc, hf]
    exact .inr (.inr ⟨v, new, h, k⟩)
  | obj hg h => exact .inr (.inl ⟨hg, ob h⟩)
  | objg h hn => exact .inr (.inr ⟨fun q => ob (h q), hn⟩)
  | raw hg h => exact .inr (.inl ⟨hg, h⟩)

/-- One operation of the tail is over. -/
theorem tl_step (hT : TabOK P cx.T) {ops : List Oper} {Q : Exit → Act → World → Prop} {dead : List (List (Nat × Bool))} {o : Oper}
    (hok : ∀ (i : Nat) (it : It), its[i]? = some it → okw cx.nt (reat its i) it.o = true) (hdead : ∀ c ∈ dead, ∃ i iti, its[i]? = some iti ∧ c = gsAt its i iti ∧ ¬ HG (reat its i) c)
    (hpre : ∀ (i : Nat) (it : It), its[i]? = some it → ops[i]? = some it.o) (hoi : ops[its.length]? = some o) (hI : SI cx env its a0 L s a w M F U) (hZ : Sin z M F U s w)
    {Kn : List (Nat × Bool) → AV → List (List (Nat × Bool)) → List AB → List (Nat × AB) → Prop} (h : tl1 P cx env (reat its its.length) dead L s o Kn) {X : Act → World → Prop}
    (hX : ∀ (v : AV) (new : List AB) (dead' : List (List (Nat × Bool))) (L' : List AB) (s' : List (Nat × AB)) (a' : Act) (w' : World) (M' : Mp) (F' U' : Nat → Prop),
      (∀ (i : Nat) (it : It), (its ++ [⟨o, v, new⟩])[i]? = some it → okw cx.nt (reat (its ++ [⟨o, v, new⟩]) i) it.o = true) →
      (∀ c ∈ dead', ∃ i iti, (its ++ [(⟨o, v, new⟩ : It)])[i]? = some iti ∧ c = gsAt (its ++ [⟨o, v, new⟩]) i iti ∧ ¬ HG (reat (its ++ [⟨o, v, new⟩]) i) c) →
      SI cx env (its ++ [⟨o, v, new⟩]) a0 L' s' a' w' M' F' U' → Sin z M' F' U' s' w' →
      reat (its ++ [(⟨o, v, new⟩ : It)]) (its.length + 1) = ⟨its.length, o.dst, gsOf (reat its its.length) o.guard, v⟩ :: reat its its.length →
      Kn (gsOf (reat its its.length) o.guard) v dead' L' s' → X a' w') : wpOp P ops.toArray Q its.length X a w := by
  have hdead' : ∀ c ∈ dead, ¬ HG (reat its its.length) c := fun c hc => by
    obtain ⟨i, iti, h1, h2, h3⟩ := hdead c hc
    intro hg
    rw [h2] at hg h3
    exact h3 (HG_move hok h1 (Nat.le_of_lt (List.getElem?_eq_some_iff.1 h1).1) (Nat.le_refl i) hg)
  have go : ∀ (v : AV) (new : List AB) (gs : List (Nat × Bool)) (dead2 : List (List (Nat × Bool))) (L' : List AB) (s' : List (Nat × AB)) (val : Value) (M' : Mp) (F' U' : Nat → Prop) (w' : World), okw cx.nt (reat its its.length) o = true → gs = gsOf (reat its its.length) o.guard →
      (dead2 = dead ∨ (dead2 = gs :: dead ∧ ¬ HG (reat its its.length) gs)) → Kn gs v dead2 L' s' →
      M.Le M' → (∀ b, F b → F' b) → Ext U w w' → St M' F' U' L' s' w' → Sin z M' F' U' s' w' →
      (HG (reat its its.length) (gsOf (reat its its.length) o.guard) → RV M' F' w' v val) → (¬ HG (reat its its.length) (gsOf (reat its its.length) o.guard) → val = Go.undef) → X (a.put o.dst val) w' := by
    intro v new gs dead2 L' s' val M' F' U' w' hoko hgs hd2 hv hle hFF hX' hst hZ' h1 h2
    subst hgs
    have hlast : (its ++ [(⟨o, v, new⟩ : It)])[its.length]? = some (⟨o, v, new⟩ : It) := by simp
    have hre : reat (its ++ [(⟨o, v, new⟩ : It)]) (its.length + 1) = ⟨its.length, o.dst, gsOf (reat its its.length) o.guard, v⟩ :: reat its its.length := by
      rw [reat, hlast]
      simp only [reat_app (its2 := [(⟨o, v, new⟩ : It)]) (Nat.le_refl its.length)]
    refine hX v new dead2 L' s' (a.put o.dst val) w' M' F' U' (fun i it hit => ?_) (fun c hc => ?_) (si_put hI hoko hle hFF hX' hst h1 h2) hZ' hre hv
    · rcases its_snoc hit with ⟨hi, hlt⟩ | ⟨rfl, rfl⟩
      · rw [reat_app (by omega)]; exact hok i it hi
      · rw [reat_app (Nat.le_refl _)]; exact hoko
    · have old : c ∈ dead → ∃ i iti, (its ++ [(⟨o, v, new⟩ : It)])[i]? = some iti ∧ c = gsAt (its ++ [(⟨o, v, new⟩ : It)]) i iti ∧ ¬ HG (reat (its ++ [(⟨o, v, new⟩ : It)]) i) c := fun hc => by
        obtain ⟨i, iti, k1, k2, k3⟩ := hdead c hc
        exact ⟨i, iti, dead_app k1 k2 k3⟩
      rcases hd2 with rfl | ⟨rfl, hn⟩
      · exact old hc
      · rcases List.mem_cons.1 hc with rfl | hc
        · exact ⟨its.length, _, hlast, by unfold gsAt; rw [reat_app (Nat.le_refl _)], by rw [reat_app (Nat.le_refl _)]; exact hn⟩
        · exact old hc
  unfold tl1 at h
  simp only [fG_eq, fAV_eq, fApp_eq, fABs_eq, fSt_eq] at h
  unfold wpOp
  simp only [List.getElem?_toArray, hoi]
  split at h
  · -- not met, as is known
    rename_i hsk
    simp only [Bool.and_eq_true] at hsk
    obtain ⟨hw, hn⟩ := si_dead (ops := ops) hok hpre hI hdead' hsk.2 hsk.1
    rw [if_neg hw]
    exact go .undef [] _ dead L s Go.undef M F U w hsk.2 rfl (.inl rfl) h (.refl M) (fun _ h => h) (.refl _ _) hI.st hZ (fun h => absurd h hn) (fun _ => rfl)
  split at h <;> try exact h.elim
  rename_i hoko
  have hokw := okop_okw hoko
  have hgd := si_guard (ops := ops) hok hpre hI (okop_gok hoko)
  have pure_ : (Pv.vop P cx (sg (reat its its.length) (gsOf (reat its its.length) o.guard)) (rho cx.G env (reat its its.length)) L s o.op fun v new => Kn (gsOf (reat its its.length) o.guard) v dead (L ++ new) s) →
      (if Region.wanted o (yielded ops.toArray a.tmps) = true then o.wp P a w X Q ∨ (o.asks P a w ∧ LetsOut Q) else X (a.put o.dst Go.undef) w) := by
    intro h
    obtain ⟨v, new, hpj, h⟩ := vop_sound hT (H := HG (reat its its.length) (gsOf (reat its its.length) o.guard)) (fun p hp hg => sg_im p hp hg) h
    by_cases hw : Region.wanted o (yielded ops.toArray a.tmps) = true
    · rw [if_pos hw]
      left
      have hg := hgd.1 hw
      refine wp_noQ (Oper.wp_mono ?_ (hpj hg M F U w a hI.st hI.gl (si_opn hok hI (okop_us hoko) hg)))
      rintro a' w' ⟨val, M', F', U', rfl, hG⟩
      have e := grew_eff hI.st hG
      exact go v new _ dead (L ++ new) s val M' F' U' w' hokw rfl (.inl rfl) h e.le e.FF e.ext e.st (hZ.eff e) (fun _ => e.rv) (fun h => absurd hg h)
    · rw [if_neg hw]
      have hg : ¬ HG (reat its its.length) (gsOf (reat its its.length) o.guard) := fun h => hw (hgd.2 h)
      -- the places that it would have laid are nobody's
      have hst' : St M F U (L ++ new) s w := by
        have hh : ∀ r ab b, Here (L ++ new) s r ab → M.at_ r = some b → Here L s r ab := fun r ab b hr hm => by
          cases r with
          | g id => exact hr
          | l n =>
            rcases Nat.lt_or_ge n L.length with q | q
            · simp only [Here] at hr ⊢
              rwa [List.getElem?_append_left q] at hr
            · rw [show M.at_ (.l n) = M.l n from rfl, hI.st.dom n q] at hm; cases hm
        exact ⟨fun r ab b hr hm => hI.st.rb r ab b (hh r ab b hr hm) hm, fun r r' a1 a2 b h1 h2 d1 d2 m1 m2 => hI.st.inj r r' a1 a2 b (hh _ _ _ h1 m1) (hh _ _ _ h2 m2) d1 d2 m1 m2, fun r ab b hr hd hm => hI.st.nU r ab b (hh r ab b hr hm) hd hm, hI.st.nd, hI.st.FU, hI.st.Ult, fun k hk => hI.st.dom k (by simp at hk; omega), hI.st.tot, hI.st.gdom⟩
      exact go v new _ dead (L ++ new) s Go.undef M F U w hokw rfl (.inl rfl) h (.refl M) (fun _ h => h) (.refl _ _) hst' hZ (fun h => absurd h hg) (fun _ => rfl)
  have eff_ : (∀ c x y, o.op ≠ .pick c x y) → Region.wanted o (yielded ops.toArray a.tmps) = true →
      EJ P cx.G o (rho cx.G env (reat its its.length)) L s (fun v L' s' => Kn (gsOf (reat its its.length) o.guard) v dead L' s') → o.wp P a w X Q := by
    intro hnp hw hE
    have hopn := si_opn hok hI (okop_us hoko) (hgd.1 hw)
    have hxs : ∀ x ∈ o.op.operands.toList, RV M F w (rho cx.G env (reat its its.length) x) (a.eval x) := by
      unfold Opn at hopn
      split at hopn
      · rename_i c x y hop
        exact absurd hop (hnp c x y)
      · exact hopn
    refine wp_noQ (Oper.wp_mono ?_ (hE M F U w a hI.st hI.gl hxs))
    rintro a' w' ⟨v, L', s', val, M', F', U', hv, rfl, e⟩
    exact go v [] _ dead L' s' val M' F' U' w' hokw rfl (.inl rfl) hv e.le e.FF e.ext e.st (hZ.eff e) (fun _ => e.rv) (fun h => absurd (hgd.1 hw) h)
  have gd_ : (∀ c x y, o.op ≠ .pick c x y) → (HG (reat its its.length) (gsOf (reat its its.length) o.guard) → EJ P cx.G o (rho cx.G env (reat its its.length)) L s (fun v L' s' => Kn (gsOf (reat its its.length) o.guard) v dead L' s')) →
      (¬ HG (reat its its.length) (gsOf (reat its its.length) o.guard) → Kn (gsOf (reat its its.length) o.guard) .undef (gsOf (reat its its.length) o.guard :: dead) L s) →
      (if Region.wanted o (yielded ops.toArray a.tmps) = true then o.wp P a w X Q ∨ (o.asks P a w ∧ LetsOut Q) else X (a.put o.dst Go.undef) w) := by
    intro hnp h1 h2
    by_cases hw : Region.wanted o (yielded ops.toArray a.tmps) = true
    · rw [if_pos hw]
      exact .inl (eff_ hnp hw (h1 (hgd.1 hw)))
    · rw [if_neg hw]
      have hn : ¬ HG (reat its its.length) (gsOf (reat its its.length) o.guard) := fun h => hw (hgd.2 h)
      exact go .undef [] _ (_ :: dead) L s Go.undef M F U w hokw rfl (.inr ⟨rfl, hn⟩) (h2 hn) (.refl M) (fun _ h => h) (.refl _ _) hI.st hZ (fun h => absurd h hn) (fun _ => rfl)
  rcases callOf_cases h with ⟨c, f, g, caps, hop, hc, hf, h⟩ | h | h
  · have hnp : ∀ c x y, o.op ≠ .pick c x y := fun c' x y e => by rw [hop] at e; cases e
    rcases CallG.raw_cases hT hop hc hf h with h | ⟨hgs, h⟩ | ⟨h1, h2⟩
    · exact pure_ h
    · have hw : Region.wanted o (yielded ops.toArray a.tmps) = true := hgd.2 (by rw [hgs]; exact trivial)
      rw [if_pos hw]
      exact .inl (eff_ hnp hw h)
    · exact gd_ hnp h1 h2
  · split at h
    · rename_i heff
      have hnp : ∀ c x y, o.op ≠ .pick c x y := fun c' x y e => by rw [e] at heff; simp [isEff] at heff
      split at h
      · rename_i hgs
        have hw : Region.wanted o (yielded ops.toArray a.tmps) = true := hgd.2 (by rw [hgs]; exact trivial)
        rw [if_pos hw]
        refine .inl (eff_ hnp hw ?_)
        rw [hgs]
        exact veff_sound hT h
      · rename_i g gr hgs
        refine gd_ hnp (fun hg => ?_) (fun hn => ?_)
        · rw [hgs] at hg ⊢
          exact veff_sound hT (h.1 hg)
        · rw [hgs] at hn ⊢
          exact h.2 hn
    · exact pure_ h
  · exact h.elim
end
end Go.Pv
/- The walk tells the truth. -/
namespace Go.Pv
open Go.RowKit

section
variable {P : Program} {cx : Ctx} {n : Nat} {kt : List (Nat × Nat)} {ct : List Nat} {R : Code} {K : KK}

theorem head_run (hT : TabOK P cx.T) {p : List Nat} {k : Nat} {st : List Fr} {env : Env} {s : List (Nat × AB)} {ops : List Oper} (hops : opsC (getC R p) = ops) (hk : k ≤ ops.length) : ∀ (j m : Nat) (its : List It), its.length + j = k → its.map (·.o) = ops.take its.length → Told P cx env s its [] →
    run P cx n kt ct R K m ⟨.reg p k its.length (reat its its.length) [] (Lat its [] its.length), st, env, s⟩ →
    ∃ its2 m2, m2 ≤ m ∧ its2.length = k ∧ its2.map (·.o) = ops.take k ∧ Told P cx env s its2 [] ∧ run P cx n kt ct R K m2 ⟨.reg p k k (reat its2 k) [] (Lat its2 [] k), st, env, s⟩
  | 0, m, its, hj, h1, h2, h => by
    simp only [Nat.add_zero] at hj
    subst hj
    exact ⟨its, m, Nat.le_refl _, rfl, h1, h2, h⟩
  | j + 1, m, its, hj, h1, h2, h => by
    cases m with
    | zero => exact h.elim
    | succ m =>
      rw [run_succ] at h
      have hi : its.length < ops.length := by omega
      have ho : nthO (opsC (getC R p)) its.length = some ops[its.length] := by rw [hops, nthO_eq, List.getElem?_eq_getElem hi]
      have hb : Nat.blt its.length k = true := by rw [Nat.blt_eq]; omega
      simp only [stp, ho, fO_eq, fLit_eq, hb] at h
      obtain ⟨v, new, h3, h4⟩ := hd_step hT h2 h
      have hlast : (its ++ [(⟨ops[its.length], v, new⟩ : It)])[its.length]? = some (⟨ops[its.length], v, new⟩ : It) := by simp
      have hre : reat (its ++ [(⟨ops[its.length], v, new⟩ : It)]) (its.length + 1) = ⟨its.length, ops[its.length].dst, gsOf (reat its its.length) ops[its.length].guard, v⟩ :: reat its its.length := by
        rw [reat, hlast]
        simp only [reat_app (its2 := [(⟨ops[its.length], v, new⟩ : It)]) (Nat.le_refl its.length)]
      have hlen : (its ++ [(⟨ops[its.length], v, new⟩ : It)]).length = its.length + 1 := by simp
      obtain ⟨its2, m2, q1, q2⟩ := head_run hT hops hk j m (its ++ [⟨ops[its.length], v, new⟩]) (by rw [hlen]; omega) (by rw [hlen, List.map_append, h1, List.take_add_one, List.getElem?_eq_getElem hi]; rfl) h3 (by rw [hlen, hre]; exact h4)
      exact ⟨its2, m2, by omega, q2⟩

theorem tail_run (hT : TabOK P cx.T) {p : List Nat} {k : Nat} {st : List Fr} {env : Env} {ops : List Oper} (hops : opsC (getC R p) = ops) {a0 : Act} {z : Z} {Q : Exit → Act → World → Prop} {m0 : Nat}
    (hQ : ∀ (its' : List It) (L' : List AB) (s' : List (Nat × AB)) (a' : Act) (w' : World) (M' : Mp) (F' U' : Nat → Prop), (∀ (i : Nat) (it : It), its'[i]? = some it → okw cx.nt (reat its' i) it.o = true) →
      (∃ m2, m2 < m0 ∧ envK cx.keep (reat its' its'.length) env fun env => tidyU env cx.keep fun env => promK cx.keep n env L' s' fun env s => run P cx n kt ct R K m2 ⟨.ex .normal, st, env, s⟩) → SI cx env its' a0 L' s' a' w' M' F' U' → Sin z M' F' U' s' w' → Q .normal a' w') :
    ∀ (m : Nat) (its : List It) (dead : List (List (Nat × Bool))) (L : List AB) (s : List (Nat × AB)) (a : Act) (w : World) (M : Mp) (F U : Nat → Prop), m ≤ m0 → k ≤ its.length →
    (∀ (i : Nat) (it : It), its[i]? = some it → okw cx.nt (reat its i) it.o = true) → (∀ c ∈ dead, ∃ i iti, its[i]? = some iti ∧ c = gsAt its i iti ∧ ¬ HG (reat its i) c) → its.map (·.o) = ops.take its.length → its.length ≤ ops.length →
    SI cx env its a0 L s a w M F U → Sin z M F U s w → run P cx n kt ct R K m ⟨.reg p k its.length (reat its its.length) dead L, st, env, s⟩ →
    wpOps P ops.toArray Q (List.range' its.length (ops.length - its.length)) a w
  | 0, its, dead, L, s, a, w, M, F, U, _, _, _, _, _, _, _, _, h => h.elim
  | m + 1, its, dead, L, s, a, w, M, F, U, hm, hk, hok, hdead, hmap, hle, hI, hZ, h => by
    rw [run_succ] at h
    rcases Nat.lt_or_ge its.length ops.length with hi | hi
    · have ho : nthO (opsC (getC R p)) its.length = some ops[its.length] := by rw [hops, nthO_eq, List.getElem?_eq_getElem hi]
      have hb : Nat.blt its.length k = false := by
        cases e : Nat.blt its.length k with
        | false => rfl
        | true => rw [Nat.blt_eq] at e; omega
      simp only [stp, ho, fO_eq, fLit_eq, hb] at h
      have hpre : ∀ (i : Nat) (it : It), its[i]? = some it → ops[i]? = some it.o := fun i it hit => by
        have hlt := (List.getElem?_eq_some_iff.1 hit).1
        have := congrArg (fun l => l[i]?) hmap
        simp only [List.getElem?_map, hit, List.getElem?_take, if_pos hlt, Option.map_some] at this
        exact this.symm
      rw [show ops.length - its.length = (ops.length - (its.length + 1)) + 1 by omega, List.range'_succ, wpOps_cons]
      refine tl_step hT hok hdead hpre (List.getElem?_eq_getElem hi) hI hZ h ?_
      intro v new dead' L' s' a' w' M' F' U' q1 q2 q3 q4 q5 q6
      have hlen : (its ++ [(⟨ops[its.length], v, new⟩ : It)]).length = its.length + 1 := by simp
      have := tail_run (k := k) hT hops hQ m (its ++ [⟨ops[its.length], v, new⟩]) dead' L' s' a' w' M' F' U' (by omega) (by rw [hlen]; omega) q1 q2 (by rw [hlen, List.map_append, hmap, List.take_add_one, List.getElem?_eq_getElem hi]; rfl) (by rw [hlen]; omega) q3 q4 (by rw [hlen, q5]; exact q6)
      rw [hlen] at this
      exact this
    · have he : its.length = ops.length := by omega
      have ho : nthO (opsC (getC R p)) its.length = none := by rw [hops, nthO_eq, List.getElem?_eq_none hi]
      simp only [stp, ho] at h
      rw [he, Nat.sub_self]
      simp only [List.range'_zero, wpOps]
      exact hQ its L s a w M F U hok ⟨m, by omega, h⟩ hI hZ

theorem V.region_run (hT : TabOK P cx.T) (hm : P.follows .mixedOrders = true) {p : List Nat} {id : Nat} {ops : Array Oper} {draw : Bool} {k : Nat} {st : List Fr} {env : Env} {s : List (Nat × AB)} {K' : KK} {m0 : Nat} (hp : getC R p = .region id ops draw) (hk : (Nat.ble k ops.toList.length && ordOK ops.toList && (!draw || tailOK ops.toList k)) = true)
    (h : run P cx n kt ct R K m0 ⟨.reg p k 0 [] [] [], st, env, s⟩) (hK : ∀ m2 env s, m2 < m0 → run P cx n kt ct R K m2 ⟨.ex .normal, st, env, s⟩ → K' .normal env s) : V P cx n (.region id ops draw) env s K' := by
  refine .mk fun z a w M F U h0 hC hZ => ?_
  have hops : opsC (getC R p) = ops.toList := by rw [hp]; rfl
  simp only [Bool.and_eq_true, Bool.or_eq_true, Bool.not_eq_true'] at hk
  obtain ⟨⟨hk1, hk2⟩, hk3⟩ := hk
  have hk1 := Nat.le_of_ble_eq_true hk1
  obtain ⟨its, m2, hm2, hlen, h1, h2, h3⟩ := head_run hT hops hk1 k m0 [] (by simp) (by simp) ⟨fun i it h => by simp at h, fun i it h => by simp at h, fun i it h => by simp at h⟩ (by simpa [reat, Lat] using h)
  have hpre : ∀ (i : Nat) (it : It), its[i]? = some it → ops.toList[i]? = some it.o := fun i it hit => by
    have hlt := (List.getElem?_eq_some_iff.1 hit).1
    have := congrArg (fun l => l[i]?) h1
    simp only [List.getElem?_map, hit, List.getElem?_take, if_pos (show i < k by omega), Option.map_some] at this
    exact this.symm
  refine wp_mono (Q := fun e a w => e = .normal ∧ QV cx z K' e a w) (wp_region_pre (fun _ _ _ h => h.1) (ops := ops.toList) (its := its) (s := s) (G := cx.G) (nt := cx.nt) (env := env) (L0 := []) (M0 := M) (F0 := F) (U0 := U) ⟨hpre, h2.ok, h2.pj, hk2, h2.sum⟩ hC.st hC.gl hC.env hC.size (by rw [hlen]; exact hk1) hm (fun hd => by rw [hlen]; exact hk3.resolve_left (by rw [hd]; simp)) ?_) (fun _ _ _ h => h.2)
  intro listed a' w' M' F' U' hl hI
  have hX : Ext U w w' := hI.ext.mono hC.st.Ult
  have hsz := hZ.ext.size
  have hget : ∀ id ab b, (id, ab) ∈ s → M'.g id = some b → M.g id = some b := fun id ab b h hb => by
    obtain ⟨b', hb'⟩ := hC.st.tot id ab h
    have := hI.le (.g id) b' hb'
    simp only [Mp.at_] at this
    rw [this] at hb
    cases hb
    exact hb'
  have hZ' : Sin z M' F' U' s w' := by
    refine ⟨fun id b hb => hI.le (.g id) b (hZ.g id b hb), fun b hb => hI.FF b (hZ.FF b hb), fun b hb => hI.UU b (hZ.UU b hb), fun b hb => ?_, hZ.ext.trans hX hZ.UU, fun k b hb => ?_, fun id ab b h1 h2 h3 => hZ.lg id ab b h1 h2 (hget id ab b h1 h3), hZ.ids⟩
    · rcases hI.Fn b hb with q | q
      · exact hZ.Fn b q
      · exact .inr (.inl (by omega))
    · rcases hI.fr k b hb with q | q
      · exact hZ.ll k b q
      · omega
  have hS : SI cx env its a (Lat its [] its.length) s a' w' M' F' U' := by
    refine ⟨hI.st, hI.gl, fun i it hit d hd => ?_, fun t ht => ?_, hI.size, hI.defers⟩
    · obtain ⟨q1, q2⟩ := hI.slot i it hit (hl i (List.getElem?_eq_some_iff.1 hit).1) d hd
      exact ⟨fun h => (q1 h).mono (Mp.cut_le _ _) (fun _ h => h) hI.st.FU (.refl _ _), q2⟩
    · rw [hI.other t (fun i it hit _ => ht i it hit)]
      exact (hC.env t).mono hI.le hI.FF hC.st.FU hX
  refine tail_run (a0 := a) (z := z) (Q := fun e a w => e = .normal ∧ QV cx z K' e a w) (m0 := m0) (kt := kt) (ct := ct) (R := R) (K := K) (n := n) (p := p) (k := k) (st := st) (env := env) hT hops ?_ m2 its [] _ s a' w' M' F' U' hm2 (by omega) (fun i it h => okop_okw (h2.ok i it h)) (fun c hc => by cases hc) (by rw [hlen]; exact h1) (by rw [hlen]; exact hk1) hS hZ' (by rw [hlen]; exact h3)
  rintro its' L' s' a'' w'' M'' F'' U'' hok ⟨m3, hm3, hK3⟩ hS hZ
  rw [envK_eq] at hK3
  have henv : ∀ t, RV M'' F'' w'' (look (envOf cx.keep (reat its' its'.length) env) t) (slotv a'' t) := fun t => envOf_rv _ (fun e he hg => by
    obtain ⟨j, itj, hji, hitj, hdj, rfl, _⟩ := rlook_reat he
    exact (hS.slot j itj hitj t hdj).1 (by rw [show gsAt its' j itj = [] from hg]; exact trivial)) (fun hn => hS.env t fun i it hit => rlook_none hn i it (List.getElem?_eq_some_iff.1 hit).1 hit)
  obtain ⟨en, q1, q2⟩ := tidyU_get henv hK3
  obtain ⟨env2, s2, hg, hk⟩ := promK_get rfl q2
  obtain ⟨M2, F2, U2, h4, h5⟩ := hg z a'' w'' M'' F'' U'' h0 ⟨hS.st, hS.gl, q1, hS.size, hS.defers.trans hC.defers⟩ hZ
  exact ⟨rfl, env2, s2, M2, F2, U2, hK m3 _ _ hm3 hk, h4, h5⟩

theorem run_sound (hT : TabOK P cx.T) (hm : P.follows .mixedOrders = true) (hR : okCode kt R = true) : ∀ (N m : Nat), m < N →
    (∀ p st env s, run P cx n kt ct R K m ⟨.code p, st, env, s⟩ → V P cx n (getC R p) env s (Kst P cx n R K st)) ∧ (∀ e st env s, run P cx n kt ct R K m ⟨.ex e, st, env, s⟩ → Kst P cx n R K st e env s)
  | 0, m, h => by omega
  | N + 1, 0, _ => ⟨fun _ _ _ _ h => h.elim, fun _ _ _ _ h => h.elim⟩
  | N + 1, m + 1, hN => by
    have ih := run_sound hT hm hR N
    obtain ⟨ihc, ihe⟩ := ih m (by omega)
    refine ⟨fun p st env s h => ?_, fun e st env s h => ?_⟩
    · rw [run_succ] at h
      have hok := okCode_get hR p
      simp only [stp] at h
      split at h
      · rename_i hc; rw [hc]; exact .skip (ihe _ _ _ _ h)
      · rename_i hc; rw [hc]; exact .label (ihe _ _ _ _ h)
      · rename_i hc; rw [hc]; exact .exit (ihe _ _ _ _ h)
      · rename_i hc; rw [hc]; exact .ret (ihe _ _ _ _ h)
      · rename_i x y hc
        rw [hc]
        have h2 := ihc _ _ _ _ h
        have e0 : getC R (0 :: p) = x := by simp only [getC, hc, ch0]
        have e1 : getC R (1 :: p) = y := by simp only [getC, hc, ch1]
        rw [e0] at h2
        simp only [Kst, e1] at h2
        exact .seq h2
      · rename_i c x y hc
        rw [hc]
        have e0 : getC R (0 :: p) = x := by simp only [getC, hc, ch0]
        have e1 : getC R (1 :: p) = y := by simp only [getC, hc, ch1]
        refine .cond ?_
        split at h
        · rename_i b hb
          try simp only [hb]
          cases b with
          | true => rw [← e0]; exact ihc _ _ _ _ h
          | false => rw [← e1]; exact ihc _ _ _ _ h
        · exact h.elim
      · rename_i id c hc
        rw [hc]
        have e0 : getC R (0 :: p) = c := by simp only [getC, hc, ch0]
        have h2 := ihc _ _ _ _ h
        rw [e0] at h2
        exact .block h2
      · rename_i id ops draw hc
        split at h
        · exact h.h
        · rename_i hb
          rw [fLit_eq] at h
          rw [hc] at hok ⊢
          simp only [okCode, Bool.or_eq_true] at hok
          simp only [Bool.or_eq_false_iff] at hb
          refine V.region_run hT hm hc (hok.resolve_left (by rw [hb.1]; exact Bool.noConfusion)) h fun m2 env s hm2 h2 => (ih m2 (by omega)).2 _ _ _ _ h2
      · exact h.h
    · rw [run_succ] at h
      simp only [stp] at h
      cases st with
      | nil => exact h
      | cons f st =>
        cases f with
        | sq p =>
          cases e with
          | normal => exact ihc _ st _ _ h
          | _ => exact ihe _ st _ _ h
        | bl id =>
          cases e with
          | exit id' =>
            simp only [Kst, KB]
            simp only at h
            split at h
            · rename_i hb; simp only [hb]; exact ihe _ st _ _ h
            · rename_i hb; simp only [hb]; exact ihe _ st _ _ h
          | _ => exact ihe _ st _ _ h
end
end Go.Pv
/- The walk's words: a contract, a loop, what is told otherwise. -/
namespace Go.Pv
open Go.RowKit

def tidyF (env : Env) : List Nat → Env
  | [] => []
  | t :: r => match look env t with
    | .undef => tidyF env r
    | v => (t, v) :: tidyF env r
theorem tidyU_eq (env : Env) : ∀ (ts : List Nat) (K : Env → Prop), tidyU env ts K = K (tidyF env ts)
  | [], _ => rfl
  | t :: r, K => by
    simp only [tidyU, tidyF]
    cases look env t <;> simp only [uAV, tidyU_eq env r]
def valsE : Env → List AV
  | [] => []
  | (_, v) :: r => v :: valsE r

section
variable {P : Program} {cx : Ctx} {n : Nat} {kt : List (Nat × Nat)} {ct : List Nat} {R : Code} {K : KK} {env : Env} {s : List (Nat × AB)} {p : List Nat} {st : List Fr}

theorem GV.tidy (ks : List Nat) : GV cx n env [] s (tidyF env ks) s := by
  intro z a w M F U _ hC hZ
  refine ⟨M, F, U, ⟨hC.st, hC.gl, fun t => ?_, hC.size, hC.defers⟩, hZ⟩
  obtain ⟨en, h1, h2⟩ := tidyU_get hC.env (ts := ks) (K := fun en => en = tidyF env ks) (by rw [tidyU_eq])
  rw [← h2]
  exact h1 t
/-- Some slots, and the objects that they reach, named anew by turns. -/
def tidyG (n : Nat) (ks : List Nat) (env : Env) (s : List (Nat × AB)) (K : Env → List (Nat × AB) → Prop) : Prop :=
  tidyU env ks fun env => takeK n lits [] fun told => occsK 100 (valsE env) told fun σ => reachK 50 s 0 σ fun σ => match nodupB σ && uptoB n 0 σ with
    | true => match gatherS σ s σ 0 with
      | some s2 => fEnv (mapE (gsel σ) env) fun env => fSt s2 fun s2 => K env s2
      | none => False
    | false => False
theorem tidyG_get {ks : List Nat} {K : Env → List (Nat × AB) → Prop} (h : tidyG n ks env s K) : ∃ e2 s2, GV cx n env [] s e2 s2 ∧ K e2 s2 := by
  unfold tidyG at h
  rw [tidyU_eq] at h
  obtain ⟨told, h⟩ := takeK_some h
  obtain ⟨σ0, h⟩ := occsK_some h
  obtain ⟨σ, h⟩ := reachK_some h
  split at h <;> try exact h.elim
  rename_i hn
  simp only [Bool.and_eq_true] at hn
  split at h <;> try exact h.elim
  rename_i s2 hs2
  rw [fEnv_eq, fSt_eq] at h
  exact ⟨_, _, GV.trans (GV.tidy ks) (GV.gather σ hs2 hn.1 hn.2), h⟩

/-- Behind a round. -/
def KL (P : Program) (cx : Ctx) (n : Nat) (kt : List (Nat × Nat)) (ct : List Nat) (R : Code) (K : KK) (st : List Fr) (ks : List Nat) (I : Nat → Env → List (Nat × AB) → Prop) (m : Nat) : KK
  | .normal => fun env s => tidyG n ks env s fun e2 s2 => ∃ k, k < m ∧ I k e2 s2
  | e => fun env s => run P cx n kt ct R K 100000 ⟨.ex e, st, env, s⟩
/-- Behind a round; told otherwise by hand. -/
def KM (P : Program) (cx : Ctx) (n : Nat) (kt : List (Nat × Nat)) (ct : List Nat) (R : Code) (K : KK) (st : List Fr) (ks : List Nat) (I : Nat → Env → List (Nat × AB) → Prop) (m : Nat) : KK
  | .normal => fun env s => ∃ e2 s2, GV cx n env [] s e2 s2 ∧ tidyG n ks e2 s2 fun e2 s2 => ∃ k, k < m ∧ I k e2 s2
  | e => fun env s => run P cx n kt ct R K 100000 ⟨.ex e, st, env, s⟩
def isLoopC : Code → Bool
  | .loop _ => true
  | _ => false
theorem isLoopC_ch {c : Code} (h : isLoopC c = true) : c = .loop (ch0 c) := by cases c <;> first | rfl | cases h

/-- The table, the order's rule, the code's form: what each walk stands on. -/
structure WK (P : Program) (cx : Ctx) (kt : List (Nat × Nat)) (R : Code) : Prop where
  tab : TabOK P cx.T
  mixed : P.follows .mixedOrders = true
  ok : okCode kt R = true
theorem WK.code (W : WK P cx kt R) {m : Nat} (h : run P cx n kt ct R K m ⟨.code p, st, env, s⟩) : V P cx n (getC R p) env s (Kst P cx n R K st) :=
  ((run_sound W.tab W.mixed W.ok (m + 1) m (Nat.lt_succ_self m)).1 p st env s) h
theorem WK.ex (W : WK P cx kt R) {m : Nat} {e : Exit} (h : run P cx n kt ct R K m ⟨.ex e, st, env, s⟩) : Kst P cx n R K st e env s :=
  ((run_sound W.tab W.mixed W.ok (m + 1) m (Nat.lt_succ_self m)).2 e st env s) h

/-- In rounds: I tells what is known ahead of a round, by a count that goes down; ks are the slots that are told on. -/
theorem StopG.rounds (W : WK P cx kt R) (ct : List Nat) (ks : List Nat) (I : Nat → Env → List (Nat × AB) → Prop) (hp : isLoopC (getC R p) = true) (h0 : tidyG n ks env s fun e2 s2 => ∃ m, I m e2 s2)
    (step : ∀ m env s, I m env s → run P cx n kt ct R (KL P cx n kt ct R K st ks I m) 100000 ⟨.code (0 :: p), [], env, s⟩) : StopG P cx n R K p st env s := by
  refine ⟨?_⟩
  rw [isLoopC_ch hp]
  refine V.rounds I (tidyG_get h0) fun m env s hI => ?_
  have h1 := W.code (step m env s hI)
  have e0 : getC R (0 :: p) = ch0 (getC R p) := rfl
  rw [e0] at h1
  refine h1.mono fun e env s hk => ?_
  cases e with
  | normal => exact tidyG_get (K := fun e2 s2 => ∃ k, k < m ∧ I k e2 s2) hk
  | _ => exact W.ex (ct := ct) (m := 100000) hk
theorem StopG.roundsM (W : WK P cx kt R) (ct : List Nat) (ks : List Nat) (I : Nat → Env → List (Nat × AB) → Prop) (hp : isLoopC (getC R p) = true) (h0 : ∃ e2 s2, GV cx n env [] s e2 s2 ∧ tidyG n ks e2 s2 fun e2 s2 => ∃ m, I m e2 s2)
    (step : ∀ m env s, I m env s → run P cx n kt ct R (KM P cx n kt ct R K st ks I m) 100000 ⟨.code (0 :: p), [], env, s⟩) : StopG P cx n R K p st env s := by
  refine ⟨?_⟩
  rw [isLoopC_ch hp]
  have two : ∀ {env : Env} {s : List (Nat × AB)} {K : Env → List (Nat × AB) → Prop}, (∃ e2 s2, GV cx n env [] s e2 s2 ∧ tidyG n ks e2 s2 K) → ∃ e2 s2, GV cx n env [] s e2 s2 ∧ K e2 s2 := fun ⟨e2, s2, h1, h2⟩ => by
    obtain ⟨e3, s3, h3, h4⟩ := tidyG_get (cx := cx) h2
    exact ⟨e3, s3, h1.trans h3, h4⟩
  refine V.rounds I (two h0) fun m env s hI => ?_
  have h1 := W.code (step m env s hI)
  have e0 : getC R (0 :: p) = ch0 (getC R p) := rfl
  rw [e0] at h1
  refine h1.mono fun e env s hk => ?_
  cases e with
  | normal => exact two (K := fun e2 s2 => ∃ k, k < m ∧ I k e2 s2) hk
  | _ => exact W.ex (ct := ct) (m := 100000) hk
/-- Round by round: a loop of known length. -/
theorem StopG.unroll (k : Nat) (hp : isLoopC (getC R p) = true) (h : vrounds P cx n (ch0 (getC R p)) (Kst P cx n R K st) k env s) : StopG P cx n R K p st env s := by
  refine ⟨?_⟩
  rw [isLoopC_ch hp]
  exact V.unroll k h
theorem StopG.ghost {env' : Env} {s' : List (Nat × AB)} (hg : GV cx n env [] s env' s') (h : StopG P cx n R K p st env' s') : StopG P cx n R K p st env s := ⟨V.ghost hg h.h⟩
theorem StopG.tidy (ks : List Nat) (h : tidyG n ks env s fun e2 s2 => StopG P cx n R K p st e2 s2) : StopG P cx n R K p st env s := by
  obtain ⟨e2, s2, h1, h2⟩ := tidyG_get (cx := cx) h
  exact .ghost h1 h2
/-- On from where the walk waited. -/
theorem StopG.go (W : WK P cx kt R) (ct : List Nat) (h : run P cx n kt ct R K 100000 ⟨.code p, st, env, s⟩) : StopG P cx n R K p st env s := ⟨W.code h⟩
def ktOf (kt : List (Nat × Nat)) : Code → Nat
  | .region id _ _ => ktab kt id
  | _ => 0
def isRegC (kt : List (Nat × Nat)) : Code → Bool
  | .region id _ _ => !Nat.beq (ktab kt id) 1000
  | _ => false
theorem StopG.goR (W : WK P cx kt R) (ct : List Nat) (hp : isRegC kt (getC R p) = true) (h : fLit (ktOf kt (getC R p)) nums fun k => run P cx n kt ct R K 100000 ⟨.reg p k 0 [] [] [], st, env, s⟩) : StopG P cx n R K p st env s := by
  refine ⟨?_⟩
  rw [fLit_eq] at h
  have hok := okCode_get W.ok p
  generalize hc : getC R p = c at hp hok h
  cases c with
  | region id ops draw =>
    simp only [isRegC, Bool.not_eq_true'] at hp
    simp only [okCode, Bool.or_eq_true] at hok
    exact V.region_run W.tab W.mixed hc (hok.resolve_left (by rw [hp]; exact Bool.noConfusion)) h fun m2 env s hm2 h2 => W.ex h2
  | _ => cases hp

theorem Contract.of_run {f : Nat} {fn : Func} {args : List AV} {Rr : AV → List (Nat × AB) → Prop} (W : WK P cx kt R) (hf : P.funcs[f]? = some fn) (hb : fn.body = some R) (hce : Callee P f) (hnt : cx.nt = fn.ntmps)
    (hle : args.length ≤ fn.ntmps) (hbel : belowB n s = true) (h : run P cx n kt ct R (KV cx.T fn.results.toList n Rr) 100000 ⟨.code [], [], argEnv 0 args, s⟩) : Contract P cx.G f args s Rr :=
  Contract.of_V W.tab hf hb hce hnt hle hbel (W.code h)
theorem Contract.of_runG {f : Nat} {fn : Func} {args : List AV} {Rr : AV → List (Nat × AB) → Prop} (W : WK P cx kt R) (hf : P.funcs[f]? = some fn) (hb : fn.body = some R) (hce : Callee P f) (hnt : cx.nt = fn.ntmps)
    (hle : args.length ≤ fn.ntmps) (hbel : belowB n s = true) (h : run P cx n kt ct R (KG cx fn.results.toList n Rr) 100000 ⟨.code [], [], argEnv 0 args, s⟩) : Contract P cx.G f args s Rr :=
  Contract.of_V W.tab hf hb hce hnt hle hbel ((W.code h).gpost fun e env s hk => by
    cases e with
    | normal => exact hk
    | ret => exact hk
    | _ => exact hk.elim)
end
end Go.Pv
/- Functions that turn a row in place: from what the kit's shelf tells. -/
namespace Go.Pv
open Go.RowKit
variable {P : Program} {G : Gl} {M : Mp} {F U : Nat → Prop} {L : List AB} {s : List (Nat × AB)} {w : World}

/-- A world that has what was there. -/
theorem St.same {w' : World} (h : St M F U L s w) (hX : ∀ U, Ext U w w') (hh : ∀ b, b < w.heap.size → w'.heap[b]? = w.heap[b]?) : St M F U L s w' := by
  refine ⟨fun r ab b hr hm => ?_, h.inj, h.nU, h.nd, h.FU, fun b hb => Nat.lt_of_lt_of_le (h.Ult b hb) (hX U).size, h.dom, h.tot, h.gdom⟩
  have h0 := h.rb r ab b hr hm
  refine h0.mono (.refl _) (fun _ h => h) (fun b hb => h.FU b hb) (hX U) (fun hd => hh b ?_)
  exact RB.lt h0 hd
theorem grow_old (w : World) (os : Array Obj) {b : Nat} (hb : b < w.heap.size) : (Sort.grow w os).heap[b]? = w.heap[b]? := by
  simp only [Sort.grow]
  rw [Array.getElem?_append_left hb]
theorem grow_ext (w : World) (os : Array Obj) (hU : ∀ b, U b → b < w.heap.size) : Ext U w (Sort.grow w os) := by
  refine ⟨rfl, rfl, rfl, by simp [Sort.grow], fun b hb => grow_old w os (hU b hb), fun b hb => ?_⟩
  unfold World.shape?
  rw [grow_old w os hb]
theorem ahead_ext (w : World) (n : Nat) (U : Nat → Prop) : Ext U w (Sort.ahead w n) := ⟨rfl, rfl, rfl, Nat.le_refl _, fun _ _ => rfl, fun _ _ => rfl⟩
theorem St.grow (h : St M F U L s w) (os : Array Obj) : St M F U L s (Sort.grow w os) := by
  refine ⟨fun r ab b hr hm => ?_, h.inj, h.nU, h.nd, h.FU, fun b hb => Nat.lt_of_lt_of_le (h.Ult b hb) (by simp [Sort.grow]), h.dom, h.tot, h.gdom⟩
  have h0 := h.rb r ab b hr hm
  exact h0.mono (.refl _) (fun _ h => h) (fun b hb => h.FU b hb) (grow_ext w os h.Ult) (fun hd => grow_old w os (RB.lt h0 hd))
theorem St.ahead (h : St M F U L s w) (n : Nat) : St M F U L s (Sort.ahead w n) := h.same (fun U => ahead_ext w n U) (fun _ _ => rfl)

theorem putRow_eq {α : Type} [Inhabited α] (enc : α → Value) {w : World} {b : Nat} {arr : Array Value} {t : TypeId} {fr : Nat × Nat} (hb : w.heap[b]? = some (.cells arr t fr)) (d : Array α) (hd : d.size ≤ arr.size) :
    Sort.putRow enc w b 0 d = w.setRow b (setN arr.toList 0 (d.toList.map enc)).toArray := by
  have hc : Sort.putCells enc 0 d arr = (setN arr.toList 0 (d.toList.map enc)).toArray := by
    apply Array.ext'
    rw [List.toList_toArray]
    apply List.ext_getElem?
    intro j
    rw [setN_get (by simpa using hd)]
    simp only [Sort.putCells, Array.toList_mapIdx, List.getElem?_mapIdx, List.length_map, Array.length_toList, Nat.zero_le, true_and, Nat.zero_add, Nat.sub_zero]
    by_cases hj : j < d.size
    · rw [if_pos hj, List.getElem?_map]
      rw [List.getElem?_eq_getElem (show j < arr.toList.length by simp; omega), List.getElem?_eq_getElem (show j < d.toList.length by simpa using hj)]
      simp [hj]
    · rw [if_neg hj]
      cases arr.toList[j]? with
      | none => rfl
      | some v => simp [hj]
  unfold Sort.putRow Sort.mapBlock World.setRow
  congr 1
  apply Array.ext_getElem?
  intro j
  rw [Array.getElem?_modify, Array.getElem?_modify]
  by_cases hj : b = j
  · subst hj
    rw [if_pos rfl, if_pos rfl, hb]
    simp only [Option.map_some, Sort.onCells, hc]
  · rw [if_neg hj, if_neg hj]

/-- A call that lays a row anew. -/
theorem Contract.turn {f sz : Nat} (hcal : Callee P f) {rows rows' : List (List DV)} {cap : Nat} (hl : rows'.length = rows.length)
    (h0 : ∀ A w, Calls P f #[.slice A 0 0] w fun e w' => e = .returned (.tuple #[]) ∧ w' = w)
    (h1 : ∀ (F : Nat → Prop) (w : World) (b : Nat) (arr : Array Value) (tt : TypeId), w.heap[b]? = some (.cells arr tt (0, 0)) → RowV F w sz rows arr.toList →
      Calls P f #[.slice (some ⟨b, 0, none⟩) rows.length cap] w fun e w' => e = .returned (.tuple #[]) ∧ ∃ k os nv, nv.length = rows'.length * sz ∧ RowV F (Sort.ahead w k) sz rows' nv ∧ w' = Sort.grow ((Sort.ahead w k).setRow b (setN arr.toList 0 nv).toArray) os) :
    Contract P G f [.slc (.g 0) sz 0 rows.length cap] [(0, .row sz rows)] (fun r t => r = .tup [] ∧ t = [(0, .row sz rows')]) := by
  refine ⟨hcal, fun g F U w vals hS hG hlv hv => ?_⟩
  obtain ⟨v, rfl⟩ : ∃ v, vals = [v] := by
    match vals, hlv with
    | [v], _ => exact ⟨v, rfl⟩
  have hrv := hv 0 _ v rfl rfl
  have htup : ∀ (M : Mp) (F : Nat → Prop) (w : World), RV M F w (.tup []) (.tuple #[]) := fun M F w => .tup [] [] rfl (fun j x v hx => by simp at hx)
  have hspl : splice rows 0 rows' = rows' := by simp [splice, hl]
  generalize hn : rows.length = n at hrv h1
  cases hrv with
  | slc0 _ _ _ A =>
    have hr : rows = [] := List.eq_nil_of_length_eq_zero hn
    have hr' : rows' = [] := List.eq_nil_of_length_eq_zero (by rw [hl, hn])
    subst hr
    subst hr'
    refine (h0 A w).mono fun e w' he => ?_
    obtain ⟨rfl, rfl⟩ := he
    exact ⟨_, _, _, g, F, U, rfl, ⟨rfl, rfl⟩, fun _ _ h => h, fun id ab h => .inl ⟨ab, h⟩, fun _ h => h, fun _ h => h, fun _ h => .inl h, .refl _ _, hS, htup _ _ _⟩
  | slc _ _ _ _ _ b hm hc hs =>
    obtain ⟨arr, tt, hbk, hold⟩ := (hS.rb (.g 0) (.row sz rows) b (by simp [Here]) hm).row_of
    rw [Nat.zero_mul]
    refine (h1 F w b arr tt hbk hold).mono fun e w' he => ?_
    obtain ⟨rfl, k, os, nv, hnl, hrow, rfl⟩ := he
    have hSa := hS.ahead k
    have hle := hold.le
    have hE := eff_rows (p := 0) hSa (id := 0) (rows := rows) (by rfl) hm (Nat.zero_le _) hrow hnl (arr := arr) (tt := tt) hbk (by rw [Nat.zero_mul, Nat.zero_add, hnl, hl]; simpa using hle) (hold.mono (fun _ h => h) (fun _ _ => rfl))
    rw [hspl, Nat.zero_mul] at hE
    refine ⟨_, _, _, g, F, U, rfl, ⟨rfl, ?_⟩, fun _ _ h => h, fun id ab h => ?_, fun _ h => h, fun _ h => h, fun _ h => .inl h, ?_, hE.st.grow os, htup _ _ _⟩
    · rfl
    · exact hE.ids id ab h
    · exact ((ahead_ext w k U).trans hE.ext (fun _ h => h)).trans (grow_ext _ os hE.st.Ult) (fun _ h => h)
/-- slices.Sort at ints. -/
theorem Contract.sort_ints {f : Nat} (hcal : Callee P f) (g : List Int → List Int) (hl : ∀ zs, (g zs).length = zs.length)
    (hs : ∀ (blk off cap : Nat) (zs : List Int) (w : World), Sort.Holds (Value.int .i64) w blk off zs.toArray → blk < w.heap.size → zs.length < 4611686018427387904 →
      Calls P f #[.slice (some ⟨blk, off, none⟩) zs.length cap] w fun e w' => e = .returned (.tuple #[]) ∧ ∃ n os, w' = Sort.grow (Sort.putRow (Value.int .i64) (Sort.ahead w n) blk off (g zs).toArray) os)
    (h0 : ∀ (p : Option Addr) (cap : Nat) (w : World), Calls P f #[.slice p 0 cap] w fun e w' => e = .returned (.tuple #[]) ∧ w' = w) (zs : List Int) (hz : zs.length < 4611686018427387904) (cap : Nat) :
    Contract P G f [.slc (.g 0) 1 0 zs.length cap] [(0, .row 1 (zs.map fun z => [.int .i64 z]))] (fun r t => r = .tup [] ∧ t = [(0, .row 1 ((g zs).map fun z => [.int .i64 z]))]) := by
  have hlr : (zs.map fun z => [DV.int .i64 z]).length = zs.length := by simp
  have := Contract.turn (P := P) (G := G) (sz := 1) hcal (rows := zs.map fun z => [DV.int .i64 z]) (rows' := (g zs).map fun z => [DV.int .i64 z]) (cap := cap) (by simp [hl]) (fun A w => h0 A 0 w) ?_
  · rwa [hlr] at this
  intro F w b arr tt hbk hrow
  rw [hlr]
  have hle := hrow.le
  simp only [List.length_map, Nat.mul_one, Array.length_toList] at hle
  refine (hs b 0 cap zs w (fun j hj => ⟨?_, ?_⟩) ((Array.getElem?_eq_some_iff.1 hbk).1) hz).mono fun e w' he => ?_
  · have hj : j < zs.length := by simpa using hj
    simp only [World.cell?, hbk, Nat.zero_add, Option.isSome_none, Bool.false_eq_true, if_false]
    rw [Array.getElem?_eq_getElem (by omega)]
    have hr := hrow.rd j [.int .i64 zs[j]] 0 (.int .i64 zs[j]) arr[j] (by simp [hj]) rfl (by rw [Nat.mul_one, Nat.add_zero, Array.getElem?_toList, Array.getElem?_eq_getElem (by omega)])
    generalize arr[j] = u at hr
    cases hr with
    | int => simp [hj]
  · simp [World.frozen?, hbk]
  · obtain ⟨rfl, n, os, rfl⟩ := he
    refine ⟨rfl, n, os, (g zs).map (Value.int .i64), by simp, ⟨by simp, ?_, ?_, ?_⟩, ?_⟩
    · intro i r hr
      simp only [List.getElem?_map, Option.map_eq_some_iff] at hr
      obtain ⟨z, _, rfl⟩ := hr
      rfl
    · intro v hv
      obtain ⟨z, _, rfl⟩ := List.mem_map.1 hv
      rfl
    · intro i r j x v hr hx hv
      simp only [List.getElem?_map, Option.map_eq_some_iff] at hr
      obtain ⟨z, hz', rfl⟩ := hr
      cases j with
      | succ j => simp at hx
      | zero =>
        simp only [List.getElem?_cons_zero, Option.some.injEq] at hx
        subst hx
        simp only [Nat.mul_one, Nat.add_zero, List.getElem?_map, hz', Option.map_some, Option.some.injEq] at hv
        subst hv
        exact .int _ _
    · have hbk' : (Sort.ahead w n).heap[b]? = some (.cells arr tt (0, 0)) := hbk
      rw [putRow_eq (Value.int .i64) hbk' (g zs).toArray (by simp [hl]; exact hle)]
/-- .. at nothing. -/
theorem Contract.sort_none {f sz : Nat} (hcal : Callee P f) (h0 : ∀ (p : Option Addr) (cap : Nat) (w : World), Calls P f #[.slice p 0 cap] w fun e w' => e = .returned (.tuple #[]) ∧ w' = w) :
    Contract P G f [.d (.list sz [])] [] (fun r t => r = .tup [] ∧ t = []) := by
  refine ⟨hcal, fun g F U w vals hS hG hlv hv => ?_⟩
  obtain ⟨v, rfl⟩ : ∃ v, vals = [v] := by
    match vals, hlv with
    | [v], _ => exact ⟨v, rfl⟩
  have hrv := hv 0 _ v rfl rfl
  have : ∃ p cap, v = .slice p 0 cap := by
    cases hrv with
    | d h =>
      cases h with
      | empty => exact ⟨_, _, rfl⟩
      | list => exact ⟨_, _, rfl⟩
  obtain ⟨p, cap, rfl⟩ := this
  refine (h0 p cap w).mono fun e w' he => ?_
  obtain ⟨rfl, rfl⟩ := he
  exact ⟨_, _, _, g, F, U, rfl, ⟨rfl, rfl⟩, fun _ _ h => h, fun id ab h => .inl ⟨ab, h⟩, fun _ h => h, fun _ h => h, fun _ h => .inl h, .refl _ _, hS, .tup [] [] rfl (fun j x v hx => by simp at hx)⟩
end Go.Pv
/- Plain laws that many texts want. -/
namespace Go.Pv
open Go.RowKit
theorem rd_bool {a b : Bool} (h : a = b) : AV.d (.bool a) = .d (.bool b) := by rw [h]
theorem rd_int {a b : Int} (h : a = b) : AV.d (.int .i64 a) = .d (.int .i64 b) := by rw [h]
theorem bif_or (a b : Bool) : (bif a then true else b) = (a || b) := by cases a <;> rfl
theorem bif_and (a b : Bool) : (bif a then b else false) = (a && b) := by cases a <;> rfl
theorem wrap_id {n : Int} (h0 : -9223372036854775808 ≤ n) (h1 : n ≤ 9223372036854775807) : IntKind.wrap .i64 n = n := by
  unfold IntKind.wrap
  simp [IntKind.signed, IntKind.bits]
  omega
theorem at_i {α : Type} {l : List α} {i : Nat} (h : i < l.length) : ∃ x, l[i]? = some x ∧ l.drop i = x :: l.drop (i + 1) := by
  refine ⟨l[i], List.getElem?_eq_getElem h, ?_⟩
  rw [List.drop_eq_getElem_cons h]
theorem row_i {α : Type} {row : α → List DV} {l : List α} {i : Nat} {x : α} (h : l[i]? = some x) : (l.map row)[(i : Int).toNat]? = some (row x) := by simp [h]
theorem succ_i {i n : Nat} (h : i < n) (hn : n ≤ 4611686018427387904) : IntKind.wrap .i64 ((i : Int) + 1) = ((i + 1 : Nat) : Int) := by
  rw [wrap_id (by omega) (by omega)]
  rfl
theorem pred_i {i : Nat} (h : 0 < i) (hn : i ≤ 4611686018427387904) : IntKind.wrap .i64 ((i : Int) - 1) = ((i - 1 : Nat) : Int) := by
  rw [wrap_id (by omega) (by omega)]
  omega
theorem lt_of {i n : Nat} (h : decide ((i : Int) < (n : Int)) = true) : i < n := by simpa using h
theorem ge_of {i n : Nat} (h : decide ((i : Int) < (n : Int)) = false) : n ≤ i := by simpa using h
theorem list_has {α : Type} (l : List α) (i : Nat) (h : i < l.length) : ∃ x, l[i]? = .some x := ⟨_, List.getElem?_eq_getElem h⟩
/-- Where the first one is of which p holds, from i on. -/
def idxFrom {α : Type} (p : α → Bool) : List α → Int → Int
  | [], _ => -1
  | x :: r, i => if p x then i else idxFrom p r (i + 1)
theorem idx_cases {α : Type} (p : α → Bool) : ∀ (l : List α) (i : Nat), (idxFrom p l i = -1 ∧ l.find? p = .none) ∨ ∃ k x, idxFrom p l i = ((i + k : Nat) : Int) ∧ l[k]? = .some x ∧ l.find? p = .some x
  | [], i => .inl ⟨rfl, rfl⟩
  | y :: r, i => by
    simp only [idxFrom, List.find?]
    cases h : p y with
    | true => exact .inr ⟨0, y, by simp, rfl, rfl⟩
    | false =>
      simp only [Bool.false_eq_true, if_false]
      rcases idx_cases p r (i + 1) with ⟨h1, h2⟩ | ⟨k, x, h1, h2, h3⟩
      · exact .inl ⟨by simpa using h1, h2⟩
      · exact .inr ⟨k + 1, x, by rw [show (i : Int) + 1 = ((i + 1 : Nat) : Int) by simp, h1]; congr 1; omega, by simpa using h2, h3⟩
theorem idx_cases0 {α : Type} (p : α → Bool) (l : List α) : (idxFrom p l 0 = -1 ∧ l.find? p = .none) ∨ ∃ k x, idxFrom p l 0 = ((k : Nat) : Int) ∧ l[k]? = .some x ∧ l.find? p = .some x := by
  have := idx_cases p l 0
  simpa using this
theorem idx_any {α : Type} (p : α → Bool) (l : List α) : decide (idxFrom p l 0 ≥ 0) = l.any p := by
  rcases idx_cases0 p l with ⟨h, k⟩ | ⟨k, x, h, _, g⟩
  · rw [h]
    simp only [List.find?_eq_none] at k
    symm; rw [show decide ((-1 : Int) ≥ 0) = false from rfl, List.any_eq_false]
    exact k
  · rw [h]
    have h1 := List.find?_some g
    have h2 := List.mem_of_find?_eq_some g
    symm; rw [show decide ((k : Int) ≥ 0) = true by simp, List.any_eq_true]
    exact ⟨x, h2, h1⟩
/-- The i-th is found at i where no other is like it. -/
theorem idx_nodup : ∀ (l : List Int) (j : Nat) (i : Nat) (x : Int), l.Nodup → l[i]? = .some x → idxFrom (fun y => x == y) l j = ((j + i : Nat) : Int)
  | [], _, i, x, _, h => by simp at h
  | y :: r, j, 0, x, _, h => by
    simp at h
    subst h
    simp [idxFrom]
  | y :: r, j, i + 1, x, hn, h => by
    simp at h
    have hn' := List.nodup_cons.1 hn
    have : (x == y) = false := by
      rw [beq_eq_false_iff_ne]
      rintro rfl
      exact hn'.1 (List.mem_of_getElem? h)
    simp only [idxFrom, this, Bool.false_eq_true, if_false]
    rw [show (j : Int) + 1 = ((j + 1 : Nat) : Int) from rfl, idx_nodup r (j + 1) i x hn'.2 h]
    congr 1
    omega
def rowI (n : Int) : List DV := [.int .i64 n]
def rowsI (l : List Int) : List (List DV) := l.map rowI
theorem rowsI_len (l : List Int) : (rowsI l).length = l.length := by simp [rowsI]
/-- A number below, of a number. -/
def numB (n : Int) (m : Nat) : Nat := (if n.tmod m < 0 then n.tmod m + m else n.tmod m).toNat
theorem numB_lt (n : Int) {m : Nat} (hm : 0 < m) : numB n m < m := by
  have h1 := Int.lt_tmod_of_pos n (show (0 : Int) < (m : Int) by omega)
  have h2 := Int.tmod_lt_of_pos n (show (0 : Int) < (m : Int) by omega)
  unfold numB
  split <;> omega

/-! ### A set of ints: sorted, each once -/
def dd : List Int → List Int
  | [] => []
  | [x] => [x]
  | x :: y :: r => if x = y then dd (y :: r) else x :: dd (y :: r)
theorem dd_snoc : ∀ (a : List Int) (x y : Int), dd (a ++ [x, y]) = dd (a ++ [x]) ++ (if x = y then [] else [y])
  | [], x, y => by simp only [List.nil_append, dd]; split <;> rename_i h <;> simp [h]
  | [z], x, y => by
    have := dd_snoc [] x y
    simp only [List.nil_append] at this
    simp only [List.cons_append, List.nil_append, dd]
    split <;> split <;> simp_all [dd]
  | z :: z' :: r, x, y => by
    have := dd_snoc (z' :: r) x y
    simp only [List.cons_append] at this ⊢
    simp only [dd]
    split
    · exact this
    · rw [List.cons_append, this]
theorem dd_mem : ∀ (l : List Int) (x : Int), x ∈ dd l ↔ x ∈ l
  | [], x => by simp [dd]
  | [y], x => by simp [dd]
  | a :: b :: r, x => by
    have := dd_mem (b :: r) x
    simp only [dd]
    split
    · rename_i h; subst h; rw [this]; simp
    · rw [List.mem_cons, this]; simp
abbrev IncI (l : List Int) : Prop := l.Pairwise (· < ·)
theorem dd_inc : ∀ (l : List Int), l.Pairwise (· ≤ ·) → IncI (dd l)
  | [], _ => by simp [dd]
  | [y], _ => by simp [dd]
  | a :: b :: r, h => by
    have h1 := List.pairwise_cons.1 h
    have ih := dd_inc (b :: r) h1.2
    simp only [dd]
    split
    · exact ih
    · rename_i hab
      refine List.pairwise_cons.2 ⟨fun x hx => ?_, ih⟩
      have hx' := (dd_mem _ _).1 hx
      have hb := h1.1 b (by simp)
      rcases List.mem_cons.1 hx' with rfl | hx'
      · omega
      · have := (List.pairwise_cons.1 h1.2).1 x hx'
        omega
theorem dd_id : ∀ (l : List Int), IncI l → dd l = l
  | [], _ => rfl
  | [y], _ => rfl
  | a :: b :: r, h => by
    have h1 := List.pairwise_cons.1 h
    have := h1.1 b (by simp)
    simp only [dd]
    rw [if_neg (by omega), dd_id (b :: r) h1.2]
def sortI (l : List Int) : List Int := l.mergeSort fun x y => decide (x ≤ y)
theorem sortI_len (l : List Int) : (sortI l).length = l.length := List.length_mergeSort l
theorem sortI_perm (l : List Int) : (sortI l).Perm l := List.mergeSort_perm l _
theorem sortI_sorted (l : List Int) : (sortI l).Pairwise (· ≤ ·) := by
  have := List.pairwise_mergeSort (le := fun x y : Int => decide (x ≤ y)) (fun a b c h1 h2 => by simp at *; omega) (fun a b => by simp; omega) l
  exact this.imp fun h => by simpa using h
def setI (l : List Int) : List Int := dd (sortI l)
theorem setI_inc (l : List Int) : IncI (setI l) := dd_inc _ (sortI_sorted l)
theorem setI_mem (l : List Int) (x : Int) : x ∈ setI l ↔ x ∈ l := by
  unfold setI
  rw [dd_mem, (sortI_perm l).mem_iff]
theorem inc_nodup {l : List Int} (h : IncI l) : l.Nodup := h.imp fun h => by omega
theorem dd_len : ∀ (l : List Int), (dd l).length ≤ l.length
  | [] => Nat.le_refl _
  | [_] => Nat.le_refl _
  | a :: b :: r => by
    have := dd_len (b :: r)
    simp only [dd]
    split
    · simp at this ⊢; omega
    · simp at this ⊢; omega
theorem setI_len (l : List Int) : (setI l).length ≤ l.length := by
  have := dd_len (sortI l)
  rw [sortI_len] at this
  exact this
theorem sorted_eq : ∀ {a b : List Int}, a.Perm b → a.Pairwise (· ≤ ·) → b.Pairwise (· ≤ ·) → a = b := by
  intro a b hp ha hb
  exact hp.eq_of_pairwise (fun x y _ _ h1 h2 => by omega) ha hb
theorem setI_perm {l s : List Int} (hp : l.Perm s) (hs : IncI s) : setI l = s := by
  have h1 : sortI l = s := sorted_eq ((sortI_perm l).trans hp) (sortI_sorted l) (hs.imp fun h => by omega)
  rw [setI, h1, dd_id s hs]
end Go.Pv
/- An object that is handed on and wanted no more: told to the callee as data. -/
namespace Go.Pv
open Go.RowKit
variable {P : Program} {G : Gl}
theorem Contract.frz {f : Nat} {args : List AV} {ab : AB} {R : AV → Prop} (hd : ab ≠ .dead) (hok : fzLOK 0 ab args) (hnr : nrL (fzL 0 ab args) = true) (h : Contract P G f (fzL 0 ab args) [] (fun r t => R r ∧ t = [])) :
    Contract P G f args [(0, ab)] (fun r t => R r ∧ t = [(0, .dead)]) := by
  refine ⟨h.1, fun g F U w vals hS hG hlv hv => ?_⟩
  obtain ⟨b, hb⟩ := hS.tot 0 ab (by simp)
  have hid : sfind [(0, ab)] 0 = some ab := rfl
  have hblt : b < w.heap.size := RB.lt (hS.rb (.g 0) ab b (by simp [Here]) hb) hd
  have hS0 : St ⟨fun _ => none, fun _ => none⟩ (fun c => F c ∨ c = b) (fun c => U c ∨ c = b) [] [] w := by
    refine ⟨fun r ab b hr _ => ?_, fun r r' a1 a2 b h1 h2 _ _ _ _ => ?_, fun r ab b hr _ _ => ?_, by simp, fun c hc => ?_, fun c hc => ?_, fun _ _ => rfl, fun id ab h => by simp at h, fun _ _ => rfl⟩
    · cases r <;> simp [Here] at hr
    · cases r <;> simp [Here] at h1
    · cases r <;> simp [Here] at hr
    · rcases hc with hc | hc
      · exact .inl (hS.FU c hc)
      · exact .inr hc
    · rcases hc with hc | hc
      · exact hS.Ult c hc
      · exact hc ▸ hblt
  refine (h.2 (fun _ => none) _ _ w vals hS0 (hG.mono (U := U) (fun _ h => .inl h) (fun c hc => hS.FU c hc) (.refl _ _)) (by rw [hlv, fzL_len]) (fun j x v hx hv' => ?_)).mono fun e w' he => ?_
  · obtain ⟨y, hy, rfl⟩ := fzL_get hx
    have := RV.fz hS hid hb hb (.refl _) (fun _ h => h) (hv j y v hy hv') (fzLOK_get hok hy)
    obtain ⟨z, hz⟩ := nrL_at hnr hx
    exact nr_rv this hz
  · obtain ⟨v, res, s', g', F', U', rfl, ⟨hR, rfl⟩, hg, _, hFF, hUU, hFn, hX, hSt, hrv⟩ := he
    refine ⟨v, res, [(0, .dead)], g, F', U', rfl, ⟨hR, rfl⟩, fun _ _ h => h, fun id ab' h => ?_, fun c hc => hFF c (.inl hc), fun c hc => hUU c (.inl hc), fun c hc => ?_, hX.mono (fun c hc => .inl hc), ?_, ?_⟩
    · simp only [List.mem_singleton, Prod.mk.injEq] at h
      exact .inl ⟨ab, by simp [h.1]⟩
    · rcases hFn c hc with (q | q) | q | ⟨_, _, q, _⟩
      · exact .inl q
      · subst q
        exact .inr (.inr ⟨0, ab, by simp, hd, hb⟩)
      · exact .inr (.inl q)
      · simp at q
    · refine ⟨fun r ab' c hr _ => ?_, fun r r' a1 a2 c h1 h2 d1 _ _ _ => ?_, fun r ab' c hr hd' _ => ?_, by simp, hSt.FU, hSt.Ult, fun _ _ => rfl, fun id ab' h => ?_, fun id h => ?_⟩
      · cases r with
        | l k => simp [Here] at hr
        | g id =>
          simp only [Here, List.mem_singleton, Prod.mk.injEq] at hr
          rw [hr.2]; exact trivial
      · cases r with
        | l k => simp [Here] at h1
        | g id =>
          simp only [Here, List.mem_singleton, Prod.mk.injEq] at h1
          exact absurd h1.2 d1
      · cases r with
        | l k => simp [Here] at hr
        | g id =>
          simp only [Here, List.mem_singleton, Prod.mk.injEq] at hr
          exact absurd hr.2 hd'
      · simp only [List.mem_singleton, Prod.mk.injEq] at h
        exact ⟨b, by rw [h.1]; exact hb⟩
      · refine hS.gdom id fun ab' h' => ?_
        simp only [List.mem_singleton, Prod.mk.injEq] at h'
        exact h .dead (by simp [h'.1])
    · refine hrv.mono (fun r c hr => ?_) (fun _ h => h) hSt.FU (.refl _ _)
      cases r with
      | l k => cases hr
      | g id =>
        have := hSt.gdom id (fun ab h => by simp at h)
        simp only [Mp.at_] at hr this
        rw [this] at hr
        cases hr
end Go.Pv
/- A region that draws its order, each order walked by itself: goals stay small. -/
namespace Go.Pv
open Go.RowKit

/-- An operation that has not come up: its place, what it waits for, whether it moves slots alone. -/
structure NI where
  i : Nat
  deps : List Nat
  late : Bool
def noOp : Oper := ⟨none, .move (.const (.bool true)), 0, "", #[], none⟩
def ndI (ops : List Oper) (x : NI) : ND := ⟨x.i, x.deps, x.late, (ops[x.i]?).getD noOp⟩
def rdyI (π : List Nat) (x : NI) : Bool := x.deps.all fun d => memN d π
def lateI (π : List Nat) : List NI → (NI → List NI → Prop) → Prop → Prop
  | [], _, Z => Z
  | x :: r, K, Z => match x.late && rdyI π x with
    | true => K x r
    | false => lateI π r (fun y r' => K y (x :: r')) Z
def anyI (π : List Nat) : List NI → Bool
  | [] => false
  | x :: r => match rdyI π x with
    | true => true
    | false => anyI π r
def allI (π : List Nat) : List NI → (NI → List NI → Prop) → Prop
  | [], _ => True
  | x :: r, K => match rdyI π x with
    | true => match anyI π r with
      | true => Both (K x r) (allI π r fun y r' => K y (x :: r'))
      | false => K x r
    | false => allI π r fun y r' => K y (x :: r')
def fNI : List NI → (List NI → Prop) → Prop
  | [], K => K []
  | x :: r, K => fNI r fun r => K (x :: r)
theorem fNI_eq : ∀ (l : List NI) (K : List NI → Prop), fNI l K = K l
  | [], _ => rfl
  | x :: r, K => by simp only [fNI, fNI_eq r]
theorem anyI_eq {ops : List Oper} {π : List Nat} : ∀ (l : List NI), anyI π l = allR.allB π (l.map (ndI ops))
  | [] => rfl
  | x :: r => by
    have e : rdyI π x = rdy π (ndI ops x) := rfl
    first
      | (simp only [anyI, List.map_cons, allR.allB, e, anyI_eq (ops := ops) r]; done)
      | (simp only [anyI, List.map_cons, allR.allB, e, anyI_eq (ops := ops) r]; cases rdy π (ndI ops x) <;> rfl)
theorem lateI_R {ops : List Oper} {π : List Nat} : ∀ (l : List NI) {K : NI → List NI → Prop} {Z : Prop}, lateI π l K Z → lateR π (l.map (ndI ops)) (fun nd r' => ∃ x r, nd = ndI ops x ∧ r' = r.map (ndI ops) ∧ K x r) Z
  | [], _, _, h => h
  | x :: r, K, Z, h => by
    have e : (x.late && rdyI π x) = ((ndI ops x).late && rdy π (ndI ops x)) := rfl
    simp only [lateI] at h
    simp only [List.map_cons, lateR, ← e]
    have mono : ∀ (l : List ND) {K K' : ND → List ND → Prop} {Z : Prop}, (∀ a b, K a b → K' a b) → lateR π l K Z → lateR π l K' Z := by
      intro l
      induction l with
      | nil => intro _ _ _ _ h; exact h
      | cons a l ih =>
        intro K K' Z hK h
        simp only [lateR] at h ⊢
        revert h
        cases a.late && rdy π a with
        | true => exact hK _ _
        | false => exact ih (fun _ _ h => hK _ _ h)
    revert h
    cases x.late && rdyI π x with
    | true => exact fun h => ⟨x, r, rfl, rfl, h⟩
    | false => exact fun h => mono _ (fun a b ⟨y, r', h1, h2, h3⟩ => ⟨y, x :: r', h1, by rw [h2]; rfl, h3⟩) (lateI_R (ops := ops) r h)
theorem allI_R {ops : List Oper} {π : List Nat} : ∀ (l : List NI) {K : NI → List NI → Prop}, allI π l K → allR π (l.map (ndI ops)) (fun nd r' => ∃ x r, nd = ndI ops x ∧ r' = r.map (ndI ops) ∧ K x r)
  | [], _, _ => trivial
  | x :: r, K, h => by
    have mono : ∀ (l : List ND) {K K' : ND → List ND → Prop}, (∀ a b, K a b → K' a b) → allR π l K → allR π l K' := by
      intro l
      induction l with
      | nil => intro _ _ _ h; exact h
      | cons a l ih =>
        intro K K' hK h
        simp only [allR] at h ⊢
        revert h
        cases rdy π a with
        | true =>
          cases allR.allB π l with
          | true => exact fun h => ⟨hK _ _ h.a, ih (fun _ _ h => hK _ _ h) h.b⟩
          | false => exact hK _ _
        | false => exact ih (fun _ _ h => hK _ _ h)
    have e : rdyI π x = rdy π (ndI ops x) := rfl
    simp only [allI, anyI_eq (ops := ops) r] at h
    simp only [List.map_cons, allR, ← e]
    revert h
    cases rdyI π x with
    | true =>
      cases allR.allB π (r.map (ndI ops)) with
      | true => exact fun h => ⟨⟨x, r, rfl, rfl, h.a⟩, mono _ (fun a b ⟨y, r', h1, h2, h3⟩ => ⟨y, x :: r', h1, by rw [h2]; rfl, h3⟩) (allI_R r h.b)⟩
      | false => exact fun h => ⟨x, r, rfl, rfl, h⟩
    | false => exact fun h => mono _ (fun a b ⟨y, r', h1, h2, h3⟩ => ⟨y, x :: r', h1, by rw [h2]; rfl, h3⟩) (allI_R r h)

structure StA where
  rest : List NI
  π : List Nat
  m : Nat
  re : List RE
  L : List AB
  s : List (Nat × AB)
section
variable (P : Program) (cx : Ctx) (ops : Code) (env : Env) (K : List RE → List AB → List (Nat × AB) → Prop)
def oneA (rec : StA → Prop) (π : List Nat) (m : Nat) (re : List RE) (L : List AB) (s : List (Nat × AB)) (x : NI) (r : List NI) : Prop :=
  match x with
  | ⟨i, _, _⟩ => fNI r fun r => fPi (π ++ [i]) fun π' => match nthO (opsC ops) i with
    | some o => fO o.dst fun d => fLit (m + 1) nums fun m1 => renK π o fun o => tl1 P cx env re [] L s o fun gs v _ L s => rec ⟨r, π', m1, ⟨m, d, gs, v⟩ :: re, L, s⟩
    | none => False
def stpA (rec : StA → Prop) : StA → Prop
  | ⟨rest, π, m, re, L, s⟩ => match rest with
    | [] => K re L s
    | x :: r => lateI π (x :: r) (fun x r => oneA P cx ops env rec π m re L s x r) (allI π (x :: r) fun x r => oneA P cx ops env rec π m re L s x r)
def runA (f : Nat) : StA → Prop := Nat.rec (fun σ => match σ.rest with
  | [] => K σ.re σ.L σ.s
  | _ :: _ => False) (fun _ ih σ => stpA P cx ops env K ih σ) f
end
end Go.Pv
/- The orders' walk tells the truth. -/
namespace Go.Pv
open Go.RowKit

section
variable {P : Program} {cx : Ctx} {C : Code} {env : Env} {a0 : Act} {z : Z} {Q : Exit → Act → World → Prop} {ops : List Oper} {K : List RE → List AB → List (Nat × AB) → Prop}

/-- One operation, told behind what came up ahead of it. -/
theorem one_soundA (hT : TabOK P cx.T) {π : List Nat} {its : List It} {L : List AB} {s : List (Nat × AB)} {a : Act} {w : World} {M : Mp} {F U : Nat → Prop} (hok : ∀ (i : Nat) (it : It), its[i]? = some it → okw cx.nt (reat its i) it.o = true)
    (hπ : ∀ (k i : Nat), π[k]? = some i → ∃ it o, its[k]? = some it ∧ ops[i]? = some o ∧ it.o.dst = o.dst) (hlen : its.length = π.length) (hI : SI cx env its a0 L s a w M F U) (hZ : Sin z M F U s w) {ndi : Nat} {ndo : Oper} (hnd : ops[ndi]? = some ndo)
    {K1 : List RE → List AB → List (Nat × AB) → Prop} (h : renK π ndo fun o => tl1 P cx env (reat its its.length) [] L s o fun gs v _ L s => K1 (⟨its.length, ndo.dst, gs, v⟩ :: reat its its.length) L s) {N : Act → World → Prop}
    (hN : ∀ its' L' s' a' w' M' F' U', (∀ (i : Nat) (it : It), its'[i]? = some it → okw cx.nt (reat its' i) it.o = true) → (∀ (k i : Nat), (π ++ [ndi])[k]? = some i → ∃ it o, its'[k]? = some it ∧ ops[i]? = some o ∧ it.o.dst = o.dst) → its'.length = its.length + 1 → K1 (reat its' its'.length) L' s' → SI cx env its' a0 L' s' a' w' M' F' U' → Sin z M' F' U' s' w' → N a' w') :
    wpOp P ops.toArray Q ndi N a w := by
  have key : ∀ g, Region.wanted (doOp ndo g) (yielded (its.map (·.o) ++ [doOp ndo g]).toArray a.tmps) = Region.wanted ndo (yielded ops.toArray a.tmps) → (tl1 P cx env (reat its its.length) [] L s (doOp ndo g) fun gs v _ L s => K1 (⟨its.length, ndo.dst, gs, v⟩ :: reat its its.length) L s) → wpOp P ops.toArray Q ndi N a w := by
    intro g hw hv
    have hlast : (its.map (·.o) ++ [doOp ndo g])[its.length]? = some (doOp ndo g) := by simp
    have hpre : ∀ (i : Nat) (it : It), its[i]? = some it → (its.map (·.o) ++ [doOp ndo g])[i]? = some it.o := fun i it hit => by
      rw [List.getElem?_append_left (by simpa using (List.getElem?_eq_some_iff.1 hit).1), List.getElem?_map, hit]; rfl
    have := tl_step (P := P) (z := z) (a0 := a0) (ops := its.map (·.o) ++ [doOp ndo g]) (Q := fun e a w => e = .normal ∧ N a w) (X := fun a w => N a w) hT hok (fun c hc => by cases hc) hpre hlast hI hZ hv
      (fun v new dead' L' s' a' w' M' F' U' q1 _ q3 q4 q5 q6 => by
        have hlen' : (its ++ [(⟨doOp ndo g, v, new⟩ : It)]).length = its.length + 1 := by simp
        refine hN _ L' s' a' w' M' F' U' q1 (fun k i hk => ?_) hlen' (by rw [hlen', q5]; exact q6) q3 q4
        rcases Nat.lt_or_ge k π.length with hlt | hge
        · rw [List.getElem?_append_left hlt] at hk
          obtain ⟨it, o, h1, h2, h3⟩ := hπ k i hk
          exact ⟨it, o, by rw [List.getElem?_append_left (by omega)]; exact h1, h2, h3⟩
        · rw [List.getElem?_append_right hge] at hk
          have hk0 : k = its.length := by
            have := (List.getElem?_eq_some_iff.1 hk).1
            simp at this
            omega
          subst hk0
          rw [hlen, Nat.sub_self] at hk
          simp at hk
          subst hk
          exact ⟨⟨doOp ndo g, v, new⟩, ndo, by simp, hnd, rfl⟩)
    exact wpOp_ren (X := fun e a w => e = .normal ∧ N a w) hnd hlast hw (fun _ _ _ h => h.1) (fun a w h => h) this
  have hg0 : ndo = ⟨ndo.dst, ndo.op, ndo.type, ndo.pos, ndo.after, ndo.guard⟩ := rfl
  rw [hg0] at h
  simp only [renK] at h
  split at h
  · rename_i hg
    exact key none (by simp [Region.wanted, doOp, hg]) h
  · rename_i j p hg
    split at h <;> try exact h.elim
    rename_i k hk
    refine key (some (k, p)) ?_ h
    obtain ⟨k', rfl, hk'⟩ := posOf_some hk
    obtain ⟨it, o, h1, h2, h3⟩ := hπ k' j hk'
    have hkl := (List.getElem?_eq_some_iff.1 h1).1
    simp only [Region.wanted, doOp, hg, yielded, List.getElem?_toArray, Nat.zero_add, h2]
    rw [List.getElem?_append_left (by simpa using hkl), List.getElem?_map, h1]
    simp [h3]

theorem runA_sound (hT : TabOK P cx.T) (hops : opsC C = ops) (hord : ordOK ops = true) (hQ : ∀ e a w, Q e a w → e = .normal) : ∀ (f : Nat) (rest : List NI) (π : List Nat) (its : List It) (L : List AB) (s : List (Nat × AB)) (a : Act) (w : World) (M : Mp) (F U : Nat → Prop) (listed : Array Bool),
    (∀ (i : Nat) (it : It), its[i]? = some it → okw cx.nt (reat its i) it.o = true) → (∀ (k i : Nat), π[k]? = some i → ∃ it o, its[k]? = some it ∧ ops[i]? = some o ∧ it.o.dst = o.dst) → its.length = π.length → SI cx env its a0 L s a w M F U → Sin z M F U s w →
    NDs ops (rest.map (ndI ops)) π → listed.size = ops.length → (∀ i, Lsd listed i ↔ i ∈ π) → Closed ops listed →
    runA P cx C env K f ⟨rest, π, its.length, reat its its.length, L, s⟩ →
    (∀ its' L' s' a' w' M' F' U', (∀ (i : Nat) (it : It), its'[i]? = some it → okw cx.nt (reat its' i) it.o = true) → K (reat its' its'.length) L' s' → SI cx env its' a0 L' s' a' w' M' F' U' → Sin z M' F' U' s' w' → Q .normal a' w') →
    wpAny P .any ops.toArray Q (unl ops.length listed) listed a w := by
  have fin : ∀ (π : List Nat) (its : List It) (L : List AB) (s : List (Nat × AB)) (a : Act) (w : World) (M : Mp) (F U : Nat → Prop) (listed : Array Bool),
      (∀ (i : Nat) (it : It), its[i]? = some it → okw cx.nt (reat its i) it.o = true) → SI cx env its a0 L s a w M F U → Sin z M F U s w → NDs ops [] π → listed.size = ops.length → (∀ i, Lsd listed i ↔ i ∈ π) → K (reat its its.length) L s →
      (∀ its' L' s' a' w' M' F' U', (∀ (i : Nat) (it : It), its'[i]? = some it → okw cx.nt (reat its' i) it.o = true) → K (reat its' its'.length) L' s' → SI cx env its' a0 L' s' a' w' M' F' U' → Sin z M' F' U' s' w' → Q .normal a' w') →
      wpAny P .any ops.toArray Q (unl ops.length listed) listed a w := by
    intro π its L s a w M F U listed hok hI hZ hN hs hl hK hq
    have hall : ∀ i, i < ops.length → Lsd listed i := fun i hi => by
      rw [hl i]
      refine Classical.byContradiction fun hn => ?_
      obtain ⟨nd, h1, _⟩ := hN.all i hi hn
      cases h1
    have hu : unl ops.length listed = 0 := by
      unfold unl
      rw [List.countP_eq_zero]
      intro i hi
      have := hall i (List.mem_range.1 hi)
      unfold Lsd at this
      simp [this]
    rw [hu]
    refine ⟨?_, hq its L s a w M F U hok hK hI hZ⟩
    cases hr : Region.ready .any ops.toArray listed with
    | nil => rfl
    | cons x xs =>
      have : x ∈ Region.ready .any ops.toArray listed := by rw [hr]; exact List.mem_cons_self
      obtain ⟨h1, h2, _⟩ := (ready_mem rfl hs).1 this
      exact absurd (hall x h1) h2
  intro f
  induction f with
  | zero =>
    intro rest π its L s a w M F U listed hok hπ hlen hI hZ hN hs hl hc h hq
    cases rest with
    | nil => exact fin π its L s a w M F U listed hok hI hZ hN hs hl h hq
    | cons x r => exact h.elim
  | succ f ih =>
    intro rest π its L s a w M F U listed hok hπ hlen hI hZ hN hs hl hc h hq
    cases rest with
    | nil => exact fin π its L s a w M F U listed hok hI hZ hN hs hl h hq
    | cons x r =>
    have h : lateI π (x :: r) (fun x r => oneA P cx C env (runA P cx C env K f) π its.length (reat its its.length) L s x r) (allI π (x :: r) fun x r => oneA P cx C env (runA P cx C env K f) π its.length (reat its its.length) L s x r) := h
    -- one that comes up
    have step : ∀ (xi : NI) (r' : List NI), ((x :: r).map (ndI ops)).Perm ((xi :: r').map (ndI ops)) → xi.i ∈ Region.ready .any ops.toArray listed → oneA P cx C env (runA P cx C env K f) π its.length (reat its its.length) L s xi r' →
        ∀ (Q' : Exit → Act → World → Prop), wpOp P ops.toArray Q' xi.i (fun a' w' => wpAny P .any ops.toArray Q (unl ops.length (listed.setIfInBounds xi.i true)) (listed.setIfInBounds xi.i true) a' w') a w := by
      intro xi r' hp hi h Q'
      have hil : xi.i < ops.length := ((ready_mem rfl hs).1 hi).1
      have hop : nthO (opsC C) xi.i = some ops[xi.i] := by rw [hops, nthO_eq, List.getElem?_eq_getElem hil]
      unfold oneA at h
      simp only [fNI_eq, fPi_eq, hop, fO_eq, fLit_eq] at h
      refine one_soundA (a0 := a0) (z := z) (K1 := fun re L s => runA P cx C env K f ⟨r', π ++ [xi.i], its.length + 1, re, L, s⟩) hT hok hπ hlen hI hZ (List.getElem?_eq_getElem hil) h fun its' L' s' a' w' M' F' U' hok' hπ' hlen' hK' hI' hZ' => ?_
      refine ih r' (π ++ [xi.i]) its' L' s' a' w' M' F' U' _ hok' hπ' (by simp; omega) hI' hZ' (hN.step hp) (by simp [hs]) (fun j => ?_) (closed_set hc rfl hs hi) (by rw [hlen'] at hK' ⊢; exact hK') hq
      rw [lsd_set (by omega), hl j]
      simp
    have hpos : ∀ i, i ∈ Region.ready .any ops.toArray listed → unl ops.length listed = unl ops.length (listed.setIfInBounds i true) + 1 := fun i hi => by
      obtain ⟨h1, h2, _⟩ := (ready_mem rfl hs).1 hi
      exact unl_set hs h1 h2
    -- what waits for nothing may come up
    have hready : ∀ nd ∈ (x :: r).map (ndI ops), nd.i ∈ Region.ready .any ops.toArray listed → rdy π nd = true := by
      intro nd hmem hi
      obtain ⟨_, _, o, h3, h4⟩ := (ready_mem rfl hs).1 hi
      rw [hN.op nd hmem] at h3
      cases h3
      unfold rdy
      rw [List.all_eq_true]
      intro d hd
      obtain ⟨e, he, hb, rfl⟩ := hN.deps nd hmem d hd
      exact memN_of ((hl _).1 (h4 e he hb))
    rcases lateR_some (lateI_R (ops := ops) _ h) with h | ⟨nd, rn, h1, h2, h3, h4, y, r', rfl, rfl, h5⟩
    · -- each
      have hx : ¬ Lsd listed x.i := fun hh => hN.out (ndI ops x) (by simp) ((hl _).1 hh)
      have hxl : x.i < ops.length := (List.getElem?_eq_some_iff.1 (hN.op (ndI ops x) (by simp))).1
      have hne := ready_some (ops := ops) rfl hs hord hxl hx
      have hu : ∃ u, unl ops.length listed = u + 1 := by
        cases hr : Region.ready .any ops.toArray listed with
        | nil => exact absurd hr hne
        | cons y ys => exact ⟨_, hpos y (by rw [hr]; simp)⟩
      obtain ⟨u, hu⟩ := hu
      rw [hu]
      refine ⟨fun h0 => absurd h0 hne, fun i hi => ?_⟩
      obtain ⟨q1, q2, o, q3, q4⟩ := (ready_mem rfl hs).1 hi
      obtain ⟨nd, hmem, rfl⟩ := hN.all i q1 (fun hh => q2 ((hl i).2 hh))
      obtain ⟨rn, hp, y, r', rfl, rfl, hk⟩ := allR_all (allI_R (ops := ops) _ h) nd hmem (hready nd hmem hi)
      have := step y r' hp hi hk Q
      rwa [show unl ops.length (listed.setIfInBounds y.i true) = u by have := hpos y.i hi; omega] at this
    · -- what moves slots alone comes first
      obtain ⟨hns, hla⟩ := hN.late (ndI ops y) h1 h2
      obtain ⟨o, k1, k2, k3, k4⟩ := lateAt0_spec hla
      have hno := hN.op (ndI ops y) h1
      rw [k1] at hno
      have k1' : ops[y.i]? = some o := k1
      have hno : o = (ndI ops y).o := by simpa using hno
      have hil : y.i < ops.length := (List.getElem?_eq_some_iff.1 k1').1
      have hni : ¬ Lsd listed y.i := fun hh => hN.out (ndI ops y) h1 ((hl _).1 hh)
      have hall : ∀ e ∈ o.after.toList, Region.binds .any e = true → Lsd listed e.on := fun e he hb => (hl _).2 (by
        rw [hno] at he
        have := List.all_eq_true.1 h3 _ (hN.deps2 (ndI ops y) h1 e he hb)
        exact memN_iff.1 this)
      have hi : y.i ∈ Region.ready .any ops.toArray listed := (ready_mem rfl hs).2 ⟨hil, hni, o, k1', hall⟩
      have hstep := step y r' h4 hi h5 (fun _ _ _ => False)
      unfold wpOp at hstep
      simp only [List.getElem?_toArray, k1'] at hstep
      rw [if_pos (by simp [Region.wanted, k3])] at hstep
      have hwp := hstep.resolve_right (fun h => by
        obtain ⟨_, a, w, hq⟩ := h
        exact hq.elim)
      obtain ⟨v, hy, hK⟩ := slot_yield0 (ops := ops.toArray) k2 k3 hwp
      rw [hpos y.i hi]
      refine wpAny_first (by rw [List.getElem?_toArray]; exact k1') (fun j oj cs b hj he => ?_) (fun c a w hq => absurd (hQ _ _ _ hq) (by simp)) _ listed a w (fun j oj hj hne hld hw => k4 j oj (by simpa using hj) hne (fun hbit => by
        have hlj := waits hc y.i j _ k1' hall hbit
        have hlt := (Array.getElem?_eq_some_iff.1 hj).1
        unfold Lsd at hlj
        rw [Array.getD_eq_getD_getElem?, Array.getElem?_eq_getElem (by simp at hlt; omega)] at hlj hld
        simp only [Option.getD_some] at hlj hld
        rw [hlj] at hld
        cases hld) hw) hi hy hK
      have := List.all_eq_true.1 hns oj (by have := List.mem_of_getElem? (show ops[j]? = some oj by simpa using hj); exact this)
      rw [he] at this
      cases this
end

def ofSp : List (Nat × List Nat × Bool) → List NI
  | [] => []
  | (i, d, l) :: r => ⟨i, d, l⟩ :: ofSp r
def isDrawC : Code → Bool
  | .region _ _ d => d
  | _ => false
section
variable {P : Program} {cx : Ctx} {n : Nat} {kt : List (Nat × Nat)} {R : Code} {K : KK} {env : Env} {s : List (Nat × AB)} {p : List Nat} {st : List Fr}
/-- Behind the region. -/
def endA (cx : Ctx) (n : Nat) (ks : List Nat) (env : Env) (J : Env → List (Nat × AB) → Prop) (re : List RE) (L : List AB) (s : List (Nat × AB)) : Prop :=
  envK cx.keep re env fun env => tidyU env cx.keep fun env => promK cx.keep n env L s fun env s => tidyG n ks env s J
/-- A region that draws, each order by itself; J tells what all of them come to. -/
theorem StopG.draw (W : WK P cx kt R) (ct : List Nat) (sp : List (Nat × List Nat × Bool)) (ks : List Nat) (J : Env → List (Nat × AB) → Prop) (hp : isDrawC (getC R p) = true) (hn : (ofSp sp).map (ndI (opsC (getC R p))) = nodesOf (opsC (getC R p)) (spLate sp))
    (hk : (ordOK (opsC (getC R p)) && (spLate sp).all fun i => noSel (opsC (getC R p)) && lateAt0 (opsC (getC R p)) i) = true)
    (h : runA P cx (getC R p) env (endA cx n ks env J) 100000 ⟨ofSp sp, [], 0, [], [], s⟩)
    (hJ : ∀ env s, J env s → run P cx n kt ct R K 100000 ⟨.ex .normal, st, env, s⟩) : StopG P cx n R K p st env s := by
  refine ⟨?_⟩
  generalize hc : getC R p = c at hp hn hk h
  cases c with
  | region id ops draw =>
    simp only [isDrawC] at hp
    subst hp
    simp only [opsC] at hn hk h
    simp only [Bool.and_eq_true] at hk
    refine .mk fun z a w M F U h0 hC hZ => ?_
    refine wp_mono (Q := fun e a w => e = .normal ∧ QV cx z (Kst P cx n R K st) .normal a w) (wp_region_any W.mixed ?_) (fun e a w hq => by obtain ⟨rfl, hq⟩ := hq; exact hq)
    have hnone : ∀ i, ¬ Lsd (Array.replicate ops.toList.length false) i := by
      intro i h
      unfold Lsd at h
      rw [Array.getD_eq_getD_getElem?] at h
      rw [Array.getElem?_replicate] at h
      split at h <;> simp at h
    have hX : ∀ U, Ext U w { w with drawn := w.drawn + 1 } := fun U => ⟨rfl, rfl, rfl, Nat.le_refl _, fun _ _ => rfl, fun _ _ => rfl⟩
    have hst : St M F U [] s { w with drawn := w.drawn + 1 } := ⟨fun r ab b hr hm => (hC.st.rb r ab b hr hm).mono (.refl _) (fun _ h => h) (fun b hb => hC.st.FU b hb) (hX U) (fun _ => rfl), hC.st.inj, hC.st.nU, hC.st.nd, hC.st.FU, hC.st.Ult, hC.st.dom, hC.st.tot, hC.st.gdom⟩
    have hSI : SI cx env [] a [] s a { w with drawn := w.drawn + 1 } M F U := ⟨hst, hC.gl.mono (fun _ h => h) (fun b hb => hC.st.FU b hb) (hX U), fun i it hit => (by simp at hit), fun t _ => (hC.env t).mono (.refl _) (fun _ h => h) hC.st.FU (hX U), hC.size, rfl⟩
    have hZ' : Sin z M F U s { w with drawn := w.drawn + 1 } := ⟨hZ.g, hZ.FF, hZ.UU, hZ.Fn, hZ.ext.trans (hX _) (fun _ h => h), hZ.ll, hZ.lg, hZ.ids⟩
    have hu : unl ops.toList.length (Array.replicate ops.toList.length false) = ops.size := by
      unfold unl
      have : ∀ m, (List.range m).countP (fun i => !((Array.replicate ops.toList.length false).getD i false)) = m := by
        intro m
        induction m with
        | zero => rfl
        | succ m ih =>
          rw [List.range_succ, List.countP_append, ih]
          have := hnone m
          unfold Lsd at this
          simp only [Bool.not_eq_true] at this
          simp only [List.countP_cons, List.countP_nil, this, Bool.not_false, if_true]
      rw [this]
      simp
    have := runA_sound (P := P) (cx := cx) (C := .region id ops true) (env := env) (a0 := a) (z := z) (Q := fun e a w => e = .normal ∧ QV cx z (Kst P cx n R K st) .normal a w) (ops := ops.toList) W.tab rfl hk.1 (fun _ _ _ h => h.1) 100000 (ofSp sp) [] [] [] s a { w with drawn := w.drawn + 1 } M F U (Array.replicate ops.toList.length false)
      (fun i it hit => by simp at hit) (fun k i hi => by simp at hi) rfl hSI hZ' (by rw [hn]; exact NDs.start hk.2) (by simp) (fun i => ⟨fun h => absurd h (hnone i), fun h => by cases h⟩) (fun j o _ h => absurd h (hnone j)) h ?_
    · rw [hu] at this
      simpa using this
    intro its' L' s' a'' w'' M'' F'' U'' hok hK hS hZ2
    unfold endA at hK
    rw [envK_eq] at hK
    have henv : ∀ t, RV M'' F'' w'' (look (envOf cx.keep (reat its' its'.length) env) t) (slotv a'' t) := fun t => envOf_rv _ (fun e he hg => by
      obtain ⟨j, itj, hji, hitj, hdj, rfl, _⟩ := rlook_reat he
      exact (hS.slot j itj hitj t hdj).1 (by rw [show gsAt its' j itj = [] from hg]; exact trivial)) (fun hn => hS.env t fun i it hit => rlook_none hn i it (List.getElem?_eq_some_iff.1 hit).1 hit)
    obtain ⟨en, q1, q2⟩ := tidyU_get henv hK
    obtain ⟨env2, s2, hg, hk2⟩ := promK_get rfl q2
    obtain ⟨env3, s3, hg3, hk3⟩ := tidyG_get (cx := cx) hk2
    obtain ⟨M2, F2, U2, h4, h5⟩ := hg z a'' w'' M'' F'' U'' h0 ⟨hS.st, hS.gl, q1, hS.size, hS.defers.trans hC.defers⟩ hZ2
    obtain ⟨M3, F3, U3, h6, h7⟩ := hg3 z a'' w'' M2 F2 U2 h0 h4 h5
    exact ⟨rfl, env3, s3, M3, F3, U3, W.ex (hJ _ _ hk3), h6, h7⟩
  | _ => cases hp
end
end Go.Pv
/- The walk's words, more of them. -/
namespace Go.Pv
open Go.RowKit
section
variable {P : Program} {cx : Ctx} {n : Nat} {env : Env} {s : List (Nat × AB)}
theorem GV.tidied {E : Env} {S : List (Nat × AB)} (ks : List Nat) (h : tidyG n ks env s fun e2 s2 => e2 = E ∧ s2 = S) : GV cx n env [] s E S := by
  obtain ⟨e2, s2, h1, rfl, rfl⟩ := tidyG_get (cx := cx) h
  exact h1
variable {kt : List (Nat × Nat)} {R : Code} {K : KK} {p : List Nat} {st : List Fr}
/-- In rounds; each round's beginning may be told otherwise. -/
theorem StopG.roundsS (W : WK P cx kt R) (ct : List Nat) (ks : List Nat) (I : Nat → Env → List (Nat × AB) → Prop) (hp : isLoopC (getC R p) = true) (h0 : tidyG n ks env s fun e2 s2 => ∃ m, I m e2 s2)
    (step : ∀ m env s, I m env s → StopG P cx n R (KL P cx n kt ct R K st ks I m) (0 :: p) [] env s) : StopG P cx n R K p st env s := by
  refine ⟨?_⟩
  rw [isLoopC_ch hp]
  refine V.rounds I (tidyG_get h0) fun m env s hI => ?_
  have h1 := (step m env s hI).h
  have e0 : getC R (0 :: p) = ch0 (getC R p) := rfl
  rw [e0] at h1
  refine h1.mono fun e env s hk => ?_
  cases e with
  | normal => exact tidyG_get (K := fun e2 s2 => ∃ k, k < m ∧ I k e2 s2) hk
  | _ => exact W.ex (ct := ct) (m := 100000) hk
end
/-- What a call hands back, told otherwise. -/
def cx1 (G : Gl) : Ctx := ⟨fun _ => none, G, 1, []⟩
theorem Contract.told {P : Program} {G : Gl} {f : Nat} {args : List AV} {R R' : AV → List (Nat × AB) → Prop} (h : Contract P G f args [] R) (hp : ∀ r t, R r t → ∃ r1, GV (cx1 G) 0 [(0, r)] [] t [(0, r1)] [] ∧ nrL [r1] = true ∧ R' r1 []) : Contract P G f args [] R' := by
  refine ⟨h.1, fun g F U w vals hS hG hl hv => ?_⟩
  have hg0 : ∀ id, g id = none := fun id => hS.gdom id fun ab h => by simp at h
  have hF : ∀ b, F b → b < w.heap.size := fun b hb => hS.Ult b (hS.FU b hb)
  have hSb : St ⟨fun _ => none, g⟩ F (fun b => b < w.heap.size) [] [] w := ⟨hS.rb, hS.inj, (fun r ab b hr _ _ => by cases r <;> simp [Here] at hr), hS.nd, hF, fun _ h => h, hS.dom, hS.tot, hS.gdom⟩
  refine (h.2 g F (fun b => b < w.heap.size) w vals hSb hG hl hv).mono fun e w' he => ?_
  obtain ⟨v, res, t, g', F', U', rfl, hR, hg, hids, hFF, hUU, hFn, hX, hSt, hrv⟩ := he
  obtain ⟨r1, hgv, hnr, hR1⟩ := hp res t hR
  have hFn2 : ∀ b, F' b → F b ∨ w.heap.size ≤ b ∨ LiveG g [] b := hFn
  have hlg : ∀ (id : Nat) (ab : AB) (b : Nat), (id, ab) ∈ t → ab ≠ .dead → g' id = some b → w.heap.size ≤ b ∨ LiveG g [] b := fun id ab b h1 h2 h3 => by
    have hn := hSt.nU (.g id) ab b h1 h2 h3
    rcases Nat.lt_or_ge b w.heap.size with q | q
    · exact absurd (hUU b q) hn
    · exact .inl q
  obtain ⟨M1, F1, U1, hC, hZ⟩ := hgv ⟨w, g, F, fun b => b < w.heap.size, []⟩ { tmps := #[v], defers := [] } w' ⟨fun _ => none, g'⟩ F' U' (fun id _ => hg0 id)
    ⟨hSt, hG.mono (U := fun b => b < w.heap.size) hFF hF hX, fun t' => by
      simp only [look]
      split
      · rename_i hb
        have := beq_t hb
        subst this
        exact hrv
      · exact .undef _, rfl, rfl⟩
    ⟨fun id b hb => hg id b hb, hFF, hUU, hFn2, hX, (fun k b hb => by cases hb), hlg, fun id ab h => .inr (hg0 id)⟩
  have h0 := hC.env 0
  have hlk : look [(0, r1)] 0 = r1 := rfl
  rw [hlk] at h0
  obtain ⟨z, hz⟩ := nrL_at hnr (show [r1][0]? = some r1 from rfl)
  refine ⟨v, r1, [], fun _ => none, F1, U1, rfl, hR1, (fun id b hb => by rw [hg0 id] at hb; cases hb), (fun id ab h => by simp at h), hZ.FF, fun b hb => hZ.UU b (hS.Ult b hb), hZ.Fn, hZ.ext.mono fun b hb => hS.Ult b hb, ?_, nr_rv h0 hz⟩
  exact ⟨(fun r ab b hr _ => by cases r <;> simp [Here] at hr), (fun r r' a1 a2 b h1 _ _ _ _ _ => by cases r <;> simp [Here] at h1), (fun r ab b hr _ _ => by cases r <;> simp [Here] at hr), by simp, hC.st.FU, hC.st.Ult, fun _ _ => rfl, (fun id ab h => by simp at h), fun _ _ => rfl⟩
/-- A slice of one's own, or none, told as data. -/
theorem Contract.as_list {P : Program} {G : Gl} {f : Nat} {args : List AV} {sz : Nat} {rows : List (List DV)} (hsz : 0 < sz) (h : Contract P G f args [] (fun r t => ((r = .d .nil ∨ r = .d .emp) ∧ rows = [] ∧ t = []) ∨ ∃ c, rows.length ≤ c ∧ r = .slc (.g 0) sz 0 rows.length c ∧ t = [(0, .row sz rows)])) :
    Contract P G f args [] (fun r t => r = .d (.list sz rows) ∧ t = []) := by
  refine h.told fun r t hr => ⟨.d (.list sz rows), ?_, rfl, rfl, rfl⟩
  rcases hr with ⟨h1 | h1, rfl, rfl⟩ | ⟨c, hc, rfl, rfl⟩
  · subst h1; exact GV.wk 0 sz
  · subst h1; exact GV.wk 0 sz
  · refine GV.trans (GV.freeze 0 rfl (by simp) ⟨⟨hsz, by omega⟩, trivial⟩ ⟨trivial, trivial⟩) ?_
    have e : fzE 0 (AB.row sz rows) [(0, .slc (.g 0) sz 0 rows.length c)] = [(0, .d (.list sz ((List.drop 0 rows).take rows.length)))] := by simp [fzE, AV.fz]
    rw [e, List.drop_zero, List.take_of_length_le (Nat.le_refl _)]
    exact GV.gather [] rfl rfl rfl
theorem row_g {α : Type} {row : α → List DV} {l : List α} {i : Nat} {x : α} (h : l[i]? = some x) : (l.map row)[0 + (i : Int).toNat]? = some (row x) := by simp [h]
theorem set_same {α : Type} {l : List α} {i : Nat} {x : α} (h : l[i]? = some x) : l.set i x = l := by
  refine List.ext_getElem? fun k => ?_
  rw [List.getElem?_set]
  split
  · rename_i e
    subst e
    rw [h, if_pos (List.getElem?_eq_some_iff.1 h).1]
  · rfl
theorem set_row {α : Type} {row : α → List DV} {l : List α} {i : Nat} (y : α) : (l.map row).set (0 + (i : Int).toNat) (row y) = (l.set i y).map row := by
  simp [List.map_set]
end Go.Pv
/- Nil slices within, as lists of none. -/
namespace Go.Pv
open Go.RowKit
def wkA (sz : Nat) : AV → AV
  | .agg cs => .agg (cs.map (wkV sz))
  | x => x
theorem wkA_rv {M : Mp} {F : Nat → Prop} {w : World} {x : AV} {v : Value} (sz : Nat) (h : RV M F w x v) : RV M F w (wkA sz x) v := by
  cases h with
  | agg cs vs hl h1 h =>
    refine .agg _ vs (by rw [hl, List.length_map]) h1 fun j x u hx hu => ?_
    rw [List.getElem?_map] at hx
    cases hj : cs[j]? with
    | none => rw [hj] at hx; cases hx
    | some y => rw [hj] at hx; cases hx; exact wkV_rv sz (h j y u hj hu)
  | _ => first | exact .undef _ | (constructor <;> assumption)
theorem look_map {f : AV → AV} (h0 : f (look [] 0) = look [] 0) : ∀ (env : Env) (t : Nat), look (env.map fun p => (p.1, f p.2)) t = f (look env t)
  | [], _ => h0.symm
  | p :: r, t => by
    obtain ⟨i, x⟩ := p
    simp only [List.map, look]
    split
    · rfl
    · exact look_map h0 r t
theorem GV.weak {cx : Ctx} {n : Nat} {env : Env} {s : List (Nat × AB)} (f : AV → AV) (h0 : f (look [] 0) = look [] 0) (hf : ∀ M F w x v, RV M F w x v → RV M F w (f x) v) : GV cx n env [] s (env.map fun p => (p.1, f p.2)) s := by
  intro z a w M F U _ hC hZ
  refine ⟨M, F, U, ⟨hC.st, hC.gl, fun t => ?_, hC.size, hC.defers⟩, hZ⟩
  rw [look_map h0]
  exact hf _ _ _ _ _ (hC.env t)
/-- Of a result, its nil fields told as lists of none. -/
theorem Contract.weak {P : Program} {G : Gl} {f : Nat} {args : List AV} {R R' : AV → List (Nat × AB) → Prop} (sz : Nat) (h : Contract P G f args [] R) (hp : ∀ r t, R r t → t = [] ∧ nrL [wkA sz r] = true ∧ R' (wkA sz r) []) : Contract P G f args [] R' :=
  h.told fun r t hr => by
    obtain ⟨rfl, h1, h2⟩ := hp r t hr
    exact ⟨_, GV.weak (wkA sz) rfl fun _ _ _ _ _ h => wkA_rv sz h, h1, h2⟩
end Go.Pv
/- Maps whose entries are told by a list without a key twice. -/
namespace Go.Pv
open Go.RowKit

section
variable {α β : Type} (κ : α → β)

def encM (enc : β → DX) (ev : α → DX) (l : List α) : List (DX × DX) := l.map fun a => (enc (κ a), ev a)
section
variable {κ} {enc : β → DX} {ev : α → DX}
theorem key_uniq {l : List α} (hn : (l.map κ).Nodup) {a b : α} (ha : a ∈ l) (hb : b ∈ l) (h : κ a = κ b) : a = b := by
  obtain ⟨i, hi⟩ := List.mem_iff_getElem?.1 ha
  obtain ⟨j, hj⟩ := List.mem_iff_getElem?.1 hb
  have hi' : (l.map κ)[i]? = some (κ a) := by rw [List.getElem?_map, hi]; rfl
  have hj' : (l.map κ)[j]? = some (κ b) := by rw [List.getElem?_map, hj]; rfl
  have hlt := (List.getElem?_eq_some_iff.1 hi').1
  have := (List.getElem?_inj hlt hn).1 (hi'.trans (by rw [hj', h]))
  subst this
  rw [hi] at hj
  exact Option.some.inj hj
theorem enc_idx (hinj : ∀ a b, enc a = enc b → a = b) {l : List α} (hn : (l.map κ).Nodup) {j : Nat} {x : α} (hx : l[j]? = some x) {b : β} (hk : κ x = b) :
    (∃ y, (encM κ enc ev l)[j]? = some y ∧ y.1 = enc b) ∧ ∀ i y, (encM κ enc ev l)[i]? = some y → y.1 = enc b → i = j := by
  unfold encM
  refine ⟨⟨(enc (κ x), ev x), by rw [List.getElem?_map, hx]; rfl, by rw [hk]⟩, fun i y hy he => ?_⟩
  rw [List.getElem?_map] at hy
  obtain ⟨z, hz, rfl⟩ := Option.map_eq_some_iff.1 hy
  have h1 : κ z = b := hinj _ _ he
  have hi' : (l.map κ)[i]? = some b := by rw [List.getElem?_map, hz, ← h1]; rfl
  have hj' : (l.map κ)[j]? = some b := by rw [List.getElem?_map, hx, ← hk]; rfl
  exact (List.getElem?_inj (List.getElem?_eq_some_iff.1 hi').1 hn).1 (hi'.trans hj'.symm)
theorem map_erase {γ : Type} (f : α → γ) (l : List α) (j : Nat) : (l.map f).eraseIdx j = (l.eraseIdx j).map f := by
  apply List.ext_getElem?
  intro i
  rw [List.getElem?_map, List.getElem?_eraseIdx, List.getElem?_eraseIdx]
  split <;> rw [List.getElem?_map]
theorem good_enc {c : Bool × List IntKind} (h : ∀ b, kgood c (enc b) = true) (l : List α) : ∀ e ∈ encM κ enc ev l, kgood c e.1 = true := fun e he => by
  obtain ⟨x, hx, rfl⟩ := List.mem_map.1 he
  exact h _
end
variable [DecidableEq β]
def aget (l : List α) (b : β) : Option α := match l with
  | [] => none
  | x :: r => if κ x = b then some x else aget r b
def aput (l : List α) (a : α) : List α := match l with
  | [] => [a]
  | x :: r => if κ x = κ a then a :: r else x :: aput r a
def adel (l : List α) (b : β) : List α := match l with
  | [] => []
  | x :: r => if κ x = b then r else x :: adel r b

variable {κ} {enc : β → DX} {ev : α → DX}

theorem aget_none : ∀ {l : List α} {b : β}, aget κ l b = none → ∀ a ∈ l, κ a ≠ b
  | [], b, _, a, ha => by simp at ha
  | x :: r, b, h, a, ha => by
    simp only [aget] at h
    split at h
    · cases h
    · rename_i hn
      rcases List.mem_cons.1 ha with rfl | ha
      · exact hn
      · exact aget_none h a ha
theorem aget_some : ∀ {l : List α} {b : β} {a : α}, aget κ l b = some a → a ∈ l ∧ κ a = b
  | [], b, a, h => by simp [aget] at h
  | x :: r, b, a, h => by
    simp only [aget] at h
    split at h
    · rename_i hx
      cases h
      exact ⟨by simp, hx⟩
    · obtain ⟨h1, h2⟩ := aget_some h
      exact ⟨List.mem_cons_of_mem _ h1, h2⟩
theorem dget_enc (hinj : ∀ a b, enc a = enc b → a = b) {l : List α} (hn : (l.map κ).Nodup) (b : β) : dget (encM κ enc ev l) (enc b) ((aget κ l b).map ev) := by
  cases h : aget κ l b with
  | none =>
    intro e he
    obtain ⟨a, ha, rfl⟩ := List.mem_map.1 he
    exact fun e => aget_none h a ha (hinj _ _ e)
  | some a =>
    obtain ⟨h1, h2⟩ := aget_some h
    refine ⟨⟨_, List.mem_map.2 ⟨a, h1, rfl⟩, by simp only [h2]⟩, fun e he hk => ?_⟩
    obtain ⟨a', ha', rfl⟩ := List.mem_map.1 he
    have := key_uniq hn ha' h1 ((hinj _ _ hk).trans h2.symm)
    subst this
    rfl
theorem aput_mem : ∀ {l : List α} {a x : α}, x ∈ aput κ l a → x = a ∨ (x ∈ l ∧ (κ x ≠ κ a ∨ x = a) ∨ x ∈ l)
  | [], a, x, h => by simp [aput] at h; exact .inl h
  | y :: r, a, x, h => by
    simp only [aput] at h
    split at h
    · rcases List.mem_cons.1 h with rfl | h
      · exact .inl rfl
      · exact .inr (.inr (List.mem_cons_of_mem _ h))
    · rcases List.mem_cons.1 h with rfl | h
      · exact .inr (.inr (by simp))
      · rcases aput_mem h with rfl | ⟨h, _⟩ | h
        · exact .inl rfl
        · exact .inr (.inr (List.mem_cons_of_mem _ h))
        · exact .inr (.inr (List.mem_cons_of_mem _ h))
theorem aput_keys : ∀ {l : List α} {a : α}, (aput κ l a).map κ = if κ a ∈ l.map κ then l.map κ else l.map κ ++ [κ a]
  | [], a => by simp [aput]
  | y :: r, a => by
    simp only [aput]
    by_cases h : κ y = κ a
    · rw [if_pos h, if_pos (by simp [h])]
      simp [h]
    · rw [if_neg h]
      simp only [List.map_cons, aput_keys (l := r) (a := a)]
      by_cases h2 : κ a ∈ r.map κ
      · rw [if_pos h2, if_pos (by simp only [List.mem_cons]; exact .inr h2)]
      · rw [if_neg h2, if_neg (by simp only [List.mem_cons]; rintro (e | e); exact h e.symm; exact h2 e)]
        simp
theorem aput_nodup {l : List α} (hn : (l.map κ).Nodup) (a : α) : ((aput κ l a).map κ).Nodup := by
  rw [aput_keys]
  split
  · exact hn
  · rename_i h
    refine List.nodup_append.2 ⟨hn, by simp, fun x hx y hy e => ?_⟩
    simp at hy
    subst hy
    subst e
    exact h hx
theorem adel_sub : ∀ {l : List α} {b : β}, (adel κ l b).Sublist l
  | [], b => by simp [adel]
  | x :: r, b => by
    simp only [adel]
    split
    · exact List.sublist_cons_self _ _
    · exact adel_sub.cons_cons x
theorem adel_nodup {l : List α} (hn : (l.map κ).Nodup) (b : β) : ((adel κ l b).map κ).Nodup := hn.sublist (adel_sub.map κ)
theorem aput_set : ∀ {l : List α} {a x : α} {j : Nat}, (l.map κ).Nodup → l[j]? = some x → κ x = κ a → aput κ l a = l.set j a
  | [], a, x, j, _, h, _ => by simp at h
  | y :: r, a, x, j, hn, h, hk => by
    simp only [aput]
    cases j with
    | zero =>
      simp at h
      subst h
      rw [if_pos hk]
      rfl
    | succ j =>
      simp only [List.map_cons, List.nodup_cons] at hn
      have hx : x ∈ r := List.mem_of_getElem? (by simpa using h)
      rw [if_neg (fun e => hn.1 (by rw [e, ← hk]; exact List.mem_map.2 ⟨x, hx, rfl⟩)), aput_set hn.2 (by simpa using h) hk]
      rfl
theorem adel_erase : ∀ {l : List α} {b : β} {x : α} {j : Nat}, (l.map κ).Nodup → l[j]? = some x → κ x = b → adel κ l b = l.eraseIdx j
  | [], b, x, j, _, h, _ => by simp at h
  | y :: r, b, x, j, hn, h, hk => by
    simp only [adel]
    cases j with
    | zero =>
      simp at h
      subst h
      rw [if_pos hk]
      rfl
    | succ j =>
      simp only [List.map_cons, List.nodup_cons] at hn
      have hx : x ∈ r := List.mem_of_getElem? (by simpa using h)
      rw [if_neg (fun e => hn.1 (by rw [e, ← hk]; exact List.mem_map.2 ⟨x, hx, rfl⟩)), adel_erase hn.2 (by simpa using h) hk]
      rfl
theorem aput_app : ∀ {l : List α} {a : α}, (∀ x ∈ l, κ x ≠ κ a) → aput κ l a = l ++ [a]
  | [], a, _ => rfl
  | y :: r, a, h => by
    simp only [aput]
    rw [if_neg (h y (by simp)), aput_app (fun x hx => h x (by simp [hx]))]
    rfl
theorem adel_same : ∀ {l : List α} {b : β}, (∀ x ∈ l, κ x ≠ b) → adel κ l b = l
  | [], b, _ => rfl
  | y :: r, b, h => by
    simp only [adel]
    rw [if_neg (h y (by simp)), adel_same (fun x hx => h x (by simp [hx]))]
theorem dput_enc (hinj : ∀ a b, enc a = enc b → a = b) {l : List α} (hn : (l.map κ).Nodup) (a : α) : dput (encM κ enc ev l) (enc (κ a)) (ev a) (encM κ enc ev (aput κ l a)) := by
  cases h : aget κ l (κ a) with
  | none =>
    have hne := aget_none h
    refine .inl ⟨fun e he => ?_, ?_⟩
    · obtain ⟨x, hx, rfl⟩ := List.mem_map.1 he
      exact fun e => hne x hx (hinj _ _ e)
    · rw [aput_app hne]
      simp [encM]
  | some x =>
    obtain ⟨h1, h2⟩ := aget_some h
    obtain ⟨j, hj⟩ := List.mem_iff_getElem?.1 h1
    obtain ⟨k1, k2⟩ := enc_idx (ev := ev) hinj hn hj h2
    refine .inr ⟨j, k1, k2, ?_⟩
    rw [aput_set hn hj h2]
    simp [encM, List.map_set]
theorem ddel_enc (hinj : ∀ a b, enc a = enc b → a = b) {l : List α} (hn : (l.map κ).Nodup) (b : β) : ddel (encM κ enc ev l) (enc b) (encM κ enc ev (adel κ l b)) := by
  cases h : aget κ l b with
  | none =>
    have hne := aget_none h
    refine .inl ⟨fun e he => ?_, by rw [adel_same hne]⟩
    obtain ⟨x, hx, rfl⟩ := List.mem_map.1 he
    exact fun e => hne x hx (hinj _ _ e)
  | some x =>
    obtain ⟨h1, h2⟩ := aget_some h
    obtain ⟨j, hj⟩ := List.mem_iff_getElem?.1 h1
    obtain ⟨k1, k2⟩ := enc_idx (ev := ev) hinj hn hj h2
    refine .inr ⟨j, k1, k2, ?_⟩
    rw [adel_erase hn hj h2]
    simp [encM, map_erase]
end
end Go.Pv
