/- The telling of code. -/
import Derived.Test.YtkenimmellonjaaPvO
namespace Go.Pv
open Go.RowKit

def hAV (x : AV) (K : AV → Prop) : Prop := match x with
  | .d x => K (.d x)
  | .agg cs => K (.agg cs)
  | .tup cs => K (.tup cs)
  | .ref r off => K (.ref r off)
  | .slc r sz off len cap => K (.slc r sz off len cap)
  | .el r sz i j => K (.el r sz i j)
  | .mp r => K (.mp r)
  | .fn f cs => K (.fn f cs)
  | .ifc t x => K (.ifc t x)
  | .undef => K .undef
theorem hAV_eq (x : AV) (K : AV → Prop) : hAV x K = K x := by cases x <;> rfl
def envK (keep : List Nat) : List RE → Env → (Env → Prop) → Prop
  | [], env, K => K env
  | e :: r, env, K => match e.slot with
    | none => envK keep r env K
    | some d => match memN d keep with
      | true => match e.gs with
        | [] => hAV e.v fun v => envK keep r env fun en => K ((d, v) :: en)
        | _ :: _ => envK keep r env fun en => K ((d, .undef) :: en)
      | false => match hasSlot env d with
        | true => envK keep r env fun en => K ((d, .undef) :: en)
        | false => envK keep r env K
theorem envK_eq (keep : List Nat) : ∀ (re : List RE) (env : Env) (K : Env → Prop), envK keep re env K = K (envOf keep re env)
  | [], _, _ => rfl
  | e :: r, env, K => by
    cases h1 : e.slot with
    | none => simp only [envK, envOf, h1, envK_eq keep r]
    | some d =>
      cases h2 : memN d keep with
      | true => cases h3 : e.gs <;> simp only [envK, envOf, h1, h2, h3, hAV_eq, envK_eq keep r]
      | false => cases h3 : hasSlot env d <;> simp only [envK, envOf, h1, h2, h3, envK_eq keep r]

def vreg (P : Program) (cx : Ctx) (ops : List Oper) (draw : Bool) (env : Env) (L : List AB) (s : List (Nat × AB)) (K : Env → List AB → List (Nat × AB) → Prop) : Prop :=
  ∃ k, (Nat.ble k ops.length && ordOK ops && (!draw || tailOK ops k)) = true ∧ vpre P cx env s (ops.take k) 0 [] L fun re L' => vseq P cx env (ops.drop k) k re [] L' s fun re L'' s' => envK cx.keep re env fun env => K env L'' s'

/-- What code comes to, told of what is known ahead of it. -/
structure VC (P : Program) (cx : Ctx) (c : Code) (env : Env) (L : List AB) (s : List (Nat × AB)) (K : Exit → Env → List AB → List (Nat × AB) → Prop) : Prop where
  h : ∀ (z : Z) (a : Act) (w : World) (M : Mp) (F U : Nat → Prop), CS cx M F U L s w env a → Sin z M F U s w → c.wp P (QK cx z K) a w

section
variable {P : Program} {cx : Ctx} {c x y : Code} {env : Env} {L : List AB} {s : List (Nat × AB)} {K K' : Exit → Env → List AB → List (Nat × AB) → Prop}

theorem QK.mono {z : Z} {e : Exit} {a : Act} {w : World} (h : QK cx z K e a w) (hK : ∀ env L s, K e env L s → K' e env L s) : QK cx z K' e a w := by
  obtain ⟨env, L, s, M, F, U, h1, h2⟩ := h
  exact ⟨env, L, s, M, F, U, hK _ _ _ h1, h2⟩
theorem VC.mono (h : VC P cx c env L s K) (hK : ∀ e env L s, K e env L s → K' e env L s) : VC P cx c env L s K' :=
  .mk fun z a w M F U hC hZ => wp_mono (h.h z a w M F U hC hZ) fun _ _ _ hq => hq.mono (hK _)
theorem VC.skip (h : K .normal env L s) : VC P cx .skip env L s K := .mk fun _ _ _ M F U hC hZ => wp_skip ⟨env, L, s, M, F, U, h, hC, hZ⟩
theorem VC.label {l : Nat} (h : K .normal env L s) : VC P cx (.label l) env L s K := .mk fun _ _ _ M F U hC hZ => wp_label ⟨env, L, s, M, F, U, h, hC, hZ⟩
theorem VC.exit {id : Nat} (h : K (.exit id) env L s) : VC P cx (.exit id) env L s K := .mk fun _ _ _ M F U hC hZ => wp_exit ⟨env, L, s, M, F, U, h, hC, hZ⟩
theorem VC.ret (h : K .ret env L s) : VC P cx .ret env L s K := .mk fun _ _ _ M F U hC hZ => wp_ret ⟨env, L, s, M, F, U, h, hC, hZ⟩

/-- Behind a part, by how it was left. -/
def KThen (J : Env → List AB → List (Nat × AB) → Prop) (K : Exit → Env → List AB → List (Nat × AB) → Prop) : Exit → Env → List AB → List (Nat × AB) → Prop
  | .normal => J
  | e => K e
theorem VC.seq (h : VC P cx x env L s (KThen (fun env L s => VC P cx y env L s K) K)) : VC P cx (.seq x y) env L s K := .mk fun z a w M F U hC hZ => wp_seq (wp_mono (h.h z a w M F U hC hZ) fun e a w hq => by
  obtain ⟨env, L, s, M, F, U, h1, h2, h3⟩ := hq
  cases e with
  | normal => exact h1.h z a w M F U h2 h3
  | _ => exact ⟨env, L, s, M, F, U, h1, h2, h3⟩)
def KBlock (id : Nat) (K : Exit → Env → List AB → List (Nat × AB) → Prop) : Exit → Env → List AB → List (Nat × AB) → Prop
  | .exit id' => match Nat.beq id' id with
    | true => K .normal
    | false => K (.exit id')
  | e => K e
theorem VC.block {id : Nat} (h : VC P cx c env L s (KBlock id K)) : VC P cx (.block id c) env L s K := .mk fun z a w M F U hC hZ => wp_block (wp_mono (h.h z a w M F U hC hZ) fun e a w hq => by
  obtain ⟨env, L, s, M, F, U, h1, h2⟩ := hq
  cases e with
  | exit id' =>
    simp only [Exit.inBlock]
    simp only [KBlock] at h1
    cases hb : Nat.beq id' id with
    | true =>
      rw [hb] at h1
      rw [if_pos (beq_t hb)]
      exact ⟨env, L, s, M, F, U, h1, h2⟩
    | false =>
      rw [hb] at h1
      rw [if_neg (fun h => by subst h; simp at hb)]
      exact ⟨env, L, s, M, F, U, h1, h2⟩
  | _ => exact ⟨env, L, s, M, F, U, h1, h2⟩)
theorem CS.operand {M : Mp} {F U : Nat → Prop} {w : World} {a : Act} (h : CS cx M F U L s w env a) (x : Operand) : RV M F w (rho cx.G env [] x) (a.eval x) := by
  cases x with
  | const v => exact RV.cst v
  | func f => exact .fn f [] [] rfl (fun j x v hj _ => by simp at hj)
  | global g =>
    simp only [rho]
    cases hg : cx.G g with
    | none => exact .undef _
    | some cs => exact .d (h.gl g cs hg)
  | tmp t => exact h.env t
theorem VC.cond {c : Operand} (h : match rho cx.G env [] c with
    | .d (.bool b) => (b = true → VC P cx x env L s K) ∧ (b = false → VC P cx y env L s K)
    | _ => False) : VC P cx (.cond c x y) env L s K := by
  constructor
  intro z a w M F U hC hZ
  split at h
  · rename_i b hb
    have hx := hC.operand c
    rw [hb] at hx
    refine wp_cond_split hx.bool_inv (fun e => (h.1 e).h z a w M F U hC hZ) (fun e => (h.2 e).h z a w M F U hC hZ)
  · exact h.elim
/-- In rounds: I tells what is known ahead of a round, by a count that goes down. -/
theorem VC.loop (I : Nat → Env → List AB → List (Nat × AB) → Prop) {n : Nat} (h0 : I n env L s)
    (step : ∀ n env L s, I n env L s → VC P cx c env L s (KThen (fun env' L' s' => ∃ m, m < n ∧ I m env' L' s') K)) : VC P cx (.loop c) env L s K := by
  constructor
  intro z a w M F U hC hZ
  have key : ∀ (N n : Nat) (env : Env) (L : List AB) (s : List (Nat × AB)) (a : Act) (w : World) (M : Mp) (F U : Nat → Prop), n < N → I n env L s → CS cx M F U L s w env a → Sin z M F U s w → Code.rounds P c (QK cx z K) N a w := by
    intro N
    induction N with
    | zero => intro n _ _ _ _ _ _ _ _ h; omega
    | succ N ih =>
      intro n env L s a w M F U hn hI hC hZ
      rw [rounds_succ]
      refine wp_mono ((step n env L s hI).h z a w M F U hC hZ) fun e a w hq => ?_
      obtain ⟨env, L, s, M, F, U, h1, h2, h3⟩ := hq
      cases e with
      | normal =>
        obtain ⟨m, hm, hI⟩ := h1
        exact ih m env L s a w M F U (by omega) hI h2 h3
      | _ => exact ⟨env, L, s, M, F, U, h1, h2, h3⟩
  exact wp_loop_rounds (n + 1) (key (n + 1) n env L s a w M F U (by omega) h0 hC hZ)

/-- The same world, told otherwise. -/
def Ghost (cx : Ctx) (env : Env) (L : List AB) (s : List (Nat × AB)) (env' : Env) (L' : List AB) (s' : List (Nat × AB)) : Prop :=
  ∀ (z : Z) (a : Act) (w : World) (M : Mp) (F U : Nat → Prop), CS cx M F U L s w env a → Sin z M F U s w → ∃ M' F' U', CS cx M' F' U' L' s' w env' a ∧ Sin z M' F' U' s' w
theorem Ghost.refl : Ghost cx env L s env L s := fun _ _ _ M F U h1 h2 => ⟨M, F, U, h1, h2⟩
theorem Ghost.trans {e1 e2 e3 : Env} {L1 L2 L3 : List AB} {s1 s2 s3 : List (Nat × AB)} (h : Ghost cx e1 L1 s1 e2 L2 s2) (k : Ghost cx e2 L2 s2 e3 L3 s3) : Ghost cx e1 L1 s1 e3 L3 s3 := fun z a w M F U h1 h2 => by
  obtain ⟨M', F', U', h3, h4⟩ := h z a w M F U h1 h2
  exact k z a w M' F' U' h3 h4
theorem VC.ghost {env' : Env} {L' : List AB} {s' : List (Nat × AB)} (hg : Ghost cx env L s env' L' s') (h : VC P cx c env' L' s' K) : VC P cx c env L s K := .mk fun z a w M F U h1 h2 => by
  obtain ⟨M', F', U', h3, h4⟩ := hg z a w M F U h1 h2
  exact h.h z a w M' F' U' h3 h4
/-- Told otherwise behind it. -/
theorem VC.gpost (h : VC P cx c env L s K) (hK : ∀ e env L s, K e env L s → ∃ env' L' s', Ghost cx env L s env' L' s' ∧ K' e env' L' s') : VC P cx c env L s K' := .mk fun z a w M F U hC hZ => wp_mono (h.h z a w M F U hC hZ) fun e a w hq => by
  obtain ⟨env, L, s, M, F, U, h1, h2, h3⟩ := hq
  obtain ⟨env', L', s', hg, hk⟩ := hK _ _ _ _ h1
  obtain ⟨M', F', U', h4, h5⟩ := hg z a w M F U h2 h3
  exact ⟨env', L', s', M', F', U', hk, h4, h5⟩

theorem VC.region (hT : TabOK P cx.T) (hm : P.follows .mixedOrders = true) {id : Nat} {ops : Array Oper} {draw : Bool} (h : vreg P cx ops.toList draw env L s (K .normal)) : VC P cx (.region id ops draw) env L s K := by
  constructor
  intro z a w M F U hC hZ
  obtain ⟨k, hk, h⟩ := h
  simp only [Bool.and_eq_true, Bool.or_eq_true, Bool.not_eq_true'] at hk
  obtain ⟨⟨hk1, hk2⟩, hk3⟩ := hk
  have hk1 := Nat.le_of_ble_eq_true hk1
  obtain ⟨its, h1, h2, h3⟩ := vpre_sound hT (ops.toList.take k) [] (⟨fun i it h => by simp at h, fun i it h => by simp at h⟩) (by simpa [reat, Lat] using h)
  simp only [List.nil_append] at h2 h3
  have hlen : its.length = k := by
    have := congrArg List.length h1
    simp at this
    simp at hk1
    omega
  have hall : ops.toList = its.map (·.o) ++ ops.toList.drop k := by rw [h1, List.take_append_drop]
  have hpre : ∀ (i : Nat) (it : It), its[i]? = some it → ops.toList[i]? = some it.o := fun i it hit => by
    rw [hall, List.getElem?_append_left (by simpa using (List.getElem?_eq_some_iff.1 hit).1), List.getElem?_map, hit]; rfl
  refine wp_mono (Q := fun e a w => e = .normal ∧ QK cx z K e a w) (wp_region_pre (fun _ _ _ h => h.1) (ops := ops.toList) (its := its) (s := s) (G := cx.G) (nt := cx.nt) (env := env) (L0 := L) (M0 := M) (F0 := F) (U0 := U) ⟨hpre, h2.ok, h2.pj, hk2⟩ hC.st hC.gl hC.env hC.size (by rw [hlen]; exact hk1) hm (fun hd => by rw [hlen]; exact hk3.resolve_left (by rw [hd]; simp)) ?_) (fun _ _ _ h => h.2)
  intro listed a' w' M' F' U' hl hI
  have hX : Ext U w w' := hI.ext.mono hC.st.Ult
  have hsz := hZ.ext.size
  have hget : ∀ id ab b, (id, ab) ∈ s → M'.g id = some b → M.g id = some b := fun id ab b h hb => by
    obtain ⟨b', hb'⟩ := hC.st.tot id ab h
    have := hI.le (.g id) b' hb'
    simp only [Mp.at_] at this
    rw [this] at hb
    cases hb
    exact hb'
  have hZ' : Sin z M' F' U' s w' := by
    refine ⟨fun id b hb => hI.le (.g id) b (hZ.g id b hb), fun b hb => hI.FF b (hZ.FF b hb), fun b hb => hI.UU b (hZ.UU b hb), fun b hb => ?_, hZ.ext.trans hX hZ.UU, fun k b hb => ?_, fun id ab b h1 h2 h3 => hZ.lg id ab b h1 h2 (hget id ab b h1 h3), hZ.ids⟩
    · rcases hI.Fn b hb with q | q
      · exact hZ.Fn b q
      · exact .inr (.inl (by omega))
    · rcases hI.fr k b hb with q | q
      · exact hZ.ll k b q
      · omega
  have hS : SI cx env its a (Lat its L its.length) s a' w' M' F' U' := by
    refine ⟨hI.st, hI.gl, fun i it hit d hd => ?_, fun t ht => ?_, hI.size, hI.defers⟩
    · obtain ⟨q1, q2⟩ := hI.slot i it hit (hl i (List.getElem?_eq_some_iff.1 hit).1) d hd
      exact ⟨fun h => (q1 h).mono (Mp.cut_le _ _) (fun _ h => h) hI.st.FU (.refl _ _), q2⟩
    · rw [hI.other t (fun i it hit _ => ht i it hit)]
      exact (hC.env t).mono hI.le hI.FF hC.st.FU hX
  rw [← hlen] at h3
  have hfin : (ops.toList.length - its.length) = (ops.toList.drop its.length).length := by simp
  rw [hfin]
  rw [← hlen] at hall
  refine vseq_sound (a0 := a) (ops := ops.toList) (K := fun re L'' s' => envK cx.keep re env fun env => K .normal env L'' s') hT (ops.toList.drop its.length) its [] _ s a' w' M' F' U' (fun i it h => okop_okw (h2.ok i it h)) (fun c hc => by cases hc) hall hS hZ' h3 ?_
  intro its' L' s' a'' w'' M'' F'' U'' hok _ hK hS hZ
  rw [envK_eq] at hK
  refine ⟨rfl, _, L', s', M'', F'', U'', hK, ⟨hS.st, hS.gl, fun t => envOf_rv _ (fun e he hg => ?_) (fun hn => hS.env t fun i it hit => rlook_none hn i it (List.getElem?_eq_some_iff.1 hit).1 hit), hS.size, hS.defers.trans hC.defers⟩, hZ⟩
  obtain ⟨j, itj, hji, hitj, hdj, rfl, _⟩ := rlook_reat he
  exact (hS.slot j itj hitj t hdj).1 (by rw [show gsAt its' j itj = [] from hg]; exact trivial)
end
end Go.Pv
