/- The telling of code, of a function. -/
import Derived.Test.YtkenimmellonjaaPvN
import Derived.LoopN
namespace Go.Pv
open Go.RowKit

/-- Where a call began. -/
structure Z where
  w0 : World
  g0 : Nat → Option Nat
  F0 : Nat → Prop
  U0 : Nat → Prop
  s0 : List (Nat × AB)
structure Sin (z : Z) (M : Mp) (F U : Nat → Prop) (s : List (Nat × AB)) (w : World) : Prop where
  g : ∀ id b, z.g0 id = some b → M.g id = some b
  FF : ∀ b, z.F0 b → F b
  UU : ∀ b, z.U0 b → U b
  Fn : ∀ b, F b → z.F0 b ∨ z.w0.heap.size ≤ b ∨ LiveG z.g0 z.s0 b
  ext : Ext z.U0 z.w0 w
  ll : ∀ k b, M.l k = some b → z.w0.heap.size ≤ b
  lg : ∀ id ab b, (id, ab) ∈ s → ab ≠ .dead → M.g id = some b → z.w0.heap.size ≤ b ∨ LiveG z.g0 z.s0 b
  ids : ∀ id ab, (id, ab) ∈ s → (∃ ab0, (id, ab0) ∈ z.s0) ∨ z.g0 id = none

theorem Sin.eff {z : Z} {M M' : Mp} {F U F' U' : Nat → Prop} {s s' : List (Nat × AB)} {w w' : World} {L' : List AB} {v : AV} {val : Value} (h : Sin z M F U s w) (e : Eff M F U s w L' s' v val M' F' U' w') : Sin z M' F' U' s' w' := by
  have hsz := h.ext.size
  have hl : ∀ b, LiveG M.g s b → z.w0.heap.size ≤ b ∨ LiveG z.g0 z.s0 b := fun b ⟨id, ab, h1, h2, h3⟩ => h.lg id ab b h1 h2 h3
  refine ⟨fun id b hb => e.le (.g id) b (h.g id b hb), fun b hb => e.FF b (h.FF b hb), fun b hb => e.UU b (h.UU b hb), fun b hb => ?_, h.ext.trans e.ext h.UU, fun k b hb => ?_, fun id ab b h1 h2 h3 => ?_, fun id ab h1 => ?_⟩
  · rcases e.Fn b hb with q | q | q | ⟨k, q⟩
    · exact h.Fn b q
    · exact .inr (.inl (by omega))
    · exact .inr (hl b q)
    · exact .inr (.inl (h.ll k b q))
  · rcases e.ll k b hb with q | ⟨k', q⟩
    · omega
    · exact h.ll k' b q
  · rcases e.lg id ab b h1 h2 h3 with q | q | ⟨k, q⟩
    · exact .inl (by omega)
    · exact hl b q
    · exact .inl (h.ll k b q)
  · rcases e.ids id ab h1 with ⟨ab0, q⟩ | q
    · exact h.ids id ab0 q
    · cases hg : z.g0 id with
      | none => exact .inr rfl
      | some b => rw [h.g id b hg] at q; cases q

def hasSlot : Env → Nat → Bool
  | [], _ => false
  | (s, _) :: r, t => Nat.beq s t || hasSlot r t
/-- What lives on behind a region. -/
def envOf (keep : List Nat) : List RE → Env → Env
  | [], env => env
  | e :: r, env => match e.slot with
    | none => envOf keep r env
    | some d => match memN d keep with
      | true => (d, match e.gs with
        | [] => e.v
        | _ :: _ => .undef) :: envOf keep r env
      | false => match hasSlot env d with
        | true => (d, .undef) :: envOf keep r env
        | false => envOf keep r env
theorem look_none {env : Env} {t : Nat} (h : hasSlot env t = false) : look env t = .undef := by
  induction env with
  | nil => rfl
  | cons x r ih =>
    obtain ⟨s, v⟩ := x
    simp only [hasSlot, Bool.or_eq_false_iff] at h
    simp only [look, h.1]
    exact ih h.2
theorem look_skip {keep : List Nat} {env : Env} {t : Nat} (hk : memN t keep = false) (he : hasSlot env t = false) : ∀ re : List RE, look (envOf keep re env) t = .undef
  | [] => look_none he
  | e :: r => by
    have ih := look_skip hk he r
    simp only [envOf]
    split
    · exact ih
    · rename_i d hd
      split
      · rename_i hm
        simp only [look]
        split
        · rename_i hb
          have := beq_t hb
          subst this
          rw [hk] at hm
          cases hm
        · exact ih
      · split
        · rename_i hh
          simp only [look]
          split
          · rename_i hb
            have := beq_t hb
            subst this
            exact absurd hh (by rw [he]; simp)
          · exact ih
        · exact ih
theorem envOf_rv {keep : List Nat} {env : Env} {M : Mp} {F : Nat → Prop} {w : World} {t : Nat} {v : Value} : ∀ (re : List RE), (∀ e, rlook re t = some e → e.gs = [] → RV M F w e.v v) → (rlook re t = none → RV M F w (look env t) v) → RV M F w (look (envOf keep re env) t) v
  | [], _, h2 => h2 rfl
  | e :: r, h1, h2 => by
    cases hs : e.slot with
    | none =>
      have hr : rlook (e :: r) t = rlook r t := by simp only [rlook, hs]
      simp only [envOf, hs]
      exact envOf_rv r (fun e' h => h1 e' (by rw [hr]; exact h)) (fun h => h2 (by rw [hr]; exact h))
    | some d =>
      cases hb : Nat.beq d t with
      | true =>
        have := beq_t hb
        subst this
        have hr : rlook (e :: r) d = some e := by simp only [rlook, hs, hb]
        simp only [envOf, hs]
        split
        · simp only [look, hb]
          split
          · rename_i hg; exact h1 e hr hg
          · exact .undef _
        · rename_i hm
          split
          · simp only [look, hb]; exact .undef _
          · rename_i hh
            rw [look_skip hm hh]
            exact .undef _
      | false =>
        have hr : rlook (e :: r) t = rlook r t := by simp only [rlook, hs, hb]
        have ih := envOf_rv (keep := keep) (env := env) r (fun e' h => h1 e' (by rw [hr]; exact h)) (fun h => h2 (by rw [hr]; exact h))
        simp only [envOf, hs]
        split
        · simp only [look, hb]; exact ih
        · split
          · simp only [look, hb]; exact ih
          · exact ih

/-- What is known between two statements. -/
structure CS (cx : Ctx) (M : Mp) (F U : Nat → Prop) (L : List AB) (s : List (Nat × AB)) (w : World) (env : Env) (a : Act) : Prop where
  st : St M F U L s w
  gl : Glob cx.G F w
  env : ∀ t, RV M F w (look env t) (slotv a t)
  size : a.tmps.size = cx.nt
  defers : a.defers = []

def QK (cx : Ctx) (z : Z) (K : Exit → Env → List AB → List (Nat × AB) → Prop) : Exit → Act → World → Prop := fun e a w => ∃ env L s M F U, K e env L s ∧ CS cx M F U L s w env a ∧ Sin z M F U s w

section
variable {P : Program} {cx : Ctx} {env : Env} {its : List It} {a0 a : Act} {L : List AB} {s : List (Nat × AB)} {w : World} {M : Mp} {F U : Nat → Prop} {z : Z}

theorem its_snoc {its : List It} {it : It} {i : Nat} {it' : It} (h : (its ++ [it])[i]? = some it') : its[i]? = some it' ∧ i < its.length ∨ i = its.length ∧ it' = it := by
  rcases Nat.lt_or_ge i its.length with hi | hi
  · rw [List.getElem?_append_left hi] at h
    exact .inl ⟨h, hi⟩
  · have : i = its.length := by
      have := (List.getElem?_eq_some_iff.1 h).1
      simp at this
      omega
    subst this
    simp at h
    exact .inr ⟨rfl, h.symm⟩

/-- One more operation is over. -/
theorem si_put (hI : SI cx env its a0 L s a w M F U) {o : Oper} (ho : okw cx.nt (reat its its.length) o = true) {v : AV} {val : Value} {M' : Mp} {F' U' : Nat → Prop} {w' : World} {L' : List AB} {s' : List (Nat × AB)} {new : List AB}
    (hle : M.Le M') (hFF : ∀ b, F b → F' b) (hX : Ext U w w') (hst : St M' F' U' L' s' w')
    (h1 : HG (reat its its.length) (gsOf (reat its its.length) o.guard) → RV M' F' w' v val) (h2 : ¬ HG (reat its its.length) (gsOf (reat its its.length) o.guard) → val = Go.undef) :
    SI cx env (its ++ [⟨o, v, new⟩]) a0 L' s' (a.put o.dst val) w' M' F' U' := by
  have hdlt : ∀ d, o.dst = some d → d < a.tmps.size := fun d hd => by rw [hI.size]; exact (okw_dst ho hd).1
  refine ⟨hst, hI.gl.mono hFF hI.st.FU hX, fun i it hit d hd => ?_, fun t ht => ?_, by rw [size_put]; exact hI.size, by rw [defers_put]; exact hI.defers⟩
  · rw [slotv_put hdlt]
    unfold gsAt
    rcases its_snoc hit with ⟨hi, hlt⟩ | ⟨rfl, rfl⟩
    · rw [reat_app (by omega), if_neg (fun h => rlook_none (okw_dst ho h).2 i it hlt hi hd)]
      obtain ⟨q1, q2⟩ := hI.slot i it hi d hd
      exact ⟨fun h => (q1 h).mono hle hFF hI.st.FU hX, q2⟩
    · rw [reat_app (Nat.le_refl _), if_pos hd]
      exact ⟨h1, h2⟩
  · rw [slotv_put hdlt, if_neg (fun h => ht its.length ⟨o, v, new⟩ (by simp) h)]
    exact (hI.env t (fun i it hit => ht i it (by rw [List.getElem?_append_left (List.getElem?_eq_some_iff.1 hit).1]; exact hit))).mono hle hFF hI.st.FU hX

theorem grew_eff {new : List AB} {v : AV} {val : Value} {M' : Mp} {F' U' : Nat → Prop} {w' : World} (hS : St M F U L s w) (h : Grew M F U w L s new v val M' F' U' w') : Eff M F U s w (L ++ new) s v val M' F' U' w' := by
  refine ⟨h.le, h.FF, h.UU, h.ext.mono (fun b hb => hS.Ult b hb), h.st, h.rv, fun b hb => ?_, fun k b hb => ?_, fun id ab b h1 h2 h3 => ?_, fun id ab h1 => .inl ⟨ab, h1⟩⟩
  · rcases h.Fn b hb with q | q
    · exact .inl q
    · exact .inr (.inl q)
  · rcases Nat.lt_or_ge k L.length with q | q
    · rw [h.old k q] at hb; exact .inr ⟨k, hb⟩
    · exact .inl (h.fresh k b q hb)
  · obtain ⟨b', hb'⟩ := hS.tot id ab h1
    have := h.le (.g id) b' hb'
    simp only [Mp.at_] at this
    rw [this] at h3
    cases h3
    exact .inr (.inl ⟨id, ab, h1, h2, hb'⟩)

/-- What is known not to be met stays so. -/
theorem dead_app {its : List It} {it : It} {c : List (Nat × Bool)} {i : Nat} {iti : It} (hi : its[i]? = some iti) (hc : c = gsAt its i iti) (h : ¬ HG (reat its i) c) :
    (its ++ [it])[i]? = some iti ∧ c = gsAt (its ++ [it]) i iti ∧ ¬ HG (reat (its ++ [it]) i) c := by
  have hlt := (List.getElem?_eq_some_iff.1 hi).1
  refine ⟨by rw [List.getElem?_append_left hlt]; exact hi, ?_, ?_⟩
  · rw [hc]; unfold gsAt; rw [reat_app (by omega)]
  · rw [reat_app (by omega)]; exact h

/-- The tail. -/
theorem vseq_sound (hT : TabOK P cx.T) {ops : List Oper} {K : List RE → List AB → List (Nat × AB) → Prop} {Q : Exit → Act → World → Prop} : ∀ (rest : List Oper) (its : List It) (dead : List (List (Nat × Bool))) (L : List AB) (s : List (Nat × AB)) (a : Act) (w : World) (M : Mp) (F U : Nat → Prop),
    (∀ (i : Nat) (it : It), its[i]? = some it → okw cx.nt (reat its i) it.o = true) → (∀ c ∈ dead, ∃ i iti, its[i]? = some iti ∧ c = gsAt its i iti ∧ ¬ HG (reat its i) c) → ops = its.map (·.o) ++ rest → SI cx env its a0 L s a w M F U → Sin z M F U s w →
    vseq P cx env rest its.length (reat its its.length) dead L s K →
    (∀ its' L' s' a' w' M' F' U', (∀ (i : Nat) (it : It), its'[i]? = some it → okw cx.nt (reat its' i) it.o = true) → ops = its'.map (·.o) → K (reat its' its'.length) L' s' → SI cx env its' a0 L' s' a' w' M' F' U' → Sin z M' F' U' s' w' → Q .normal a' w') →
    wpOps P ops.toArray Q (List.range' its.length rest.length) a w
  | [], its, dead, L, s, a, w, M, F, U, hok, _, hops, hI, hZ, h, hQ => by
    simp only [List.length_nil, List.range'_zero, wpOps]
    exact hQ its L s a w M F U hok (by simpa using hops) (by simpa [vseq] using h) hI hZ
  | o :: rest, its, dead, L, s, a, w, M, F, U, hok, hdead, hops, hI, hZ, h, hQ => by
    simp only [vseq, fG_eq, fAV_eq, fApp_eq, fABs_eq, fSt_eq, fO_eq, fN_eq] at h
    have hoi : ops[its.length]? = some o := by rw [hops]; simp
    have hpre : ∀ (i : Nat) (it : It), its[i]? = some it → ops[i]? = some it.o := fun i it hit => by
      rw [hops, List.getElem?_append_left (by simpa using (List.getElem?_eq_some_iff.1 hit).1), List.getElem?_map, hit]; rfl
    have hdead' : ∀ c ∈ dead, ¬ HG (reat its its.length) c := fun c hc => by
      obtain ⟨i, iti, h1, h2, h3⟩ := hdead c hc
      intro hg
      rw [h2] at hg h3
      exact h3 (HG_move hok h1 (Nat.le_of_lt (List.getElem?_eq_some_iff.1 h1).1) (Nat.le_refl i) hg)
    rw [List.length_cons, List.range'_succ, wpOps_cons]
    -- whatever the operation comes to, the rest goes on
    have go : ∀ (v : AV) (new : List AB) (gs : List (Nat × Bool)) (dead2 : List (List (Nat × Bool))) (L' : List AB) (s' : List (Nat × AB)) (val : Value) (M' : Mp) (F' U' : Nat → Prop) (w' : World), okw cx.nt (reat its its.length) o = true → gs = gsOf (reat its its.length) o.guard →
        (dead2 = dead ∨ (dead2 = gs :: dead ∧ ¬ HG (reat its its.length) gs)) →
        vseq P cx env rest (its.length + 1) (⟨its.length, o.dst, gs, v⟩ :: reat its its.length) dead2 L' s' K →
        M.Le M' → (∀ b, F b → F' b) → Ext U w w' → St M' F' U' L' s' w' → Sin z M' F' U' s' w' →
        (HG (reat its its.length) (gsOf (reat its its.length) o.guard) → RV M' F' w' v val) → (¬ HG (reat its its.length) (gsOf (reat its its.length) o.guard) → val = Go.undef) →
        wpOps P ops.toArray Q (List.range' (its.length + 1) rest.length) (a.put o.dst val) w' := by
      intro v new gs dead2 L' s' val M' F' U' w' hoko hgs hd2 hv hle hFF hX hst hZ' h1 h2
      subst hgs
      have hlast : (its ++ [(⟨o, v, new⟩ : It)])[its.length]? = some (⟨o, v, new⟩ : It) := by simp
      have hre : reat (its ++ [(⟨o, v, new⟩ : It)]) (its ++ [(⟨o, v, new⟩ : It)]).length = ⟨its.length, o.dst, gsOf (reat its its.length) o.guard, v⟩ :: reat its its.length := by
        rw [List.length_append, List.length_singleton, reat, hlast]
        simp only [reat_app (its2 := [(⟨o, v, new⟩ : It)]) (Nat.le_refl its.length)]
      have := vseq_sound (ops := ops) hT rest (its ++ [(⟨o, v, new⟩ : It)]) dead2 L' s' (a.put o.dst val) w' M' F' U' (fun i it hit => ?_) (fun c hc => ?_) (by rw [hops]; simp) (si_put hI hoko hle hFF hX hst h1 h2) hZ' (by rw [hre]; simpa using hv) hQ
      · simpa using this
      · rcases its_snoc hit with ⟨hi, hlt⟩ | ⟨rfl, rfl⟩
        · rw [reat_app (by omega)]; exact hok i it hi
        · rw [reat_app (Nat.le_refl _)]; exact hoko
      · have old : c ∈ dead → ∃ i iti, (its ++ [(⟨o, v, new⟩ : It)])[i]? = some iti ∧ c = gsAt (its ++ [(⟨o, v, new⟩ : It)]) i iti ∧ ¬ HG (reat (its ++ [(⟨o, v, new⟩ : It)]) i) c := fun hc => by
          obtain ⟨i, iti, k1, k2, k3⟩ := hdead c hc
          exact ⟨i, iti, dead_app k1 k2 k3⟩
        rcases hd2 with rfl | ⟨rfl, hn⟩
        · exact old hc
        · rcases List.mem_cons.1 hc with rfl | hc
          · exact ⟨its.length, _, hlast, by unfold gsAt; rw [reat_app (Nat.le_refl _)], by rw [reat_app (Nat.le_refl _)]; exact hn⟩
          · exact old hc
    unfold wpOp
    simp only [List.getElem?_toArray, hoi]
    split at h
    · -- not met, as is known
      rename_i hsk
      simp only [Bool.and_eq_true] at hsk
      obtain ⟨hw, hn⟩ := si_dead (ops := ops) hok hpre hI hdead' hsk.2 hsk.1
      rw [if_neg hw]
      exact go .undef [] _ dead L s Go.undef M F U w hsk.2 rfl (.inl rfl) h (.refl M) (fun _ h => h) (.refl _ _) hI.st hZ (fun h => absurd h hn) (fun _ => rfl)
    split at h <;> try exact h.elim
    rename_i hoko
    have hokw := okop_okw hoko
    have hgd := si_guard (ops := ops) hok hpre hI (okop_gok hoko)
    have pure_ : (vop P cx (sg (reat its its.length) (gsOf (reat its its.length) o.guard)) (rho cx.G env (reat its its.length)) L s o.op fun v new => vseq P cx env rest (its.length + 1) (⟨its.length, o.dst, gsOf (reat its its.length) o.guard, v⟩ :: reat its its.length) dead (L ++ new) s K) →
        (if Region.wanted o (yielded ops.toArray a.tmps) = true then o.wp P a w (fun a' w' => wpOps P ops.toArray Q (List.range' (its.length + 1) rest.length) a' w') Q ∨ (o.asks P a w ∧ LetsOut Q) else wpOps P ops.toArray Q (List.range' (its.length + 1) rest.length) (a.put o.dst Go.undef) w) := by
      intro h
      obtain ⟨v, new, hpj, h⟩ := vop_sound hT (H := HG (reat its its.length) (gsOf (reat its its.length) o.guard)) (fun p hp hg => sg_im p hp hg) h
      by_cases hw : Region.wanted o (yielded ops.toArray a.tmps) = true
      · rw [if_pos hw]
        left
        have hg := hgd.1 hw
        refine wp_noQ (Oper.wp_mono ?_ (hpj hg M F U w a hI.st hI.gl (si_opn hok hI (okop_us hoko) hg)))
        rintro a' w' ⟨val, M', F', U', rfl, hG⟩
        have e := grew_eff hI.st hG
        exact go v new _ dead (L ++ new) s val M' F' U' w' hokw rfl (.inl rfl) h e.le e.FF e.ext e.st (hZ.eff e) (fun _ => e.rv) (fun h => absurd hg h)
      · rw [if_neg hw]
        have hg : ¬ HG (reat its its.length) (gsOf (reat its its.length) o.guard) := fun h => hw (hgd.2 h)
        -- the places that it would have laid are nobody's
        have hst' : St M F U (L ++ new) s w := by
          have hh : ∀ r ab b, Here (L ++ new) s r ab → M.at_ r = some b → Here L s r ab := fun r ab b hr hm => by
            cases r with
            | g id => exact hr
            | l n =>
              rcases Nat.lt_or_ge n L.length with q | q
              · simp only [Here] at hr ⊢
                rwa [List.getElem?_append_left q] at hr
              · rw [show M.at_ (.l n) = M.l n from rfl, hI.st.dom n q] at hm; cases hm
          exact ⟨fun r ab b hr hm => hI.st.rb r ab b (hh r ab b hr hm) hm, fun r r' a1 a2 b h1 h2 d1 d2 m1 m2 => hI.st.inj r r' a1 a2 b (hh _ _ _ h1 m1) (hh _ _ _ h2 m2) d1 d2 m1 m2, fun r ab b hr hd hm => hI.st.nU r ab b (hh r ab b hr hm) hd hm, hI.st.nd, hI.st.FU, hI.st.Ult, fun k hk => hI.st.dom k (by simp at hk; omega), hI.st.tot, hI.st.gdom⟩
        exact go v new _ dead (L ++ new) s Go.undef M F U w hokw rfl (.inl rfl) h (.refl M) (fun _ h => h) (.refl _ _) hst' hZ (fun h => absurd h hg) (fun _ => rfl)
    split at h
    · rename_i heff
      rcases orB_or h with h | h
      · exact pure_ h
      have eff_ : ∀ (gs : List (Nat × Bool)), gs = gsOf (reat its its.length) o.guard → Region.wanted o (yielded ops.toArray a.tmps) = true →
          EJ P cx.G o (rho cx.G env (reat its its.length)) L s (fun v L' s' => vseq P cx env rest (its.length + 1) (⟨its.length, o.dst, gs, v⟩ :: reat its its.length) dead L' s' K) →
          o.wp P a w (fun a' w' => wpOps P ops.toArray Q (List.range' (its.length + 1) rest.length) a' w') Q := by
        intro gs hgs hw hE
        have hopn := si_opn hok hI (okop_us hoko) (hgd.1 hw)
        have hxs : ∀ x ∈ o.op.operands.toList, RV M F w (rho cx.G env (reat its its.length) x) (a.eval x) := by
          unfold Opn at hopn
          split at hopn
          · rename_i c x y hop
            rw [hop] at heff
            simp [isEff] at heff
          · exact hopn
        refine wp_noQ (Oper.wp_mono ?_ (hE M F U w a hI.st hI.gl hxs))
        rintro a' w' ⟨v, L', s', val, M', F', U', hv, rfl, e⟩
        exact go v [] gs dead L' s' val M' F' U' w' hokw hgs (.inl rfl) hv e.le e.FF e.ext e.st (hZ.eff e) (fun _ => e.rv) (fun h => absurd (hgd.1 hw) h)
      split at h
      · rename_i hgs
        have hw : Region.wanted o (yielded ops.toArray a.tmps) = true := hgd.2 (by rw [hgs]; exact trivial)
        rw [if_pos hw]
        left
        exact eff_ [] hgs.symm hw ((orC_or h).elim (fun h => veff_sound hT h) id)
      · rename_i g gr hgs
        by_cases hw : Region.wanted o (yielded ops.toArray a.tmps) = true
        · rw [if_pos hw]
          left
          exact eff_ (g :: gr) hgs.symm hw (veff_sound hT (h.1 (by rw [← hgs]; exact hgd.1 hw)))
        · rw [if_neg hw]
          have hn : ¬ HG (reat its its.length) (g :: gr) := fun h => hw (hgd.2 (by rw [hgs]; exact h))
          exact go .undef [] (g :: gr) ((g :: gr) :: dead) L s Go.undef M F U w hokw hgs.symm (.inr ⟨rfl, hn⟩) (h.2 hn) (.refl M) (fun _ h => h) (.refl _ _) hI.st hZ (fun h => by rw [hgs] at h; exact absurd h hn) (fun _ => rfl)
    · exact pure_ h

end
end Go.Pv
