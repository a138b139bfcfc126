/- A region that draws its order, each order told by itself: for operations that write, ahead of which not all is known. -/
import Derived.Test.YtkenimmellonjaaPvW
namespace Go.Pv
open Go.RowKit

/-- Both; kept as it is when a goal is computed. -/
structure Both (p q : Prop) : Prop where
  a : p
  b : q
/-- An operation that has not come up: its place, what it waits for, whether it moves slots alone. -/
structure ND where
  i : Nat
  deps : List Nat
  late : Bool
  o : Oper
def doOp (o : Oper) (g : Option (Nat × Bool)) : Oper := ⟨o.dst, o.op, o.type, o.pos, o.after, g⟩
def posOf : List Nat → Nat → Nat → Option Nat
  | [], _, _ => none
  | x :: r, k, j => match Nat.beq x j with
    | true => some k
    | false => posOf r (k + 1) j
def renK (π : List Nat) (o : Oper) (K : Oper → Prop) : Prop := match o with
  | ⟨dst, op, ty, pos, after, g⟩ => match g with
    | none => K (doOp ⟨dst, op, ty, pos, after, g⟩ none)
    | some (j, p) => match posOf π 0 j with
      | some k => K (doOp ⟨dst, op, ty, pos, after, g⟩ (some (k, p)))
      | none => False
def rdy (π : List Nat) (nd : ND) : Bool := nd.deps.all fun d => memN d π
/-- The first that moves slots alone and may come up, and the others. -/
def lateR (π : List Nat) : List ND → (ND → List ND → Prop) → Prop → Prop
  | [], _, Z => Z
  | nd :: r, K, Z => match nd.late && rdy π nd with
    | true => K nd r
    | false => lateR π r (fun x r' => K x (nd :: r')) Z
/-- Each that may come up, and the others. -/
def allR (π : List Nat) : List ND → (ND → List ND → Prop) → Prop
  | [], _ => True
  | nd :: r, K => match rdy π nd with
    | true => match allB π r with
      | true => Both (K nd r) (allR π r fun x r' => K x (nd :: r'))
      | false => K nd r
    | false => allR π r fun x r' => K x (nd :: r')
where allB (π : List Nat) : List ND → Bool
  | [] => false
  | nd :: r => match rdy π nd with
    | true => true
    | false => allB π r
def fND : List ND → (List ND → Prop) → Prop
  | [], K => K []
  | x :: r, K => fND r fun r => K (x :: r)
theorem fND_eq : ∀ (l : List ND) (K : List ND → Prop), fND l K = K l
  | [], _ => rfl
  | x :: r, K => by simp only [fND, fND_eq r]
def fPi : List Nat → (List Nat → Prop) → Prop
  | [], K => K []
  | x :: r, K => fPi r fun r => K (x :: r)
theorem fPi_eq : ∀ (l : List Nat) (K : List Nat → Prop), fPi l K = K l
  | [], _ => rfl
  | x :: r, K => by simp only [fPi, fPi_eq r]
def vany (P : Program) (cx : Ctx) (env : Env) (K : List RE → List AB → List (Nat × AB) → Prop) : Nat → List ND → List Nat → Nat → List RE → List AB → List (Nat × AB) → Prop
  | 0, rest, _, _, re, L, s => match rest with
    | [] => K re L s
    | _ => False
  | f + 1, rest, π, m, re, L, s => match rest with
    | [] => K re L s
    | x :: r => lateR π (x :: r) (fun nd rest' => fND rest' fun rest' => fPi (π ++ [nd.i]) fun π' => renK π nd.o fun o => vseq P cx env [o] m re [] L s fun re L s => fN (m + 1) fun m => vany P cx env K f rest' π' m re L s)
        (allR π (x :: r) fun nd rest' => fND rest' fun rest' => fPi (π ++ [nd.i]) fun π' => renK π nd.o fun o => vseq P cx env [o] m re [] L s fun re L s => fN (m + 1) fun m => vany P cx env K f rest' π' m re L s)

theorem lateR_some {π : List Nat} : ∀ {l : List ND} {K : ND → List ND → Prop} {Z : Prop}, lateR π l K Z → Z ∨ ∃ nd r', nd ∈ l ∧ nd.late = true ∧ rdy π nd = true ∧ l.Perm (nd :: r') ∧ K nd r'
  | [], _, _, h => .inl h
  | nd :: r, K, Z, h => by
    simp only [lateR] at h
    split at h
    · rename_i hb
      simp only [Bool.and_eq_true] at hb
      exact .inr ⟨nd, r, by simp, hb.1, hb.2, .refl _, h⟩
    · rcases lateR_some h with h | ⟨x, r', h1, h2, h3, h4, h5⟩
      · exact .inl h
      · exact .inr ⟨x, nd :: r', by simp [h1], h2, h3, (h4.cons nd).trans (.swap _ _ _), h5⟩
theorem allB_none {π : List Nat} : ∀ {l : List ND}, allR.allB π l = false → ∀ x ∈ l, rdy π x = false
  | [], _, x, h => by cases h
  | nd :: r, hb, x, hx => by
    simp only [allR.allB] at hb
    split at hb
    · cases hb
    · rename_i h0
      rcases List.mem_cons.1 hx with rfl | hx
      · exact h0
      · exact allB_none hb x hx
theorem allR_all {π : List Nat} : ∀ {l : List ND} {K : ND → List ND → Prop}, allR π l K → ∀ nd ∈ l, rdy π nd = true → ∃ r', l.Perm (nd :: r') ∧ K nd r'
  | [], _, _, nd, hn, _ => by cases hn
  | x :: r, K, h, nd, hn, hr => by
    simp only [allR] at h
    split at h
    · rename_i hx
      split at h
      · rcases List.mem_cons.1 hn with rfl | hn
        · exact ⟨r, .refl _, h.a⟩
        · obtain ⟨r', h1, h2⟩ := allR_all h.b nd hn hr
          exact ⟨x :: r', (h1.cons x).trans (.swap _ _ _), h2⟩
      · rename_i hb
        rcases List.mem_cons.1 hn with rfl | hn
        · exact ⟨r, .refl _, h⟩
        · rw [allB_none hb nd hn] at hr; cases hr
    · rename_i hx
      rcases List.mem_cons.1 hn with rfl | hn
      · rw [hx] at hr; cases hr
      · obtain ⟨r', h1, h2⟩ := allR_all h nd hn hr
        exact ⟨x :: r', (h1.cons x).trans (.swap _ _ _), h2⟩
theorem posOf_some : ∀ {l : List Nat} {k j m : Nat}, posOf l k j = some m → ∃ i, m = k + i ∧ l[i]? = some j
  | [], k, j, m, h => by simp [posOf] at h
  | x :: r, k, j, m, h => by
    simp only [posOf] at h
    split at h
    · rename_i hb
      cases h
      exact ⟨0, rfl, by rw [Nat.eq_of_beq_eq_true hb]; rfl⟩
    · obtain ⟨i, h1, h2⟩ := posOf_some h
      exact ⟨i + 1, by omega, by simpa using h2⟩

/-- An operation with another guard that asks the same. -/
theorem wpOp_ren {P : Program} {ops ops' : List Oper} {Q X : Exit → Act → World → Prop} {i m : Nat} {o : Oper} {g : Option (Nat × Bool)} {a : Act} {w : World} {K K' : Act → World → Prop} (hi : ops[i]? = some o) (hm : ops'[m]? = some (doOp o g))
    (hw : Region.wanted (doOp o g) (yielded ops'.toArray a.tmps) = Region.wanted o (yielded ops.toArray a.tmps)) (hX : ∀ e a w, X e a w → e = .normal) (hK : ∀ a w, K' a w → K a w) (h : wpOp P ops'.toArray X m K' a w) : wpOp P ops.toArray Q i K a w := by
  unfold wpOp at h ⊢
  simp only [List.getElem?_toArray, hi, hm] at h ⊢
  rw [hw] at h
  split
  · rename_i hb
    rw [if_pos hb] at h
    left
    have h := h.resolve_right (fun h => by
      obtain ⟨_, a, w, hq⟩ := h
      cases hX _ _ _ hq)
    have he : execOp a.eval (doOp o g) = execOp a.eval o := rfl
    have h := Oper.wp_mono hK h
    unfold Oper.wp at h ⊢
    rw [he] at h
    generalize (execOp a.eval o).run P w = r at *
    cases r with
    | ok n w' =>
      cases n <;> simp only [Oper.upon] at h ⊢ <;>
        first
          | exact h
          | exact Calls.mono h (fun e w'' he => by
              cases e with
              | returned v => exact he
              | panicked c => exact absurd (hX _ _ _ he) (by simp)
              | outgrown =>
                obtain ⟨a1, w1, hq⟩ := he
                exact absurd (hX _ _ _ hq) (by simp))
    | halt x w' => cases x <;> simp only [Oper.upon] at h ⊢ <;> first | exact h | exact absurd (hX _ _ _ h) (by simp)
  · rename_i hb
    rw [if_neg hb] at h
    exact hK _ _ h

/-- What the nodes say of the operations. -/
structure NDs (ops : List Oper) (rest : List ND) (π : List Nat) : Prop where
  all : ∀ i, i < ops.length → i ∉ π → ∃ nd ∈ rest, nd.i = i
  op : ∀ nd ∈ rest, ops[nd.i]? = some nd.o
  out : ∀ nd ∈ rest, nd.i ∉ π
  nd : (rest.map (·.i)).Nodup
  deps : ∀ nd ∈ rest, ∀ d ∈ nd.deps, ∃ e ∈ nd.o.after.toList, Region.binds .any e = true ∧ e.on = d
  deps2 : ∀ nd ∈ rest, ∀ e ∈ nd.o.after.toList, Region.binds .any e = true → e.on ∈ nd.deps
  late : ∀ nd ∈ rest, nd.late = true → noSel ops = true ∧ lateAt ops nd.i = true
theorem NDs.step {ops : List Oper} {rest rest' : List ND} {π : List Nat} {x : ND} (h : NDs ops rest π) (hp : rest.Perm (x :: rest')) : NDs ops rest' (π ++ [x.i]) := by
  have hm : ∀ nd ∈ rest', nd ∈ rest := fun nd hn => hp.mem_iff.2 (List.mem_cons_of_mem _ hn)
  have hnd : ((x :: rest').map (·.i)).Nodup := (hp.map (·.i)).nodup_iff.1 h.nd
  rw [List.map_cons, List.nodup_cons] at hnd
  refine ⟨fun i hi hn => ?_, fun nd hn => h.op nd (hm nd hn), fun nd hn hi => ?_, hnd.2, fun nd hn => h.deps nd (hm nd hn), fun nd hn => h.deps2 nd (hm nd hn), fun nd hn => h.late nd (hm nd hn)⟩
  · simp only [List.mem_append, List.mem_singleton, not_or] at hn
    obtain ⟨nd, h1, h2⟩ := h.all i hi hn.1
    rcases List.mem_cons.1 (hp.mem_iff.1 h1) with rfl | h1
    · exact absurd h2.symm hn.2
    · exact ⟨nd, h1, h2⟩
  · rcases List.mem_append.1 hi with hi | hi
    · exact h.out nd (hm nd hn) hi
    · rw [List.mem_singleton] at hi
      exact hnd.1 (List.mem_map.2 ⟨nd, hn, hi⟩)

theorem memN_iff {t : Nat} : ∀ {l : List Nat}, memN t l = true ↔ t ∈ l
  | [] => by simp [memN]
  | x :: r => by
    simp only [memN, Bool.or_eq_true, List.mem_cons, memN_iff (l := r)]
    constructor
    · rintro (h | h)
      · exact .inl (Nat.eq_of_beq_eq_true h).symm
      · exact .inr h
    · rintro (rfl | h)
      · exact .inl (Nat.beq_refl _)
      · exact .inr h
theorem getD_listed {listed : Array Bool} {j : Nat} (h : ¬ Lsd listed j) : listed.getD j false = false := by
  unfold Lsd at h; simpa using h

section
variable {P : Program} {cx : Ctx} {env : Env} {a0 : Act} {z : Z} {Q : Exit → Act → World → Prop} {ops : List Oper} {K : List RE → List AB → List (Nat × AB) → Prop}
/-- One operation, told behind what came up ahead of it. -/
theorem one_sound (hT : TabOK P cx.T) {π : List Nat} {its : List It} {L : List AB} {s : List (Nat × AB)} {a : Act} {w : World} {M : Mp} {F U : Nat → Prop} (hok : ∀ (i : Nat) (it : It), its[i]? = some it → okw cx.nt (reat its i) it.o = true)
    (hπ : ∀ (k i : Nat), π[k]? = some i → ∃ it o, its[k]? = some it ∧ ops[i]? = some o ∧ it.o.dst = o.dst) (hlen : its.length = π.length) (hI : SI cx env its a0 L s a w M F U) (hZ : Sin z M F U s w) {nd : ND} (hnd : ops[nd.i]? = some nd.o)
    {K1 : List RE → List AB → List (Nat × AB) → Prop} (h : renK π nd.o fun o => vseq P cx env [o] its.length (reat its its.length) [] L s K1) {N : Act → World → Prop}
    (hN : ∀ its' L' s' a' w' M' F' U', (∀ (i : Nat) (it : It), its'[i]? = some it → okw cx.nt (reat its' i) it.o = true) → (∀ (k i : Nat), (π ++ [nd.i])[k]? = some i → ∃ it o, its'[k]? = some it ∧ ops[i]? = some o ∧ it.o.dst = o.dst) → its'.length = its.length + 1 → K1 (reat its' its'.length) L' s' → SI cx env its' a0 L' s' a' w' M' F' U' → Sin z M' F' U' s' w' → N a' w') :
    wpOp P ops.toArray Q nd.i N a w := by
  have key : ∀ g, Region.wanted (doOp nd.o g) (yielded (its.map (·.o) ++ [doOp nd.o g]).toArray a.tmps) = Region.wanted nd.o (yielded ops.toArray a.tmps) → vseq P cx env [doOp nd.o g] its.length (reat its its.length) [] L s K1 → wpOp P ops.toArray Q nd.i N a w := by
    intro g hw hv
    have hlast : (its.map (·.o) ++ [doOp nd.o g])[its.length]? = some (doOp nd.o g) := by simp
    have := vseq_sound (P := P) (z := z) (a0 := a0) (ops := its.map (·.o) ++ [doOp nd.o g]) (Q := fun e a w => e = .normal ∧ N a w) hT [doOp nd.o g] its [] L s a w M F U hok (fun c hc => by cases hc) rfl hI hZ hv
      (fun its' L' s' a' w' M' F' U' hok' hops' hK hS' hZ' => by
        have hlen' : its'.length = its.length + 1 := by
          have := congrArg List.length hops'
          simp at this
          omega
        have hget : ∀ k : Nat, (its.map (·.o) ++ [doOp nd.o g])[k]? = (its'.map (·.o))[k]? := fun k => by rw [hops']
        refine ⟨rfl, hN its' L' s' a' w' M' F' U' hok' (fun k i hk => ?_) hlen' hK hS' hZ'⟩
        rcases Nat.lt_or_ge k π.length with hlt | hge
        · rw [List.getElem?_append_left hlt] at hk
          obtain ⟨it, o, h1, h2, h3⟩ := hπ k i hk
          have hg := hget k
          rw [List.getElem?_append_left (by simp; omega), List.getElem?_map, h1, List.getElem?_map] at hg
          simp only [Option.map_some] at hg
          cases h4 : its'[k]? with
          | none => rw [h4] at hg; cases hg
          | some it' =>
            rw [h4] at hg
            simp only [Option.map_some, Option.some.injEq] at hg
            exact ⟨it', o, rfl, h2, by rw [← hg]; exact h3⟩
        · rw [List.getElem?_append_right hge] at hk
          have hk0 : k = its.length := by
            have := (List.getElem?_eq_some_iff.1 hk).1
            simp at this
            omega
          subst hk0
          rw [hlen, Nat.sub_self] at hk
          simp at hk
          subst hk
          have hg := hget its.length
          rw [hlast, List.getElem?_map] at hg
          cases h4 : its'[its.length]? with
          | none => rw [h4] at hg; cases hg
          | some it' =>
            rw [h4] at hg
            simp only [Option.map_some, Option.some.injEq] at hg
            exact ⟨it', nd.o, rfl, hnd, by rw [← hg]; rfl⟩)
    simp only [List.length_singleton, List.range'_one] at this
    rw [wpOps_cons] at this
    exact wpOp_ren (X := fun e a w => e = .normal ∧ N a w) hnd hlast hw (fun _ _ _ h => h.1) (fun a w h => h.2) this
  have hg0 : nd.o = ⟨nd.o.dst, nd.o.op, nd.o.type, nd.o.pos, nd.o.after, nd.o.guard⟩ := rfl
  rw [hg0] at h
  simp only [renK] at h
  split at h
  · rename_i hg
    exact key none (by simp [Region.wanted, doOp, hg]) h
  · rename_i j p hg
    split at h <;> try exact h.elim
    rename_i k hk
    refine key (some (k, p)) ?_ h
    obtain ⟨k', rfl, hk'⟩ := posOf_some hk
    obtain ⟨it, o, h1, h2, h3⟩ := hπ k' j hk'
    have hkl := (List.getElem?_eq_some_iff.1 h1).1
    simp only [Region.wanted, doOp, hg, yielded, List.getElem?_toArray, Nat.zero_add, h2]
    rw [List.getElem?_append_left (by simpa using hkl), List.getElem?_map, h1]
    simp [h3]

theorem vany_sound (hT : TabOK P cx.T) (hord : ordOK ops = true) (hQ : ∀ e a w, Q e a w → e = .normal) : ∀ (f : Nat) (rest : List ND) (π : List Nat) (its : List It) (L : List AB) (s : List (Nat × AB)) (a : Act) (w : World) (M : Mp) (F U : Nat → Prop) (listed : Array Bool),
    (∀ (i : Nat) (it : It), its[i]? = some it → okw cx.nt (reat its i) it.o = true) → (∀ (k i : Nat), π[k]? = some i → ∃ it o, its[k]? = some it ∧ ops[i]? = some o ∧ it.o.dst = o.dst) → its.length = π.length → SI cx env its a0 L s a w M F U → Sin z M F U s w →
    NDs ops rest π → listed.size = ops.length → (∀ i, Lsd listed i ↔ i ∈ π) → Closed ops listed →
    vany P cx env K f rest π its.length (reat its its.length) L s →
    (∀ its' L' s' a' w' M' F' U', (∀ (i : Nat) (it : It), its'[i]? = some it → okw cx.nt (reat its' i) it.o = true) → K (reat its' its'.length) L' s' → SI cx env its' a0 L' s' a' w' M' F' U' → Sin z M' F' U' s' w' → Q .normal a' w') →
    wpAny P .any ops.toArray Q (unl ops.length listed) listed a w := by
  have fin : ∀ (π : List Nat) (its : List It) (L : List AB) (s : List (Nat × AB)) (a : Act) (w : World) (M : Mp) (F U : Nat → Prop) (listed : Array Bool),
      (∀ (i : Nat) (it : It), its[i]? = some it → okw cx.nt (reat its i) it.o = true) → SI cx env its a0 L s a w M F U → Sin z M F U s w → NDs ops [] π → listed.size = ops.length → (∀ i, Lsd listed i ↔ i ∈ π) → K (reat its its.length) L s →
      (∀ its' L' s' a' w' M' F' U', (∀ (i : Nat) (it : It), its'[i]? = some it → okw cx.nt (reat its' i) it.o = true) → K (reat its' its'.length) L' s' → SI cx env its' a0 L' s' a' w' M' F' U' → Sin z M' F' U' s' w' → Q .normal a' w') →
      wpAny P .any ops.toArray Q (unl ops.length listed) listed a w := by
    intro π its L s a w M F U listed hok hI hZ hN hs hl hK hq
    have hall : ∀ i, i < ops.length → Lsd listed i := fun i hi => by
      rw [hl i]
      refine Classical.byContradiction fun hn => ?_
      obtain ⟨nd, h1, _⟩ := hN.all i hi hn
      cases h1
    have hu : unl ops.length listed = 0 := by
      unfold unl
      rw [List.countP_eq_zero]
      intro i hi
      have := hall i (List.mem_range.1 hi)
      unfold Lsd at this
      simp [this]
    rw [hu]
    refine ⟨?_, hq its L s a w M F U hok hK hI hZ⟩
    cases hr : Region.ready .any ops.toArray listed with
    | nil => rfl
    | cons x xs =>
      have : x ∈ Region.ready .any ops.toArray listed := by rw [hr]; exact List.mem_cons_self
      obtain ⟨h1, h2, _⟩ := (ready_mem rfl hs).1 this
      exact absurd (hall x h1) h2
  intro f
  induction f with
  | zero =>
    intro rest π its L s a w M F U listed hok hπ hlen hI hZ hN hs hl hc h hq
    unfold vany at h
    split at h
    · exact fin π its L s a w M F U listed hok hI hZ hN hs hl h hq
    · exact h.elim
  | succ f ih =>
    intro rest π its L s a w M F U listed hok hπ hlen hI hZ hN hs hl hc h hq
    unfold vany at h
    split at h
    · exact fin π its L s a w M F U listed hok hI hZ hN hs hl h hq
    rename_i x r
    simp only [fND_eq, fPi_eq, fN_eq] at h
    -- one that comes up
    have step : ∀ (nd : ND) (r' : List ND), (x :: r).Perm (nd :: r') → nd.i ∈ Region.ready .any ops.toArray listed → (renK π nd.o fun o => vseq P cx env [o] its.length (reat its its.length) [] L s fun re L s => vany P cx env K f r' (π ++ [nd.i]) (its.length + 1) re L s) →
        ∀ (Q' : Exit → Act → World → Prop), wpOp P ops.toArray Q' nd.i (fun a' w' => wpAny P .any ops.toArray Q (unl ops.length (listed.setIfInBounds nd.i true)) (listed.setIfInBounds nd.i true) a' w') a w := by
      intro nd r' hp hi h Q'
      have hmem : nd ∈ x :: r := hp.mem_iff.2 (by simp)
      refine one_sound (a0 := a0) (z := z) hT hok hπ hlen hI hZ (hN.op nd hmem) h fun its' L' s' a' w' M' F' U' hok' hπ' hlen' hK' hI' hZ' => ?_
      have hil : nd.i < ops.length := (List.getElem?_eq_some_iff.1 (hN.op nd hmem)).1
      refine ih r' (π ++ [nd.i]) its' L' s' a' w' M' F' U' _ hok' hπ' (by simp; omega) hI' hZ' (hN.step hp) (by simp [hs]) (fun j => ?_) (closed_set hc rfl hs hi) (by rw [hlen'] at hK' ⊢; exact hK') hq
      rw [lsd_set (by omega), hl j]
      simp
    have hpos : ∀ i, i ∈ Region.ready .any ops.toArray listed → unl ops.length listed = unl ops.length (listed.setIfInBounds i true) + 1 := fun i hi => by
      obtain ⟨h1, h2, _⟩ := (ready_mem rfl hs).1 hi
      exact unl_set hs h1 h2
    -- what waits for nothing may come up
    have hready : ∀ nd ∈ x :: r, nd.i ∈ Region.ready .any ops.toArray listed → rdy π nd = true := by
      intro nd hmem hi
      obtain ⟨_, _, o, h3, h4⟩ := (ready_mem rfl hs).1 hi
      rw [hN.op nd hmem] at h3
      cases h3
      unfold rdy
      rw [List.all_eq_true]
      intro d hd
      obtain ⟨e, he, hb, rfl⟩ := hN.deps nd hmem d hd
      exact memN_of ((hl _).1 (h4 e he hb))
    rcases lateR_some h with h | ⟨nd, r', h1, h2, h3, h4, h5⟩
    · -- each
      have hx : ¬ Lsd listed x.i := fun hh => hN.out x (by simp) ((hl _).1 hh)
      have hxl : x.i < ops.length := (List.getElem?_eq_some_iff.1 (hN.op x (by simp))).1
      have hne := ready_some (ops := ops) rfl hs hord hxl hx
      have hu : ∃ u, unl ops.length listed = u + 1 := by
        cases hr : Region.ready .any ops.toArray listed with
        | nil => exact absurd hr hne
        | cons y ys => exact ⟨_, hpos y (by rw [hr]; simp)⟩
      obtain ⟨u, hu⟩ := hu
      rw [hu]
      refine ⟨fun h0 => absurd h0 hne, fun i hi => ?_⟩
      obtain ⟨q1, q2, o, q3, q4⟩ := (ready_mem rfl hs).1 hi
      obtain ⟨nd, hmem, rfl⟩ := hN.all i q1 (fun hh => q2 ((hl i).2 hh))
      obtain ⟨r', hp, hk⟩ := allR_all h nd hmem (hready nd hmem hi)
      have := step nd r' hp hi hk Q
      rwa [show unl ops.length (listed.setIfInBounds nd.i true) = u by have := hpos nd.i hi; omega] at this
    · -- what moves slots alone comes first
      obtain ⟨hns, hla⟩ := hN.late nd h1 h2
      obtain ⟨o, k1, k2, k3, k4⟩ := lateAt_spec hla
      have hno := hN.op nd h1
      rw [k1] at hno
      cases hno
      have hil : nd.i < ops.length := (List.getElem?_eq_some_iff.1 k1).1
      have hni : ¬ Lsd listed nd.i := fun hh => hN.out nd h1 ((hl _).1 hh)
      have hall : ∀ e ∈ nd.o.after.toList, Region.binds .any e = true → Lsd listed e.on := fun e he hb => (hl _).2 (by
        have := List.all_eq_true.1 h3 _ (hN.deps2 nd h1 e he hb)
        exact memN_iff.1 this)
      have hi : nd.i ∈ Region.ready .any ops.toArray listed := (ready_mem rfl hs).2 ⟨hil, hni, nd.o, k1, hall⟩
      have hstep := step nd r' h4 hi h5 (fun _ _ _ => False)
      unfold wpOp at hstep
      simp only [List.getElem?_toArray, k1] at hstep
      rw [if_pos (by simp [Region.wanted, k3])] at hstep
      have hwp := hstep.resolve_right (fun h => by
        obtain ⟨_, a, w, hq⟩ := h
        exact hq.elim)
      obtain ⟨v, hy, hK⟩ := slot_yield (ops := ops.toArray) k2 k3 hwp
      rw [hpos nd.i hi]
      refine wpAny_first (by simpa using k1) (fun j oj cs b hj he => ?_) (fun c a w hq => absurd (hQ _ _ _ hq) (by simp)) _ listed a w (fun j oj hj hne hld hw => k4 j oj (by simpa using hj) hne (fun hbit => by
        have hlj := waits hc nd.i j _ k1 hall hbit
        have hlt := (Array.getElem?_eq_some_iff.1 hj).1
        unfold Lsd at hlj
        rw [Array.getD_eq_getD_getElem?, Array.getElem?_eq_getElem (by simp at hlt; omega)] at hlj hld
        simp only [Option.getD_some] at hlj hld
        rw [hlj] at hld
        cases hld) hw) hi hy hK
      have := List.all_eq_true.1 hns oj (by have := List.mem_of_getElem? (show ops[j]? = some oj by simpa using hj); exact this)
      rw [he] at this
      cases this

/-- The nodes of a region. -/
def nodesOf (ops : List Oper) (lates : List Nat) : List ND := ops.zipIdx.map fun x => ⟨x.2, (x.1.after.toList.filter fun e => Region.binds .any e).map (·.on), memN x.2 lates, x.1⟩
theorem NDs.start {lates : List Nat} (h : (lates.all fun i => noSel ops && lateAt ops i) = true) : NDs ops (nodesOf ops lates) [] := by
  have get : ∀ nd ∈ nodesOf ops lates, ∃ i o, ops[i]? = some o ∧ nd = ⟨i, (o.after.toList.filter fun e => Region.binds .any e).map (·.on), memN i lates, o⟩ := by
    intro nd hn
    obtain ⟨⟨o, i⟩, h1, h2⟩ := List.mem_map.1 hn
    rw [List.mem_iff_getElem?] at h1
    obtain ⟨k, h1⟩ := h1
    simp only [List.getElem?_zipIdx, Option.map_eq_some_iff, Prod.mk.injEq, Nat.zero_add] at h1
    obtain ⟨o', h3, rfl, rfl⟩ := h1
    exact ⟨k, o', h3, h2.symm⟩
  refine ⟨fun i hi _ => ⟨_, List.mem_map.2 ⟨(ops[i], i), zipIdx_mem (List.getElem?_eq_getElem hi), rfl⟩, rfl⟩, fun nd hn => ?_, fun nd hn hi => (by cases hi), ?_, fun nd hn d hd => ?_, fun nd hn e he hb => ?_, fun nd hn hl => ?_⟩
  · obtain ⟨i, o, h1, rfl⟩ := get nd hn; exact h1
  · have : (nodesOf ops lates).map (·.i) = List.range ops.length := by
      unfold nodesOf
      rw [List.map_map]
      apply List.ext_getElem?
      intro k
      rcases Nat.lt_or_ge k ops.length with h | h
      · simp [h]
      · simp [h]
    rw [this]
    exact List.nodup_range
  · obtain ⟨i, o, h1, rfl⟩ := get nd hn
    obtain ⟨e, he, rfl⟩ := List.mem_map.1 hd
    rw [List.mem_filter] at he
    exact ⟨e, he.1, he.2, rfl⟩
  · obtain ⟨i, o, h1, rfl⟩ := get nd hn
    exact List.mem_map.2 ⟨e, List.mem_filter.2 ⟨he, hb⟩, rfl⟩
  · obtain ⟨i, o, h1, rfl⟩ := get nd hn
    have := List.all_eq_true.1 h i (memN_iff.1 hl)
    simpa only [Bool.and_eq_true] using this
end
/-- A region that draws, each order by itself; J tells what all of them come to. -/
theorem V.draw {P : Program} {cx : Ctx} {n : Nat} {env : Env} {s : List (Nat × AB)} (hT : TabOK P cx.T) (hm : P.follows .mixedOrders = true) {id : Nat} {ops : Array Oper} {K : Exit → Env → List (Nat × AB) → Prop} (lates : List Nat) (nodes : List ND) (hn : nodes = nodesOf ops.toList lates)
    (hk : (ordOK ops.toList && lates.all fun i => noSel ops.toList && lateAt ops.toList i) = true) (J : Env → List (Nat × AB) → Prop)
    (h : vany P cx env (fun re L s => envK cx.keep re env fun env => tidyK env cx.keep fun env => promK cx.keep n env L s fun env s => ∃ env' s', GV cx n env [] s env' s' ∧ J env' s') nodes.length nodes [] 0 [] [] s)
    (hJ : ∀ env s, J env s → K .normal env s) : V P cx n (.region id ops true) env s K := by
  subst hn
  simp only [Bool.and_eq_true] at hk
  refine .mk fun z a w M F U h0 hC hZ => ?_
  refine wp_mono (Q := fun e a w => e = .normal ∧ QV cx z K .normal a w) (wp_region_any hm ?_) (fun e a w hq => by obtain ⟨rfl, hq⟩ := hq; exact hq)
  have hnone : ∀ i, ¬ Lsd (Array.replicate ops.toList.length false) i := by
    intro i h
    unfold Lsd at h
    rw [Array.getD_eq_getD_getElem?] at h
    rw [Array.getElem?_replicate] at h
    split at h <;> simp at h
  have hX : ∀ U, Ext U w { w with drawn := w.drawn + 1 } := fun U => ⟨rfl, rfl, rfl, Nat.le_refl _, fun _ _ => rfl, fun _ _ => rfl⟩
  have hst : St M F U [] s { w with drawn := w.drawn + 1 } := ⟨fun r ab b hr hm => (hC.st.rb r ab b hr hm).mono (.refl _) (fun _ h => h) (fun b hb => hC.st.FU b hb) (hX U) (fun _ => rfl), hC.st.inj, hC.st.nU, hC.st.nd, hC.st.FU, hC.st.Ult, hC.st.dom, hC.st.tot, hC.st.gdom⟩
  have hSI : SI cx env [] a [] s a { w with drawn := w.drawn + 1 } M F U := ⟨hst, hC.gl.mono (fun _ h => h) (fun b hb => hC.st.FU b hb) (hX U), fun i it hit => (by simp at hit), fun t _ => (hC.env t).mono (.refl _) (fun _ h => h) hC.st.FU (hX U), hC.size, rfl⟩
  have hZ' : Sin z M F U s { w with drawn := w.drawn + 1 } := ⟨hZ.g, hZ.FF, hZ.UU, hZ.Fn, hZ.ext.trans (hX _) (fun _ h => h), hZ.ll, hZ.lg, hZ.ids⟩
  have hu : unl ops.toList.length (Array.replicate ops.toList.length false) = ops.size := by
    unfold unl
    have : ∀ m, (List.range m).countP (fun i => !((Array.replicate ops.toList.length false).getD i false)) = m := by
      intro m
      induction m with
      | zero => rfl
      | succ m ih =>
        rw [List.range_succ, List.countP_append, ih]
        have := hnone m
        unfold Lsd at this
        simp only [Bool.not_eq_true] at this
        simp only [List.countP_cons, List.countP_nil, this, Bool.not_false, if_true]
    rw [this]
    simp
  have := vany_sound (P := P) (cx := cx) (env := env) (a0 := a) (z := z) (Q := fun e a w => e = .normal ∧ QV cx z K .normal a w) (ops := ops.toList) hT hk.1 (fun _ _ _ h => h.1) _ _ [] [] [] s a { w with drawn := w.drawn + 1 } M F U (Array.replicate ops.toList.length false)
    (fun i it hit => by simp at hit) (fun k i hi => by simp at hi) rfl hSI hZ' (NDs.start hk.2) (by simp) (fun i => ⟨fun h => absurd h (hnone i), fun h => by cases h⟩) (fun j o _ h => absurd h (hnone j)) h ?_
  · rw [hu] at this
    simpa using this
  intro its' L' s' a'' w'' M'' F'' U'' hok hK hS hZ2
  rw [envK_eq] at hK
  simp only [tidyK_eq] at hK
  obtain ⟨env2, s2, hg, env3, s3, hg2, hk3⟩ := promK_get rfl hK
  have hCS : CS cx M'' F'' U'' L' s' w'' (envOf cx.keep (reat its' its'.length) env) a'' := ⟨hS.st, hS.gl, fun t => envOf_rv _ (fun e he hg => by
    obtain ⟨j, itj, hji, hitj, hdj, rfl, _⟩ := rlook_reat he
    exact (hS.slot j itj hitj t hdj).1 (by rw [show gsAt its' j itj = [] from hg]; exact trivial)) (fun hn => hS.env t fun i it hit => rlook_none hn i it (List.getElem?_eq_some_iff.1 hit).1 hit), hS.size, hS.defers.trans hC.defers⟩
  obtain ⟨M2, F2, U2, h4, h5⟩ := hg z a'' w'' M'' F'' U'' h0 ⟨hCS.st, hCS.gl, tidyE_rv hCS.env _, hCS.size, hCS.defers⟩ hZ2
  obtain ⟨M3, F3, U3, h6, h7⟩ := hg2 z a'' w'' M2 F2 U2 h0 h4 h5
  exact ⟨rfl, env3, s3, M3, F3, U3, hJ _ _ hk3, h6, h7⟩
/-- The nodes, of a table that a program printed. -/
def mkND : List (Nat × List Nat × Bool) → List Oper → List ND
  | (i, d, l) :: r, o :: os => ⟨i, d, l, o⟩ :: mkND r os
  | _, _ => []
def spLate : List (Nat × List Nat × Bool) → List Nat
  | [] => []
  | (i, _, true) :: r => i :: spLate r
  | (_, _, false) :: r => spLate r
def regionsOf : Code → List (Nat × List Oper)
  | .region id ops _ => [(id, ops.toList)]
  | .seq a b => regionsOf a ++ regionsOf b
  | .cond _ a b => regionsOf a ++ regionsOf b
  | .block _ c => regionsOf c
  | .loop c => regionsOf c
  | .rangeFunc _ _ a b => regionsOf a ++ regionsOf b
  | .scope c => regionsOf c
  | _ => []
def findReg : List (Nat × List Oper) → Nat → List Oper
  | [], _ => []
  | (i, l) :: r, x => match Nat.beq i x with
    | true => l
    | false => findReg r x
def specOf (ops : List Oper) : List (Nat × List Nat × Bool) := ops.zipIdx.map fun x => (x.2, (x.1.after.toList.filter fun e => Region.binds .any e).map (·.on), noSel ops && lateAt ops x.2)
theorem V.drawS {P : Program} {cx : Ctx} {n : Nat} {env : Env} {s : List (Nat × AB)} (hT : TabOK P cx.T) (hm : P.follows .mixedOrders = true) {id : Nat} {ops : Array Oper} {K : Exit → Env → List (Nat × AB) → Prop} (sp : List (Nat × List Nat × Bool)) (hn : mkND sp ops.toList = nodesOf ops.toList (spLate sp))
    (hk : (ordOK ops.toList && (spLate sp).all fun i => noSel ops.toList && lateAt ops.toList i) = true) (J : Env → List (Nat × AB) → Prop)
    (h : fND (mkND sp ops.toList) fun nodes => vany P cx env (fun re L s => envK cx.keep re env fun env => tidyK env cx.keep fun env => promK cx.keep n env L s fun env s => ∃ env' s', GV cx n env [] s env' s' ∧ J env' s') nodes.length nodes [] 0 [] [] s)
    (hJ : ∀ env s, J env s → K .normal env s) : V P cx n (.region id ops true) env s K := by
  rw [fND_eq] at h
  exact V.draw hT hm (spLate sp) _ hn hk J h hJ
end Go.Pv
